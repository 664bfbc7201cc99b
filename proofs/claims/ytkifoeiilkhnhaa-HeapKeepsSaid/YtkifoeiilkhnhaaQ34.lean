import Derived.Test.YtkifoeiilkhnhaaQ33

/-
  The pager: Commit, a crash, Open, on what lies there.
-/

namespace Go.Proofs
open Go.PW
theorem scan_no (t : Nat) : ∀ (k i : Nat) (x : Sc), scanK (fun _ => none) t k i x = x
  | 0, _, _ => rfl
  | _ + 1, _, _ => rfl
/-- A new disk has nothing of a log. -/
theorem op_new {N f n : Nat} (h1 : 4 ≤ n) (h2 : n ≤ 1000) (h3 : f + n ≤ N) (h4 : N ≤ 4096) : OpAt (newD N) f n 0 0 0 0 (fun _ => none) :=
  ⟨h1, h2, h3, h4, by show 0 + 1 ≤ _; omega, fun i _ => by rw [rd_new, zeros_len]; omega, by rw [rd_new]; exact tell_zeros, by rw [rd_new]; exact tell_zeros, fun i _ => by rw [rd_new]; exact at_zeros i⟩
theorem opL_new (f n : Nat) : opL f n 0 0 0 0 (fun _ => none) = ⟨f, n - 2, 1, 0, 0, [], false⟩ := by
  unfold opL opX
  rw [scan_no]; rfl
section px
variable {H : HMap} {A : AMap} {k did pid lid : Nat} {κm κc κr κp : Tok} {N logs T : Nat} {d : Dk} {l : Lg} {p : Pg} {ch : List (Int × List UInt8)} {b : Nat → List UInt8}
theorem PSt.commit (h : PSt N logs T d l p) (hb : ∀ j, j < N - logs → rd d ((logs + j : Nat) : Int) = b j) (hT : T < 1000000) (hfit : needN (recK p.ch (N - logs)).length ≤ logs - 2) :
    PSt N logs (T + 1) (cmD d l p (recK p.ch (pgN d p))) { l with turn := l.turn + 1, base := l.turn + 1, used := 0, recs := [] } { p with ch := [] } ∧ ∀ j, j < N - logs → rd (cmD d l p (recK p.ch (pgN d p))) ((logs + j : Nat) : Int) = ct b p.ch j := by
  obtain ⟨n1, n2, n3, n4, n5, n6, n7, n8, m1, m2, m3, m4, m5, m6, _⟩ := h.num
  obtain ⟨B, S, hp⟩ := h.pi
  have hpl := partsL_len (recK p.ch (N - logs))
  have hp1 := h.p1
  have e : cmD d l p (recK p.ch (pgN d p)) = nextD (flD (homeD (flD (apD l (recK p.ch (N - logs)) (partsL (recK p.ch (N - logs))).length (partsL (recK p.ch (N - logs))) d (partsL (recK p.ch (N - logs))).length)) logs p.ch (N - logs))) 0 (T + 1) (T + 1) := by
    unfold cmD
    rw [n7, m1, m3, hp1]
  have p1 := hp.append (l := l) m1 m3 (by rw [m4]; rfl) (by rw [n8]; rfl) (recK p.ch (N - logs)) (by rw [m4]; omega) (partsL (recK p.ch (N - logs))).length (Nat.le_refl _)
  have hac := (apD_spec l (recK p.ch (N - logs)) (partsL (recK p.ch (N - logs))).length (partsL (recK p.ch (N - logs))) d (partsL (recK p.ch (N - logs))).length)
  have hr : ∀ (t : Nat) (s : List UInt8), (pcs [(t, s)]).length = (partsL s).length := fun t s => by
    show (pcsR t s ++ []).length = _
    rw [List.append_nil]
    unfold pcsR
    rw [pcK_len]
  obtain ⟨R1, p2⟩ := p1.commit (by rw [hac.2.1, n8]; show 0 + _ = _; rw [List.nil_append, hr, Nat.zero_add])
  have rap : ∀ j : Nat, rd (apD l (recK p.ch (N - logs)) (partsL (recK p.ch (N - logs))).length (partsL (recK p.ch (N - logs))) d (partsL (recK p.ch (N - logs))).length) ((logs + j : Nat) : Int) = rd d ((logs + j : Nat) : Int) := fun j => rd_ap fun i hi => by rw [m1, m4]; omega
  have rfl2 := rd_fl (ap_g hp.g l (recK p.ch (N - logs)) (partsL (recK p.ch (N - logs))).length (partsL (recK p.ch (N - logs))) (partsL (recK p.ch (N - logs))).length)
  have hfu2 : (flD (apD l (recK p.ch (N - logs)) (partsL (recK p.ch (N - logs))).length (partsL (recK p.ch (N - logs))) d (partsL (recK p.ch (N - logs))).length)).fused = false := hac.2.2.1.trans h.fu
  generalize apD l (recK p.ch (N - logs)) (partsL (recK p.ch (N - logs))).length (partsL (recK p.ch (N - logs))) d (partsL (recK p.ch (N - logs))).length = d1 at *
  have p3 := p2.home (logs := logs) (K := N - logs) (m := p.ch) h.ks.find (by omega)
  have hg3 := home_g p2.g logs p.ch (N - logs)
  obtain ⟨R2, p4⟩ := p3.reset hT
  have hrd : ∀ j, j < N - logs → rd (cmD d l p (recK p.ch (pgN d p))) ((logs + j : Nat) : Int) = ct b p.ch j := fun j hj => by
    rw [e]
    show rd (flD (wrD _ _ _)) _ = _
    rw [rd_fl (hg3.fl.wr _ _), rd_wr, if_neg (by omega), rd_fl hg3, rd_home_in hj]
    unfold ct
    cases hv : valR (j : Int) p.ch with
    | none =>
      show rd (flD d1) _ = _
      rw [rfl2, rap j]; exact hb j hj
    | some s => exact pad_full (h.ks.len _ (valR_mem hv))
  refine ⟨⟨⟨T + 1, R2, by rw [e]; exact p4⟩, ⟨T + 1, ?_⟩, ?_, hp1, h.p2, KsOK.nil _, fun j hj => ?_, h.big⟩, hrd⟩
  · obtain ⟨b', hl⟩ := h.lg
    rw [hl]
  · rw [e]
    show (homeD (flD d1) logs p.ch (N - logs)).fused = false
    rw [homeD_fused]; exact hfu2
  · rw [hrd j hj, ← h.cts hb j hj]; exact h.len j hj
theorem Try.pCommit (off : Nat) (h : PX H A k did pid N logs T ch b) (hk : k + 4 ≤ off) (hT : T < 1000000) (hne : ch ≠ []) (hs : (recK ch (N - logs)).length ≤ 5000) (hfit : needN (recK ch (N - logs)).length ≤ logs - 2) :
    PSO off Try.prog 21 H A [.c (.ptr pid 0)] (pD (.lit (.int .i64 0))) (k + 3) did pid N logs (T + 1) [] (ct b ch) := by
  obtain ⟨lid, κm, κc, κr, κp, d, l, p, hx, rfl, hb⟩ := h
  obtain ⟨n1, n2, n3, n4, n5, n6, n7, n8, m1, m2, m3, m4, m5, m6, m7⟩ := hx.st.num
  obtain ⟨q1, q2, q3, q4, q5, q6, q7, q8, q9⟩ := hx.kp
  obtain ⟨st', hrd⟩ := hx.st.commit hb hT hfit
  have hle := hx.st.ks.le
  have hn := hx.lw.ne
  obtain ⟨H', A', e, L', g', pg', fH, fA, kH, kA⟩ := Try.tCommitP off hx.lw hk hx.pg hx.st.p2 hne hx.lg m6 (by rw [hx.st.p1]; omega) (by omega) (by omega) (by omega) (by rw [m5]; exact Nat.zero_le _) hx.st.fu (by omega) hx.st.ks.find (by rw [n7]; exact hs) (by rw [n7, m4, m2]; omega) (by omega) (by omega) (by omega) hx.ne q2
  rw [n7, hx.st.ks.gone] at pg'
  refine ⟨H', A', e, ⟨lid, κm, (k + 2, 0), (k + 2, 1), κp, _, _, _, ⟨L', g', pg', hx.ne, st', fun j hj => ⟨?_, fun q => ?_⟩⟩, rfl, hrd⟩, kH, kA⟩
  · rw [fH j (by omega) (by omega)]; exact (hx.lo j hj).1
  · rw [fA _ (tok_ne (by show j ≠ κm.1; omega)) (tok_ne (by show j ≠ κc.1; omega)) (tok_ne (by show j ≠ κr.1; omega)) (tok_ne (by show j ≠ κp.1; omega)) (by show j < k; omega)]
    exact (hx.lo j hj).2 q
theorem Try.pCommit0 (off : Nat) (h : PX H A k did pid N logs T ch b) (hne : ch = []) : EffOK Try.prog 21 off H A [.c (.ptr pid 0)] (pD (.lit (.int .i64 0))) H A := by
  obtain ⟨lid, κm, κc, κr, κp, d, l, p, hx, rfl, hb⟩ := h
  exact Try.kPgCommit0 off hx.lw.wf hx.pg hx.st.p2 hne
theorem Try.pCommitB (off : Nat) (h : PX H A k did pid N logs T ch b) (hne : ch ≠ []) (hs : (recK ch (N - logs)).length ≤ 100000) (hfit : ¬ needN (recK ch (N - logs)).length ≤ logs - 2) : EffOK Try.prog 21 off H A [.c (.ptr pid 0)] (pD (.lit (.int .i64 3))) H A := by
  obtain ⟨lid, κm, κc, κr, κp, d, l, p, hx, rfl, hb⟩ := h
  obtain ⟨n1, n2, n3, n4, n5, n6, n7, n8, m1, m2, m3, m4, m5, m6, m7⟩ := hx.st.num
  have hle := hx.st.ks.le
  exact Try.kPgCommitB off hx.lw.wf hx.pg hx.st.p2 hne hx.lw.dk (by rw [hx.st.p1]; omega) (by omega) hx.lg (by rw [n7, m4, m2]; omega) (by omega) (by omega) (by omega) hx.st.ks.find (by rw [n7]; exact hs)
/-- A disk that is ready to be opened. -/
def DX (H : HMap) (A : AMap) (k did N logs T : Nat) (b : Nat → List UInt8) : Prop :=
  ∃ κm κc d t0 b0 t1 b1 R B, LW H A k did κm κc d ∧ OpAt d 0 logs t0 b0 t1 b1 R ∧ opL 0 logs t0 b0 t1 b1 R = ⟨0, logs - 2, T + 1, B, 0, [], false⟩ ∧ (∃ S, PI (nextD d 0 (opT t0 t1 + 1) (opB t0 b0 t1 b1)) 0 logs N (T + 1) B [] [] S) ∧
    d.fused = false ∧ DkG d ∧ (N ≤ logs + 1024 ∧ logs < N) ∧ (∀ j, j < N - logs → rd d ((logs + j : Nat) : Int) = b j ∧ (b j).length = 128) ∧ ∀ j, j < 200 → H j = none ∧ ∀ q, A (j, q) = none
theorem Try.pCrash (off : Nat) (h : PX H A k did pid N logs T ch b) (hT : T < 1000000) : ∃ H' A', EffOK Try.prog 22 off H A [.c (.ptr did 0), .c (.d (.sl []))] (pD (.lit (.int .i64 0))) H' A' ∧ DX H' A' (k + 1) did N logs T b := by
  obtain ⟨lid, κm, κc, κr, κp, d, l, p, hx, rfl, hb⟩ := h
  obtain ⟨n1, n2, n3, n4, n5, n6, n7, n8, m1, m2, m3, m4, m5, m6, m7⟩ := hx.st.num
  obtain ⟨q1, q2, q3, q4, q5, q6, q7, q8, q9⟩ := hx.kp
  obtain ⟨B, S, hp⟩ := hx.st.pi
  have hn := hx.lw.ne
  obtain ⟨H', A', e, L', _, fH, fA, _⟩ := Try.tCrash off hx.lw (by omega) (by omega) [] (Nat.zero_le _)
  obtain ⟨t0, b0, t1, b1, R, m, c1, c2, c3, _, c5, c6⟩ := hp.crash hT []
  rw [List.take_nil, List.append_nil] at c5 c6
  have hrd : ∀ j, rd (crD d []) j = rd d j := fun j => by
    rw [rd_cr hp.g, show keptL d.cache [] = [] by unfold keptL; simp, rd_eq, hx.st.cache]
  refine ⟨H', A', e, κm, (k, 0), crD d [], t0, b0, t1, b1, R, B, L', c1, c5, ⟨R, by rw [c2, c3]; exact c6⟩, rfl, hp.g.cr [], hx.st.big, fun j hj => ?_, fun j hj => ⟨?_, fun q => ?_⟩⟩
  · rw [hrd, hb j hj]
    exact ⟨rfl, by rw [← hb j hj]; exact hx.st.sec j hj⟩
  · rw [fH j (by omega)]; exact (hx.lo j hj).1
  · rw [fA _ (tok_ne (by show j ≠ κm.1; omega)) (by show j < k; omega)]
    exact (hx.lo j hj).2 q
/-- A new disk. -/
theorem DX.new {κm κc : Tok} (hL : LW H A k did κm κc (newD N)) (h1 : 4 ≤ logs) (h2 : logs ≤ 1000) (h3 : logs < N) (h4 : N ≤ 4096) (h5 : N ≤ logs + 1024) (lo : ∀ j, j < 200 → H j = none ∧ ∀ q, A (j, q) = none) : DX H A k did N logs 0 (fun _ => zeros) :=
  ⟨κm, κc, newD N, 0, 0, 0, 0, _, 0, hL, op_new h1 h2 (by omega) h4, opL_new _ _, ⟨_, PI.fresh h1 h2 (by omega) h4⟩, rfl, DkG_new N, ⟨h5, h3⟩, fun j _ => ⟨rd_new _ _, zeros_len⟩, lo⟩
theorem Try.pOpen (off : Nat) (h : DX H A k did N logs T b) (hk : k + 2 ≤ off) : ∃ H' A', EffOK Try.prog 20 off H A [.c (.ptr did 0), pD (.lit (.int .i64 logs))] (.tup [.c (.ptr (k + 1) 0), .c (.d (.lit (.int .i64 0)))]) H' A' ∧ PX H' A' (k + 2) did (k + 1) N logs (T + 1) [] b := by
  obtain ⟨κm, κc, d, t0, b0, t1, b1, R, B, L, ho, el, ⟨S, hp⟩, hf, hg, hbig, hb, lo⟩ := h
  have hdn : d.n = N := hp.dn
  have hn := L.ne
  obtain ⟨H', A', e, L', g', pg', fH, fA⟩ := Try.tOpenP off L hk ho (by omega) (by omega) hf (by rw [el])
  have hm2 : 200 ≤ κm.1 := Nat.le_of_not_lt fun h => by have := L.dk.m; rw [(lo _ h).2 κm.2] at this; cases this
  have hc2 : 200 ≤ κc.1 := Nat.le_of_not_lt fun h => by have := L.dk.c; rw [(lo _ h).2 κc.2] at this; cases this
  have hd2 : 200 ≤ did := Nat.le_of_not_lt fun h => by have := L.dk.h; rw [(lo _ h).1] at this; cases this
  rw [el] at g'
  have hrd : ∀ j, j < N - logs → rd (nextD d 0 (opT t0 t1 + 1) (opB t0 b0 t1 b1)) ((logs + j : Nat) : Int) = b j := fun j hj => by
    have h1 := ho.n1
    show rd (flD (wrD _ _ _)) _ = _
    rw [rd_fl (hg.wr _ _), rd_wr, if_neg (by omega)]
    exact (hb j hj).1
  refine ⟨H', A', e, k, κm, (k, 1), (k, 0), (k + 1, 0), _, _, _, ⟨L', g', pg', tok_ne (by show k + 1 ≠ κm.1; omega), ⟨⟨B, S, hp⟩, ⟨B, rfl⟩, hf, rfl, rfl, KsOK.nil _, fun j hj => ?_, hbig⟩, fun j hj => ⟨?_, fun q => ?_⟩⟩, rfl, hrd⟩
  · rw [hrd j hj]; exact (hb j hj).2
  · rw [fH j (by omega) (by omega) (by omega)]; exact (lo j hj).1
  · rw [fA _ (tok_ne (by show j ≠ κm.1; omega)) (tok_ne (by show j ≠ κc.1; omega)) (by show j < k; omega)]
    exact (lo j hj).2 q
end px
end Go.Proofs

/-
  Bits of page 0: what turning one makes of the others; counting.
-/

namespace Go.Proofs
open Go.PW
theorem bit_all : ((List.range 256).all fun x => (List.range 8).all fun a => (List.range 8).all fun b => (iAnd .u8 (iXor .u8 (x : Nat) (iShl .u8 1 b)) (iShl .u8 1 a) == 0) == (if a = b then !(iAnd .u8 (x : Nat) (iShl .u8 1 a) == 0) else (iAnd .u8 (x : Nat) (iShl .u8 1 a) == 0))) = true := by decide +kernel
theorem bit_turn {x a b : Nat} (hx : x < 256) (ha : a < 8) (hb : b < 8) : (iAnd .u8 (iXor .u8 (x : Nat) (iShl .u8 1 b)) (iShl .u8 1 a) == 0) = (if a = b then !(iAnd .u8 (x : Nat) (iShl .u8 1 a) == 0) else (iAnd .u8 (x : Nat) (iShl .u8 1 a) == 0)) :=
  eq_of_beq (List.all_eq_true.1 (List.all_eq_true.1 (List.all_eq_true.1 bit_all x (List.mem_range.2 hx)) a (List.mem_range.2 ha)) b (List.mem_range.2 hb))
theorem xor_u8 (m n : Int) : ((UInt8.ofNat (iXor .u8 m n).toNat).toNat : Int) = iXor .u8 m n := by
  have h := u8_wrap_range (BitVec.ofInt IntKind.u8.bits m ^^^ BitVec.ofInt IntKind.u8.bits n).toNat
  rw [UInt8.toNat_ofNat', Nat.mod_eq_of_lt (by unfold iXor; omega)]
  unfold iXor
  omega
theorem free_flip {s : List UInt8} {q j : Nat} (hq : q / 8 < s.length) (hj : j / 8 < s.length) : freeB (flipB s q) j = if j = q then !freeB s q else freeB s j := by
  unfold freeB flipB
  rw [List.getD_eq_getElem?_getD, List.getD_eq_getElem?_getD, List.getD_eq_getElem?_getD, List.getElem?_set]
  by_cases e : q / 8 = j / 8
  · rw [if_pos e, if_pos hq, ← e, List.getElem?_eq_getElem hq]
    simp only [Option.getD_some]
    rw [xor_u8]
    have hx : s[q / 8].toNat < 256 := s[q / 8].toNat_lt
    unfold bitV
    rw [bit_turn hx (Nat.mod_lt _ (by omega)) (Nat.mod_lt _ (by omega))]
    by_cases e2 : j = q
    · subst e2
      rw [if_pos rfl, if_pos rfl]
    · rw [if_neg (by omega), if_neg e2]
  · rw [if_neg e, List.getElem?_eq_getElem hj, if_neg (by intro h; exact e (by rw [h]))]
theorem isF_flip {s : List UInt8} {q j : Nat} (h0 : q ≠ 0) (hq : q / 8 < s.length) (hj : j / 8 < s.length) : isF (flipB s q) j = if j = q then !isF s q else isF s j := by
  unfold isF
  rw [free_flip hq hj]
  by_cases e : j = q
  · subst e
    have : (j != 0) = true := by simpa using h0
    rw [if_pos rfl, if_pos rfl, this]; rfl
  · rw [if_neg e, if_neg e]
/-- How many of the first ones are not set. -/
def cntF (l : List Bool) : Nat → Nat
  | 0 => 0
  | k + 1 => cntF l k + if l.getD k true = false then 1 else 0
theorem cntF_le (l : List Bool) : ∀ k, cntF l k ≤ k
  | 0 => Nat.le_refl _
  | k + 1 => by
    have := cntF_le l k
    unfold cntF
    split <;> omega
theorem frees_cnt {s : List UInt8} {l : List Bool} : ∀ {k : Nat}, (∀ j, j < k → isF s j = !l.getD j true) → freesK s k = cntF l k
  | 0, _ => rfl
  | k + 1, h => by
    have ih := frees_cnt (s := s) (l := l) (k := k) (fun j hj => h j (by omega))
    have hk := h k (by omega)
    unfold freesK cntF
    rw [ih]
    congr 1
    unfold isF at hk
    cases hl : l.getD k true with
    | true =>
      rw [hl] at hk
      simp only [Bool.not_true, Bool.and_eq_false_iff] at hk
      rw [if_neg, if_neg (by simp)]
      rintro ⟨h1, h2⟩
      rcases hk with hk | hk
      · simp at hk; exact h1 hk
      · rw [h2] at hk; cases hk
    | false =>
      rw [hl] at hk
      simp only [Bool.not_false, Bool.and_eq_true] at hk
      rw [if_pos, if_pos rfl]
      exact ⟨by simpa using hk.1, hk.2⟩
theorem free_zeros (j : Nat) : freeB zeros j = true := by
  unfold freeB
  have e : zeros.getD (j / 8) 0 = 0 := by
    unfold zeros
    rw [List.getD_eq_getElem?_getD, List.getElem?_replicate]
    split <;> rfl
  rw [e]
  have h : ∀ x : Int, iAnd .u8 ((0 : UInt8).toNat : Nat) x = 0 := fun x => by
    unfold iAnd
    have : BitVec.ofInt IntKind.u8.bits (((0 : UInt8).toNat : Nat) : Int) = 0#_ := by decide
    rw [this, BitVec.zero_and]
    decide
  rw [h]; rfl
theorem isF_zeros (j : Nat) : isF zeros j = (j != 0) := by
  unfold isF
  rw [free_zeros, Bool.and_true]
theorem bools_set (l : List Bool) (i : Nat) (b : Bool) : (bools l).set i [.lit (.bool b)] = bools (l.set i b) := by
  unfold bools
  rw [List.map_set]
theorem bools_len (l : List Bool) : (bools l).length = l.length := by simp [bools]
theorem bools_get {l : List Bool} {i : Nat} (h : i < l.length) : (bools l)[i]? = some [.lit (.bool (l.getD i true))] := by
  unfold bools
  rw [List.getElem?_map, List.getElem?_eq_getElem h, List.getD_eq_getElem?_getD, List.getElem?_eq_getElem h]; rfl
theorem bools_rep (n : Nat) (b : Bool) : List.replicate n [D.lit (.bool b)] = bools (List.replicate n b) := by
  unfold bools
  rw [List.map_replicate]
theorem getD_set {l : List Bool} {i j : Nat} {b : Bool} (h : i < l.length) : (l.set i b).getD j true = if j = i then b else l.getD j true := by
  rw [List.getD_eq_getElem?_getD, List.getD_eq_getElem?_getD, List.getElem?_set]
  by_cases e : i = j
  · rw [if_pos e, if_pos h, if_pos e.symm]; rfl
  · rw [if_neg e, if_neg (Ne.symm e)]
end Go.Proofs

/-
  The heap: what its calls come to, on lists of pages.
-/

namespace Go.Proofs
open Go.PW
/-- A page of a list. -/
def pgAt (gs : List (List UInt8)) (j : Nat) : List UInt8 := gs.getD j []
theorem pgAt_set (gs : List (List UInt8)) (i : Nat) (s : List UInt8) (j : Nat) (hi : i < gs.length) : pgAt (gs.set i s) j = if i = j then s else pgAt gs j := by
  unfold pgAt
  rw [List.getD_eq_getElem?_getD, List.getD_eq_getElem?_getD, List.getElem?_set]
  by_cases e : i = j
  · rw [if_pos e, if_pos hi, if_pos e]; rfl
  · rw [if_neg e, if_neg e]
def isFG (gs : List (List UInt8)) (j : Nat) : Bool := isF (pgAt gs 0) j
def frG (gs : List (List UInt8)) : Nat := freesK (pgAt gs 0) gs.length
/-- The first page that is free, of so many. -/
def firstK (s : List UInt8) : Nat → Option Nat
  | 0 => none
  | k + 1 => match firstK s k with
    | some q => some q
    | none => if isF s k = true then some k else none
def firstQ (s : List UInt8) (n : Nat) : Nat := (firstK s n).getD 0
def allocG (gs : List (List UInt8)) (q : Nat) : List (List UInt8) := (gs.set 0 (flipB (pgAt gs 0) q)).set q zeros
def allocStep (x : List Nat × List (List UInt8)) : List Nat × List (List UInt8) := (x.1 ++ [firstQ (pgAt x.2 0) x.2.length], allocG x.2 (firstQ (pgAt x.2 0) x.2.length))
def allocsG (gs : List (List UInt8)) : Nat → List Nat × List (List UInt8)
  | 0 => ([], gs)
  | i + 1 => allocStep (allocsG gs i)
def two (n : Nat) : List UInt8 := [UInt8.ofNat (n / 256), UInt8.ofNat (n % 256)]
def numB (a b : UInt8) : Nat := 256 * a.toNat + b.toNat
theorem num_two {n : Nat} (h : n < 65536) : numB (UInt8.ofNat (n / 256)) (UInt8.ofNat (n % 256)) = n := by
  unfold numB
  rw [UInt8.toNat_ofNat', UInt8.toNat_ofNat', Nat.mod_eq_of_lt (by omega), Nat.mod_eq_of_lt (by omega)]
  omega
def cell (nx : Nat) (l : List UInt8) : List UInt8 := two nx ++ (UInt8.ofNat l.length :: l)
def need (n : Nat) : Nat := max 1 ((n + 124) / 125)
def partH (s : List UInt8) (i : Nat) : List UInt8 := (s.drop (125 * i)).take 125
def writesG (gs : List (List UInt8)) (ids : List Nat) (s : List UInt8) : Nat → List (List UInt8)
  | 0 => gs
  | i + 1 => (writesG gs ids s i).set (ids.getD i 0) (pad (cell (ids.getD (i + 1) 0) (partH s i)))
/-- Put: the id, the error, the pages. -/
def putG (gs : List (List UInt8)) (s : List UInt8) : Nat × Int × List (List UInt8) :=
  if 100000 < s.length then (0, 19, gs) else if frG gs < need s.length then (0, 3, gs)
  else ((allocsG gs (need s.length)).1.getD 0 0, 0, writesG (allocsG gs (need s.length)).2 (allocsG gs (need s.length)).1 s (need s.length))
def isRec (gs : List (List UInt8)) (j : Int) : Bool := decide (2 ≤ j) && (decide (j < (gs.length : Int)) && !isFG gs j.toNat)
def nextOf (t : List UInt8) : Nat := numB (t.getD 0 0) (t.getD 1 0)
def lenOf (t : List UInt8) : Nat := (t.getD 2 0).toNat
def rowK (gs : List (List UInt8)) : Nat → Nat → List Nat → List UInt8 → List Nat × List UInt8 × Int
  | 0, _, _, _ => ([], [], 7)
  | f + 1, at_, pages, s => if at_ = 0 then (pages, s, 0) else if isRec gs (at_ : Nat) = false ∨ gs.length < pages.length then ([], [], 7)
    else if 125 < lenOf (pgAt gs at_) ∨ (0 < nextOf (pgAt gs at_) ∧ lenOf (pgAt gs at_) < 125) then ([], [], 7)
    else rowK gs f (nextOf (pgAt gs at_)) (pages ++ [at_]) (s ++ ((pgAt gs at_).drop 3).take (lenOf (pgAt gs at_)))
def rowG (gs : List (List UInt8)) (id : Int) : List Nat × List UInt8 × Int := if isRec gs id = false then ([], [], 4) else rowK gs (gs.length + 3) id.toNat [] []
def freeG (gs : List (List UInt8)) (q : Nat) : List (List UInt8) := if isFG gs q = true then gs else gs.set 0 (flipB (pgAt gs 0) q)
def freesG (gs : List (List UInt8)) (l : List Nat) : List (List UInt8) := l.foldl freeG gs
def dropG (gs : List (List UInt8)) (id : Int) : List (List UInt8) := freesG gs (rowG gs id).1
def rootG (gs : List (List UInt8)) : Nat := numB ((pgAt gs 1).getD 1 0) ((pgAt gs 1).getD 2 0)
def setRootG (gs : List (List UInt8)) (s : List UInt8) : Int × List (List UInt8) :=
  if (putG gs s).2.1 ≠ 0 then ((putG gs s).2.1, (putG gs s).2.2) else (0, (dropG (putG gs s).2.2 (rootG (putG gs s).2.2)).set 1 (pad (82 :: two (putG gs s).1)))
/-- Pages are right. -/
structure GOK (gs : List (List UInt8)) : Prop where
  two : 2 ≤ gs.length
  big : gs.length ≤ 1024
  len : ∀ j, j < gs.length → (pgAt gs j).length = 128
/-- Page 0 has a bit for each page. -/
theorem GOK.bit {gs : List (List UInt8)} (h : GOK gs) {j : Nat} (hj : j < gs.length) : j / 8 < (pgAt gs 0).length := by
  have := h.two
  have := h.big
  rw [h.len 0 (by omega)]
  omega
theorem GOK.set {gs : List (List UInt8)} (h : GOK gs) {j : Nat} {s : List UInt8} (hj : j < gs.length) (hs : s.length = 128) : GOK (gs.set j s) := by
  refine ⟨by rw [List.length_set]; exact h.two, by rw [List.length_set]; exact h.big, fun i hi => ?_⟩
  rw [List.length_set] at hi
  rw [pgAt_set _ _ _ _ hj]
  split
  · exact hs
  · exact h.len i hi
theorem isF_pos {s : List UInt8} {j : Nat} (h : isF s j = true) : j ≠ 0 ∧ freeB s j = true := by
  unfold isF at h
  simpa using h
theorem firstK_some {s : List UInt8} {q : Nat} : ∀ {n : Nat}, firstK s n = some q → isF s q = true ∧ q < n ∧ ∀ i, i < q → isF s i = false
  | 0, h => by cases h
  | n + 1, h => by
    unfold firstK at h
    cases hk : firstK s n with
    | some q' =>
      rw [hk] at h
      cases h
      obtain ⟨h1, h2, h3⟩ := firstK_some hk
      exact ⟨h1, by omega, h3⟩
    | none =>
      rw [hk] at h
      simp only at h
      split at h
      · next hf =>
        cases h
        refine ⟨hf, by omega, fun i hi => ?_⟩
        cases hi2 : isF s i with
        | false => rfl
        | true => exact (firstK_none hk i hi hi2).elim
      · cases h
where
  firstK_none {s : List UInt8} : ∀ {n : Nat}, firstK s n = none → ∀ i, i < n → isF s i = true → False
  | 0, _, i, hi, _ => by omega
  | n + 1, h, i, hi, hf => by
    unfold firstK at h
    cases hk : firstK s n with
    | some q' => rw [hk] at h; cases h
    | none =>
      rw [hk] at h
      simp only at h
      by_cases e : i = n
      · subst e
        rw [if_pos hf] at h; cases h
      · exact firstK_none hk i (by omega) hf
/-- Free pages, counted. -/
def cntP (p : Nat → Bool) : Nat → Nat
  | 0 => 0
  | k + 1 => cntP p k + if p k = true then 1 else 0
theorem freesK_cnt (s : List UInt8) : ∀ n, freesK s n = cntP (isF s) n
  | 0 => rfl
  | n + 1 => by
    unfold freesK cntP
    rw [freesK_cnt s n]
    congr 1
    unfold isF
    simp
theorem cntP_same {p r : Nat → Bool} : ∀ {n : Nat}, (∀ j, j < n → p j = r j) → cntP p n = cntP r n
  | 0, _ => rfl
  | n + 1, h => by
    unfold cntP
    rw [cntP_same (n := n) (fun j hj => h j (by omega)), h n (by omega)]
/-- One less. -/
theorem cntP_less {p r : Nat → Bool} {q : Nat} (hp : p q = true) (hr : r q = false) : ∀ {n : Nat}, q < n → (∀ j, j < n → j ≠ q → p j = r j) → cntP p n = cntP r n + 1
  | 0, h, _ => by omega
  | n + 1, hq, h => by
    unfold cntP
    by_cases e : q = n
    · subst e
      rw [cntP_same (n := q) (p := p) (r := r) (fun j hj => h j (by omega) (by omega)), hp, hr]
      simp
    · rw [cntP_less hp hr (n := n) (by omega) (fun j hj => h j (by omega)), h n (by omega) (Ne.symm e)]
      omega
theorem cntP_pos {p : Nat → Bool} : ∀ {n : Nat}, 0 < cntP p n → ∃ j, j < n ∧ p j = true
  | 0, h => by unfold cntP at h; omega
  | n + 1, h => by
    by_cases e : p n = true
    · exact ⟨n, by omega, e⟩
    · unfold cntP at h
      rw [if_neg e] at h
      obtain ⟨j, h1, h2⟩ := cntP_pos (n := n) (by omega)
      exact ⟨j, by omega, h2⟩
theorem frG_cnt (gs : List (List UInt8)) : frG gs = cntP (isFG gs) gs.length := freesK_cnt _ _
theorem firstQ_ok {gs : List (List UInt8)} (h : 0 < frG gs) : isFG gs (firstQ (pgAt gs 0) gs.length) = true ∧ firstQ (pgAt gs 0) gs.length < gs.length ∧ ∀ i, i < firstQ (pgAt gs 0) gs.length → isFG gs i = false := by
  rw [frG_cnt] at h
  obtain ⟨j, h1, h2⟩ := cntP_pos h
  unfold firstQ
  cases hk : firstK (pgAt gs 0) gs.length with
  | none => exact (firstK_some.firstK_none hk j h1 h2).elim
  | some q =>
    obtain ⟨a, b, c⟩ := firstK_some hk
    exact ⟨a, b, c⟩
theorem isFG_set {gs : List (List UInt8)} {j : Nat} {s : List UInt8} (h0 : j ≠ 0) (hj : j < gs.length) (i : Nat) : isFG (gs.set j s) i = isFG gs i := by
  unfold isFG
  rw [pgAt_set _ _ _ _ hj, if_neg h0]
theorem isFG_flip {gs : List (List UInt8)} (h : GOK gs) {q i : Nat} (h0 : q ≠ 0) (hq : q < gs.length) (hi : i < gs.length) : isFG (gs.set 0 (flipB (pgAt gs 0) q)) i = if i = q then !isFG gs q else isFG gs i := by
  unfold isFG
  have := h.two
  rw [pgAt_set _ _ _ _ (by omega), if_pos rfl, isF_flip h0 (h.bit hq) (h.bit hi)]
theorem GOK.flip {gs : List (List UInt8)} (h : GOK gs) (q : Nat) : GOK (gs.set 0 (flipB (pgAt gs 0) q)) :=
  h.set (by have := h.two; omega) (by rw [flipB_len]; exact h.len 0 (by have := h.two; omega))
/-- What taking a page into use comes to. -/
structure Took (gs gs' : List (List UInt8)) (q : Nat) : Prop where
  ok : GOK gs'
  len : gs'.length = gs.length
  lt : q < gs.length
  ne : q ≠ 0
  was : isFG gs q = true
  now : isFG gs' q = false
  bit : ∀ i, i < gs.length → i ≠ q → isFG gs' i = isFG gs i
  pg : ∀ i, i ≠ 0 → i ≠ q → pgAt gs' i = pgAt gs i
  zero : pgAt gs' q = zeros
  cnt : frG gs = frG gs' + 1
theorem allocG_took {gs : List (List UInt8)} (h : GOK gs) {q : Nat} (hf : isFG gs q = true) (hq : q < gs.length) : Took gs (allocG gs q) q := by
  have h0 := (isF_pos hf).1
  have h2 := h.two
  have hg := h.flip q
  have hl : (gs.set 0 (flipB (pgAt gs 0) q)).length = gs.length := List.length_set
  have b : ∀ i, i < gs.length → isFG (allocG gs q) i = if i = q then !isFG gs q else isFG gs i := fun i hi => by
    unfold allocG
    rw [isFG_set h0 (by rw [hl]; exact hq), isFG_flip h h0 hq hi]
  have len : (allocG gs q).length = gs.length := by unfold allocG; rw [List.length_set, hl]
  have now : isFG (allocG gs q) q = false := by rw [b q hq, if_pos rfl, hf]; rfl
  refine ⟨hg.set (by rw [hl]; exact hq) zeros_len, len, hq, h0, hf, now, fun i hi hne => by rw [b i hi, if_neg hne], fun i hi hne => ?_, ?_, ?_⟩
  · unfold allocG
    rw [pgAt_set _ _ _ _ (by rw [hl]; exact hq), if_neg (Ne.symm hne), pgAt_set _ _ _ _ (by omega), if_neg (Ne.symm hi)]
  · unfold allocG
    rw [pgAt_set _ _ _ _ (by rw [hl]; exact hq), if_pos rfl]
  · rw [frG_cnt, frG_cnt, len]
    exact cntP_less hf now hq (fun i hi hne => by rw [b i hi, if_neg hne])
/-- What taking some pages into use comes to. -/
structure TookL (gs : List (List UInt8)) (ids : List Nat) (gs' : List (List UInt8)) : Prop where
  ok : GOK gs'
  len : gs'.length = gs.length
  all : ∀ q ∈ ids, q < gs.length ∧ q ≠ 0 ∧ isFG gs q = true ∧ isFG gs' q = false
  nodup : ids.Nodup
  bit : ∀ i, i < gs.length → i ∉ ids → isFG gs' i = isFG gs i
  pg : ∀ i, i ≠ 0 → i ∉ ids → pgAt gs' i = pgAt gs i
  cnt : frG gs = frG gs' + ids.length
theorem allocsG_took {gs : List (List UInt8)} (h : GOK gs) : ∀ {k : Nat}, k ≤ frG gs → TookL gs (allocsG gs k).1 (allocsG gs k).2 ∧ (allocsG gs k).1.length = k
  | 0, _ => ⟨⟨h, rfl, fun q hq => (List.not_mem_nil hq).elim, List.nodup_nil, fun _ _ _ => rfl, fun _ _ _ => rfl, rfl⟩, rfl⟩
  | k + 1, hk => by
    obtain ⟨ht, hl⟩ := allocsG_took h (k := k) (by omega)
    unfold allocsG allocStep
    generalize allocsG gs k = x at *
    obtain ⟨ids, g⟩ := x
    simp only at ht hl ⊢
    have hc := ht.cnt
    obtain ⟨h1, h2, _⟩ := firstQ_ok (gs := g) (by omega)
    generalize firstQ (pgAt g 0) g.length = q at *
    have tk := allocG_took ht.ok h1 h2
    have hlen := ht.len
    have hni : q ∉ ids := fun hm => by
      rw [(ht.all q hm).2.2.2] at h1; cases h1
    have hq : q < gs.length := by omega
    refine ⟨⟨tk.ok, by rw [tk.len, hlen], fun r hr => ?_, ?_, fun i hi hn => ?_, fun i hi hn => ?_, ?_⟩, by rw [List.length_append, hl]; rfl⟩
    · rw [List.mem_append, List.mem_singleton] at hr
      rcases hr with hr | rfl
      · obtain ⟨a, b, c, d⟩ := ht.all r hr
        exact ⟨a, b, c, by rw [tk.bit r (by omega) (fun e => hni (by rw [← e]; exact hr))]; exact d⟩
      · exact ⟨hq, tk.ne, by rw [← ht.bit r hq hni]; exact h1, tk.now⟩
    · rw [List.nodup_append]
      refine ⟨ht.nodup, List.nodup_cons.2 ⟨by simp, List.nodup_nil⟩, fun a ha b hb => ?_⟩
      rw [List.mem_singleton] at hb
      subst hb
      intro e
      subst e
      exact hni ha
    · rw [List.mem_append, List.mem_singleton, not_or] at hn
      rw [tk.bit i (by omega) hn.2, ht.bit i hi hn.1]
    · rw [List.mem_append, List.mem_singleton, not_or] at hn
      rw [tk.pg i hi hn.2, ht.pg i hi hn.1]
    · have := tk.cnt
      rw [List.length_append, List.length_singleton]
      omega
end Go.Proofs
