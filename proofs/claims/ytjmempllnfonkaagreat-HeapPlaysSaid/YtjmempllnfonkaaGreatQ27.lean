/-
  Parts of the proof, laid together: PwPu, PwPv, PwQe, PwKa, PwKd.
-/
import Derived.Test.YtjmempllnfonkaaGreatQ26

namespace Go.Proofs
open Go.PW
structure PSt (N logs T : Nat) (d : Dk) (l : Lg) (p : Pg) : Prop where
  pi : ∃ B S, PI d 0 logs N T B [] [] S
  lg : ∃ b, l = ⟨0, logs - 2, T, b, 0, [], false⟩
  fu : d.fused = false
  p1 : p.logs = logs
  p2 : p.halted = false
  ks : KsOK (N - logs) p.ch
  sec : ∀ j, j < N - logs → (rd d ((logs + j : Nat) : Int)).length = 128
  big : N ≤ logs + 1024 ∧ logs < N
def ct (b : Nat → List UInt8) (ch : List (Int × List UInt8)) (j : Nat) : List UInt8 := (valR (j : Int) ch).getD (b j)
theorem ct_nil (b : Nat → List UInt8) (j : Nat) : ct b [] j = b j := rfl
theorem ct_put (b : Nat → List UInt8) (ch : List (Int × List UInt8)) (k : Nat) (s : List UInt8) (j : Nat) : ct b (putN ch k s) j = if k = j then s else ct b ch j := by
  unfold ct
  rw [putN_R, valR_put]
  by_cases e : k = j
  · rw [if_pos e, if_pos (by omega)]; rfl
  · rw [if_neg e, if_neg (by omega)]
structure PXs (H : HMap) (A : AMap) (k did pid lid : Nat) (κm κc κr κp : Tok) (N logs T : Nat) (d : Dk) (l : Lg) (p : Pg) : Prop where
  lw : LW H A k did κm κc d
  lg : LgAt H A lid did κr l
  pg : PgAt H A pid did lid κp p
  ne : κp ≠ κm
  st : PSt N logs T d l p
  lo : ∀ j, j < 200 → H j = none ∧ ∀ q, A (j, q) = none
def PX (H : HMap) (A : AMap) (k did pid N logs T : Nat) (ch : List (Int × List UInt8)) (b : Nat → List UInt8) : Prop :=
  ∃ lid κm κc κr κp d l p, PXs H A k did pid lid κm κc κr κp N logs T d l p ∧ p.ch = ch ∧ ∀ j, j < N - logs → rd d ((logs + j : Nat) : Int) = b j
section px
variable {H : HMap} {A : AMap} {k did pid lid : Nat} {κm κc κr κp : Tok} {N logs T : Nat} {d : Dk} {l : Lg} {p : Pg} {ch : List (Int × List UInt8)} {b : Nat → List UInt8}
theorem PSt.cache (h : PSt N logs T d l p) : d.cache = [] := by
  obtain ⟨B, S, hp⟩ := h.pi
  cases hc : d.cache with
  | nil => rfl
  | cons w r =>
    obtain ⟨_, _, q, hq, _⟩ := hp.cache 0 w (by rw [hc]; rfl)
    simp [pcs] at hq
theorem PSt.num (h : PSt N logs T d l p) : d.n = N ∧ 4 ≤ logs ∧ logs ≤ 1000 ∧ logs < N ∧ N ≤ 4096 ∧ N ≤ logs + 1024 ∧ pgN d p = N - logs ∧ d.cache.length = 0 ∧ l.from_ = 0 ∧ l.places = logs - 2 ∧ l.turn = T ∧ l.used = 0 ∧ l.recs = [] ∧ l.halted = false ∧ T ≤ 1000000 := by
  obtain ⟨B, S, hp⟩ := h.pi
  obtain ⟨b, hl⟩ := h.lg
  have hc := h.cache
  have h1 := hp.dn
  have h2 := h.big
  refine ⟨h1, hp.n1, hp.n2, h2.2, hp.hN, h2.1, by unfold pgN; rw [h1, h.p1], by rw [hc]; rfl, by rw [hl], by rw [hl], by rw [hl], by rw [hl], by rw [hl], by rw [hl], hp.hT⟩
theorem PSt.put (h : PSt N logs T d l p) {m : List (Int × List UInt8)} (hm : KsOK (N - logs) m) : PSt N logs T d l { p with ch := m } := ⟨h.pi, h.lg, h.fu, h.p1, h.p2, hm, h.sec, h.big⟩
theorem PSt.cts (h : PSt N logs T d l p) (hb : ∀ j, j < N - logs → rd d ((logs + j : Nat) : Int) = b j) (j : Nat) (hj : j < N - logs) : pgRd d p j = ct b p.ch j := by
  rw [pgRd_val, h.p1, hb j hj]; rfl
theorem PSt.len (h : PSt N logs T d l p) (j : Nat) (hj : j < N - logs) : (pgRd d p j).length = 128 := by
  rw [pgRd_val, h.p1]
  cases hv : valR (j : Int) p.ch with
  | none => exact h.sec j hj
  | some s => exact h.ks.len _ (valR_mem hv)
theorem PXs.kp (h : PXs H A k did pid lid κm κc κr κp N logs T d l p) : κp ≠ κc ∧ κp ≠ κr ∧ 200 ≤ κp.1 ∧ 200 ≤ κm.1 ∧ 200 ≤ κc.1 ∧ 200 ≤ κr.1 ∧ 200 ≤ did ∧ 200 ≤ lid ∧ 200 ≤ pid := by
  have hp := h.pg.m
  have big : ∀ {τ : Tok} {ar : Arr}, A τ = some ar → 200 ≤ τ.1 := fun {τ ar} ha => Nat.le_of_not_lt fun hlt => by
    have := (h.lo τ.1 hlt).2 τ.2
    rw [ha] at this; cases this
  have bigH : ∀ {j : Nat} {cs : List CV}, H j = some cs → 200 ≤ j := fun {j cs} ha => Nat.le_of_not_lt fun hlt => by
    have := (h.lo j hlt).1
    rw [ha] at this; cases this
  exact ⟨(fun e => by rw [e, h.lw.dk.c] at hp; cases hp), (fun e => by rw [e, h.lg.r] at hp; cases hp), big hp, big h.lw.dk.m, big h.lw.dk.c, big h.lg.r, bigH h.lw.dk.h, bigH h.lg.h, bigH h.pg.h⟩
theorem PXs.put (h : PXs H A k did pid lid κm κc κr κp N logs T d l p) {m : List (Int × List UInt8)} (hm : KsOK (N - logs) m) : PXs H (upd A κp (some (.mp (encNS m)))) k did pid lid κm κc κr κp N logs T d l { p with ch := m } := by
  obtain ⟨q1, q2, q3, _⟩ := h.kp
  have hlt := h.pg.lt h.lw.ab
  refine ⟨⟨Wf_arr h.lw.wf upd_keep, Above_updA h.lw.ab hlt.2, ⟨h.lw.dk.h, by rw [upd_other _ _ h.ne.symm]; exact h.lw.dk.m, by rw [upd_other _ _ q1.symm]; exact h.lw.dk.c⟩⟩, h.lg.mv rfl (upd_other _ _ q2.symm), ⟨h.pg.h, upd_same _ _ _⟩, h.ne, h.st.put hm, fun j hj => ⟨(h.lo j hj).1, fun q => ?_⟩⟩
  rw [upd_other _ _ (tok_ne (by show j ≠ κp.1; omega))]
  exact (h.lo j hj).2 q
theorem PX.nums (h : PX H A k did pid N logs T ch b) : 4 ≤ logs ∧ logs ≤ 1000 ∧ logs < N ∧ N ≤ 4096 ∧ N ≤ logs + 1024 ∧ T ≤ 1000000 ∧ did < k ∧ pid < k ∧ 200 ≤ did ∧ 200 ≤ pid ∧ Wf H A ∧ Above k H A ∧ H did ≠ none ∧ H pid ≠ none ∧ (∀ j, j < 200 → H j = none ∧ ∀ q, A (j, q) = none) ∧ KsOK (N - logs) ch ∧ ∀ j, j < N - logs → (ct b ch j).length = 128 := by
  obtain ⟨lid, κm, κc, κr, κp, d, l, p, hx, rfl, hb⟩ := h
  obtain ⟨n1, n2, n3, n4, n5, n6, n7, n8, _, _, _, _, _, _, n15⟩ := hx.st.num
  obtain ⟨_, _, _, _, _, _, q7, _, q9⟩ := hx.kp
  exact ⟨n2, n3, n4, n5, n6, n15, hx.lw.ne.1, (hx.pg.lt hx.lw.ab).1, q7, q9, hx.lw.wf, hx.lw.ab, by rw [hx.lw.dk.h]; simp, by rw [hx.pg.h]; simp, hx.lo, hx.st.ks, fun j hj => by rw [← hx.st.cts hb j hj]; exact hx.st.len j hj⟩
theorem Tryz.pRead (off : Nat) (h : PX H A k did pid N logs T ch b) (j : Nat) (hj : j < N - logs) : EffOK Tryz.prog 18 off H A [.c (.ptr pid 0), pD (.lit (.int .i64 j))] (.tup [.c (.d (dS (ct b ch j))), .c (.d (.lit (.int .i64 0)))]) H A := by
  obtain ⟨lid, κm, κc, κr, κp, d, l, p, hx, rfl, hb⟩ := h
  obtain ⟨n1, n2, n3, n4, n5, n6, n7, n8, _⟩ := hx.st.num
  rw [← hx.st.cts hb j hj]
  exact Tryz.kPgRead off hx.lw.wf hx.pg hx.lw.dk (by rw [hx.st.p1]; omega) (by omega) (by omega) j (by omega)
theorem Tryz.pLen (off : Nat) (h : PX H A k did pid N logs T ch b) : EffOK Tryz.prog 30 off H A [.c (.ptr pid 0)] (pD (.lit (.int .i64 ((N - logs : Nat) : Int)))) H A := by
  obtain ⟨lid, κm, κc, κr, κp, d, l, p, hx, rfl, hb⟩ := h
  obtain ⟨n1, n2, n3, n4, n5, n6, n7, n8, _⟩ := hx.st.num
  rw [← n7]
  exact Tryz.kPgLen off hx.lw.wf hx.pg hx.lw.dk (by rw [hx.st.p1]; omega) (by omega)
def isF (s : List UInt8) (j : Nat) : Bool := j != 0 && freeB s j
theorem Tryz.pIsFree (off : Nat) (h : PX H A k did pid N logs T ch b) (j : Nat) (hj : j < N - logs) : EffOK Tryz.prog 31 off H A [.c (.ptr pid 0), pD (.lit (.int .i64 j))] (pD (.lit (.bool (isF (ct b ch 0) j)))) H A := by
  obtain ⟨lid, κm, κc, κr, κp, d, l, p, hx, rfl, hb⟩ := h
  obtain ⟨n1, n2, n3, n4, n5, n6, n7, n8, _⟩ := hx.st.num
  unfold isF
  by_cases h0 : j = 0
  · subst h0
    exact Tryz.kIsFree0 (pid := pid) off hx.lw.wf
  · have e : (j != 0) = true := by simpa using h0
    have hl0 := hx.st.len 0 (by omega)
    rw [e, Bool.true_and, ← hx.st.cts hb 0 (by omega)]
    exact Tryz.kIsFree off hx.lw.wf hx.pg hx.lw.dk (by rw [hx.st.p1]; omega) (by omega) (by omega) j h0 (by omega) (by omega)
theorem Tryz.pFrees (off : Nat) (h : PX H A k did pid N logs T ch b) : EffOK Tryz.prog 47 off H A [.c (.ptr pid 0)] (pD (.lit (.int .i64 (freesK (ct b ch 0) (N - logs))))) H A := by
  obtain ⟨lid, κm, κc, κr, κp, d, l, p, hx, rfl, hb⟩ := h
  obtain ⟨n1, n2, n3, n4, n5, n6, n7, n8, _⟩ := hx.st.num
  have hl0 := hx.st.len 0 (by omega)
  rw [← hx.st.cts hb 0 (by omega), ← n7]
  exact Tryz.kFrees off hx.lw.wf hx.pg hx.lw.dk (by rw [hx.st.p1]; omega) (by omega) (by omega) (by omega)
def PSO (off : Nat) (P : Program) (f : FuncId) (H : HMap) (A : AMap) (args : List PV) (v : PV) (k' did pid' N logs T' : Nat) (ch' : List (Int × List UInt8)) (b' : Nat → List UInt8) : Prop :=
  ∃ H' A', EffOK P f off H A args v H' A' ∧ PX H' A' k' did pid' N logs T' ch' b' ∧ (∀ j, H j ≠ none → H' j ≠ none) ∧ ∀ τ, A τ ≠ none → A' τ ≠ none
theorem Tryz.pWrite (off : Nat) (h : PX H A k did pid N logs T ch b) (page : Nat) (h0 : page ≠ 0) (hpg : page < N - logs) (s : List UInt8) (hs : s.length ≤ 128) :
    PSO off Tryz.prog 10 H A [.c (.ptr pid 0), pD (.lit (.int .i64 page)), pD (dS s)] (pD (.lit (.int .i64 0))) k did pid N logs T (putN ch page (pad s)) b := by
  obtain ⟨lid, κm, κc, κr, κp, d, l, p, hx, rfl, hb⟩ := h
  obtain ⟨n1, n2, n3, n4, n5, n6, n7, n8, _⟩ := hx.st.num
  exact ⟨_, _, Tryz.kPgWrite off hx.lw.wf hx.pg hx.lw.dk (by rw [hx.st.p1]; omega) (by omega) page h0 (by omega) s hs, ⟨lid, κm, κc, κr, κp, d, l, _, hx.put (hx.st.ks.put (by omega) (pad_len hs)), rfl, hb⟩, fun _ h => h, upd_keep⟩
theorem Tryz.pWriteE (off : Nat) (h : PX H A k did pid N logs T ch b) (page : Int) (s : List UInt8) (he : pgWrE (N - logs) page s ≠ 0) :
    EffOK Tryz.prog 10 off H A [.c (.ptr pid 0), pD (.lit (.int .i64 page)), pD (dS s)] (pD (.lit (.int .i64 (pgWrE (N - logs) page s)))) H A := by
  obtain ⟨lid, κm, κc, κr, κp, d, l, p, hx, rfl, hb⟩ := h
  obtain ⟨n1, n2, n3, n4, n5, n6, n7, n8, _⟩ := hx.st.num
  rw [← n7] at he ⊢
  exact Tryz.kPgWriteE off hx.lw.wf hx.pg hx.lw.dk (by rw [hx.st.p1]; omega) (by omega) page s he
theorem Tryz.pFree (off : Nat) (h : PX H A k did pid N logs T ch b) (q : Nat) (h0 : q ≠ 0) (hq : q < N - logs) (hf : freeB (ct b ch 0) q = false) :
    PSO off Tryz.prog 79 H A [.c (.ptr pid 0), pD (.lit (.int .i64 q))] (pD (.lit (.int .i64 0))) k did pid N logs T (putN ch ((0 : Nat) : Int) (flipB (ct b ch 0) q)) b := by
  obtain ⟨lid, κm, κc, κr, κp, d, l, p, hx, rfl, hb⟩ := h
  obtain ⟨n1, n2, n3, n4, n5, n6, n7, n8, _⟩ := hx.st.num
  have hl0 := hx.st.len 0 (by omega)
  rw [← hx.st.cts hb 0 (by omega)] at hf ⊢
  exact ⟨_, _, Tryz.kPgFree off hx.lw.wf hx.pg hx.lw.dk (by rw [hx.st.p1]; omega) (by omega) (by omega) (by omega) (by omega) q h0 (by omega) hf, ⟨lid, κm, κc, κr, κp, d, l, _, hx.put (hx.st.ks.put (k := 0) (by omega) (by rw [flipB_len]; exact hl0)), rfl, hb⟩, fun _ h => h, upd_keep⟩
theorem Tryz.pFreeE (off : Nat) (h : PX H A k did pid N logs T ch b) (page : Int) (he : pgFrE (N - logs) (ct b ch 0) page ≠ 0) :
    EffOK Tryz.prog 79 off H A [.c (.ptr pid 0), pD (.lit (.int .i64 page))] (pD (.lit (.int .i64 (pgFrE (N - logs) (ct b ch 0) page)))) H A := by
  obtain ⟨lid, κm, κc, κr, κp, d, l, p, hx, rfl, hb⟩ := h
  obtain ⟨n1, n2, n3, n4, n5, n6, n7, n8, _⟩ := hx.st.num
  have hl0 := hx.st.len 0 (by omega)
  rw [← hx.st.cts hb 0 (by omega), ← n7] at he ⊢
  exact Tryz.kPgFreeE off hx.lw.wf hx.pg hx.lw.dk (by rw [hx.st.p1]; omega) (by omega) (by omega) (by omega) page he
theorem Tryz.pAllocN (off : Nat) (h : PX H A k did pid N logs T ch b) (hno : ∀ i, i ≠ 0 → i < N - logs → freeB (ct b ch 0) i = false) :
    EffOK Tryz.prog 8 off H A [.c (.ptr pid 0)] (.tup [.c (.d (.lit (.int .i64 0))), .c (.d (.lit (.int .i64 3)))]) H A := by
  obtain ⟨lid, κm, κc, κr, κp, d, l, p, hx, rfl, hb⟩ := h
  obtain ⟨n1, n2, n3, n4, n5, n6, n7, n8, _⟩ := hx.st.num
  have hl0 := hx.st.len 0 (by omega)
  rw [← hx.st.cts hb 0 (by omega)] at hno
  exact Tryz.kPgAllocN off hx.lw.wf hx.pg hx.lw.dk (by rw [hx.st.p1]; omega) (by omega) (by omega) (by omega) (fun i h1 h2 => hno i h1 (by omega))
theorem Tryz.pAlloc (off : Nat) (h : PX H A k did pid N logs T ch b) (q : Nat) (h0 : q ≠ 0) (hq : q < N - logs) (hf : freeB (ct b ch 0) q = true) (hno : ∀ i, i ≠ 0 → i < q → freeB (ct b ch 0) i = false) :
    PSO off Tryz.prog 8 H A [.c (.ptr pid 0)] (.tup [.c (.d (.lit (.int .i64 q))), .c (.d (.lit (.int .i64 0)))]) k did pid N logs T (putN (putN ch ((0 : Nat) : Int) (flipB (ct b ch 0) q)) q zeros) b := by
  obtain ⟨lid, κm, κc, κr, κp, d, l, p, hx, rfl, hb⟩ := h
  obtain ⟨n1, n2, n3, n4, n5, n6, n7, n8, _⟩ := hx.st.num
  have hl0 := hx.st.len 0 (by omega)
  rw [← hx.st.cts hb 0 (by omega)] at hf hno ⊢
  exact ⟨_, _, Tryz.kPgAlloc off hx.lw.wf hx.pg hx.lw.dk (by rw [hx.st.p1]; omega) (by omega) (by omega) (by omega) (by omega) q h0 (by omega) hf hno,
    ⟨lid, κm, κc, κr, κp, d, l, _, hx.put ((hx.st.ks.put (k := 0) (by omega) (by rw [flipB_len]; exact hl0)).put (by omega) zeros_len), rfl, hb⟩, fun _ h => h, upd_keep⟩
end px
end Go.Proofs

namespace Go.Proofs
open Go.PW
theorem scan_no (t : Nat) : ∀ (k i : Nat) (x : Sc), scanK (fun _ => none) t k i x = x
  | 0, _, _ => rfl
  | _ + 1, _, _ => rfl
theorem op_new {N f n : Nat} (h1 : 4 ≤ n) (h2 : n ≤ 1000) (h3 : f + n ≤ N) (h4 : N ≤ 4096) : OpAt (newD N) f n 0 0 0 0 (fun _ => none) :=
  ⟨h1, h2, h3, h4, by show 0 + 1 ≤ _; omega, fun i _ => by rw [rd_new, zeros_len]; omega, by rw [rd_new]; exact tell_zeros, by rw [rd_new]; exact tell_zeros, fun i _ => by rw [rd_new]; exact at_zeros i⟩
theorem opL_new (f n : Nat) : opL f n 0 0 0 0 (fun _ => none) = ⟨f, n - 2, 1, 0, 0, [], false⟩ := by
  unfold opL opX
  rw [scan_no]; rfl
section px
variable {H : HMap} {A : AMap} {k did pid lid : Nat} {κm κc κr κp : Tok} {N logs T : Nat} {d : Dk} {l : Lg} {p : Pg} {ch : List (Int × List UInt8)} {b : Nat → List UInt8}
def DX (H : HMap) (A : AMap) (k did N logs T : Nat) (b : Nat → List UInt8) : Prop :=
  ∃ κm κc d t0 b0 t1 b1 R B, LW H A k did κm κc d ∧ OpAt d 0 logs t0 b0 t1 b1 R ∧ opL 0 logs t0 b0 t1 b1 R = ⟨0, logs - 2, T + 1, B, 0, [], false⟩ ∧ (∃ S, PI (nextD d 0 (opT t0 t1 + 1) (opB t0 b0 t1 b1)) 0 logs N (T + 1) B [] [] S) ∧
    d.fused = false ∧ DkG d ∧ (N ≤ logs + 1024 ∧ logs < N) ∧ (∀ j, j < N - logs → rd d ((logs + j : Nat) : Int) = b j ∧ (b j).length = 128) ∧ ∀ j, j < 200 → H j = none ∧ ∀ q, A (j, q) = none
theorem DX.new {κm κc : Tok} (hL : LW H A k did κm κc (newD N)) (h1 : 4 ≤ logs) (h2 : logs ≤ 1000) (h3 : logs < N) (h4 : N ≤ 4096) (h5 : N ≤ logs + 1024) (lo : ∀ j, j < 200 → H j = none ∧ ∀ q, A (j, q) = none) : DX H A k did N logs 0 (fun _ => zeros) :=
  ⟨κm, κc, newD N, 0, 0, 0, 0, _, 0, hL, op_new h1 h2 (by omega) h4, opL_new _ _, ⟨_, PI.fresh h1 h2 (by omega) h4⟩, rfl, DkG_new N, ⟨h5, h3⟩, fun j _ => ⟨rd_new _ _, zeros_len⟩, lo⟩
theorem Tryz.pOpen (off : Nat) (h : DX H A k did N logs T b) (hk : k + 2 ≤ off) : ∃ H' A', EffOK Tryz.prog 6 off H A [.c (.ptr did 0), pD (.lit (.int .i64 logs))] (.tup [.c (.ptr (k + 1) 0), .c (.d (.lit (.int .i64 0)))]) H' A' ∧ PX H' A' (k + 2) did (k + 1) N logs (T + 1) [] b := by
  obtain ⟨κm, κc, d, t0, b0, t1, b1, R, B, L, ho, el, ⟨S, hp⟩, hf, hg, hbig, hb, lo⟩ := h
  have hdn : d.n = N := hp.dn
  have hn := L.ne
  obtain ⟨H', A', e, L', g', pg', fH, fA⟩ := Tryz.tOpenP off L hk ho (by omega) (by omega) hf (by rw [el])
  have hm2 : 200 ≤ κm.1 := Nat.le_of_not_lt fun h => by have := L.dk.m; rw [(lo _ h).2 κm.2] at this; cases this
  have hc2 : 200 ≤ κc.1 := Nat.le_of_not_lt fun h => by have := L.dk.c; rw [(lo _ h).2 κc.2] at this; cases this
  have hd2 : 200 ≤ did := Nat.le_of_not_lt fun h => by have := L.dk.h; rw [(lo _ h).1] at this; cases this
  rw [el] at g'
  have hrd : ∀ j, j < N - logs → rd (nextD d 0 (opT t0 t1 + 1) (opB t0 b0 t1 b1)) ((logs + j : Nat) : Int) = b j := fun j hj => by
    have h1 := ho.n1
    show rd (flD (wrD _ _ _)) _ = _
    rw [rd_fl (hg.wr _ _), rd_wr, if_neg (by omega)]
    exact (hb j hj).1
  refine ⟨H', A', e, k, κm, (k, 1), (k, 0), (k + 1, 0), _, _, _, ⟨L', g', pg', tok_ne (by show k + 1 ≠ κm.1; omega), ⟨⟨B, S, hp⟩, ⟨B, rfl⟩, hf, rfl, rfl, KsOK.nil _, fun j hj => ?_, hbig⟩, fun j hj => ⟨?_, fun q => ?_⟩⟩, rfl, hrd⟩
  · rw [hrd j hj]; exact (hb j hj).2
  · rw [fH j (by omega) (by omega) (by omega)]; exact (lo j hj).1
  · rw [fA _ (tok_ne (by show j ≠ κm.1; omega)) (tok_ne (by show j ≠ κc.1; omega)) (by show j < k; omega)]
    exact (lo j hj).2 q
end px
end Go.Proofs

namespace Go.Proofs
open Go.PW
theorem bit_all : ((List.range 256).all fun x => (List.range 8).all fun a => (List.range 8).all fun b => (iAnd .u8 (iXor .u8 (x : Nat) (iShl .u8 1 b)) (iShl .u8 1 a) == 0) == (if a = b then !(iAnd .u8 (x : Nat) (iShl .u8 1 a) == 0) else (iAnd .u8 (x : Nat) (iShl .u8 1 a) == 0))) = true := by decide +kernel
theorem bit_turn {x a b : Nat} (hx : x < 256) (ha : a < 8) (hb : b < 8) : (iAnd .u8 (iXor .u8 (x : Nat) (iShl .u8 1 b)) (iShl .u8 1 a) == 0) = (if a = b then !(iAnd .u8 (x : Nat) (iShl .u8 1 a) == 0) else (iAnd .u8 (x : Nat) (iShl .u8 1 a) == 0)) :=
  eq_of_beq (List.all_eq_true.1 (List.all_eq_true.1 (List.all_eq_true.1 bit_all x (List.mem_range.2 hx)) a (List.mem_range.2 ha)) b (List.mem_range.2 hb))
theorem xor_u8 (m n : Int) : ((UInt8.ofNat (iXor .u8 m n).toNat).toNat : Int) = iXor .u8 m n := by
  have h := u8_wrap_range (BitVec.ofInt IntKind.u8.bits m ^^^ BitVec.ofInt IntKind.u8.bits n).toNat
  rw [UInt8.toNat_ofNat', Nat.mod_eq_of_lt (by unfold iXor; omega)]
  unfold iXor
  omega
theorem free_flip {s : List UInt8} {q j : Nat} (hq : q / 8 < s.length) (hj : j / 8 < s.length) : freeB (flipB s q) j = if j = q then !freeB s q else freeB s j := by
  unfold freeB flipB
  rw [List.getD_eq_getElem?_getD, List.getD_eq_getElem?_getD, List.getD_eq_getElem?_getD, List.getElem?_set]
  by_cases e : q / 8 = j / 8
  · rw [if_pos e, if_pos hq, ← e, List.getElem?_eq_getElem hq]
    simp only [Option.getD_some]
    rw [xor_u8]
    have hx : s[q / 8].toNat < 256 := s[q / 8].toNat_lt
    unfold bitV
    rw [bit_turn hx (Nat.mod_lt _ (by omega)) (Nat.mod_lt _ (by omega))]
    by_cases e2 : j = q
    · subst e2
      rw [if_pos rfl, if_pos rfl]
    · rw [if_neg (by omega), if_neg e2]
  · rw [if_neg e, List.getElem?_eq_getElem hj, if_neg (by intro h; exact e (by rw [h]))]
theorem isF_flip {s : List UInt8} {q j : Nat} (h0 : q ≠ 0) (hq : q / 8 < s.length) (hj : j / 8 < s.length) : isF (flipB s q) j = if j = q then !isF s q else isF s j := by
  unfold isF
  rw [free_flip hq hj]
  by_cases e : j = q
  · subst e
    have : (j != 0) = true := by simpa using h0
    rw [if_pos rfl, if_pos rfl, this]; rfl
  · rw [if_neg e, if_neg e]
theorem free_zeros (j : Nat) : freeB zeros j = true := by
  unfold freeB
  have e : zeros.getD (j / 8) 0 = 0 := by
    unfold zeros
    rw [List.getD_eq_getElem?_getD, List.getElem?_replicate]
    split <;> rfl
  rw [e]
  have h : ∀ x : Int, iAnd .u8 ((0 : UInt8).toNat : Nat) x = 0 := fun x => by
    unfold iAnd
    have : BitVec.ofInt IntKind.u8.bits (((0 : UInt8).toNat : Nat) : Int) = 0#_ := by decide
    rw [this, BitVec.zero_and]
    decide
  rw [h]; rfl
theorem isF_zeros (j : Nat) : isF zeros j = (j != 0) := by
  unfold isF
  rw [free_zeros, Bool.and_true]
end Go.Proofs

namespace Go.Proofs
open Go.PW
def pgAt (gs : List (List UInt8)) (j : Nat) : List UInt8 := gs.getD j []
theorem pgAt_set (gs : List (List UInt8)) (i : Nat) (s : List UInt8) (j : Nat) (hi : i < gs.length) : pgAt (gs.set i s) j = if i = j then s else pgAt gs j := by
  unfold pgAt
  rw [List.getD_eq_getElem?_getD, List.getD_eq_getElem?_getD, List.getElem?_set]
  by_cases e : i = j
  · rw [if_pos e, if_pos hi, if_pos e]; rfl
  · rw [if_neg e, if_neg e]
def isFG (gs : List (List UInt8)) (j : Nat) : Bool := isF (pgAt gs 0) j
def frG (gs : List (List UInt8)) : Nat := freesK (pgAt gs 0) gs.length
def firstK (s : List UInt8) : Nat → Option Nat
  | 0 => none
  | k + 1 => match firstK s k with
    | some q => some q
    | none => if isF s k = true then some k else none
def firstQ (s : List UInt8) (n : Nat) : Nat := (firstK s n).getD 0
def allocG (gs : List (List UInt8)) (q : Nat) : List (List UInt8) := (gs.set 0 (flipB (pgAt gs 0) q)).set q zeros
def allocStep (x : List Nat × List (List UInt8)) : List Nat × List (List UInt8) := (x.1 ++ [firstQ (pgAt x.2 0) x.2.length], allocG x.2 (firstQ (pgAt x.2 0) x.2.length))
def allocsG (gs : List (List UInt8)) : Nat → List Nat × List (List UInt8)
  | 0 => ([], gs)
  | i + 1 => allocStep (allocsG gs i)
def two (n : Nat) : List UInt8 := [UInt8.ofNat (n / 256), UInt8.ofNat (n % 256)]
def numB (a b : UInt8) : Nat := 256 * a.toNat + b.toNat
def cell (nx : Nat) (l : List UInt8) : List UInt8 := two nx ++ (UInt8.ofNat l.length :: l)
def need (n : Nat) : Nat := max 1 ((n + 124) / 125)
def partH (s : List UInt8) (i : Nat) : List UInt8 := (s.drop (125 * i)).take 125
def writesG (gs : List (List UInt8)) (ids : List Nat) (s : List UInt8) : Nat → List (List UInt8)
  | 0 => gs
  | i + 1 => (writesG gs ids s i).set (ids.getD i 0) (pad (cell (ids.getD (i + 1) 0) (partH s i)))
def putG (gs : List (List UInt8)) (s : List UInt8) : Nat × Int × List (List UInt8) :=
  if 100000 < s.length then (0, 19, gs) else if frG gs < need s.length then (0, 3, gs)
  else ((allocsG gs (need s.length)).1.getD 0 0, 0, writesG (allocsG gs (need s.length)).2 (allocsG gs (need s.length)).1 s (need s.length))
def isRec (gs : List (List UInt8)) (j : Int) : Bool := decide (2 ≤ j) && (decide (j < (gs.length : Int)) && !isFG gs j.toNat)
def nextOf (t : List UInt8) : Nat := numB (t.getD 0 0) (t.getD 1 0)
def lenOf (t : List UInt8) : Nat := (t.getD 2 0).toNat
def rowK (gs : List (List UInt8)) : Nat → Nat → List Nat → List UInt8 → List Nat × List UInt8 × Int
  | 0, _, _, _ => ([], [], 7)
  | f + 1, at_, pages, s => if at_ = 0 then (pages, s, 0) else if isRec gs (at_ : Nat) = false ∨ gs.length < pages.length then ([], [], 7)
    else if 125 < lenOf (pgAt gs at_) ∨ (0 < nextOf (pgAt gs at_) ∧ lenOf (pgAt gs at_) < 125) then ([], [], 7)
    else rowK gs f (nextOf (pgAt gs at_)) (pages ++ [at_]) (s ++ ((pgAt gs at_).drop 3).take (lenOf (pgAt gs at_)))
def rowG (gs : List (List UInt8)) (id : Int) : List Nat × List UInt8 × Int := if isRec gs id = false then ([], [], 4) else rowK gs (gs.length + 3) id.toNat [] []
def freeG (gs : List (List UInt8)) (q : Nat) : List (List UInt8) := if isFG gs q = true then gs else gs.set 0 (flipB (pgAt gs 0) q)
def freesG (gs : List (List UInt8)) (l : List Nat) : List (List UInt8) := l.foldl freeG gs
def dropG (gs : List (List UInt8)) (id : Int) : List (List UInt8) := freesG gs (rowG gs id).1
def rootG (gs : List (List UInt8)) : Nat := numB ((pgAt gs 1).getD 1 0) ((pgAt gs 1).getD 2 0)
def setRootG (gs : List (List UInt8)) (s : List UInt8) : Int × List (List UInt8) :=
  if (putG gs s).2.1 ≠ 0 then ((putG gs s).2.1, (putG gs s).2.2) else (0, (dropG (putG gs s).2.2 (rootG (putG gs s).2.2)).set 1 (pad (82 :: two (putG gs s).1)))
structure GOK (gs : List (List UInt8)) : Prop where
  two : 2 ≤ gs.length
  big : gs.length ≤ 1024
  len : ∀ j, j < gs.length → (pgAt gs j).length = 128
theorem GOK.bit {gs : List (List UInt8)} (h : GOK gs) {j : Nat} (hj : j < gs.length) : j / 8 < (pgAt gs 0).length := by
  have := h.two
  have := h.big
  rw [h.len 0 (by omega)]
  omega
theorem GOK.set {gs : List (List UInt8)} (h : GOK gs) {j : Nat} {s : List UInt8} (hj : j < gs.length) (hs : s.length = 128) : GOK (gs.set j s) := by
  refine ⟨by rw [List.length_set]; exact h.two, by rw [List.length_set]; exact h.big, fun i hi => ?_⟩
  rw [List.length_set] at hi
  rw [pgAt_set _ _ _ _ hj]
  split
  · exact hs
  · exact h.len i hi
theorem isF_pos {s : List UInt8} {j : Nat} (h : isF s j = true) : j ≠ 0 ∧ freeB s j = true := by
  unfold isF at h
  simpa using h
theorem firstK_some {s : List UInt8} {q : Nat} : ∀ {n : Nat}, firstK s n = some q → isF s q = true ∧ q < n ∧ ∀ i, i < q → isF s i = false
  | 0, h => by cases h
  | n + 1, h => by
    unfold firstK at h
    cases hk : firstK s n with
    | some q' =>
      rw [hk] at h
      cases h
      obtain ⟨h1, h2, h3⟩ := firstK_some hk
      exact ⟨h1, by omega, h3⟩
    | none =>
      rw [hk] at h
      simp only at h
      split at h
      · next hf =>
        cases h
        refine ⟨hf, by omega, fun i hi => ?_⟩
        cases hi2 : isF s i with
        | false => rfl
        | true => exact (firstK_none hk i hi hi2).elim
      · cases h
where
  firstK_none {s : List UInt8} : ∀ {n : Nat}, firstK s n = none → ∀ i, i < n → isF s i = true → False
  | 0, _, i, hi, _ => by omega
  | n + 1, h, i, hi, hf => by
    unfold firstK at h
    cases hk : firstK s n with
    | some q' => rw [hk] at h; cases h
    | none =>
      rw [hk] at h
      simp only at h
      by_cases e : i = n
      · subst e
        rw [if_pos hf] at h; cases h
      · exact firstK_none hk i (by omega) hf
def cntP (p : Nat → Bool) : Nat → Nat
  | 0 => 0
  | k + 1 => cntP p k + if p k = true then 1 else 0
theorem freesK_cnt (s : List UInt8) : ∀ n, freesK s n = cntP (isF s) n
  | 0 => rfl
  | n + 1 => by
    unfold freesK cntP
    rw [freesK_cnt s n]
    congr 1
    unfold isF
    simp
theorem cntP_same {p r : Nat → Bool} : ∀ {n : Nat}, (∀ j, j < n → p j = r j) → cntP p n = cntP r n
  | 0, _ => rfl
  | n + 1, h => by
    unfold cntP
    rw [cntP_same (n := n) (fun j hj => h j (by omega)), h n (by omega)]
theorem cntP_less {p r : Nat → Bool} {q : Nat} (hp : p q = true) (hr : r q = false) : ∀ {n : Nat}, q < n → (∀ j, j < n → j ≠ q → p j = r j) → cntP p n = cntP r n + 1
  | 0, h, _ => by omega
  | n + 1, hq, h => by
    unfold cntP
    by_cases e : q = n
    · subst e
      rw [cntP_same (n := q) (p := p) (r := r) (fun j hj => h j (by omega) (by omega)), hp, hr]
      simp
    · rw [cntP_less hp hr (n := n) (by omega) (fun j hj => h j (by omega)), h n (by omega) (Ne.symm e)]
      omega
theorem cntP_pos {p : Nat → Bool} : ∀ {n : Nat}, 0 < cntP p n → ∃ j, j < n ∧ p j = true
  | 0, h => by unfold cntP at h; omega
  | n + 1, h => by
    by_cases e : p n = true
    · exact ⟨n, by omega, e⟩
    · unfold cntP at h
      rw [if_neg e] at h
      obtain ⟨j, h1, h2⟩ := cntP_pos (n := n) (by omega)
      exact ⟨j, by omega, h2⟩
theorem frG_cnt (gs : List (List UInt8)) : frG gs = cntP (isFG gs) gs.length := freesK_cnt _ _
theorem firstQ_ok {gs : List (List UInt8)} (h : 0 < frG gs) : isFG gs (firstQ (pgAt gs 0) gs.length) = true ∧ firstQ (pgAt gs 0) gs.length < gs.length ∧ ∀ i, i < firstQ (pgAt gs 0) gs.length → isFG gs i = false := by
  rw [frG_cnt] at h
  obtain ⟨j, h1, h2⟩ := cntP_pos h
  unfold firstQ
  cases hk : firstK (pgAt gs 0) gs.length with
  | none => exact (firstK_some.firstK_none hk j h1 h2).elim
  | some q =>
    obtain ⟨a, b, c⟩ := firstK_some hk
    exact ⟨a, b, c⟩
theorem isFG_set {gs : List (List UInt8)} {j : Nat} {s : List UInt8} (h0 : j ≠ 0) (hj : j < gs.length) (i : Nat) : isFG (gs.set j s) i = isFG gs i := by
  unfold isFG
  rw [pgAt_set _ _ _ _ hj, if_neg h0]
theorem isFG_flip {gs : List (List UInt8)} (h : GOK gs) {q i : Nat} (h0 : q ≠ 0) (hq : q < gs.length) (hi : i < gs.length) : isFG (gs.set 0 (flipB (pgAt gs 0) q)) i = if i = q then !isFG gs q else isFG gs i := by
  unfold isFG
  have := h.two
  rw [pgAt_set _ _ _ _ (by omega), if_pos rfl, isF_flip h0 (h.bit hq) (h.bit hi)]
theorem GOK.flip {gs : List (List UInt8)} (h : GOK gs) (q : Nat) : GOK (gs.set 0 (flipB (pgAt gs 0) q)) :=
  h.set (by have := h.two; omega) (by rw [flipB_len]; exact h.len 0 (by have := h.two; omega))
structure Took (gs gs' : List (List UInt8)) (q : Nat) : Prop where
  ok : GOK gs'
  len : gs'.length = gs.length
  lt : q < gs.length
  ne : q ≠ 0
  was : isFG gs q = true
  now : isFG gs' q = false
  bit : ∀ i, i < gs.length → i ≠ q → isFG gs' i = isFG gs i
  pg : ∀ i, i ≠ 0 → i ≠ q → pgAt gs' i = pgAt gs i
  zero : pgAt gs' q = zeros
  cnt : frG gs = frG gs' + 1
theorem allocG_took {gs : List (List UInt8)} (h : GOK gs) {q : Nat} (hf : isFG gs q = true) (hq : q < gs.length) : Took gs (allocG gs q) q := by
  have h0 := (isF_pos hf).1
  have h2 := h.two
  have hg := h.flip q
  have hl : (gs.set 0 (flipB (pgAt gs 0) q)).length = gs.length := List.length_set
  have b : ∀ i, i < gs.length → isFG (allocG gs q) i = if i = q then !isFG gs q else isFG gs i := fun i hi => by
    unfold allocG
    rw [isFG_set h0 (by rw [hl]; exact hq), isFG_flip h h0 hq hi]
  have len : (allocG gs q).length = gs.length := by unfold allocG; rw [List.length_set, hl]
  have now : isFG (allocG gs q) q = false := by rw [b q hq, if_pos rfl, hf]; rfl
  refine ⟨hg.set (by rw [hl]; exact hq) zeros_len, len, hq, h0, hf, now, fun i hi hne => by rw [b i hi, if_neg hne], fun i hi hne => ?_, ?_, ?_⟩
  · unfold allocG
    rw [pgAt_set _ _ _ _ (by rw [hl]; exact hq), if_neg (Ne.symm hne), pgAt_set _ _ _ _ (by omega), if_neg (Ne.symm hi)]
  · unfold allocG
    rw [pgAt_set _ _ _ _ (by rw [hl]; exact hq), if_pos rfl]
  · rw [frG_cnt, frG_cnt, len]
    exact cntP_less hf now hq (fun i hi hne => by rw [b i hi, if_neg hne])
structure TookL (gs : List (List UInt8)) (ids : List Nat) (gs' : List (List UInt8)) : Prop where
  ok : GOK gs'
  len : gs'.length = gs.length
  all : ∀ q ∈ ids, q < gs.length ∧ q ≠ 0 ∧ isFG gs q = true ∧ isFG gs' q = false
  nodup : ids.Nodup
  bit : ∀ i, i < gs.length → i ∉ ids → isFG gs' i = isFG gs i
  pg : ∀ i, i ≠ 0 → i ∉ ids → pgAt gs' i = pgAt gs i
  cnt : frG gs = frG gs' + ids.length
theorem allocsG_took {gs : List (List UInt8)} (h : GOK gs) : ∀ {k : Nat}, k ≤ frG gs → TookL gs (allocsG gs k).1 (allocsG gs k).2 ∧ (allocsG gs k).1.length = k
  | 0, _ => ⟨⟨h, rfl, fun q hq => (List.not_mem_nil hq).elim, List.nodup_nil, fun _ _ _ => rfl, fun _ _ _ => rfl, rfl⟩, rfl⟩
  | k + 1, hk => by
    obtain ⟨ht, hl⟩ := allocsG_took h (k := k) (by omega)
    unfold allocsG allocStep
    generalize allocsG gs k = x at *
    obtain ⟨ids, g⟩ := x
    simp only at ht hl ⊢
    have hc := ht.cnt
    obtain ⟨h1, h2, _⟩ := firstQ_ok (gs := g) (by omega)
    generalize firstQ (pgAt g 0) g.length = q at *
    have tk := allocG_took ht.ok h1 h2
    have hlen := ht.len
    have hni : q ∉ ids := fun hm => by
      rw [(ht.all q hm).2.2.2] at h1; cases h1
    have hq : q < gs.length := by omega
    refine ⟨⟨tk.ok, by rw [tk.len, hlen], fun r hr => ?_, ?_, fun i hi hn => ?_, fun i hi hn => ?_, ?_⟩, by rw [List.length_append, hl]; rfl⟩
    · rw [List.mem_append, List.mem_singleton] at hr
      rcases hr with hr | rfl
      · obtain ⟨a, b, c, d⟩ := ht.all r hr
        exact ⟨a, b, c, by rw [tk.bit r (by omega) (fun e => hni (by rw [← e]; exact hr))]; exact d⟩
      · exact ⟨hq, tk.ne, by rw [← ht.bit r hq hni]; exact h1, tk.now⟩
    · rw [List.nodup_append]
      refine ⟨ht.nodup, List.nodup_cons.2 ⟨by simp, List.nodup_nil⟩, fun a ha b hb => ?_⟩
      rw [List.mem_singleton] at hb
      subst hb
      intro e
      subst e
      exact hni ha
    · rw [List.mem_append, List.mem_singleton, not_or] at hn
      rw [tk.bit i (by omega) hn.2, ht.bit i hi hn.1]
    · rw [List.mem_append, List.mem_singleton, not_or] at hn
      rw [tk.pg i hi hn.2, ht.pg i hi hn.1]
    · have := tk.cnt
      rw [List.length_append, List.length_singleton]
      omega
end Go.Proofs

namespace Go.Proofs
open Go.PW
def ChainR (gs : List (List UInt8)) : List Nat → List (List UInt8) → Prop
  | [], [] => True
  | p :: ps, l :: ls => (2 ≤ p ∧ p < gs.length ∧ isFG gs p = false) ∧ pgAt gs p = pad (cell (ps.headD 0) l) ∧ l.length ≤ 125 ∧ (ps ≠ [] → l.length = 125) ∧ ChainR gs ps ls
  | _, _ => False
structure Chain (gs : List (List UInt8)) (ids : List Nat) (s : List UInt8) : Prop where
  ne : ids ≠ []
  nd : ids.Nodup
  le : ids.length ≤ gs.length
  ex : ∃ ls, ChainR gs ids ls ∧ ls.flatten = s
theorem cell_len (nx : Nat) (l : List UInt8) : (cell nx l).length = 3 + l.length := by
  unfold cell two
  simp; omega
def lsK : Nat → List UInt8 → List (List UInt8)
  | 0, _ => []
  | k + 1, s => s.take 125 :: lsK k (s.drop 125)
theorem partH_next (s : List UInt8) (i : Nat) : partH s (i + 1) = partH (s.drop 125) i := by
  unfold partH
  rw [List.drop_drop]
  congr 2
  omega
theorem need_ge (n : Nat) : n ≤ 125 * need n ∧ 125 * (need n - 1) ≤ n ∧ 1 ≤ need n := by
  unfold need
  omega
theorem writes_ok {gs : List (List UInt8)} {ids : List Nat} {s : List UInt8} (h : GOK gs) (hids : ∀ q ∈ ids, q ≠ 0 ∧ q < gs.length) (hnd : ids.Nodup) : ∀ {i : Nat}, i ≤ ids.length →
    GOK (writesG gs ids s i) ∧ (writesG gs ids s i).length = gs.length ∧ (∀ j, (∀ t, t < i → ids.getD t 0 ≠ j) → pgAt (writesG gs ids s i) j = pgAt gs j) ∧ ∀ t, t < i → pgAt (writesG gs ids s i) (ids.getD t 0) = pad (cell (ids.getD (t + 1) 0) (partH s t))
  | 0, _ => ⟨h, rfl, fun _ _ => rfl, fun t ht => by omega⟩
  | i + 1, hi => by
    obtain ⟨g1, g2, g3, g4⟩ := writes_ok h hids hnd (s := s) (i := i) (by omega)
    have hm : ids.getD i 0 ∈ ids := by
      rw [List.getD_eq_getElem?_getD, List.getElem?_eq_getElem (by omega)]
      exact List.getElem_mem _
    obtain ⟨h0, hlt⟩ := hids _ hm
    have hpl : (pad (cell (ids.getD (i + 1) 0) (partH s i))).length = 128 := by
      refine pad_len ?_
      rw [cell_len]
      unfold partH
      rw [List.length_take]
      omega
    unfold writesG
    refine ⟨g1.set (by rw [g2]; exact hlt) hpl, by rw [List.length_set, g2], fun j hj => ?_, fun t ht => ?_⟩
    · rw [pgAt_set _ _ _ _ (by rw [g2]; exact hlt), if_neg (hj i (by omega))]
      exact g3 j fun t ht => hj t (by omega)
    · rw [pgAt_set _ _ _ _ (by rw [g2]; exact hlt)]
      by_cases e : t = i
      · subst e; rw [if_pos rfl]
      · rw [if_neg ?_]
        · exact g4 t (by omega)
        · intro he
          rw [List.getD_eq_getElem?_getD, List.getD_eq_getElem?_getD, List.getElem?_eq_getElem (by omega), List.getElem?_eq_getElem (by omega)] at he
          exact List.pairwise_iff_getElem.1 hnd t i (by omega) (by omega) (by omega) he.symm
structure PutR (gs gs' : List (List UInt8)) (ids : List Nat) (s : List UInt8) : Prop where
  ok : GOK gs'
  len : gs'.length = gs.length
  ch : Chain gs' ids s
  n : ids.length = need s.length
  was : ∀ q ∈ ids, isFG gs q = true
  bit : ∀ i, i < gs.length → i ∉ ids → isFG gs' i = isFG gs i
  pg : ∀ i, i ≠ 0 → i ∉ ids → pgAt gs' i = pgAt gs i
  cnt : frG gs = frG gs' + need s.length
theorem frG_le (gs : List (List UInt8)) : frG gs ≤ gs.length := freesK_le _ _
structure DropR (gs gs' : List (List UInt8)) (ids : List Nat) : Prop where
  ok : GOK gs'
  len : gs'.length = gs.length
  now : ∀ q ∈ ids, isFG gs' q = true
  bit : ∀ i, i < gs.length → i ∉ ids → isFG gs' i = isFG gs i
  pg : ∀ i, i ≠ 0 → pgAt gs' i = pgAt gs i
  cnt : frG gs' = frG gs + ids.length
theorem rowG_no {gs : List (List UInt8)} {id : Int} (h : isRec gs id = false) : rowG gs id = ([], [], 4) := by
  unfold rowG
  rw [if_pos h]
end Go.Proofs
