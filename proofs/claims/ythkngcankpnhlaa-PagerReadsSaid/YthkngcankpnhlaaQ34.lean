import Derived.Test.YthkngcankpnhlaaQ33
import Derived.Test.YthkngcankpnhlaaQ24

/-
  The pager: Commit, a crash, Open, on what lies there.
-/

namespace Go.Proofs
open Go.PW
theorem scan_no (t : Nat) : ∀ (k i : Nat) (x : Sc), scanK (fun _ => none) t k i x = x
  | 0, _, _ => rfl
  | _ + 1, _, _ => rfl
/-- A new disk has nothing of a log. -/
theorem op_new {N f n : Nat} (h1 : 4 ≤ n) (h2 : n ≤ 1000) (h3 : f + n ≤ N) (h4 : N ≤ 4096) : OpAt (newD N) f n 0 0 0 0 (fun _ => none) :=
  ⟨h1, h2, h3, h4, by show 0 + 1 ≤ _; omega, fun i _ => by rw [rd_new, zeros_len]; omega, by rw [rd_new]; exact tell_zeros, by rw [rd_new]; exact tell_zeros, fun i _ => by rw [rd_new]; exact at_zeros i⟩
theorem opL_new (f n : Nat) : opL f n 0 0 0 0 (fun _ => none) = ⟨f, n - 2, 1, 0, 0, [], false⟩ := by
  unfold opL opX
  rw [scan_no]; rfl
section px
variable {H : HMap} {A : AMap} {k did pid lid : Nat} {κm κc κr κp : Tok} {N logs T : Nat} {d : Dk} {l : Lg} {p : Pg} {ch : List (Int × List UInt8)} {b : Nat → List UInt8}
theorem PSt.commit (h : PSt N logs T d l p) (hb : ∀ j, j < N - logs → rd d ((logs + j : Nat) : Int) = b j) (hT : T < 1000000) (hfit : needN (recK p.ch (N - logs)).length ≤ logs - 2) :
    PSt N logs (T + 1) (cmD d l p (recK p.ch (pgN d p))) { l with turn := l.turn + 1, base := l.turn + 1, used := 0, recs := [] } { p with ch := [] } ∧ ∀ j, j < N - logs → rd (cmD d l p (recK p.ch (pgN d p))) ((logs + j : Nat) : Int) = ct b p.ch j := by
  obtain ⟨n1, n2, n3, n4, n5, n6, n7, n8, m1, m2, m3, m4, m5, m6, _⟩ := h.num
  obtain ⟨B, S, hp⟩ := h.pi
  have hpl := partsL_len (recK p.ch (N - logs))
  have hp1 := h.p1
  have e : cmD d l p (recK p.ch (pgN d p)) = nextD (flD (homeD (flD (apD l (recK p.ch (N - logs)) (partsL (recK p.ch (N - logs))).length (partsL (recK p.ch (N - logs))) d (partsL (recK p.ch (N - logs))).length)) logs p.ch (N - logs))) 0 (T + 1) (T + 1) := by
    unfold cmD
    rw [n7, m1, m3, hp1]
  have p1 := hp.append (l := l) m1 m3 (by rw [m4]; rfl) (by rw [n8]; rfl) (recK p.ch (N - logs)) (by rw [m4]; omega) (partsL (recK p.ch (N - logs))).length (Nat.le_refl _)
  have hac := (apD_spec l (recK p.ch (N - logs)) (partsL (recK p.ch (N - logs))).length (partsL (recK p.ch (N - logs))) d (partsL (recK p.ch (N - logs))).length)
  have hr : ∀ (t : Nat) (s : List UInt8), (pcs [(t, s)]).length = (partsL s).length := fun t s => by
    show (pcsR t s ++ []).length = _
    rw [List.append_nil]
    unfold pcsR
    rw [pcK_len]
  obtain ⟨R1, p2⟩ := p1.commit (by rw [hac.2.1, n8]; show 0 + _ = _; rw [List.nil_append, hr, Nat.zero_add])
  have rap : ∀ j : Nat, rd (apD l (recK p.ch (N - logs)) (partsL (recK p.ch (N - logs))).length (partsL (recK p.ch (N - logs))) d (partsL (recK p.ch (N - logs))).length) ((logs + j : Nat) : Int) = rd d ((logs + j : Nat) : Int) := fun j => rd_ap fun i hi => by rw [m1, m4]; omega
  have rfl2 := rd_fl (ap_g hp.g l (recK p.ch (N - logs)) (partsL (recK p.ch (N - logs))).length (partsL (recK p.ch (N - logs))) (partsL (recK p.ch (N - logs))).length)
  have hfu2 : (flD (apD l (recK p.ch (N - logs)) (partsL (recK p.ch (N - logs))).length (partsL (recK p.ch (N - logs))) d (partsL (recK p.ch (N - logs))).length)).fused = false := hac.2.2.1.trans h.fu
  generalize apD l (recK p.ch (N - logs)) (partsL (recK p.ch (N - logs))).length (partsL (recK p.ch (N - logs))) d (partsL (recK p.ch (N - logs))).length = d1 at *
  have p3 := p2.home (logs := logs) (K := N - logs) (m := p.ch) h.ks.find (by omega)
  have hg3 := home_g p2.g logs p.ch (N - logs)
  obtain ⟨R2, p4⟩ := p3.reset hT
  have hrd : ∀ j, j < N - logs → rd (cmD d l p (recK p.ch (pgN d p))) ((logs + j : Nat) : Int) = ct b p.ch j := fun j hj => by
    rw [e]
    show rd (flD (wrD _ _ _)) _ = _
    rw [rd_fl (hg3.fl.wr _ _), rd_wr, if_neg (by omega), rd_fl hg3, rd_home_in hj]
    unfold ct
    cases hv : valR (j : Int) p.ch with
    | none =>
      show rd (flD d1) _ = _
      rw [rfl2, rap j]; exact hb j hj
    | some s => exact pad_full (h.ks.len _ (valR_mem hv))
  refine ⟨⟨⟨T + 1, R2, by rw [e]; exact p4⟩, ⟨T + 1, ?_⟩, ?_, hp1, h.p2, KsOK.nil _, fun j hj => ?_, h.big⟩, hrd⟩
  · obtain ⟨b', hl⟩ := h.lg
    rw [hl]
  · rw [e]
    show (homeD (flD d1) logs p.ch (N - logs)).fused = false
    rw [homeD_fused]; exact hfu2
  · rw [hrd j hj, ← h.cts hb j hj]; exact h.len j hj
theorem Try.pCommit (off : Nat) (h : PX H A k did pid N logs T ch b) (hk : k + 4 ≤ off) (hT : T < 1000000) (hne : ch ≠ []) (hs : (recK ch (N - logs)).length ≤ 5000) (hfit : needN (recK ch (N - logs)).length ≤ logs - 2) :
    PSO off Try.prog 20 H A [.c (.ptr pid 0)] (pD (.lit (.int .i64 0))) (k + 3) did pid N logs (T + 1) [] (ct b ch) := by
  obtain ⟨lid, κm, κc, κr, κp, d, l, p, hx, rfl, hb⟩ := h
  obtain ⟨n1, n2, n3, n4, n5, n6, n7, n8, m1, m2, m3, m4, m5, m6, m7⟩ := hx.st.num
  obtain ⟨q1, q2, q3, q4, q5, q6, q7, q8, q9⟩ := hx.kp
  obtain ⟨st', hrd⟩ := hx.st.commit hb hT hfit
  have hle := hx.st.ks.le
  have hn := hx.lw.ne
  obtain ⟨H', A', e, L', g', pg', fH, fA, kH, kA⟩ := Try.tCommitP off hx.lw hk hx.pg hx.st.p2 hne hx.lg m6 (by rw [hx.st.p1]; omega) (by omega) (by omega) (by omega) (by rw [m5]; exact Nat.zero_le _) hx.st.fu (by omega) hx.st.ks.find (by rw [n7]; exact hs) (by rw [n7, m4, m2]; omega) (by omega) (by omega) (by omega) hx.ne q2
  rw [n7, hx.st.ks.gone] at pg'
  refine ⟨H', A', e, ⟨lid, κm, (k + 2, 0), (k + 2, 1), κp, _, _, _, ⟨L', g', pg', hx.ne, st', fun j hj => ⟨?_, fun q => ?_⟩⟩, rfl, hrd⟩, kH, kA⟩
  · rw [fH j (by omega) (by omega)]; exact (hx.lo j hj).1
  · rw [fA _ (tok_ne (by show j ≠ κm.1; omega)) (tok_ne (by show j ≠ κc.1; omega)) (tok_ne (by show j ≠ κr.1; omega)) (tok_ne (by show j ≠ κp.1; omega)) (by show j < k; omega)]
    exact (hx.lo j hj).2 q
theorem Try.pCommit0 (off : Nat) (h : PX H A k did pid N logs T ch b) (hne : ch = []) : EffOK Try.prog 20 off H A [.c (.ptr pid 0)] (pD (.lit (.int .i64 0))) H A := by
  obtain ⟨lid, κm, κc, κr, κp, d, l, p, hx, rfl, hb⟩ := h
  exact Try.kPgCommit0 off hx.lw.wf hx.pg hx.st.p2 hne
theorem Try.pCommitB (off : Nat) (h : PX H A k did pid N logs T ch b) (hne : ch ≠ []) (hs : (recK ch (N - logs)).length ≤ 100000) (hfit : ¬ needN (recK ch (N - logs)).length ≤ logs - 2) : EffOK Try.prog 20 off H A [.c (.ptr pid 0)] (pD (.lit (.int .i64 3))) H A := by
  obtain ⟨lid, κm, κc, κr, κp, d, l, p, hx, rfl, hb⟩ := h
  obtain ⟨n1, n2, n3, n4, n5, n6, n7, n8, m1, m2, m3, m4, m5, m6, m7⟩ := hx.st.num
  have hle := hx.st.ks.le
  exact Try.kPgCommitB off hx.lw.wf hx.pg hx.st.p2 hne hx.lw.dk (by rw [hx.st.p1]; omega) (by omega) hx.lg (by rw [n7, m4, m2]; omega) (by omega) (by omega) (by omega) hx.st.ks.find (by rw [n7]; exact hs)
/-- A disk that is ready to be opened. -/
def DX (H : HMap) (A : AMap) (k did N logs T : Nat) (b : Nat → List UInt8) : Prop :=
  ∃ κm κc d t0 b0 t1 b1 R B, LW H A k did κm κc d ∧ OpAt d 0 logs t0 b0 t1 b1 R ∧ opL 0 logs t0 b0 t1 b1 R = ⟨0, logs - 2, T + 1, B, 0, [], false⟩ ∧ (∃ S, PI (nextD d 0 (opT t0 t1 + 1) (opB t0 b0 t1 b1)) 0 logs N (T + 1) B [] [] S) ∧
    d.fused = false ∧ DkG d ∧ (N ≤ logs + 1024 ∧ logs < N) ∧ (∀ j, j < N - logs → rd d ((logs + j : Nat) : Int) = b j ∧ (b j).length = 128) ∧ ∀ j, j < 200 → H j = none ∧ ∀ q, A (j, q) = none
theorem Try.pCrash (off : Nat) (h : PX H A k did pid N logs T ch b) (hT : T < 1000000) : ∃ H' A', EffOK Try.prog 27 off H A [.c (.ptr did 0), .c (.d (.sl []))] (pD (.lit (.int .i64 0))) H' A' ∧ DX H' A' (k + 1) did N logs T b := by
  obtain ⟨lid, κm, κc, κr, κp, d, l, p, hx, rfl, hb⟩ := h
  obtain ⟨n1, n2, n3, n4, n5, n6, n7, n8, m1, m2, m3, m4, m5, m6, m7⟩ := hx.st.num
  obtain ⟨q1, q2, q3, q4, q5, q6, q7, q8, q9⟩ := hx.kp
  obtain ⟨B, S, hp⟩ := hx.st.pi
  have hn := hx.lw.ne
  obtain ⟨H', A', e, L', _, fH, fA, _⟩ := Try.tCrash off hx.lw (by omega) (by omega) [] (Nat.zero_le _)
  obtain ⟨t0, b0, t1, b1, R, m, c1, c2, c3, _, c5, c6⟩ := hp.crash hT []
  rw [List.take_nil, List.append_nil] at c5 c6
  have hrd : ∀ j, rd (crD d []) j = rd d j := fun j => by
    rw [rd_cr hp.g, show keptL d.cache [] = [] by unfold keptL; simp, rd_eq, hx.st.cache]
  refine ⟨H', A', e, κm, (k, 0), crD d [], t0, b0, t1, b1, R, B, L', c1, c5, ⟨R, by rw [c2, c3]; exact c6⟩, rfl, hp.g.cr [], hx.st.big, fun j hj => ?_, fun j hj => ⟨?_, fun q => ?_⟩⟩
  · rw [hrd, hb j hj]
    exact ⟨rfl, by rw [← hb j hj]; exact hx.st.sec j hj⟩
  · rw [fH j (by omega)]; exact (hx.lo j hj).1
  · rw [fA _ (tok_ne (by show j ≠ κm.1; omega)) (by show j < k; omega)]
    exact (hx.lo j hj).2 q
/-- A new disk. -/
theorem DX.new {κm κc : Tok} (hL : LW H A k did κm κc (newD N)) (h1 : 4 ≤ logs) (h2 : logs ≤ 1000) (h3 : logs < N) (h4 : N ≤ 4096) (h5 : N ≤ logs + 1024) (lo : ∀ j, j < 200 → H j = none ∧ ∀ q, A (j, q) = none) : DX H A k did N logs 0 (fun _ => zeros) :=
  ⟨κm, κc, newD N, 0, 0, 0, 0, _, 0, hL, op_new h1 h2 (by omega) h4, opL_new _ _, ⟨_, PI.fresh h1 h2 (by omega) h4⟩, rfl, DkG_new N, ⟨h5, h3⟩, fun j _ => ⟨rd_new _ _, zeros_len⟩, lo⟩
theorem Try.pOpen (off : Nat) (h : DX H A k did N logs T b) (hk : k + 2 ≤ off) : ∃ H' A', EffOK Try.prog 10 off H A [.c (.ptr did 0), pD (.lit (.int .i64 logs))] (.tup [.c (.ptr (k + 1) 0), .c (.d (.lit (.int .i64 0)))]) H' A' ∧ PX H' A' (k + 2) did (k + 1) N logs (T + 1) [] b := by
  obtain ⟨κm, κc, d, t0, b0, t1, b1, R, B, L, ho, el, ⟨S, hp⟩, hf, hg, hbig, hb, lo⟩ := h
  have hdn : d.n = N := hp.dn
  have hn := L.ne
  obtain ⟨H', A', e, L', g', pg', fH, fA⟩ := Try.tOpenP off L hk ho (by omega) (by omega) hf (by rw [el])
  have hm2 : 200 ≤ κm.1 := Nat.le_of_not_lt fun h => by have := L.dk.m; rw [(lo _ h).2 κm.2] at this; cases this
  have hc2 : 200 ≤ κc.1 := Nat.le_of_not_lt fun h => by have := L.dk.c; rw [(lo _ h).2 κc.2] at this; cases this
  have hd2 : 200 ≤ did := Nat.le_of_not_lt fun h => by have := L.dk.h; rw [(lo _ h).1] at this; cases this
  rw [el] at g'
  have hrd : ∀ j, j < N - logs → rd (nextD d 0 (opT t0 t1 + 1) (opB t0 b0 t1 b1)) ((logs + j : Nat) : Int) = b j := fun j hj => by
    have h1 := ho.n1
    show rd (flD (wrD _ _ _)) _ = _
    rw [rd_fl (hg.wr _ _), rd_wr, if_neg (by omega)]
    exact (hb j hj).1
  refine ⟨H', A', e, k, κm, (k, 1), (k, 0), (k + 1, 0), _, _, _, ⟨L', g', pg', tok_ne (by show k + 1 ≠ κm.1; omega), ⟨⟨B, S, hp⟩, ⟨B, rfl⟩, hf, rfl, rfl, KsOK.nil _, fun j hj => ?_, hbig⟩, fun j hj => ⟨?_, fun q => ?_⟩⟩, rfl, hrd⟩
  · rw [hrd j hj]; exact (hb j hj).2
  · rw [fH j (by omega) (by omega) (by omega)]; exact (lo j hj).1
  · rw [fA _ (tok_ne (by show j ≠ κm.1; omega)) (tok_ne (by show j ≠ κc.1; omega)) (by show j < k; omega)]
    exact (lo j hj).2 q
end px
end Go.Proofs

/-
  What the pager's laws call beside it: Ints, Pad, pages; an Open that is refused.
-/


namespace Go.Proofs
open Go.PW
set_option maxRecDepth 8000 in
set_option maxHeartbeats 8000000 in
theorem Try.kInts (a b : List Int) (ha : a.length ≤ 1000000) : PureOK Try.prog 40 [.c (.d (.sl (ints a))), .c (.d (.sl (ints b)))] (.one (.d (.lit (.bool (a == b))))) := by
  refine Try.pure (md := []) Try.func40 rfl Try.call40 (by kernel_rfl) (by rfl) (by exact Nat.le_of_ble_eq_true rfl) ?_
  have la := ints_len a
  have lb := ints_len b
  by_cases hl : a.length = b.length
  · have hne : (((ints a).length : Int) != ((ints b).length : Int)) = false := by rw [la, lb, hl]; simp
    repeat' (first
     | with_reducible first | refine VC_seq fun K hK => ?_ | refine W_region ?_ | refine VC_block ?_ | refine VC_scope ?_ | refine VC_if ?_ | refine VC_skip ?_ | refine VC_exit ?_ | refine VC_ret ?_
     | (with_reducible first | refine G_not (fun h => ?_) (fun h => ?_) | refine G_cases (fun h => ?_) (fun h => ?_)) <;> (try simp only [h])
     | with_reducible first | (refine hK _ ?_; clear hK K) | (clear hK K; refine hK _ ?_; clear hK K) | (clear hK K; clear hK K; refine hK _ ?_; clear hK K) | (clear hK K; clear hK K; clear hK K; refine hK _ ?_; clear hK K)
     | (with_reducible refine todo ?_; simp +decide only [go_sem, hne]))
    refine VC_range a.length (fun i => a.take i = b.take i) (fun i => frame [(0, .c (.d (.sl (ints a)))), (1, .c (.d (.sl (ints b)))), (5, pD (.lit (.int .i64 i)))] [] []) rfl ?_ ?_
    · refine Weak_frame ?_ ?_ ?_ <;> simp +decide only [go_sem]
    · intro i hi h0
      rcases Nat.lt_or_ge i a.length with hi2 | hi2
      · have hc := int_lt_true hi2
        rw [← la] at hc
        have hnx := int_next hi2 (by omega)
        have g1 := ints_get hi2
        have g2 := ints_get (l := b) (i := i) (by omega)
        cases hq : (a[i] != b[i]) with
        | false =>
          have hq' : a[i] = b[i] := by simpa using hq
          repeat' (first
           | with_reducible first | refine VC_seq fun K hK => ?_ | refine W_region ?_ | refine VC_block ?_ | refine VC_scope ?_ | refine VC_if ?_ | refine VC_skip ?_ | refine VC_exit ?_ | refine VC_ret ?_
           | (with_reducible first | refine G_not (fun h => ?_) (fun h => ?_) | refine G_cases (fun h => ?_) (fun h => ?_)) <;> (try simp only [h])
           | with_reducible first | (refine hK _ ?_; clear hK K) | (clear hK K; refine hK _ ?_; clear hK K) | (clear hK K; clear hK K; refine hK _ ?_; clear hK K) | (clear hK K; clear hK K; clear hK K; refine hK _ ?_; clear hK K)
           | (with_reducible refine todo ?_; simp +decide only [go_sem, hc, hnx, g1, g2, hq]))
          refine Next_of hi2 ?_ (Weak_frame ?_ ?_ ?_)
          · rw [List.take_add_one, List.take_add_one, h0, List.getElem?_eq_getElem hi2, List.getElem?_eq_getElem (l := b) (by omega), hq']
          · simp +decide only [go_sem]
          · simp +decide only [go_sem]
          · simp +decide only [go_sem]
        | true =>
          have hab : (a == b) = false := by
            rw [beq_eq_false_iff_ne]
            intro e
            subst e
            simp at hq
          repeat' (first
           | with_reducible first | refine VC_seq fun K hK => ?_ | refine W_region ?_ | refine VC_block ?_ | refine VC_scope ?_ | refine VC_if ?_ | refine VC_skip ?_ | refine VC_exit ?_ | refine VC_ret ?_
           | (with_reducible first | refine G_not (fun h => ?_) (fun h => ?_) | refine G_cases (fun h => ?_) (fun h => ?_)) <;> (try simp only [h])
           | with_reducible first | (refine hK _ ?_; clear hK K) | (clear hK K; refine hK _ ?_; clear hK K) | (clear hK K; clear hK K; refine hK _ ?_; clear hK K) | (clear hK K; clear hK K; clear hK K; refine hK _ ?_; clear hK K)
           | (with_reducible refine todo ?_; simp +decide only [go_sem, hc, g1, g2, hq]))
          rw [hab]
          exact Ret_d rfl rfl
      · have hc := int_lt_false hi2
        rw [← la] at hc
        rw [List.take_of_length_le hi2, List.take_of_length_le (by omega)] at h0
        subst h0
        repeat' (first
         | with_reducible first | refine VC_seq fun K hK => ?_ | refine W_region ?_ | refine VC_block ?_ | refine VC_scope ?_ | refine VC_if ?_ | refine VC_skip ?_ | refine VC_exit ?_ | refine VC_ret ?_
         | (with_reducible first | refine G_not (fun h => ?_) (fun h => ?_) | refine G_cases (fun h => ?_) (fun h => ?_)) <;> (try simp only [h])
         | with_reducible first | (refine hK _ ?_; clear hK K) | (clear hK K; refine hK _ ?_; clear hK K) | (clear hK K; clear hK K; refine hK _ ?_; clear hK K) | (clear hK K; clear hK K; clear hK K; refine hK _ ?_; clear hK K)
         | (with_reducible refine todo ?_; simp +decide only [go_sem, hc]))
        exact Ret_d rfl rfl
  · have hne : (((ints a).length : Int) != ((ints b).length : Int)) = true := by rw [la, lb]; simp; omega
    have hab : (a == b) = false := by
      rw [beq_eq_false_iff_ne]
      intro e
      exact hl (by rw [e])
    repeat' (first
     | with_reducible first | refine VC_seq fun K hK => ?_ | refine W_region ?_ | refine VC_block ?_ | refine VC_scope ?_ | refine VC_if ?_ | refine VC_skip ?_ | refine VC_exit ?_ | refine VC_ret ?_
     | (with_reducible first | refine G_not (fun h => ?_) (fun h => ?_) | refine G_cases (fun h => ?_) (fun h => ?_)) <;> (try simp only [h])
     | with_reducible first | (refine hK _ ?_; clear hK K) | (clear hK K; refine hK _ ?_; clear hK K) | (clear hK K; clear hK K; refine hK _ ?_; clear hK K) | (clear hK K; clear hK K; clear hK K; refine hK _ ?_; clear hK K)
     | (with_reducible refine todo ?_; simp +decide only [go_sem, hne]))
    rw [hab]
    exact Ret_d rfl rfl
theorem pad_step {s : List UInt8} (h : s.length < 128) : pad (s ++ [0]) = pad s := by
  unfold pad zeros
  rw [List.drop_replicate, List.drop_replicate, List.length_append, List.append_assoc]
  congr 1
  show [0] ++ List.replicate (128 - (s.length + 1)) 0 = _
  rw [show 128 - s.length = (128 - (s.length + 1)) + 1 by omega, List.replicate_succ]
  rfl
theorem pad_big {s : List UInt8} (h : 128 ≤ s.length) : pad s = s := by
  unfold pad
  rw [List.drop_of_length_le (by rw [zeros_len]; omega), List.append_nil]
set_option maxRecDepth 8000 in
set_option maxHeartbeats 8000000 in
theorem Try.kPad (s : List UInt8) (hs : s.length ≤ 1000000) : PureOK Try.prog 13 [pD (dS s)] (.one (.d (dS (pad s)))) := by
  refine Try.pure (md := []) Try.func13 rfl Try.call13 (by kernel_rfl) (by rfl) (by exact Nat.le_of_ble_eq_true rfl) ?_
  repeat' (first
   | with_reducible first | refine VC_seq fun K hK => ?_ | refine W_region ?_ | refine VC_block ?_ | refine VC_scope ?_ | refine VC_if ?_ | refine VC_skip ?_ | refine VC_exit ?_ | refine VC_ret ?_
   | (with_reducible first | refine G_not (fun h => ?_) (fun h => ?_) | refine G_cases (fun h => ?_) (fun h => ?_)) <;> (try simp only [h])
   | with_reducible first | (refine hK _ ?_; clear hK K) | (clear hK K; refine hK _ ?_; clear hK K) | (clear hK K; clear hK K; refine hK _ ?_; clear hK K) | (clear hK K; clear hK K; clear hK K; refine hK _ ?_; clear hK K)
   | (with_reducible refine todo ?_; simp +decide only [go_sem]))
  refine VC_while (ι := List UInt8) (fun x => pad x = pad s ∧ x.length ≤ 1000000) (fun x => frame [(0, pD (dS x))] [] []) (fun x => 128 - x.length) s ⟨rfl, hs⟩ ?_ ?_
  · refine Weak_frame ?_ ?_ ?_ <;> simp +decide only [go_sem]
  · rintro x ⟨h1, h2⟩
    by_cases h : x.length < 128
    · have hc : ((x.length : Int) < 128) = True := eq_true (by omega)
      have s1 : (x.length + 1 ≤ 9223372036854775807) = True := eq_true (by omega)
      repeat' (first
       | with_reducible first | refine VC_seq fun K hK => ?_ | refine W_region ?_ | refine VC_block ?_ | refine VC_scope ?_ | refine VC_if ?_ | refine VC_skip ?_ | refine VC_exit ?_ | refine VC_ret ?_
       | (with_reducible first | refine G_not (fun h => ?_) (fun h => ?_) | refine G_cases (fun h => ?_) (fun h => ?_)) <;> (try simp only [h])
       | with_reducible first | (refine hK _ ?_; clear hK K) | (clear hK K; refine hK _ ?_; clear hK K) | (clear hK K; clear hK K; refine hK _ ?_; clear hK K) | (clear hK K; clear hK K; clear hK K; refine hK _ ?_; clear hK K)
       | (with_reducible refine todo ?_; simp +decide only [go_sem, hc, s1]))
      exact ⟨⟨x ++ [0], (pad_step h).trans h1, by rw [List.length_append, List.length_singleton]; omega⟩, by refine Weak_frame ?_ ?_ ?_ <;> simp +decide only [go_sem], by show 128 - (x ++ [0]).length < 128 - x.length; rw [List.length_append, List.length_singleton]; omega⟩
    · have hc : ((x.length : Int) < 128) = False := eq_false (by omega)
      have hx : pad x = x := pad_big (by omega)
      repeat' (first
       | with_reducible first | refine VC_seq fun K hK => ?_ | refine W_region ?_ | refine VC_block ?_ | refine VC_scope ?_ | refine VC_if ?_ | refine VC_skip ?_ | refine VC_exit ?_ | refine VC_ret ?_
       | (with_reducible first | refine G_not (fun h => ?_) (fun h => ?_) | refine G_cases (fun h => ?_) (fun h => ?_)) <;> (try simp only [h])
       | with_reducible first | (refine hK _ ?_; clear hK K) | (clear hK K; refine hK _ ?_; clear hK K) | (clear hK K; clear hK K; refine hK _ ?_; clear hK K) | (clear hK K; clear hK K; clear hK K; refine hK _ ?_; clear hK K)
       | (with_reducible refine todo ?_; simp +decide only [go_sem, hc]))
      rw [← h1, hx]
      exact Ret_d rfl rfl
section px
variable {H : HMap} {A : AMap} {k did pid lid : Nat} {κm κc κr κp : Tok} {N logs T : Nat} {d : Dk} {ch : List (Int × List UInt8)} {b : Nat → List UInt8}
set_option maxRecDepth 8000 in
set_option maxHeartbeats 8000000 in
theorem Try.kOpenBad (off : Nat) (hw : Wf H A) (hd : DkAt H A did κm κc d) (logs : Nat) (hn : d.n ≤ logs) (hl : logs ≤ 4096) : EffOK Try.prog 10 off H A [.c (.ptr did 0), pD (.lit (.int .i64 logs))] (.tup [.c (.d (.lit (.pointer none))), .c (.d (.lit (.int .i64 1)))]) H A := by
  refine effr_ok (E := envOf Try.prog [30, 31, 32] off [] []) (envOf_ok Try.mixed) Try.func10 rfl Try.call10 (by kernel_rfl) (by exact Nat.le_of_ble_eq_true rfl) (fun hab => ?_)
  have kl := Try.kLen (off + 1000) hw hd
  have c1 : IntKind.i64.wrap ((d.n : Int) - (logs : Int)) = (d.n : Int) - (logs : Int) := Go.IntWalk.i64_in _ (by omega)
  have z2 : ((d.n : Int) - (logs : Int) < 1) = True := eq_true (by omega)
  by_cases h0 : d.n = 0
  · have z1 : ((d.n : Int) == 0) = true := by rw [h0]; rfl
    repeat' (first
     | with_reducible first | refine VC_seq fun K hK => ?_ | refine W_region ?_ | refine VC_block ?_ | refine VC_scope ?_ | refine VC_if ?_ | refine VC_skip ?_ | refine VC_exit ?_ | refine VC_ret ?_
     | (with_reducible first | refine G_not (fun h => ?_) (fun h => ?_) | refine G_cases (fun h => ?_) (fun h => ?_)) <;> (try simp only [h])
     | refine C_call rfl kl rfl (Above_mono hab (by omega)) ?_
     | with_reducible first | (refine hK _ ?_; clear hK K) | (clear hK K; refine hK _ ?_; clear hK K) | (clear hK K; clear hK K; refine hK _ ?_; clear hK K) | (clear hK K; clear hK K; clear hK K; refine hK _ ?_; clear hK K)
     | (with_reducible refine todo ?_; simp +decide only [go_sem, c1, z1]))
    exact RetR_same rfl wk_pair oks_pair hw kp_refl (fun _ _ => rfl)
  · have z1 : ((d.n : Int) == 0) = false := by rw [beq_eq_false_iff_ne]; omega
    repeat' (first
     | with_reducible first | refine VC_seq fun K hK => ?_ | refine W_region ?_ | refine VC_block ?_ | refine VC_scope ?_ | refine VC_if ?_ | refine VC_skip ?_ | refine VC_exit ?_ | refine VC_ret ?_
     | (with_reducible first | refine G_not (fun h => ?_) (fun h => ?_) | refine G_cases (fun h => ?_) (fun h => ?_)) <;> (try simp only [h])
     | refine C_call rfl kl rfl (Above_mono hab (by omega)) ?_
     | with_reducible first | (refine hK _ ?_; clear hK K) | (clear hK K; refine hK _ ?_; clear hK K) | (clear hK K; clear hK K; refine hK _ ?_; clear hK K) | (clear hK K; clear hK K; clear hK K; refine hK _ ?_; clear hK K)
     | (with_reducible refine todo ?_; simp +decide only [go_sem, c1, z1, z2]))
    exact RetR_same rfl wk_pair oks_pair hw kp_refl (fun _ _ => rfl)
theorem Try.pOpenBad (off : Nat) (h : PX H A k did pid N logs T ch b) (n : Nat) (hn : N ≤ n) (hl : n ≤ 4096) : EffOK Try.prog 10 off H A [.c (.ptr did 0), pD (.lit (.int .i64 n))] (.tup [.c (.d (.lit (.pointer none))), .c (.d (.lit (.int .i64 1)))]) H A := by
  obtain ⟨lid, κm, κc, κr, κp, d, l, p, hx, rfl, hb⟩ := h
  obtain ⟨n1, _⟩ := hx.st.num
  exact Try.kOpenBad off hx.lw.wf hx.lw.dk n (by omega) hl
/-- All pages, as they are read. -/
def pgsL (b : Nat → List UInt8) (ch : List (Int × List UInt8)) (n : Nat) : List (List UInt8) := (List.range n).map (ct b ch)
theorem pgsL_next (b : Nat → List UInt8) (ch : List (Int × List UInt8)) (n : Nat) : pgsL b ch (n + 1) = pgsL b ch n ++ [ct b ch n] := by
  unfold pgsL
  rw [List.range_succ, List.map_append]; rfl
theorem pgsL_len (b : Nat → List UInt8) (ch : List (Int × List UInt8)) (n : Nat) : (pgsL b ch n).length = n := by simp [pgsL]
set_option maxRecDepth 8000 in
set_option maxHeartbeats 16000000 in
theorem Try.pPages (off : Nat) (h : PX H A k did pid N logs T ch b) : EffOK Try.prog 24 off H A [.c (.ptr pid 0)] (.c (.d (.sl (textsD (pgsL b ch (N - logs)))))) H A := by
  refine effr_ok (E := envOf Try.prog [22, 12] off [] []) (envOf_ok Try.mixed) Try.func24 rfl Try.call24 (by kernel_rfl) (by exact Nat.le_of_ble_eq_true rfl) (fun hab => ?_)
  obtain ⟨n1, n2, n3, n4, n5, n6, n7, n8, n9, n10, hw, hab0, hd0, hp0, _⟩ := h.nums
  have ha : A (off + 22, 0) = none := (hab _ (Nat.le_add_right _ _)).2 _
  have hptr : ∀ {X Y : AMap}, PV.wk (hOver [] H) X Y (.c (.ptr pid 0)) (.c (.ptr pid 0)) = True := eq_true (wkP_ptr (by show H pid ≠ none; exact hp0))
  have kl := Try.pLen (off + 1000) h
  have kr := fun i hi => Try.pRead (off + 1000) h i hi
  have hok2 : ∀ {x : D}, ∀ y ∈ ([.c (.ptr pid 0), .c (.d x)] : List PV), y.oks (fun i => H i ≠ none) (fun τ => A τ ≠ none) := fun {x} y hy => by
    simp only [List.mem_cons, List.not_mem_nil, or_false] at hy
    rcases hy with rfl | rfl
    · exact hp0
    · exact True.intro
  generalize hM : N - logs = M at *
  repeat' (first
   | with_reducible first | refine VC_seq fun K hK => ?_ | refine W_region ?_ | refine VC_block ?_ | refine VC_scope ?_ | refine VC_if ?_ | refine VC_skip ?_ | refine VC_exit ?_ | refine VC_ret ?_
   | (with_reducible first | refine G_not (fun h => ?_) (fun h => ?_) | refine G_cases (fun h => ?_) (fun h => ?_)) <;> (try simp only [h])
   | with_reducible first | (refine hK _ ?_; clear hK K) | (clear hK K; refine hK _ ?_; clear hK K) | (clear hK K; clear hK K; refine hK _ ?_; clear hK K) | (clear hK K; clear hK K; clear hK K; refine hK _ ?_; clear hK K)
   | (with_reducible refine todo ?_; simp +decide only [go_sem]))
  refine VC_range M (fun _ => True) (fun i => overA [(0, .c (.ptr pid 0)), (3, .c (.own (off + 22, 0) (textsD (pgsL b ch i)))), (4, pD (.lit (.int .i64 i)))] []
    [((off + 22, 0), .co 1 i)] H A) True.intro ?_ ?_
  · refine Weak_overA hw kp_refl (fun _ _ => rfl) (fun q hq => by rw [List.mem_singleton.1 hq]; exact ha) ?_ ?_ ?_ (fun _ h => h) (fun _ h => h)
    · simp +decide only [go_sem, hptr]
      exact wkP_new ha (sz := 1) (if_pos rfl)
    · simp +decide only [go_sem]
    · simp +decide only [go_sem, ha]
  · intro i hi _
    have hoth : ∀ κ, A κ ≠ none → κ ≠ (off + 22, 0) := fun κ hκ e => hκ (by rw [e]; exact ha)
    rcases Nat.lt_or_ge i M with hi2 | hi2
    · have hc := int_lt_true hi2
      have hnx := int_next hi2 (by omega)
      have kri := eff_frameA (κ := (off + 22, 0)) (ar := .co 1 i) (kr i hi2) hw hok2 ha ha
      have kli := eff_frameA (κ := (off + 22, 0)) (ar := .co 1 i) kl hw (oks_ptr1 hp0) ha ha
      have hab2 : Above (off + 1000) H (upd A (off + 22, 0) (some (.co 1 i))) := Above_updA (Above_mono hab (by omega)) (by show off + 22 < off + 1000; omega)
      have hil : (textsD (pgsL b ch i)).length = i := by rw [textsD_len, pgsL_len]
      have e := pgsL_next b ch i
      repeat' (first
       | with_reducible first | refine VC_seq fun K hK => ?_ | refine W_region ?_ | refine VC_block ?_ | refine VC_scope ?_ | refine VC_if ?_ | refine VC_skip ?_ | refine VC_exit ?_ | refine VC_ret ?_
       | (with_reducible first | refine G_not (fun h => ?_) (fun h => ?_) | refine G_cases (fun h => ?_) (fun h => ?_)) <;> (try simp only [h])
       | refine C_call rfl kli rfl hab2 ?_
       | refine C_call rfl kri rfl hab2 ?_
       | (refine W_own Try.appT rfl (szd_texts _) (szOne rfl) (by rw [hil]; simp only [List.length_singleton]; omega) (by rw [hil]; exact if_pos rfl) ?_)
       | with_reducible first | (refine hK _ ?_; clear hK K) | (clear hK K; refine hK _ ?_; clear hK K) | (clear hK K; clear hK K; refine hK _ ?_; clear hK K) | (clear hK K; clear hK K; clear hK K; refine hK _ ?_; clear hK K)
       | (with_reducible refine todo ?_; simp +decide only [go_sem, hc, hnx]))
      refine Next_of hi2 True.intro (Weak_overA hw kp_nil (fun κ hκ => ?_) (fun q hq => by rw [List.mem_singleton.1 hq]; exact ha) ?_ ?_ ?_ (fun _ h => h) (fun _ h => h))
      · show upd _ _ _ κ = _
        rw [upd_other _ _ (hoth κ hκ)]
        exact if_neg (hoth κ hκ)
      · have e2 : textsD (pgsL b ch i ++ [ct b ch i]) = textsD (pgsL b ch i) ++ [[dS (ct b ch i)]] := textsD_app _ _
        simp +decide only [go_sem, hptr, e, e2]
        exact wkP_own (by rw [aOver_hd]; simp) (by rw [upd_same, hil]; exact aOver_hd)
      · simp +decide only [go_sem]
      · simp +decide only [go_sem, hil]
    · have hc := int_lt_false hi2
      have hie : i = M := by omega
      subst hie
      have kli := eff_frameA (κ := (off + 22, 0)) (ar := .co 1 i) kl hw (oks_ptr1 hp0) ha ha
      have hab2 : Above (off + 1000) H (upd A (off + 22, 0) (some (.co 1 i))) := Above_updA (Above_mono hab (by omega)) (by show off + 22 < off + 1000; omega)
      repeat' (first
       | with_reducible first | refine VC_seq fun K hK => ?_ | refine W_region ?_ | refine VC_block ?_ | refine VC_scope ?_ | refine VC_if ?_ | refine VC_skip ?_ | refine VC_exit ?_ | refine VC_ret ?_
       | (with_reducible first | refine G_not (fun h => ?_) (fun h => ?_) | refine G_cases (fun h => ?_) (fun h => ?_)) <;> (try simp only [h])
       | refine C_call rfl kli rfl hab2 ?_
       | with_reducible first | (refine hK _ ?_; clear hK K) | (clear hK K; refine hK _ ?_; clear hK K) | (clear hK K; clear hK K; refine hK _ ?_; clear hK K) | (clear hK K; clear hK K; clear hK K; refine hK _ ?_; clear hK K)
       | (with_reducible refine todo ?_; simp +decide only [go_sem, hc]))
      exact RetR_same rfl (by simp +decide only [go_sem]) True.intro hw kp_nil (fun κ hκ => if_neg (fun e => hκ (by rw [e]; exact ha)))
end px
end Go.Proofs

/-
  What must come of fixed calls.
-/

namespace Go.PW
/-- A long region's operations, as one list. -/
theorem RunV_app {E : Env} {fb : Option (List Nat)} {l1 l2 L : List Oper} {S : St} {K : St → Prop} (hL : l1 ++ l2 = L) (h : Todo (RunV E fb L.toArray L S K)) : RunV E fb (List.append l1 l2).toArray (List.append l1 l2) S K := by
  subst hL; exact h
end Go.PW
namespace Go.Proofs
open Go.PW
def knZ : Nat → List UInt8 := fun _ => zeros
def knF : List UInt8 := flipB zeros 1
def knC1 : List (Int × List UInt8) := putN (putN [] ((0 : Nat) : Int) knF) ((1 : Nat) : Int) zeros
def knC2 : List (Int × List UInt8) := putN knC1 ((1 : Nat) : Int) (pad [97])
def knB : Nat → List UInt8 := ct knZ knC2
def knC3 : List (Int × List UInt8) := putN (putN [] ((0 : Nat) : Int) (flipB knF 2)) ((2 : Nat) : Int) zeros
theorem kn_b0 : ct knB [] 0 = knF := by
  show ct knZ knC2 0 = _
  unfold knC2 knC1
  rw [ct_put, if_neg (by omega), ct_put, if_neg (by omega), ct_put, if_pos rfl]
theorem kn_b1 : ct knB [] 1 = pad [97] := by
  show ct knZ knC2 1 = _
  unfold knC2
  rw [ct_put, if_pos rfl]
theorem kn_f1 : freeB zeros 1 = true := by decide +kernel
theorem kn_f2 : freeB knF 1 = false ∧ freeB knF 2 = true ∧ freesK knF 20 = 18 := by decide +kernel
theorem kn_rec : (recK knC2 20).length ≤ 5000 ∧ needN (recK knC2 20).length ≤ 18 := by decide +kernel
theorem kn_d2 : dirtyK knC2 20 = [0, 1] := by decide +kernel
theorem kn_d0 : dirtyK [] 20 = [] := by decide +kernel
set_option maxRecDepth 8000 in
set_option maxHeartbeats 32000000 in
theorem Try.kKnown : PureOK Try.prog 18 [] (.one (.d (.lit (.bool true)))) := by
  obtain ⟨H1, A1, e1, L1, lo1, lo2⟩ := Try.sNew 200 40 (by omega) (by omega)
  have D1 := DX.new (logs := 20) L1 (by omega) (by omega) (by omega) (by omega) (by omega) (fun j hj => ⟨lo1 j (by omega), fun q => lo2 _ (by show j ≠ 200; omega)⟩)
  obtain ⟨H2, A2, e2, P2⟩ := Try.pOpen 1000 D1 (by omega)
  have P2 : PX H2 A2 203 200 202 40 20 1 [] knZ := P2
  have e3 := Try.pOpenBad 1000 P2 40 (by omega) (by omega)
  obtain ⟨H4, A4, e4, P4, _, _⟩ := Try.pAlloc 1000 P2 1 (by omega) (by omega) kn_f1 (fun i h1 h2 => by omega)
  have P4 : PX H4 A4 203 200 202 40 20 1 knC1 knZ := P4
  obtain ⟨H5, A5, e5, P5, _, _⟩ := Try.pWrite 1000 P4 1 (by omega) (by omega) [97] (by decide)
  have P5 : PX H5 A5 203 200 202 40 20 1 knC2 knZ := P5
  have e6 := Try.pDirty 1000 P5
  obtain ⟨H7, A7, e7, P7, _, _⟩ := Try.pCommit 1000 P5 (by omega) (by omega) (by decide) kn_rec.1 kn_rec.2
  have P7 : PX H7 A7 206 200 202 40 20 2 [] knB := P7
  have hf8 : freeB (ct knB [] 0) 2 = true := by rw [kn_b0]; exact kn_f2.2.1
  have hn8 : ∀ i, i ≠ 0 → i < 2 → freeB (ct knB [] 0) i = false := fun i h1 h2 => by
    rw [kn_b0, show i = 1 by omega]; exact kn_f2.1
  obtain ⟨H8, A8, e8, P8, _, _⟩ := Try.pAlloc 1000 P7 2 (by omega) (by omega) hf8 hn8
  obtain ⟨H9, A9, e9, P9, _, _⟩ := Try.pAbort 1000 P8
  obtain ⟨H10, A10, e10, D10⟩ := Try.pCrash 1000 P9 (by omega)
  obtain ⟨H11, A11, e11, P11⟩ := Try.pOpen 1000 D10 (by omega)
  have P11 : PX H11 A11 209 200 208 40 20 3 [] knB := P11
  have e12 := Try.pRead 1000 P11 1 (by omega)
  rw [kn_b1] at e12
  have e13 := Try.kPad [97] (by decide)
  have e14 := Try.pIsFree 1000 P11 2 (by omega)
  have e15 := Try.pIsFree 1000 P11 1 (by omega)
  have e16 := Try.pFrees 1000 P11
  rw [kn_b0] at e14 e15 e16
  rw [show isF knF 2 = true by unfold isF; rw [kn_f2.2.1]; rfl] at e14
  rw [show isF knF 1 = false by unfold isF; rw [kn_f2.1]; rfl] at e15
  rw [show freesK knF (40 - 20) = 18 from kn_f2.2.2] at e16
  have e17 := Try.pLen 1000 P11
  have g18 : pgFrE (40 - 20) (ct knB [] 0) 2 = 6 := by
    rw [kn_b0]
    unfold pgFrE pgRight
    rw [if_neg (by decide), if_neg (by decide), if_pos (by exact kn_f2.2.1)]
  have e18 := Try.pFreeE 1000 P11 2 (by rw [g18]; decide)
  rw [g18] at e18
  have g19 : pgFrE (40 - 20) (ct knB [] 0) 0 = 1 := by
    unfold pgFrE pgRight
    rw [if_neg (by decide), if_pos rfl]
  have e19 := Try.pFreeE 1000 P11 0 (by rw [g19]; decide)
  rw [g19] at e19
  have g20 : pgWrE (40 - 20) 20 [] = 2 := by decide
  have e20 := Try.pWriteE 1000 P11 20 [] (by rw [g20]; decide)
  rw [g20] at e20
  have e21 := Try.pDirty 1000 P11
  rw [show dirtyK [] (40 - 20) = [] from kn_d0] at e21
  rw [show dirtyK knC2 (40 - 20) = [0, 1] from kn_d2] at e6
  have e22 := Try.kInts [0, 1] [0, 1] (by decide)
  have b1 : Above 1000 H1 A1 := Above_mono L1.ab (by omega)
  have ab : ∀ {X : HMap} {Y : AMap} {k p T : Nat} {c : List (Int × List UInt8)} {b : Nat → List UInt8}, PX X Y k 200 p 40 20 T c b → k ≤ 1000 → Above (0 + 1000) X Y := fun h hk => by
    obtain ⟨_, _, _, _, _, _, _, _, _, _, _, hab, _⟩ := h.nums
    exact Above_mono hab (by omega)
  have b2 := ab P2 (by omega)
  have b4 := ab P4 (by omega)
  have b5 := ab P5 (by omega)
  have b7 := ab P7 (by omega)
  have b8 := ab P8 (by omega)
  have b9 := ab P9 (by omega)
  have b11 := ab P11 (by omega)
  have b10 : Above (0 + 1000) H10 A10 := by
    obtain ⟨_, _, _, _, _, _, _, _, _, L, _⟩ := D10
    exact Above_mono L.ab (by omega)
  have lo11 : ∀ j, j < 200 → H11 j = none ∧ ∀ q, A11 (j, q) = none := by
    obtain ⟨_, _, _, _, _, _, _, _, _, _, _, _, _, _, h, _⟩ := P11.nums
    exact h
  generalize pad [97] = pa at *
  refine pure_eff rfl (effr_ok (E := envOf Try.prog [9, 10, 11, 14, 21, 20, 19, 27, 12, 16, 17, 22, 15] 0 [] []) (envOf_ok Try.mixed) Try.func18 rfl Try.call18 (by kernel_rfl) (by exact Nat.le_of_ble_eq_true rfl) (fun hab => ?_))
  have v0 : (((ints []).length : Int) == 0) = true := rfl
  have v1 : (((1 : Nat) : Int) == 1) = true := rfl
  have v2 : (((2 : Nat) : Int) == 2) = true := rfl
  have v3 : (((18 : Nat) : Int) == 18) = true := rfl
  have v4 : (((40 - 20 : Nat) : Int) == 20) = true := rfl
  repeat' (first
   | with_reducible first | refine VC_seq fun K hK => ?_ | refine W_region ?_ | refine VC_block ?_ | refine VC_scope ?_ | refine VC_if ?_ | refine VC_skip ?_ | refine VC_exit ?_ | refine VC_ret ?_
   | (with_reducible first | refine G_not (fun h => ?_) (fun h => ?_) | refine G_cases (fun h => ?_) (fun h => ?_)) <;> (try simp only [h])
   | (refine RunV_app (by simp only [List.append_eq, List.cons_append, List.nil_append]; exact rfl) ?_)
   | refine C_call rfl e1 rfl (Above_mono hab (by omega)) ?_
   | refine C_call rfl e2 rfl b1 ?_
   | refine C_call rfl e3 rfl b2 ?_
   | refine C_call rfl e4 rfl b2 ?_
   | refine C_call rfl e5 rfl b4 ?_
   | refine C_call rfl e6 rfl b5 ?_
   | refine C_call rfl e7 rfl b5 ?_
   | refine C_call rfl e8 rfl b7 ?_
   | refine C_call rfl e9 rfl b8 ?_
   | refine C_call rfl e10 rfl b9 ?_
   | refine C_call rfl e11 rfl b10 ?_
   | refine C_call rfl e12 rfl b11 ?_
   | refine C_pure e13 rfl rfl (fun k => (lo11 _ (Nat.le_of_ble_eq_true rfl)).2 k) ?_
   | refine C_pure e22 rfl rfl (fun k => (lo11 _ (Nat.le_of_ble_eq_true rfl)).2 k) ?_
   | refine C_call rfl e14 rfl b11 ?_
   | refine C_call rfl e15 rfl b11 ?_
   | refine C_call rfl e16 rfl b11 ?_
   | refine C_call rfl e17 rfl b11 ?_
   | refine C_call rfl e18 rfl b11 ?_
   | refine C_call rfl e19 rfl b11 ?_
   | refine C_call rfl e20 rfl b11 ?_
   | refine C_call rfl e21 rfl b11 ?_
   | with_reducible first | (refine hK _ ?_; clear hK K) | (clear hK K; refine hK _ ?_; clear hK K) | (clear hK K; clear hK K; refine hK _ ?_; clear hK K) | (clear hK K; clear hK K; clear hK K; refine hK _ ?_; clear hK K)
   | (with_reducible refine todo ?_; simp +decide only [go_sem, zne, v0, v1, v2, v3, v4]))
  exact RetR_same rfl (by simp +decide only [go_sem]) True.intro (fun i cs c h => by cases h) (fun i h => (h rfl).elim) (fun i h => (h rfl).elim)
end Go.Proofs
