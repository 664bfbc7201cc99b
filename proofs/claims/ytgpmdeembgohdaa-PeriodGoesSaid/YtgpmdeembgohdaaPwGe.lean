/-
  PeriodGoes: the law's own body.
-/
import Derived.Test.YtgpmdeembgohdaaPwFn
namespace Go.Proofs
open Go.PW

set_option maxHeartbeats 4000000 in
theorem Try.kGoes (a b : List OpP) : PureOK Try.prog 7 [pD (encOps a), pD (encOps b)] (.one (dB true)) := by
  refine Try.pure (md := []) Try.func7 rfl Try.call7 (by kernel_rfl) (by rfl) (by exact Nat.le_of_ble_eq_true rfl) ?_
  have kB := Try.kBuild a
  obtain ⟨hr0, hl0, hw0⟩ := buildP_ok a
  repeat' (first
    | with_reducible refine VC_seq fun K hK => ?_
    | with_reducible refine W_region ?_
    | with_reducible refine VC_block ?_
    | with_reducible refine VC_scope ?_
    | with_reducible refine VC_if ?_
    | with_reducible refine VC_skip ?_
    | with_reducible refine VC_exit ?_
    | with_reducible refine VC_ret ?_
    | (with_reducible refine G_not (fun h => ?_) (fun h => ?_) <;> (try simp only [h]))
    | (with_reducible refine G_cases (fun h => ?_) (fun h => ?_) <;> (try simp only [h]))
    | refine C_pure kB rfl rfl (fun _ => rfl) ?_
    | (with_reducible refine hK _ ?_; clear hK K)
    | (clear hK K; with_reducible refine hK _ ?_; clear hK K)
    | (clear hK K; clear hK K; with_reducible refine hK _ ?_; clear hK K)
    | (clear hK K; clear hK K; clear hK K; with_reducible refine hK _ ?_; clear hK K)
    | (with_reducible refine todo ?_; simp +decide only [go_sem]))
  generalize buildP a = l at *
  have hmin : (b.take 10).length ≤ 10 ∧ (b.take 10).length ≤ b.length := by rw [List.length_take]; omega
  refine VC_range (b.take 10).length (fun _ => True) (fun i => frame [(1, pD (encOps b)), (5, pD (encPieces l)), (6, pD (encPieces (opsP l (b.take i)))), (7, pD (.lit (.int .i64 i)))] [] []) True.intro ?_ ?_
  · refine Weak_frame ?_ ?_ ?_ <;> simp +decide only [go_sem, opsP, List.foldl_nil]
  · intro i hi hI
    have hi30 : i ≤ 10 := by omega
    have hil : i ≤ b.length := by omega
    obtain ⟨hrm, hlm, hwm⟩ := opsP_ok (b.take i) hr0 hl0 hw0
    have hlm2 : (opsP l (b.take i)).length ≤ 80 := by rw [List.length_take] at hlm; omega
    rcases Nat.lt_or_ge i (b.take 10).length with hlt | hge
    · have hlt' : i < b.length := by omega
      have h30 : i < 10 := by omega
      have hg := List.getElem?_eq_getElem hlt'
      have hd := int_lt_true hlt'
      have hd3 : ((i : Int) < 10) = True := eq_true (by omega)
      have hw := int_next h30 (by decide)
      generalize b[i] = x at hg
      have hnx := opsP_next (ps := l) hg
      generalize opsP l (b.take i) = ps at *
      have hD := Try.kDrop ps x.s (by omega) (fun p hp => Nat.le_trans (hwm p hp) (by decide))
      rcases Nat.lt_or_ge 20 x.row.length with hlong | hshort
      · have h20 : ((x.row.length : Int) > 20) = True := eq_true (by omega)
        have hst : stepP ps x = ps := by unfold stepP; rw [if_pos hlong]
        repeat' (first
          | with_reducible refine VC_seq fun K hK => ?_
          | with_reducible refine W_region ?_
          | with_reducible refine VC_block ?_
          | with_reducible refine VC_scope ?_
          | with_reducible refine VC_if ?_
          | with_reducible refine VC_skip ?_
          | with_reducible refine VC_exit ?_
          | with_reducible refine VC_ret ?_
          | (with_reducible refine G_not (fun h => ?_) (fun h => ?_) <;> (try simp only [h]))
          | (with_reducible refine G_cases (fun h => ?_) (fun h => ?_) <;> (try simp only [h]))
          | (with_reducible refine hK _ ?_; clear hK K)
          | (clear hK K; with_reducible refine hK _ ?_; clear hK K)
          | (clear hK K; clear hK K; with_reducible refine hK _ ?_; clear hK K)
          | (clear hK K; clear hK K; clear hK K; with_reducible refine hK _ ?_; clear hK K)
          | (with_reducible refine todo ?_; simp +decide only [go_sem, hg, hd, hd3, hw, h20]))
        refine Next_of hlt True.intro (Weak_frame ?_ ?_ ?_) <;> simp +decide only [go_sem, hnx, hst]
      · have h20 : ((x.row.length : Int) > 20) = False := eq_false (by omega)
        have hP := Try.kPut ps x.s x.row (by omega) (fun p hp => Nat.le_trans (hwm p hp) (by decide)) (by omega)
        repeat' (first
          | with_reducible refine VC_seq fun K hK => ?_
          | with_reducible refine W_region ?_
          | with_reducible refine VC_block ?_
          | with_reducible refine VC_scope ?_
          | with_reducible refine VC_if ?_
          | with_reducible refine VC_skip ?_
          | with_reducible refine VC_exit ?_
          | with_reducible refine VC_ret ?_
          | (with_reducible refine G_not (fun h => ?_) (fun h => ?_) <;> (try simp only [h]))
          | (with_reducible refine G_cases (fun h => ?_) (fun h => ?_) <;> (try simp only [h]))
          | refine C_pure hD rfl rfl (fun _ => rfl) ?_
          | refine C_pure hP rfl rfl (fun _ => rfl) ?_
          | (with_reducible refine hK _ ?_; clear hK K)
          | (clear hK K; with_reducible refine hK _ ?_; clear hK K)
          | (clear hK K; clear hK K; with_reducible refine hK _ ?_; clear hK K)
          | (clear hK K; clear hK K; clear hK K; with_reducible refine hK _ ?_; clear hK K)
          | (with_reducible refine todo ?_; simp +decide only [go_sem, hg, hd, hd3, hw, h20]))
        all_goals
          have hst : stepP ps x = if x.dr then drop ps x.s else putP ps x.s x.row := by unfold stepP; rw [if_neg (by omega)]
          rw [h] at hst
          refine Next_of hlt True.intro (Weak_frame ?_ ?_ ?_) <;> simp +decide only [go_sem, hnx, hst]
    · generalize opsP l (b.take i) = m at *
      have hmr : ∀ p ∈ m, p.row.length ≤ 1048576 := fun p hp => Nat.le_trans (hwm p hp) (by decide)
      have hlr : ∀ p ∈ l, p.row.length ≤ 1048576 := fun p hp => Nat.le_trans (hw0 p hp) (by decide)
      have k1 := Try.kDiff l m (by omega) hlr (by omega) hmr
      have k2 := Try.kDiff m l (by omega) hmr (by omega) hlr
      have k3 := Try.kDiff l l (by omega) hlr (by omega) hlr
      have d1 : diff l m = (without l m, without m l) := by unfold diff; rw [hr0, hrm]; rfl
      have d2 : diff m l = (without m l, without l m) := by unfold diff; rw [hr0, hrm]; rfl
      have d3 : diff l l = ([], []) := by unfold diff; rw [hr0, without_self]; rfl
      rw [d1] at k1
      rw [d2] at k2
      rw [d3] at k3
      have hG := without_length l m
      have hM := without_length m l
      have hGr : ∀ p ∈ without l m, p.row.length ≤ 1048576 := fun p hp => hlr p (List.mem_filter.1 hp).1
      have hMr : ∀ p ∈ without m l, p.row.length ≤ 1048576 := fun p hp => hmr p (List.mem_filter.1 hp).1
      have k4 := Try.kSameP (without l m) (without l m) (by omega) hGr
      have k5 := Try.kSameP (without m l) (without m l) (by omega) hMr
      have k6 := Try.kRight (without l m) (by omega) hGr
      have k7 := Try.kRight (without m l) (by omega) hMr
      rw [samePieces_iff.2 rfl] at k4 k5
      rw [without_right hr0] at k6
      rw [without_right hrm] at k7
      have hc := without_count hr0 hrm
      have hlen : (IntKind.i64.wrap ((l.length : Int) - ((without l m).length : Int)) == IntKind.i64.wrap ((m.length : Int) - ((without m l).length : Int))) = true := by
        have : (l.length : Int) - ((without l m).length : Int) = (m.length : Int) - ((without m l).length : Int) := by omega
        rw [this]
        exact beq_self_eq_true _
      generalize without l m = G at *
      generalize without m l = M at *
      rcases Nat.lt_or_ge i b.length with hlt' | hge'
      · have hd := int_lt_true hlt'
        have h30 : ((i : Int) < 10) = False := by
          rw [List.length_take] at hge
          exact eq_false (by omega)
        repeat' (first
          | with_reducible refine VC_seq fun K hK => ?_
          | with_reducible refine W_region ?_
          | with_reducible refine VC_block ?_
          | with_reducible refine VC_scope ?_
          | with_reducible refine VC_if ?_
          | with_reducible refine VC_skip ?_
          | with_reducible refine VC_exit ?_
          | with_reducible refine VC_ret ?_
          | (with_reducible refine G_not (fun h => ?_) (fun h => ?_) <;> (try simp only [h]))
          | (with_reducible refine G_cases (fun h => ?_) (fun h => ?_) <;> (try simp only [h]))
          | refine C_pure k1 rfl rfl (fun _ => rfl) ?_
          | refine C_pure k2 rfl rfl (fun _ => rfl) ?_
          | refine C_pure k3 rfl rfl (fun _ => rfl) ?_
          | refine C_pure k4 rfl rfl (fun _ => rfl) ?_
          | refine C_pure k5 rfl rfl (fun _ => rfl) ?_
          | refine C_pure k6 rfl rfl (fun _ => rfl) ?_
          | refine C_pure k7 rfl rfl (fun _ => rfl) ?_
          | refine C_pure Try.kKnown rfl rfl (fun _ => rfl) ?_
          | (with_reducible refine hK _ ?_; clear hK K)
          | (clear hK K; with_reducible refine hK _ ?_; clear hK K)
          | (clear hK K; clear hK K; with_reducible refine hK _ ?_; clear hK K)
          | (clear hK K; clear hK K; clear hK K; with_reducible refine hK _ ?_; clear hK K)
          | (with_reducible refine todo ?_; simp +decide only [go_sem, hd, h30, hlen]))
        refine Ret_d rfl ?_
        simp +decide only [go_sem]
      · have hd := int_lt_false hge'
        repeat' (first
          | with_reducible refine VC_seq fun K hK => ?_
          | with_reducible refine W_region ?_
          | with_reducible refine VC_block ?_
          | with_reducible refine VC_scope ?_
          | with_reducible refine VC_if ?_
          | with_reducible refine VC_skip ?_
          | with_reducible refine VC_exit ?_
          | with_reducible refine VC_ret ?_
          | (with_reducible refine G_not (fun h => ?_) (fun h => ?_) <;> (try simp only [h]))
          | (with_reducible refine G_cases (fun h => ?_) (fun h => ?_) <;> (try simp only [h]))
          | refine C_pure k1 rfl rfl (fun _ => rfl) ?_
          | refine C_pure k2 rfl rfl (fun _ => rfl) ?_
          | refine C_pure k3 rfl rfl (fun _ => rfl) ?_
          | refine C_pure k4 rfl rfl (fun _ => rfl) ?_
          | refine C_pure k5 rfl rfl (fun _ => rfl) ?_
          | refine C_pure k6 rfl rfl (fun _ => rfl) ?_
          | refine C_pure k7 rfl rfl (fun _ => rfl) ?_
          | refine C_pure Try.kKnown rfl rfl (fun _ => rfl) ?_
          | (with_reducible refine hK _ ?_; clear hK K)
          | (clear hK K; with_reducible refine hK _ ?_; clear hK K)
          | (clear hK K; clear hK K; with_reducible refine hK _ ?_; clear hK K)
          | (clear hK K; clear hK K; clear hK K; with_reducible refine hK _ ?_; clear hK K)
          | (with_reducible refine todo ?_; simp +decide only [go_sem, hd, hlen]))
        refine Ret_d rfl ?_
        simp +decide only [go_sem]
end Go.Proofs
