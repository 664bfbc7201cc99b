/-
  PeriodAway: the law's own body.
-/
import Derived.Test.YtgpmdeembgohdaaPwFn
import Derived.Test.YtgpmdeembgohdaaPwLb
namespace Go.Proofs
open Go.PW

set_option maxHeartbeats 4000000 in
theorem Try.kAway (a : List OpP) (o : OpP) : PureOK Try.prog 8 [pD (encOps a), pA o.enc] (.one (dB true)) := by
  refine Try.pure (md := []) Try.func8 rfl Try.call8 (by kernel_rfl) (by rfl) (by exact Nat.le_of_ble_eq_true rfl) ?_
  have kB := Try.kBuild a
  obtain ⟨hr0, hl0, hw0⟩ := buildP_ok a
  rcases Nat.lt_or_ge 20 o.row.length with hlong | hshort
  · have h20 : ((o.row.length : Int) > 20) = True := eq_true (by omega)
    repeat' (first
      | with_reducible refine VC_seq fun K hK => ?_
      | with_reducible refine W_region ?_
      | with_reducible refine VC_block ?_
      | with_reducible refine VC_scope ?_
      | with_reducible refine VC_if ?_
      | with_reducible refine VC_skip ?_
      | with_reducible refine VC_exit ?_
      | with_reducible refine VC_ret ?_
      | (with_reducible refine G_not (fun h => ?_) (fun h => ?_) <;> (try simp only [h]))
      | (with_reducible refine G_cases (fun h => ?_) (fun h => ?_) <;> (try simp only [h]))
      | refine C_pure Try.kKnown rfl rfl (fun _ => rfl) ?_
      | (with_reducible refine hK _ ?_; clear hK K)
      | (clear hK K; with_reducible refine hK _ ?_; clear hK K)
      | (clear hK K; clear hK K; with_reducible refine hK _ ?_; clear hK K)
      | (clear hK K; clear hK K; clear hK K; with_reducible refine hK _ ?_; clear hK K)
      | (with_reducible refine todo ?_; simp +decide only [go_sem, h20]))
    refine Ret_d rfl ?_
    simp +decide only [go_sem]
  · have h20 : ((o.row.length : Int) > 20) = False := eq_false (by omega)
    generalize buildP a = l at *
    have hlr : ∀ p ∈ l, p.row.length ≤ 1048576 := fun p hp => Nat.le_trans (hw0 p hp) (by decide)
    have k1 := Try.kPut l o.s o.row (by omega) hlr (by omega)
    have hr1 := putP_right (s := o.s) (r := o.row) hr0
    have hl1 := putP_len (s := o.s) (r := o.row) hr0
    have hw1 := putP_row (s := o.s) (r := o.row) hlr (by omega)
    have k2 := Try.kPut (putP l o.s o.row) o.s o.row (by omega) hw1 (by omega)
    rw [put_twice hr0] at k2
    have k3 := Try.kSameP (putP l o.s o.row) (putP l o.s o.row) (by omega) hw1
    rw [samePieces_iff.2 rfl] at k3
    have k4 := Try.kRight (putP l o.s o.row) (by omega) hw1
    rw [hr1] at k4
    have k5 := Try.kSameP (putP l o.s o.row) l (by omega) hw1
    have k6 := Try.kDrop (putP l o.s o.row) o.s (by omega) hw1
    have k7 := Try.kDrop l o.s (by omega) hlr
    have hne := put_drop (s := o.s) (r := o.row) hr0
    have hd := drop_len (s := o.s) hr0
    have hdr := drop_row (s := o.s) hlr
    have k8 := Try.kSameP (drop l o.s) (drop l o.s) (by omega) hdr
    rw [samePieces_iff.2 rfl] at k8
    generalize putP l o.s o.row = one at *
    cases hs : samePieces one l with
    | true =>
      rw [hs] at k5
      repeat' (first
        | with_reducible refine VC_seq fun K hK => ?_
        | with_reducible refine W_region ?_
        | with_reducible refine VC_block ?_
        | with_reducible refine VC_scope ?_
        | with_reducible refine VC_if ?_
        | with_reducible refine VC_skip ?_
        | with_reducible refine VC_exit ?_
        | with_reducible refine VC_ret ?_
        | (with_reducible refine G_not (fun h => ?_) (fun h => ?_) <;> (try simp only [h]))
        | (with_reducible refine G_cases (fun h => ?_) (fun h => ?_) <;> (try simp only [h]))
        | refine C_pure kB rfl rfl (fun _ => rfl) ?_
        | refine C_pure k1 rfl rfl (fun _ => rfl) ?_
        | refine C_pure k2 rfl rfl (fun _ => rfl) ?_
        | refine C_pure k3 rfl rfl (fun _ => rfl) ?_
        | refine C_pure k4 rfl rfl (fun _ => rfl) ?_
        | refine C_pure k5 rfl rfl (fun _ => rfl) ?_
        | refine C_pure Try.kKnown rfl rfl (fun _ => rfl) ?_
        | (with_reducible refine hK _ ?_; clear hK K)
        | (clear hK K; with_reducible refine hK _ ?_; clear hK K)
        | (clear hK K; clear hK K; with_reducible refine hK _ ?_; clear hK K)
        | (clear hK K; clear hK K; clear hK K; with_reducible refine hK _ ?_; clear hK K)
        | (with_reducible refine todo ?_; simp +decide only [go_sem, h20]))
      refine Ret_d rfl ?_
      simp +decide only [go_sem]
    | false =>
      rw [hs] at k5
      rw [hne hs] at k6
      generalize drop l o.s = d at *
      repeat' (first
        | with_reducible refine VC_seq fun K hK => ?_
        | with_reducible refine W_region ?_
        | with_reducible refine VC_block ?_
        | with_reducible refine VC_scope ?_
        | with_reducible refine VC_if ?_
        | with_reducible refine VC_skip ?_
        | with_reducible refine VC_exit ?_
        | with_reducible refine VC_ret ?_
        | (with_reducible refine G_not (fun h => ?_) (fun h => ?_) <;> (try simp only [h]))
        | (with_reducible refine G_cases (fun h => ?_) (fun h => ?_) <;> (try simp only [h]))
        | refine C_pure kB rfl rfl (fun _ => rfl) ?_
        | refine C_pure k1 rfl rfl (fun _ => rfl) ?_
        | refine C_pure k2 rfl rfl (fun _ => rfl) ?_
        | refine C_pure k3 rfl rfl (fun _ => rfl) ?_
        | refine C_pure k4 rfl rfl (fun _ => rfl) ?_
        | refine C_pure k5 rfl rfl (fun _ => rfl) ?_
        | refine C_pure k6 rfl rfl (fun _ => rfl) ?_
        | refine C_pure k7 rfl rfl (fun _ => rfl) ?_
        | refine C_pure k8 rfl rfl (fun _ => rfl) ?_
        | refine C_pure Try.kKnown rfl rfl (fun _ => rfl) ?_
        | (with_reducible refine hK _ ?_; clear hK K)
        | (clear hK K; with_reducible refine hK _ ?_; clear hK K)
        | (clear hK K; clear hK K; with_reducible refine hK _ ?_; clear hK K)
        | (clear hK K; clear hK K; clear hK K; with_reducible refine hK _ ?_; clear hK K)
        | (with_reducible refine todo ?_; simp +decide only [go_sem, h20]))
      refine Ret_d rfl ?_
      simp +decide only [go_sem]
end Go.Proofs
