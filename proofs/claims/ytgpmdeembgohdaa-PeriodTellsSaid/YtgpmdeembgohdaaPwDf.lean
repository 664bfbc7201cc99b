/-
  PeriodDiffs: the law's own body.
-/
import Derived.Test.YtgpmdeembgohdaaPwFn
import Derived.Test.YtgpmdeembgohdaaPwFw
import Derived.Test.YtgpmdeembgohdaaPwRc
namespace Go.Proofs
open Go.PW

theorem light_ok {l : List Piece} (h : lightP l = true) : l.length ≤ 40 ∧ ∀ p ∈ l, p.row.length ≤ 20 := by
  unfold lightP at h
  rw [Bool.and_eq_true] at h
  refine ⟨?_, fun p hp => ?_⟩
  · have : ¬ (40 : Int) < l.length := by simpa using h.1
    omega
  · have := List.all_eq_true.1 h.2 p hp
    unfold shortP at this
    have : ¬ (20 : Int) < p.row.length := by simpa using this
    omega

set_option maxHeartbeats 8000000 in
theorem Try.kDiffs (a b : List Piece) (ha : ∀ p ∈ a, Piece.ok p) (hb : ∀ p ∈ b, Piece.ok p) : PureOK Try.prog 4 [pD (encPieces a), pD (encPieces b)] (.one (dB true)) := by
  refine Try.pure (md := []) Try.func4 rfl Try.call4 (by kernel_rfl) (by rfl) (by exact Nat.le_of_ble_eq_true rfl) ?_
  have la := Try.kLight a
  have lb := Try.kLight b
  cases ea : lightP a with
  | false =>
    rw [ea] at la
    repeat' (first
      | with_reducible refine VC_seq fun K hK => ?_
      | with_reducible refine W_region ?_
      | with_reducible refine VC_block ?_
      | with_reducible refine VC_scope ?_
      | with_reducible refine VC_if ?_
      | with_reducible refine VC_skip ?_
      | with_reducible refine VC_exit ?_
      | with_reducible refine VC_ret ?_
      | (with_reducible refine G_not (fun h => ?_) (fun h => ?_) <;> (try simp only [h]))
      | (with_reducible refine G_cases (fun h => ?_) (fun h => ?_) <;> (try simp only [h]))
      | refine C_pure la rfl rfl (fun _ => rfl) ?_
      | refine C_pure Try.kKnown rfl rfl (fun _ => rfl) ?_
      | (with_reducible refine hK _ ?_; clear hK K)
      | (clear hK K; with_reducible refine hK _ ?_; clear hK K)
      | (clear hK K; clear hK K; with_reducible refine hK _ ?_; clear hK K)
      | (clear hK K; clear hK K; clear hK K; with_reducible refine hK _ ?_; clear hK K)
      | (with_reducible refine todo ?_; simp +decide only [go_sem]))
    refine Ret_d rfl ?_
    simp +decide only [go_sem]
  | true =>
    rw [ea] at la
    cases eb : lightP b with
    | false =>
      rw [eb] at lb
      repeat' (first
        | with_reducible refine VC_seq fun K hK => ?_
        | with_reducible refine W_region ?_
        | with_reducible refine VC_block ?_
        | with_reducible refine VC_scope ?_
        | with_reducible refine VC_if ?_
        | with_reducible refine VC_skip ?_
        | with_reducible refine VC_exit ?_
        | with_reducible refine VC_ret ?_
        | (with_reducible refine G_not (fun h => ?_) (fun h => ?_) <;> (try simp only [h]))
        | (with_reducible refine G_cases (fun h => ?_) (fun h => ?_) <;> (try simp only [h]))
        | refine C_pure la rfl rfl (fun _ => rfl) ?_
        | refine C_pure lb rfl rfl (fun _ => rfl) ?_
        | refine C_pure Try.kKnown rfl rfl (fun _ => rfl) ?_
        | (with_reducible refine hK _ ?_; clear hK K)
        | (clear hK K; with_reducible refine hK _ ?_; clear hK K)
        | (clear hK K; clear hK K; with_reducible refine hK _ ?_; clear hK K)
        | (clear hK K; clear hK K; clear hK K; with_reducible refine hK _ ?_; clear hK K)
        | (with_reducible refine todo ?_; simp +decide only [go_sem]))
      refine Ret_d rfl ?_
      simp +decide only [go_sem]
    | true =>
      rw [eb] at lb
      obtain ⟨na, ra⟩ := light_ok ea
      obtain ⟨nb, rb⟩ := light_ok eb
      have ra' : ∀ p ∈ a, p.row.length ≤ 1048576 := fun p hp => Nat.le_trans (ra p hp) (by decide)
      have rb' : ∀ p ∈ b, p.row.length ≤ 1048576 := fun p hp => Nat.le_trans (rb p hp) (by decide)
      have k1 := Try.kDiff a b (by omega) ra' (by omega) rb'
      have k2 := Try.rDiff a b (by omega) ra' (fun p hp => (ha p hp).2) (by omega) rb' (fun p hp => (hb p hp).2)
      have pa := Try.kPlain a (by omega)
      have pb := Try.kPlain b (by omega)
      have h1 : (diff a b).1.length ≤ 40 ∧ ∀ p ∈ (diff a b).1, p.row.length ≤ 1048576 := by
        unfold diff
        split
        · exact ⟨Nat.le_trans (without_length _ _) na, fun p hp => ra' p (List.mem_filter.1 hp).1⟩
        · exact ⟨by simp, fun p hp => by cases hp⟩
      have h2 : (diff a b).2.length ≤ 40 ∧ ∀ p ∈ (diff a b).2, p.row.length ≤ 1048576 := by
        unfold diff
        split
        · exact ⟨Nat.le_trans (without_length _ _) nb, fun p hp => rb' p (List.mem_filter.1 hp).1⟩
        · exact ⟨by simp, fun p hp => by cases hp⟩
      generalize (diff a b).1 = x at *
      generalize (diff a b).2 = y at *
      have px := Try.kPlain x (by omega)
      have py := Try.kPlain y (by omega)
      have sx := Try.rSame x x (by omega) h1.2
      have sy := Try.rSame y y (by omega) h2.2
      rw [samePieces_iff.2 rfl] at sx sy
      have s1 := Try.kSameP a b (by omega) ra'
      have s2 := Try.rSame a b (by omega) ra'
      generalize samePieces a b = sb at *
      have hbb : (sb == sb) = true := beq_self_eq_true sb
      repeat' (first
        | with_reducible refine VC_seq fun K hK => ?_
        | with_reducible refine W_region ?_
        | with_reducible refine VC_block ?_
        | with_reducible refine VC_scope ?_
        | with_reducible refine VC_if ?_
        | with_reducible refine VC_skip ?_
        | with_reducible refine VC_exit ?_
        | with_reducible refine VC_ret ?_
        | (with_reducible refine G_not (fun h => ?_) (fun h => ?_) <;> (try simp only [h]))
        | (with_reducible refine G_cases (fun h => ?_) (fun h => ?_) <;> (try simp only [h]))
        | refine C_pure la rfl rfl (fun _ => rfl) ?_
        | refine C_pure lb rfl rfl (fun _ => rfl) ?_
        | refine C_pure k1 rfl rfl (fun _ => rfl) ?_
        | refine C_pure k2 rfl rfl (fun _ => rfl) ?_
        | refine C_pure pa rfl rfl (fun _ => rfl) ?_
        | refine C_pure pb rfl rfl (fun _ => rfl) ?_
        | refine C_pure px rfl rfl (fun _ => rfl) ?_
        | refine C_pure py rfl rfl (fun _ => rfl) ?_
        | refine C_pure sx rfl rfl (fun _ => rfl) ?_
        | refine C_pure sy rfl rfl (fun _ => rfl) ?_
        | refine C_pure s1 rfl rfl (fun _ => rfl) ?_
        | refine C_pure s2 rfl rfl (fun _ => rfl) ?_
        | refine C_pure Try.kKnown rfl rfl (fun _ => rfl) ?_
        | (with_reducible refine hK _ ?_; clear hK K)
        | (clear hK K; with_reducible refine hK _ ?_; clear hK K)
        | (clear hK K; clear hK K; with_reducible refine hK _ ?_; clear hK K)
        | (clear hK K; clear hK K; clear hK K; with_reducible refine hK _ ?_; clear hK K)
        | (with_reducible refine todo ?_; simp +decide only [go_sem, hbb]))
      refine Ret_d rfl ?_
      simp +decide only [go_sem]
end Go.Proofs
