/-
  Spans.
-/
import Derived.Test.YtgpmdeembgohdaaPwV
namespace Go.Proofs
open Go.PW

def Span.right (a b : Int) : Bool := decide (0 ≤ a) && decide (a < b) && decide (b ≤ 1099511627776)
def Span.has (a b n : Int) : Bool := Span.right a b && decide (a ≤ n) && decide (n < b)

set_option maxHeartbeats 400000 in
theorem Try.spanRight (a b : Int) : PureOK Try.prog 32 [pA (encSpan a b)] (.one (dB (Span.right a b))) := by
  refine Try.pure (md := []) Try.func32 rfl Try.call32 (by kernel_rfl) (by rfl) (by exact Nat.le_of_ble_eq_true rfl) ?_
  refine VC_seq fun K hK => VC_region ?_
  simp only [go_sem]
  refine hK _ ?_; clear hK K
  refine VC_seq fun K hK => VC_region ?_
  simp +decide only [go_sem]
  repeat' (refine GuardP_cases (fun h => ?_) (fun h => ?_) <;> simp +decide only [go_sem, h])
  all_goals (refine hK _ ?_; clear hK K; refine Ret_d rfl ?_; simp +decide only [go_sem, Span.right, *])

set_option maxHeartbeats 400000 in
theorem Try.spanHas (a b n : Int) : PureOK Try.prog 31 [pA (encSpan a b), pD (.lit (.int .i64 n))] (.one (dB (Span.has a b n))) := by
  refine Try.pure (md := []) Try.func31 rfl Try.call31 (by kernel_rfl) (by rfl) (by exact Nat.le_of_ble_eq_true rfl) ?_
  refine VC_seq fun K hK => VC_region ?_
  simp +decide only [go_sem]
  refine hK _ ?_; clear hK K
  refine VC_seq fun K hK => VC_region ?_
  simp +decide only [go_sem]
  refine call_pure (Try.spanRight a b) rfl rfl (fun _ => rfl) ?_
  simp +decide only [go_sem]
  repeat' (refine GuardP_cases (fun h => ?_) (fun h => ?_) <;> simp +decide only [go_sem, h])
  all_goals (refine hK _ ?_; clear hK K; refine Ret_d rfl ?_; simp +decide only [go_sem, Span.has, *])
end Go.Proofs
