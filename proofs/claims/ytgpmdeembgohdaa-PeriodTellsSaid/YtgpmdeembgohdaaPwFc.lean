/-
  Values.
-/
import Derived.Test.YtgpmdeembgohdaaPwX
namespace Go.Proofs
open Go.PW

def isNaN (b : Nat) : Bool := FloatKind.f64.format.order b b != some .eq
def canonF (b : Nat) : Int := if isNaN b then 9221120237041090560 else if FloatKind.f64.format.order b 0 == some .eq then 0 else b

set_option maxHeartbeats 400000 in
theorem Try.kIsNaN (b : Nat) : PureOK Try.prog 51 [pD (.lit (.float .f64 b))] (.one (dB (isNaN b))) := by
  refine Try.pure (md := []) Try.func51 rfl Try.call51 (by kernel_rfl) (by rfl) (by exact Nat.le_of_ble_eq_true rfl) ?_
  repeat' (first
    | with_reducible refine VC_seq fun K hK => ?_
    | with_reducible refine W_region ?_
    | with_reducible refine VC_block ?_
    | with_reducible refine VC_scope ?_
    | with_reducible refine VC_if ?_
    | with_reducible refine VC_skip ?_
    | with_reducible refine VC_exit ?_
    | with_reducible refine VC_ret ?_
    | (with_reducible refine G_not (fun h => ?_) (fun h => ?_) <;> (try simp only [h]))
    | (with_reducible refine G_cases (fun h => ?_) (fun h => ?_) <;> (try simp only [h]))
    | (with_reducible refine hK _ ?_; clear hK K)
    | (clear hK K; with_reducible refine hK _ ?_; clear hK K)
    | (clear hK K; clear hK K; with_reducible refine hK _ ?_; clear hK K)
    | (clear hK K; clear hK K; clear hK K; with_reducible refine hK _ ?_; clear hK K)
    | (with_reducible refine todo ?_; simp +decide only [go_sem]))
  refine Ret_d rfl ?_
  simp +decide only [go_sem, isNaN]

set_option maxHeartbeats 400000 in
theorem Try.kCanonical (b : Nat) : PureOK Try.prog 48 [pD (.lit (.float .f64 b))] (.one (.d (.lit (.int .u64 (canonF b))))) := by
  refine Try.pure (md := []) Try.func48 rfl Try.call48 (by kernel_rfl) (by rfl) (by exact Nat.le_of_ble_eq_true rfl) ?_
  repeat' (first
    | with_reducible refine VC_seq fun K hK => ?_
    | with_reducible refine W_region ?_
    | with_reducible refine VC_block ?_
    | with_reducible refine VC_scope ?_
    | with_reducible refine VC_if ?_
    | with_reducible refine VC_skip ?_
    | with_reducible refine VC_exit ?_
    | with_reducible refine VC_ret ?_
    | (with_reducible refine G_not (fun h => ?_) (fun h => ?_) <;> (try simp only [h]))
    | (with_reducible refine G_cases (fun h => ?_) (fun h => ?_) <;> (try simp only [h]))
    | refine C_pure (Try.kIsNaN b) rfl rfl (fun _ => rfl) ?_
    | refine C_pure (Try.kBits b) rfl rfl (fun _ => rfl) ?_
    | (with_reducible refine hK _ ?_; clear hK K)
    | (clear hK K; with_reducible refine hK _ ?_; clear hK K)
    | (clear hK K; clear hK K; with_reducible refine hK _ ?_; clear hK K)
    | (clear hK K; clear hK K; clear hK K; with_reducible refine hK _ ?_; clear hK K)
    | (with_reducible refine todo ?_; simp +decide only [go_sem]))
  all_goals (refine Ret_d rfl ?_; simp +decide only [go_sem, canonF, *])

/-- Cell by cell. -/
def Val.same (v w : Val) : Bool := (v.kind == w.kind) && ((v.num == w.num) && ((v.bits == w.bits) && (v.str.toList == w.str.toList)))

/-- The value as it stands in no other way. -/
def Val.canon (v : Val) : Option Val :=
  if (v.kind == 0) = true then some ⟨v.kind, 0, 0, ⟨#[]⟩⟩
  else if (v.kind == 1) = true then some ⟨v.kind, iAnd .i64 v.num 1, 0, ⟨#[]⟩⟩
  else if (v.kind == 2) = true then some ⟨v.kind, v.num, 0, ⟨#[]⟩⟩
  else if (v.kind == 3) = true then some ⟨v.kind, 0, canonF v.bits.toNat, ⟨#[]⟩⟩
  else if (v.kind == 4) = true then some ⟨v.kind, 0, 0, v.str⟩
  else if (v.kind == 5) = true then some ⟨v.kind, 0, 0, v.str⟩
  else none

def Val.right (v : Val) : Bool :=
  match v.canon with
  | some w => v.same w && decide ((v.str.size : Int) ≤ 4096)
  | none => false

set_option maxHeartbeats 1000000 in
theorem Try.kValue (v : Val) : PureOK Try.prog 43 [pA v.enc] (.one (dB v.right)) := by
  refine Try.pure (md := []) Try.func43 rfl Try.call43 (by kernel_rfl) (by rfl) (by exact Nat.le_of_ble_eq_true rfl) ?_
  repeat' (first
    | with_reducible refine VC_seq fun K hK => ?_
    | with_reducible refine W_region ?_
    | with_reducible refine VC_block ?_
    | with_reducible refine VC_scope ?_
    | with_reducible refine VC_if ?_
    | with_reducible refine VC_skip ?_
    | with_reducible refine VC_exit ?_
    | with_reducible refine VC_ret ?_
    | (with_reducible refine G_not (fun h => ?_) (fun h => ?_) <;> (try simp only [h]))
    | (with_reducible refine G_cases (fun h => ?_) (fun h => ?_) <;> (try simp only [h]))
    | refine C_pure (Try.kFrombits v.bits) rfl rfl (fun _ => rfl) ?_
    | refine C_pure (Try.kCanonical v.bits.toNat) rfl rfl (fun _ => rfl) ?_
    | (with_reducible refine hK _ ?_; clear hK K)
    | (clear hK K; with_reducible refine hK _ ?_; clear hK K)
    | (clear hK K; clear hK K; with_reducible refine hK _ ?_; clear hK K)
    | (clear hK K; clear hK K; clear hK K; with_reducible refine hK _ ?_; clear hK K)
    | (with_reducible refine todo ?_; simp +decide only [go_sem]))
  all_goals (refine Ret_d rfl ?_; simp +decide only [go_sem, Val.right, Val.canon, Val.same, *])
end Go.Proofs
