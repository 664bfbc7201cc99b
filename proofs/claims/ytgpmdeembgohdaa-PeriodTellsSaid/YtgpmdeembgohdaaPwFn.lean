/-
  What must come of fixed calls.
-/
import Derived.Test.YtgpmdeembgohdaaPwFm
namespace Go.Proofs
open Go.PW

section long
variable {E : Env} {fb : Option (List Nat)} {ops : Array Oper} {o : Oper} {r r' : List Oper} {S : St} {K : St → Prop}
@[go_sem] theorem RunV_app : RunV E fb ops (List.append (o :: r) r') S K = RunV E fb ops (o :: List.append r r') S K := rfl
@[go_sem] theorem RunV_app0 : RunV E fb ops (List.append [] r') S K = RunV E fb ops r' S K := rfl
end long
attribute [go_sem] List.append_eq

def vA : Val := ⟨2, 1, 0, ⟨#[]⟩⟩
def vB : Val := ⟨2, 2, 0, ⟨#[]⟩⟩
def pL : List Piece := [⟨1, 9, [vA]⟩]
def pM : List Piece := [⟨1, 3, [vA]⟩, ⟨3, 5, [vB]⟩, ⟨5, 9, [vA]⟩]
def pN : List Piece := [⟨1, 3, [vA]⟩, ⟨3, 5, [vA]⟩, ⟨5, 9, [vA]⟩]
theorem e1 : putP [] (1, 9) [vA] = pL := by kernel_rfl
theorem e2 : putP pL (3, 5) [vB] = pM := by kernel_rfl
theorem e3 : putP pM (3, 5) [vA] = pN := by kernel_rfl
theorem e4 : at_ pM 4 = some [vB] := by kernel_rfl
theorem e5 : at_ pM 9 = none := by kernel_rfl
theorem e6 : diff pL pM = (pL, pM) := by kernel_rfl
theorem e7 : drop pM (0, 4) = [⟨4, 5, [vB]⟩, ⟨5, 9, [vA]⟩] := by kernel_rfl
theorem e8 : coalesce pN = pL := by kernel_rfl
theorem e9 : samePieces pL pL = true := samePieces_iff.2 rfl
theorem e10 : sameRow [vB] [vB] = true := sameRow_iff.2 rfl
theorem e11 : right pM = true := by kernel_rfl
theorem e12 : right [⟨0, 0, []⟩] = false := by kernel_rfl

set_option maxHeartbeats 4000000 in
theorem Try.kKnown : PureOK Try.prog 11 [] (.one (dB true)) := by
  have k1 := Try.kPut [] (1, 9) [vA] (by decide) (by decide) (by decide)
  have k2 := Try.kPut pL (3, 5) [vB] (by decide) (by decide) (by decide)
  have k3 := Try.kPut pM (3, 5) [vA] (by decide) (by decide) (by decide)
  have k4 := Try.kAt pM 4 (by decide) (by decide)
  have k5 := Try.kAt pM 9 (by decide) (by decide)
  have k6 := Try.kDiff pL pM (by decide) (by decide) (by decide) (by decide)
  have k7 := Try.kDrop pM (0, 4) (by decide) (by decide)
  have k8 := Try.kCoalesce pN (by decide) (by decide)
  have k9 := Try.kSameP pL pL (by decide) (by decide)
  have k10 := Try.kRows [vB] [vB] (by decide)
  have k11 := Try.kRight pM (by decide) (by decide)
  have k12 := Try.kRight [⟨0, 0, []⟩] (by decide) (by decide)
  rw [e1] at k1
  rw [e2] at k2
  rw [e3] at k3
  rw [e4] at k4
  rw [e5] at k5
  rw [e6] at k6
  rw [e7] at k7
  rw [e8] at k8
  rw [e9] at k9
  rw [e10] at k10
  rw [e11] at k11
  rw [e12] at k12
  have n1 : (((1 : Nat) : Int) != 1) = false := by decide
  have n3 : (((1 + 1 + 1 : Nat) : Int) != 3) = false := by decide
  have m1 : (((1 : Nat) : Int) == 1) = true := by decide
  have m2 : (((1 + 1 : Nat) : Int) == 2) = true := by decide
  have m3 : (((1 + 1 + 1 : Nat) : Int) == 3) = true := by decide
  refine Try.pure (md := []) Try.func11 rfl Try.call11 (by kernel_rfl) (by rfl) (by exact Nat.le_of_ble_eq_true rfl) ?_
  have t0 : Int.toNat 0 = 0 := rfl
  have t2 : Int.toNat 2 = 2 := rfl
  repeat' (first
    | with_reducible refine VC_seq fun K hK => ?_
    | with_reducible refine W_region ?_
    | with_reducible refine VC_block ?_
    | with_reducible refine VC_scope ?_
    | with_reducible refine VC_if ?_
    | with_reducible refine VC_skip ?_
    | with_reducible refine VC_exit ?_
    | with_reducible refine VC_ret ?_
    | (with_reducible refine G_not (fun h => ?_) (fun h => ?_) <;> (try simp only [h]))
    | (with_reducible refine G_cases (fun h => ?_) (fun h => ?_) <;> (try simp only [h]))
    | refine C_pure k1 rfl rfl (fun _ => rfl) ?_
    | refine C_pure k2 rfl rfl (fun _ => rfl) ?_
    | refine C_pure k3 rfl rfl (fun _ => rfl) ?_
    | refine C_pure k4 rfl rfl (fun _ => rfl) ?_
    | refine C_pure k5 rfl rfl (fun _ => rfl) ?_
    | refine C_pure k6 rfl rfl (fun _ => rfl) ?_
    | refine C_pure k7 rfl rfl (fun _ => rfl) ?_
    | refine C_pure k8 rfl rfl (fun _ => rfl) ?_
    | refine C_pure k9 rfl rfl (fun _ => rfl) ?_
    | refine C_pure k10 rfl rfl (fun _ => rfl) ?_
    | refine C_pure k11 rfl rfl (fun _ => rfl) ?_
    | refine C_pure k12 rfl rfl (fun _ => rfl) ?_
    | (with_reducible refine hK _ ?_; clear hK K)
    | (clear hK K; with_reducible refine hK _ ?_; clear hK K)
    | (clear hK K; clear hK K; with_reducible refine hK _ ?_; clear hK K)
    | (clear hK K; clear hK K; clear hK K; with_reducible refine hK _ ?_; clear hK K)
    | (with_reducible refine todo ?_; simp +decide only [go_sem, n1, n3, m1, m2, m3, t0, t2, pL, pM, pN, vA, vB, optRow]))
  refine Ret_d rfl ?_
  simp +decide only [go_sem]
end Go.Proofs
