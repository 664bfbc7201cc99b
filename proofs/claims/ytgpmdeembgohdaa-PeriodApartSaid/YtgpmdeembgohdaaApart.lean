/-
  PeriodApart is true for every input: pieces that are put for periods that do not meet may be put in any order. No condition.
-/
import Derived.Test.YtgpmdeembgohdaaPwZ
import Derived.Test.YtgpmdeembgohdaaPwAp
namespace Go.Proofs.Ytgpmdeembgohdaa
open Go.PW Go.ChangeShapes Go.WideShapes Go.ChangeAt Go.RowKit

theorem apart_calls (W : World) (base : Nat) {H : Type} (enc : TypeId × Value → H) (args : Array Value) (hn : args.size = Try.f9.params.size)
    (h : ∀ (j : Nat) (t : TypeId), Try.f9.params[j]? = some t → ∃ v d p, args[j]? = some v ∧ Value.okWide Try.prog W .any base t v ∧ DataW.Trod enc Try.prog W 0 (fun _ => true) true t v d p) :
    Calls Try.prog 9 args W fun e W' => e = .returned (.bool true) ∧ Below W.heap.size W W' := by
  rw [Try.params9] at hn h
  obtain ⟨v0, d0, p0, g0, o0, t0⟩ := h 0 _ rfl
  obtain ⟨v1, d1, p1, g1, o1, t1⟩ := h 1 _ rfl
  obtain ⟨v2, d2, p2, g2, o2, t2⟩ := h 2 _ rfl
  obtain ⟨a0, _, r0⟩ := arg_slice (enc := encOps) Try.underlying50 o0 (Try.rOps W) t0
  obtain ⟨a1, _, r1⟩ := arg_struct Try.underlying27 o1 (Try.rOp W) t1
  obtain ⟨a2, _, r2⟩ := arg_struct Try.underlying27 o2 (Try.rOp W) t2
  refine law_calls (Try.kApart a0 a1 a2) Try.call9 (args_of hn fun k x hk => ?_)
  match k, hk with
  | 0, hk => cases hk; exact ⟨v0, g0, r0⟩
  | 1, hk => cases hk; exact ⟨v1, g1, r1⟩
  | 2, hk => cases hk; exact ⟨v2, g2, r2⟩

set_option maxRecDepth 100000 in
theorem apart_lifted (os : Os) (started : os.Started) (H : Type) (enc : TypeId × Value → H) :
    ReturnsInHanded {} Try.checked os 9 .any (Rows.periodApartSpec.pre6 enc Try.prog Try.f9 Rows.periodApartRow.domain false) (Rows.periodApartSpec.post enc Try.prog Try.f9 false true false false) :=
  law_lifted (C := Try.checked) Try.own started (by kernel_rfl) Try.func9
    (ChangeSpec.witness6 (enc := enc) (C := Try.checked) false ⟨#[], #[.slice none 0 0, .agg #[.bool false, .int .i64 0, .int .i64 0, .slice none 0 0], .agg #[.bool false, .int .i64 0, .int .i64 0, .slice none 0 0]], []⟩ 8 (by kernel_rfl) (by kernel_rfl) (by kernel_rfl) (by kernel_rfl))
    rfl Try.laidOut
    (fun t ht => by
      rw [Try.params9] at ht
      have : t = 50 ∨ t = 27 ∨ t = 27 := by simpa using ht
      have : t = 50 ∨ t = 27 := by simpa using this
      rcases this with rfl | rfl <;> exact ⟨by kernel_rfl, of_decide_eq_true (by kernel_rfl)⟩)
    (show _ = #[4] by kernel_rfl) Try.underlying4
    (fun ds hds => by
      rw [Try.params9] at hds
      match ds, hds with
      | [_, _, _], _ => rfl)
    (fun W base args hn hg => apart_calls W base enc args hn hg)

theorem apart_holds : Rows.PeriodApartSaid :=
  OpenClaim.holds_of_wide 9 Try.f9 rfl rfl rfl rfl rfl rfl rfl ⟨rfl, rfl, rfl, rfl, rfl⟩ rfl rfl rfl rfl rfl (by kernel_rfl) Try.func9 (by kernel_rfl)
    (of_decide_eq_true (by kernel_rfl)) (by unfold Func.isWrapper; first | (rw [if_pos (by decide +kernel)]; kernel_rfl) | (rw [if_neg (by decide +kernel)]; exact ⟨rfl, rfl⟩))
    (fun os started H enc _ => apart_lifted os started H enc)
#print axioms apart_holds
end Go.Proofs.Ytgpmdeembgohdaa
