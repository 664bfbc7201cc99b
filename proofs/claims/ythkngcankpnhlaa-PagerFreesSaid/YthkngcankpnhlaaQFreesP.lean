import Derived.Test.YthkngcankpnhlaaQ37
import Derived.Test.YthkngcankpnhlaaQ36

/-
  PagerFrees is true for every input: a page that is taken into use is all 0, and is not free; each is taken once, the least first, till none is left; what is freed is free. No condition.
-/


namespace Go.Proofs.Ythkngcankpnhlaa
open Go.PW Go.ChangeShapes Go.WideShapes Go.ChangeAt Go.RowKit

set_option maxRecDepth 100000 in
theorem freesp_calls (W : World) (base : Nat) {H : Type} (enc : TypeId × Value → H) (args : Array Value) (hn : args.size = Try.f3.params.size)
    (h : ∀ (j : Nat) (t : TypeId), Try.f3.params[j]? = some t → ∃ v d p, args[j]? = some v ∧ Value.okWide Try.prog W .any base t v ∧ DataW.Trod enc Try.prog W 0 (fun _ => true) true t v d p) :
    Calls Try.prog 3 args W fun e W' => e = .returned (.bool true) ∧ Below W.heap.size W W' := by
  rw [Try.params3] at hn h
  obtain ⟨v0, d0, p0, g0, o0, t0⟩ := h 0 _ rfl
  obtain ⟨v1, d1, p1, g1, o1, t1⟩ := h 1 _ rfl
  obtain ⟨a0, h0, r0⟩ := arg_lit (enc := fun n : Nat => D.lit (.int .u8 n)) (.inr (.inr ⟨_, Try.underlying5⟩)) o0 (Try.rByte W) t0
  obtain ⟨a1, _, r1⟩ := arg_slice (enc := fun l => D.sl (bytesEls l)) Try.underlying22 o1 (Try.rBytes W) t1
  refine law_calls (Try.kPagerFrees a0 h0 a1) Try.call3 (args_of hn fun k x hk => ?_)
  match k, hk with
  | 0, hk => cases hk; exact ⟨v0, g0, r0⟩
  | 1, hk => cases hk; exact ⟨v1, g1, r1⟩

set_option maxRecDepth 100000 in
theorem freesp_lifted (os : Os) (started : os.Started) (H : Type) (enc : TypeId × Value → H) :
    ReturnsInHanded {} Try.checked os 3 .any (Rows.pagerFreesSpec.pre6 enc Try.prog Try.f3 Rows.pagerFreesRow.domain false) (Rows.pagerFreesSpec.post enc Try.prog Try.f3 false true false false) :=
  law_lifted (C := Try.checked) Try.own started (by kernel_rfl) Try.func3
    (ChangeSpec.witness6 (enc := enc) (C := Try.checked) false ⟨#[], #[.int .u8 0, .slice none 0 0], []⟩ 8 (by kernel_rfl) (by kernel_rfl) (by kernel_rfl) (by kernel_rfl))
    rfl Try.laidOut
    (fun t ht => by
      rw [Try.params3] at ht
      have : t = 5 ∨ t = 22 := by simpa using ht
      rcases this with rfl | rfl <;> exact ⟨by kernel_rfl, of_decide_eq_true (by kernel_rfl)⟩)
    (show _ = #[4] by kernel_rfl) Try.underlying4
    (fun ds hds => by
      rw [Try.params3] at hds
      match ds, hds with
      | [_, _], _ => rfl)
    (fun W base args hn hg => freesp_calls W base enc args hn hg)

theorem freesp_holds : Rows.PagerFreesSaid :=
  OpenClaim.holds_of_wide 3 Try.f3 rfl rfl rfl rfl rfl rfl rfl ⟨rfl, rfl, rfl, rfl, rfl⟩ rfl rfl rfl rfl rfl (by kernel_rfl) Try.func3 (by kernel_rfl)
    (of_decide_eq_true (by kernel_rfl)) (by unfold Func.isWrapper; first | (rw [if_pos (by decide +kernel)]; kernel_rfl) | (rw [if_neg (by decide +kernel)]; exact ⟨rfl, rfl⟩))
    (fun os started H enc _ => freesp_lifted os started H enc)
#print axioms freesp_holds
end Go.Proofs.Ythkngcankpnhlaa
