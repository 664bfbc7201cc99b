/-
  PagerAgain is true for every input: an Open that is cut off by a crash, and done again, comes to the same pages as one that is not. No condition.
-/
import Derived.Test.YtghlemfokpfngaaQ42
import Derived.Test.YtghlemfokpfngaaQ41



namespace Go.Proofs.Ytghlemfokpfngaa
open Go.PW Go.ChangeShapes Go.WideShapes Go.ChangeAt Go.RowKit
set_option maxRecDepth 100000 in
theorem againp_calls (W : World) (base : Nat) {H : Type} (enc : TypeId × Value → H) (args : Array Value) (hn : args.size = Try.f3.params.size)
    (h : ∀ (j : Nat) (t : TypeId), Try.f3.params[j]? = some t → ∃ v d p, args[j]? = some v ∧ Value.okWide Try.prog W .any base t v ∧ DataW.Trod enc Try.prog W 0 (fun _ => true) true t v d p) :
    Calls Try.prog 3 args W fun e W' => e = .returned (.bool true) ∧ Below W.heap.size W W' := by
  rw [Try.params3] at hn h
  obtain ⟨v0, d0, p0, g0, o0, t0⟩ := h 0 _ rfl
  obtain ⟨v1, d1, p1, g1, o1, t1⟩ := h 1 _ rfl
  obtain ⟨v2, d2, p2, g2, o2, t2⟩ := h 2 _ rfl
  obtain ⟨a0, _, r0⟩ := arg_slice (enc := fun l => D.sl (opsP l)) Try.underlying22 o0 (Try.rOps9 W) t0
  obtain ⟨a1, h1, r1⟩ := arg_two (α := Nat × Nat) Try.underlying23 o1 (Try.rU82 W) t1
  obtain ⟨a2, _, r2⟩ := arg_slice (enc := fun l => D.sl (bools l)) Try.underlying24 o2 (Try.rBools W) t2
  refine law_calls (Try.kPagerAgain a0 a1.1 a1.2 h1.1 h1.2 a2) Try.call3 (args_of hn fun k x hk => ?_)
  match k, hk with
  | 0, hk => cases hk; exact ⟨v0, g0, r0⟩
  | 1, hk => cases hk; exact ⟨v1, g1, r1⟩
  | 2, hk => cases hk; exact ⟨v2, g2, r2⟩
set_option maxRecDepth 100000 in
theorem againp_lifted (os : Os) (started : os.Started) (H : Type) (enc : TypeId × Value → H) :
    ReturnsInHanded {} Try.checked os 3 .any (Rows.pagerAgainSpec.pre6 enc Try.prog Try.f3 Rows.pagerAgainRow.domain false) (Rows.pagerAgainSpec.post enc Try.prog Try.f3 false true false false) :=
  law_lifted (C := Try.checked) Try.own started (by kernel_rfl) Try.func3
    (ChangeSpec.witness6 (enc := enc) (C := Try.checked) false ⟨#[], #[.slice none 0 0, .agg #[.int .u8 0, .int .u8 0], .slice none 0 0], []⟩ 8 (by kernel_rfl) (by kernel_rfl) (by kernel_rfl) (by kernel_rfl))
    rfl Try.laidOut
    (fun t ht => by
      rw [Try.params3] at ht
      have : t = 22 ∨ t = 23 ∨ t = 24 := by simpa using ht
      rcases this with rfl | rfl | rfl <;> exact ⟨by kernel_rfl, of_decide_eq_true (by kernel_rfl)⟩)
    (show _ = #[4] by kernel_rfl) Try.underlying4
    (fun ds hds => by
      rw [Try.params3] at hds
      match ds, hds with
      | [_, _, _], _ => rfl)
    (fun W base args hn hg => againp_calls W base enc args hn hg)
theorem againp_holds : Rows.PagerAgainSaid :=
  OpenClaim.holds_of_wide 3 Try.f3 rfl rfl rfl rfl rfl rfl rfl ⟨rfl, rfl, rfl, rfl, rfl⟩ rfl rfl rfl rfl rfl (by kernel_rfl) Try.func3 (by kernel_rfl)
    (of_decide_eq_true (by kernel_rfl)) (by unfold Func.isWrapper; first | (rw [if_pos (by decide +kernel)]; kernel_rfl) | (rw [if_neg (by decide +kernel)]; exact ⟨rfl, rfl⟩))
    (fun os started H enc _ => againp_lifted os started H enc)
#print axioms againp_holds
end Go.Proofs.Ytghlemfokpfngaa
