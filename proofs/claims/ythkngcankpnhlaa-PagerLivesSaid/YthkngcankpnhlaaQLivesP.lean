/-
  PagerLives is true for every input: behind any row of commits that are cut off, and crashes, all pages are each time as ahead of the commit that was cut off, or as behind it. No condition.
-/
import Derived.Test.YthkngcankpnhlaaQ39
import Derived.Test.YthkngcankpnhlaaQ38



namespace Go.Proofs.Ythkngcankpnhlaa
open Go.PW Go.ChangeShapes Go.WideShapes Go.ChangeAt Go.RowKit
set_option maxRecDepth 100000 in
theorem livesp_calls (W : World) (base : Nat) {H : Type} (enc : TypeId × Value → H) (args : Array Value) (hn : args.size = Try.f7.params.size)
    (h : ∀ (j : Nat) (t : TypeId), Try.f7.params[j]? = some t → ∃ v d p, args[j]? = some v ∧ Value.okWide Try.prog W .any base t v ∧ DataW.Trod enc Try.prog W 0 (fun _ => true) true t v d p) :
    Calls Try.prog 7 args W fun e W' => e = .returned (.bool true) ∧ Below W.heap.size W W' := by
  rw [Try.params7] at hn h
  obtain ⟨v0, d0, p0, g0, o0, t0⟩ := h 0 _ rfl
  obtain ⟨a0, _, r0⟩ := arg_slice (enc := fun l => D.sl (opsP l)) Try.underlying50 o0 (Try.rOps9 W) t0
  refine law_calls (Try.kPagerLives a0) Try.call7 (args_of hn fun k x hk => ?_)
  match k, hk with
  | 0, hk => cases hk; exact ⟨v0, g0, r0⟩
set_option maxRecDepth 100000 in
theorem livesp_lifted (os : Os) (started : os.Started) (H : Type) (enc : TypeId × Value → H) :
    ReturnsInHanded {} Try.checked os 7 .any (Rows.pagerLivesSpec.pre6 enc Try.prog Try.f7 Rows.pagerLivesRow.domain false) (Rows.pagerLivesSpec.post enc Try.prog Try.f7 false true false false) :=
  law_lifted (C := Try.checked) Try.own started (by kernel_rfl) Try.func7
    (ChangeSpec.witness6 (enc := enc) (C := Try.checked) false ⟨#[], #[.slice none 0 0], []⟩ 8 (by kernel_rfl) (by kernel_rfl) (by kernel_rfl) (by kernel_rfl))
    rfl Try.laidOut
    (fun t ht => by
      rw [Try.params7] at ht
      have : t = 50 := by simpa using ht
      have : t = 50 := by simpa using this
      rcases this with rfl <;> exact ⟨by kernel_rfl, of_decide_eq_true (by kernel_rfl)⟩)
    (show _ = #[4] by kernel_rfl) Try.underlying4
    (fun ds hds => by
      rw [Try.params7] at hds
      match ds, hds with
      | [_], _ => rfl)
    (fun W base args hn hg => livesp_calls W base enc args hn hg)
theorem livesp_holds : Rows.PagerLivesSaid :=
  OpenClaim.holds_of_wide 7 Try.f7 rfl rfl rfl rfl rfl rfl rfl ⟨rfl, rfl, rfl, rfl, rfl⟩ rfl rfl rfl rfl rfl (by kernel_rfl) Try.func7 (by kernel_rfl)
    (of_decide_eq_true (by kernel_rfl)) (by unfold Func.isWrapper; first | (rw [if_pos (by decide +kernel)]; kernel_rfl) | (rw [if_neg (by decide +kernel)]; exact ⟨rfl, rfl⟩))
    (fun os started H enc _ => livesp_lifted os started H enc)
#print axioms livesp_holds
end Go.Proofs.Ythkngcankpnhlaa
