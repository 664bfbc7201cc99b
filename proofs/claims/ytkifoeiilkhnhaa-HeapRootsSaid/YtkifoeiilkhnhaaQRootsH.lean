import Derived.Test.YtkifoeiilkhnhaaQ41
import Derived.Test.YtkifoeiilkhnhaaQ40

/-
  HeapRoots is true for every input: the root is what was made it last, and takes as many pages as it needs, however often it is made anew; it survives a commit and a crash. No condition.
-/


namespace Go.Proofs.Ytkifoeiilkhnhaa
open Go.PW Go.ChangeShapes Go.WideShapes Go.ChangeAt Go.RowKit

set_option maxRecDepth 100000 in
theorem rootsh_calls (W : World) (base : Nat) {H : Type} (enc : TypeId × Value → H) (args : Array Value) (hn : args.size = Try.f7.params.size)
    (h : ∀ (j : Nat) (t : TypeId), Try.f7.params[j]? = some t → ∃ v d p, args[j]? = some v ∧ Value.okWide Try.prog W .any base t v ∧ DataW.Trod enc Try.prog W 0 (fun _ => true) true t v d p) :
    Calls Try.prog 7 args W fun e W' => e = .returned (.bool true) ∧ Below W.heap.size W W' := by
  rw [Try.params7] at hn h
  obtain ⟨v0, d0, p0, g0, o0, t0⟩ := h 0 _ rfl
  obtain ⟨a0, _, r0⟩ := arg_slice (enc := fun l => D.sl (textsD l)) Try.underlying28 o0 (Try.rTexts W) t0
  refine law_calls (Try.kHeapRoots a0) Try.call7 (args_of hn fun k x hk => ?_)
  match k, hk with
  | 0, hk => cases hk; exact ⟨v0, g0, r0⟩

set_option maxRecDepth 100000 in
theorem rootsh_lifted (os : Os) (started : os.Started) (H : Type) (enc : TypeId × Value → H) :
    ReturnsInHanded {} Try.checked os 7 .any (Rows.heapRootsSpec.pre6 enc Try.prog Try.f7 Rows.heapRootsRow.domain false) (Rows.heapRootsSpec.post enc Try.prog Try.f7 false true false false) :=
  law_lifted (C := Try.checked) Try.own started (by kernel_rfl) Try.func7
    (ChangeSpec.witness6 (enc := enc) (C := Try.checked) false ⟨#[], #[.slice none 0 0], []⟩ 8 (by kernel_rfl) (by kernel_rfl) (by kernel_rfl) (by kernel_rfl))
    rfl Try.laidOut
    (fun t ht => by
      rw [Try.params7] at ht
      have : t = 28 := by simpa using ht
      have : t = 28 := by simpa using this
      rcases this with rfl <;> exact ⟨by kernel_rfl, of_decide_eq_true (by kernel_rfl)⟩)
    (show _ = #[4] by kernel_rfl) Try.underlying4
    (fun ds hds => by
      rw [Try.params7] at hds
      match ds, hds with
      | [_], _ => rfl)
    (fun W base args hn hg => rootsh_calls W base enc args hn hg)

theorem rootsh_holds : Rows.HeapRootsSaid :=
  OpenClaim.holds_of_wide 7 Try.f7 rfl rfl rfl rfl rfl rfl rfl ⟨rfl, rfl, rfl, rfl, rfl⟩ rfl rfl rfl rfl rfl (by kernel_rfl) Try.func7 (by kernel_rfl)
    (of_decide_eq_true (by kernel_rfl)) (by unfold Func.isWrapper; first | (rw [if_pos (by decide +kernel)]; kernel_rfl) | (rw [if_neg (by decide +kernel)]; exact ⟨rfl, rfl⟩))
    (fun os started H enc _ => rootsh_lifted os started H enc)
#print axioms rootsh_holds
end Go.Proofs.Ytkifoeiilkhnhaa
