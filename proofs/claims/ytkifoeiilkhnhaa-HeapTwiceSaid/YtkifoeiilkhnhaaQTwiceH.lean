import Derived.Test.YtkifoeiilkhnhaaQ40
import Derived.Test.YtkifoeiilkhnhaaQ39

/-
  HeapTwice is true for every input: the same record put twice has two ids; one that is dropped leaves the other one; as many pages are free then as ahead of it. No condition.
-/


namespace Go.Proofs.Ytkifoeiilkhnhaa
open Go.PW Go.ChangeShapes Go.WideShapes Go.ChangeAt Go.RowKit

set_option maxRecDepth 100000 in
theorem twiceh_calls (W : World) (base : Nat) {H : Type} (enc : TypeId × Value → H) (args : Array Value) (hn : args.size = Try.f6.params.size)
    (h : ∀ (j : Nat) (t : TypeId), Try.f6.params[j]? = some t → ∃ v d p, args[j]? = some v ∧ Value.okWide Try.prog W .any base t v ∧ DataW.Trod enc Try.prog W 0 (fun _ => true) true t v d p) :
    Calls Try.prog 6 args W fun e W' => e = .returned (.bool true) ∧ Below W.heap.size W W' := by
  rw [Try.params6] at hn h
  obtain ⟨v0, d0, p0, g0, o0, t0⟩ := h 0 _ rfl
  obtain ⟨v1, d1, p1, g1, o1, t1⟩ := h 1 _ rfl
  obtain ⟨a0, _, r0⟩ := arg_slice (enc := fun l => D.sl (opsH l)) Try.underlying22 o0 (Try.rOpsH W) t0
  obtain ⟨a1, _, r1⟩ := arg_lit (enc := dS) (.inr (.inl Try.underlying9)) o1 (Try.rText W) t1
  refine law_calls (Try.kHeapTwice a0 a1) Try.call6 (args_of hn fun k x hk => ?_)
  match k, hk with
  | 0, hk => cases hk; exact ⟨v0, g0, r0⟩
  | 1, hk => cases hk; exact ⟨v1, g1, r1⟩

set_option maxRecDepth 100000 in
theorem twiceh_lifted (os : Os) (started : os.Started) (H : Type) (enc : TypeId × Value → H) :
    ReturnsInHanded {} Try.checked os 6 .any (Rows.heapTwiceSpec.pre6 enc Try.prog Try.f6 Rows.heapTwiceRow.domain false) (Rows.heapTwiceSpec.post enc Try.prog Try.f6 false true false false) :=
  law_lifted (C := Try.checked) Try.own started (by kernel_rfl) Try.func6
    (ChangeSpec.witness6 (enc := enc) (C := Try.checked) false ⟨#[], #[.slice none 0 0, .string ⟨#[]⟩], []⟩ 8 (by kernel_rfl) (by kernel_rfl) (by kernel_rfl) (by kernel_rfl))
    rfl Try.laidOut
    (fun t ht => by
      rw [Try.params6] at ht
      have : t = 22 ∨ t = 9 := by simpa using ht
      rcases this with rfl | rfl <;> exact ⟨by kernel_rfl, of_decide_eq_true (by kernel_rfl)⟩)
    (show _ = #[4] by kernel_rfl) Try.underlying4
    (fun ds hds => by
      rw [Try.params6] at hds
      match ds, hds with
      | [_, _], _ => rfl)
    (fun W base args hn hg => twiceh_calls W base enc args hn hg)

theorem twiceh_holds : Rows.HeapTwiceSaid :=
  OpenClaim.holds_of_wide 6 Try.f6 rfl rfl rfl rfl rfl rfl rfl ⟨rfl, rfl, rfl, rfl, rfl⟩ rfl rfl rfl rfl rfl (by kernel_rfl) Try.func6 (by kernel_rfl)
    (of_decide_eq_true (by kernel_rfl)) (by unfold Func.isWrapper; first | (rw [if_pos (by decide +kernel)]; kernel_rfl) | (rw [if_neg (by decide +kernel)]; exact ⟨rfl, rfl⟩))
    (fun os started H enc _ => twiceh_lifted os started H enc)
#print axioms twiceh_holds
end Go.Proofs.Ytkifoeiilkhnhaa
