import Derived.Test.YtkifoeiilkhnhaaQ41
import Derived.Test.YtkifoeiilkhnhaaQ40

/-
  HeapKeeps is true for every input: what was put is got, whatever else is put, dropped, and made the root; what is dropped is there no more, and as many pages are free as are needed by none. No condition.
-/


namespace Go.Proofs.Ytkifoeiilkhnhaa
open Go.PW Go.ChangeShapes Go.WideShapes Go.ChangeAt Go.RowKit

set_option maxRecDepth 100000 in
theorem keepsh_calls (W : World) (base : Nat) {H : Type} (enc : TypeId × Value → H) (args : Array Value) (hn : args.size = Try.f3.params.size)
    (h : ∀ (j : Nat) (t : TypeId), Try.f3.params[j]? = some t → ∃ v d p, args[j]? = some v ∧ Value.okWide Try.prog W .any base t v ∧ DataW.Trod enc Try.prog W 0 (fun _ => true) true t v d p) :
    Calls Try.prog 3 args W fun e W' => e = .returned (.bool true) ∧ Below W.heap.size W W' := by
  rw [Try.params3] at hn h
  obtain ⟨v0, d0, p0, g0, o0, t0⟩ := h 0 _ rfl
  obtain ⟨a0, _, r0⟩ := arg_slice (enc := fun l => D.sl (opsH l)) Try.underlying22 o0 (Try.rOpsH W) t0
  refine law_calls (Try.kHeapKeeps a0) Try.call3 (args_of hn fun k x hk => ?_)
  match k, hk with
  | 0, hk => cases hk; exact ⟨v0, g0, r0⟩

set_option maxRecDepth 100000 in
theorem keepsh_lifted (os : Os) (started : os.Started) (H : Type) (enc : TypeId × Value → H) :
    ReturnsInHanded {} Try.checked os 3 .any (Rows.heapKeepsSpec.pre6 enc Try.prog Try.f3 Rows.heapKeepsRow.domain false) (Rows.heapKeepsSpec.post enc Try.prog Try.f3 false true false false) :=
  law_lifted (C := Try.checked) Try.own started (by kernel_rfl) Try.func3
    (ChangeSpec.witness6 (enc := enc) (C := Try.checked) false ⟨#[], #[.slice none 0 0], []⟩ 8 (by kernel_rfl) (by kernel_rfl) (by kernel_rfl) (by kernel_rfl))
    rfl Try.laidOut
    (fun t ht => by
      rw [Try.params3] at ht
      have : t = 22 := by simpa using ht
      have : t = 22 := by simpa using this
      rcases this with rfl <;> exact ⟨by kernel_rfl, of_decide_eq_true (by kernel_rfl)⟩)
    (show _ = #[4] by kernel_rfl) Try.underlying4
    (fun ds hds => by
      rw [Try.params3] at hds
      match ds, hds with
      | [_], _ => rfl)
    (fun W base args hn hg => keepsh_calls W base enc args hn hg)

theorem keepsh_holds : Rows.HeapKeepsSaid :=
  OpenClaim.holds_of_wide 3 Try.f3 rfl rfl rfl rfl rfl rfl rfl ⟨rfl, rfl, rfl, rfl, rfl⟩ rfl rfl rfl rfl rfl (by kernel_rfl) Try.func3 (by kernel_rfl)
    (of_decide_eq_true (by kernel_rfl)) (by unfold Func.isWrapper; first | (rw [if_pos (by decide +kernel)]; kernel_rfl) | (rw [if_neg (by decide +kernel)]; exact ⟨rfl, rfl⟩))
    (fun os started H enc _ => keepsh_lifted os started H enc)
#print axioms keepsh_holds
end Go.Proofs.Ytkifoeiilkhnhaa
