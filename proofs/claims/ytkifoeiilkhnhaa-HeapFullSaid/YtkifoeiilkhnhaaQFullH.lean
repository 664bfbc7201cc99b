import Derived.Test.YtkifoeiilkhnhaaQ40
import Derived.Test.YtkifoeiilkhnhaaQ38

/-
  HeapFull is true for every input: a record that finds no room changes nothing; the longest that does takes all. No condition.
-/


namespace Go.Proofs.Ytkifoeiilkhnhaa
open Go.PW Go.ChangeShapes Go.WideShapes Go.ChangeAt Go.RowKit

set_option maxRecDepth 100000 in
theorem fullh_calls (W : World) (base : Nat) {H : Type} (enc : TypeId × Value → H) (args : Array Value) (hn : args.size = Try.f4.params.size)
    (h : ∀ (j : Nat) (t : TypeId), Try.f4.params[j]? = some t → ∃ v d p, args[j]? = some v ∧ Value.okWide Try.prog W .any base t v ∧ DataW.Trod enc Try.prog W 0 (fun _ => true) true t v d p) :
    Calls Try.prog 4 args W fun e W' => e = .returned (.bool true) ∧ Below W.heap.size W W' := by
  rw [Try.params4] at hn h
  obtain ⟨v0, d0, p0, g0, o0, t0⟩ := h 0 _ rfl
  obtain ⟨v1, d1, p1, g1, o1, t1⟩ := h 1 _ rfl
  obtain ⟨a0, h0, r0⟩ := arg_lit (enc := fun n : Nat => D.lit (.int .u8 n)) (.inr (.inr ⟨_, Try.underlying5⟩)) o0 (Try.rByte W) t0
  obtain ⟨a1, h1, r1⟩ := arg_lit (enc := fun n : Nat => D.lit (.int .u8 n)) (.inr (.inr ⟨_, Try.underlying5⟩)) o1 (Try.rByte W) t1
  refine law_calls (Try.kHeapFull a0 h0 a1 h1) Try.call4 (args_of hn fun k x hk => ?_)
  match k, hk with
  | 0, hk => cases hk; exact ⟨v0, g0, r0⟩
  | 1, hk => cases hk; exact ⟨v1, g1, r1⟩

set_option maxRecDepth 100000 in
theorem fullh_lifted (os : Os) (started : os.Started) (H : Type) (enc : TypeId × Value → H) :
    ReturnsInHanded {} Try.checked os 4 .any (Rows.heapFullSpec.pre6 enc Try.prog Try.f4 Rows.heapFullRow.domain false) (Rows.heapFullSpec.post enc Try.prog Try.f4 false true false false) :=
  law_lifted (C := Try.checked) Try.own started (by kernel_rfl) Try.func4
    (ChangeSpec.witness6 (enc := enc) (C := Try.checked) false ⟨#[], #[.int .u8 0, .int .u8 0], []⟩ 8 (by kernel_rfl) (by kernel_rfl) (by kernel_rfl) (by kernel_rfl))
    rfl Try.laidOut
    (fun t ht => by
      rw [Try.params4] at ht
      have : t = 5 ∨ t = 5 := by simpa using ht
      have : t = 5 := by simpa using this
      rcases this with rfl <;> exact ⟨by kernel_rfl, of_decide_eq_true (by kernel_rfl)⟩)
    (show _ = #[4] by kernel_rfl) Try.underlying4
    (fun ds hds => by
      rw [Try.params4] at hds
      match ds, hds with
      | [_, _], _ => rfl)
    (fun W base args hn hg => fullh_calls W base enc args hn hg)

theorem fullh_holds : Rows.HeapFullSaid :=
  OpenClaim.holds_of_wide 4 Try.f4 rfl rfl rfl rfl rfl rfl rfl ⟨rfl, rfl, rfl, rfl, rfl⟩ rfl rfl rfl rfl rfl (by kernel_rfl) Try.func4 (by kernel_rfl)
    (of_decide_eq_true (by kernel_rfl)) (by unfold Func.isWrapper; first | (rw [if_pos (by decide +kernel)]; kernel_rfl) | (rw [if_neg (by decide +kernel)]; exact ⟨rfl, rfl⟩))
    (fun os started H enc _ => fullh_lifted os started H enc)
#print axioms fullh_holds
end Go.Proofs.Ytkifoeiilkhnhaa
