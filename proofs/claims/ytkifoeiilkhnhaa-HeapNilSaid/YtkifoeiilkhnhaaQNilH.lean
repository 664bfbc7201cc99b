import Derived.Test.YtkifoeiilkhnhaaQ41
import Derived.Test.YtkifoeiilkhnhaaQ39

/-
  HeapNil is true for every input: a heap that is not there keeps nothing; there is none without pages. No condition.
-/


namespace Go.Proofs.Ytkifoeiilkhnhaa
open Go.PW Go.ChangeShapes Go.WideShapes Go.ChangeAt Go.RowKit

set_option maxRecDepth 100000 in
theorem nilh_calls (W : World) (base : Nat) {H : Type} (enc : TypeId × Value → H) (args : Array Value) (hn : args.size = Try.f5.params.size)
    (h : ∀ (j : Nat) (t : TypeId), Try.f5.params[j]? = some t → ∃ v d p, args[j]? = some v ∧ Value.okWide Try.prog W .any base t v ∧ DataW.Trod enc Try.prog W 0 (fun _ => true) true t v d p) :
    Calls Try.prog 5 args W fun e W' => e = .returned (.bool true) ∧ Below W.heap.size W W' := by
  rw [Try.params5] at hn h
  obtain ⟨v0, d0, p0, g0, o0, t0⟩ := h 0 _ rfl
  obtain ⟨v1, d1, p1, g1, o1, t1⟩ := h 1 _ rfl
  obtain ⟨a0, _, r0⟩ := arg_lit (enc := fun n : Int => D.lit (.int .i64 n)) (.inr (.inr ⟨_, Try.underlying3⟩)) o0 (reads_int Try.underlying3) t0
  obtain ⟨a1, _, r1⟩ := arg_lit (enc := dS) (.inr (.inl Try.underlying9)) o1 (Try.rText W) t1
  refine law_calls (Try.kHeapNil a0 a1) Try.call5 (args_of hn fun k x hk => ?_)
  match k, hk with
  | 0, hk => cases hk; exact ⟨v0, g0, r0⟩
  | 1, hk => cases hk; exact ⟨v1, g1, r1⟩

set_option maxRecDepth 100000 in
theorem nilh_lifted (os : Os) (started : os.Started) (H : Type) (enc : TypeId × Value → H) :
    ReturnsInHanded {} Try.checked os 5 .any (Rows.heapNilSpec.pre6 enc Try.prog Try.f5 Rows.heapNilRow.domain false) (Rows.heapNilSpec.post enc Try.prog Try.f5 false true false false) :=
  law_lifted (C := Try.checked) Try.own started (by kernel_rfl) Try.func5
    (ChangeSpec.witness6 (enc := enc) (C := Try.checked) false ⟨#[], #[.int .i64 0, .string ⟨#[]⟩], []⟩ 8 (by kernel_rfl) (by kernel_rfl) (by kernel_rfl) (by kernel_rfl))
    rfl Try.laidOut
    (fun t ht => by
      rw [Try.params5] at ht
      have : t = 3 ∨ t = 9 := by simpa using ht
      rcases this with rfl | rfl <;> exact ⟨by kernel_rfl, of_decide_eq_true (by kernel_rfl)⟩)
    (show _ = #[4] by kernel_rfl) Try.underlying4
    (fun ds hds => by
      rw [Try.params5] at hds
      match ds, hds with
      | [_, _], _ => rfl)
    (fun W base args hn hg => nilh_calls W base enc args hn hg)

theorem nilh_holds : Rows.HeapNilSaid :=
  OpenClaim.holds_of_wide 5 Try.f5 rfl rfl rfl rfl rfl rfl rfl ⟨rfl, rfl, rfl, rfl, rfl⟩ rfl rfl rfl rfl rfl (by kernel_rfl) Try.func5 (by kernel_rfl)
    (of_decide_eq_true (by kernel_rfl)) (by unfold Func.isWrapper; first | (rw [if_pos (by decide +kernel)]; kernel_rfl) | (rw [if_neg (by decide +kernel)]; exact ⟨rfl, rfl⟩))
    (fun os started H enc _ => nilh_lifted os started H enc)
#print axioms nilh_holds
end Go.Proofs.Ytkifoeiilkhnhaa
