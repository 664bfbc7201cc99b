/-
  PagerAtomic is true for every input: a commit that is cut off anywhere leaves, behind a crash in which any of what was not flushed stays, all pages as ahead of it, or all as behind it; as behind it, if it told OK. No condition.
-/
import Derived.Test.YthkngcankpnhlaaQ39
import Derived.Test.YthkngcankpnhlaaQ38



namespace Go.Proofs.Ythkngcankpnhlaa
open Go.PW Go.ChangeShapes Go.WideShapes Go.ChangeAt Go.RowKit
set_option maxRecDepth 100000 in
theorem atomicp_calls (W : World) (base : Nat) {H : Type} (enc : TypeId × Value → H) (args : Array Value) (hn : args.size = Try.f6.params.size)
    (h : ∀ (j : Nat) (t : TypeId), Try.f6.params[j]? = some t → ∃ v d p, args[j]? = some v ∧ Value.okWide Try.prog W .any base t v ∧ DataW.Trod enc Try.prog W 0 (fun _ => true) true t v d p) :
    Calls Try.prog 6 args W fun e W' => e = .returned (.bool true) ∧ Below W.heap.size W W' := by
  rw [Try.params6] at hn h
  obtain ⟨v0, d0, p0, g0, o0, t0⟩ := h 0 _ rfl
  obtain ⟨v1, d1, p1, g1, o1, t1⟩ := h 1 _ rfl
  obtain ⟨v2, d2, p2, g2, o2, t2⟩ := h 2 _ rfl
  obtain ⟨a0, _, r0⟩ := arg_slice (enc := fun l => D.sl (opsP l)) Try.underlying50 o0 (Try.rOps9 W) t0
  obtain ⟨a1, _, r1⟩ := arg_slice (enc := fun l => D.sl (opsP l)) Try.underlying50 o1 (Try.rOps9 W) t1
  obtain ⟨a2, h2, r2⟩ := arg_lit (enc := fun n : Nat => D.lit (.int .u8 n)) (.inr (.inr ⟨_, Try.underlying5⟩)) o2 (Try.rByte W) t2
  refine law_calls (Try.kPagerAtomic a0 a1 a2 h2) Try.call6 (args_of hn fun k x hk => ?_)
  match k, hk with
  | 0, hk => cases hk; exact ⟨v0, g0, r0⟩
  | 1, hk => cases hk; exact ⟨v1, g1, r1⟩
  | 2, hk => cases hk; exact ⟨v2, g2, r2⟩
set_option maxRecDepth 100000 in
theorem atomicp_lifted (os : Os) (started : os.Started) (H : Type) (enc : TypeId × Value → H) :
    ReturnsInHanded {} Try.checked os 6 .any (Rows.pagerAtomicSpec.pre6 enc Try.prog Try.f6 Rows.pagerAtomicRow.domain false) (Rows.pagerAtomicSpec.post enc Try.prog Try.f6 false true false false) :=
  law_lifted (C := Try.checked) Try.own started (by kernel_rfl) Try.func6
    (ChangeSpec.witness6 (enc := enc) (C := Try.checked) false ⟨#[], #[.slice none 0 0, .slice none 0 0, .int .u8 0], []⟩ 8 (by kernel_rfl) (by kernel_rfl) (by kernel_rfl) (by kernel_rfl))
    rfl Try.laidOut
    (fun t ht => by
      rw [Try.params6] at ht
      have : t = 50 ∨ t = 50 ∨ t = 5 := by simpa using ht
      have : t = 50 ∨ t = 5 := by simpa using this
      rcases this with rfl | rfl <;> exact ⟨by kernel_rfl, of_decide_eq_true (by kernel_rfl)⟩)
    (show _ = #[4] by kernel_rfl) Try.underlying4
    (fun ds hds => by
      rw [Try.params6] at hds
      match ds, hds with
      | [_, _, _], _ => rfl)
    (fun W base args hn hg => atomicp_calls W base enc args hn hg)
theorem atomicp_holds : Rows.PagerAtomicSaid :=
  OpenClaim.holds_of_wide 6 Try.f6 rfl rfl rfl rfl rfl rfl rfl ⟨rfl, rfl, rfl, rfl, rfl⟩ rfl rfl rfl rfl rfl (by kernel_rfl) Try.func6 (by kernel_rfl)
    (of_decide_eq_true (by kernel_rfl)) (by unfold Func.isWrapper; first | (rw [if_pos (by decide +kernel)]; kernel_rfl) | (rw [if_neg (by decide +kernel)]; exact ⟨rfl, rfl⟩))
    (fun os started H enc _ => atomicp_lifted os started H enc)
#print axioms atomicp_holds
end Go.Proofs.Ythkngcankpnhlaa
