/-
  HeapPlays is true for every input: whatever is put, got, dropped, made the root, and laid into pages: what is told, and what all pages are, is as the document says. No condition.
-/
import Derived.Test.YtjmempllnfonkaaGreatQ42
import Derived.Test.YtjmempllnfonkaaGreatQ41



namespace Go.Proofs.YtjmempllnfonkaaGreat
open Go.PW Go.ChangeShapes Go.WideShapes Go.ChangeAt Go.RowKit
set_option maxRecDepth 100000 in
theorem playsh_calls (W : World) (base : Nat) {H : Type} (enc : TypeId × Value → H) (args : Array Value) (hn : args.size = Tryz.f3.params.size)
    (h : ∀ (j : Nat) (t : TypeId), Tryz.f3.params[j]? = some t → ∃ v d p, args[j]? = some v ∧ Value.okWide Tryz.prog W .any base t v ∧ DataW.Trod enc Tryz.prog W 0 (fun _ => true) true t v d p) :
    Calls Tryz.prog 3 args W fun e W' => e = .returned (.bool true) ∧ Below W.heap.size W W' := by
  rw [Tryz.params3] at hn h
  obtain ⟨v0, d0, p0, g0, o0, t0⟩ := h 0 _ rfl
  obtain ⟨v1, d1, p1, g1, o1, t1⟩ := h 1 _ rfl
  obtain ⟨a0, h0, r0⟩ := arg_lit (enc := fun n : Nat => D.lit (.int .u8 n)) (.inr (.inr ⟨_, Tryz.underlying5⟩)) o0 (Tryz.rByte W) t0
  obtain ⟨a1, _, r1⟩ := arg_slice (enc := fun l => D.sl (opsH l)) Tryz.underlying22 o1 (Tryz.rOpsH W) t1
  refine law_calls (Tryz.kHeapPlays a0 h0 a1) Tryz.call3 (args_of hn fun k x hk => ?_)
  match k, hk with
  | 0, hk => cases hk; exact ⟨v0, g0, r0⟩
  | 1, hk => cases hk; exact ⟨v1, g1, r1⟩
set_option maxRecDepth 100000 in
theorem playsh_lifted (os : Os) (started : os.Started) (H : Type) (enc : TypeId × Value → H) :
    ReturnsInHanded {} Tryz.checked os 3 .any (Rows.heapPlaysSpec.pre6 enc Tryz.prog Tryz.f3 Rows.heapPlaysRow.domain false) (Rows.heapPlaysSpec.post enc Tryz.prog Tryz.f3 false true false false) :=
  law_lifted (C := Tryz.checked) Tryz.own started (by kernel_rfl) Tryz.func3
    (ChangeSpec.witness6 (enc := enc) (C := Tryz.checked) false ⟨#[], #[.int .u8 0, .slice none 0 0], []⟩ 8 (by kernel_rfl) (by kernel_rfl) (by kernel_rfl) (by kernel_rfl))
    rfl Tryz.laidOut
    (fun t ht => by
      rw [Tryz.params3] at ht
      have : t = 5 ∨ t = 22 := by simpa using ht
      rcases this with rfl | rfl <;> exact ⟨by kernel_rfl, of_decide_eq_true (by kernel_rfl)⟩)
    (show _ = #[4] by kernel_rfl) Tryz.underlying4
    (fun ds hds => by
      rw [Tryz.params3] at hds
      match ds, hds with
      | [_, _], _ => rfl)
    (fun W base args hn hg => playsh_calls W base enc args hn hg)
theorem playsh_holds : Rows.HeapPlaysSaid :=
  OpenClaim.holds_of_wide 3 Tryz.f3 rfl rfl rfl rfl rfl rfl rfl ⟨rfl, rfl, rfl, rfl, rfl⟩ rfl rfl rfl rfl rfl (by kernel_rfl) Tryz.func3 (by kernel_rfl)
    (of_decide_eq_true (by kernel_rfl)) (by unfold Func.isWrapper; first | (rw [if_pos (by decide +kernel)]; kernel_rfl) | (rw [if_neg (by decide +kernel)]; exact ⟨rfl, rfl⟩))
    (fun os started H enc _ => playsh_lifted os started H enc)
#print axioms playsh_holds
end Go.Proofs.YtjmempllnfonkaaGreat
