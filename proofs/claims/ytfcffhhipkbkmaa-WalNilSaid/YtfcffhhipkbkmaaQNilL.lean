import Derived.Test.YtfcffhhipkbkmaaQ29
import Derived.Test.YtfcffhhipkbkmaaQ28

/-
  WalNil is true for every input: a log that is not there has nothing; there is none without a disk. No condition.
-/


namespace Go.Proofs.Ytfcffhhipkbkmaa
open Go.PW Go.ChangeShapes Go.WideShapes Go.ChangeAt Go.RowKit

set_option maxRecDepth 100000 in
theorem nill_calls (W : World) (base : Nat) {H : Type} (enc : TypeId × Value → H) (args : Array Value) (hn : args.size = Try.f4.params.size)
    (h : ∀ (j : Nat) (t : TypeId), Try.f4.params[j]? = some t → ∃ v d p, args[j]? = some v ∧ Value.okWide Try.prog W .any base t v ∧ DataW.Trod enc Try.prog W 0 (fun _ => true) true t v d p) :
    Calls Try.prog 4 args W fun e W' => e = .returned (.bool true) ∧ Below W.heap.size W W' := by
  rw [Try.params4] at hn h
  obtain ⟨v0, d0, p0, g0, o0, t0⟩ := h 0 _ rfl
  obtain ⟨a0, _, r0⟩ := arg_lit (enc := dS) (.inr (.inl Try.underlying9)) o0 (Try.rText W) t0
  refine law_calls (Try.kNilL a0) Try.call4 (args_of hn fun k x hk => ?_)
  match k, hk with
  | 0, hk => cases hk; exact ⟨v0, g0, r0⟩

set_option maxRecDepth 100000 in
theorem nill_lifted (os : Os) (started : os.Started) (H : Type) (enc : TypeId × Value → H) :
    ReturnsInHanded {} Try.checked os 4 .any (Rows.walNilSpec.pre6 enc Try.prog Try.f4 Rows.walNilRow.domain false) (Rows.walNilSpec.post enc Try.prog Try.f4 false true false false) :=
  law_lifted (C := Try.checked) Try.own started (by kernel_rfl) Try.func4
    (ChangeSpec.witness6 (enc := enc) (C := Try.checked) false ⟨#[], #[.string ⟨#[]⟩], []⟩ 8 (by kernel_rfl) (by kernel_rfl) (by kernel_rfl) (by kernel_rfl))
    rfl Try.laidOut
    (fun t ht => by
      rw [Try.params4] at ht
      have : t = 9 := by simpa using ht
      have : t = 9 := by simpa using this
      rcases this with rfl <;> exact ⟨by kernel_rfl, of_decide_eq_true (by kernel_rfl)⟩)
    (show _ = #[4] by kernel_rfl) Try.underlying4
    (fun ds hds => by
      rw [Try.params4] at hds
      match ds, hds with
      | [_], _ => rfl)
    (fun W base args hn hg => nill_calls W base enc args hn hg)

theorem nill_holds : Rows.WalNilSaid :=
  OpenClaim.holds_of_wide 4 Try.f4 rfl rfl rfl rfl rfl rfl rfl ⟨rfl, rfl, rfl, rfl, rfl⟩ rfl rfl rfl rfl rfl (by kernel_rfl) Try.func4 (by kernel_rfl)
    (of_decide_eq_true (by kernel_rfl)) (by unfold Func.isWrapper; first | (rw [if_pos (by decide +kernel)]; kernel_rfl) | (rw [if_neg (by decide +kernel)]; exact ⟨rfl, rfl⟩))
    (fun os started H enc _ => nill_lifted os started H enc)
#print axioms nill_holds
end Go.Proofs.Ytfcffhhipkbkmaa
