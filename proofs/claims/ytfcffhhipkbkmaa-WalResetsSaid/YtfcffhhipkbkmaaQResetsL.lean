import Derived.Test.YtfcffhhipkbkmaaQ39
import Derived.Test.YtfcffhhipkbkmaaQ38

/-
  WalResets is true for every input: behind a Reset that had no error there are no records, whatever crash comes; one that a crash cuts off leaves all that was committed, or nothing. No condition.
-/



namespace Go.Proofs.Ytfcffhhipkbkmaa
open Go.PW Go.ChangeShapes Go.WideShapes Go.ChangeAt Go.RowKit

set_option maxRecDepth 100000 in
theorem resetsl_calls (W : World) (base : Nat) {H : Type} (enc : TypeId × Value → H) (args : Array Value) (hn : args.size = Try.f8.params.size)
    (h : ∀ (j : Nat) (t : TypeId), Try.f8.params[j]? = some t → ∃ v d p, args[j]? = some v ∧ Value.okWide Try.prog W .any base t v ∧ DataW.Trod enc Try.prog W 0 (fun _ => true) true t v d p) :
    Calls Try.prog 8 args W fun e W' => e = .returned (.bool true) ∧ Below W.heap.size W W' := by
  rw [Try.params8] at hn h
  obtain ⟨v0, d0, p0, g0, o0, t0⟩ := h 0 _ rfl
  obtain ⟨v1, d1, p1, g1, o1, t1⟩ := h 1 _ rfl
  obtain ⟨v2, d2, p2, g2, o2, t2⟩ := h 2 _ rfl
  obtain ⟨a0, _, r0⟩ := arg_slice (enc := fun l => D.sl (textsD l)) Try.underlying29 o0 (Try.rTexts W) t0
  obtain ⟨a1, h1, r1⟩ := arg_lit (enc := fun n : Nat => D.lit (.int .u8 n)) (.inr (.inr ⟨_, Try.underlying5⟩)) o1 (Try.rByte W) t1
  obtain ⟨a2, _, r2⟩ := arg_slice (enc := fun l => D.sl (bools l)) Try.underlying45 o2 (Try.rBools W) t2
  refine law_calls (Try.kResets a0 a1 h1 a2) Try.call8 (args_of hn fun k x hk => ?_)
  match k, hk with
  | 0, hk => cases hk; exact ⟨v0, g0, r0⟩
  | 1, hk => cases hk; exact ⟨v1, g1, r1⟩
  | 2, hk => cases hk; exact ⟨v2, g2, r2⟩

set_option maxRecDepth 100000 in
theorem resetsl_lifted (os : Os) (started : os.Started) (H : Type) (enc : TypeId × Value → H) :
    ReturnsInHanded {} Try.checked os 8 .any (Rows.walResetsSpec.pre6 enc Try.prog Try.f8 Rows.walResetsRow.domain false) (Rows.walResetsSpec.post enc Try.prog Try.f8 false true false false) :=
  law_lifted (C := Try.checked) Try.own started (by kernel_rfl) Try.func8
    (ChangeSpec.witness6 (enc := enc) (C := Try.checked) false ⟨#[], #[.slice none 0 0, .int .u8 0, .slice none 0 0], []⟩ 8 (by kernel_rfl) (by kernel_rfl) (by kernel_rfl) (by kernel_rfl))
    rfl Try.laidOut
    (fun t ht => by
      rw [Try.params8] at ht
      have : t = 29 ∨ t = 5 ∨ t = 45 := by simpa using ht
      rcases this with rfl | rfl | rfl <;> exact ⟨by kernel_rfl, of_decide_eq_true (by kernel_rfl)⟩)
    (show _ = #[4] by kernel_rfl) Try.underlying4
    (fun ds hds => by
      rw [Try.params8] at hds
      match ds, hds with
      | [_, _, _], _ => rfl)
    (fun W base args hn hg => resetsl_calls W base enc args hn hg)

theorem resetsl_holds : Rows.WalResetsSaid :=
  OpenClaim.holds_of_wide 8 Try.f8 rfl rfl rfl rfl rfl rfl rfl ⟨rfl, rfl, rfl, rfl, rfl⟩ rfl rfl rfl rfl rfl (by kernel_rfl) Try.func8 (by kernel_rfl)
    (of_decide_eq_true (by kernel_rfl)) (by unfold Func.isWrapper; first | (rw [if_pos (by decide +kernel)]; kernel_rfl) | (rw [if_neg (by decide +kernel)]; exact ⟨rfl, rfl⟩))
    (fun os started H enc _ => resetsl_lifted os started H enc)
#print axioms resetsl_holds
end Go.Proofs.Ytfcffhhipkbkmaa
