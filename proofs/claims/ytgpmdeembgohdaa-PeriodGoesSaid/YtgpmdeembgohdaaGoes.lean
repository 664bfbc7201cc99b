/-
  PeriodGoes is true for every input: what goes and what comes is of the one and of the other alone; without what goes, the one has as many pieces as the other without what comes. No condition.
-/
import Derived.Test.YtgpmdeembgohdaaPwZ
import Derived.Test.YtgpmdeembgohdaaPwGe
namespace Go.Proofs.Ytgpmdeembgohdaa
open Go.PW Go.ChangeShapes Go.WideShapes Go.ChangeAt Go.RowKit

theorem goes_calls (W : World) (base : Nat) {H : Type} (enc : TypeId × Value → H) (args : Array Value) (hn : args.size = Try.f7.params.size)
    (h : ∀ (j : Nat) (t : TypeId), Try.f7.params[j]? = some t → ∃ v d p, args[j]? = some v ∧ Value.okWide Try.prog W .any base t v ∧ DataW.Trod enc Try.prog W 0 (fun _ => true) true t v d p) :
    Calls Try.prog 7 args W fun e W' => e = .returned (.bool true) ∧ Below W.heap.size W W' := by
  rw [Try.params7] at hn h
  obtain ⟨v0, d0, p0, g0, o0, t0⟩ := h 0 _ rfl
  obtain ⟨v1, d1, p1, g1, o1, t1⟩ := h 1 _ rfl
  obtain ⟨a, _, ra⟩ := arg_slice (enc := encOps) Try.underlying50 o0 (Try.rOps W) t0
  obtain ⟨b, _, rb⟩ := arg_slice (enc := encOps) Try.underlying50 o1 (Try.rOps W) t1
  refine law_calls (Try.kGoes a b) Try.call7 (args_of hn fun k x hk => ?_)
  match k, hk with
  | 0, hk => cases hk; exact ⟨v0, g0, ra⟩
  | 1, hk => cases hk; exact ⟨v1, g1, rb⟩

set_option maxRecDepth 100000 in
theorem goes_lifted (os : Os) (started : os.Started) (H : Type) (enc : TypeId × Value → H) :
    ReturnsInHanded {} Try.checked os 7 .any (Rows.periodGoesSpec.pre6 enc Try.prog Try.f7 Rows.periodGoesRow.domain false) (Rows.periodGoesSpec.post enc Try.prog Try.f7 false true false false) :=
  law_lifted (C := Try.checked) Try.own started (by kernel_rfl) Try.func7
    (ChangeSpec.witness6 (enc := enc) (C := Try.checked) false ⟨#[], #[.slice none 0 0, .slice none 0 0], []⟩ 8 (by kernel_rfl) (by kernel_rfl) (by kernel_rfl) (by kernel_rfl))
    rfl Try.laidOut
    (fun t ht => by
      rw [Try.params7] at ht
      have : t = 50 := by simpa using ht
      subst this
      exact ⟨by kernel_rfl, of_decide_eq_true (by kernel_rfl)⟩)
    (show _ = #[4] by kernel_rfl) Try.underlying4
    (fun ds hds => by
      rw [Try.params7] at hds
      match ds, hds with
      | [_, _], _ => rfl)
    (fun W base args hn hg => goes_calls W base enc args hn hg)

theorem goes_holds : Rows.PeriodGoesSaid :=
  OpenClaim.holds_of_wide 7 Try.f7 rfl rfl rfl rfl rfl rfl rfl ⟨rfl, rfl, rfl, rfl, rfl⟩ rfl rfl rfl rfl rfl (by kernel_rfl) Try.func7 (by kernel_rfl)
    (of_decide_eq_true (by kernel_rfl)) (by unfold Func.isWrapper; first | (rw [if_pos (by decide +kernel)]; kernel_rfl) | (rw [if_neg (by decide +kernel)]; exact ⟨rfl, rfl⟩))
    (fun os started H enc _ => goes_lifted os started H enc)
#print axioms goes_holds
end Go.Proofs.Ytgpmdeembgohdaa
