import Derived.Test.YtcdiifnnnnnceaaQ36
import Derived.Test.YtcdiifnnnnnceaaQ37

/-
  TrackSets is true for every input: what comes of any versions, when any pieces are set at any time, and what the key had in any span, is as the document says. No condition.
-/


namespace Go.Proofs.Ytcdiifnnnnnceaa
open Go.PW Go.ChangeShapes Go.WideShapes Go.ChangeAt Go.RowKit

set_option maxRecDepth 100000 in
theorem setsv_calls (W : World) (base : Nat) {H : Type} (enc : TypeId × Value → H) (args : Array Value) (hn : args.size = Try.f4.params.size)
    (h : ∀ (j : Nat) (t : TypeId), Try.f4.params[j]? = some t → ∃ v d p, args[j]? = some v ∧ Value.okWide Try.prog W .any base t v ∧ DataW.Trod enc Try.prog W 0 (fun _ => true) true t v d p) :
    Calls Try.prog 4 args W fun e W' => e = .returned (.bool true) ∧ Below W.heap.size W W' := by
  rw [Try.params4] at hn h
  obtain ⟨v0, d0, p0, g0, o0, t0⟩ := h 0 _ rfl
  obtain ⟨v1, d1, p1, g1, o1, t1⟩ := h 1 _ rfl
  obtain ⟨v2, d2, p2, g2, o2, t2⟩ := h 2 _ rfl
  obtain ⟨a0, h0, r0⟩ := arg_slice (enc := encVers) Try.underlying22 o0 (Try.rVers W) t0
  obtain ⟨a1, h1, r1⟩ := arg_slice (enc := encPieces) Try.underlying31 o1 (Try.rPieces W) t1
  obtain ⟨a2, _, r2⟩ := arg_struct Try.underlying43 o2 (Try.rSp W) t2
  refine law_calls (Try.kSetsV a0 a1 a2 h0 h1) Try.call4 (args_of hn fun k x hk => ?_)
  match k, hk with
  | 0, hk => cases hk; exact ⟨v0, g0, r0⟩
  | 1, hk => cases hk; exact ⟨v1, g1, r1⟩
  | 2, hk => cases hk; exact ⟨v2, g2, r2⟩

set_option maxRecDepth 100000 in
theorem setsv_lifted (os : Os) (started : os.Started) (H : Type) (enc : TypeId × Value → H) :
    ReturnsInHanded {} Try.checked os 4 .any (Rows.trackSetsSpec.pre6 enc Try.prog Try.f4 Rows.trackSetsRow.domain false) (Rows.trackSetsSpec.post enc Try.prog Try.f4 false true false false) :=
  law_lifted (C := Try.checked) Try.own started (by kernel_rfl) Try.func4
    (ChangeSpec.witness6 (enc := enc) (C := Try.checked) false ⟨#[], #[.slice none 0 0, .slice none 0 0, .agg #[.int .i64 0, .int .i64 0]], []⟩ 8 (by kernel_rfl) (by kernel_rfl) (by kernel_rfl) (by kernel_rfl))
    rfl Try.laidOut
    (fun t ht => by
      rw [Try.params4] at ht
      have : t = 22 ∨ t = 31 ∨ t = 43 := by simpa using ht
      rcases this with rfl | rfl | rfl <;> exact ⟨by kernel_rfl, of_decide_eq_true (by kernel_rfl)⟩)
    (show _ = #[4] by kernel_rfl) Try.underlying4
    (fun ds hds => by
      rw [Try.params4] at hds
      match ds, hds with
      | [_, _, _], _ => rfl)
    (fun W base args hn hg => setsv_calls W base enc args hn hg)

theorem setsv_holds : Rows.TrackSetsSaid :=
  OpenClaim.holds_of_wide 4 Try.f4 rfl rfl rfl rfl rfl rfl rfl ⟨rfl, rfl, rfl, rfl, rfl⟩ rfl rfl rfl rfl rfl (by kernel_rfl) Try.func4 (by kernel_rfl)
    (of_decide_eq_true (by kernel_rfl)) (by unfold Func.isWrapper; first | (rw [if_pos (by decide +kernel)]; kernel_rfl) | (rw [if_neg (by decide +kernel)]; exact ⟨rfl, rfl⟩))
    (fun os started H enc _ => setsv_lifted os started H enc)
#print axioms setsv_holds
end Go.Proofs.Ytcdiifnnnnnceaa
