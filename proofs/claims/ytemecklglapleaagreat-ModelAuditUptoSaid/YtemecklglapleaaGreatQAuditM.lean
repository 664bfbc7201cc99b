/-
 ModelAudit is true for every input of bulk at most 1048576: what is audited of a key is, at each time, what the key had, coalesced. The condition is the second form's own: the arguments hold at most 1048576 values and letters.
-/
import Derived.Test.YtemecklglapleaaGreatQ34
import Derived.Test.YtemecklglapleaaGreatQ42



namespace Go.Proofs.YtemecklglapleaaGreat
open Go.PW Go.ChangeShapes Go.WideShapes Go.ChangeAt Go.RowKit
set_option maxRecDepth 100000 in
theorem xwl (W : World) (base : Nat) {H : Type} (enc : TypeId × Value → H) (args : Array Value) (hn : args.size = Tryz.f4.params.size)
 (h : ∀ (j : Nat) (t : TypeId), Tryz.f4.params[j]? = some t → ∃ v d p, args[j]? = some v ∧ Value.okWide Tryz.prog W .any base t v ∧ DataW.Trod enc Tryz.prog W 0 (fun _ => true) true t v d p ∧ Rows.uptoBulk d ≤ 1048576) :
 Calls Tryz.prog 4 args W fun e W' => e = .returned (.bool true) ∧ Below W.heap.size W W' := by
 rw [Tryz.params4] at hn h
 obtain ⟨v0, d0, p0, g0, o0, t0, b0⟩ := h 0 _ rfl
 obtain ⟨v1, d1, p1, g1, o1, t1, _⟩ := h 1 _ rfl
 obtain ⟨v2, d2, p2, g2, o2, t2, _⟩ := h 2 _ rfl
 obtain ⟨a0, h0, r0⟩ := yk4 (enc := z0d) Tryz.underlying22 o0 (Tryz.uOps W) t0 b0
 obtain ⟨a1, _, r1⟩ := yw7 (enc := fun n : Int => D.lit (.int .u8 n)) (.inr (.inr ⟨_, Tryz.underlying5⟩)) o1 (zxa Tryz.underlying5) t1
 obtain ⟨a2, _, r2⟩ := yw7 (enc := fun n : Int => D.lit (.int .i64 n)) (.inr (.inr ⟨_, Tryz.underlying3⟩)) o2 (zxa Tryz.underlying3) t2
 refine yvq (Tryz.kAuditLaw a0 a1 a2 h0.1 h0.2) Tryz.call4 (y6q hn fun k x hk => ?_)
 match k, hk with
 | 0, hk => cases hk; exact ⟨v0, g0, r0⟩
 | 1, hk => cases hk; exact ⟨v1, g1, r1⟩
 | 2, hk => cases hk; exact ⟨v2, g2, r2⟩
set_option maxRecDepth 100000 in
theorem xwk (os : Os) (started : os.Started) (H : Type) (enc : TypeId × Value → H) (F : Stop.Interp) :
 ReturnsInHanded {} Tryz.checked os 4 .any ((Rows.OpenSpec.upto Rows.modelAuditSpec).pre6 enc Tryz.prog Tryz.f4 Rows.modelAuditUptoRow.domain false) (((Rows.OpenSpec.upto Rows.modelAuditSpec).at F).post enc Tryz.prog Tryz.f4 false true false false) :=
 yxt (C := Tryz.checked) Tryz.own started (by kernel_rfl) Tryz.func4
  (OpenSpec.witness (enc := enc) (C := Tryz.checked) (s := Rows.OpenSpec.upto Rows.modelAuditSpec) (k := Rows.uptoSmall) rfl false ⟨#[], #[.slice none 0 0, .int .u8 0, .int .i64 0], []⟩ 8 (by kernel_rfl) (by kernel_rfl) (by kernel_rfl)
    (x := ([.nil, .lit (.int .u8 0), .lit (.int .i64 0)], [], [])) (by kernel_rfl) rfl (by kernel_rfl))
  rfl Tryz.laidOut
  (fun t ht => by
    rw [Tryz.params4] at ht
    have : t = 22 ∨ t = 5 ∨ t = 3 := by simpa using ht
    rcases this with rfl | rfl | rfl <;> exact ⟨by kernel_rfl, of_decide_eq_true (by kernel_rfl)⟩)
  (show _ = #[4] by kernel_rfl) Tryz.underlying4
  (fun ds hds => by
    rw [Tryz.params4] at hds
    match ds, hds with
    | [_, _, _], _ => rfl)
  (fun W base args hn hg => xwl W base enc args hn hg)
theorem auditm_holds : Rows.ModelAuditUptoSaid :=
 OpenClaim.holds_of_cond 4 Tryz.f4 rfl rfl rfl rfl rfl rfl rfl ⟨rfl, rfl, rfl, rfl, rfl⟩ rfl rfl rfl rfl rfl (by kernel_rfl) Tryz.func4 (by kernel_rfl)
  (of_decide_eq_true (by kernel_rfl)) (by unfold Func.isWrapper; first | (rw [if_pos (by decide +kernel)]; kernel_rfl) | (rw [if_neg (by decide +kernel)]; exact ⟨rfl, rfl⟩))
  (fun os started H enc _ F => xwk os started H enc F)
#print axioms auditm_holds
end Go.Proofs.YtemecklglapleaaGreat
