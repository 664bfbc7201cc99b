/-
  Parts of the proof, laid together: PwGh, PwGi, PwGj, PwGk.
-/
import Derived.Test.YtghlemfokpfngaaQ21

namespace Go.Proofs
open Go.PW
section
variable {g : Gh} {H : HMap} {A : AMap} {i5 i4 i2 id : Nat} {r : Rd} {at0 : Nat} {x0 : Int}
set_option maxRecDepth 8000 in
set_option maxHeartbeats 8000000 in
theorem Try.catchPan (off : Nat) (hw : Wf H A) (hab : Above off H A) (vals : Array Value) (w : World) (har : ArgsRep g A [.c (.ptr i5 0), .c (.ptr i4 0), .c (.ptr i2 0)] vals.toList) (hm : MRel g H A w) (hd : DomOK g H)
    (h5 : H i5 = some [.d (.lit (.int .i64 at0))]) (h4 : H i4 = some [.d (.lit (.int .u64 x0))]) (h2 : H i2 = some [.ptr id 0]) (hr : H id = some (encRd r)) (n4 : i4 ≠ id) (n5 : i5 ≠ id) (n45 : i4 ≠ i5) (n2 : i2 ≠ id) (n24 : i2 ≠ i4) :
    CallsD Try.prog 83 vals (.panicking [{ v := short, recovered := false }]) w fun e u' w' => e = .returned (.tuple #[]) ∧ u' = .panicking [{ v := short, recovered := true }] ∧
      ∃ g', MRel g' (upd (upd H i4 (some [.d (.lit (.int .u64 0))])) id (some (encRd { r with at_ := at0, e := 8 }))) A w' ∧ Evol g A w g' A w' ∧ DomOK g' (upd (upd H i4 (some [.d (.lit (.int .u64 0))])) id (some (encRd { r with at_ := at0, e := 8 }))) := by
  refine callsD_of_wpS Try.func83 rfl fun c₀ cs hu => ?_
  have hr0 := RS_entry (fn := Try.f83) (args := [.c (.ptr i5 0), .c (.ptr i4 0), .c (.ptr i2 0)]) (vals := vals) hm hd har (by exact Nat.le_of_ble_eq_true rfl)
  apply wpS_seq
  apply wpS_region
  simp [wpOpsS, go_sem, recoverD, hu, Exit.thenS]
  have hr2 : RS [] Try.f83.ntmps g A w ⟨put (entry [.c (.ptr i5 0), .c (.ptr i4 0), .c (.ptr i2 0)]) (some 7) (.c (.d (.lit short))), H, A⟩ { tmps := (vals ++ Array.replicate (23 - vals.size) undef).setIfInBounds 7 short, defers := [] } w := by
    obtain ⟨g1, m1, m2, m3, m4, m5, m6⟩ := hr0
    exact .step (dst := some 7) m1 m2 m3 m4 (.refl _ _ _) m5 m6 (PRep_lit rfl) (fun d e => by cases e; decide)
  generalize ({ tmps := (vals ++ Array.replicate (23 - vals.size) undef).setIfInBounds 7 short, defers := [] } : Act) = a2 at *
  refine wpS_of_wp (wp_block (wp_seq (wp_region_list ?_)))
  have ht := hr2.lit (t := 7) rfl
  refine raw_op (n := Try.f83.ntmps) (x := .c (.d (.lit (.bool false)))) hr2 rfl (u := .bool false) ?_ (fun d e => by cases e; decide) (fun _ => PRep_lit rfl) (fun a3 hr3 => ?_)
  · have e : a2.eval (.const .nilIface) = .nilIface := rfl
    simp only [execOp, ht, e]
    rw [Sem.run_bind, Try.eqNil short false (.inr ⟨rfl, rfl⟩) w]
    rfl
  · refine wp_cond (t := false) (hr3.lit (t := 9) rfl) ?_
    refine wp_seq (wp_region_list ?_)
    refine raw_op (n := Try.f83.ntmps) (x := .tup [.agg [.d (.lit (.int .i64 8))], .c (.d (.lit (.bool true)))]) hr3 rfl (u := .tuple #[.agg #[.int .i64 8], .bool true]) ?_ (fun d e => by cases e; decide) (fun _ => PRep_tup2 rfl rfl) (fun a4 hr4 => ?_)
    · simp only [execOp, hr3.lit (t := 7) rfl]
      rw [Sem.run_bind, Try.assertF]
      rfl
    · refine list_real (E := envOf Try.prog [] off [] []) (fb := none) (envOf_ok Try.mixed) (K := fun S => S.H = H ∧ S.A = A ∧ S.ρ 11 = .c (.d (.lit (.bool true))) ∧ S.ρ 12 = .agg [.d (.lit (.int .i64 8))] ∧ S.ρ 0 = .c (.ptr i5 0) ∧ S.ρ 1 = .c (.ptr i4 0) ∧ S.ρ 2 = .c (.ptr i2 0)) (fun S a6 w6 hr6 hk => ?_) _ _ a4 w (dstsOK_spec (ops := [_, _].toArray) (by rfl)) ?_ hr4
      · obtain ⟨ρ, H', A'⟩ := S
        obtain ⟨k1, k2, k3, k4, k5, k6, k7⟩ := hk
        simp only at k1 k2 k3 k4 k5 k6 k7
        subst k1 k2
        refine wp_cond (t := true) (hr6.lit (t := 11) k3) ?_
        have hn4 : H' (off + 4) = none := (hab _ (Nat.le_add_right _ _)).1
        have q4 : i4 ≠ off + 4 := fun e => by rw [e, hn4] at h4; cases h4
        have q5 : i5 ≠ off + 4 := fun e => by rw [e, hn4] at h5; cases h5
        have q2 : i2 ≠ off + 4 := fun e => by rw [e, hn4] at h2; cases h2
        have qi : id ≠ off + 4 := fun e => by rw [e, hn4] at hr; cases hr
        have n45' := n45.symm
        refine (show VY Try.prog [] Try.f83.ntmps g A' w _ _ _ from ?_) a6 w6 hr6
        refine VY_seq (E := envOf Try.prog [] off [] []) hd fun K hK => ?_
        repeat' (first
          | with_reducible refine VX_seqK fun K hK => ?_
          | refine And.intro hn4 ?_
          | with_reducible refine VX_block ?_
          | with_reducible refine VX_scope ?_
          | with_reducible refine VX_if ?_
          | with_reducible refine VX_skip ?_
          | with_reducible refine VX_exit ?_
          | with_reducible refine VX_ret ?_
          | refine VX_region (envOf_ok Try.mixed) (by kernel_rfl) ?_
          | (with_reducible refine hK _ ?_; clear hK K)
          | (clear hK K; with_reducible refine hK _ ?_; clear hK K)
          | (with_reducible refine todo ?_; simp +decide only [go_sem, k4]))
        refine VY_seq (E := envOf Try.prog [] off [] []) hd fun K hK => ?_
        repeat' (first
          | with_reducible refine VX_seqK fun K hK => ?_
          | with_reducible refine VX_block ?_
          | with_reducible refine VX_scope ?_
          | with_reducible refine VX_if ?_
          | with_reducible refine VX_skip ?_
          | with_reducible refine VX_exit ?_
          | with_reducible refine VX_ret ?_
          | refine VX_region (envOf_ok Try.mixed) (by kernel_rfl) ?_
          | (with_reducible refine hK _ ?_; clear hK K)
          | (clear hK K; with_reducible refine hK _ ?_; clear hK K)
          | (with_reducible refine todo ?_; simp +decide only [go_sem]))
        refine VY_last (E := envOf Try.prog [] off [] []) hd fun K hK => ?_
        have hok : ((R8.mk (put (put ρ (some 4) (.c (.ptr (off + 4) 0))) (some 5) (.c (.d (.lit (.int .u64 0))))) (upd (upd H' (off + 4) (some [.d (.lit (.int .i64 0))])) (off + 4) (some [.d (.lit (.int .i64 8))])) A' i5 i4 i2 (off + 4) id r at0 x0)).OK := by
          refine ⟨k5, k6, k7, rfl, rfl, ?_, ?_, ?_, upd_same _ _ _, ?_, n4, n5, n45', n2, n24, qi.symm, q4.symm⟩
          · show upd _ _ _ _ = _; rw [upd_other _ _ q5, upd_other _ _ q5]; exact h5
          · show upd _ _ _ _ = _; rw [upd_other _ _ q4, upd_other _ _ q4]; exact h4
          · show upd _ _ _ _ = _; rw [upd_other _ _ q2, upd_other _ _ q2]; exact h2
          · show upd _ _ _ _ = _; rw [upd_other _ _ qi, upd_other _ _ qi]; exact hr
        refine VX_states (envOf_ok Try.mixed) (R8.F (R8.mk (put (put ρ (some 4) (.c (.ptr (off + 4) 0))) (some 5) (.c (.d (.lit (.int .u64 0))))) (upd (upd H' (off + 4) (some [.d (.lit (.int .i64 0))])) (off + 4) (some [.d (.lit (.int .i64 8))])) A' i5 i4 i2 (off + 4) id r at0 x0)) (by rfl) (R8.zero _ hok) (R8.ext _) (by kernel_rfl) ?_ ?_
        · intro d i o ho hdn hdep
          clear hK
          generalize hz : (R8.mk (put (put ρ (some 4) (.c (.ptr (off + 4) 0))) (some 5) (.c (.d (.lit (.int .u64 0))))) (upd (upd H' (off + 4) (some [.d (.lit (.int .i64 0))])) (off + 4) (some [.d (.lit (.int .i64 8))])) A' i5 i4 i2 (off + 4) id r at0 x0) = z at *
          match i, ho with
          | 0, ho => cases ho; refine ⟨_, _, _, .inl ⟨rfl, ?_⟩, R8.s13⟩; show StepV _ _ _ _ _ _ _; simp +decide only [go_sem, hok.q2, hok.g2]
          | 1, ho => cases ho; refine ⟨_, _, _, .inl ⟨rfl, ?_⟩, R8.s14⟩; show StepV _ _ _ _ _ _ _; simp +decide only [go_sem, hok.q2, hok.g2]
          | 2, ho => cases ho; refine ⟨_, _, _, .inl ⟨rfl, ?_⟩, R8.s15⟩; show StepV _ _ _ _ _ _ _; simp +decide only [go_sem, hok.q5]
          | 3, ho => cases ho; refine ⟨_, _, _, .inl ⟨rfl, ?_⟩, R8.s16⟩; show StepV _ _ _ _ _ _ _; simp +decide only [go_sem, hok.q0, hok.g5]
          | 4, ho => cases ho; refine ⟨_, _, _, .inl ⟨rfl, ?_⟩, R8.s17⟩; show StepV _ _ _ _ _ _ _; simp +decide only [go_sem, hok.q4]
          | 5, ho => cases ho; refine ⟨_, _, _, .inl ⟨rfl, ?_⟩, R8.s18⟩; have p17 := R8.p17 (z := z) (hdep ⟨4, .data⟩ (by simp) rfl); show StepV _ _ _ _ _ _ _; simp +decide only [go_sem, p17, hok.gN]
          | 6, ho => cases ho; have p15 := R8.p15 (z := z) (hdep ⟨2, .data⟩ (by simp) rfl); refine ⟨.c .skip, _, _, .inl ⟨rfl, ?_⟩, R8.sto z d 6 _ _ rfl R8.heap4⟩; show StepV _ _ _ _ _ _ _; simp +decide only [go_sem, p15, hok.q1, hok.g4]
          | 7, ho => cases ho; refine ⟨_, _, _, .inl ⟨rfl, ?_⟩, R8.s19⟩; have p13 := R8.p13 (z := z) (hdep ⟨0, .data⟩ (by simp) rfl); show StepV _ _ _ _ _ _ _; simp +decide only [go_sem, p13]
          | 8, ho => cases ho; refine ⟨_, _, _, .inl ⟨rfl, ?_⟩, R8.s20⟩; have p19 := R8.p19 (z := z) (hdep ⟨7, .data⟩ (by simp) rfl); show StepV _ _ _ _ _ _ _; simp +decide only [go_sem, p19]
          | 9, ho => cases ho; have p20 := R8.p20 (z := z) (hdep ⟨8, .data⟩ (by simp) rfl); have p16 := R8.p16 (z := z) (hdep ⟨3, .data⟩ (by simp) rfl); refine ⟨.c .skip, _, _, .inl ⟨rfl, ?_⟩, R8.sto z d 9 _ _ rfl (R8.heap9 hok.n4)⟩; show StepV _ _ _ _ _ _ _; simp +decide only [go_sem, p20, p16, hok.gi]
          | 10, ho => cases ho; refine ⟨_, _, _, .inl ⟨rfl, ?_⟩, R8.s21⟩; have p14 := R8.p14 (z := z) (hdep ⟨1, .data⟩ (by simp) rfl); show StepV _ _ _ _ _ _ _; simp +decide only [go_sem, p14]
          | 11, ho => cases ho; refine ⟨_, _, _, .inl ⟨rfl, ?_⟩, R8.s22⟩; have p21 := R8.p21 (z := z) (hdep ⟨10, .data⟩ (by simp) rfl); show StepV _ _ _ _ _ _ _; simp +decide only [go_sem, p21]
          | 12, ho => cases ho; have p22 := R8.p22 (z := z) (hdep ⟨11, .data⟩ (by simp) rfl); have p18 := R8.p18 (z := z) (hdep ⟨5, .data⟩ (by simp) rfl); refine ⟨.c .skip, _, _, .inl ⟨rfl, ?_⟩, R8.sto z d 12 _ _ rfl (R8.heap12 hok.n4)⟩; show StepV _ _ _ _ _ _ _; simp +decide only [go_sem, p22, p18, hok.gi]
          | k + 13, ho => simp at ho
        · refine hK _ (fun a w' hrf => ?_)
          have hwt : Wf (upd (upd H' i4 (some [.d (.lit (.int .u64 0))])) id (some (encRd { r with at_ := at0, e := 8 }))) A' := Wf_upd (Wf_upd hw rfl) (encRd_D _)
          have hrw := hrf.weak hd (Weak_overG (H0 := H') (A0 := A') (l := []) (h := []) hwt ?_ rfl True.intro True.intro ?_ (fun _ h => h))
          · obtain ⟨g1, m1, m2, m3, m4, m5, m6⟩ := hrw
            exact ⟨m6, _, rfl, _, noRes, rfl, rfl, g1, m1, m4, m2⟩
          · intro i hi
            show R8.heap _ _ i = _
            unfold R8.heap
            by_cases e4 : i = i4
            · rw [if_pos e4, e4, upd_other _ _ n4, upd_same]; rfl
            · rw [if_neg e4]
              by_cases ei : i = id
              · rw [if_pos ei, ei, upd_same]; rfl
              · rw [if_neg ei, upd_other _ _ ei, upd_other _ _ e4]
                rw [upd_other _ _ ei, upd_other _ _ e4] at hi
                have e5 : i ≠ off + 4 := fun e => hi (by rw [e]; exact hn4)
                show upd _ _ _ _ = _
                rw [upd_other _ _ e5, upd_other _ _ e5]
          · intro i hi
            rw [upd_apply']; split
            · simp
            · rw [upd_apply']; split
              · simp
              · exact hi
      · simp +decide only [go_sem]
end
end Go.Proofs

namespace Go.PW
theorem RetR_fin {P : Program} {fn : Func} {D : List Deferred} {n : Nat} {g : Gh} {H : HMap} {A : AMap} {w w' : World} {S : St} {a : Act} {v : PV} {H' : HMap} {A' : AMap} (hd : DomOK g H) (hr : RS D n g A w S a w') (h : RetR P fn H A v H' A' S) :
    ∃ u, (results fn a.tmps).run P w' = .ok u w' ∧ ∃ g', PRep g' A' v u ∧ MRel g' H' A' w' ∧ Evol g A w g' A' w' ∧ DomOK g' H' := by
  obtain ⟨g1, hm1, hd1, hfr, he, hnn, hdf⟩ := hr
  obtain ⟨p, S', fr, hren0, hp, hw, hv, hok, hren⟩ := h
  obtain ⟨us, h1, h2⟩ := resPVs_ok hm1 ⟨rfl, rfl⟩ hfr hp
  obtain ⟨g2, m1, m2, m3, m4⟩ := weak_mem (S := ⟨fun _ => p, S.H, S.A⟩) hd hw hm1 he
  obtain ⟨g3, n1, n2, n3, n4⟩ := ren_mem hd hren m1 m3
  exact ⟨_, run_results fn a.tmps h1, g3, n4 v _ hok (by rw [← hv]; exact m4 0 _ h2), n1, n3, n2⟩
end Go.PW
namespace Go.Proofs
open Go.PW
section rd
variable {H : HMap} {A : AMap} {id : Nat} {r out : Rd} {n res : Nat}
def ReadCase (r out : Rd) (n res : Nat) : Prop := (∃ rest, r.s.drop r.at_ = uintB n ++ rest ∧ n < 18446744073709551616 ∧ out = { r with at_ := r.at_ + (uintB n).length } ∧ res = n) ∨ (r.s.length ≤ r.at_ ∧ out = { r with e := 8 } ∧ res = 0)
set_option maxRecDepth 8000 in
set_option maxHeartbeats 16000000 in
theorem Try.kTry (off : Nat) (hw : Wf H A) (hab : Above off H A) {g : Gh} {w : World} {b : Nat} (hm : MRel g H A w) (hd : DomOK g H) (hb : g.β id = some b) (hr : H id = some (encRd r)) (he : r.e = 0) (hsl : r.s.length ≤ 1000000) (hc : ReadCase r out n res) :
    CallTo Try.prog 77 #[.pointer (some ⟨b, 0, none⟩), .func (.func 78) #[.pointer (some ⟨b, 0, none⟩)] #[]] w fun u w' => ∃ g', PRep g' A (pD (.lit (.int .u64 res))) u ∧ MRel g' (upd H id (some (encRd out))) A w' ∧ Evol g A w g' A w' ∧ DomOK g' (upd H id (some (encRd out))) := by
  refine .inl ⟨Try.call77 _ w, ?_⟩
  refine calls_of_wp_defers Try.func77 rfl ?_
  have hr0 := RS_entry (fn := Try.f77) (args := [.c (.ptr id 0), .c (.d (.lit (.func (.func 78) #[.pointer (some ⟨b, 0, none⟩)] #[])))]) (vals := #[.pointer (some ⟨b, 0, none⟩), .func (.func 78) #[.pointer (some ⟨b, 0, none⟩)] #[]]) hm hd ⟨rfl, fun k x hk => by
    match k, hk with
    | 0, e => cases e; exact ⟨_, rfl, b, hb, rfl⟩
    | 1, e => cases e; exact ⟨_, rfl, PRep_lit rfl⟩⟩ (by exact Nat.le_of_ble_eq_true rfl)
  refine (show VY Try.prog [] Try.f77.ntmps g A w _ _ _ from ?_) _ w hr0
  have f2 : H (off + 2) = none := (hab _ (Nat.le_add_right _ _)).1
  have f4 : H (off + 4) = none := (hab _ (Nat.le_add_right _ _)).1
  have f5 : H (off + 5) = none := (hab _ (Nat.le_add_right _ _)).1
  have hlt : id < off := Nat.lt_of_not_le fun h => by rw [(hab id h).1] at hr; cases hr
  have i2 : id ≠ off + 2 := by omega
  have i4 : id ≠ off + 4 := by omega
  have hr' := hr
  unfold encRd at hr'
  rw [he] at hr'
  have e42 : (off + 4 = off + 2) = False := eq_false (by omega)
  have e24 : (off + 2 = off + 4) = False := eq_false (by omega)
  have e52 : (off + 5 = off + 2) = False := eq_false (by omega)
  have e54 : (off + 5 = off + 4) = False := eq_false (by omega)
  refine VY_seq (E := envOf Try.prog [78] off [] []) hd fun K hK => ?_
  repeat' (first
    | with_reducible refine VX_seqK fun K hK => ?_
    | refine And.intro f2 (And.intro f4 ?_)
    | with_reducible refine VX_block ?_
    | with_reducible refine VX_scope ?_
    | with_reducible refine VX_if ?_
    | with_reducible refine VX_skip ?_
    | with_reducible refine VX_exit ?_
    | with_reducible refine VX_ret ?_
    | refine VX_region (envOf_ok Try.mixed) (by kernel_rfl) ?_
    | (with_reducible refine hK _ ?_; clear hK K)
    | (clear hK K; with_reducible refine hK _ ?_; clear hK K)
    | (with_reducible refine todo ?_; simp +decide only [go_sem, e42]))
  refine VY_seq (E := envOf Try.prog [78] off [] []) hd fun K hK => ?_
  repeat' (first
    | with_reducible refine VX_seqK fun K hK => ?_
    | with_reducible refine VX_block ?_
    | with_reducible refine VX_scope ?_
    | with_reducible refine VX_if ?_
    | with_reducible refine VX_skip ?_
    | with_reducible refine VX_exit ?_
    | with_reducible refine VX_ret ?_
    | refine VX_region (envOf_ok Try.mixed) (by kernel_rfl) ?_
    | (with_reducible refine hK _ ?_; clear hK K)
    | (clear hK K; with_reducible refine hK _ ?_; clear hK K)
    | (with_reducible refine todo ?_; simp +decide only [go_sem, e24, hr', i2, i4, zne]))
  refine VY_seq (E := envOf Try.prog [78] off [] []) hd fun K hK => ?_
  repeat' (first
    | with_reducible refine VX_seqK fun K hK => ?_
    | refine And.intro f5 ?_
    | with_reducible refine VX_block ?_
    | with_reducible refine VX_scope ?_
    | with_reducible refine VX_if ?_
    | with_reducible refine VX_skip ?_
    | with_reducible refine VX_exit ?_
    | with_reducible refine VX_ret ?_
    | refine VX_region (envOf_ok Try.mixed) (by kernel_rfl) ?_
    | (with_reducible refine hK _ ?_; clear hK K)
    | (clear hK K; with_reducible refine hK _ ?_; clear hK K)
    | (with_reducible refine todo ?_; simp +decide only [go_sem, e24, e52, e54, hr', i2, i4]))
  intro a3 w3 hr3
  generalize hH3 : upd (upd (upd H (off + 2) (some [.ptr id 0])) (off + 4) (some [.d (.lit (.int .u64 0))])) (off + 5) (some [.d (.lit (.int .i64 r.at_))]) = H3
  have g3i : ∀ i, i ≠ off + 2 → i ≠ off + 4 → i ≠ off + 5 → H3 i = H i := fun i a b c => by rw [← hH3, upd_other _ _ c, upd_other _ _ b, upd_other _ _ a]
  have g3d : H3 id = some (encRd r) := by rw [g3i id i2 i4 (by omega)]; exact hr
  have g32 : H3 (off + 2) = some [.ptr id 0] := by rw [← hH3, upd_other _ _ (by omega), upd_other _ _ (by omega), upd_same]
  have g34 : H3 (off + 4) = some [.d (.lit (.int .u64 0))] := by rw [← hH3, upd_other _ _ (by omega), upd_same]
  have g35 : H3 (off + 5) = some [.d (.lit (.int .i64 r.at_))] := by rw [← hH3, upd_same]
  have k3 : ∀ i, H i ≠ none → H3 i ≠ none := fun i hi => by
    rw [g3i i (fun e => hi (by rw [e]; exact f2)) (fun e => hi (by rw [e]; exact f4)) (fun e => hi (by rw [e]; exact f5))]; exact hi
  have hw3 : Wf H3 A := by
    rw [← hH3]
    refine Wf_upd (Wf_upd (Wf_set hw (fun c hc => ?_) (fun _ h => h)) rfl) rfl
    rw [List.mem_singleton.1 hc]
    show upd H (off + 2) _ id ≠ none
    rw [upd_other _ _ i2, hr]; simp
  have hab3 : Above (off + 1000) H3 A := by
    rw [← hH3]
    exact Above_updH (Above_updH (Above_updH (Above_mono hab (by omega)) (by omega)) (by omega)) (by omega)
  have hr3 := hr3.weak hd (Weak_overG (H0 := H) (A0 := A) (H := H3) (A := A) (l := [(1, .c (.d (.lit (.func (.func 78) #[.pointer (some ⟨b, 0, none⟩)] #[])))), (2, .c (.ptr (off + 2) 0)), (4, .c (.ptr (off + 4) 0)), (5, .c (.ptr (off + 5) 0))]) (h := []) hw3 ?_ rfl ?_ ?_ k3 (fun _ h => h))
  rotate_left
  · intro i hi
    rw [← hH3]
    show upd _ _ _ i = _
    rw [upd_twice]
  · simp +decide only [go_sem]
    refine ⟨wkP_ptr ?_, wkP_ptr ?_, wkP_ptr ?_⟩
    · show H3 _ ≠ none; rw [g32]; simp
    · show H3 _ ≠ none; rw [g34]; simp
    · show H3 _ ≠ none; rw [g35]; simp
  · simp +decide only [go_sem]
  refine wp_seq (wp_region_list ?_)
  change wpList _ _ _ ([_] ++ [_]) a3 w3
  refine list_real2 (E := envOf Try.prog [78] off [] []) (envOf_ok Try.mixed) (K := fun S' => S'.ρ 1 = .c (.d (.lit (.func (.func 78) #[.pointer (some ⟨b, 0, none⟩)] #[]))) ∧ S'.ρ 4 = .c (.ptr (off + 4) 0) ∧ S'.ρ 20 = .c (.fn 83 [(off + 5, 0), (off + 4, 0), (off + 2, 0)]) ∧ S'.H = H3 ∧ S'.A = A) (fun S4 a4 w4 hr4 hk => ?_) _ _ a3 w3 (dstsOK_spec (ops := [_].toArray) (by rfl)) ?_ hr3
  rotate_left
  · rw [over_eq]
    simp +decide only [go_sem]
    rfl
  obtain ⟨ρ4, H4, A4⟩ := S4
  obtain ⟨s1, s4, s20, sH, sA⟩ := hk
  simp only at s1 s4 s20 sH sA
  subst sH sA
  obtain ⟨g4, m1, m2, m3, m4, m5, m6⟩ := hr4
  obtain ⟨vs, hv, hvs, hcaps⟩ : ∃ vs : Array Value, a4.eval (.tmp 20) = .func (.func 83) #[] vs ∧ vs.size = 3 ∧ ∀ (k : Nat) (p : Nat × Nat), [(off + 5, 0), (off + 4, 0), (off + 2, 0)][k]? = some p → ∃ b, g4.β p.1 = some b ∧ vs[k]? = some (.pointer (some ⟨b, p.2, none⟩)) := by
    have h20 : PRep g4 A4 (ρ4 20) (a4.tmps.getD 20 undef) := m3 20
    rw [s20] at h20
    exact h20
  unfold wpList
  rw [if_pos (show Region.wanted _ _ = true from rfl)]
  refine .inl ?_
  unfold Oper.wp
  have r4 : ∀ (ty : TypeId) (pos : String) (after : Array Edge) (guard : Option (Nat × Bool)), (execOp a4.eval ⟨none, .defer ⟨.value (.tmp 20), #[], #[]⟩, ty, pos, after, guard⟩).run Try.prog w4 = .ok (.defer ⟨.fn (.func 83) vs, #[]⟩) w4 := fun _ _ _ _ => by
    simp [execOp, resolve, Deferred.ofValue, hv]
  change Oper.upon Try.prog _ _ _ _ (Sem.run Try.prog (execOp a4.eval _) w4)
  rw [r4, Oper.upon_defer]
  change (Code.seq _ _).wp _ _ { a4 with defers := _ :: a4.defers } w4
  rw [m6]
  have hr5 : RS [⟨.fn (.func 83) vs, #[]⟩] Try.f77.ntmps g4 A4 w4 ⟨ρ4, H4, A4⟩ { a4 with defers := [⟨.fn (.func 83) vs, #[]⟩] } w4 := ⟨g4, m1, m2, m3, .refl _ _ _, m5, rfl⟩
  generalize ({ a4 with defers := [⟨.fn (.func 83) vs, #[]⟩] } : Act) = a4' at *
  have har5 : ∀ g' : Gh, Mono g4 A4 g' A4 → ArgsRep g' A4 [.c (.ptr (off + 5) 0), .c (.ptr (off + 4) 0), .c (.ptr (off + 2) 0)] vs.toList := fun g' hM => by
    refine ⟨by simpa using hvs, fun k x hk => ?_⟩
    match k, hk with
    | 0, e => cases e; obtain ⟨b', q1, q2⟩ := hcaps 0 _ rfl; exact ⟨_, by rw [Array.getElem?_toList]; exact q2, b', hM.β _ _ q1, rfl⟩
    | 1, e => cases e; obtain ⟨b', q1, q2⟩ := hcaps 1 _ rfl; exact ⟨_, by rw [Array.getElem?_toList]; exact q2, b', hM.β _ _ q1, rfl⟩
    | 2, e => cases e; obtain ⟨b', q1, q2⟩ := hcaps 2 _ rfl; exact ⟨_, by rw [Array.getElem?_toList]; exact q2, b', hM.β _ _ q1, rfl⟩
  refine wp_seq (wp_region_list ?_)
  change wpList _ _ _ ([_] ++ [_, _]) a4' w4
  refine list_real2 (E := envOf Try.prog [78] off [] []) (envOf_ok Try.mixed) (K := fun S' => S'.ρ 21 = .c (.d (.lit (.func (.func 78) #[.pointer (some ⟨b, 0, none⟩)] #[]))) ∧ S'.ρ 4 = .c (.ptr (off + 4) 0) ∧ S'.H = H4 ∧ S'.A = A4) (fun S5 a5 w5 hr6 hk => ?_) _ _ a4' w4 (dstsOK_spec (ops := [_].toArray) (by rfl)) ?_ hr5
  rotate_left
  · simp +decide only [go_sem, s1, s4]
  obtain ⟨ρ5, H5, A5⟩ := S5
  obtain ⟨s21, s4', sH, sA⟩ := hk
  simp only at s21 s4' sH sA
  subst sH sA
  have hfv := hr6.lit s21
  obtain ⟨g5, n1, n2, n3, n4, n5, n6⟩ := hr6
  have hb5 : g5.β id = some b := n4.mono.β _ _ (m4.mono.β _ _ hb)
  have r5 : ∀ (d : Option Nat) (ty : TypeId) (pos : String) (after : Array Edge) (guard : Option (Nat × Bool)), (execOp a5.eval ⟨d, .call ⟨.value (.tmp 21), #[], #[]⟩, ty, pos, after, guard⟩).run Try.prog w5 = (callFunc 78 #[.pointer (some ⟨b, 0, none⟩)]).run Try.prog w5 := fun _ _ _ _ _ => by
    simp [execOp, resolve, Deferred.ofValue, invoke, hfv]
  have har1 : ArgsRep g5 A5 [.c (.ptr id 0)] #[Value.pointer (some ⟨b, 0, none⟩)].toList := ⟨rfl, fun k x hk => by
    match k, hk with
    | 0, e => cases e; exact ⟨_, rfl, b, hb5, rfl⟩⟩
  unfold wpList
  rw [if_pos (show Region.wanted _ _ = true from rfl)]
  refine .inl ?_
  rcases hc with ⟨rest, h1, h2, rfl, rfl⟩ | ⟨h1, rfl, rfl⟩
  · refine wp_callTo (r5 _ _ _ _ _) (Try.kUintR (off + 1000) hw3 g3d res h2 rest h1 hsl g5 w5 _ n1 n2 hab3 har1) (fun u w6 ⟨g6, q1, q2, q3, q4⟩ => ?_)
    have hrs := RS.step (D := [⟨.fn (.func 83) vs, #[]⟩]) (n := Try.f77.ntmps) (g0 := g4) (w0 := w4) (S := ⟨ρ5, H5, A5⟩) (dst := some 22) (v := pD (.lit (.int .u64 res))) q2 q4 n3 n4 q3 n5 n6 q1 (fun d e => by cases e; decide)
    refine list_real (E := envOf Try.prog [78] off [] []) (fb := none) (envOf_ok Try.mixed) (K := fun S => S.ρ 4 = .c (.ptr (off + 4) 0) ∧ S.H = upd (upd H5 id (some (encRd { r with at_ := r.at_ + (uintB res).length }))) (off + 4) (some [.d (.lit (.int .u64 res))]) ∧ S.A = A5) (fun S7 a7 w7 hr7 hk => ?_) [_] _ _ w6 (dstsOK_spec (ops := [_].toArray) (by rfl)) ?_ hrs
    rotate_left
    · simp +decide only [go_sem, s4', i4.symm, g34]
    obtain ⟨ρ7, H7, A7⟩ := S7
    obtain ⟨t4, tH, tA⟩ := hk
    simp only at t4 tH tA
    subst tH tA
    obtain ⟨g7, o1, o2, o3, o4, o5, o6⟩ := hr7
    change (Code.ret).wp _ _ a7 w7
    refine wp_ret ?_
    change Leaves Try.prog Try.f77 a7.tmps _ a7.defers .returning w7
    rw [o6]
    refine leaves_cons (f := 83) (args := #[] ++ vs) (by simp) (Try.call83 _ w7) ?_
    refine (Try.catchIdle (#[] ++ vs) w7 (by simpa using hvs) o1 o2).mono ?_
    rintro e u' w8 ⟨rfl, rfl, rfl⟩
    change Leaves _ _ _ _ [] .returning w8
    have hrr : RetR Try.prog Try.f77 H A7 (pD (.lit (.int .u64 res))) (upd H id (some (encRd { r with at_ := r.at_ + (uintB res).length }))) A7 ⟨ρ7, upd (upd H5 id (some (encRd { r with at_ := r.at_ + (uintB res).length }))) (off + 4) (some [.d (.lit (.int .u64 res))]), A7⟩ := by
      refine RetR_set (ds := encRd { r with at_ := r.at_ + (uintB res).length }) (p := pD (.lit (.int .u64 res))) ?_ (wk_c (.inr (.inl ⟨rfl, True.intro⟩))) True.intro hw (by rw [hr]; simp) ?_ (wkC_same fun c hc => encRd_ok _ c hc) (fun c hc => encRd_ok _ c hc) (fun i hi hn => ?_) (fun κ => .inr (.inl rfl)) (fun κ h => ⟨h, rfl⟩)
      · show resPVs _ _ [.cell 4 84] = _
        simp +decide only [go_sem, resPVs, resPs, resOne, joinP, t4]
      · show upd _ _ _ _ = _
        rw [upd_other _ _ i4, upd_same]
      · show upd _ _ _ _ = _
        have j2 : i ≠ off + 2 := fun e => hn (by rw [e]; exact f2)
        have j4 : i ≠ off + 4 := fun e => hn (by rw [e]; exact f4)
        have j5 : i ≠ off + 5 := fun e => hn (by rw [e]; exact f5)
        rw [upd_other _ _ j4, upd_other _ _ hi, g3i i j2 j4 j5]
    obtain ⟨u8, z1, g8, z2, z3, z4, z5⟩ := RetR_fin (D := [⟨.fn (.func 83) vs, #[]⟩]) (n := Try.f77.ntmps) hd ⟨g7, o1, o2, o3, m4.trans o4, o5, o6⟩ hrr
    exact ⟨u8, z1, u8, rfl, g8, z2, z3, z4, z5⟩
  · unfold Oper.wp
    obtain ⟨p1, p2⟩ := Try.kUintP (off + 1000) hw3 g3d h1 g5 w5 _ n1 n2 hab3 har1
    change Oper.upon Try.prog _ _ _ _ (Sem.run Try.prog (execOp a5.eval _) w5)
    rw [r5, p1]
    refine Calls.mono p2 (fun e w6 he' => ?_)
    obtain ⟨rfl, g6, q1, q2, q3⟩ := he'
    change Leaves Try.prog Try.f77 a5.tmps _ a5.defers (.panicking _) w6
    rw [n6]
    refine leaves_cons (f := 83) (args := #[] ++ vs) (by simp) (Try.call83 _ w6) ?_
    refine (Try.catchPan (off + 1000) hw3 hab3 (#[] ++ vs) w6 (by simpa using har5 g6 (n4.trans q2).mono) q1 q3 g35 g34 g32 g3d i4.symm (by omega) (by omega) i2.symm (by omega)).mono ?_
    rintro e u' w8 ⟨rfl, rfl, g8, z1, z2, z3⟩
    change Leaves _ _ _ _ [] .returning w8
    have hrr : RetR Try.prog Try.f77 H A5 (pD (.lit (.int .u64 ((0 : Nat) : Int)))) (upd H id (some (encRd { r with e := 8 }))) A5 ⟨ρ5, upd (upd H5 (off + 4) (some [.d (.lit (.int .u64 0))])) id (some (encRd { r with at_ := r.at_, e := 8 })), A5⟩ := by
      refine RetR_set (ds := encRd { r with e := 8 }) (p := pD (.lit (.int .u64 ((0 : Nat) : Int)))) ?_ (wk_c (.inr (.inl ⟨rfl, True.intro⟩))) True.intro hw (by rw [hr]; simp) ?_ (wkC_same fun c hc => encRd_ok _ c hc) (fun c hc => encRd_ok _ c hc) (fun i hi hn => ?_) (fun κ => .inr (.inl rfl)) (fun κ h => ⟨h, rfl⟩)
      · show resPVs _ _ [.cell 4 84] = _
        simp +decide only [go_sem, resPVs, resPs, resOne, joinP, s4', i4.symm]
      · show upd _ _ _ _ = _
        rw [upd_same]
      · show upd _ _ _ _ = _
        have j2 : i ≠ off + 2 := fun e => hn (by rw [e]; exact f2)
        have j4 : i ≠ off + 4 := fun e => hn (by rw [e]; exact f4)
        have j5 : i ≠ off + 5 := fun e => hn (by rw [e]; exact f5)
        rw [upd_other _ _ hi, upd_other _ _ j4, g3i i j2 j4 j5]
    obtain ⟨u8, y1, g9, y2, y3, y4, y5⟩ := RetR_fin (D := [⟨.fn (.func 83) vs, #[]⟩]) (n := Try.f77.ntmps) (S := ⟨ρ5, upd (upd H5 (off + 4) (some [.d (.lit (.int .u64 0))])) id (some (encRd { r with at_ := r.at_, e := 8 })), A5⟩) hd ⟨g8, z1, z3, fun t => PRep.mono (q2.trans z2).mono (n3 t), m4.trans (n4.trans (q2.trans z2)), n5, n6⟩ hrr
    exact ⟨u8, y1, u8, rfl, g9, y2, y3, y4, y5⟩
end rd
end Go.Proofs

namespace Go.Proofs
open Go.PW
section rd
variable {H : HMap} {A : AMap} {id : Nat} {r out : Rd} {n res : Nat}
set_option maxRecDepth 8000 in
set_option maxHeartbeats 8000000 in
theorem Try.kTryE (off : Nat) (hw : Wf H A) (hr : H id = some (encRd r)) (he : r.e ≠ 0) : EffOK Try.prog 77 off H A [.c (.ptr id 0), .c .any] (pD (.lit (.int .u64 0))) H A := by
  refine effr_ok (E := envOf Try.prog [] off [] []) (envOf_ok Try.mixed) Try.func77 rfl Try.call77 (by kernel_rfl) (by exact Nat.le_of_ble_eq_true rfl) (fun hab => ?_)
  have f2 : H (off + 2) = none := (hab _ (Nat.le_add_right _ _)).1
  have f4 : H (off + 4) = none := (hab _ (Nat.le_add_right _ _)).1
  have hlt : id < off := Nat.lt_of_not_le fun h => by rw [(hab id h).1] at hr; cases hr
  have i2 : id ≠ off + 2 := by omega
  have i4 : id ≠ off + 4 := by omega
  have e42 : (off + 4 = off + 2) = False := eq_false (by omega)
  have e24 : (off + 2 = off + 4) = False := eq_false (by omega)
  unfold encRd at hr
  have hne : (r.e != 0) = true := by simpa using he
  repeat' (first
   |with_reducible first|refine vSq fun K hK=>?_|refine vRg ?_|refine vBl ?_|refine vSc ?_|refine vIf ?_|refine vSk ?_|refine vEx ?_|refine vRt ?_
   |(with_reducible first|refine gNt (fun h=>?_) (fun h=>?_)|refine gCs (fun h=>?_) (fun h=>?_))<;>(try simp only[h])
   |refine And.intro f2 (And.intro f4 ?_)
   |with_reducible first|(refine hK _ ?_;clear hK K)|(clear hK K;refine hK _ ?_;clear hK K)|(clear hK K;clear hK K;refine hK _ ?_;clear hK K)|(clear hK K;clear hK K;clear hK K;refine hK _ ?_;clear hK K)
   |(with_reducible refine todo ?_;simp +decide only[go_sem, e42, e24, hr, i2, i4, hne]))
  refine RetR_same (p := pD (.lit (.int .u64 0))) ?_ (by simp +decide only [go_sem]) True.intro hw ?_ (fun _ _ => rfl)
  · show resPVs _ _ [.cell 4 84] = _
    simp +decide only [go_sem, resPVs, resPs, resOne, joinP]
  · intro i hi
    have j2 : i ≠ off + 2 := fun e => hi (by rw [e]; exact f2)
    have j4 : i ≠ off + 4 := fun e => hi (by rw [e]; exact f4)
    simp +decide only [go_sem, j2, j4]
set_option maxRecDepth 8000 in
theorem Try.kUintG (off : Nat) {v : D} {H' : HMap} (hT : ∀ (g : Gh) (w : World) (b : Nat), MRel g H A w → DomOK g H → Above (off + 1000) H A → g.β id = some b →
    CallTo Try.prog 77 #[.pointer (some ⟨b, 0, none⟩), .func (.func 78) #[.pointer (some ⟨b, 0, none⟩)] #[]] w fun u w' => ∃ g', PRep g' A (pD v) u ∧ MRel g' H' A w' ∧ Evol g A w g' A w' ∧ DomOK g' H') :
    EffOK Try.prog 67 off H A [.c (.ptr id 0)] (pD v) H' A := by
  intro g w vals hm hd hab har
  refine .inl ⟨Try.call67 _ w, ?_⟩
  refine calls_of_wp Try.func67 rfl ?_
  have hr0 := RS_entry (fn := Try.f67) hm hd har (by exact Nat.le_of_ble_eq_true rfl)
  obtain ⟨pv, hpv, b, hb, hbv⟩ := har.2 0 _ rfl
  refine (show VY Try.prog [] Try.f67.ntmps g A w _ _ _ from ?_) _ w hr0
  refine VY_seq (E := envOf Try.prog [] off [] []) hd fun K hK => ?_
  repeat' (first
    | with_reducible refine VX_seqK fun K hK => ?_
    | with_reducible refine VX_block ?_
    | with_reducible refine VX_scope ?_
    | with_reducible refine VX_if ?_
    | with_reducible refine VX_skip ?_
    | with_reducible refine VX_exit ?_
    | with_reducible refine VX_ret ?_
    | refine VX_region (envOf_ok Try.mixed) (by kernel_rfl) ?_
    | (with_reducible refine hK _ ?_; clear hK K)
    | (clear hK K; with_reducible refine hK _ ?_; clear hK K)
    | (with_reducible refine todo ?_; simp +decide only [go_sem]))
  intro a3 w3 hr3
  refine wp_seq (wp_region_list ?_)
  change wpList _ _ _ ([_, _] ++ [_, _, _]) a3 w3
  refine list_real2 (E := envOf Try.prog [] off [] []) (envOf_ok Try.mixed) (K := fun S' => S'.ρ 3 = .c (.ptr id 0) ∧ S'.ρ 4 = .c (.ptr id 0) ∧ S'.H = H ∧ S'.A = A) (fun S4 a4 w4 hr4 hk => ?_) _ _ a3 w3 (dstsOK_spec (ops := [_, _].toArray) (by rfl)) ?_ hr3
  rotate_left
  · simp +decide only [go_sem]
  obtain ⟨ρ4, H4, A4⟩ := S4
  obtain ⟨s3, s4, sH, sA⟩ := hk
  simp only at s3 s4 sH sA
  subst sH sA
  have ptrAt : ∀ {S : St} {a : Act} {w' : World} {t : Nat}, RS [] Try.f67.ntmps g A4 w S a w' → S.ρ t = .c (.ptr id 0) → a.eval (.tmp t) = .pointer (some ⟨b, 0, none⟩) := fun {S a w' t} hr hs => by
    obtain ⟨g', h1, h2, h3, h4, h5, h6⟩ := hr
    have h := h3 t
    rw [hs] at h
    obtain ⟨b', hb', e⟩ := h
    have := h4.mono.β id b hb
    rw [this] at hb'
    cases hb'
    exact e
  have ev4 := ptrAt hr4 s4
  refine raw_op (n := Try.f67.ntmps) (x := .c (.d (.lit (.func (.func 78) #[.pointer (some ⟨b, 0, none⟩)] #[])))) hr4 rfl (u := .func (.func 78) #[.pointer (some ⟨b, 0, none⟩)] #[]) ?_ (fun d e => by cases e; decide) (fun _ => PRep_lit rfl) (fun a5 hr5 => ?_)
  · have ev4' : a4.tmps[4]?.getD undef = .pointer (some ⟨b, 0, none⟩) := by rw [← Array.getD_eq_getD_getElem?]; exact ev4
    simp [execOp, Instr.makeFunc, Act.eval]
    exact ev4'
  have ev3 := ptrAt hr5 (t := 3) s3
  have ev5 := hr5.lit (t := 5) rfl
  obtain ⟨g5, n1, n2, n3, n4, n5, n6⟩ := hr5
  unfold wpList
  rw [if_pos (show Region.wanted _ _ = true from rfl)]
  refine .inl ?_
  refine wp_callTo ?_ (hT g5 w4 b n1 n2 (Above_mono hab (by omega)) (n4.mono.β _ _ hb)) (fun u w6 ⟨g6, q1, q2, q3, q4⟩ => ?_)
  · have ev3' : a5.tmps[3]?.getD undef = .pointer (some ⟨b, 0, none⟩) := by rw [← Array.getD_eq_getD_getElem?]; exact ev3
    have ev5' : a5.tmps[5]?.getD undef = .func (.func 78) #[.pointer (some ⟨b, 0, none⟩)] #[] := by rw [← Array.getD_eq_getD_getElem?]; exact ev5
    simp [execOp, resolve, Deferred.ofValue, invoke, Act.eval]
    rw [ev3', ev5']
  · have hrs := RS.step (D := []) (n := Try.f67.ntmps) (g0 := g) (w0 := w) (S := ⟨put ρ4 (some 5) (.c (.d (.lit (.func (.func 78) #[.pointer (some ⟨b, 0, none⟩)] #[])))), H4, A4⟩) (dst := some 6) (v := pD v) q2 q4 n3 n4 q3 n5 n6 q1 (fun d e => by cases e; decide)
    refine list_real (E := envOf Try.prog [] off [] []) (fb := none) (envOf_ok Try.mixed) (K := fun S => S.ρ 2 = pD v ∧ S.H = H' ∧ S.A = A4) (fun S7 a7 w7 hr7 hk => ?_) [_] _ _ w6 (dstsOK_spec (ops := [_].toArray) (by rfl)) ?_ hrs
    rotate_left
    · simp +decide only [go_sem]
    obtain ⟨ρ7, H7, A7⟩ := S7
    obtain ⟨t2, tH, tA⟩ := hk
    simp only at t2 tH tA
    subst tH tA
    have hr7' := hr7
    obtain ⟨g7, o1, o2, o3, o4, o5, o6⟩ := hr7
    change (Code.ret).wp _ _ a7 w7
    refine wp_ret ?_
    obtain ⟨us, z1, z2⟩ := resPVs_ok (P := Try.prog) (S := ⟨ρ7, H7, A7⟩) (vs := Try.f67.results.toList) (p := pD v) o1 ⟨rfl, rfl⟩ o3 (by show some (ρ7 2) = _; rw [t2])
    exact ⟨o6, _, run_results _ a7.tmps z1, _, rfl, g7, z2, o1, o4, o2⟩
set_option maxRecDepth 8000 in
theorem Try.kUint48 (off : Nat) (hw : Wf H A) (hr : H id = some (encRd r)) (he : r.e = 0) (hsl : r.s.length ≤ 1000000) (hc : ReadCase r out n res) :
    EffOK Try.prog 67 off H A [.c (.ptr id 0)] (pD (.lit (.int .u64 res))) (upd H id (some (encRd out))) A :=
  Try.kUintG off fun _ _ _ hm hd hab hb => Try.kTry (off + 1000) hw hab hm hd hb hr he hsl hc
set_option maxRecDepth 8000 in
theorem Try.kUint48E (off : Nat) (hw : Wf H A) (hr : H id = some (encRd r)) (he : r.e ≠ 0) :
    EffOK Try.prog 67 off H A [.c (.ptr id 0)] (pD (.lit (.int .u64 0))) H A :=
  Try.kUintG off fun g w b hm hd hab hb => Try.kTryE (off + 1000) hw hr he g w _ hm hd hab ⟨rfl, fun k x hk => by
    match k, hk with
    | 0, e => cases e; exact ⟨_, rfl, b, hb, rfl⟩
    | 1, e => cases e; exact ⟨_, rfl, True.intro⟩⟩
end rd
end Go.Proofs

namespace Go.Proofs
open Go.PW
theorem uintB_pos (n : Nat) : 1 ≤ (uintB n).length := by
  unfold uintB uintK
  split <;> simp
section rd
variable {H : HMap} {A : AMap} {id : Nat} {r : Rd}
def rdT (r : Rd) (s : List UInt8) : Rd := { r with at_ := r.at_ + (uintB s.length).length + s.length }
set_option maxRecDepth 8000 in
set_option maxHeartbeats 8000000 in
theorem Try.kTextR (off : Nat) (hw : Wf H A) (hr : H id = some (encRd r)) (s rest : List UInt8) (hs : r.s.drop r.at_ = uintB s.length ++ (s ++ rest)) (hsl : r.s.length ≤ 1000000) :
    EffOK Try.prog 81 off H A [.c (.ptr id 0), pD (.lit (.int .u64 1000000))] (pD (dS s)) (upd H id (some (encRd (rdT r s)))) A := by
  refine effr_ok (E := envOf Try.prog [78] off [] []) (envOf_ok Try.mixed) Try.func81 rfl Try.call81 (by kernel_rfl) (by exact Nat.le_of_ble_eq_true rfl) (fun hab => ?_)
  have hd : (r.s.drop r.at_).length = r.s.length - r.at_ := List.length_drop
  rw [hs, List.length_append, List.length_append] at hd
  have hat : r.at_ ≤ r.s.length := Nat.le_of_not_lt fun h => by
    rw [List.drop_of_length_le (by omega)] at hs
    have := congrArg List.length hs
    have hp := uintB_pos s.length
    rw [List.length_append] at this
    simp at this
    omega
  have hlt : id < off := Nat.lt_of_not_le fun h => by rw [(hab id h).1] at hr; cases hr
  have ku := Try.kUintR (off + 1000) hw hr s.length (by omega) (s ++ rest) hs hsl
  have e1 : r.s.drop (r.at_ + (uintB s.length).length) = s ++ rest := by rw [← List.drop_drop, hs, List.drop_left]
  unfold rdT
  generalize (uintB s.length).length = k at *
  unfold encRd at ku ⊢
  have c1 : ((1000000 : Int) < (s.length : Int)) = False := eq_false (by omega)
  have c2 : IntKind.i64.wrap ((r.s.length : Int) - ((r.at_ + k : Nat) : Int)) = ((r.s.length - (r.at_ + k) : Nat) : Int) := by rw [Go.IntWalk.i64_in _ (by omega)]; omega
  have c3 : IntKind.u64.wrap ((r.s.length - (r.at_ + k) : Nat) : Int) = ((r.s.length - (r.at_ + k) : Nat) : Int) := Go.IntWalk.u64_in _ (by omega)
  have c4 : IntKind.i64.wrap ((s.length : Nat) : Int) = ((s.length : Nat) : Int) := Go.IntWalk.i64_in _ (by omega)
  have c5 : IntKind.i64.wrap (((r.at_ + k : Nat) : Int) + ((s.length : Nat) : Int)) = ((r.at_ + k + s.length : Nat) : Int) := by rw [Go.IntWalk.i64_in _ (by omega)]; omega
  have c6 : IntKind.i64.wrap (((r.at_ + k + s.length : Nat) : Int) - ((s.length : Nat) : Int)) = ((r.at_ + k : Nat) : Int) := by rw [Go.IntWalk.i64_in _ (by omega)]; omega
  have c7 : (((r.s.length - (r.at_ + k) : Nat) : Int) < ((s.length : Nat) : Int)) = False := eq_false (by omega)
  have e2 : (r.s.drop (r.at_ + k)).take (r.at_ + k + s.length - (r.at_ + k)) = s := by rw [e1, show r.at_ + k + s.length - (r.at_ + k) = s.length by omega, List.take_left]
  repeat' (first
   |with_reducible first|refine vSq fun K hK=>?_|refine vRg ?_|refine vBl ?_|refine vSc ?_|refine vIf ?_|refine vSk ?_|refine vEx ?_|refine vRt ?_
   |(with_reducible first|refine gNt (fun h=>?_) (fun h=>?_)|refine gCs (fun h=>?_) (fun h=>?_))<;>(try simp only[h])
   |refine C_call rfl ku rfl (Above_mono hab (by omega)) ?_
   |(refine W_slcS (a := r.s) (l := r.at_ + k) (h := r.at_ + k + s.length) Try.underlying9 rfl (by simp [optNat, natOf?, intOf?]; omega) (by simp [optNat, natOf?, intOf?]; omega) (by omega) (by omega) ?_)
   |with_reducible first|(refine hK _ ?_;clear hK K)|(clear hK K;refine hK _ ?_;clear hK K)|(clear hK K;clear hK K;refine hK _ ?_;clear hK K)|(clear hK K;clear hK K;clear hK K;refine hK _ ?_;clear hK K)
   |(with_reducible refine todo ?_;simp +decide only[go_sem, upd_same, upd_twice, c1, c2, c3, c4, c5, c6, c7]))
  rw [e2]
  refine RetR_rd hw (by rw [hr]; simp) rfl rfl (by simp +decide only [go_sem]) True.intro ?_ ?_ rfl
  · exact upd_same _ _ _
  · intro i hi
    exact upd_other _ _ hi
set_option maxRecDepth 8000 in
set_option maxHeartbeats 8000000 in
theorem Try.kText1 (off : Nat) {v : Nat} (hw : Wf H A) (hr : H id = some (encRd r)) (hv : H v = some [.ptr id 0]) (s rest : List UInt8) (hs : r.s.drop r.at_ = uintB s.length ++ (s ++ rest)) (hsl : r.s.length ≤ 1000000) :
    EffOK Try.prog 80 off H A [.c (.ptr v 0)] (pD (dS s)) (upd H id (some (encRd (rdT r s)))) A := by
  refine effr_ok (E := envOf Try.prog [81] off [] []) (envOf_ok Try.mixed) Try.func80 rfl Try.call80 (by kernel_rfl) (by exact Nat.le_of_ble_eq_true rfl) (fun hab => ?_)
  have kt := Try.kTextR (off + 1000) hw hr s rest hs hsl
  repeat' (first
   |with_reducible first|refine vSq fun K hK=>?_|refine vRg ?_|refine vBl ?_|refine vSc ?_|refine vIf ?_|refine vSk ?_|refine vEx ?_|refine vRt ?_
   |(with_reducible first|refine gNt (fun h=>?_) (fun h=>?_)|refine gCs (fun h=>?_) (fun h=>?_))<;>(try simp only[h])
   |refine C_call rfl kt rfl (Above_mono hab (by omega)) ?_
   |with_reducible first|(refine hK _ ?_;clear hK K)|(clear hK K;refine hK _ ?_;clear hK K)|(clear hK K;clear hK K;refine hK _ ?_;clear hK K)|(clear hK K;clear hK K;clear hK K;refine hK _ ?_;clear hK K)
   |(with_reducible refine todo ?_;simp +decide only[go_sem, hv]))
  refine RetR_rd hw (by rw [hr]; simp) rfl rfl (by simp +decide only [go_sem]) True.intro ?_ ?_ rfl
  · exact upd_same _ _ _
  · intro i hi
    exact upd_other _ _ hi
end rd
end Go.Proofs
