/-
  Parts of the proof, laid together: PwGl, PwGm, PwHa, PwHb, PwHc.
-/
import Derived.Test.YtghlemfokpfngaaQ22

namespace Go.Proofs
open Go.PW
theorem noResS {tmps : Array Value} {w : World} : (results Try.f85 tmps).run Try.prog w = .ok (.tuple #[]) w := by
  have := run_results (P := Try.prog) (w := w) Try.f85 tmps (us := []) rfl
  exact this
set_option maxRecDepth 8000 in
set_option maxHeartbeats 4000000 in
theorem Try.catchIdleS {g : Gh} {H : HMap} {A : AMap} (vals : Array Value) (w : World) (hv : vals.size = 3) (hm : MRel g H A w) (hd : DomOK g H) :
    CallsD Try.prog 85 vals .returning w fun e u' w' => e = .returned (.tuple #[]) ∧ u' = .returning ∧ w' = w := by
  refine callsD_of_wpS Try.func85 rfl fun c₀ cs hu => ?_
  have hr := RS_entry (fn := Try.f85) (args := [.c .any, .c .any, .c .any]) (vals := vals) hm hd ⟨by simpa using hv, fun k x hk => by
    have hlt := (List.getElem?_eq_some_iff.1 hk).1
    refine ⟨vals.toList[k]'(by simp at hlt ⊢; omega), List.getElem?_eq_getElem _, ?_⟩
    match k, hk with
    | 0, e => cases e; exact True.intro
    | 1, e => cases e; exact True.intro
    | 2, e => cases e; exact True.intro⟩ (by decide)
  apply wpS_seq
  apply wpS_region
  simp [wpOpsS, go_sem, recoverD, hu, Exit.thenS]
  have hr2 : RS [] Try.f85.ntmps g A w ⟨put (entry [.c .any, .c .any, .c .any]) (some 7) (.c (.d (.lit .nilIface))), H, A⟩ { tmps := (vals ++ Array.replicate (23 - vals.size) undef).setIfInBounds 7 .nilIface, defers := [] } w := by
    obtain ⟨g1, m1, m2, m3, m4, m5, m6⟩ := hr
    exact .step (dst := some 7) m1 m2 m3 m4 (.refl _ _ _) m5 m6 (PRep_lit rfl) (fun d e => by cases e; decide)
  generalize ({ tmps := (vals ++ Array.replicate (23 - vals.size) undef).setIfInBounds 7 .nilIface, defers := [] } : Act) = a2 at *
  refine wpS_of_wp (wp_block (wp_seq (wp_region_list ?_)))
  have ht := hr2.lit (t := 7) rfl
  refine raw_op (n := Try.f85.ntmps) (x := .c (.d (.lit (.bool true)))) hr2 rfl (u := .bool true) ?_ (fun d e => by cases e; decide) (fun _ => PRep_lit rfl) (fun a3 hr3 => ?_)
  · have e : a2.eval (.const .nilIface) = .nilIface := rfl
    simp only [execOp, ht, e]
    rw [Sem.run_bind, Try.eqNil .nilIface true (.inl ⟨rfl, rfl⟩) w]
    rfl
  · refine wp_cond (t := true) (hr3.lit (t := 9) rfl) ?_
    refine wp_region_list ?_
    refine raw_op (n := Try.f85.ntmps) (x := .c .any) hr3 rfl (u := a3.eval (.tmp 7)) rfl (fun d e => by cases e; decide) (fun _ => True.intro) (fun a4 hr4 => ?_)
    obtain ⟨g1, m1, m2, m3, m4, m5, m6⟩ := hr4
    exact ⟨m6, _, by rw [← hu], _, noResS, rfl, rfl, rfl⟩
section rd
variable {H : HMap} {A : AMap} {id : Nat} {r : Rd}
set_option maxRecDepth 8000 in
set_option maxHeartbeats 16000000 in
theorem Try.kTryS (off : Nat) (hw : Wf H A) (hab : Above off H A) {g : Gh} {w : World} {b : Nat} (hm : MRel g H A w) (hd : DomOK g H) (hb : g.β id = some b) (hr : H id = some (encRd r)) (he : r.e = 0) (hsl : r.s.length ≤ 1000000) {v bv : Nat} (hv : H v = some [.ptr id 0]) (hbv : g.β v = some bv) (s rest : List UInt8) (hs : r.s.drop r.at_ = uintB s.length ++ (s ++ rest)) :
    CallTo Try.prog 79 #[.pointer (some ⟨b, 0, none⟩), .func (.func 80) #[] #[.pointer (some ⟨bv, 0, none⟩)]] w fun u w' => ∃ g', PRep g' A (pD (dS s)) u ∧ MRel g' (upd H id (some (encRd (rdT r s)))) A w' ∧ Evol g A w g' A w' ∧ DomOK g' (upd H id (some (encRd (rdT r s)))) := by
  refine .inl ⟨Try.call79 _ w, ?_⟩
  refine calls_of_wp_defers Try.func79 rfl ?_
  have hr0 := RS_entry (fn := Try.f79) (args := [.c (.ptr id 0), .c (.d (.lit (.func (.func 80) #[] #[.pointer (some ⟨bv, 0, none⟩)])))]) (vals := #[.pointer (some ⟨b, 0, none⟩), .func (.func 80) #[] #[.pointer (some ⟨bv, 0, none⟩)]]) hm hd ⟨rfl, fun k x hk => by
    match k, hk with
    | 0, e => cases e; exact ⟨_, rfl, b, hb, rfl⟩
    | 1, e => cases e; exact ⟨_, rfl, PRep_lit rfl⟩⟩ (by exact Nat.le_of_ble_eq_true rfl)
  refine (show VY Try.prog [] Try.f79.ntmps g A w _ _ _ from ?_) _ w hr0
  have f2 : H (off + 2) = none := (hab _ (Nat.le_add_right _ _)).1
  have f4 : H (off + 4) = none := (hab _ (Nat.le_add_right _ _)).1
  have f5 : H (off + 5) = none := (hab _ (Nat.le_add_right _ _)).1
  have hlt : id < off := Nat.lt_of_not_le fun h => by rw [(hab id h).1] at hr; cases hr
  have i2 : id ≠ off + 2 := by omega
  have i4 : id ≠ off + 4 := by omega
  have vlt : v < off := Nat.lt_of_not_le fun h => by rw [(hab v h).1] at hv; cases hv
  have hr' := hr
  unfold encRd at hr'
  rw [he] at hr'
  have e42 : (off + 4 = off + 2) = False := eq_false (by omega)
  have e24 : (off + 2 = off + 4) = False := eq_false (by omega)
  have e52 : (off + 5 = off + 2) = False := eq_false (by omega)
  have e54 : (off + 5 = off + 4) = False := eq_false (by omega)
  refine VY_seq (E := envOf Try.prog [80] off [] []) hd fun K hK => ?_
  repeat' (first
    | with_reducible refine VX_seqK fun K hK => ?_
    | refine And.intro f2 (And.intro f4 ?_)
    | with_reducible refine VX_block ?_
    | with_reducible refine VX_scope ?_
    | with_reducible refine VX_if ?_
    | with_reducible refine VX_skip ?_
    | with_reducible refine VX_exit ?_
    | with_reducible refine VX_ret ?_
    | refine VX_region (envOf_ok Try.mixed) (by kernel_rfl) ?_
    | (with_reducible refine hK _ ?_; clear hK K)
    | (clear hK K; with_reducible refine hK _ ?_; clear hK K)
    | (with_reducible refine todo ?_; simp +decide only [go_sem, e42]))
  refine VY_seq (E := envOf Try.prog [80] off [] []) hd fun K hK => ?_
  repeat' (first
    | with_reducible refine VX_seqK fun K hK => ?_
    | with_reducible refine VX_block ?_
    | with_reducible refine VX_scope ?_
    | with_reducible refine VX_if ?_
    | with_reducible refine VX_skip ?_
    | with_reducible refine VX_exit ?_
    | with_reducible refine VX_ret ?_
    | refine VX_region (envOf_ok Try.mixed) (by kernel_rfl) ?_
    | (with_reducible refine hK _ ?_; clear hK K)
    | (clear hK K; with_reducible refine hK _ ?_; clear hK K)
    | (with_reducible refine todo ?_; simp +decide only [go_sem, e24, hr', i2, i4, zne]))
  refine VY_seq (E := envOf Try.prog [80] off [] []) hd fun K hK => ?_
  repeat' (first
    | with_reducible refine VX_seqK fun K hK => ?_
    | refine And.intro f5 ?_
    | with_reducible refine VX_block ?_
    | with_reducible refine VX_scope ?_
    | with_reducible refine VX_if ?_
    | with_reducible refine VX_skip ?_
    | with_reducible refine VX_exit ?_
    | with_reducible refine VX_ret ?_
    | refine VX_region (envOf_ok Try.mixed) (by kernel_rfl) ?_
    | (with_reducible refine hK _ ?_; clear hK K)
    | (clear hK K; with_reducible refine hK _ ?_; clear hK K)
    | (with_reducible refine todo ?_; simp +decide only [go_sem, e24, e52, e54, hr', i2, i4]))
  intro a3 w3 hr3
  generalize hH3 : upd (upd (upd H (off + 2) (some [.ptr id 0])) (off + 4) (some [.d (.lit (.string ⟨#[]⟩))])) (off + 5) (some [.d (.lit (.int .i64 r.at_))]) = H3
  have g3i : ∀ i, i ≠ off + 2 → i ≠ off + 4 → i ≠ off + 5 → H3 i = H i := fun i a b c => by rw [← hH3, upd_other _ _ c, upd_other _ _ b, upd_other _ _ a]
  have g3d : H3 id = some (encRd r) := by rw [g3i id i2 i4 (by omega)]; exact hr
  have g3v : H3 v = some [.ptr id 0] := by rw [g3i v (by omega) (by omega) (by omega)]; exact hv
  have g32 : H3 (off + 2) = some [.ptr id 0] := by rw [← hH3, upd_other _ _ (by omega), upd_other _ _ (by omega), upd_same]
  have g34 : H3 (off + 4) = some [.d (.lit (.string ⟨#[]⟩))] := by rw [← hH3, upd_other _ _ (by omega), upd_same]
  have g35 : H3 (off + 5) = some [.d (.lit (.int .i64 r.at_))] := by rw [← hH3, upd_same]
  have k3 : ∀ i, H i ≠ none → H3 i ≠ none := fun i hi => by
    rw [g3i i (fun e => hi (by rw [e]; exact f2)) (fun e => hi (by rw [e]; exact f4)) (fun e => hi (by rw [e]; exact f5))]; exact hi
  have hw3 : Wf H3 A := by
    rw [← hH3]
    refine Wf_upd (Wf_upd (Wf_set hw (fun c hc => ?_) (fun _ h => h)) rfl) rfl
    rw [List.mem_singleton.1 hc]
    show upd H (off + 2) _ id ≠ none
    rw [upd_other _ _ i2, hr]; simp
  have hab3 : Above (off + 1000) H3 A := by
    rw [← hH3]
    exact Above_updH (Above_updH (Above_updH (Above_mono hab (by omega)) (by omega)) (by omega)) (by omega)
  have hr3 := hr3.weak hd (Weak_overG (H0 := H) (A0 := A) (H := H3) (A := A) (l := [(1, .c (.d (.lit (.func (.func 80) #[] #[.pointer (some ⟨bv, 0, none⟩)])))), (2, .c (.ptr (off + 2) 0)), (4, .c (.ptr (off + 4) 0)), (5, .c (.ptr (off + 5) 0))]) (h := []) hw3 ?_ rfl ?_ ?_ k3 (fun _ h => h))
  rotate_left
  · intro i hi
    rw [← hH3]
    show upd _ _ _ i = _
    rw [upd_twice]
  · simp +decide only [go_sem]
    refine ⟨wkP_ptr ?_, wkP_ptr ?_, wkP_ptr ?_⟩
    · show H3 _ ≠ none; rw [g32]; simp
    · show H3 _ ≠ none; rw [g34]; simp
    · show H3 _ ≠ none; rw [g35]; simp
  · simp +decide only [go_sem]
  refine wp_seq (wp_region_list ?_)
  change wpList _ _ _ ([_] ++ [_]) a3 w3
  refine list_real2 (E := envOf Try.prog [80] off [] []) (envOf_ok Try.mixed) (K := fun S' => S'.ρ 1 = .c (.d (.lit (.func (.func 80) #[] #[.pointer (some ⟨bv, 0, none⟩)]))) ∧ S'.ρ 4 = .c (.ptr (off + 4) 0) ∧ S'.ρ 20 = .c (.fn 85 [(off + 5, 0), (off + 4, 0), (off + 2, 0)]) ∧ S'.H = H3 ∧ S'.A = A) (fun S4 a4 w4 hr4 hk => ?_) _ _ a3 w3 (dstsOK_spec (ops := [_].toArray) (by rfl)) ?_ hr3
  rotate_left
  · rw [over_eq]
    simp +decide only [go_sem]
    rfl
  obtain ⟨ρ4, H4, A4⟩ := S4
  obtain ⟨s1, s4, s20, sH, sA⟩ := hk
  simp only at s1 s4 s20 sH sA
  subst sH sA
  obtain ⟨g4, m1, m2, m3, m4, m5, m6⟩ := hr4
  obtain ⟨vs, hv, hvs, hcaps⟩ : ∃ vs : Array Value, a4.eval (.tmp 20) = .func (.func 85) #[] vs ∧ vs.size = 3 ∧ ∀ (k : Nat) (p : Nat × Nat), [(off + 5, 0), (off + 4, 0), (off + 2, 0)][k]? = some p → ∃ b, g4.β p.1 = some b ∧ vs[k]? = some (.pointer (some ⟨b, p.2, none⟩)) := by
    have h20 : PRep g4 A4 (ρ4 20) (a4.tmps.getD 20 undef) := m3 20
    rw [s20] at h20
    exact h20
  unfold wpList
  rw [if_pos (show Region.wanted _ _ = true from rfl)]
  refine .inl ?_
  unfold Oper.wp
  have r4 : ∀ (ty : TypeId) (pos : String) (after : Array Edge) (guard : Option (Nat × Bool)), (execOp a4.eval ⟨none, .defer ⟨.value (.tmp 20), #[], #[]⟩, ty, pos, after, guard⟩).run Try.prog w4 = .ok (.defer ⟨.fn (.func 85) vs, #[]⟩) w4 := fun _ _ _ _ => by
    simp [execOp, resolve, Deferred.ofValue, hv]
  change Oper.upon Try.prog _ _ _ _ (Sem.run Try.prog (execOp a4.eval _) w4)
  rw [r4, Oper.upon_defer]
  change (Code.seq _ _).wp _ _ { a4 with defers := _ :: a4.defers } w4
  rw [m6]
  have hr5 : RS [⟨.fn (.func 85) vs, #[]⟩] Try.f79.ntmps g4 A4 w4 ⟨ρ4, H4, A4⟩ { a4 with defers := [⟨.fn (.func 85) vs, #[]⟩] } w4 := ⟨g4, m1, m2, m3, .refl _ _ _, m5, rfl⟩
  generalize ({ a4 with defers := [⟨.fn (.func 85) vs, #[]⟩] } : Act) = a4' at *
  have har5 : ∀ g' : Gh, Mono g4 A4 g' A4 → ArgsRep g' A4 [.c (.ptr (off + 5) 0), .c (.ptr (off + 4) 0), .c (.ptr (off + 2) 0)] vs.toList := fun g' hM => by
    refine ⟨by simpa using hvs, fun k x hk => ?_⟩
    match k, hk with
    | 0, e => cases e; obtain ⟨b', q1, q2⟩ := hcaps 0 _ rfl; exact ⟨_, by rw [Array.getElem?_toList]; exact q2, b', hM.β _ _ q1, rfl⟩
    | 1, e => cases e; obtain ⟨b', q1, q2⟩ := hcaps 1 _ rfl; exact ⟨_, by rw [Array.getElem?_toList]; exact q2, b', hM.β _ _ q1, rfl⟩
    | 2, e => cases e; obtain ⟨b', q1, q2⟩ := hcaps 2 _ rfl; exact ⟨_, by rw [Array.getElem?_toList]; exact q2, b', hM.β _ _ q1, rfl⟩
  refine wp_seq (wp_region_list ?_)
  change wpList _ _ _ ([_] ++ [_, _]) a4' w4
  refine list_real2 (E := envOf Try.prog [80] off [] []) (envOf_ok Try.mixed) (K := fun S' => S'.ρ 21 = .c (.d (.lit (.func (.func 80) #[] #[.pointer (some ⟨bv, 0, none⟩)]))) ∧ S'.ρ 4 = .c (.ptr (off + 4) 0) ∧ S'.H = H4 ∧ S'.A = A4) (fun S5 a5 w5 hr6 hk => ?_) _ _ a4' w4 (dstsOK_spec (ops := [_].toArray) (by rfl)) ?_ hr5
  rotate_left
  · simp +decide only [go_sem, s1, s4]
  obtain ⟨ρ5, H5, A5⟩ := S5
  obtain ⟨s21, s4', sH, sA⟩ := hk
  simp only at s21 s4' sH sA
  subst sH sA
  have hfv := hr6.lit s21
  obtain ⟨g5, n1, n2, n3, n4, n5, n6⟩ := hr6
  have hb5 : g5.β v = some bv := n4.mono.β _ _ (m4.mono.β _ _ hbv)
  have r5 : ∀ (d : Option Nat) (ty : TypeId) (pos : String) (after : Array Edge) (guard : Option (Nat × Bool)), (execOp a5.eval ⟨d, .call ⟨.value (.tmp 21), #[], #[]⟩, ty, pos, after, guard⟩).run Try.prog w5 = (callFunc 80 #[.pointer (some ⟨bv, 0, none⟩)]).run Try.prog w5 := fun _ _ _ _ _ => by
    simp [execOp, resolve, Deferred.ofValue, invoke, hfv]
  have har1 : ArgsRep g5 A5 [.c (.ptr v 0)] #[Value.pointer (some ⟨bv, 0, none⟩)].toList := ⟨rfl, fun k x hk => by
    match k, hk with
    | 0, e => cases e; exact ⟨_, rfl, bv, hb5, rfl⟩⟩
  unfold wpList
  rw [if_pos (show Region.wanted _ _ = true from rfl)]
  refine .inl ?_
  refine wp_callTo (r5 _ _ _ _ _) (Try.kText1 (off + 1000) hw3 g3d g3v s rest hs hsl g5 w5 _ n1 n2 hab3 har1) (fun u w6 ⟨g6, q1, q2, q3, q4⟩ => ?_)
  have hrs := RS.step (D := [⟨.fn (.func 85) vs, #[]⟩]) (n := Try.f79.ntmps) (g0 := g4) (w0 := w4) (S := ⟨ρ5, H5, A5⟩) (dst := some 22) (v := pD (dS s)) q2 q4 n3 n4 q3 n5 n6 q1 (fun d e => by cases e; decide)
  refine list_real (E := envOf Try.prog [80] off [] []) (fb := none) (envOf_ok Try.mixed) (K := fun S => S.ρ 4 = .c (.ptr (off + 4) 0) ∧ S.H = upd (upd H5 id (some (encRd (rdT r s)))) (off + 4) (some [.d (dS s)]) ∧ S.A = A5) (fun S7 a7 w7 hr7 hk => ?_) [_] _ _ w6 (dstsOK_spec (ops := [_].toArray) (by rfl)) ?_ hrs
  rotate_left
  · simp +decide only [go_sem, s4', i4.symm, g34]
  obtain ⟨ρ7, H7, A7⟩ := S7
  obtain ⟨t4, tH, tA⟩ := hk
  simp only at t4 tH tA
  subst tH tA
  obtain ⟨g7, o1, o2, o3, o4, o5, o6⟩ := hr7
  change (Code.ret).wp _ _ a7 w7
  refine wp_ret ?_
  change Leaves Try.prog Try.f79 a7.tmps _ a7.defers .returning w7
  rw [o6]
  refine leaves_cons (f := 85) (args := #[] ++ vs) (by simp) (Try.call85 _ w7) ?_
  refine (Try.catchIdleS (#[] ++ vs) w7 (by simpa using hvs) o1 o2).mono ?_
  rintro e u' w8 ⟨rfl, rfl, rfl⟩
  change Leaves _ _ _ _ [] .returning w8
  have hrr : RetR Try.prog Try.f79 H A7 (pD (dS s)) (upd H id (some (encRd (rdT r s)))) A7 ⟨ρ7, upd (upd H5 id (some (encRd (rdT r s)))) (off + 4) (some [.d (dS s)]), A7⟩ := by
    refine RetR_set (ds := encRd (rdT r s)) (p := pD (dS s)) ?_ (wk_c (.inr (.inl ⟨rfl, True.intro⟩))) True.intro hw (by rw [hr]; simp) ?_ (wkC_same fun c hc => encRd_ok _ c hc) (fun c hc => encRd_ok _ c hc) (fun i hi hn => ?_) (fun κ => .inr (.inl rfl)) (fun κ h => ⟨h, rfl⟩)
    · show resPVs _ _ [.cell 4 9] = _
      simp +decide only [go_sem, resPVs, resPs, resOne, joinP, t4]
    · show upd _ _ _ _ = _
      rw [upd_other _ _ i4, upd_same]
    · show upd _ _ _ _ = _
      have j2 : i ≠ off + 2 := fun e => hn (by rw [e]; exact f2)
      have j4 : i ≠ off + 4 := fun e => hn (by rw [e]; exact f4)
      have j5 : i ≠ off + 5 := fun e => hn (by rw [e]; exact f5)
      rw [upd_other _ _ j4, upd_other _ _ hi, g3i i j2 j4 j5]
  obtain ⟨u8, z1, g8, z2, z3, z4, z5⟩ := RetR_fin (D := [⟨.fn (.func 85) vs, #[]⟩]) (n := Try.f79.ntmps) hd ⟨g7, o1, o2, o3, m4.trans o4, o5, o6⟩ hrr
  exact ⟨u8, z1, u8, rfl, g8, z2, z3, z4, z5⟩
end rd
end Go.Proofs

namespace Go.Proofs
open Go.PW
section rd
variable {H : HMap} {A : AMap} {id : Nat} {r : Rd}
set_option maxRecDepth 8000 in
set_option maxHeartbeats 16000000 in
theorem Try.kText48 (off : Nat) (hw : Wf H A) (hr : H id = some (encRd r)) (he : r.e = 0) (hsl : r.s.length ≤ 1000000) (s rest : List UInt8) (hs : r.s.drop r.at_ = uintB s.length ++ (s ++ rest)) :
    EffOK Try.prog 72 off H A [.c (.ptr id 0)] (pD (dS s)) (upd H id (some (encRd (rdT r s)))) A := by
  intro g w vals hm hd hab har
  refine .inl ⟨Try.call72 _ w, ?_⟩
  refine calls_of_wp Try.func72 rfl ?_
  have hr0 := RS_entry (fn := Try.f72) hm hd har (by exact Nat.le_of_ble_eq_true rfl)
  obtain ⟨pv, hpv, b, hb, hbv⟩ := har.2 0 _ rfl
  refine (show VY Try.prog [] Try.f72.ntmps g A w _ _ _ from ?_) _ w hr0
  have f1 : H (off + 1) = none := (hab _ (Nat.le_add_right _ _)).1
  have hlt : id < off := Nat.lt_of_not_le fun h => by rw [(hab id h).1] at hr; cases hr
  have i1 : id ≠ off + 1 := by omega
  refine VY_seq (E := envOf Try.prog [] off [] []) hd fun K hK => ?_
  repeat' (first
    | with_reducible refine VX_seqK fun K hK => ?_
    | refine And.intro f1 ?_
    | with_reducible refine VX_block ?_
    | with_reducible refine VX_scope ?_
    | with_reducible refine VX_if ?_
    | with_reducible refine VX_skip ?_
    | with_reducible refine VX_exit ?_
    | with_reducible refine VX_ret ?_
    | refine VX_region (envOf_ok Try.mixed) (by kernel_rfl) ?_
    | (with_reducible refine hK _ ?_; clear hK K)
    | (clear hK K; with_reducible refine hK _ ?_; clear hK K)
    | (with_reducible refine todo ?_; simp +decide only [go_sem]))
  intro a3 w3 hr3
  refine wp_seq (wp_region_list ?_)
  change wpList _ _ _ ([_] ++ [_, _, _]) a3 w3
  refine list_real2 (E := envOf Try.prog [] off [] []) (envOf_ok Try.mixed) (K := fun S' => S'.ρ 3 = .c (.ptr id 0) ∧ S'.ρ 1 = .c (.ptr (off + 1) 0) ∧ S'.H = upd H (off + 1) (some [.ptr id 0]) ∧ S'.A = A) (fun S4 a4 w4 hr4 hk => ?_) _ _ a3 w3 (dstsOK_spec (ops := [_].toArray) (by rfl)) ?_ hr3
  rotate_left
  · simp +decide only [go_sem, upd_same]
  obtain ⟨ρ4, H4, A4⟩ := S4
  obtain ⟨s3, s1, sH, sA⟩ := hk
  simp only at s3 s1 sH sA
  subst sA
  generalize hH3 : upd H (off + 1) (some [CV.ptr id 0]) = H3 at sH
  subst sH
  have g3i : ∀ i, i ≠ off + 1 → H4 i = H i := fun i h => by rw [← hH3, upd_other _ _ h]
  have g3d : H4 id = some (encRd r) := by rw [g3i id i1]; exact hr
  have g3v : H4 (off + 1) = some [.ptr id 0] := by rw [← hH3, upd_same]
  have hw3 : Wf H4 A4 := by
    rw [← hH3]
    refine Wf_set hw (fun c hc => ?_) (fun _ h => h)
    rw [List.mem_singleton.1 hc]
    show upd H (off + 1) _ id ≠ none
    rw [upd_other _ _ i1, hr]; simp
  have hab3 : Above (off + 1000) H4 A4 := by
    rw [← hH3]
    exact Above_updH (Above_mono hab (by omega)) (by omega)
  obtain ⟨g4, k1, k2, k3, k4, k5, k6⟩ := hr4
  obtain ⟨bv, hbv4, ev1⟩ : ∃ bv, g4.β (off + 1) = some bv ∧ a4.eval (.tmp 1) = .pointer (some ⟨bv, 0, none⟩) := by
    have h := k3 1
    rw [show (⟨ρ4, H4, A4⟩ : St).ρ 1 = .c (.ptr (off + 1) 0) from s1] at h
    obtain ⟨b', hb', e⟩ := h
    exact ⟨b', hb', e⟩
  have hb4 : g4.β id = some b := k4.mono.β _ _ hb
  have hr4 : RS [] Try.f72.ntmps g4 A4 w4 ⟨ρ4, H4, A4⟩ a4 w4 := ⟨g4, k1, k2, k3, .refl _ _ _, k5, k6⟩
  refine raw_op (n := Try.f72.ntmps) (x := .c (.d (.lit (.func (.func 80) #[] #[.pointer (some ⟨bv, 0, none⟩)])))) hr4 rfl (u := .func (.func 80) #[] #[.pointer (some ⟨bv, 0, none⟩)]) ?_ (fun d e => by cases e; decide) (fun _ => PRep_lit rfl) (fun a5 hr5 => ?_)
  · have ev1' : a4.tmps[1]?.getD undef = .pointer (some ⟨bv, 0, none⟩) := by rw [← Array.getD_eq_getD_getElem?]; exact ev1
    simp [execOp, Instr.makeFunc, Act.eval]
    exact ev1'
  have ev4 := hr5.lit (t := 4) rfl
  obtain ⟨g5, n1, n2, n3, n4, n5, n6⟩ := hr5
  have ev3 : a5.eval (.tmp 3) = .pointer (some ⟨b, 0, none⟩) := by
    have h := n3 3
    change PRep g5 A4 (ρ4 3) _ at h
    rw [s3] at h
    obtain ⟨b', hb', e⟩ := h
    have := n4.mono.β id b hb4
    rw [this] at hb'
    cases hb'
    exact e
  unfold wpList
  rw [if_pos (show Region.wanted _ _ = true from rfl)]
  refine .inl ?_
  refine wp_callTo ?_ (Try.kTryS (off + 1000) hw3 hab3 n1 n2 (n4.mono.β _ _ hb4) g3d he hsl g3v (n4.mono.β _ _ hbv4) s rest hs) (fun u w6 ⟨g6, q1, q2, q3, q4⟩ => ?_)
  · have ev3' : a5.tmps[3]?.getD undef = .pointer (some ⟨b, 0, none⟩) := by rw [← Array.getD_eq_getD_getElem?]; exact ev3
    have ev4' : a5.tmps[4]?.getD undef = .func (.func 80) #[] #[.pointer (some ⟨bv, 0, none⟩)] := by rw [← Array.getD_eq_getD_getElem?]; exact ev4
    simp [execOp, resolve, Deferred.ofValue, invoke, Act.eval]
    rw [ev3', ev4']
  · have hrs := RS.step (D := []) (n := Try.f72.ntmps) (g0 := g4) (w0 := w4) (S := ⟨put ρ4 (some 4) (.c (.d (.lit (.func (.func 80) #[] #[.pointer (some ⟨bv, 0, none⟩)])))), H4, A4⟩) (dst := some 5) (v := pD (dS s)) q2 q4 n3 n4 q3 n5 n6 q1 (fun d e => by cases e; decide)
    refine list_real (E := envOf Try.prog [] off [] []) (fb := none) (envOf_ok Try.mixed) (K := fun S => S.ρ 2 = pD (dS s) ∧ S.H = upd H4 id (some (encRd (rdT r s))) ∧ S.A = A4) (fun S7 a7 w7 hr7 hk => ?_) [_] _ _ w6 (dstsOK_spec (ops := [_].toArray) (by rfl)) ?_ hrs
    rotate_left
    · simp +decide only [go_sem]
    obtain ⟨ρ7, H7, A7⟩ := S7
    obtain ⟨t2, tH, tA⟩ := hk
    simp only at t2 tH tA
    subst tH tA
    obtain ⟨g7, o1, o2, o3, o4, o5, o6⟩ := hr7
    change (Code.ret).wp _ _ a7 w7
    refine wp_ret ?_
    have hrr : RetR Try.prog Try.f72 H A7 (pD (dS s)) (upd H id (some (encRd (rdT r s)))) A7 ⟨ρ7, upd H4 id (some (encRd (rdT r s))), A7⟩ := by
      refine RetR_set (ds := encRd (rdT r s)) (p := pD (dS s)) ?_ (wk_c (.inr (.inl ⟨rfl, True.intro⟩))) True.intro hw (by rw [hr]; simp) (upd_same _ _ _) (wkC_same fun c hc => encRd_ok _ c hc) (fun c hc => encRd_ok _ c hc) (fun i hi hn => ?_) (fun κ => .inr (.inl rfl)) (fun κ h => ⟨h, rfl⟩)
      · show some (ρ7 2) = _
        rw [t2]
      · show upd _ _ _ _ = _
        rw [upd_other _ _ hi, g3i i (fun e => hn (by rw [e]; exact f1))]
    obtain ⟨u8, z1, g8, z2, z3, z4, z5⟩ := RetR_fin (D := []) (n := Try.f72.ntmps) hd ⟨g7, o1, o2, o3, k4.trans o4, o5, o6⟩ hrr
    exact ⟨o6, _, z1, _, rfl, g8, z2, z3, z4, z5⟩
end rd
end Go.Proofs

namespace Go.Proofs
open Go.PW
structure Lg where
  from_ : Nat
  places : Nat
  turn : Nat
  base : Nat
  used : Nat
  recs : List (List UInt8)
  halted : Bool
def textsD (l : List (List UInt8)) : List (List D) := l.map fun s => [dS s]
def encLg (did : Nat) (κr : Tok) (l : Lg) : List CV :=
  [.ptr did 0, .d (.lit (.int .i64 l.from_)), .d (.lit (.int .i64 l.places)), .d (.lit (.int .i64 l.turn)), .d (.lit (.int .i64 l.base)), .d (.lit (.int .i64 l.used)), .own κr (textsD l.recs), .d (.lit (.bool l.halted))]
def encLgC (did : Nat) (c6 : CV) (l : Lg) : List CV :=
  [.ptr did 0, .d (.lit (.int .i64 l.from_)), .d (.lit (.int .i64 l.places)), .d (.lit (.int .i64 l.turn)), .d (.lit (.int .i64 l.base)), .d (.lit (.int .i64 l.used)), c6, .d (.lit (.bool l.halted))]
structure LgAt (H : HMap) (A : AMap) (lid did : Nat) (κr : Tok) (l : Lg) : Prop where
  h : H lid = some (encLg did κr l)
  r : A κr = some (.co 1 l.recs.length)
def TellCase (s : List UInt8) (t b : Nat) : Prop := (unsealB s = some ([83] ++ (uintB t ++ uintB b)) ∧ t ≤ 1099511627776 ∧ b ≤ t) ∨ ((unsealB s = some [] ∨ unsealB s = none) ∧ t = 0 ∧ b = 0)
section wal
variable {H : HMap} {A : AMap} {lid did : Nat} {κm κc κr : Tok} {d : Dk} {l : Lg}
set_option maxRecDepth 8000 in
set_option maxHeartbeats 16000000 in
theorem Try.kTells {c6 : CV} (off : Nat) (hw : Wf H A) (hlh : H lid = some (encLgC did c6 l)) (hd : DkAt H A did κm κc d) (hn : 0 < d.n) (hcl : d.cache.length ≤ 1000000) (slot t b : Nat) (hin : l.from_ + slot < d.n) (hdn : d.n ≤ 4096) (hs : (rd d ((l.from_ + slot : Nat) : Int)).length ≤ 128) (hc : TellCase (rd d ((l.from_ + slot : Nat) : Int)) t b) :
    EffOK Try.prog 45 off H A [.c (.ptr lid 0), pD (.lit (.int .i64 slot))] (.tup [.c (.d (.lit (.int .i64 t))), .c (.d (.lit (.int .i64 b)))]) H A := by
  refine effr_ok (E := envOf Try.prog [43, 66, 67, 68, 69] off [] []) (envOf_ok Try.mixed) Try.func45 rfl Try.call45 (by kernel_rfl) (by exact Nat.le_of_ble_eq_true rfl) (fun hab => ?_)
  unfold encLgC at hlh
  have hadd : IntKind.i64.wrap ((l.from_ : Int) + (slot : Int)) = ((l.from_ + slot : Nat) : Int) := by rw [Go.IntWalk.i64_in _ (by omega)]; omega
  have hrt : dkRight d ((l.from_ + slot : Nat) : Int) = 0 := by unfold dkRight; rw [if_neg (by omega), if_neg (by omega)]
  have kr := Try.kRead (off + 1000) hw hd ((l.from_ + slot : Nat) : Int) hn hcl
  unfold readPV at kr
  rw [if_pos hrt] at kr
  generalize rd d ((l.from_ + slot : Nat) : Int) = s at *
  have ku := Try.kUnseal s (by omega)
  have hx : H (off + 40) = none := (hab _ (Nat.le_add_right _ _)).1
  rcases hc with ⟨h1, h2, h3⟩ | ⟨h1, rfl, rfl⟩
  · rw [h1] at ku
    simp only [optS] at ku
    have kb := Try.kBehind ([83] ++ (uintB t ++ uintB b)) [83]
    have hbe : behindL ([83] ++ (uintB t ++ uintB b)) [83] = some (uintB t ++ uintB b) := rfl
    unfold behRV at kb
    rw [hbe] at kb
    simp only at kb
    have l1 := uintB_len t
    have l2 := uintB_len b
    have kn := Try.kRdNew (id := off + 40) (off + 1000) hw (uintB t ++ uintB b) hx
    have hw1 : Wf (upd H (off + 40) (some (encRd ⟨uintB t ++ uintB b, 0, 0⟩))) A := Wf_upd hw (encRd_D _)
    have k1 := Try.kUint48 (H := upd H (off + 40) (some (encRd ⟨uintB t ++ uintB b, 0, 0⟩))) (A := A) (id := off + 40) (n := t) (res := t) (off + 1000) hw1 (upd_same _ _ _) rfl (by simp; omega) (.inl ⟨uintB b, rfl, by omega, rfl, rfl⟩)
    rw [upd_twice] at k1
    have hw2 : Wf (upd H (off + 40) (some (encRd ⟨uintB t ++ uintB b, 0 + (uintB t).length, 0⟩))) A := Wf_upd hw (encRd_D _)
    have k2 := Try.kUint48 (H := upd H (off + 40) (some (encRd ⟨uintB t ++ uintB b, 0 + (uintB t).length, 0⟩))) (A := A) (id := off + 40) (n := b) (res := b) (off + 1000) hw2 (upd_same _ _ _) rfl (by simp; omega) (.inl ⟨[], by simp, by omega, rfl, rfl⟩)
    rw [upd_twice] at k2
    have hw3 : Wf (upd H (off + 40) (some (encRd ⟨uintB t ++ uintB b, 0 + (uintB t).length + (uintB b).length, 0⟩))) A := Wf_upd hw (encRd_D _)
    have k3 := Try.kErr (H := upd H (off + 40) (some (encRd ⟨uintB t ++ uintB b, 0 + (uintB t).length + (uintB b).length, 0⟩))) (A := A) (off + 1000) hw3 (upd_same _ _ _)
    have k4 := Try.kLeft (H := upd H (off + 40) (some (encRd ⟨uintB t ++ uintB b, 0 + (uintB t).length + (uintB b).length, 0⟩))) (A := A) (off + 1000) hw3 (upd_same _ _ _) (by simp) (by simp; omega)
    have hz : (uintB t ++ uintB b).length - (0 + (uintB t).length + (uintB b).length) = 0 := by simp
    simp only at k3 k4
    rw [hz] at k4
    simp only [Nat.zero_add] at k1 k2 k3 k4
    have ha : ∀ x, Above (off + 1000) (upd H (off + 40) (some x)) A := fun x => Above_updH (Above_mono hab (by omega)) (by omega)
    have c1 : IntKind.i64.wrap (t : Int) = (t : Int) := Go.IntWalk.i64_in _ (by omega)
    have c2 : IntKind.i64.wrap (b : Int) = (b : Int) := Go.IntWalk.i64_in _ (by omega)
    have g1 : ((1099511627776 : Int) < (t : Int)) = False := eq_false (by omega)
    have g2 : ((t : Int) < (b : Int)) = False := eq_false (by omega)
    generalize uintB t = ut at *
    generalize uintB b = ub at *
    repeat' (first
     |with_reducible first|refine vSq fun K hK=>?_|refine vRg ?_|refine vBl ?_|refine vSc ?_|refine vIf ?_|refine vSk ?_|refine vEx ?_|refine vRt ?_
     |(with_reducible first|refine gNt (fun h=>?_) (fun h=>?_)|refine gCs (fun h=>?_) (fun h=>?_))<;>(try simp only[h])
     |refine C_call rfl kr rfl (Above_mono hab (by omega)) ?_
     |refine C_pure ku rfl rfl (fun k => (hab _ (Nat.le_add_right _ _)).2 k) ?_
     |refine C_pure kb rfl rfl (fun k => (hab _ (Nat.le_add_right _ _)).2 k) ?_
     |refine C_call rfl kn rfl (Above_mono hab (by omega)) ?_
     |refine C_call rfl k1 rfl (ha _) ?_
     |refine C_call rfl k2 rfl (ha _) ?_
     |refine C_call rfl k3 rfl (ha _) ?_
     |refine C_call rfl k4 rfl (ha _) ?_
     |with_reducible first|(refine hK _ ?_;clear hK K)|(clear hK K;refine hK _ ?_;clear hK K)|(clear hK K;clear hK K;refine hK _ ?_;clear hK K)|(clear hK K;clear hK K;clear hK K;refine hK _ ?_;clear hK K)
     |(with_reducible refine todo ?_;simp +decide only[go_sem, hlh, hadd, zne, c1, c2, g1, g2]))
    exact RetR_same rfl wk_pair oks_pair hw (fun i hi => by show upd _ _ _ i = _; rw [upd_other _ _ (fun e => hi (by rw [e]; exact hx))]) (fun _ _ => rfl)
  · have kb := Try.kBehind [] [83]
    have hbe : behindL [] [83] = none := rfl
    unfold behRV at kb
    rw [hbe] at kb
    simp only at kb
    have kn := Try.kRdNew (id := off + 40) (off + 1000) hw [] hx
    have hw1 : Wf (upd H (off + 40) (some (encRd ⟨[], 0, 0⟩))) A := Wf_upd hw (encRd_D _)
    have k1 := Try.kUint48 (H := upd H (off + 40) (some (encRd ⟨[], 0, 0⟩))) (A := A) (id := off + 40) (n := 0) (res := 0) (off + 1000) hw1 (upd_same _ _ _) rfl (by simp) (.inr ⟨Nat.le_refl _, rfl, rfl⟩)
    rw [upd_twice] at k1
    have hw2 : Wf (upd H (off + 40) (some (encRd ⟨[], 0, 8⟩))) A := Wf_upd hw (encRd_D _)
    have k2 := Try.kUint48E (H := upd H (off + 40) (some (encRd ⟨[], 0, 8⟩))) (A := A) (id := off + 40) (off + 1000) hw2 (upd_same _ _ _) (by decide)
    have ha : ∀ x, Above (off + 1000) (upd H (off + 40) (some x)) A := fun x => Above_updH (Above_mono hab (by omega)) (by omega)
    rcases h1 with h1 | h1 <;> rw [h1] at ku <;> simp only [optS] at ku
    · repeat' (first
       |with_reducible first|refine vSq fun K hK=>?_|refine vRg ?_|refine vBl ?_|refine vSc ?_|refine vIf ?_|refine vSk ?_|refine vEx ?_|refine vRt ?_
       |(with_reducible first|refine gNt (fun h=>?_) (fun h=>?_)|refine gCs (fun h=>?_) (fun h=>?_))<;>(try simp only[h])
       |refine C_call rfl kr rfl (Above_mono hab (by omega)) ?_
       |refine C_pure ku rfl rfl (fun k => (hab _ (Nat.le_add_right _ _)).2 k) ?_
       |refine C_pure kb rfl rfl (fun k => (hab _ (Nat.le_add_right _ _)).2 k) ?_
       |refine C_call rfl kn rfl (Above_mono hab (by omega)) ?_
       |refine C_call rfl k1 rfl (ha _) ?_
       |refine C_call rfl k2 rfl (ha _) ?_
       |with_reducible first|(refine hK _ ?_;clear hK K)|(clear hK K;refine hK _ ?_;clear hK K)|(clear hK K;clear hK K;refine hK _ ?_;clear hK K)|(clear hK K;clear hK K;clear hK K;refine hK _ ?_;clear hK K)
       |(with_reducible refine todo ?_;simp +decide only[go_sem, hlh, hadd]))
      exact RetR_same rfl wk_pair oks_pair hw (fun i hi => by show upd _ _ _ i = _; rw [upd_other _ _ (fun e => hi (by rw [e]; exact hx))]) (fun _ _ => rfl)
    · repeat' (first
       |with_reducible first|refine vSq fun K hK=>?_|refine vRg ?_|refine vBl ?_|refine vSc ?_|refine vIf ?_|refine vSk ?_|refine vEx ?_|refine vRt ?_
       |(with_reducible first|refine gNt (fun h=>?_) (fun h=>?_)|refine gCs (fun h=>?_) (fun h=>?_))<;>(try simp only[h])
       |refine C_call rfl kr rfl (Above_mono hab (by omega)) ?_
       |refine C_pure ku rfl rfl (fun k => (hab _ (Nat.le_add_right _ _)).2 k) ?_
       |refine C_pure kb rfl rfl (fun k => (hab _ (Nat.le_add_right _ _)).2 k) ?_
       |refine C_call rfl kn rfl (Above_mono hab (by omega)) ?_
       |refine C_call rfl k1 rfl (ha _) ?_
       |refine C_call rfl k2 rfl (ha _) ?_
       |with_reducible first|(refine hK _ ?_;clear hK K)|(clear hK K;refine hK _ ?_;clear hK K)|(clear hK K;clear hK K;refine hK _ ?_;clear hK K)|(clear hK K;clear hK K;clear hK K;refine hK _ ?_;clear hK K)
       |(with_reducible refine todo ?_;simp +decide only[go_sem, hlh, hadd]))
      exact RetR_same rfl wk_pair oks_pair hw (fun i hi => by show upd _ _ _ i = _; rw [upd_other _ _ (fun e => hi (by rw [e]; exact hx))]) (fun _ _ => rfl)
end wal
end Go.Proofs

namespace Go.Proofs
open Go.PW
section wal
variable {H : HMap} {A : AMap} {lid did : Nat} {κm κc κr : Tok} {d : Dk} {l : Lg}
set_option maxRecDepth 8000 in
set_option maxHeartbeats 8000000 in
theorem Try.kState (off : Nat) (hw : Wf H A) (hl : LgAt H A lid did κr l) (hh : l.halted = false) : EffOK Try.prog 53 off H A [.c (.ptr lid 0)] (pD (.lit (.int .i64 0))) H A := by
  refine effr_ok (E := envOf Try.prog [] off [] []) (envOf_ok Try.mixed) Try.func53 rfl Try.call53 (by kernel_rfl) (by exact Nat.le_of_ble_eq_true rfl) (fun hab => ?_)
  have hlh := hl.h
  unfold encLg at hlh
  rw [hh] at hlh
  repeat' (first
   |with_reducible first|refine vSq fun K hK=>?_|refine vRg ?_|refine vBl ?_|refine vSc ?_|refine vIf ?_|refine vSk ?_|refine vEx ?_|refine vRt ?_
   |(with_reducible first|refine gNt (fun h=>?_) (fun h=>?_)|refine gCs (fun h=>?_) (fun h=>?_))<;>(try simp only[h])
   |with_reducible first|(refine hK _ ?_;clear hK K)|(clear hK K;refine hK _ ?_;clear hK K)|(clear hK K;clear hK K;refine hK _ ?_;clear hK K)|(clear hK K;clear hK K;clear hK K;refine hK _ ?_;clear hK K)
   |(with_reducible refine todo ?_;simp +decide only[go_sem, hlh]))
  exact RetR_same rfl (by simp +decide only [go_sem]) True.intro hw kp_refl (fun _ _ => rfl)
def needN (n : Nat) : Nat := max 1 ((n + 99) / 100)
set_option maxRecDepth 8000 in
set_option maxHeartbeats 8000000 in
theorem Try.kFits (off : Nat) (hw : Wf H A) (hl : LgAt H A lid did κr l) (n : Nat) (hn : n ≤ 100000) (h1 : l.used ≤ l.places) (h2 : l.places ≤ 1000) : EffOK Try.prog 31 off H A [.c (.ptr lid 0), pD (.lit (.int .i64 n))] (pD (.lit (.bool (decide (l.used + needN n ≤ l.places))))) H A := by
  refine effr_ok (E := envOf Try.prog [] off [] []) (envOf_ok Try.mixed) Try.func31 rfl Try.call31 (by kernel_rfl) (by exact Nat.le_of_ble_eq_true rfl) (fun hab => ?_)
  have hlh := hl.h
  unfold encLg at hlh
  have c1 : ((n : Int) < 0) = False := eq_false (by omega)
  have c2 : ((100000 : Int) < (n : Int)) = False := eq_false (by omega)
  have e1 : IntKind.i64.wrap ((n : Int) + 100) = ((n + 100 : Nat) : Int) := Go.IntWalk.i64_in _ (by omega)
  have e2 : IntKind.i64.wrap (((n + 100 : Nat) : Int) - 1) = ((n + 99 : Nat) : Int) := by rw [Go.IntWalk.i64_in _ (by omega)]; omega
  have e3 : IntKind.i64.wrap (Int.tdiv ((n + 99 : Nat) : Int) 100) = (((n + 99) / 100 : Nat) : Int) := by rw [show Int.tdiv ((n + 99 : Nat) : Int) 100 = (((n + 99) / 100 : Nat) : Int) from tdiv_nat (n + 99) 100, Go.IntWalk.i64_in _ (by omega)]
  have e4 : IntKind.i64.wrap ((l.places : Int) - (l.used : Int)) = ((l.places - l.used : Nat) : Int) := by rw [Go.IntWalk.i64_in _ (by omega)]; omega
  have e5 : (if (((n + 99) / 100 : Nat) : Int) > 1 then (((n + 99) / 100 : Nat) : Int) else 1) = ((needN n : Nat) : Int) := by
    unfold needN
    split <;> omega
  have e6 : decide (l.used + needN n ≤ l.places) = decide (((needN n : Nat) : Int) ≤ ((l.places - l.used : Nat) : Int)) := by
    have : needN n ≥ 1 := Nat.le_max_left _ _
    rw [decide_eq_decide]
    omega
  rw [e6]
  repeat' (first
   |with_reducible first|refine vSq fun K hK=>?_|refine vRg ?_|refine vBl ?_|refine vSc ?_|refine vIf ?_|refine vSk ?_|refine vEx ?_|refine vRt ?_
   |(with_reducible first|refine gNt (fun h=>?_) (fun h=>?_)|refine gCs (fun h=>?_) (fun h=>?_))<;>(try simp only[h])
   |with_reducible first|(refine hK _ ?_;clear hK K)|(clear hK K;refine hK _ ?_;clear hK K)|(clear hK K;clear hK K;refine hK _ ?_;clear hK K)|(clear hK K;clear hK K;clear hK K;refine hK _ ?_;clear hK K)
   |(with_reducible refine todo ?_;simp +decide only[go_sem, hlh, c1, c2, e1, e2, e3, e4, e5]))
  exact RetR_same rfl (by simp +decide only [go_sem]) True.intro hw kp_refl (fun _ _ => rfl)
end wal
end Go.Proofs

namespace Go.PW
theorem RetR_eq {P : Program} {fn : Func} {H : HMap} {A : AMap} {v p : PV} {H' : HMap} {A' : AMap} {S : St} (hp : resPVs P S fn.results.toList = some p) (hv : PV.wk H' A' A' v p) (hok : v.oks (fun i => H' i ≠ none) (fun κ => A' κ ≠ none)) (hw : Wf H' A')
    (h1 : ∀ i, H' i ≠ none → S.H i = H' i) (h2 : S.A = A') (kH : ∀ id, H id ≠ none → H' id ≠ none) (kA : ∀ κ, A κ ≠ none → A' κ ≠ none) : RetR P fn H A v H' A' S := by
  subst h2
  exact RetR_of hp hv hok hw (fun i cs hi => ⟨cs, by rw [h1 i (by rw [hi]; simp), hi], wkC_same fun c hc => ok_mono (fun _ h => h) (fun κ h => ⟨h, rfl⟩) (hw i cs c hi hc)⟩) (fun κ => .inr (.inl rfl)) kH kA
theorem upd_keepH {H : HMap} {u : Nat} {cs : List CV} : ∀ i, H i ≠ none → upd H u (some cs) i ≠ none := fun i hi => by
  rw [upd_apply']; split
  · simp
  · exact hi
end Go.PW
namespace Go.Proofs
open Go.PW
theorem Try.appT : AppT Try.prog 44 9 1 16 := ⟨Try.underlying44, Try.cl9, Try.by9, Try.zo9, by decide, by decide⟩
theorem szd_texts (l : List (List UInt8)) : Szd 1 (textsD l) := fun e he => by
  obtain ⟨w, _, rfl⟩ := List.mem_map.1 he
  rfl
section wal
variable {H : HMap} {A : AMap} {lid did : Nat} {κm κc κr κ' : Tok} {d : Dk} {l : Lg}
theorem LgAt.ne (hl : LgAt H A lid did κr l) (hd : DkAt H A did κm κc d) : lid ≠ did := fun e => by
  have h1 := hl.h
  rw [e, hd.h] at h1
  have := congrArg List.length (Option.some.inj h1)
  cases this
theorem LgAt.nc (hl : LgAt H A lid did κr l) (hd : DkAt H A did κm κc d) : κr ≠ κc := fun e => by
  have h1 := hl.r
  rw [e, hd.c] at h1
  cases h1
theorem LgAt.nm (hl : LgAt H A lid did κr l) (hd : DkAt H A did κm κc d) : κr ≠ κm := fun e => by
  have h1 := hl.r
  rw [e, hd.m] at h1
  cases h1
theorem LgAt.lt (hl : LgAt H A lid did κr l) {off : Nat} (hab : Above off H A) : lid < off ∧ κr.1 < off := by
  refine ⟨?_, ?_⟩
  · refine Nat.lt_of_not_le fun h => ?_
    have := hl.h; rw [(hab lid h).1] at this; cases this
  · refine Nat.lt_of_not_le fun h => ?_
    have := hl.r; rw [(hab κr.1 h).2 κr.2] at this; cases this
theorem LgAt.ok (hdid : H did ≠ none) (hr : A κr ≠ none) : ∀ c ∈ encLg did κr l, c.ok (fun i => H i ≠ none) (fun κ => A κ ≠ none) := fun c h => by
  simp only [encLg, List.mem_cons, List.not_mem_nil, or_false] at h
  rcases h with rfl | rfl | rfl | rfl | rfl | rfl | rfl | rfl <;> first | exact True.intro | exact hdid | exact hr
set_option maxRecDepth 8000 in
set_option maxHeartbeats 8000000 in
theorem Try.kTook (off : Nat) (hw : Wf H A) (hl : LgAt H A lid did κr l) (hdid : H did ≠ none) (e : Int) : EffOK Try.prog 55 off H A [.c (.ptr lid 0), pD (.lit (.int .i64 e))] (pD (.lit (.int .i64 e))) (upd H lid (some (encLg did κr { l with halted := l.halted || e != 0 }))) A := by
  refine effr_ok (E := envOf Try.prog [] off [] []) (envOf_ok Try.mixed) Try.func55 rfl Try.call55 (by kernel_rfl) (by exact Nat.le_of_ble_eq_true rfl) (fun hab => ?_)
  have hlh := hl.h
  unfold encLg at hlh
  have hend : Wf (upd H lid (some (encLg did κr { l with halted := l.halted || e != 0 }))) A := Wf_set hw (LgAt.ok (upd_keepH _ hdid) (by rw [hl.r]; simp)) (fun _ h => h)
  cases hh : l.halted with
  | true =>
    rw [hh] at hlh hend
    repeat' (first
     |with_reducible first|refine vSq fun K hK=>?_|refine vRg ?_|refine vBl ?_|refine vSc ?_|refine vIf ?_|refine vSk ?_|refine vEx ?_|refine vRt ?_
     |(with_reducible first|refine gNt (fun h=>?_) (fun h=>?_)|refine gCs (fun h=>?_) (fun h=>?_))<;>(try simp only[h])
     |with_reducible first|(refine hK _ ?_;clear hK K)|(clear hK K;refine hK _ ?_;clear hK K)|(clear hK K;clear hK K;refine hK _ ?_;clear hK K)|(clear hK K;clear hK K;clear hK K;refine hK _ ?_;clear hK K)
     |(with_reducible refine todo ?_;simp +decide only[go_sem, hlh]))
    refine RetR_eq rfl (wk_c (.inr (.inl ⟨rfl, True.intro⟩))) True.intro hend ?_ rfl upd_keepH (fun _ h => h)
    intro i _
    simp +decide only [go_sem, encLg]
  | false =>
    rw [hh] at hlh hend
    repeat' (first
     |with_reducible first|refine vSq fun K hK=>?_|refine vRg ?_|refine vBl ?_|refine vSc ?_|refine vIf ?_|refine vSk ?_|refine vEx ?_|refine vRt ?_
     |(with_reducible first|refine gNt (fun h=>?_) (fun h=>?_)|refine gCs (fun h=>?_) (fun h=>?_))<;>(try simp only[h])
     |with_reducible first|(refine hK _ ?_;clear hK K)|(clear hK K;refine hK _ ?_;clear hK K)|(clear hK K;clear hK K;refine hK _ ?_;clear hK K)|(clear hK K;clear hK K;clear hK K;refine hK _ ?_;clear hK K)
     |(with_reducible refine todo ?_;simp +decide only[go_sem, hlh]))
    refine RetR_eq rfl (wk_c (.inr (.inl ⟨rfl, True.intro⟩))) True.intro hend ?_ rfl upd_keepH (fun _ h => h)
    intro i _
    simp +decide only [go_sem, encLg]
set_option maxRecDepth 8000 in
set_option maxHeartbeats 8000000 in
theorem Try.kRecords (off : Nat) (hw : Wf H A) (hl : LgAt H A lid did κr l) (hb : l.recs.length ≤ 1000000) : EffOK Try.prog 48 off H A [.c (.ptr lid 0)] (.c (.d (.sl (textsD l.recs)))) H A := by
  refine effr_ok (E := envOf Try.prog [] off [] []) (envOf_ok Try.mixed) Try.func48 rfl Try.call48 (by kernel_rfl) (by exact Nat.le_of_ble_eq_true rfl) (fun hab => ?_)
  have hlh := hl.h
  unfold encLg at hlh
  have hll : (textsD l.recs).length = l.recs.length := by simp [textsD]
  have hap : [] ++ textsD l.recs = textsD l.recs := rfl
  repeat' (first
   |with_reducible first|refine vSq fun K hK=>?_|refine vRg ?_|refine vBl ?_|refine vSc ?_|refine vIf ?_|refine vSk ?_|refine vEx ?_|refine vRt ?_
   |(with_reducible first|refine gNt (fun h=>?_) (fun h=>?_)|refine gCs (fun h=>?_) (fun h=>?_))<;>(try simp only[h])
   |(refine W_full Try.appT rfl rfl szNil (szd_texts _) (by rw [hll]; simp only [List.length_nil]; omega) ((hab _ (Nat.le_add_right _ _)).2 _) ?_)
   |with_reducible first|(refine hK _ ?_;clear hK K)|(clear hK K;refine hK _ ?_;clear hK K)|(clear hK K;clear hK K;refine hK _ ?_;clear hK K)|(clear hK K;clear hK K;clear hK K;refine hK _ ?_;clear hK K)
   |(with_reducible refine todo ?_;simp +decide only[go_sem, hlh, hap]))
  refine RetR_same rfl (by simp +decide only [go_sem]) True.intro hw kp_refl (fun κ hκ => ?_)
  show upd _ _ _ κ = _
  rw [upd_other _ _ (fun e => hκ (by rw [e]; exact (hab _ (Nat.le_add_right _ _)).2 _))]
end wal
end Go.Proofs
