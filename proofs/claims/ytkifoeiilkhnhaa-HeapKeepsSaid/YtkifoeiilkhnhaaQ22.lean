import Derived.Test.YtkifoeiilkhnhaaQ21

/-
  code.Reader.Uint.
-/

namespace Go.Proofs
open Go.PW
section rd
variable {H : HMap} {A : AMap} {id : Nat} {r out : Rd} {n res : Nat}
set_option maxRecDepth 8000 in
set_option maxHeartbeats 8000000 in
theorem Try.kTryE (off : Nat) (hw : Wf H A) (hr : H id = some (encRd r)) (he : r.e ≠ 0) : EffOK Try.prog 89 off H A [.c (.ptr id 0), .c .any] (pD (.lit (.int .u64 0))) H A := by
  refine effr_ok (E := envOf Try.prog [] off [] []) (envOf_ok Try.mixed) Try.func89 rfl Try.call89 (by kernel_rfl) (by exact Nat.le_of_ble_eq_true rfl) (fun hab => ?_)
  have f2 : H (off + 2) = none := (hab _ (Nat.le_add_right _ _)).1
  have f4 : H (off + 4) = none := (hab _ (Nat.le_add_right _ _)).1
  have hlt : id < off := Nat.lt_of_not_le fun h => by rw [(hab id h).1] at hr; cases hr
  have i2 : id ≠ off + 2 := by omega
  have i4 : id ≠ off + 4 := by omega
  have e42 : (off + 4 = off + 2) = False := eq_false (by omega)
  have e24 : (off + 2 = off + 4) = False := eq_false (by omega)
  unfold encRd at hr
  have hne : (r.e != 0) = true := by simpa using he
  repeat' (first
   | with_reducible first | refine VC_seq fun K hK => ?_ | refine W_region ?_ | refine VC_block ?_ | refine VC_scope ?_ | refine VC_if ?_ | refine VC_skip ?_ | refine VC_exit ?_ | refine VC_ret ?_
   | (with_reducible first | refine G_not (fun h => ?_) (fun h => ?_) | refine G_cases (fun h => ?_) (fun h => ?_)) <;> (try simp only [h])
   | refine And.intro f2 (And.intro f4 ?_)
   | with_reducible first | (refine hK _ ?_; clear hK K) | (clear hK K; refine hK _ ?_; clear hK K) | (clear hK K; clear hK K; refine hK _ ?_; clear hK K) | (clear hK K; clear hK K; clear hK K; refine hK _ ?_; clear hK K)
   | (with_reducible refine todo ?_; simp +decide only [go_sem, e42, e24, hr, i2, i4, hne]))
  refine RetR_same (p := pD (.lit (.int .u64 0))) ?_ (by simp +decide only [go_sem]) True.intro hw ?_ (fun _ _ => rfl)
  · show resPVs _ _ [.cell 4 98] = _
    simp +decide only [go_sem, resPVs, resPs, resOne, joinP]
  · intro i hi
    have j2 : i ≠ off + 2 := fun e => hi (by rw [e]; exact f2)
    have j4 : i ≠ off + 4 := fun e => hi (by rw [e]; exact f4)
    simp +decide only [go_sem, j2, j4]
theorem Try.kUintG (off : Nat) {v : D} {H' : HMap} (hT : ∀ (g : Gh) (w : World) (b : Nat), MRel g H A w → DomOK g H → Above (off + 1000) H A → g.β id = some b →
    CallTo Try.prog 89 #[.pointer (some ⟨b, 0, none⟩), .func (.func 90) #[.pointer (some ⟨b, 0, none⟩)] #[]] w fun u w' => ∃ g', PRep g' A (pD v) u ∧ MRel g' H' A w' ∧ Evol g A w g' A w' ∧ DomOK g' H') :
    EffOK Try.prog 79 off H A [.c (.ptr id 0)] (pD v) H' A := by
  intro g w vals hm hd hab har
  refine .inl ⟨Try.call79 _ w, ?_⟩
  refine calls_of_wp Try.func79 rfl ?_
  have hr0 := RS_entry (fn := Try.f79) hm hd har (by exact Nat.le_of_ble_eq_true rfl)
  obtain ⟨pv, hpv, b, hb, hbv⟩ := har.2 0 _ rfl
  refine (show VY Try.prog [] Try.f79.ntmps g A w _ _ _ from ?_) _ w hr0
  refine VY_seq (E := envOf Try.prog [] off [] []) hd fun K hK => ?_
  repeat' (first
    | with_reducible refine VX_seqK fun K hK => ?_
    | with_reducible refine VX_block ?_
    | with_reducible refine VX_scope ?_
    | with_reducible refine VX_if ?_
    | with_reducible refine VX_skip ?_
    | with_reducible refine VX_exit ?_
    | with_reducible refine VX_ret ?_
    | refine VX_region (envOf_ok Try.mixed) (by kernel_rfl) ?_
    | (with_reducible refine hK _ ?_; clear hK K)
    | (clear hK K; with_reducible refine hK _ ?_; clear hK K)
    | (with_reducible refine todo ?_; simp +decide only [go_sem]))
  intro a3 w3 hr3
  refine wp_seq (wp_region_list ?_)
  change wpList _ _ _ ([_, _] ++ [_, _, _]) a3 w3
  refine list_real2 (E := envOf Try.prog [] off [] []) (envOf_ok Try.mixed) (K := fun S' => S'.ρ 3 = .c (.ptr id 0) ∧ S'.ρ 4 = .c (.ptr id 0) ∧ S'.H = H ∧ S'.A = A) (fun S4 a4 w4 hr4 hk => ?_) _ _ a3 w3 (dstsOK_spec (ops := [_, _].toArray) (by rfl)) ?_ hr3
  rotate_left
  · simp +decide only [go_sem]
  obtain ⟨ρ4, H4, A4⟩ := S4
  obtain ⟨s3, s4, sH, sA⟩ := hk
  simp only at s3 s4 sH sA
  subst sH sA
  have ptrAt : ∀ {S : St} {a : Act} {w' : World} {t : Nat}, RS [] Try.f79.ntmps g A4 w S a w' → S.ρ t = .c (.ptr id 0) → a.eval (.tmp t) = .pointer (some ⟨b, 0, none⟩) := fun {S a w' t} hr hs => by
    obtain ⟨g', h1, h2, h3, h4, h5, h6⟩ := hr
    have h := h3 t
    rw [hs] at h
    obtain ⟨b', hb', e⟩ := h
    have := h4.mono.β id b hb
    rw [this] at hb'
    cases hb'
    exact e
  have ev4 := ptrAt hr4 s4
  refine raw_op (n := Try.f79.ntmps) (x := .c (.d (.lit (.func (.func 90) #[.pointer (some ⟨b, 0, none⟩)] #[])))) hr4 rfl (u := .func (.func 90) #[.pointer (some ⟨b, 0, none⟩)] #[]) ?_ (fun d e => by cases e; decide) (fun _ => PRep_lit rfl) (fun a5 hr5 => ?_)
  · have ev4' : a4.tmps[4]?.getD undef = .pointer (some ⟨b, 0, none⟩) := by rw [← Array.getD_eq_getD_getElem?]; exact ev4
    simp [execOp, Instr.makeFunc, Act.eval]
    exact ev4'
  have ev3 := ptrAt hr5 (t := 3) s3
  have ev5 := hr5.lit (t := 5) rfl
  obtain ⟨g5, n1, n2, n3, n4, n5, n6⟩ := hr5
  unfold wpList
  rw [if_pos (show Region.wanted _ _ = true from rfl)]
  refine .inl ?_
  refine wp_callTo ?_ (hT g5 w4 b n1 n2 (Above_mono hab (by omega)) (n4.mono.β _ _ hb)) (fun u w6 ⟨g6, q1, q2, q3, q4⟩ => ?_)
  · have ev3' : a5.tmps[3]?.getD undef = .pointer (some ⟨b, 0, none⟩) := by rw [← Array.getD_eq_getD_getElem?]; exact ev3
    have ev5' : a5.tmps[5]?.getD undef = .func (.func 90) #[.pointer (some ⟨b, 0, none⟩)] #[] := by rw [← Array.getD_eq_getD_getElem?]; exact ev5
    simp [execOp, resolve, Deferred.ofValue, invoke, Act.eval]
    rw [ev3', ev5']
  · have hrs := RS.step (D := []) (n := Try.f79.ntmps) (g0 := g) (w0 := w) (S := ⟨put ρ4 (some 5) (.c (.d (.lit (.func (.func 90) #[.pointer (some ⟨b, 0, none⟩)] #[])))), H4, A4⟩) (dst := some 6) (v := pD v) q2 q4 n3 n4 q3 n5 n6 q1 (fun d e => by cases e; decide)
    refine list_real (E := envOf Try.prog [] off [] []) (fb := none) (envOf_ok Try.mixed) (K := fun S => S.ρ 2 = pD v ∧ S.H = H' ∧ S.A = A4) (fun S7 a7 w7 hr7 hk => ?_) [_] _ _ w6 (dstsOK_spec (ops := [_].toArray) (by rfl)) ?_ hrs
    rotate_left
    · simp +decide only [go_sem]
    obtain ⟨ρ7, H7, A7⟩ := S7
    obtain ⟨t2, tH, tA⟩ := hk
    simp only at t2 tH tA
    subst tH tA
    have hr7' := hr7
    obtain ⟨g7, o1, o2, o3, o4, o5, o6⟩ := hr7
    change (Code.ret).wp _ _ a7 w7
    refine wp_ret ?_
    obtain ⟨us, z1, z2⟩ := resPVs_ok (P := Try.prog) (S := ⟨ρ7, H7, A7⟩) (vs := Try.f79.results.toList) (p := pD v) o1 ⟨rfl, rfl⟩ o3 (by show some (ρ7 2) = _; rw [t2])
    exact ⟨o6, _, run_results _ a7.tmps z1, _, rfl, g7, z2, o1, o4, o2⟩
/-- Reading where there is a number, or nothing. -/
theorem Try.kUint48 (off : Nat) (hw : Wf H A) (hr : H id = some (encRd r)) (he : r.e = 0) (hsl : r.s.length ≤ 1000000) (hc : ReadCase r out n res) :
    EffOK Try.prog 79 off H A [.c (.ptr id 0)] (pD (.lit (.int .u64 res))) (upd H id (some (encRd out))) A :=
  Try.kUintG off fun _ _ _ hm hd hab hb => Try.kTry (off + 1000) hw hab hm hd hb hr he hsl hc
/-- Reading behind an error. -/
theorem Try.kUint48E (off : Nat) (hw : Wf H A) (hr : H id = some (encRd r)) (he : r.e ≠ 0) :
    EffOK Try.prog 79 off H A [.c (.ptr id 0)] (pD (.lit (.int .u64 0))) H A :=
  Try.kUintG off fun g w b hm hd hab hb => Try.kTryE (off + 1000) hw hr he g w _ hm hd hab ⟨rfl, fun k x hk => by
    match k, hk with
    | 0, e => cases e; exact ⟨_, rfl, b, hb, rfl⟩
    | 1, e => cases e; exact ⟨_, rfl, True.intro⟩⟩
end rd
end Go.Proofs

/-
  The log: what it is; what a slot tells.
-/

namespace Go.Proofs
open Go.PW

structure Lg where
  from_ : Nat
  places : Nat
  turn : Nat
  base : Nat
  used : Nat
  recs : List (List UInt8)
  halted : Bool
def textsD (l : List (List UInt8)) : List (List D) := l.map fun s => [dS s]
def encLg (did : Nat) (κr : Tok) (l : Lg) : List CV :=
  [.ptr did 0, .d (.lit (.int .i64 l.from_)), .d (.lit (.int .i64 l.places)), .d (.lit (.int .i64 l.turn)), .d (.lit (.int .i64 l.base)), .d (.lit (.int .i64 l.used)), .own κr (textsD l.recs), .d (.lit (.bool l.halted))]
/-- Likewise, whatever its records are. -/
def encLgC (did : Nat) (c6 : CV) (l : Lg) : List CV :=
  [.ptr did 0, .d (.lit (.int .i64 l.from_)), .d (.lit (.int .i64 l.places)), .d (.lit (.int .i64 l.turn)), .d (.lit (.int .i64 l.base)), .d (.lit (.int .i64 l.used)), c6, .d (.lit (.bool l.halted))]
/-- A log lies there. -/
structure LgAt (H : HMap) (A : AMap) (lid did : Nat) (κr : Tok) (l : Lg) : Prop where
  h : H lid = some (encLg did κr l)
  r : A κr = some (.co 1 l.recs.length)

/-- What a slot's sector tells. -/
def TellCase (s : List UInt8) (t b : Nat) : Prop := (unsealB s = some ([83] ++ (uintB t ++ uintB b)) ∧ t ≤ 1099511627776 ∧ b ≤ t) ∨ ((unsealB s = some [] ∨ unsealB s = none) ∧ t = 0 ∧ b = 0)
section wal
variable {H : HMap} {A : AMap} {lid did : Nat} {κm κc κr : Tok} {d : Dk} {l : Lg}
set_option maxRecDepth 8000 in
set_option maxHeartbeats 16000000 in
theorem Try.kTells {c6 : CV} (off : Nat) (hw : Wf H A) (hlh : H lid = some (encLgC did c6 l)) (hd : DkAt H A did κm κc d) (hn : 0 < d.n) (hcl : d.cache.length ≤ 1000000) (slot t b : Nat) (hin : l.from_ + slot < d.n) (hdn : d.n ≤ 4096) (hs : (rd d ((l.from_ + slot : Nat) : Int)).length ≤ 128) (hc : TellCase (rd d ((l.from_ + slot : Nat) : Int)) t b) :
    EffOK Try.prog 56 off H A [.c (.ptr lid 0), pD (.lit (.int .i64 slot))] (.tup [.c (.d (.lit (.int .i64 t))), .c (.d (.lit (.int .i64 b)))]) H A := by
  refine effr_ok (E := envOf Try.prog [55, 78, 79, 80, 81] off [] []) (envOf_ok Try.mixed) Try.func56 rfl Try.call56 (by kernel_rfl) (by exact Nat.le_of_ble_eq_true rfl) (fun hab => ?_)
  unfold encLgC at hlh
  have hadd : IntKind.i64.wrap ((l.from_ : Int) + (slot : Int)) = ((l.from_ + slot : Nat) : Int) := by rw [Go.IntWalk.i64_in _ (by omega)]; omega
  have hrt : dkRight d ((l.from_ + slot : Nat) : Int) = 0 := by unfold dkRight; rw [if_neg (by omega), if_neg (by omega)]
  have kr := Try.kRead (off + 1000) hw hd ((l.from_ + slot : Nat) : Int) hn hcl
  unfold readPV at kr
  rw [if_pos hrt] at kr
  generalize rd d ((l.from_ + slot : Nat) : Int) = s at *
  have ku := Try.kUnseal s (by omega)
  have hx : H (off + 40) = none := (hab _ (Nat.le_add_right _ _)).1
  rcases hc with ⟨h1, h2, h3⟩ | ⟨h1, rfl, rfl⟩
  · rw [h1] at ku
    simp only [optS] at ku
    have kb := Try.kBehind ([83] ++ (uintB t ++ uintB b)) [83]
    have hbe : behindL ([83] ++ (uintB t ++ uintB b)) [83] = some (uintB t ++ uintB b) := rfl
    unfold behRV at kb
    rw [hbe] at kb
    simp only at kb
    have l1 := uintB_len t
    have l2 := uintB_len b
    have kn := Try.kRdNew (id := off + 40) (off + 1000) hw (uintB t ++ uintB b) hx
    have hw1 : Wf (upd H (off + 40) (some (encRd ⟨uintB t ++ uintB b, 0, 0⟩))) A := Wf_upd hw (encRd_D _)
    have k1 := Try.kUint48 (H := upd H (off + 40) (some (encRd ⟨uintB t ++ uintB b, 0, 0⟩))) (A := A) (id := off + 40) (n := t) (res := t) (off + 1000) hw1 (upd_same _ _ _) rfl (by simp; omega) (.inl ⟨uintB b, rfl, by omega, rfl, rfl⟩)
    rw [upd_twice] at k1
    have hw2 : Wf (upd H (off + 40) (some (encRd ⟨uintB t ++ uintB b, 0 + (uintB t).length, 0⟩))) A := Wf_upd hw (encRd_D _)
    have k2 := Try.kUint48 (H := upd H (off + 40) (some (encRd ⟨uintB t ++ uintB b, 0 + (uintB t).length, 0⟩))) (A := A) (id := off + 40) (n := b) (res := b) (off + 1000) hw2 (upd_same _ _ _) rfl (by simp; omega) (.inl ⟨[], by simp, by omega, rfl, rfl⟩)
    rw [upd_twice] at k2
    have hw3 : Wf (upd H (off + 40) (some (encRd ⟨uintB t ++ uintB b, 0 + (uintB t).length + (uintB b).length, 0⟩))) A := Wf_upd hw (encRd_D _)
    have k3 := Try.kErr (H := upd H (off + 40) (some (encRd ⟨uintB t ++ uintB b, 0 + (uintB t).length + (uintB b).length, 0⟩))) (A := A) (off + 1000) hw3 (upd_same _ _ _)
    have k4 := Try.kLeft (H := upd H (off + 40) (some (encRd ⟨uintB t ++ uintB b, 0 + (uintB t).length + (uintB b).length, 0⟩))) (A := A) (off + 1000) hw3 (upd_same _ _ _) (by simp) (by simp; omega)
    have hz : (uintB t ++ uintB b).length - (0 + (uintB t).length + (uintB b).length) = 0 := by simp
    simp only at k3 k4
    rw [hz] at k4
    simp only [Nat.zero_add] at k1 k2 k3 k4
    have ha : ∀ x, Above (off + 1000) (upd H (off + 40) (some x)) A := fun x => Above_updH (Above_mono hab (by omega)) (by omega)
    have c1 : IntKind.i64.wrap (t : Int) = (t : Int) := Go.IntWalk.i64_in _ (by omega)
    have c2 : IntKind.i64.wrap (b : Int) = (b : Int) := Go.IntWalk.i64_in _ (by omega)
    have g1 : ((1099511627776 : Int) < (t : Int)) = False := eq_false (by omega)
    have g2 : ((t : Int) < (b : Int)) = False := eq_false (by omega)
    generalize uintB t = ut at *
    generalize uintB b = ub at *
    repeat' (first
     | with_reducible first | refine VC_seq fun K hK => ?_ | refine W_region ?_ | refine VC_block ?_ | refine VC_scope ?_ | refine VC_if ?_ | refine VC_skip ?_ | refine VC_exit ?_ | refine VC_ret ?_
     | (with_reducible first | refine G_not (fun h => ?_) (fun h => ?_) | refine G_cases (fun h => ?_) (fun h => ?_)) <;> (try simp only [h])
     | refine C_call rfl kr rfl (Above_mono hab (by omega)) ?_
     | refine C_pure ku rfl rfl (fun k => (hab _ (Nat.le_add_right _ _)).2 k) ?_
     | refine C_pure kb rfl rfl (fun k => (hab _ (Nat.le_add_right _ _)).2 k) ?_
     | refine C_call rfl kn rfl (Above_mono hab (by omega)) ?_
     | refine C_call rfl k1 rfl (ha _) ?_
     | refine C_call rfl k2 rfl (ha _) ?_
     | refine C_call rfl k3 rfl (ha _) ?_
     | refine C_call rfl k4 rfl (ha _) ?_
     | with_reducible first | (refine hK _ ?_; clear hK K) | (clear hK K; refine hK _ ?_; clear hK K) | (clear hK K; clear hK K; refine hK _ ?_; clear hK K) | (clear hK K; clear hK K; clear hK K; refine hK _ ?_; clear hK K)
     | (with_reducible refine todo ?_; simp +decide only [go_sem, hlh, hadd, zne, c1, c2, g1, g2]))
    exact RetR_same rfl wk_pair oks_pair hw (fun i hi => by show upd _ _ _ i = _; rw [upd_other _ _ (fun e => hi (by rw [e]; exact hx))]) (fun _ _ => rfl)
  · have kb := Try.kBehind [] [83]
    have hbe : behindL [] [83] = none := rfl
    unfold behRV at kb
    rw [hbe] at kb
    simp only at kb
    have kn := Try.kRdNew (id := off + 40) (off + 1000) hw [] hx
    have hw1 : Wf (upd H (off + 40) (some (encRd ⟨[], 0, 0⟩))) A := Wf_upd hw (encRd_D _)
    have k1 := Try.kUint48 (H := upd H (off + 40) (some (encRd ⟨[], 0, 0⟩))) (A := A) (id := off + 40) (n := 0) (res := 0) (off + 1000) hw1 (upd_same _ _ _) rfl (by simp) (.inr ⟨Nat.le_refl _, rfl, rfl⟩)
    rw [upd_twice] at k1
    have hw2 : Wf (upd H (off + 40) (some (encRd ⟨[], 0, 8⟩))) A := Wf_upd hw (encRd_D _)
    have k2 := Try.kUint48E (H := upd H (off + 40) (some (encRd ⟨[], 0, 8⟩))) (A := A) (id := off + 40) (off + 1000) hw2 (upd_same _ _ _) (by decide)
    have ha : ∀ x, Above (off + 1000) (upd H (off + 40) (some x)) A := fun x => Above_updH (Above_mono hab (by omega)) (by omega)
    rcases h1 with h1 | h1 <;> rw [h1] at ku <;> simp only [optS] at ku
    · repeat' (first
       | with_reducible first | refine VC_seq fun K hK => ?_ | refine W_region ?_ | refine VC_block ?_ | refine VC_scope ?_ | refine VC_if ?_ | refine VC_skip ?_ | refine VC_exit ?_ | refine VC_ret ?_
       | (with_reducible first | refine G_not (fun h => ?_) (fun h => ?_) | refine G_cases (fun h => ?_) (fun h => ?_)) <;> (try simp only [h])
       | refine C_call rfl kr rfl (Above_mono hab (by omega)) ?_
       | refine C_pure ku rfl rfl (fun k => (hab _ (Nat.le_add_right _ _)).2 k) ?_
       | refine C_pure kb rfl rfl (fun k => (hab _ (Nat.le_add_right _ _)).2 k) ?_
       | refine C_call rfl kn rfl (Above_mono hab (by omega)) ?_
       | refine C_call rfl k1 rfl (ha _) ?_
       | refine C_call rfl k2 rfl (ha _) ?_
       | with_reducible first | (refine hK _ ?_; clear hK K) | (clear hK K; refine hK _ ?_; clear hK K) | (clear hK K; clear hK K; refine hK _ ?_; clear hK K) | (clear hK K; clear hK K; clear hK K; refine hK _ ?_; clear hK K)
       | (with_reducible refine todo ?_; simp +decide only [go_sem, hlh, hadd]))
      exact RetR_same rfl wk_pair oks_pair hw (fun i hi => by show upd _ _ _ i = _; rw [upd_other _ _ (fun e => hi (by rw [e]; exact hx))]) (fun _ _ => rfl)
    · repeat' (first
       | with_reducible first | refine VC_seq fun K hK => ?_ | refine W_region ?_ | refine VC_block ?_ | refine VC_scope ?_ | refine VC_if ?_ | refine VC_skip ?_ | refine VC_exit ?_ | refine VC_ret ?_
       | (with_reducible first | refine G_not (fun h => ?_) (fun h => ?_) | refine G_cases (fun h => ?_) (fun h => ?_)) <;> (try simp only [h])
       | refine C_call rfl kr rfl (Above_mono hab (by omega)) ?_
       | refine C_pure ku rfl rfl (fun k => (hab _ (Nat.le_add_right _ _)).2 k) ?_
       | refine C_pure kb rfl rfl (fun k => (hab _ (Nat.le_add_right _ _)).2 k) ?_
       | refine C_call rfl kn rfl (Above_mono hab (by omega)) ?_
       | refine C_call rfl k1 rfl (ha _) ?_
       | refine C_call rfl k2 rfl (ha _) ?_
       | with_reducible first | (refine hK _ ?_; clear hK K) | (clear hK K; refine hK _ ?_; clear hK K) | (clear hK K; clear hK K; refine hK _ ?_; clear hK K) | (clear hK K; clear hK K; clear hK K; refine hK _ ?_; clear hK K)
       | (with_reducible refine todo ?_; simp +decide only [go_sem, hlh, hadd]))
      exact RetR_same rfl wk_pair oks_pair hw (fun i hi => by show upd _ _ _ i = _; rw [upd_other _ _ (fun e => hi (by rw [e]; exact hx))]) (fun _ _ => rfl)
end wal
end Go.Proofs

/-
  The log: what is wrong with it, what fits, what it counts.
-/

namespace Go.Proofs
open Go.PW
section wal
variable {H : HMap} {A : AMap} {lid did : Nat} {κm κc κr : Tok} {d : Dk} {l : Lg}
set_option maxRecDepth 8000 in
set_option maxHeartbeats 8000000 in
theorem Try.kState (off : Nat) (hw : Wf H A) (hl : LgAt H A lid did κr l) (hh : l.halted = false) : EffOK Try.prog 64 off H A [.c (.ptr lid 0)] (pD (.lit (.int .i64 0))) H A := by
  refine effr_ok (E := envOf Try.prog [] off [] []) (envOf_ok Try.mixed) Try.func64 rfl Try.call64 (by kernel_rfl) (by exact Nat.le_of_ble_eq_true rfl) (fun hab => ?_)
  have hlh := hl.h
  unfold encLg at hlh
  rw [hh] at hlh
  repeat' (first
   | with_reducible first | refine VC_seq fun K hK => ?_ | refine W_region ?_ | refine VC_block ?_ | refine VC_scope ?_ | refine VC_if ?_ | refine VC_skip ?_ | refine VC_exit ?_ | refine VC_ret ?_
   | (with_reducible first | refine G_not (fun h => ?_) (fun h => ?_) | refine G_cases (fun h => ?_) (fun h => ?_)) <;> (try simp only [h])
   | with_reducible first | (refine hK _ ?_; clear hK K) | (clear hK K; refine hK _ ?_; clear hK K) | (clear hK K; clear hK K; refine hK _ ?_; clear hK K) | (clear hK K; clear hK K; clear hK K; refine hK _ ?_; clear hK K)
   | (with_reducible refine todo ?_; simp +decide only [go_sem, hlh]))
  exact RetR_same rfl (by simp +decide only [go_sem]) True.intro hw kp_refl (fun _ _ => rfl)
set_option maxRecDepth 8000 in
set_option maxHeartbeats 8000000 in
theorem Try.kStateH (off : Nat) (hw : Wf H A) (hl : LgAt H A lid did κr l) (hh : l.halted = true) : EffOK Try.prog 64 off H A [.c (.ptr lid 0)] (pD (.lit (.int .i64 6))) H A := by
  refine effr_ok (E := envOf Try.prog [] off [] []) (envOf_ok Try.mixed) Try.func64 rfl Try.call64 (by kernel_rfl) (by exact Nat.le_of_ble_eq_true rfl) (fun hab => ?_)
  have hlh := hl.h
  unfold encLg at hlh
  rw [hh] at hlh
  repeat' (first
   | with_reducible first | refine VC_seq fun K hK => ?_ | refine W_region ?_ | refine VC_block ?_ | refine VC_scope ?_ | refine VC_if ?_ | refine VC_skip ?_ | refine VC_exit ?_ | refine VC_ret ?_
   | (with_reducible first | refine G_not (fun h => ?_) (fun h => ?_) | refine G_cases (fun h => ?_) (fun h => ?_)) <;> (try simp only [h])
   | with_reducible first | (refine hK _ ?_; clear hK K) | (clear hK K; refine hK _ ?_; clear hK K) | (clear hK K; clear hK K; refine hK _ ?_; clear hK K) | (clear hK K; clear hK K; clear hK K; refine hK _ ?_; clear hK K)
   | (with_reducible refine todo ?_; simp +decide only [go_sem, hlh]))
  exact RetR_same rfl (by simp +decide only [go_sem]) True.intro hw kp_refl (fun _ _ => rfl)
/-- How many places a record of so many bytes takes. -/
def needN (n : Nat) : Nat := max 1 ((n + 99) / 100)
set_option maxRecDepth 8000 in
set_option maxHeartbeats 8000000 in
theorem Try.kFits (off : Nat) (hw : Wf H A) (hl : LgAt H A lid did κr l) (n : Nat) (hn : n ≤ 100000) (h1 : l.used ≤ l.places) (h2 : l.places ≤ 1000) : EffOK Try.prog 39 off H A [.c (.ptr lid 0), pD (.lit (.int .i64 n))] (pD (.lit (.bool (decide (l.used + needN n ≤ l.places))))) H A := by
  refine effr_ok (E := envOf Try.prog [] off [] []) (envOf_ok Try.mixed) Try.func39 rfl Try.call39 (by kernel_rfl) (by exact Nat.le_of_ble_eq_true rfl) (fun hab => ?_)
  have hlh := hl.h
  unfold encLg at hlh
  have c1 : ((n : Int) < 0) = False := eq_false (by omega)
  have c2 : ((100000 : Int) < (n : Int)) = False := eq_false (by omega)
  have e1 : IntKind.i64.wrap ((n : Int) + 100) = ((n + 100 : Nat) : Int) := Go.IntWalk.i64_in _ (by omega)
  have e2 : IntKind.i64.wrap (((n + 100 : Nat) : Int) - 1) = ((n + 99 : Nat) : Int) := by rw [Go.IntWalk.i64_in _ (by omega)]; omega
  have e3 : IntKind.i64.wrap (Int.tdiv ((n + 99 : Nat) : Int) 100) = (((n + 99) / 100 : Nat) : Int) := by rw [show Int.tdiv ((n + 99 : Nat) : Int) 100 = (((n + 99) / 100 : Nat) : Int) from tdiv_nat (n + 99) 100, Go.IntWalk.i64_in _ (by omega)]
  have e4 : IntKind.i64.wrap ((l.places : Int) - (l.used : Int)) = ((l.places - l.used : Nat) : Int) := by rw [Go.IntWalk.i64_in _ (by omega)]; omega
  have e5 : (if (((n + 99) / 100 : Nat) : Int) > 1 then (((n + 99) / 100 : Nat) : Int) else 1) = ((needN n : Nat) : Int) := by
    unfold needN
    split <;> omega
  have e6 : decide (l.used + needN n ≤ l.places) = decide (((needN n : Nat) : Int) ≤ ((l.places - l.used : Nat) : Int)) := by
    have : needN n ≥ 1 := Nat.le_max_left _ _
    rw [decide_eq_decide]
    omega
  rw [e6]
  repeat' (first
   | with_reducible first | refine VC_seq fun K hK => ?_ | refine W_region ?_ | refine VC_block ?_ | refine VC_scope ?_ | refine VC_if ?_ | refine VC_skip ?_ | refine VC_exit ?_ | refine VC_ret ?_
   | (with_reducible first | refine G_not (fun h => ?_) (fun h => ?_) | refine G_cases (fun h => ?_) (fun h => ?_)) <;> (try simp only [h])
   | with_reducible first | (refine hK _ ?_; clear hK K) | (clear hK K; refine hK _ ?_; clear hK K) | (clear hK K; clear hK K; refine hK _ ?_; clear hK K) | (clear hK K; clear hK K; clear hK K; refine hK _ ?_; clear hK K)
   | (with_reducible refine todo ?_; simp +decide only [go_sem, hlh, c1, c2, e1, e2, e3, e4, e5]))
  exact RetR_same rfl (by simp +decide only [go_sem]) True.intro hw kp_refl (fun _ _ => rfl)
end wal
end Go.Proofs

/-
  The log: notes, records, the next turn.
-/

namespace Go.PW
/-- The end of what has changed variables and arrays: all is as it stands. -/
theorem RetR_eq {P : Program} {fn : Func} {H : HMap} {A : AMap} {v p : PV} {H' : HMap} {A' : AMap} {S : St} (hp : resPVs P S fn.results.toList = some p) (hv : PV.wk H' A' A' v p) (hok : v.oks (fun i => H' i ≠ none) (fun κ => A' κ ≠ none)) (hw : Wf H' A')
    (h1 : ∀ i, H' i ≠ none → S.H i = H' i) (h2 : S.A = A') (kH : ∀ id, H id ≠ none → H' id ≠ none) (kA : ∀ κ, A κ ≠ none → A' κ ≠ none) : RetR P fn H A v H' A' S := by
  subst h2
  exact RetR_of hp hv hok hw (fun i cs hi => ⟨cs, by rw [h1 i (by rw [hi]; simp), hi], wkC_same fun c hc => ok_mono (fun _ h => h) (fun κ h => ⟨h, rfl⟩) (hw i cs c hi hc)⟩) (fun κ => .inr (.inl rfl)) kH kA
theorem upd_keepH {H : HMap} {u : Nat} {cs : List CV} : ∀ i, H i ≠ none → upd H u (some cs) i ≠ none := fun i hi => by
  rw [upd_apply']; split
  · simp
  · exact hi
end Go.PW
namespace Go.Proofs
open Go.PW
theorem Try.appT : AppT Try.prog 28 9 1 16 := ⟨Try.underlying28, Try.cl9, Try.by9, Try.zo9, by decide, by decide⟩
theorem szd_texts (l : List (List UInt8)) : Szd 1 (textsD l) := fun e he => by
  obtain ⟨w, _, rfl⟩ := List.mem_map.1 he
  rfl
section wal
variable {H : HMap} {A : AMap} {lid did : Nat} {κm κc κr κ' : Tok} {d : Dk} {l : Lg}
theorem LgAt.ne (hl : LgAt H A lid did κr l) (hd : DkAt H A did κm κc d) : lid ≠ did := fun e => by
  have h1 := hl.h
  rw [e, hd.h] at h1
  have := congrArg List.length (Option.some.inj h1)
  cases this
theorem LgAt.nc (hl : LgAt H A lid did κr l) (hd : DkAt H A did κm κc d) : κr ≠ κc := fun e => by
  have h1 := hl.r
  rw [e, hd.c] at h1
  cases h1
theorem LgAt.nm (hl : LgAt H A lid did κr l) (hd : DkAt H A did κm κc d) : κr ≠ κm := fun e => by
  have h1 := hl.r
  rw [e, hd.m] at h1
  cases h1
theorem LgAt.lt (hl : LgAt H A lid did κr l) {off : Nat} (hab : Above off H A) : lid < off ∧ κr.1 < off := by
  refine ⟨?_, ?_⟩
  · refine Nat.lt_of_not_le fun h => ?_
    have := hl.h; rw [(hab lid h).1] at this; cases this
  · refine Nat.lt_of_not_le fun h => ?_
    have := hl.r; rw [(hab κr.1 h).2 κr.2] at this; cases this
theorem LgAt.ok (hdid : H did ≠ none) (hr : A κr ≠ none) : ∀ c ∈ encLg did κr l, c.ok (fun i => H i ≠ none) (fun κ => A κ ≠ none) := fun c h => by
  simp only [encLg, List.mem_cons, List.not_mem_nil, or_false] at h
  rcases h with rfl | rfl | rfl | rfl | rfl | rfl | rfl | rfl <;> first | exact True.intro | exact hdid | exact hr
set_option maxRecDepth 8000 in
set_option maxHeartbeats 8000000 in
theorem Try.kTook (off : Nat) (hw : Wf H A) (hl : LgAt H A lid did κr l) (hdid : H did ≠ none) (e : Int) : EffOK Try.prog 66 off H A [.c (.ptr lid 0), pD (.lit (.int .i64 e))] (pD (.lit (.int .i64 e))) (upd H lid (some (encLg did κr { l with halted := l.halted || e != 0 }))) A := by
  refine effr_ok (E := envOf Try.prog [] off [] []) (envOf_ok Try.mixed) Try.func66 rfl Try.call66 (by kernel_rfl) (by exact Nat.le_of_ble_eq_true rfl) (fun hab => ?_)
  have hlh := hl.h
  unfold encLg at hlh
  have hend : Wf (upd H lid (some (encLg did κr { l with halted := l.halted || e != 0 }))) A := Wf_set hw (LgAt.ok (upd_keepH _ hdid) (by rw [hl.r]; simp)) (fun _ h => h)
  cases hh : l.halted with
  | true =>
    rw [hh] at hlh hend
    repeat' (first
     | with_reducible first | refine VC_seq fun K hK => ?_ | refine W_region ?_ | refine VC_block ?_ | refine VC_scope ?_ | refine VC_if ?_ | refine VC_skip ?_ | refine VC_exit ?_ | refine VC_ret ?_
     | (with_reducible first | refine G_not (fun h => ?_) (fun h => ?_) | refine G_cases (fun h => ?_) (fun h => ?_)) <;> (try simp only [h])
     | with_reducible first | (refine hK _ ?_; clear hK K) | (clear hK K; refine hK _ ?_; clear hK K) | (clear hK K; clear hK K; refine hK _ ?_; clear hK K) | (clear hK K; clear hK K; clear hK K; refine hK _ ?_; clear hK K)
     | (with_reducible refine todo ?_; simp +decide only [go_sem, hlh]))
    refine RetR_eq rfl (wk_c (.inr (.inl ⟨rfl, True.intro⟩))) True.intro hend ?_ rfl upd_keepH (fun _ h => h)
    intro i _
    simp +decide only [go_sem, encLg]
  | false =>
    rw [hh] at hlh hend
    repeat' (first
     | with_reducible first | refine VC_seq fun K hK => ?_ | refine W_region ?_ | refine VC_block ?_ | refine VC_scope ?_ | refine VC_if ?_ | refine VC_skip ?_ | refine VC_exit ?_ | refine VC_ret ?_
     | (with_reducible first | refine G_not (fun h => ?_) (fun h => ?_) | refine G_cases (fun h => ?_) (fun h => ?_)) <;> (try simp only [h])
     | with_reducible first | (refine hK _ ?_; clear hK K) | (clear hK K; refine hK _ ?_; clear hK K) | (clear hK K; clear hK K; refine hK _ ?_; clear hK K) | (clear hK K; clear hK K; clear hK K; refine hK _ ?_; clear hK K)
     | (with_reducible refine todo ?_; simp +decide only [go_sem, hlh]))
    refine RetR_eq rfl (wk_c (.inr (.inl ⟨rfl, True.intro⟩))) True.intro hend ?_ rfl upd_keepH (fun _ h => h)
    intro i _
    simp +decide only [go_sem, encLg]
set_option maxRecDepth 8000 in
set_option maxHeartbeats 8000000 in
theorem Try.kRecords (off : Nat) (hw : Wf H A) (hl : LgAt H A lid did κr l) (hb : l.recs.length ≤ 1000000) : EffOK Try.prog 59 off H A [.c (.ptr lid 0)] (.c (.d (.sl (textsD l.recs)))) H A := by
  refine effr_ok (E := envOf Try.prog [] off [] []) (envOf_ok Try.mixed) Try.func59 rfl Try.call59 (by kernel_rfl) (by exact Nat.le_of_ble_eq_true rfl) (fun hab => ?_)
  have hlh := hl.h
  unfold encLg at hlh
  have hll : (textsD l.recs).length = l.recs.length := by simp [textsD]
  have hap : [] ++ textsD l.recs = textsD l.recs := rfl
  repeat' (first
   | with_reducible first | refine VC_seq fun K hK => ?_ | refine W_region ?_ | refine VC_block ?_ | refine VC_scope ?_ | refine VC_if ?_ | refine VC_skip ?_ | refine VC_exit ?_ | refine VC_ret ?_
   | (with_reducible first | refine G_not (fun h => ?_) (fun h => ?_) | refine G_cases (fun h => ?_) (fun h => ?_)) <;> (try simp only [h])
   | (refine W_full Try.appT rfl rfl szNil (szd_texts _) (by rw [hll]; simp only [List.length_nil]; omega) ((hab _ (Nat.le_add_right _ _)).2 _) ?_)
   | with_reducible first | (refine hK _ ?_; clear hK K) | (clear hK K; refine hK _ ?_; clear hK K) | (clear hK K; clear hK K; refine hK _ ?_; clear hK K) | (clear hK K; clear hK K; clear hK K; refine hK _ ?_; clear hK K)
   | (with_reducible refine todo ?_; simp +decide only [go_sem, hlh, hap]))
  refine RetR_same rfl (by simp +decide only [go_sem]) True.intro hw kp_refl (fun κ hκ => ?_)
  show upd _ _ _ κ = _
  rw [upd_other _ _ (fun e => hκ (by rw [e]; exact (hab _ (Nat.le_add_right _ _)).2 _))]
end wal
end Go.Proofs

/-
  The log: the next turn.
-/

namespace Go.Proofs
open Go.PW
def turnB (t b : Nat) : List UInt8 := sealB ([83] ++ uintB t ++ uintB b)
/-- The disk behind a turn that was begun. -/
def nextD (d : Dk) (from_ t b : Nat) : Dk := flD (wrD d ((from_ + t % 2 : Nat) : Int) (turnB t b))
section wal
variable {H : HMap} {A : AMap} {lid did : Nat} {κm κc κr κ' : Tok} {d : Dk} {l : Lg}
set_option maxRecDepth 8000 in
set_option maxHeartbeats 16000000 in
theorem Try.kNext (off : Nat) (hw : Wf H A) (hl : LgAt H A lid did κr l) (hd : DkAt H A did κm κc d) (b : Nat) (hb : b < 9223372036854775808) (ht : l.turn + 1 < 9223372036854775808) (hin : l.from_ + 1 < d.n) (hdn : d.n ≤ 4096) (hcl : d.cache.length + 1 ≤ 1000000)
    (hb1 : burnt d = false) (hb2 : burnt (wrD d ((l.from_ + (l.turn + 1) % 2 : Nat) : Int) (turnB (l.turn + 1) b)) = false) (hκ : A κ' = none) :
    EffOK Try.prog 58 off H A [.c (.ptr lid 0), pD (.lit (.int .i64 b))] (pD (.lit (.int .i64 0)))
      (upd (upd H did (some (encDk κm κ' (nextD d l.from_ (l.turn + 1) b)))) lid (some (encLg did κr { l with turn := l.turn + 1, base := b })))
      (upd (upd (upd A κc (some (.co 2 (d.cache.length + 1)))) κm (some (.mp (encNS (nextD d l.from_ (l.turn + 1) b).stays)))) κ' (some (.co 2 0))) := by
  refine effr_ok (E := envOf Try.prog [67, 71] off [] []) (envOf_ok Try.mixed) Try.func58 rfl Try.call58 (by kernel_rfl) (by exact Nat.le_of_ble_eq_true rfl) (fun hab => ?_)
  have hlh := hl.h
  unfold encLg at hlh
  have hne := hl.ne hd
  have hnc := hl.nc hd
  have hnm := hl.nm hd
  have hlt := hd.lt hab
  have hlt2 := hl.lt hab
  have hid := hd.h
  have c1 : IntKind.i64.wrap ((l.turn : Int) + 1) = ((l.turn + 1 : Nat) : Int) := Go.IntWalk.i64_in _ (by omega)
  have c2 : Int.tmod ((l.turn + 1 : Nat) : Int) 2 = (((l.turn + 1) % 2 : Nat) : Int) := tmod_nat (l.turn + 1) 2
  have c3 : IntKind.i64.wrap ((l.from_ : Int) + (((l.turn + 1) % 2 : Nat) : Int)) = ((l.from_ + (l.turn + 1) % 2 : Nat) : Int) := by rw [Go.IntWalk.i64_in _ (by omega)]; omega
  have kn1 := Try.kNumber (l.turn + 1) ht
  have kn2 := Try.kNumber b hb
  have l1 := uintB_len (l.turn + 1)
  have l2 := uintB_len b
  have ks := Try.kSeal ([83] ++ uintB (l.turn + 1) ++ uintB b) (by simp; omega)
  have hwe : writeE d ((l.from_ + (l.turn + 1) % 2 : Nat) : Int) (turnB (l.turn + 1) b) = 0 := by
    have h1 : dkRight d ((l.from_ + (l.turn + 1) % 2 : Nat) : Int) = 0 := by unfold dkRight; rw [if_neg (by omega), if_neg (by omega)]
    have h2 : (turnB (l.turn + 1) b).length ≤ 128 := sealB_len _
    unfold writeE
    rw [if_neg (by simpa using h1), if_neg (by omega), hb1]
    rfl
  have kw := Try.kWrite (off + 1000) hw hd ((l.from_ + (l.turn + 1) % 2 : Nat) : Int) (turnB (l.turn + 1) b) (by omega) (by omega) hwe
  have hw1 := DkAt.wf (d' := wrD d ((l.from_ + (l.turn + 1) % 2 : Nat) : Int) (turnB (l.turn + 1) b)) hw hd (A' := upd A κc (some (.co 2 (d.cache.length + 1)))) upd_keep
  have hd1 : DkAt (upd H did (some (encDk κm κc (wrD d ((l.from_ + (l.turn + 1) % 2 : Nat) : Int) (turnB (l.turn + 1) b))))) (upd A κc (some (.co 2 (d.cache.length + 1)))) did κm κc (wrD d ((l.from_ + (l.turn + 1) % 2 : Nat) : Int) (turnB (l.turn + 1) b)) :=
    ⟨upd_same _ _ _, by rw [upd_other _ _ hd.ne.symm]; exact hd.m, by rw [upd_same]; simp [wrD]⟩
  have hκ1 : upd A κc (some (.co 2 (d.cache.length + 1))) κ' = none := by rw [upd_other _ _ (fun e => by rw [e, hd.c] at hκ; cases hκ)]; exact hκ
  have kf := Try.kFlush (κ' := κ') (off + 1000) hw1 hd1 (by show 0 < d.n; omega) (by simp [wrD]; omega) hb2 hκ1
  have hnx : flD (wrD d ((l.from_ + (l.turn + 1) % 2 : Nat) : Int) (turnB (l.turn + 1) b)) = nextD d l.from_ (l.turn + 1) b := rfl
  rw [hnx] at kf
  have htb : sealB ([83] ++ uintB (l.turn + 1) ++ uintB b) = turnB (l.turn + 1) b := rfl
  rw [htb] at ks
  have hm : Above (off + 1000) (upd H did (some (encDk κm κc (wrD d ((l.from_ + (l.turn + 1) % 2 : Nat) : Int) (turnB (l.turn + 1) b))))) (upd A κc (some (.co 2 (d.cache.length + 1)))) := Above_updA (Above_updH (Above_mono hab (by omega)) (by omega)) (by omega)
  have kA2 : ∀ κ, A κ ≠ none → upd (upd (upd A κc (some (.co 2 (d.cache.length + 1)))) κm (some (.mp (encNS (nextD d l.from_ (l.turn + 1) b).stays)))) κ' (some (.co 2 0)) κ ≠ none := fun κ h => upd_keep _ (upd_keep _ (upd_keep _ h))
  have hwE : Wf (upd (upd H did (some (encDk κm κ' (nextD d l.from_ (l.turn + 1) b)))) lid (some (encLg did κr { l with turn := l.turn + 1, base := b }))) (upd (upd (upd A κc (some (.co 2 (d.cache.length + 1)))) κm (some (.mp (encNS (nextD d l.from_ (l.turn + 1) b).stays)))) κ' (some (.co 2 0))) := by
    refine Wf_set (A := upd (upd (upd A κc (some (.co 2 (d.cache.length + 1)))) κm (some (.mp (encNS (nextD d l.from_ (l.turn + 1) b).stays)))) κ' (some (.co 2 0))) (Wf_set hw (DkAt.ok (kA2 κm (by rw [hd.m]; simp)) (by rw [upd_same]; simp)) kA2) (LgAt.ok (upd_keepH _ (by rw [upd_same]; simp)) (kA2 κr (by rw [hl.r]; simp))) (fun _ h => h)
  generalize hD : nextD d l.from_ (l.turn + 1) b = dn at *
  generalize hW : wrD d ((l.from_ + (l.turn + 1) % 2 : Nat) : Int) (turnB (l.turn + 1) b) = dw at *
  generalize turnB (l.turn + 1) b = tb at *
  generalize uintB (l.turn + 1) = u1 at *
  generalize uintB b = u2 at *
  have s1 : (1 + u1.length ≤ 9223372036854775807) = True := eq_true (by omega)
  have s2 : (u1.length + 1 + u2.length ≤ 9223372036854775807) = True := eq_true (by omega)
  repeat' (first
   | with_reducible first | refine VC_seq fun K hK => ?_ | refine W_region ?_ | refine VC_block ?_ | refine VC_scope ?_ | refine VC_if ?_ | refine VC_skip ?_ | refine VC_exit ?_ | refine VC_ret ?_
   | (with_reducible first | refine G_not (fun h => ?_) (fun h => ?_) | refine G_cases (fun h => ?_) (fun h => ?_)) <;> (try simp only [h])
   | refine C_pure kn1 rfl rfl (fun k => (hab _ (Nat.le_add_right _ _)).2 k) ?_
   | refine C_pure kn2 rfl rfl (fun k => (hab _ (Nat.le_add_right _ _)).2 k) ?_
   | refine C_pure ks rfl rfl (fun k => (hab _ (Nat.le_add_right _ _)).2 k) ?_
   | refine C_call rfl kw rfl (Above_mono hab (by omega)) ?_
   | refine C_call rfl kf rfl hm ?_
   | with_reducible first | (refine hK _ ?_; clear hK K) | (clear hK K; refine hK _ ?_; clear hK K) | (clear hK K; clear hK K; refine hK _ ?_; clear hK K) | (clear hK K; clear hK K; clear hK K; refine hK _ ?_; clear hK K)
   | (with_reducible refine todo ?_; simp +decide only [go_sem, hlh, c1, c2, c3, zne, s1, s2, hne]))
  refine RetR_eq rfl (wk_c (.inr (.inl ⟨rfl, True.intro⟩))) True.intro hwE ?_ rfl (fun i h => upd_keepH i (upd_keepH i h)) kA2
  intro i _
  show upd (upd (upd (upd H did _) did _) lid _) lid _ i = _
  by_cases e : i = lid
  · subst e
    rw [upd_same, upd_same]
    rfl
  · rw [upd_other _ _ e, upd_other _ _ e, upd_other _ _ e]
    by_cases e2 : i = did
    · subst e2
      rw [upd_same, upd_same]
    · rw [upd_other _ _ e2, upd_other _ _ e2, upd_other _ _ e2]
end wal
end Go.Proofs
