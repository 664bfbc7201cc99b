import Derived.Test.YtkifoeiilkhnhaaQ23

/-
  The log: what a place has that was written.
-/

namespace Go.Proofs
open Go.PW
theorem behindL_app (h r : List UInt8) : behindL (h ++ r) h = some r := by
  unfold behindL
  rw [List.take_left, if_pos rfl, List.drop_left]
theorem headL_one (t i : Nat) (r : List UInt8) : behindL (headL t i 0 ++ r) (headL t i 1) = none := by
  have hl : (headL t i 1).length = (headL t i 0).length := by
    simp only [headL, List.length_append]
    rfl
  unfold behindL
  rw [hl, List.take_left, if_neg]
  intro e
  unfold headL at e
  have := List.append_cancel_left e
  cases this
section wal
variable {H : HMap} {A : AMap} {lid did : Nat} {κm κc κr : Tok} {d : Dk} {l : Lg}
set_option maxRecDepth 8000 in
set_option maxHeartbeats 32000000 in
theorem Try.kAtP (off : Nat) (hw : Wf H A) (hl : LgAt H A lid did κr l) (hd : DkAt H A did κm κc d) (hcl : d.cache.length ≤ 1000000) (i : Nat) (hin : l.from_ + 2 + i < d.n) (hdn : d.n ≤ 4096) (hs : (rd d ((l.from_ + 2 + i : Nat) : Int)).length ≤ 128)
    (t : Nat) (sm pt : List UInt8) (more : Bool) (ht : t ≤ 1099511627776) (hsm : sm.length = 4) (hpt : pt.length ≤ 100) (hpm : more = true → pt.length = 100)
    (hc : unsealB (rd d ((l.from_ + 2 + i : Nat) : Int)) = some (headL t i (if more = true then 1 else 0) ++ (sm ++ pt))) :
    EffOK Try.prog 82 off H A [.c (.ptr lid 0), pD (.lit (.int .i64 i))] (pieceV t sm pt more true) H A := by
  refine effr_ok (E := envOf Try.prog [55, 78, 79, 80] off [] [19004]) (envOf_ok Try.mixed) Try.func82 rfl Try.call82 (by kernel_rfl) (by exact Nat.le_of_ble_eq_true rfl) (fun hab => ?_)
  have hlh := hl.h
  unfold encLg at hlh
  have hlt := hd.lt hab
  have hlt2 := hl.lt hab
  have n4 : lid ≠ off + 4 := by omega
  have nd4 : did ≠ off + 4 := by omega
  have hx4 : H (off + 4) = none := (hab _ (Nat.le_add_right _ _)).1
  have hx17 : H (off + 17) = none := (hab _ (Nat.le_add_right _ _)).1
  have hx47 : H (off + 47) = none := (hab _ (Nat.le_add_right _ _)).1
  have c1 : IntKind.i64.wrap ((l.from_ : Int) + 2) = ((l.from_ + 2 : Nat) : Int) := Go.IntWalk.i64_in _ (by omega)
  have c2 : IntKind.i64.wrap (((l.from_ + 2 : Nat) : Int) + (i : Int)) = ((l.from_ + 2 + i : Nat) : Int) := by rw [Go.IntWalk.i64_in _ (by omega)]; omega
  have c3 : IntKind.i64.wrap (t : Int) = (t : Int) := Go.IntWalk.i64_in _ (by omega)
  have g1 : ((1099511627776 : Int) < (t : Int)) = False := eq_false (by omega)
  have hrt : dkRight d ((l.from_ + 2 + i : Nat) : Int) = 0 := by unfold dkRight; rw [if_neg (by omega), if_neg (by omega)]
  have hw4 : Wf (upd H (off + 4) (some (pieceC 0 [] [] false))) A := Wf_upd hw rfl
  have kr := Try.kRead (off + 1000) hw4 (hd.updH nd4) ((l.from_ + 2 + i : Nat) : Int) (by omega) hcl
  unfold readPV at kr
  rw [if_pos hrt] at kr
  generalize rd d ((l.from_ + 2 + i : Nat) : Int) = s at *
  have ku := Try.kUnseal s (by omega)
  have hm4 : Above (off + 1000) (upd H (off + 4) (some (pieceC 0 [] [] false))) A := Above_updH (Above_mono hab (by omega)) (by omega)
  rw [hc] at ku
  simp only [optS] at ku
  have kb := Try.kBehind (headL t i (if more = true then 1 else 0) ++ (sm ++ pt)) [76]
  have hbe : behindL (headL t i (if more = true then 1 else 0) ++ (sm ++ pt)) [76] = some (uintB t ++ (uintB i ++ uintB (if more = true then 1 else 0) ++ (sm ++ pt))) := by
    have : headL t i (if more = true then 1 else 0) ++ (sm ++ pt) = [76] ++ (uintB t ++ (uintB i ++ uintB (if more = true then 1 else 0) ++ (sm ++ pt))) := by simp [headL]
    rw [this, behindL_app]
  unfold behRV at kb
  rw [hbe] at kb
  simp only at kb
  have hy47 : upd H (off + 4) (some (pieceC 0 [] [] false)) (off + 47) = none := by rw [upd_other _ _ (by omega)]; exact hx47
  have l1 := uintB_len t
  have l2 := uintB_len i
  have l3 := uintB_len (if more = true then 1 else 0)
  generalize hR : uintB i ++ uintB (if more = true then 1 else 0) ++ (sm ++ pt) = R at *
  have lR : R.length ≤ 126 := by rw [← hR]; simp; omega
  have kn := Try.kRdNew (id := off + 47) (off + 1000) hw4 (uintB t ++ R) hy47
  have hw5 : Wf (upd (upd H (off + 4) (some (pieceC 0 [] [] false))) (off + 47) (some (encRd ⟨uintB t ++ R, 0, 0⟩))) A := Wf_upd hw4 (encRd_D _)
  have k1 := Try.kUint48 (H := upd (upd H (off + 4) (some (pieceC 0 [] [] false))) (off + 47) (some (encRd ⟨uintB t ++ R, 0, 0⟩))) (A := A) (id := off + 47) (n := t) (res := t) (off + 1000) hw5 (upd_same _ _ _) rfl (by simp; omega) (.inl ⟨R, rfl, by omega, rfl, rfl⟩)
  rw [upd_twice] at k1
  simp only [Nat.zero_add] at k1
  have hw6 : Wf (upd (upd H (off + 4) (some (pieceC 0 [] [] false))) (off + 47) (some (encRd ⟨uintB t ++ R, (uintB t).length, 0⟩))) A := Wf_upd hw4 (encRd_D _)
  have k2 := Try.kErr (H := upd (upd H (off + 4) (some (pieceC 0 [] [] false))) (off + 47) (some (encRd ⟨uintB t ++ R, (uintB t).length, 0⟩))) (A := A) (off + 1000) hw6 (upd_same _ _ _)
  simp only at k2
  have kh1 := Try.kHead t i 1 (by omega) (by omega) (by omega)
  have kh0 := Try.kHead t i 0 (by omega) (by omega) (by omega)
  have e47 : (off + 4 = off + 47) = False := eq_false (by omega)
  have e17 : (off + 17 = off + 47) = False := eq_false (by omega)
  have e174 : (off + 17 = off + 4) = False := eq_false (by omega)
  have e417 : (off + 4 = off + 17) = False := eq_false (by omega)
  have q4 : (sm ++ pt).length = 4 + pt.length := by rw [List.length_append, hsm]
  have qq : (((4 + pt.length : Nat) : Int) < 4) = False := eq_false (by omega)
  have q100 : ((pt.length : Int) ≤ 100) = True := eq_true (by omega)
  have ha : ∀ x, Above (off + 1000) (upd (upd H (off + 4) (some (pieceC 0 [] [] false))) (off + 47) (some x)) A := fun x => Above_updH hm4 (by omega)
  have m4 : 19004 % 1000 = 4 := rfl
  have b1 : ([off + 4] : List Nat).contains (off + 17) = false := by simp
  have b2 : ([off + 4] : List Nat).contains (off + 4) = true := by simp
  have ft : List.take (4 - 0) (sm ++ pt) = sm := by rw [show 4 - 0 = sm.length by omega, List.take_left]
  have fp : List.take (4 + pt.length - 4) (List.drop 4 (sm ++ pt)) = pt := by
    rw [show List.drop 4 (sm ++ pt) = pt by rw [← hsm, List.drop_left], show 4 + pt.length - 4 = pt.length by omega, List.take_length]
  generalize uintB t = ut at *
  cases more with
  | true =>
    simp only [if_true] at kb ku
    have kc := Try.kBehind (headL t i 1 ++ (sm ++ pt)) (headL t i 1)
    unfold behRV at kc
    rw [behindL_app] at kc
    simp only at kc
    generalize headL t i 1 = h1 at *
    have qe : ((pt.length : Int) == 100) = true := by rw [beq_iff_eq, hpm rfl]; rfl
    generalize hT : sm ++ pt = T at *
    repeat' (first
     | with_reducible first | refine VC_seq fun K hK => ?_ | refine W_region ?_ | refine VC_block ?_ | refine VC_scope ?_ | refine VC_if ?_ | refine VC_skip ?_ | refine VC_exit ?_ | refine VC_ret ?_
     | (with_reducible first | refine G_not (fun h => ?_) (fun h => ?_) | refine G_cases (fun h => ?_) (fun h => ?_)) <;> (try simp only [h])
     | refine W_slcS (a := T) (l := 0) (h := 4) Try.underlying9 rfl rfl (by simp [optNat, natOf?, intOf?]) (by omega) (by omega) ?_
     | refine W_slcS (a := T) (l := 4) (h := T.length) Try.underlying9 rfl (by simp [optNat, natOf?, intOf?]) rfl (by omega) (Nat.le_refl _) ?_
     | refine And.intro hx4 ?_
     | refine And.intro hx17 ?_
     | refine C_call rfl kr rfl hm4 ?_
     | refine C_pure ku rfl rfl (fun k => (hab _ (Nat.le_add_right _ _)).2 k) ?_
     | refine C_pure kb rfl rfl (fun k => (hab _ (Nat.le_add_right _ _)).2 k) ?_
     | refine C_pure kc rfl rfl (fun k => (hab _ (Nat.le_add_right _ _)).2 k) ?_
     | refine C_pure kh1 rfl rfl (fun k => (hab _ (Nat.le_add_right _ _)).2 k) ?_
     | refine C_call rfl kn rfl hm4 ?_
     | refine C_call rfl k1 rfl (ha _) ?_
     | refine C_call rfl k2 rfl (ha _) ?_
     | with_reducible first | (refine hK _ ?_; clear hK K) | (clear hK K; refine hK _ ?_; clear hK K) | (clear hK K; clear hK K; refine hK _ ?_; clear hK K) | (clear hK K; clear hK K; clear hK K; refine hK _ ?_; clear hK K)
     | (with_reducible refine todo ?_; simp +decide only [go_sem, hlh, n4, c1, c2, c3, g1, zne, beq_r1, beq_r17, beq_r18, e47, e17, e174, e417, q4, qq, q100, m4, b1, b2, ft, fp, qe]))
    refine RetR_same (p := pieceV t sm pt true true) ?_ wk_piece oks_piece hw (fun j hj => ?_) (fun _ _ => rfl)
    · show resPVs _ _ [.cell 4 109, .tmp 5] = _
      simp +decide only [go_sem, resPVs, resPs, resOne, joinP, toTVs, PV.tv, pieceV, pieceC]
    · have j4 : j ≠ off + 4 := fun e => hj (by rw [e]; exact hx4)
      have j17 : j ≠ off + 17 := fun e => hj (by rw [e]; exact hx17)
      have j47 : j ≠ off + 47 := fun e => hj (by rw [e]; exact hx47)
      simp +decide only [go_sem, j4, j17, j47]
  | false =>
    have ef : (if false = true then 1 else 0) = 0 := rfl
    simp only [ef] at kb ku
    have kc1 := Try.kBehind (headL t i 0 ++ (sm ++ pt)) (headL t i 1)
    unfold behRV at kc1
    rw [headL_one] at kc1
    simp only at kc1
    have kc := Try.kBehind (headL t i 0 ++ (sm ++ pt)) (headL t i 0)
    unfold behRV at kc
    rw [behindL_app] at kc
    simp only at kc
    generalize headL t i 1 = h1 at *
    generalize headL t i 0 = h0 at *
    generalize hT : sm ++ pt = T at *
    repeat' (first
     | with_reducible first | refine VC_seq fun K hK => ?_ | refine W_region ?_ | refine VC_block ?_ | refine VC_scope ?_ | refine VC_if ?_ | refine VC_skip ?_ | refine VC_exit ?_ | refine VC_ret ?_
     | (with_reducible first | refine G_not (fun h => ?_) (fun h => ?_) | refine G_cases (fun h => ?_) (fun h => ?_)) <;> (try simp only [h])
     | refine W_slcS (a := T) (l := 0) (h := 4) Try.underlying9 rfl rfl (by simp [optNat, natOf?, intOf?]) (by omega) (by omega) ?_
     | refine W_slcS (a := T) (l := 4) (h := T.length) Try.underlying9 rfl (by simp [optNat, natOf?, intOf?]) rfl (by omega) (Nat.le_refl _) ?_
     | refine And.intro hx4 ?_
     | refine And.intro hx17 ?_
     | refine C_call rfl kr rfl hm4 ?_
     | refine C_pure ku rfl rfl (fun k => (hab _ (Nat.le_add_right _ _)).2 k) ?_
     | refine C_pure kb rfl rfl (fun k => (hab _ (Nat.le_add_right _ _)).2 k) ?_
     | refine C_pure kc1 rfl rfl (fun k => (hab _ (Nat.le_add_right _ _)).2 k) ?_
     | refine C_pure kh0 rfl rfl (fun k => (hab _ (Nat.le_add_right _ _)).2 k) ?_
     | refine C_pure kc rfl rfl (fun k => (hab _ (Nat.le_add_right _ _)).2 k) ?_
     | refine C_pure kh1 rfl rfl (fun k => (hab _ (Nat.le_add_right _ _)).2 k) ?_
     | refine C_call rfl kn rfl hm4 ?_
     | refine C_call rfl k1 rfl (ha _) ?_
     | refine C_call rfl k2 rfl (ha _) ?_
     | with_reducible first | (refine hK _ ?_; clear hK K) | (clear hK K; refine hK _ ?_; clear hK K) | (clear hK K; clear hK K; refine hK _ ?_; clear hK K) | (clear hK K; clear hK K; clear hK K; refine hK _ ?_; clear hK K)
     | (with_reducible refine todo ?_; simp +decide only [go_sem, hlh, n4, c1, c2, c3, g1, zne, beq_r1, beq_r17, beq_r18, e47, e17, e174, e417, q4, qq, q100, m4, b1, b2, ft, fp]))
    refine RetR_same (p := pieceV t sm pt false true) ?_ wk_piece oks_piece hw (fun j hj => ?_) (fun _ _ => rfl)
    · show resPVs _ _ [.cell 4 109, .tmp 5] = _
      simp +decide only [go_sem, resPVs, resPs, resOne, joinP, toTVs, PV.tv, pieceV, pieceC]
    · have j4 : j ≠ off + 4 := fun e => hj (by rw [e]; exact hx4)
      have j17 : j ≠ off + 17 := fun e => hj (by rw [e]; exact hx17)
      have j47 : j ≠ off + 47 := fun e => hj (by rw [e]; exact hx47)
      simp +decide only [go_sem, j4, j17, j47]
end wal
end Go.Proofs

/-
  The log: Reset.
-/

namespace Go.PW
/-- The end: one variable has been given an empty array of its own. -/
theorem RetR_own {P : Program} {fn : Func} {H H1 : HMap} {A A1 : AMap} {S : St} {x : D} {id : Nat} {cs ds : List CV} {κ' : Tok} {sz : Nat} (hp : resPVs P S fn.results.toList = some (.c (.d x))) (hw1 : Wf H1 A1) (h1 : ∀ i, i ≠ id → H1 i ≠ none → S.H i = H1 i) (h2 : S.H id = some ds) (h3 : S.A = A1) (hκ : A1 κ' = none)
    (hcs : wkCells (upd H1 id (some cs)) A1 (upd A1 κ' (some (.co sz 0))) cs ds) (hok : ∀ c ∈ cs, c.ok (fun i => upd H1 id (some cs) i ≠ none) (fun κ => upd A1 κ' (some (.co sz 0)) κ ≠ none)) (kH : ∀ i, H i ≠ none → H1 i ≠ none) (kA : ∀ κ, A κ ≠ none → A1 κ ≠ none) :
    RetR P fn H A (.c (.d x)) (upd H1 id (some cs)) (upd A1 κ' (some (.co sz 0))) S := by
  subst h3
  have tk : ∀ κ, S.A κ ≠ none → upd S.A κ' (some (.co sz 0)) κ ≠ none ∧ upd S.A κ' (some (.co sz 0)) κ = S.A κ := fun κ h => by
    have e : κ ≠ κ' := fun e => h (by rw [e]; exact hκ)
    rw [upd_other _ _ e]
    exact ⟨h, rfl⟩
  have hk : ∀ i, H1 i ≠ none → upd H1 id (some cs) i ≠ none := fun i hi => by
    rw [upd_apply']; split
    · simp
    · exact hi
  refine RetR_of hp (wk_c (.inr (.inl ⟨rfl, True.intro⟩))) True.intro (fun i es c hi hc => ?_) (fun i es hi => ?_) (fun κ => ?_) (fun i hi => hk i (kH i hi)) (fun κ hκ' => (tk κ (kA κ hκ')).1)
  · rw [upd_apply'] at hi
    split at hi
    · cases hi; exact hok c hc
    · exact ok_mono hk (fun κ h => (tk κ h).1) (hw1 i es c hi hc)
  · by_cases e : i = id
    · subst e
      rw [upd_same] at hi
      cases hi
      exact ⟨ds, h2, hcs⟩
    · rw [upd_other _ _ e] at hi
      exact ⟨es, by rw [h1 i e (by rw [hi]; simp), hi], wkC_same fun c hc => ok_mono hk tk (hw1 i es c hi hc)⟩
  · by_cases e : κ = κ'
    · subst e
      exact .inr (.inr ⟨hκ, sz, .inl (upd_same _ _ _)⟩)
    · exact .inr (.inl (by rw [upd_other _ _ e]))
end Go.PW
namespace Go.Proofs
open Go.PW
section wal
variable {H : HMap} {A : AMap} {lid did : Nat} {κm κc κr κ' κr' : Tok} {d : Dk} {l : Lg}
set_option maxRecDepth 8000 in
set_option maxHeartbeats 16000000 in
theorem Try.kReset (off : Nat) (hw : Wf H A) (hl : LgAt H A lid did κr l) (hd : DkAt H A did κm κc d) (hh : l.halted = false) (ht : l.turn + 1 < 9223372036854775807) (hin : l.from_ + 1 < d.n) (hdn : d.n ≤ 4096) (hcl : d.cache.length + 1 ≤ 1000000)
    (hb1 : burnt d = false) (hb2 : burnt (wrD d ((l.from_ + (l.turn + 1) % 2 : Nat) : Int) (turnB (l.turn + 1) (l.turn + 1))) = false) (hκ : A κ' = none) (hκb : κ'.1 < off + 1000) (hκr : A κr' = none) (hnr : κr' ≠ κ') :
    EffOK Try.prog 72 off H A [.c (.ptr lid 0)] (pD (.lit (.int .i64 0)))
      (upd (upd (upd H did (some (encDk κm κ' (nextD d l.from_ (l.turn + 1) (l.turn + 1))))) lid (some (encLg did κr { l with turn := l.turn + 1, base := l.turn + 1 }))) lid (some (encLg did κr' { l with turn := l.turn + 1, base := l.turn + 1, used := 0, recs := [] })))
      (upd (upd (upd (upd A κc (some (.co 2 (d.cache.length + 1)))) κm (some (.mp (encNS (nextD d l.from_ (l.turn + 1) (l.turn + 1)).stays)))) κ' (some (.co 2 0))) κr' (some (.co 1 0))) := by
  refine effr_ok (E := envOf Try.prog [64, 66, 58] off [] []) (envOf_ok Try.mixed) Try.func72 rfl Try.call72 (by kernel_rfl) (by exact Nat.le_of_ble_eq_true rfl) (fun hab => ?_)
  have hlh := hl.h
  have hne := hl.ne hd
  have hlt := hd.lt hab
  have hlt2 := hl.lt hab
  have ks := Try.kState (off + 1000) hw hl hh
  have kn := Try.kNext (κ' := κ') (off + 1000) hw hl hd (l.turn + 1) (by omega) (by omega) hin hdn hcl hb1 hb2 hκ
  generalize nextD d l.from_ (l.turn + 1) (l.turn + 1) = dn at *
  have c1 : IntKind.i64.wrap ((l.turn : Int) + 1) = ((l.turn + 1 : Nat) : Int) := Go.IntWalk.i64_in _ (by omega)
  have kA2 : ∀ κ, A κ ≠ none → upd (upd (upd A κc (some (.co 2 (d.cache.length + 1)))) κm (some (.mp (encNS dn.stays)))) κ' (some (.co 2 0)) κ ≠ none := fun κ h => upd_keep _ (upd_keep _ (upd_keep _ h))
  have hw2 : Wf (upd (upd H did (some (encDk κm κ' dn))) lid (some (encLg did κr { l with turn := l.turn + 1, base := l.turn + 1 }))) (upd (upd (upd A κc (some (.co 2 (d.cache.length + 1)))) κm (some (.mp (encNS dn.stays)))) κ' (some (.co 2 0))) :=
    Wf_set (A := upd (upd (upd A κc (some (.co 2 (d.cache.length + 1)))) κm (some (.mp (encNS dn.stays)))) κ' (some (.co 2 0))) (Wf_set hw (DkAt.ok (kA2 κm (by rw [hd.m]; simp)) (by rw [upd_same]; simp)) kA2) (LgAt.ok (upd_keepH _ (by rw [upd_same]; simp)) (kA2 κr (by rw [hl.r]; simp))) (fun _ h => h)
  have nκ : κr ≠ κ' := fun e => by have := hl.r; rw [e, hκ] at this; cases this
  have hl2 : LgAt (upd (upd H did (some (encDk κm κ' dn))) lid (some (encLg did κr { l with turn := l.turn + 1, base := l.turn + 1 }))) (upd (upd (upd A κc (some (.co 2 (d.cache.length + 1)))) κm (some (.mp (encNS dn.stays)))) κ' (some (.co 2 0))) lid did κr { l with turn := l.turn + 1, base := l.turn + 1 } :=
    ⟨upd_same _ _ _, by rw [upd_other _ _ nκ, upd_other _ _ (hl.nm hd), upd_other _ _ (hl.nc hd)]; exact hl.r⟩
  have kt := Try.kTook (off + 1000) hw2 hl2 (upd_keepH _ (by rw [upd_same]; simp)) 0
  rw [Lg.unhalted (l := { l with turn := l.turn + 1, base := l.turn + 1 }) hh, upd_self hl2.h] at kt
  have hm : Above (off + 1000) (upd (upd H did (some (encDk κm κ' dn))) lid (some (encLg did κr { l with turn := l.turn + 1, base := l.turn + 1 }))) (upd (upd (upd A κc (some (.co 2 (d.cache.length + 1)))) κm (some (.mp (encNS dn.stays)))) κ' (some (.co 2 0))) :=
    Above_updA (Above_updA (Above_updA (Above_updH (Above_updH (Above_mono hab (by omega)) (by omega)) (by omega)) (by omega)) (by omega)) hκb
  unfold encLg at hlh
  repeat' (first
   | with_reducible first | refine VC_seq fun K hK => ?_ | refine W_region ?_ | refine VC_block ?_ | refine VC_scope ?_ | refine VC_if ?_ | refine VC_skip ?_ | refine VC_exit ?_ | refine VC_ret ?_
   | (with_reducible first | refine G_not (fun h => ?_) (fun h => ?_) | refine G_cases (fun h => ?_) (fun h => ?_)) <;> (try simp only [h])
   | refine C_call rfl ks rfl (Above_mono hab (by omega)) ?_
   | refine C_call rfl kn rfl (Above_mono hab (by omega)) ?_
   | refine C_call rfl kt rfl hm ?_
   | with_reducible first | (refine hK _ ?_; clear hK K) | (clear hK K; refine hK _ ?_; clear hK K) | (clear hK K; clear hK K; refine hK _ ?_; clear hK K) | (clear hK K; clear hK K; clear hK K; refine hK _ ?_; clear hK K)
   | (with_reducible refine todo ?_; simp +decide only [go_sem, hlh, c1, zne, encLg]))
  have k1 : κr' ≠ κm := fun e => by rw [e, hd.m] at hκr; cases hκr
  have k2 : κr' ≠ κc := fun e => by rw [e, hd.c] at hκr; cases hκr
  have hκ1 : upd (upd (upd A κc (some (.co 2 (d.cache.length + 1)))) κm (some (.mp (encNS dn.stays)))) κ' (some (.co 2 0)) κr' = none := by rw [upd_other _ _ hnr, upd_other _ _ k1, upd_other _ _ k2]; exact hκr
  have hdid : ∀ x, upd (upd (upd H did (some (encDk κm κ' dn))) lid (some (encLg did κr { l with turn := l.turn + 1, base := l.turn + 1 }))) lid (some x) did ≠ none := fun x => upd_keepH _ (upd_keepH _ (by rw [upd_same]; simp))
  refine RetR_own rfl hw2 (fun i hi _ => ?_) (upd_same _ _ _) rfl hκ1 ?_ (LgAt.ok (l := { l with turn := l.turn + 1, base := l.turn + 1, used := 0, recs := [] }) (hdid _) (by rw [upd_same]; simp)) (fun i h => upd_keepH i (upd_keepH i h)) kA2
  · show upd (upd _ _ _) _ _ i = _
    rw [upd_other _ _ hi, upd_other _ _ hi]
  · refine ⟨.inr (.inl ⟨rfl, hdid _⟩), ?_, ?_, ?_, ?_, ?_, .inr (.inr (.inr (.inl ⟨rfl, κr', 1, rfl, hκ1, upd_same _ _ _⟩))), ?_, True.intro⟩ <;> exact .inr (.inl ⟨rfl, True.intro⟩)
end wal
end Go.Proofs

/-
  The log: what is found when it is opened (plain).
-/

namespace Go.Proofs
open Go.PW
/-- What a place has. -/
structure Pc where
  t : Nat
  sm : List UInt8
  pt : List UInt8
  more : Bool
def AtOK (s : List UInt8) (i : Nat) : Option Pc → Prop
  | none => unsealB s = some [] ∨ unsealB s = none
  | some p => unsealB s = some (headL p.t i (if p.more = true then 1 else 0) ++ (p.sm ++ p.pt)) ∧ p.t ≤ 1099511627776 ∧ p.sm.length = 4 ∧ p.pt.length ≤ 100 ∧ (p.more = true → p.pt.length = 100)
def atV : Option Pc → PV
  | none => pieceV 0 [] [] false false
  | some p => pieceV p.t p.sm p.pt p.more true
/-- How far the search has come. -/
structure Sc where
  s : List UInt8
  want : List UInt8
  first : Nat
  now : Nat
  recs : List (List UInt8)
  used : Nat
/-- A place is looked at: none: no further. -/
def scStep (turn i : Nat) (x : Sc) (p : Pc) : Option Sc :=
  if p.t < x.now ∨ turn < p.t then none
  else if i ≠ x.first ∧ (p.t ≠ x.now ∨ p.sm ≠ x.want ∨ p.pt = []) then none
  else if p.more = true then some { x with s := x.s ++ p.pt, want := p.sm, now := p.t }
  else if sum4 (x.s ++ p.pt) ≠ p.sm then none
  else some ⟨[], p.sm, i + 1, p.t, x.recs ++ [x.s ++ p.pt], i + 1⟩
def scanK (pl : Nat → Option Pc) (turn : Nat) : Nat → Nat → Sc → Sc
  | 0, _, x => x
  | k + 1, i, x => match pl i with
    | none => x
    | some p => match scStep turn i x p with
      | none => x
      | some x' => scanK pl turn k (i + 1) x'
section wal
variable {H : HMap} {A : AMap} {lid did : Nat} {κm κc κr : Tok} {d : Dk} {l : Lg}
/-- What a place has, be it written or not. -/
theorem Try.kAt (off : Nat) (hw : Wf H A) (hl : LgAt H A lid did κr l) (hd : DkAt H A did κm κc d) (hcl : d.cache.length ≤ 1000000) (i : Nat) (hin : l.from_ + 2 + i < d.n) (hdn : d.n ≤ 4096) (hs : (rd d ((l.from_ + 2 + i : Nat) : Int)).length ≤ 128)
    (o : Option Pc) (hc : AtOK (rd d ((l.from_ + 2 + i : Nat) : Int)) i o) : EffOK Try.prog 82 off H A [.c (.ptr lid 0), pD (.lit (.int .i64 i))] (atV o) H A := by
  cases o with
  | none => exact Try.kAtE off hw hl hd hcl i hin hdn hs hc
  | some p =>
    obtain ⟨h1, h2, h3, h4, h5⟩ := hc
    exact Try.kAtP off hw hl hd hcl i hin hdn hs p.t p.sm p.pt p.more h2 h3 h4 h5 h1
end wal
end Go.Proofs
