/-
  Parts of the proof, laid together: PwHx, PwHy.
-/
import Derived.Test.YtghlemfokpfngaaQ28
import Derived.Test.YtghlemfokpfngaaQ19

namespace Go.Proofs
open Go.PW
theorem z60 : ((6 : Int) != 0) = true := rfl
section wal
variable {H : HMap} {A : AMap} {lid did : Nat} {κm κc κr κ' : Tok} {d : Dk} {l : Lg}
set_option maxRecDepth 8000 in
set_option maxHeartbeats 32000000 in
theorem Try.kAppendG (off : Nat) (hw : Wf H A) (hl : LgAt H A lid did κr l) (hd : DkAt H A did κm κc d) (hh : l.halted = false) (s : List UInt8) (hs : s.length ≤ 5000) (hfit : l.used + needN s.length ≤ l.places) (hp : l.places ≤ 1000) (ht : l.turn < 9223372036854775808)
    (hin : l.from_ + 2 + l.places ≤ d.n) (hdn : d.n ≤ 4096) (hcl : d.cache.length + 100 ≤ 1000000) (hrl : l.recs.length ≤ 1000000) (hbs : ∀ k, k < (partsL s).length → burnt (apD l s (partsL s).length (partsL s) d k) = false) :
    EffOK Try.prog 33 off H A [.c (.ptr lid 0), pD (dS s)] (pD (.lit (.int .i64 0)))
      (upd (upd H did (some (encDk κm κc (apD l s (partsL s).length (partsL s) d (partsL s).length)))) lid (some (encLg did κr { l with recs := l.recs ++ [s], used := l.used + (partsL s).length })))
      (upd (upd A κc (some (.co 2 (d.cache.length + (partsL s).length)))) κr (some (.co 1 (l.recs.length + 1)))) := by
  refine effr_ok (E := envOf Try.prog [53, 31, 55, 56] off [] []) (envOf_ok Try.mixed) Try.func33 rfl Try.call33 (by kernel_rfl) (by exact Nat.le_of_ble_eq_true rfl) (fun hab => ?_)
  have hlh := hl.h
  unfold encLg at hlh
  have hne := hl.ne hd
  have hnc := hl.nc hd
  have hlt := hd.lt hab
  have hlt2 := hl.lt hab
  have ks := Try.kState (off + 1000) hw hl hh
  have kf := Try.kFits (off + 1000) hw hl s.length (by omega) (by omega) hp
  rw [show decide (l.used + needN s.length ≤ l.places) = true from decide_eq_true hfit] at kf
  have kp := Try.kParts s (by omega)
  have hm := partsL_len s
  have hmem := partsL_mem s
  have hmn : needN s.length ≤ 50 := by unfold needN; omega
  generalize hcut : partsL s = cut at *
  have hlen : (textsD cut).length = cut.length := textsD_len cut
  repeat' (first
   |with_reducible first|refine vSq fun K hK=>?_|refine vRg ?_|refine vBl ?_|refine vSc ?_|refine vIf ?_|refine vSk ?_|refine vEx ?_|refine vRt ?_
   |(with_reducible first|refine gNt (fun h=>?_) (fun h=>?_)|refine gCs (fun h=>?_) (fun h=>?_))<;>(try simp only[h])
   |refine C_call rfl ks rfl (Above_mono hab (by omega)) ?_
   |refine C_call rfl kf rfl (Above_mono hab (by omega)) ?_
   |refine C_pure kp rfl rfl (fun k => (hab _ (Nat.le_add_right _ _)).2 k) ?_
   |with_reducible first|(refine hK _ ?_;clear hK K)|(clear hK K;refine hK _ ?_;clear hK K)|(clear hK K;clear hK K;refine hK _ ?_;clear hK K)|(clear hK K;clear hK K;clear hK K;refine hK _ ?_;clear hK K)
   |(with_reducible refine todo ?_;simp +decide only[go_sem, zne, hlen]))
  have hsp := apD_spec l s cut.length cut d
  have hwk : ∀ k, Wf (upd H did (some (encDk κm κc (apD l s cut.length cut d k)))) (upd A κc (some (.co 2 (d.cache.length + k)))) := fun k => DkAt.wf hw hd _ upd_keep
  have hdk : ∀ k, DkAt (upd H did (some (encDk κm κc (apD l s cut.length cut d k)))) (upd A κc (some (.co 2 (d.cache.length + k)))) did κm κc (apD l s cut.length cut d k) := fun k => ⟨upd_same _ _ _, by rw [upd_other _ _ hd.ne.symm, (hsp k).2.2.2]; exact hd.m, by rw [upd_same, (hsp k).2.1]⟩
  have hlk : ∀ k, LgAt (upd H did (some (encDk κm κc (apD l s cut.length cut d k)))) (upd A κc (some (.co 2 (d.cache.length + k)))) lid did κr l := fun k => ⟨by rw [upd_other _ _ hne]; exact hl.h, by rw [upd_other _ _ hnc]; exact hl.r⟩
  have hptr : ∀ {A1 A2 : AMap} {x : List CV}, PV.wk (hOver [] (upd H did (some x))) A1 A2 (.c (.ptr lid 0)) (.c (.ptr lid 0)) = True := eq_true (wkP_ptr (upd_keepH _ (by rw [hl.h]; simp)))
  refine VC_range cut.length (fun _ => True) (fun i => over [(0, .c (.ptr lid 0)), (1, pD (dS s)), (6, .c (.d (.sl (textsD cut)))), (24, .c (.d (.sl (textsD cut)))), (25, pD (.lit (.int .i64 cut.length))), (26, pD (.lit (.int .i64 i)))] []
    (upd H did (some (encDk κm κc (apD l s cut.length cut d i)))) (upd A κc (some (.co 2 (d.cache.length + i))))) True.intro ?_ ?_
  · refine Weak_overG (hwk 0) (fun i _ => ?_) (upd_self hd.c).symm ?_ ?_ upd_keepH upd_keep
    · rw [show upd H did (some (encDk κm κc (apD l s cut.length cut d 0))) = H from upd_self hd.h]
    · simp +decide only [go_sem, hptr]
    · simp +decide only [go_sem]
  · intro i hi _
    rcases Nat.lt_or_ge i cut.length with hi2 | hi2
    · have hc := int_lt_true hi2
      have hnx := int_next hi2 (by omega)
      have h3 : (textsD cut)[i]? = some [dS cut[i]] := by unfold textsD; rw [List.getElem?_map, List.getElem?_eq_getElem hi2]; rfl
      have hpl : cut[i].length ≤ 100 := hmem _ (List.getElem_mem hi2)
      have hgd : cut.getD i [] = cut[i] := by rw [List.getD_eq_getElem?_getD, List.getElem?_eq_getElem hi2]; rfl
      have c1 : IntKind.i64.wrap ((l.used : Int) + (i : Int)) = ((l.used + i : Nat) : Int) := by rw [Go.IntWalk.i64_in _ (by omega)]; omega
      have c2 : IntKind.i64.wrap ((l.from_ : Int) + 2) = ((l.from_ + 2 : Nat) : Int) := Go.IntWalk.i64_in _ (by omega)
      have c3 : IntKind.i64.wrap (((l.from_ + 2 : Nat) : Int) + ((l.used + i : Nat) : Int)) = ((l.from_ + 2 + (l.used + i) : Nat) : Int) := by rw [Go.IntWalk.i64_in _ (by omega)]; omega
      have c4 : IntKind.i64.wrap ((cut.length : Int) - 1) = ((cut.length - 1 : Nat) : Int) := by rw [Go.IntWalk.i64_in _ (by omega)]; omega
      have ksm := Try.kSum s (by omega)
      have lsm := sum4_len s
      have hAb : Above off (upd H did (some (encDk κm κc (apD l s cut.length cut d i)))) (upd A κc (some (.co 2 (d.cache.length + i)))) := Above_updA (Above_updH hab (by omega)) (by omega)
      have hstep : apD l s cut.length cut d (i + 1) = wrD (apD l s cut.length cut d i) ((l.from_ + 2 + (l.used + i) : Nat) : Int) (placeB l s cut.length i cut[i]) := by rw [← hgd]; rfl
      have hbn := hbs i hi2
      have hwe : writeE (apD l s cut.length cut d i) ((l.from_ + 2 + (l.used + i) : Nat) : Int) (placeB l s cut.length i cut[i]) = 0 := by
        have h1 : dkRight (apD l s cut.length cut d i) ((l.from_ + 2 + (l.used + i) : Nat) : Int) = 0 := by
          have := (hsp i).1
          unfold dkRight; rw [if_neg (by omega), if_neg (by omega)]
        have h2 : (placeB l s cut.length i cut[i]).length ≤ 128 := sealB_len _
        unfold writeE
        rw [if_neg (by simpa using h1), if_neg (by omega), hbn]
        rfl
      have kw := Try.kWrite (off + 1000) (hwk i) (hdk i) ((l.from_ + 2 + (l.used + i) : Nat) : Int) (placeB l s cut.length i cut[i]) (by rw [(hsp i).1]; omega) (by rw [(hsp i).2.1]; omega) hwe
      rw [upd_twice, upd_twice, ← hstep, (hsp i).2.1] at kw
      have kt := Try.kTook (off + 1000) (hwk (i + 1)) (hlk (i + 1)) (by rw [upd_same]; simp) 0
      rw [Lg.unhalted hh, upd_self (hlk (i + 1)).h] at kt
      have hAb2 : Above (off + 1000) (upd H did (some (encDk κm κc (apD l s cut.length cut d (i + 1))))) (upd A κc (some (.co 2 (d.cache.length + (i + 1))))) := Above_updA (Above_updH (Above_mono hab (by omega)) (by omega)) (by omega)
      clear hmem
      by_cases hlast : i + 1 = cut.length
      · have hq : ((i : Int) == ((cut.length - 1 : Nat) : Int)) = true := by rw [beq_iff_eq]; omega
        have hpb : sealB (headL l.turn (l.used + i) 0 ++ sum4 s ++ cut[i]) = placeB l s cut.length i cut[i] := by unfold placeB; rw [if_pos hlast]
        have kh := Try.kHead l.turn (l.used + i) 0 ht (by omega) (by omega)
        have lh := headL_len l.turn (l.used + i) 0
        have kse := Try.kSeal (headL l.turn (l.used + i) 0 ++ sum4 s ++ cut[i]) (by simp only [List.length_append]; omega)
        rw [hpb] at kse
        generalize headL l.turn (l.used + i) 0 = hB at *
        generalize sum4 s = sm at *
        generalize placeB l s cut.length i cut[i] = pb at *
        generalize cut[i] = p at *
        have s1 : (hB.length + sm.length ≤ 9223372036854775807) = True := eq_true (by omega)
        have s2 : (hB.length + sm.length + p.length ≤ 9223372036854775807) = True := eq_true (by omega)
        repeat' (first
         |with_reducible first|refine vSq fun K hK=>?_|refine vRg ?_|refine vBl ?_|refine vSc ?_|refine vIf ?_|refine vSk ?_|refine vEx ?_|refine vRt ?_
         |(with_reducible first|refine gNt (fun h=>?_) (fun h=>?_)|refine gCs (fun h=>?_) (fun h=>?_))<;>(try simp only[h])
         |refine C_pure kh rfl rfl (fun k => (hAb _ (Nat.le_add_right _ _)).2 k) ?_
         |refine C_pure ksm rfl rfl (fun k => (hAb _ (Nat.le_add_right _ _)).2 k) ?_
         |refine C_pure kse rfl rfl (fun k => (hAb _ (Nat.le_add_right _ _)).2 k) ?_
         |refine C_call rfl kw rfl (Above_mono hAb (by omega)) ?_
         |refine C_call rfl kt rfl hAb2 ?_
         |with_reducible first|(refine hK _ ?_;clear hK K)|(clear hK K;refine hK _ ?_;clear hK K)|(clear hK K;clear hK K;refine hK _ ?_;clear hK K)|(clear hK K;clear hK K;clear hK K;refine hK _ ?_;clear hK K)
         |(with_reducible refine todo ?_;simp +decide only[go_sem, hlh, hne, hc, hnx, h3, c1, c2, c3, c4, hlen, hq, zne, s1, s2]))
        refine Next_of hi2 True.intro (Weak_overG (hwk (i + 1)) (fun _ _ => rfl) rfl ?_ ?_ upd_keepH upd_keep)
        · simp +decide only [go_sem, hptr]
        · simp +decide only [go_sem]
      · have hq : ((i : Int) == ((cut.length - 1 : Nat) : Int)) = false := by rw [beq_eq_false_iff_ne]; omega
        have hpb : sealB (headL l.turn (l.used + i) 1 ++ sum4 s ++ cut[i]) = placeB l s cut.length i cut[i] := by unfold placeB; rw [if_neg hlast]
        have kh := Try.kHead l.turn (l.used + i) 1 ht (by omega) (by omega)
        have lh := headL_len l.turn (l.used + i) 1
        have kse := Try.kSeal (headL l.turn (l.used + i) 1 ++ sum4 s ++ cut[i]) (by simp only [List.length_append]; omega)
        rw [hpb] at kse
        generalize headL l.turn (l.used + i) 1 = hB at *
        generalize sum4 s = sm at *
        generalize placeB l s cut.length i cut[i] = pb at *
        generalize cut[i] = p at *
        have s1 : (hB.length + sm.length ≤ 9223372036854775807) = True := eq_true (by omega)
        have s2 : (hB.length + sm.length + p.length ≤ 9223372036854775807) = True := eq_true (by omega)
        repeat' (first
         |with_reducible first|refine vSq fun K hK=>?_|refine vRg ?_|refine vBl ?_|refine vSc ?_|refine vIf ?_|refine vSk ?_|refine vEx ?_|refine vRt ?_
         |(with_reducible first|refine gNt (fun h=>?_) (fun h=>?_)|refine gCs (fun h=>?_) (fun h=>?_))<;>(try simp only[h])
         |refine C_pure kh rfl rfl (fun k => (hAb _ (Nat.le_add_right _ _)).2 k) ?_
         |refine C_pure ksm rfl rfl (fun k => (hAb _ (Nat.le_add_right _ _)).2 k) ?_
         |refine C_pure kse rfl rfl (fun k => (hAb _ (Nat.le_add_right _ _)).2 k) ?_
         |refine C_call rfl kw rfl (Above_mono hAb (by omega)) ?_
         |refine C_call rfl kt rfl hAb2 ?_
         |with_reducible first|(refine hK _ ?_;clear hK K)|(clear hK K;refine hK _ ?_;clear hK K)|(clear hK K;clear hK K;refine hK _ ?_;clear hK K)|(clear hK K;clear hK K;clear hK K;refine hK _ ?_;clear hK K)
         |(with_reducible refine todo ?_;simp +decide only[go_sem, hlh, hne, hc, hnx, h3, c1, c2, c3, c4, hlen, hq, zne, s1, s2]))
        refine Next_of hi2 True.intro (Weak_overG (hwk (i + 1)) (fun _ _ => rfl) rfl ?_ ?_ upd_keepH upd_keep)
        · simp +decide only [go_sem, hptr]
        · simp +decide only [go_sem]
    · have hc := int_lt_false hi2
      have hie : i = cut.length := by omega
      subst hie
      have hrl2 := textsD_len l.recs
      have c1 : IntKind.i64.wrap ((l.used : Int) + (cut.length : Int)) = ((l.used + cut.length : Nat) : Int) := by rw [Go.IntWalk.i64_in _ (by omega)]; omega
      have hla : upd A κc (some (.co 2 (d.cache.length + cut.length))) κr = some (.co 1 (textsD l.recs).length) := by rw [upd_other _ _ hnc, hrl2]; exact hl.r
      repeat' (first
       |with_reducible first|refine vSq fun K hK=>?_|refine vRg ?_|refine vBl ?_|refine vSc ?_|refine vIf ?_|refine vSk ?_|refine vEx ?_|refine vRt ?_
       |(with_reducible first|refine gNt (fun h=>?_) (fun h=>?_)|refine gCs (fun h=>?_) (fun h=>?_))<;>(try simp only[h])
       |(refine W_own Try.appT rfl (szd_texts _) (szOne rfl) (by rw [hrl2]; simp only [List.length_singleton]; omega) hla ?_)
       |with_reducible first|(refine hK _ ?_;clear hK K)|(clear hK K;refine hK _ ?_;clear hK K)|(clear hK K;clear hK K;refine hK _ ?_;clear hK K)|(clear hK K;clear hK K;clear hK K;refine hK _ ?_;clear hK K)
       |(with_reducible refine todo ?_;simp +decide only[go_sem, hlh, hne, hc, c1, hlen]))
      have hwE : Wf (upd (upd H did (some (encDk κm κc (apD l s cut.length cut d cut.length)))) lid (some (encLg did κr { l with recs := l.recs ++ [s], used := l.used + cut.length }))) (upd (upd A κc (some (.co 2 (d.cache.length + cut.length)))) κr (some (.co 1 (l.recs.length + 1)))) :=
        Wf_set (hwk cut.length) (LgAt.ok (upd_keepH _ (by rw [upd_same]; simp)) (by rw [upd_same]; simp)) upd_keep
      refine RetR_eq rfl (wk_c (.inr (.inl ⟨rfl, True.intro⟩))) True.intro hwE (fun i _ => ?_) ?_ (fun i h => upd_keepH i (upd_keepH i h)) (fun κ h => upd_keep _ (upd_keep _ h))
      · show upd (upd (upd H did _) lid _) lid _ i = _
        by_cases e : i = lid
        · subst e
          rw [upd_same, upd_same]
          unfold encLg
          rw [textsD_app]
          rfl
        · rw [upd_other _ _ e, upd_other _ _ e, upd_other _ _ e]
      · show upd (upd _ _ _) _ (some (Arr.co 1 ((textsD l.recs).length + 1))) = _
        rw [hrl2]
set_option maxRecDepth 8000 in
set_option maxHeartbeats 32000000 in
theorem Try.kAppendB (off : Nat) (hw : Wf H A) (hl : LgAt H A lid did κr l) (hd : DkAt H A did κm κc d) (hh : l.halted = false) (s : List UInt8) (hs : s.length ≤ 5000) (hfit : l.used + needN s.length ≤ l.places) (hp : l.places ≤ 1000) (ht : l.turn < 9223372036854775808)
    (hin : l.from_ + 2 + l.places ≤ d.n) (hdn : d.n ≤ 4096) (hcl : d.cache.length + 100 ≤ 1000000) (k0 : Nat) (hk0 : k0 < (partsL s).length) (hbs : ∀ k, k < k0 → burnt (apD l s (partsL s).length (partsL s) d k) = false) (hbb : burnt (apD l s (partsL s).length (partsL s) d k0) = true) :
    EffOK Try.prog 33 off H A [.c (.ptr lid 0), pD (dS s)] (pD (.lit (.int .i64 6)))
      (upd (upd H did (some (encDk κm κc (apD l s (partsL s).length (partsL s) d k0)))) lid (some (encLg did κr { l with halted := true }))) (upd A κc (some (.co 2 (d.cache.length + k0)))) := by
  refine effr_ok (E := envOf Try.prog [53, 31, 55, 56] off [] []) (envOf_ok Try.mixed) Try.func33 rfl Try.call33 (by kernel_rfl) (by exact Nat.le_of_ble_eq_true rfl) (fun hab => ?_)
  have hlh := hl.h
  unfold encLg at hlh
  have hne := hl.ne hd
  have hnc := hl.nc hd
  have hlt := hd.lt hab
  have hlt2 := hl.lt hab
  have ks := Try.kState (off + 1000) hw hl hh
  have kf := Try.kFits (off + 1000) hw hl s.length (by omega) (by omega) hp
  rw [show decide (l.used + needN s.length ≤ l.places) = true from decide_eq_true hfit] at kf
  have kp := Try.kParts s (by omega)
  have hm := partsL_len s
  have hmem := partsL_mem s
  have hmn : needN s.length ≤ 50 := by unfold needN; omega
  generalize hcut : partsL s = cut at *
  have hlen : (textsD cut).length = cut.length := textsD_len cut
  repeat' (first
   |with_reducible first|refine vSq fun K hK=>?_|refine vRg ?_|refine vBl ?_|refine vSc ?_|refine vIf ?_|refine vSk ?_|refine vEx ?_|refine vRt ?_
   |(with_reducible first|refine gNt (fun h=>?_) (fun h=>?_)|refine gCs (fun h=>?_) (fun h=>?_))<;>(try simp only[h])
   |refine C_call rfl ks rfl (Above_mono hab (by omega)) ?_
   |refine C_call rfl kf rfl (Above_mono hab (by omega)) ?_
   |refine C_pure kp rfl rfl (fun k => (hab _ (Nat.le_add_right _ _)).2 k) ?_
   |with_reducible first|(refine hK _ ?_;clear hK K)|(clear hK K;refine hK _ ?_;clear hK K)|(clear hK K;clear hK K;refine hK _ ?_;clear hK K)|(clear hK K;clear hK K;clear hK K;refine hK _ ?_;clear hK K)
   |(with_reducible refine todo ?_;simp +decide only[go_sem, zne, hlen]))
  have hsp := apD_spec l s cut.length cut d
  have hwk : ∀ k, Wf (upd H did (some (encDk κm κc (apD l s cut.length cut d k)))) (upd A κc (some (.co 2 (d.cache.length + k)))) := fun k => DkAt.wf hw hd _ upd_keep
  have hdk : ∀ k, DkAt (upd H did (some (encDk κm κc (apD l s cut.length cut d k)))) (upd A κc (some (.co 2 (d.cache.length + k)))) did κm κc (apD l s cut.length cut d k) := fun k => ⟨upd_same _ _ _, by rw [upd_other _ _ hd.ne.symm, (hsp k).2.2.2]; exact hd.m, by rw [upd_same, (hsp k).2.1]⟩
  have hlk : ∀ k, LgAt (upd H did (some (encDk κm κc (apD l s cut.length cut d k)))) (upd A κc (some (.co 2 (d.cache.length + k)))) lid did κr l := fun k => ⟨by rw [upd_other _ _ hne]; exact hl.h, by rw [upd_other _ _ hnc]; exact hl.r⟩
  have hptr : ∀ {A1 A2 : AMap} {x : List CV}, PV.wk (hOver [] (upd H did (some x))) A1 A2 (.c (.ptr lid 0)) (.c (.ptr lid 0)) = True := eq_true (wkP_ptr (upd_keepH _ (by rw [hl.h]; simp)))
  refine VC_range cut.length (fun i => i ≤ k0) (fun i => over [(0, .c (.ptr lid 0)), (1, pD (dS s)), (6, .c (.d (.sl (textsD cut)))), (24, .c (.d (.sl (textsD cut)))), (25, pD (.lit (.int .i64 cut.length))), (26, pD (.lit (.int .i64 i)))] []
    (upd H did (some (encDk κm κc (apD l s cut.length cut d i)))) (upd A κc (some (.co 2 (d.cache.length + i))))) (Nat.zero_le _) ?_ ?_
  · refine Weak_overG (hwk 0) (fun i _ => ?_) (upd_self hd.c).symm ?_ ?_ upd_keepH upd_keep
    · rw [show upd H did (some (encDk κm κc (apD l s cut.length cut d 0))) = H from upd_self hd.h]
    · simp +decide only [go_sem, hptr]
    · simp +decide only [go_sem]
  · intro i hi hik
    have hi2 : i < cut.length := by omega
    rcases Nat.lt_or_ge i k0 with hik2 | hik2
    · have hc := int_lt_true hi2
      have hnx := int_next hi2 (by omega)
      have h3 : (textsD cut)[i]? = some [dS cut[i]] := by unfold textsD; rw [List.getElem?_map, List.getElem?_eq_getElem hi2]; rfl
      have hpl : cut[i].length ≤ 100 := hmem _ (List.getElem_mem hi2)
      have hgd : cut.getD i [] = cut[i] := by rw [List.getD_eq_getElem?_getD, List.getElem?_eq_getElem hi2]; rfl
      have c1 : IntKind.i64.wrap ((l.used : Int) + (i : Int)) = ((l.used + i : Nat) : Int) := by rw [Go.IntWalk.i64_in _ (by omega)]; omega
      have c2 : IntKind.i64.wrap ((l.from_ : Int) + 2) = ((l.from_ + 2 : Nat) : Int) := Go.IntWalk.i64_in _ (by omega)
      have c3 : IntKind.i64.wrap (((l.from_ + 2 : Nat) : Int) + ((l.used + i : Nat) : Int)) = ((l.from_ + 2 + (l.used + i) : Nat) : Int) := by rw [Go.IntWalk.i64_in _ (by omega)]; omega
      have c4 : IntKind.i64.wrap ((cut.length : Int) - 1) = ((cut.length - 1 : Nat) : Int) := by rw [Go.IntWalk.i64_in _ (by omega)]; omega
      have ksm := Try.kSum s (by omega)
      have lsm := sum4_len s
      have hAb : Above off (upd H did (some (encDk κm κc (apD l s cut.length cut d i)))) (upd A κc (some (.co 2 (d.cache.length + i)))) := Above_updA (Above_updH hab (by omega)) (by omega)
      have hstep : apD l s cut.length cut d (i + 1) = wrD (apD l s cut.length cut d i) ((l.from_ + 2 + (l.used + i) : Nat) : Int) (placeB l s cut.length i cut[i]) := by rw [← hgd]; rfl
      have hbn := hbs i hik2
      have hwe : writeE (apD l s cut.length cut d i) ((l.from_ + 2 + (l.used + i) : Nat) : Int) (placeB l s cut.length i cut[i]) = 0 := by
        have h1 : dkRight (apD l s cut.length cut d i) ((l.from_ + 2 + (l.used + i) : Nat) : Int) = 0 := by
          have := (hsp i).1
          unfold dkRight; rw [if_neg (by omega), if_neg (by omega)]
        have h2 : (placeB l s cut.length i cut[i]).length ≤ 128 := sealB_len _
        unfold writeE
        rw [if_neg (by simpa using h1), if_neg (by omega), hbn]
        rfl
      have kw := Try.kWrite (off + 1000) (hwk i) (hdk i) ((l.from_ + 2 + (l.used + i) : Nat) : Int) (placeB l s cut.length i cut[i]) (by rw [(hsp i).1]; omega) (by rw [(hsp i).2.1]; omega) hwe
      rw [upd_twice, upd_twice, ← hstep, (hsp i).2.1] at kw
      have kt := Try.kTook (off + 1000) (hwk (i + 1)) (hlk (i + 1)) (by rw [upd_same]; simp) 0
      rw [Lg.unhalted hh, upd_self (hlk (i + 1)).h] at kt
      have hAb2 : Above (off + 1000) (upd H did (some (encDk κm κc (apD l s cut.length cut d (i + 1))))) (upd A κc (some (.co 2 (d.cache.length + (i + 1))))) := Above_updA (Above_updH (Above_mono hab (by omega)) (by omega)) (by omega)
      clear hmem
      by_cases hlast : i + 1 = cut.length
      · have hq : ((i : Int) == ((cut.length - 1 : Nat) : Int)) = true := by rw [beq_iff_eq]; omega
        have hpb : sealB (headL l.turn (l.used + i) 0 ++ sum4 s ++ cut[i]) = placeB l s cut.length i cut[i] := by unfold placeB; rw [if_pos hlast]
        have kh := Try.kHead l.turn (l.used + i) 0 ht (by omega) (by omega)
        have lh := headL_len l.turn (l.used + i) 0
        have kse := Try.kSeal (headL l.turn (l.used + i) 0 ++ sum4 s ++ cut[i]) (by simp only [List.length_append]; omega)
        rw [hpb] at kse
        generalize headL l.turn (l.used + i) 0 = hB at *
        generalize sum4 s = sm at *
        generalize placeB l s cut.length i cut[i] = pb at *
        generalize cut[i] = p at *
        have s1 : (hB.length + sm.length ≤ 9223372036854775807) = True := eq_true (by omega)
        have s2 : (hB.length + sm.length + p.length ≤ 9223372036854775807) = True := eq_true (by omega)
        repeat' (first
         |with_reducible first|refine vSq fun K hK=>?_|refine vRg ?_|refine vBl ?_|refine vSc ?_|refine vIf ?_|refine vSk ?_|refine vEx ?_|refine vRt ?_
         |(with_reducible first|refine gNt (fun h=>?_) (fun h=>?_)|refine gCs (fun h=>?_) (fun h=>?_))<;>(try simp only[h])
         |refine C_pure kh rfl rfl (fun k => (hAb _ (Nat.le_add_right _ _)).2 k) ?_
         |refine C_pure ksm rfl rfl (fun k => (hAb _ (Nat.le_add_right _ _)).2 k) ?_
         |refine C_pure kse rfl rfl (fun k => (hAb _ (Nat.le_add_right _ _)).2 k) ?_
         |refine C_call rfl kw rfl (Above_mono hAb (by omega)) ?_
         |refine C_call rfl kt rfl hAb2 ?_
         |with_reducible first|(refine hK _ ?_;clear hK K)|(clear hK K;refine hK _ ?_;clear hK K)|(clear hK K;clear hK K;refine hK _ ?_;clear hK K)|(clear hK K;clear hK K;clear hK K;refine hK _ ?_;clear hK K)
         |(with_reducible refine todo ?_;simp +decide only[go_sem, hlh, hne, hc, hnx, h3, c1, c2, c3, c4, hlen, hq, zne, s1, s2]))
        refine Next_of hi2 hik2 (Weak_overG (hwk (i + 1)) (fun _ _ => rfl) rfl ?_ ?_ upd_keepH upd_keep)
        · simp +decide only [go_sem, hptr]
        · simp +decide only [go_sem]
      · have hq : ((i : Int) == ((cut.length - 1 : Nat) : Int)) = false := by rw [beq_eq_false_iff_ne]; omega
        have hpb : sealB (headL l.turn (l.used + i) 1 ++ sum4 s ++ cut[i]) = placeB l s cut.length i cut[i] := by unfold placeB; rw [if_neg hlast]
        have kh := Try.kHead l.turn (l.used + i) 1 ht (by omega) (by omega)
        have lh := headL_len l.turn (l.used + i) 1
        have kse := Try.kSeal (headL l.turn (l.used + i) 1 ++ sum4 s ++ cut[i]) (by simp only [List.length_append]; omega)
        rw [hpb] at kse
        generalize headL l.turn (l.used + i) 1 = hB at *
        generalize sum4 s = sm at *
        generalize placeB l s cut.length i cut[i] = pb at *
        generalize cut[i] = p at *
        have s1 : (hB.length + sm.length ≤ 9223372036854775807) = True := eq_true (by omega)
        have s2 : (hB.length + sm.length + p.length ≤ 9223372036854775807) = True := eq_true (by omega)
        repeat' (first
         |with_reducible first|refine vSq fun K hK=>?_|refine vRg ?_|refine vBl ?_|refine vSc ?_|refine vIf ?_|refine vSk ?_|refine vEx ?_|refine vRt ?_
         |(with_reducible first|refine gNt (fun h=>?_) (fun h=>?_)|refine gCs (fun h=>?_) (fun h=>?_))<;>(try simp only[h])
         |refine C_pure kh rfl rfl (fun k => (hAb _ (Nat.le_add_right _ _)).2 k) ?_
         |refine C_pure ksm rfl rfl (fun k => (hAb _ (Nat.le_add_right _ _)).2 k) ?_
         |refine C_pure kse rfl rfl (fun k => (hAb _ (Nat.le_add_right _ _)).2 k) ?_
         |refine C_call rfl kw rfl (Above_mono hAb (by omega)) ?_
         |refine C_call rfl kt rfl hAb2 ?_
         |with_reducible first|(refine hK _ ?_;clear hK K)|(clear hK K;refine hK _ ?_;clear hK K)|(clear hK K;clear hK K;refine hK _ ?_;clear hK K)|(clear hK K;clear hK K;clear hK K;refine hK _ ?_;clear hK K)
         |(with_reducible refine todo ?_;simp +decide only[go_sem, hlh, hne, hc, hnx, h3, c1, c2, c3, c4, hlen, hq, zne, s1, s2]))
        refine Next_of hi2 hik2 (Weak_overG (hwk (i + 1)) (fun _ _ => rfl) rfl ?_ ?_ upd_keepH upd_keep)
        · simp +decide only [go_sem, hptr]
        · simp +decide only [go_sem]
    · have hie : i = k0 := by omega
      subst hie
      have hc := int_lt_true hi2
      have h3 : (textsD cut)[i]? = some [dS cut[i]] := by unfold textsD; rw [List.getElem?_map, List.getElem?_eq_getElem hi2]; rfl
      have hpl : cut[i].length ≤ 100 := hmem _ (List.getElem_mem hi2)
      have c1 : IntKind.i64.wrap ((l.used : Int) + (i : Int)) = ((l.used + i : Nat) : Int) := by rw [Go.IntWalk.i64_in _ (by omega)]; omega
      have c2 : IntKind.i64.wrap ((l.from_ : Int) + 2) = ((l.from_ + 2 : Nat) : Int) := Go.IntWalk.i64_in _ (by omega)
      have c3 : IntKind.i64.wrap (((l.from_ + 2 : Nat) : Int) + ((l.used + i : Nat) : Int)) = ((l.from_ + 2 + (l.used + i) : Nat) : Int) := by rw [Go.IntWalk.i64_in _ (by omega)]; omega
      have c4 : IntKind.i64.wrap ((cut.length : Int) - 1) = ((cut.length - 1 : Nat) : Int) := by rw [Go.IntWalk.i64_in _ (by omega)]; omega
      have ksm := Try.kSum s (by omega)
      have lsm := sum4_len s
      have hAb : Above off (upd H did (some (encDk κm κc (apD l s cut.length cut d i)))) (upd A κc (some (.co 2 (d.cache.length + i)))) := Above_updA (Above_updH hab (by omega)) (by omega)
      have hwe : writeE (apD l s cut.length cut d i) ((l.from_ + 2 + (l.used + i) : Nat) : Int) (placeB l s cut.length i cut[i]) = 6 := by
        have h1 : dkRight (apD l s cut.length cut d i) ((l.from_ + 2 + (l.used + i) : Nat) : Int) = 0 := by
          have := (hsp i).1
          unfold dkRight; rw [if_neg (by omega), if_neg (by omega)]
        have h2 : (placeB l s cut.length i cut[i]).length ≤ 128 := sealB_len _
        unfold writeE
        rw [if_neg (by simpa using h1), if_neg (by omega), hbb]
        rfl
      have kw := Try.kWriteNo (off + 1000) (hwk i) (hdk i) ((l.from_ + 2 + (l.used + i) : Nat) : Int) (placeB l s cut.length i cut[i]) (by rw [(hsp i).1]; omega) (by rw [hwe]; decide)
      rw [hwe] at kw
      have kt := Try.kTook (off + 1000) (hwk i) (hlk i) (by rw [upd_same]; simp) 6
      rw [show (l.halted || ((6 : Int) != 0)) = true by rw [hh]; rfl] at kt
      have hAb2 : Above (off + 1000) (upd H did (some (encDk κm κc (apD l s cut.length cut d i)))) (upd A κc (some (.co 2 (d.cache.length + i)))) := Above_mono hAb (by omega)
      have hwE : Wf (upd (upd H did (some (encDk κm κc (apD l s cut.length cut d i)))) lid (some (encLg did κr { l with halted := true }))) (upd A κc (some (.co 2 (d.cache.length + i)))) :=
        Wf_set (hwk i) (LgAt.ok (upd_keepH _ (by rw [upd_same]; simp)) (by rw [(hlk i).r]; simp)) (fun _ h => h)
      clear hmem
      by_cases hlast : i + 1 = cut.length
      · have hq : ((i : Int) == ((cut.length - 1 : Nat) : Int)) = true := by rw [beq_iff_eq]; omega
        have hpb : sealB (headL l.turn (l.used + i) 0 ++ sum4 s ++ cut[i]) = placeB l s cut.length i cut[i] := by unfold placeB; rw [if_pos hlast]
        have kh := Try.kHead l.turn (l.used + i) 0 ht (by omega) (by omega)
        have lh := headL_len l.turn (l.used + i) 0
        have kse := Try.kSeal (headL l.turn (l.used + i) 0 ++ sum4 s ++ cut[i]) (by simp only [List.length_append]; omega)
        rw [hpb] at kse
        generalize headL l.turn (l.used + i) 0 = hB at *
        generalize sum4 s = sm at *
        generalize placeB l s cut.length i cut[i] = pb at *
        generalize cut[i] = p at *
        have s1 : (hB.length + sm.length ≤ 9223372036854775807) = True := eq_true (by omega)
        have s2 : (hB.length + sm.length + p.length ≤ 9223372036854775807) = True := eq_true (by omega)
        repeat' (first
         |with_reducible first|refine vSq fun K hK=>?_|refine vRg ?_|refine vBl ?_|refine vSc ?_|refine vIf ?_|refine vSk ?_|refine vEx ?_|refine vRt ?_
         |(with_reducible first|refine gNt (fun h=>?_) (fun h=>?_)|refine gCs (fun h=>?_) (fun h=>?_))<;>(try simp only[h])
         |refine C_pure kh rfl rfl (fun k => (hAb _ (Nat.le_add_right _ _)).2 k) ?_
         |refine C_pure ksm rfl rfl (fun k => (hAb _ (Nat.le_add_right _ _)).2 k) ?_
         |refine C_pure kse rfl rfl (fun k => (hAb _ (Nat.le_add_right _ _)).2 k) ?_
         |refine C_call rfl kw rfl hAb2 ?_
         |refine C_call rfl kt rfl hAb2 ?_
         |with_reducible first|(refine hK _ ?_;clear hK K)|(clear hK K;refine hK _ ?_;clear hK K)|(clear hK K;clear hK K;refine hK _ ?_;clear hK K)|(clear hK K;clear hK K;clear hK K;refine hK _ ?_;clear hK K)
         |(with_reducible refine todo ?_;simp +decide only[go_sem, hlh, hne, hc, h3, c1, c2, c3, c4, hlen, hq, z60, s1, s2]))
        exact RetR_eq rfl (wk_c (.inr (.inl ⟨rfl, True.intro⟩))) True.intro hwE (fun _ _ => rfl) rfl (fun i h => upd_keepH i (upd_keepH i h)) (fun κ h => upd_keep _ h)
      · have hq : ((i : Int) == ((cut.length - 1 : Nat) : Int)) = false := by rw [beq_eq_false_iff_ne]; omega
        have hpb : sealB (headL l.turn (l.used + i) 1 ++ sum4 s ++ cut[i]) = placeB l s cut.length i cut[i] := by unfold placeB; rw [if_neg hlast]
        have kh := Try.kHead l.turn (l.used + i) 1 ht (by omega) (by omega)
        have lh := headL_len l.turn (l.used + i) 1
        have kse := Try.kSeal (headL l.turn (l.used + i) 1 ++ sum4 s ++ cut[i]) (by simp only [List.length_append]; omega)
        rw [hpb] at kse
        generalize headL l.turn (l.used + i) 1 = hB at *
        generalize sum4 s = sm at *
        generalize placeB l s cut.length i cut[i] = pb at *
        generalize cut[i] = p at *
        have s1 : (hB.length + sm.length ≤ 9223372036854775807) = True := eq_true (by omega)
        have s2 : (hB.length + sm.length + p.length ≤ 9223372036854775807) = True := eq_true (by omega)
        repeat' (first
         |with_reducible first|refine vSq fun K hK=>?_|refine vRg ?_|refine vBl ?_|refine vSc ?_|refine vIf ?_|refine vSk ?_|refine vEx ?_|refine vRt ?_
         |(with_reducible first|refine gNt (fun h=>?_) (fun h=>?_)|refine gCs (fun h=>?_) (fun h=>?_))<;>(try simp only[h])
         |refine C_pure kh rfl rfl (fun k => (hAb _ (Nat.le_add_right _ _)).2 k) ?_
         |refine C_pure ksm rfl rfl (fun k => (hAb _ (Nat.le_add_right _ _)).2 k) ?_
         |refine C_pure kse rfl rfl (fun k => (hAb _ (Nat.le_add_right _ _)).2 k) ?_
         |refine C_call rfl kw rfl hAb2 ?_
         |refine C_call rfl kt rfl hAb2 ?_
         |with_reducible first|(refine hK _ ?_;clear hK K)|(clear hK K;refine hK _ ?_;clear hK K)|(clear hK K;clear hK K;refine hK _ ?_;clear hK K)|(clear hK K;clear hK K;clear hK K;refine hK _ ?_;clear hK K)
         |(with_reducible refine todo ?_;simp +decide only[go_sem, hlh, hne, hc, h3, c1, c2, c3, c4, hlen, hq, z60, s1, s2]))
        exact RetR_eq rfl (wk_c (.inr (.inl ⟨rfl, True.intro⟩))) True.intro hwE (fun _ _ => rfl) rfl (fun i h => upd_keepH i (upd_keepH i h)) (fun κ h => upd_keep _ h)
set_option maxRecDepth 8000 in
set_option maxHeartbeats 16000000 in
theorem Try.kCommitB (off : Nat) (hw : Wf H A) (hl : LgAt H A lid did κr l) (hd : DkAt H A did κm κc d) (hh : l.halted = false) (hn : 0 < d.n) (hb : burnt d = true) : EffOK Try.prog 34 off H A [.c (.ptr lid 0)] (pD (.lit (.int .i64 6))) (upd H lid (some (encLg did κr { l with halted := true }))) A := by
  refine effr_ok (E := envOf Try.prog [53, 55, 60] off [] []) (envOf_ok Try.mixed) Try.func34 rfl Try.call34 (by kernel_rfl) (by exact Nat.le_of_ble_eq_true rfl) (fun hab => ?_)
  have hlh := hl.h
  have hdid : H did ≠ none := by rw [hd.h]; simp
  have ks := Try.kState (off + 1000) hw hl hh
  have kf := Try.kFlushNo (off + 1000) hw hd hn hb
  have kt := Try.kTook (off + 1000) hw hl hdid 6
  rw [show (l.halted || ((6 : Int) != 0)) = true by rw [hh]; rfl] at kt
  have hwE : Wf (upd H lid (some (encLg did κr { l with halted := true }))) A := Wf_set hw (LgAt.ok (upd_keepH _ hdid) (by rw [hl.r]; simp)) (fun _ h => h)
  unfold encLg at hlh
  repeat' (first
   |with_reducible first|refine vSq fun K hK=>?_|refine vRg ?_|refine vBl ?_|refine vSc ?_|refine vIf ?_|refine vSk ?_|refine vEx ?_|refine vRt ?_
   |(with_reducible first|refine gNt (fun h=>?_) (fun h=>?_)|refine gCs (fun h=>?_) (fun h=>?_))<;>(try simp only[h])
   |refine C_call rfl ks rfl (Above_mono hab (by omega)) ?_
   |refine C_call rfl kf rfl (Above_mono hab (by omega)) ?_
   |refine C_call rfl kt rfl (Above_mono hab (by omega)) ?_
   |with_reducible first|(refine hK _ ?_;clear hK K)|(clear hK K;refine hK _ ?_;clear hK K)|(clear hK K;clear hK K;refine hK _ ?_;clear hK K)|(clear hK K;clear hK K;clear hK K;refine hK _ ?_;clear hK K)
   |(with_reducible refine todo ?_;simp +decide only[go_sem, hlh, zne]))
  exact RetR_eq rfl (wk_c (.inr (.inl ⟨rfl, True.intro⟩))) True.intro hwE (fun _ _ => rfl) rfl upd_keepH (fun _ h => h)
end wal
end Go.Proofs

namespace Go.Proofs
open Go.PW
section wal
variable {H : HMap} {A : AMap} {k did : Nat} {κm κc : Tok} {d : Dk}
end wal
end Go.Proofs
