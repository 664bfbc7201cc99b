/-
  Parts of the proof, laid together: PwRc.
-/
import Derived.Test.YtghlemfokpfngaaQ35

namespace Go.Proofs
open Go.PW
section pg
variable {H : HMap} {A : AMap} {pid did lid : Nat} {κm κc κp κ κr : Tok} {d : Dk} {p : Pg} {l : Lg} {m : List (Int × List UInt8)}
set_option maxRecDepth 8000 in
set_option maxHeartbeats 16000000 in
theorem Try.kHomeB (off : Nat) (hw : Wf H A) (hp : PgAt H A pid did lid κp p) (hd : DkAt H A did κm κc d) (hl : p.logs ≤ d.n) (hn : d.n ≤ 4096) (hcl : d.cache.length ≤ 900000) (hm : A κ = some (.mp (encNS m))) (hlen : ∀ k r, findN k m 0 = some r → r.2.length ≤ 128)
    (K0 : Nat) (hK0 : K0 < pgN d p) (r0 : Nat × List UInt8) (hf0 : findN (K0 : Int) m 0 = some r0) (hb0 : burnt (homeD d p.logs m K0) = true) (hb : ∀ k r, k < K0 → findN (k : Int) m 0 = some r → burnt (homeD d p.logs m k) = false) :
    EffOK Try.prog 36 off H A [.c (.ptr pid 0), .c (.mpr κ)] (pD (.lit (.int .i64 6))) (upd H did (some (encDk κm κc (homeD d p.logs m K0)))) (upd A κc (some (.co 2 (homeD d p.logs m K0).cache.length))) := by
  refine effr_ok (E := envOf Try.prog [24, 56] off [] []) (envOf_ok Try.mixed) Try.func36 rfl Try.call36 (by kernel_rfl) (by exact Nat.le_of_ble_eq_true rfl) (fun hab => ?_)
  have hph := hp.h
  unfold encPg at hph
  have hne : pid ≠ did := hp.ne hd
  have hnc : κ ≠ κc := fun e => by have h1 := hm; rw [e, hd.c] at h1; cases h1
  have hlt := hd.lt hab
  have kl := Try.kPgLen (off + 1000) hw hp hd hl hn
  have hpn : pgN d p = d.n - p.logs := rfl
  have hsp := homeD_spec d p.logs m
  have hwk : ∀ k, Wf (upd H did (some (encDk κm κc (homeD d p.logs m k)))) (upd A κc (some (.co 2 (homeD d p.logs m k).cache.length))) := fun k => DkAt.wf hw hd _ upd_keep
  have hdk : ∀ k, DkAt (upd H did (some (encDk κm κc (homeD d p.logs m k)))) (upd A κc (some (.co 2 (homeD d p.logs m k).cache.length))) did κm κc (homeD d p.logs m k) := fun k => ⟨upd_same _ _ _, by rw [upd_other _ _ hd.ne.symm, (hsp k).2.2]; exact hd.m, upd_same _ _ _⟩
  have hptr : ∀ {A1 A2 : AMap} {x : List CV}, PV.wk (hOver [] (upd H did (some x))) A1 A2 (.c (.ptr pid 0)) (.c (.ptr pid 0)) = True := eq_true (wkP_ptr (upd_keepH _ (by rw [hp.h]; simp)))
  have hmpr : ∀ {G : HMap} {x y : Arr}, PV.wk G (upd A κc (some x)) (upd A κc (some y)) (.c (.mpr κ)) (.c (.mpr κ)) = True := fun {G x y} => eq_true (wk_c (.inr (.inl ⟨rfl, by rw [upd_other _ _ hnc, hm]; simp, by rw [upd_other _ _ hnc, upd_other _ _ hnc]⟩)))
  have hmp : ∀ x, mapOf (upd A κc (some x)) (.c (.mpr κ)) = some (encNS m) := fun x => mapOf_mpr (by rw [upd_other _ _ hnc]; exact hm)
  repeat' (first
   |with_reducible first|refine vSq fun K hK=>?_|refine vRg ?_|refine vBl ?_|refine vSc ?_|refine vIf ?_|refine vSk ?_|refine vEx ?_|refine vRt ?_
   |(with_reducible first|refine gNt (fun h=>?_) (fun h=>?_)|refine gCs (fun h=>?_) (fun h=>?_))<;>(try simp only[h])
   |refine C_call rfl kl rfl (Above_mono hab (by omega)) ?_
   |with_reducible first|(refine hK _ ?_;clear hK K)|(clear hK K;refine hK _ ?_;clear hK K)|(clear hK K;clear hK K;refine hK _ ?_;clear hK K)|(clear hK K;clear hK K;clear hK K;refine hK _ ?_;clear hK K)
   |(with_reducible refine todo ?_;simp +decide only[go_sem]))
  refine VC_range (pgN d p) (fun i => i ≤ K0) (fun i => over [(0, .c (.ptr pid 0)), (1, .c (.mpr κ)), (10, pD (.lit (.int .i64 (pgN d p)))), (11, pD (.lit (.int .i64 i)))] []
    (upd H did (some (encDk κm κc (homeD d p.logs m i)))) (upd A κc (some (.co 2 (homeD d p.logs m i).cache.length)))) (Nat.zero_le _) ?_ ?_
  · refine Weak_overG (hwk 0) (fun i _ => ?_) (upd_self hd.c).symm ?_ ?_ upd_keepH upd_keep
    · rw [show upd H did (some (encDk κm κc (homeD d p.logs m 0))) = H from upd_self hd.h]
    · have e : upd A κc (some (.co 2 (homeD d p.logs m 0).cache.length)) = A := upd_self hd.c
      have hm0 : PV.wk (hOver [] (upd H did (some (encDk κm κc (homeD d p.logs m 0))))) (upd A κc (some (.co 2 (homeD d p.logs m 0).cache.length))) (upd A κc (some (.co 2 (homeD d p.logs m 0).cache.length))) (.c (.mpr κ)) (.c (.mpr κ)) = True := hmpr
      simp +decide only [go_sem, hptr, hm0]
    · simp +decide only [go_sem]
  · intro i hi hiK
    have hi2 : i < pgN d p := by omega
    have hc := int_lt_true hi2
    have hnx := int_next hi2 (by omega)
    have c1 : IntKind.i64.wrap ((p.logs : Int) + (i : Int)) = ((p.logs + i : Nat) : Int) := by rw [Go.IntWalk.i64_in _ (by omega)]; omega
    have hAb : Above (off + 1000) (upd H did (some (encDk κm κc (homeD d p.logs m i)))) (upd A κc (some (.co 2 (homeD d p.logs m i).cache.length))) := Above_updA (Above_updH (Above_mono hab (by omega)) (by omega)) (by omega)
    have h1 : dkRight (homeD d p.logs m i) ((p.logs + i : Nat) : Int) = 0 := by
      have := (hsp i).1
      unfold dkRight; rw [if_neg (by omega), if_neg (by omega)]
    rcases Nat.lt_or_ge i K0 with hi3 | hi3
    · cases hf : findN (i : Int) m 0 with
      | none =>
        have e : homeD d p.logs m (i + 1) = homeD d p.logs m i := by rw [homeD, hf]
        repeat' (first
         |with_reducible first|refine vSq fun K hK=>?_|refine vRg ?_|refine vBl ?_|refine vSc ?_|refine vIf ?_|refine vSk ?_|refine vEx ?_|refine vRt ?_
         |(with_reducible first|refine gNt (fun h=>?_) (fun h=>?_)|refine gCs (fun h=>?_) (fun h=>?_))<;>(try simp only[h])
         |with_reducible first|(refine hK _ ?_;clear hK K)|(clear hK K;refine hK _ ?_;clear hK K)|(clear hK K;clear hK K;refine hK _ ?_;clear hK K)|(clear hK K;clear hK K;clear hK K;refine hK _ ?_;clear hK K)
         |(with_reducible refine todo ?_;simp +decide only[go_sem, hc, hnx, hmp, mfind_N, hf]))
        refine Next_of hi2 (by omega) (Weak_overG (hwk (i + 1)) (fun _ _ => by rw [e]; rfl) (by rw [e]) ?_ ?_ upd_keepH upd_keep)
        · rw [e]
          simp +decide only [go_sem, hptr, hmpr]
        · simp +decide only [go_sem]
      | some r =>
        have e : homeD d p.logs m (i + 1) = wrD (homeD d p.logs m i) ((p.logs + i : Nat) : Int) r.2 := by rw [homeD, hf]
        have hrl := hlen _ _ hf
        have hbn := hb i r hi3 hf
        have hwe : writeE (homeD d p.logs m i) ((p.logs + i : Nat) : Int) r.2 = 0 := by
          unfold writeE
          rw [if_neg (by simpa using h1), if_neg (by omega), hbn]
          rfl
        have kw := Try.kWrite (off + 1000) (hwk i) (hdk i) ((p.logs + i : Nat) : Int) r.2 (by rw [(hsp i).1]; omega) (by have := (hsp i).2.1; omega) hwe
        have hcl2 : (wrD (homeD d p.logs m i) ((p.logs + i : Nat) : Int) r.2).cache.length = (homeD d p.logs m i).cache.length + 1 := by simp [wrD]
        rw [upd_twice, upd_twice, ← hcl2, ← e] at kw
        repeat' (first
         |with_reducible first|refine vSq fun K hK=>?_|refine vRg ?_|refine vBl ?_|refine vSc ?_|refine vIf ?_|refine vSk ?_|refine vEx ?_|refine vRt ?_
         |(with_reducible first|refine gNt (fun h=>?_) (fun h=>?_)|refine gCs (fun h=>?_) (fun h=>?_))<;>(try simp only[h])
         |refine C_call rfl kw rfl hAb ?_
         |with_reducible first|(refine hK _ ?_;clear hK K)|(clear hK K;refine hK _ ?_;clear hK K)|(clear hK K;clear hK K;refine hK _ ?_;clear hK K)|(clear hK K;clear hK K;clear hK K;refine hK _ ?_;clear hK K)
         |(with_reducible refine todo ?_;simp +decide only[go_sem, hc, hnx, hmp, mfind_N, hf, hph, hne, c1, zne]))
        refine Next_of hi2 (by omega) (Weak_overG (hwk (i + 1)) (fun _ _ => rfl) rfl ?_ ?_ upd_keepH upd_keep)
        · simp +decide only [go_sem, hptr, hmpr]
        · simp +decide only [go_sem]
    · have hie : i = K0 := by omega
      subst hie
      have hrl := hlen _ _ hf0
      have hwe : writeE (homeD d p.logs m i) ((p.logs + i : Nat) : Int) r0.2 = 6 := by
        unfold writeE
        rw [if_neg (by simpa using h1), if_neg (by omega), if_pos hb0]
      have kw := Try.kWriteNo (off + 1000) (hwk i) (hdk i) ((p.logs + i : Nat) : Int) r0.2 (by rw [(hsp i).1]; omega) (by rw [hwe]; decide)
      rw [hwe] at kw
      repeat' (first
       |with_reducible first|refine vSq fun K hK=>?_|refine vRg ?_|refine vBl ?_|refine vSc ?_|refine vIf ?_|refine vSk ?_|refine vEx ?_|refine vRt ?_
       |(with_reducible first|refine gNt (fun h=>?_) (fun h=>?_)|refine gCs (fun h=>?_) (fun h=>?_))<;>(try simp only[h])
       |refine C_call rfl kw rfl hAb ?_
       |with_reducible first|(refine hK _ ?_;clear hK K)|(clear hK K;refine hK _ ?_;clear hK K)|(clear hK K;clear hK K;refine hK _ ?_;clear hK K)|(clear hK K;clear hK K;clear hK K;refine hK _ ?_;clear hK K)
       |(with_reducible refine todo ?_;simp +decide only[go_sem, hc, hmp, mfind_N, hf0, hph, hne, c1, z60]))
      exact RetR_eq rfl (wk_c (.inr (.inl ⟨rfl, True.intro⟩))) True.intro (hwk _) (fun _ _ => rfl) rfl upd_keepH upd_keep
set_option maxRecDepth 8000 in
set_option maxHeartbeats 16000000 in
theorem Try.kSettle0 (off : Nat) (hw : Wf H A) (hp : PgAt H A pid did lid κp p) {v : Int} (hv : (v != 0) = true) (e1 : EffOK Try.prog 60 (off + 1000) H A [.c (.ptr did 0)] (pD (.lit (.int .i64 v))) H A) :
    EffOK Try.prog 37 off H A [.c (.ptr pid 0)] (pD (.lit (.int .i64 v))) H A := by
  refine effr_ok (E := envOf Try.prog [60, 61] off [] []) (envOf_ok Try.mixed) Try.func37 rfl Try.call37 (by kernel_rfl) (by exact Nat.le_of_ble_eq_true rfl) (fun hab => ?_)
  have hph := hp.h
  unfold encPg at hph
  repeat' (first
   |with_reducible first|refine vSq fun K hK=>?_|refine vRg ?_|refine vBl ?_|refine vSc ?_|refine vIf ?_|refine vSk ?_|refine vEx ?_|refine vRt ?_
   |(with_reducible first|refine gNt (fun h=>?_) (fun h=>?_)|refine gCs (fun h=>?_) (fun h=>?_))<;>(try simp only[h])
   |refine C_call rfl e1 rfl (Above_mono hab (by omega)) ?_
   |with_reducible first|(refine hK _ ?_;clear hK K)|(clear hK K;refine hK _ ?_;clear hK K)|(clear hK K;clear hK K;refine hK _ ?_;clear hK K)|(clear hK K;clear hK K;clear hK K;refine hK _ ?_;clear hK K)
   |(with_reducible refine todo ?_;simp +decide only[go_sem, hph, hv]))
  exact RetR_same rfl (by simp +decide only [go_sem]) True.intro hw kp_refl (fun _ _ => rfl)
set_option maxRecDepth 8000 in
set_option maxHeartbeats 16000000 in
theorem Try.kSettle1 (off : Nat) (hp : PgAt H A pid did lid κp p) {H1 H2 : HMap} {A1 A2 : AMap} {v : Int} (e1 : EffOK Try.prog 60 (off + 1000) H A [.c (.ptr did 0)] (pD (.lit (.int .i64 0))) H1 A1) (hp1 : PgAt H1 A1 pid did lid κp p) (ab1 : Above (off + 1000) H1 A1)
    (e2 : EffOK Try.prog 61 (off + 1000) H1 A1 [.c (.ptr lid 0)] (pD (.lit (.int .i64 v))) H2 A2) (hw2 : Wf H2 A2) (kH : ∀ j, H j ≠ none → H2 j ≠ none) (kA : ∀ τ, A τ ≠ none → A2 τ ≠ none) :
    EffOK Try.prog 37 off H A [.c (.ptr pid 0)] (pD (.lit (.int .i64 v))) H2 A2 := by
  refine effr_ok (E := envOf Try.prog [60, 61] off [] []) (envOf_ok Try.mixed) Try.func37 rfl Try.call37 (by kernel_rfl) (by exact Nat.le_of_ble_eq_true rfl) (fun hab => ?_)
  have hph := hp.h
  have hph1 := hp1.h
  unfold encPg at hph hph1
  repeat' (first
   |with_reducible first|refine vSq fun K hK=>?_|refine vRg ?_|refine vBl ?_|refine vSc ?_|refine vIf ?_|refine vSk ?_|refine vEx ?_|refine vRt ?_
   |(with_reducible first|refine gNt (fun h=>?_) (fun h=>?_)|refine gCs (fun h=>?_) (fun h=>?_))<;>(try simp only[h])
   |refine C_call rfl e1 rfl (Above_mono hab (by omega)) ?_
   |refine C_call rfl e2 rfl ab1 ?_
   |with_reducible first|(refine hK _ ?_;clear hK K)|(clear hK K;refine hK _ ?_;clear hK K)|(clear hK K;clear hK K;refine hK _ ?_;clear hK K)|(clear hK K;clear hK K;clear hK K;refine hK _ ?_;clear hK K)
   |(with_reducible refine todo ?_;simp +decide only[go_sem, hph, hph1, zne]))
  exact RetR_eq rfl (wk_c (.inr (.inl ⟨rfl, True.intro⟩))) True.intro hw2 (fun _ _ => rfl) rfl kH kA
end pg
structure WXs (H : HMap) (A : AMap) (k did pid lid : Nat) (κm κc κr κp : Tok) (d : Dk) (l : Lg) (p : Pg) : Prop where
  lw : LW H A k did κm κc d
  lg : LgAt H A lid did κr l
  pg : PgAt H A pid did lid κp p
  ne : κp ≠ κm
  lo : ∀ j, j < 200 → H j = none ∧ ∀ q, A (j, q) = none
structure KP (k : Nat) (H : HMap) (A : AMap) (H' : HMap) (A' : AMap) : Prop where
  kH : ∀ j, H j ≠ none → H' j ≠ none
  kA : ∀ τ, A τ ≠ none → A' τ ≠ none
  nH : ∀ j, j < k → H j = none → H' j = none
  nA : ∀ τ, τ.1 < k → A τ = none → A' τ = none
theorem KP.refl {k : Nat} {H : HMap} {A : AMap} : KP k H A H A := ⟨fun _ h => h, fun _ h => h, fun _ _ h => h, fun _ _ h => h⟩
theorem KP.trans {k k1 : Nat} {H H1 H2 : HMap} {A A1 A2 : AMap} (h : KP k H A H1 A1) (h' : KP k1 H1 A1 H2 A2) (hk : k ≤ k1 := by omega) : KP k H A H2 A2 :=
  ⟨fun j x => h'.kH j (h.kH j x), fun τ x => h'.kA τ (h.kA τ x), fun j a x => h'.nH j (by omega) (h.nH j a x), fun τ a x => h'.nA τ (by omega) (h.nA τ a x)⟩
theorem burnt_fused {d : Dk} (h : burnt d = true) : d.fused = true := (Bool.and_eq_true_iff.1 h).1
theorem lo_big {H : HMap} {A : AMap} (lo : ∀ j, j < 200 → H j = none ∧ ∀ q, A (j, q) = none) : (∀ {j : Nat}, H j ≠ none → 200 ≤ j) ∧ ∀ {τ : Tok}, A τ ≠ none → 200 ≤ τ.1 :=
  ⟨fun {j} h => Nat.le_of_not_lt fun hlt => h (lo j hlt).1, fun {τ} h => Nat.le_of_not_lt fun hlt => h ((lo τ.1 hlt).2 τ.2)⟩
section st
variable {H H' : HMap} {A A' : AMap} {k k' did pid lid : Nat} {κm κc κc' κr κr' κp : Tok} {d d' : Dk} {l l' : Lg} {p : Pg}
theorem WXs.nums (h : WXs H A k did pid lid κm κc κr κp d l p) : κp ≠ κc ∧ κp ≠ κr ∧ pid ≠ did ∧ pid ≠ lid ∧ pid < k ∧ κp.1 < k ∧ 200 ≤ did ∧ 200 ≤ lid ∧ 200 ≤ pid ∧ 200 ≤ κm.1 ∧ 200 ≤ κc.1 ∧ 200 ≤ κr.1 ∧ 200 ≤ κp.1 ∧ did < k ∧ lid < k := by
  have hp := h.pg.m
  have hlt := h.pg.lt h.lw.ab
  have b := lo_big h.lo
  have hdl := h.lg.lt h.lw.ab
  exact ⟨(fun e => by rw [e, h.lw.dk.c] at hp; cases hp), (fun e => by rw [e, h.lg.r] at hp; cases hp), h.pg.ne h.lw.dk, h.pg.neL h.lg, hlt.1, hlt.2, b.1 (by rw [h.lw.dk.h]; simp), b.1 (by rw [h.lg.h]; simp), b.1 (by rw [h.pg.h]; simp),
    b.2 (by rw [h.lw.dk.m]; simp), b.2 (by rw [h.lw.dk.c]; simp), b.2 (by rw [h.lg.r]; simp), b.2 (by rw [h.pg.m]; simp), h.lw.ne.1, hdl.1⟩
theorem WXs.step (h : WXs H A k did pid lid κm κc κr κp d l p) (L : LW H' A' k' did κm κc' d') (g : LgAt H' A' lid did κr' l') (fH : ∀ j, j ≠ did → j ≠ lid → H' j = H j) (fA : ∀ τ, τ ≠ κm → τ ≠ κc → τ ≠ κr → τ.1 < k → A' τ = A τ) (kA : ∀ τ, A τ ≠ none → A' τ ≠ none) :
    WXs H' A' k' did pid lid κm κc' κr' κp d' l' p ∧ KP k H A H' A' := by
  obtain ⟨q1, q2, q3, q4, q5, q6, q7, q8, q9, q10, q11, q12, q13, q14, q15⟩ := h.nums
  refine ⟨⟨L, g, h.pg.mv (fH _ q3 q4) (fA _ h.ne q1 q2 q6), h.ne, fun j hj => ⟨?_, fun q => ?_⟩⟩, fun j hj => ?_, kA, fun j hj hn => ?_, fun τ hτ hn => ?_⟩
  · rw [fH j (by omega) (by omega)]; exact (h.lo j hj).1
  · rw [fA _ (tok_ne (by show j ≠ κm.1; omega)) (tok_ne (by show j ≠ κc.1; omega)) (tok_ne (by show j ≠ κr.1; omega)) (by show j < k; omega)]
    exact (h.lo j hj).2 q
  · by_cases x1 : j = did
    · rw [x1, L.dk.h]; simp
    · by_cases x2 : j = lid
      · rw [x2, g.h]; simp
      · rw [fH j x1 x2]; exact hj
  · rw [fH j (fun e => by rw [e, h.lw.dk.h] at hn; cases hn) (fun e => by rw [e, h.lg.h] at hn; cases hn)]; exact hn
  · rw [fA τ (fun e => by rw [e, h.lw.dk.m] at hn; cases hn) (fun e => by rw [e, h.lw.dk.c] at hn; cases hn) (fun e => by rw [e, h.lg.r] at hn; cases hn) hτ]; exact hn
def WSO (off : Nat) (P : Program) (f : FuncId) (H : HMap) (A : AMap) (args : List PV) (k k' did pid lid : Nat) (κm κp : Tok) (p : Pg) (R : Int → Dk → Lg → Prop) : Prop :=
  ∃ H' A' v d' l' κc' κr', EffOK P f off H A args (pD (.lit (.int .i64 v))) H' A' ∧ WXs H' A' k' did pid lid κm κc' κr' κp d' l' p ∧ KP k H A H' A' ∧ R v d' l'
theorem Try.wAppend (off : Nat) (h : WXs H A k did pid lid κm κc κr κp d l p) (hh : l.halted = false) (s : List UInt8) (hs : s.length ≤ 5000) (hfit : l.used + needN s.length ≤ l.places) (hp : l.places ≤ 1000) (ht : l.turn < 9223372036854775808)
    (hin : l.from_ + 2 + l.places ≤ d.n) (hdn : d.n ≤ 4096) (hcl : d.cache.length + 100 ≤ 1000000) (hrl : l.recs.length ≤ 1000000) :
    WSO off Try.prog 33 H A [.c (.ptr lid 0), pD (dS s)] k k did pid lid κm κp p fun v d' l' =>
      (v = 0 ∧ d' = apD l s (partsL s).length (partsL s) d (partsL s).length ∧ l' = { l with recs := l.recs ++ [s], used := l.used + (partsL s).length }) ∨ (v = 6 ∧ d.fused = true ∧ l' = { l with halted := true } ∧ ∃ k0, k0 ≤ (partsL s).length ∧ d' = apD l s (partsL s).length (partsL s) d k0) := by
  rcases least_burnt (fun k0 => burnt (apD l s (partsL s).length (partsL s) d k0)) (partsL s).length with hb | ⟨k0, h1, h2, h3⟩
  · obtain ⟨H', A', e, L, g, _, f, fa, kA⟩ := Try.tAppendG off h.lw h.lg hh s hs hfit hp ht hin hdn hcl hrl hb
    obtain ⟨w, q⟩ := h.step L g f (fun τ _ a b _ => fa τ a b) kA
    exact ⟨H', A', _, _, _, _, _, e, w, q, .inl ⟨rfl, rfl, rfl⟩⟩
  · obtain ⟨H', A', e, L, g, f, fa, kA⟩ := Try.tAppendB off h.lw h.lg hh s hs hfit hp ht hin hdn hcl k0 h1 h3 h2
    obtain ⟨w, q⟩ := h.step L g f (fun τ _ a _ _ => fa τ a) kA
    exact ⟨H', A', _, _, _, _, _, e, w, q, .inr ⟨rfl, (apD_spec l s (partsL s).length (partsL s) d k0).2.2.1.symm.trans (burnt_fused h2), rfl, k0, by omega, rfl⟩⟩
theorem Try.wCommit (off : Nat) (h : WXs H A k did pid lid κm κc κr κp d l p) (hk : k < off + 1000) (hh : l.halted = false) (hn : 0 < d.n) (hcl : d.cache.length ≤ 1000000) :
    WSO off Try.prog 34 H A [.c (.ptr lid 0)] k (k + 1) did pid lid κm κp p fun v d' l' => (v = 0 ∧ d' = flD d ∧ l' = l) ∨ (v = 6 ∧ d.fused = true ∧ d' = d ∧ l' = { l with halted := true }) := by
  cases hb : burnt d with
  | false =>
    obtain ⟨H', A', e, L, g, f, fa, kA⟩ := Try.tCommitG off h.lw hk h.lg hh hn hcl hb
    obtain ⟨w, q⟩ := h.step L g (fun j a _ => f j a) (fun τ a _ _ b => fa τ a b) kA
    exact ⟨H', A', _, _, _, _, _, e, w, q, .inl ⟨rfl, rfl, rfl⟩⟩
  | true =>
    obtain ⟨H', A', e, rfl, L, g, f⟩ := Try.tCommitB off h.lw h.lg hh hn hb
    obtain ⟨w, q⟩ := h.step (k' := k + 1) ⟨L.wf, Above_mono L.ab (by omega), L.dk⟩ g (fun j _ a => f j a) (fun τ _ _ _ _ => rfl) (fun _ h => h)
    exact ⟨H', A', _, _, _, _, _, e, w, q, .inr ⟨rfl, burnt_fused hb, rfl, rfl⟩⟩
theorem Try.wHome (off : Nat) (h : WXs H A k did pid lid κm κc κr κp d l p) (hl : p.logs ≤ d.n) (hn : d.n ≤ 4096) (hcl : d.cache.length ≤ 900000) {κ : Tok} {m : List (Int × List UInt8)} (hm : A κ = some (.mp (encNS m))) (hlen : ∀ k r, findN k m 0 = some r → r.2.length ≤ 128) :
    WSO off Try.prog 36 H A [.c (.ptr pid 0), .c (.mpr κ)] k k did pid lid κm κp p fun v d' l' => l' = l ∧ ((v = 0 ∧ d' = homeD d p.logs m (pgN d p)) ∨ (v = 6 ∧ d.fused = true ∧ ∃ K, K ≤ pgN d p ∧ d' = homeD d p.logs m K)) := by
  obtain ⟨n1, n2, n3⟩ := h.lw.ne
  have key : ∀ {v : Int} {K : Nat}, EffOK Try.prog 36 off H A [.c (.ptr pid 0), .c (.mpr κ)] (pD (.lit (.int .i64 v))) (upd H did (some (encDk κm κc (homeD d p.logs m K)))) (upd A κc (some (.co 2 (homeD d p.logs m K).cache.length))) →
      (l = l ∧ ((v = 0 ∧ homeD d p.logs m K = homeD d p.logs m (pgN d p)) ∨ (v = 6 ∧ d.fused = true ∧ ∃ K', K' ≤ pgN d p ∧ homeD d p.logs m K = homeD d p.logs m K'))) →
      WSO off Try.prog 36 H A [.c (.ptr pid 0), .c (.mpr κ)] k k did pid lid κm κp p fun v d' l' => l' = l ∧ ((v = 0 ∧ d' = homeD d p.logs m (pgN d p)) ∨ (v = 6 ∧ d.fused = true ∧ ∃ K, K ≤ pgN d p ∧ d' = homeD d p.logs m K)) := fun {v K} e hr => by
    have hsp := homeD_spec d p.logs m K
    obtain ⟨w, q⟩ := h.step (κc' := κc) (κr' := κr) (l' := l) (k' := k) (d' := homeD d p.logs m K) (H' := upd H did (some (encDk κm κc (homeD d p.logs m K)))) (A' := upd A κc (some (.co 2 (homeD d p.logs m K).cache.length)))
      ⟨DkAt.wf h.lw.wf h.lw.dk _ upd_keep, Above_updA (Above_updH h.lw.ab n1) n3, ⟨upd_same _ _ _, by rw [upd_other _ _ h.lw.dk.ne.symm, hsp.2.2]; exact h.lw.dk.m, upd_same _ _ _⟩⟩
      (h.lg.mv (upd_other _ _ (h.lg.ne h.lw.dk)) (upd_other _ _ (h.lg.nc h.lw.dk))) (fun j a _ => upd_other _ _ a) (fun τ _ a _ _ => upd_other _ _ a) upd_keep
    exact ⟨_, _, _, _, _, _, _, e, w, q, hr⟩
  rcases least_burnt (fun k0 => (findN (k0 : Int) m 0).isSome && burnt (homeD d p.logs m k0)) (pgN d p) with hb | ⟨K, h1, h2, h3⟩
  · refine key (Try.kHome off h.lw.wf h.pg h.lw.dk hl hn hcl hm hlen fun k0 r hk hf => ?_) ⟨rfl, .inl ⟨rfl, rfl⟩⟩
    have := hb k0 hk
    simp only [hf, Option.isSome_some, Bool.true_and] at this
    exact this
  · obtain ⟨h4, h5⟩ := Bool.and_eq_true_iff.1 h2
    obtain ⟨r, hr⟩ := Option.isSome_iff_exists.1 h4
    refine key (Try.kHomeB off h.lw.wf h.pg h.lw.dk hl hn hcl hm hlen K h1 r hr h5 fun k0 r hk hf => ?_) ⟨rfl, .inr ⟨rfl, (homeD_fused d p.logs m K).symm.trans (burnt_fused h5), K, by omega, rfl⟩⟩
    have := h3 k0 hk
    simp only [hf, Option.isSome_some, Bool.true_and] at this
    exact this
theorem Try.wSettle (off : Nat) (h : WXs H A k did pid lid κm κc κr κp d l p) (hk : k + 2 ≤ off + 1000) (hh : l.halted = false) (ht : l.turn + 1 < 9223372036854775807) (hin : l.from_ + 1 < d.n) (hdn : d.n ≤ 4096) (hcl : d.cache.length ≤ 900000) :
    WSO off Try.prog 37 H A [.c (.ptr pid 0)] k (k + 2) did pid lid κm κp p fun v d' l' =>
      (v = 0 ∧ d' = nextD (flD d) l.from_ (l.turn + 1) (l.turn + 1) ∧ l' = { l with turn := l.turn + 1, base := l.turn + 1, used := 0, recs := [] }) ∨ (v = 6 ∧ d.fused = true ∧ (d' = d ∨ d' = flD d ∨ d' = wrD (flD d) ((l.from_ + (l.turn + 1) % 2 : Nat) : Int) (turnB (l.turn + 1) (l.turn + 1)))) := by
  have up : ∀ {H : HMap} {A : AMap} {k k' : Nat} {κc κr : Tok} {d : Dk} {l : Lg}, WXs H A k did pid lid κm κc κr κp d l p → k ≤ k' → WXs H A k' did pid lid κm κc κr κp d l p := fun h hk => ⟨⟨h.lw.wf, Above_mono h.lw.ab hk, h.lw.dk⟩, h.lg, h.pg, h.ne, h.lo⟩
  cases hb : burnt d with
  | true =>
    exact ⟨H, A, 6, d, l, κc, κr, Try.kSettle0 off h.lw.wf h.pg rfl (Try.kFlushNo (off + 1000) h.lw.wf h.lw.dk (by omega) hb), up h (by omega), KP.refl, .inr ⟨rfl, burnt_fused hb, .inl rfl⟩⟩
  | false =>
    obtain ⟨H1, A1, e1, L1, g1, f1, fa1, k1⟩ := Try.tFlush (off + 1000) h.lw (by omega) (by omega) hb
    obtain ⟨w1, q1⟩ := h.step L1 (g1 _ _ _ h.lg) (fun j a _ => f1 j a) (fun τ a _ _ b => fa1 τ a b) k1
    have ab1 : Above (off + 1000) H1 A1 := Above_mono L1.ab (by omega)
    have hc1 : (flD d).cache.length + 1 ≤ 1000000 := by show 0 + 1 ≤ _; omega
    cases hb1 : burnt (flD d) with
    | true =>
      obtain ⟨H2, A2, e2, rfl, L2, g2, f2⟩ := Try.tResetB0 (off + 1000) L1 w1.lg hh ht hin hdn hb1
      obtain ⟨w2, q2⟩ := w1.step L2 g2 (fun j _ a => f2 j a) (fun τ _ _ _ _ => rfl) (fun _ h => h)
      have q := q1.trans q2
      exact ⟨H2, A2, 6, _, _, _, _, Try.kSettle1 off h.pg e1 w1.pg ab1 e2 L2.wf q.kH q.kA, up w2 (by omega), q, .inr ⟨rfl, burnt_fused (d := flD d) hb1, .inr (.inl rfl)⟩⟩
    | false =>
      cases hb2 : burnt (wrD (flD d) ((l.from_ + (l.turn + 1) % 2 : Nat) : Int) (turnB (l.turn + 1) (l.turn + 1))) with
      | true =>
        obtain ⟨H2, A2, e2, L2, g2, f2, fa2, k2⟩ := Try.tResetB1 (off + 1000) L1 w1.lg hh ht hin hdn hc1 hb1 hb2
        obtain ⟨w2, q2⟩ := w1.step L2 g2 f2 (fun τ _ a _ _ => fa2 τ a) k2
        have q := q1.trans q2
        exact ⟨H2, A2, 6, _, _, _, _, Try.kSettle1 off h.pg e1 w1.pg ab1 e2 L2.wf q.kH q.kA, up w2 (by omega), q, .inr ⟨rfl, (burnt_fused hb2 :), .inr (.inr rfl)⟩⟩
      | false =>
        obtain ⟨H2, A2, e2, L2, g2, _, f2, fa2, k2⟩ := Try.tResetG (off + 1000) L1 (by omega) w1.lg hh ht hin hdn hc1 hb1 hb2
        obtain ⟨w2, q2⟩ := w1.step L2 g2 f2 (fun τ a b _ c => fa2 τ a b c) k2
        have q := q1.trans q2
        exact ⟨H2, A2, 0, _, _, _, _, Try.kSettle1 off h.pg e1 w1.pg ab1 e2 L2.wf q.kH q.kA, w2, q, .inl ⟨rfl, rfl, rfl⟩⟩
end st
end Go.Proofs
