import Derived.Test.YtkifoeiilkhnhaaQ29
import Derived.Test.YtkifoeiilkhnhaaQ26

/-
  The pager: pages are written home.
-/


namespace Go.Proofs
open Go.PW
/-- The disk behind so many pages. -/
def homeD (d : Dk) (logs : Nat) (m : List (Int × List UInt8)) : Nat → Dk
  | 0 => d
  | k + 1 => match findN (k : Int) m 0 with
    | some r => wrD (homeD d logs m k) ((logs + k : Nat) : Int) r.2
    | none => homeD d logs m k
theorem homeD_spec (d : Dk) (logs : Nat) (m : List (Int × List UInt8)) : ∀ k, (homeD d logs m k).n = d.n ∧ (homeD d logs m k).cache.length ≤ d.cache.length + k ∧ (homeD d logs m k).stays = d.stays
  | 0 => ⟨rfl, Nat.le_refl _, rfl⟩
  | k + 1 => by
    obtain ⟨h1, h2, h3⟩ := homeD_spec d logs m k
    unfold homeD
    split
    · exact ⟨h1, by simp [wrD]; omega, h3⟩
    · exact ⟨h1, by omega, h3⟩
section pg
variable {H : HMap} {A : AMap} {pid did lid : Nat} {κm κc κp κ : Tok} {d : Dk} {p : Pg} {m : List (Int × List UInt8)}
set_option maxRecDepth 8000 in
set_option maxHeartbeats 16000000 in
theorem Try.kHome (off : Nat) (hw : Wf H A) (hp : PgAt H A pid did lid κp p) (hd : DkAt H A did κm κc d) (hl : p.logs ≤ d.n) (hn : d.n ≤ 4096) (hcl : d.cache.length ≤ 900000) (hm : A κ = some (.mp (encNS m))) (hlen : ∀ k r, findN k m 0 = some r → r.2.length ≤ 128)
    (hb : ∀ k r, k < pgN d p → findN (k : Int) m 0 = some r → burnt (homeD d p.logs m k) = false) :
    EffOK Try.prog 44 off H A [.c (.ptr pid 0), .c (.mpr κ)] (pD (.lit (.int .i64 0))) (upd H did (some (encDk κm κc (homeD d p.logs m (pgN d p))))) (upd A κc (some (.co 2 (homeD d p.logs m (pgN d p)).cache.length))) := by
  refine effr_ok (E := envOf Try.prog [31, 67] off [] []) (envOf_ok Try.mixed) Try.func44 rfl Try.call44 (by kernel_rfl) (by exact Nat.le_of_ble_eq_true rfl) (fun hab => ?_)
  have hph := hp.h
  unfold encPg at hph
  have hne : pid ≠ did := fun e => by
    have h1 := hp.h
    rw [e, hd.h] at h1
    have := congrArg List.length (Option.some.inj h1)
    cases this
  have hnc : κ ≠ κc := fun e => by have h1 := hm; rw [e, hd.c] at h1; cases h1
  have hlt := hd.lt hab
  have kl := Try.kPgLen (off + 1000) hw hp hd hl hn
  have hpn : pgN d p = d.n - p.logs := rfl
  have hsp := homeD_spec d p.logs m
  have hwk : ∀ k, Wf (upd H did (some (encDk κm κc (homeD d p.logs m k)))) (upd A κc (some (.co 2 (homeD d p.logs m k).cache.length))) := fun k => DkAt.wf hw hd _ upd_keep
  have hdk : ∀ k, DkAt (upd H did (some (encDk κm κc (homeD d p.logs m k)))) (upd A κc (some (.co 2 (homeD d p.logs m k).cache.length))) did κm κc (homeD d p.logs m k) := fun k => ⟨upd_same _ _ _, by rw [upd_other _ _ hd.ne.symm, (hsp k).2.2]; exact hd.m, upd_same _ _ _⟩
  have hptr : ∀ {A1 A2 : AMap} {x : List CV}, PV.wk (hOver [] (upd H did (some x))) A1 A2 (.c (.ptr pid 0)) (.c (.ptr pid 0)) = True := eq_true (wkP_ptr (upd_keepH _ (by rw [hp.h]; simp)))
  have hmpr : ∀ {G : HMap} {x y : Arr}, PV.wk G (upd A κc (some x)) (upd A κc (some y)) (.c (.mpr κ)) (.c (.mpr κ)) = True := fun {G x y} => eq_true (wk_c (.inr (.inl ⟨rfl, by rw [upd_other _ _ hnc, hm]; simp, by rw [upd_other _ _ hnc, upd_other _ _ hnc]⟩)))
  have hmp : ∀ x, mapOf (upd A κc (some x)) (.c (.mpr κ)) = some (encNS m) := fun x => mapOf_mpr (by rw [upd_other _ _ hnc]; exact hm)
  repeat' (first
   | with_reducible first | refine VC_seq fun K hK => ?_ | refine W_region ?_ | refine VC_block ?_ | refine VC_scope ?_ | refine VC_if ?_ | refine VC_skip ?_ | refine VC_exit ?_ | refine VC_ret ?_
   | (with_reducible first | refine G_not (fun h => ?_) (fun h => ?_) | refine G_cases (fun h => ?_) (fun h => ?_)) <;> (try simp only [h])
   | refine C_call rfl kl rfl (Above_mono hab (by omega)) ?_
   | with_reducible first | (refine hK _ ?_; clear hK K) | (clear hK K; refine hK _ ?_; clear hK K) | (clear hK K; clear hK K; refine hK _ ?_; clear hK K) | (clear hK K; clear hK K; clear hK K; refine hK _ ?_; clear hK K)
   | (with_reducible refine todo ?_; simp +decide only [go_sem]))
  refine VC_range (pgN d p) (fun _ => True) (fun i => over [(0, .c (.ptr pid 0)), (1, .c (.mpr κ)), (10, pD (.lit (.int .i64 (pgN d p)))), (11, pD (.lit (.int .i64 i)))] []
    (upd H did (some (encDk κm κc (homeD d p.logs m i)))) (upd A κc (some (.co 2 (homeD d p.logs m i).cache.length)))) True.intro ?_ ?_
  · refine Weak_overG (hwk 0) (fun i _ => ?_) (upd_self hd.c).symm ?_ ?_ upd_keepH upd_keep
    · rw [show upd H did (some (encDk κm κc (homeD d p.logs m 0))) = H from upd_self hd.h]
    · have e : upd A κc (some (.co 2 (homeD d p.logs m 0).cache.length)) = A := upd_self hd.c
      have hm0 : PV.wk (hOver [] (upd H did (some (encDk κm κc (homeD d p.logs m 0))))) (upd A κc (some (.co 2 (homeD d p.logs m 0).cache.length))) (upd A κc (some (.co 2 (homeD d p.logs m 0).cache.length))) (.c (.mpr κ)) (.c (.mpr κ)) = True := hmpr
      simp +decide only [go_sem, hptr, hm0]
    · simp +decide only [go_sem]
  · intro i hi _
    rcases Nat.lt_or_ge i (pgN d p) with hi2 | hi2
    · have hc := int_lt_true hi2
      have hnx := int_next hi2 (by omega)
      have c1 : IntKind.i64.wrap ((p.logs : Int) + (i : Int)) = ((p.logs + i : Nat) : Int) := by rw [Go.IntWalk.i64_in _ (by omega)]; omega
      have hAb : Above (off + 1000) (upd H did (some (encDk κm κc (homeD d p.logs m i)))) (upd A κc (some (.co 2 (homeD d p.logs m i).cache.length))) := Above_updA (Above_updH (Above_mono hab (by omega)) (by omega)) (by omega)
      cases hf : findN (i : Int) m 0 with
      | none =>
        have e : homeD d p.logs m (i + 1) = homeD d p.logs m i := by rw [homeD, hf]
        repeat' (first
         | with_reducible first | refine VC_seq fun K hK => ?_ | refine W_region ?_ | refine VC_block ?_ | refine VC_scope ?_ | refine VC_if ?_ | refine VC_skip ?_ | refine VC_exit ?_ | refine VC_ret ?_
         | (with_reducible first | refine G_not (fun h => ?_) (fun h => ?_) | refine G_cases (fun h => ?_) (fun h => ?_)) <;> (try simp only [h])
         | with_reducible first | (refine hK _ ?_; clear hK K) | (clear hK K; refine hK _ ?_; clear hK K) | (clear hK K; clear hK K; refine hK _ ?_; clear hK K) | (clear hK K; clear hK K; clear hK K; refine hK _ ?_; clear hK K)
         | (with_reducible refine todo ?_; simp +decide only [go_sem, hc, hnx, hmp, mfind_N, hf]))
        refine Next_of hi2 True.intro (Weak_overG (hwk (i + 1)) (fun _ _ => by rw [e]; rfl) (by rw [e]) ?_ ?_ upd_keepH upd_keep)
        · rw [e]
          simp +decide only [go_sem, hptr, hmpr]
        · simp +decide only [go_sem]
      | some r =>
        have e : homeD d p.logs m (i + 1) = wrD (homeD d p.logs m i) ((p.logs + i : Nat) : Int) r.2 := by rw [homeD, hf]
        have hrl := hlen _ _ hf
        have hbn := hb i r hi2 hf
        have hwe : writeE (homeD d p.logs m i) ((p.logs + i : Nat) : Int) r.2 = 0 := by
          have h1 : dkRight (homeD d p.logs m i) ((p.logs + i : Nat) : Int) = 0 := by
            have := (hsp i).1
            unfold dkRight; rw [if_neg (by omega), if_neg (by omega)]
          unfold writeE
          rw [if_neg (by simpa using h1), if_neg (by omega), hbn]
          rfl
        have kw := Try.kWrite (off + 1000) (hwk i) (hdk i) ((p.logs + i : Nat) : Int) r.2 (by rw [(hsp i).1]; omega) (by have := (hsp i).2.1; omega) hwe
        have hcl2 : (wrD (homeD d p.logs m i) ((p.logs + i : Nat) : Int) r.2).cache.length = (homeD d p.logs m i).cache.length + 1 := by simp [wrD]
        rw [upd_twice, upd_twice, ← hcl2, ← e] at kw
        repeat' (first
         | with_reducible first | refine VC_seq fun K hK => ?_ | refine W_region ?_ | refine VC_block ?_ | refine VC_scope ?_ | refine VC_if ?_ | refine VC_skip ?_ | refine VC_exit ?_ | refine VC_ret ?_
         | (with_reducible first | refine G_not (fun h => ?_) (fun h => ?_) | refine G_cases (fun h => ?_) (fun h => ?_)) <;> (try simp only [h])
         | refine C_call rfl kw rfl hAb ?_
         | with_reducible first | (refine hK _ ?_; clear hK K) | (clear hK K; refine hK _ ?_; clear hK K) | (clear hK K; clear hK K; refine hK _ ?_; clear hK K) | (clear hK K; clear hK K; clear hK K; refine hK _ ?_; clear hK K)
         | (with_reducible refine todo ?_; simp +decide only [go_sem, hc, hnx, hmp, mfind_N, hf, hph, hne, c1, zne]))
        refine Next_of hi2 True.intro (Weak_overG (hwk (i + 1)) (fun _ _ => rfl) rfl ?_ ?_ upd_keepH upd_keep)
        · simp +decide only [go_sem, hptr, hmpr]
        · simp +decide only [go_sem]
    · have hc := int_lt_false hi2
      have hie : i = pgN d p := by omega
      subst hie
      repeat' (first
       | with_reducible first | refine VC_seq fun K hK => ?_ | refine W_region ?_ | refine VC_block ?_ | refine VC_scope ?_ | refine VC_if ?_ | refine VC_skip ?_ | refine VC_exit ?_ | refine VC_ret ?_
       | (with_reducible first | refine G_not (fun h => ?_) (fun h => ?_) | refine G_cases (fun h => ?_) (fun h => ?_)) <;> (try simp only [h])
       | with_reducible first | (refine hK _ ?_; clear hK K) | (clear hK K; refine hK _ ?_; clear hK K) | (clear hK K; clear hK K; refine hK _ ?_; clear hK K) | (clear hK K; clear hK K; clear hK K; refine hK _ ?_; clear hK K)
       | (with_reducible refine todo ?_; simp +decide only [go_sem, hc]))
      exact RetR_eq rfl (wk_c (.inr (.inl ⟨rfl, True.intro⟩))) True.intro (hwk _) (fun _ _ => rfl) rfl upd_keepH upd_keep
end pg
end Go.Proofs

/-
  The log's steps at any off (written by pg.py).
-/


namespace Go.Proofs
open Go.PW
/-- A call, and what is there behind it. -/
def SOK (off : Nat) (P : Program) (f : FuncId) (H : HMap) (A : AMap) (args : List PV) (v : PV) (R : HMap → AMap → Prop) : Prop := ∃ H' A', EffOK P f off H A args v H' A' ∧ R H' A'
section wal
variable {H : HMap} {A : AMap} {k did : Nat} {κm κc : Tok} {d : Dk}
theorem Try.tOpen (off : Nat) (hL : LW H A k did κm κc d) (hk : k < off + 1000) {f n t0 b0 t1 b1 : Nat} {pl : Nat → Option Pc} (ho : OpAt d f n t0 b0 t1 b1 pl) (hf : d.fused = false) :
    SOK off Try.prog 35 H A [.c (.ptr did 0), pD (.lit (.int .i64 f)), pD (.lit (.int .i64 n))] (.tup [.c (.ptr k 0), .c (.d (.lit (.int .i64 0)))]) fun H' A' =>
      LW H' A' (k + 1) did κm (k, 1) (nextD d f (opT t0 t1 + 1) (opB t0 b0 t1 b1)) ∧ LgAt H' A' k did (k, 0) (opL f n t0 b0 t1 b1 pl) ∧ (∀ lid κr l, LgAt H A lid did κr l → LgAt H' A' lid did κr l) ∧ (∀ j, j ≠ did → j ≠ k → H' j = H j) ∧ (∀ τ, τ ≠ κm → τ ≠ κc → τ.1 < k → A' τ = A τ) ∧ ∀ τ, A τ ≠ none → A' τ ≠ none := by
  obtain ⟨n1, n2, n3⟩ := hL.ne
  have nk : ((k, 1) : Tok) ≠ (k, 0) := fun e => by cases e
  have nm0 : κm ≠ (k, 0) := tok_ne (by show κm.1 ≠ k; omega)
  have nm1 : κm ≠ (k, 1) := tok_ne (by show κm.1 ≠ k; omega)
  have nc0 : κc ≠ (k, 0) := tok_ne (by show κc.1 ≠ k; omega)
  have nc1 : κc ≠ (k, 1) := tok_ne (by show κc.1 ≠ k; omega)
  have ko := Try.kOpen (id := k) (κr := (k, 0)) (κ' := (k, 1)) off hL.wf hL.dk ho (burnt_no hf) (burnt_no hf) (hL.new 0).1 (hL.new 0).2 (by show k < off + 1000; omega) (hL.new 1).2 nk
  have hdc : (nextD d f (opT t0 t1 + 1) (opB t0 b0 t1 b1)).cache.length = 0 := rfl
  generalize nextD d f (opT t0 t1 + 1) (opB t0 b0 t1 b1) = dn at *
  generalize opL f n t0 b0 t1 b1 pl = l' at *
  have kA : ∀ τ, A τ ≠ none → upd (upd (upd (upd A (k, 0) (some (.co 1 l'.recs.length))) κc (some (.co 2 (d.cache.length + 1)))) κm (some (.mp (encNS dn.stays)))) (k, 1) (some (.co 2 0)) τ ≠ none := fun τ h => upd_keep _ (upd_keep _ (upd_keep _ (upd_keep _ h)))
  have rκ : upd (upd (upd (upd A (k, 0) (some (.co 1 l'.recs.length))) κc (some (.co 2 (d.cache.length + 1)))) κm (some (.mp (encNS dn.stays)))) (k, 1) (some (.co 2 0)) (k, 0) = some (.co 1 l'.recs.length) := by
    rw [upd_other _ _ nk.symm, upd_other _ _ nm0.symm, upd_other _ _ nc0.symm, upd_same]
  refine ⟨_, _, ko, ⟨?_, ?_, ?_⟩, ⟨upd_same _ _ _, rκ⟩, ?_, fun j q1 q2 => by rw [upd_other _ _ q2, upd_other _ _ q1], fun τ q1 q2 q3 => by rw [upd_other _ _ (tok_ne (by show τ.1 ≠ k; omega)), upd_other _ _ q1, upd_other _ _ q2, upd_other _ _ (tok_ne (by show τ.1 ≠ k; omega))], kA⟩
  · exact Wf_set (A := upd (upd (upd (upd A (k, 0) (some (.co 1 l'.recs.length))) κc (some (.co 2 (d.cache.length + 1)))) κm (some (.mp (encNS dn.stays)))) (k, 1) (some (.co 2 0))) (Wf_set hL.wf (DkAt.ok (kA κm (by rw [hL.dk.m]; simp)) (by rw [upd_same]; simp)) kA)
      (LgAt.ok (upd_keepH _ (by rw [upd_same]; simp)) (by rw [rκ]; simp)) (fun _ h => h)
  · exact Above_updA (Above_updA (Above_updA (Above_updA (Above_updH (Above_updH (Above_mono hL.ab (by omega)) (by omega)) (by omega)) (by show k < k + 1; omega)) (by omega)) (by omega)) (by show k < k + 1; omega)
  · refine ⟨by rw [upd_other _ _ (by omega), upd_same], by rw [upd_other _ _ nm1, upd_same], by rw [upd_same, hdc]⟩
  · intro lid κr l hl
    obtain ⟨m1, m2⟩ := hl.lt hL.ab
    exact hl.mv (by rw [upd_other _ _ (by omega), upd_other _ _ (hl.ne hL.dk)]) (by rw [upd_other _ _ (tok_ne (by show κr.1 ≠ k; omega)), upd_other _ _ (hl.nm hL.dk), upd_other _ _ (hl.nc hL.dk), upd_other _ _ (tok_ne (by show κr.1 ≠ k; omega))])
theorem Try.tAppend (off : Nat) (hL : LW H A k did κm κc d) {lid : Nat} {κr : Tok} {l : Lg} (hl : LgAt H A lid did κr l) (hh : l.halted = false) (s : List UInt8) (hs : s.length ≤ 5000) (hfit : l.used + needN s.length ≤ l.places) (hp : l.places ≤ 1000) (ht : l.turn < 9223372036854775808)
    (hin : l.from_ + 2 + l.places ≤ d.n) (hdn : d.n ≤ 4096) (hcl : d.cache.length + 100 ≤ 1000000) (hrl : l.recs.length ≤ 1000000) (hf : d.fused = false) :
    SOK off Try.prog 41 H A [.c (.ptr lid 0), pD (dS s)] (pD (.lit (.int .i64 0))) fun H' A' =>
      LW H' A' k did κm κc (apD l s (partsL s).length (partsL s) d (partsL s).length) ∧ LgAt H' A' lid did κr { l with recs := l.recs ++ [s], used := l.used + (partsL s).length } ∧ (∀ lid' κr' l', lid' ≠ lid → κr' ≠ κr → LgAt H A lid' did κr' l' → LgAt H' A' lid' did κr' l') ∧ (∀ j, j ≠ did → j ≠ lid → H' j = H j) ∧ (∀ τ, τ ≠ κc → τ ≠ κr → A' τ = A τ) ∧ ∀ τ, A τ ≠ none → A' τ ≠ none := by
  obtain ⟨n1, n2, n3⟩ := hL.ne
  obtain ⟨m1, m2⟩ := hl.lt hL.ab
  have ka := Try.kAppend off hL.wf hl hL.dk hh s hs hfit hp ht hin hdn hcl hrl hf
  have hsp := (apD_spec l s (partsL s).length (partsL s) d (partsL s).length).2.1
  have hst := (apD_spec l s (partsL s).length (partsL s) d (partsL s).length).2.2.2
  generalize apD l s (partsL s).length (partsL s) d (partsL s).length = dn at *
  have kA : ∀ τ, A τ ≠ none → upd (upd A κc (some (.co 2 (d.cache.length + (partsL s).length)))) κr (some (.co 1 (l.recs.length + 1))) τ ≠ none := fun τ h => upd_keep _ (upd_keep _ h)
  refine ⟨_, _, ka, ⟨?_, ?_, ?_⟩, ⟨upd_same _ _ _, by rw [upd_same]; simp⟩, ?_, fun j q1 q2 => by rw [upd_other _ _ q2, upd_other _ _ q1], fun τ q1 q2 => by rw [upd_other _ _ q2, upd_other _ _ q1], kA⟩
  · exact Wf_set (A := upd (upd A κc (some (.co 2 (d.cache.length + (partsL s).length)))) κr (some (.co 1 (l.recs.length + 1)))) (Wf_set hL.wf (DkAt.ok (kA κm (by rw [hL.dk.m]; simp)) (kA κc (by rw [hL.dk.c]; simp))) kA) (LgAt.ok (upd_keepH _ (by rw [upd_same]; simp)) (by rw [upd_same]; simp)) (fun _ h => h)
  · exact Above_updA (Above_updA (Above_updH (Above_updH hL.ab n1) m1) n3) m2
  · refine ⟨by rw [upd_other _ _ (hl.ne hL.dk).symm, upd_same], by rw [upd_other _ _ (hl.nm hL.dk).symm, upd_other _ _ hL.dk.ne.symm, hst]; exact hL.dk.m, by rw [upd_other _ _ (hl.nc hL.dk).symm, upd_same, hsp]⟩
  · intro lid' κr' l' q1 q2 hl'
    exact hl'.mv (by rw [upd_other _ _ q1, upd_other _ _ (hl'.ne hL.dk)]) (by rw [upd_other _ _ q2, upd_other _ _ (hl'.nc hL.dk)])
theorem Try.tCommit (off : Nat) (hL : LW H A k did κm κc d) (hk : k < off + 1000) {lid : Nat} {κr : Tok} {l : Lg} (hl : LgAt H A lid did κr l) (hh : l.halted = false) (hn : 0 < d.n) (hcl : d.cache.length ≤ 1000000) (hf : d.fused = false) :
    SOK off Try.prog 42 H A [.c (.ptr lid 0)] (pD (.lit (.int .i64 0))) fun H' A' => LW H' A' (k + 1) did κm (k, 0) (flD d) ∧ (∀ lid κr l, LgAt H A lid did κr l → LgAt H' A' lid did κr l) ∧ (∀ j, j ≠ did → H' j = H j) ∧ (∀ τ, τ ≠ κm → τ.1 < k → A' τ = A τ) ∧ ∀ τ, A τ ≠ none → A' τ ≠ none := by
  obtain ⟨n1, n2, n3⟩ := hL.ne
  have nm0 : κm ≠ (k, 0) := tok_ne (by show κm.1 ≠ k; omega)
  have kc := Try.kCommit (κ' := (k, 0)) off hL.wf hl hL.dk hh hn hcl (burnt_no hf) (hL.new 0).2 (by show k < off + 1000; omega)
  have hdc : (flD d).cache.length = 0 := rfl
  generalize flD d = dn at *
  have kA : ∀ τ, A τ ≠ none → upd (upd A κm (some (.mp (encNS dn.stays)))) (k, 0) (some (.co 2 0)) τ ≠ none := fun τ h => upd_keep _ (upd_keep _ h)
  refine ⟨_, _, kc, ⟨?_, ?_, ?_⟩, ?_, fun j q1 => by rw [upd_other _ _ q1], fun τ q1 q2 => by rw [upd_other _ _ (tok_ne (by show τ.1 ≠ k; omega)), upd_other _ _ q1], kA⟩
  · exact Wf_set hL.wf (DkAt.ok (kA κm (by rw [hL.dk.m]; simp)) (by rw [upd_same]; simp)) kA
  · exact Above_updA (Above_updA (Above_updH (Above_mono hL.ab (by omega)) (by omega)) (by omega)) (by show k < k + 1; omega)
  · exact ⟨upd_same _ _ _, by rw [upd_other _ _ nm0, upd_same], by rw [upd_same, hdc]⟩
  · intro lid κr l hl
    obtain ⟨m1, m2⟩ := hl.lt hL.ab
    exact hl.mv (by rw [upd_other _ _ (hl.ne hL.dk)]) (by rw [upd_other _ _ (tok_ne (by show κr.1 ≠ k; omega)), upd_other _ _ (hl.nm hL.dk)])
theorem Try.tCrash (off : Nat) (hL : LW H A k did κm κc d) (hn : 0 < d.n) (hcl : d.cache.length ≤ 1000000) (keep : List Bool) (hkp : keep.length ≤ d.cache.length) :
    SOK off Try.prog 22 H A [.c (.ptr did 0), .c (.d (.sl (bools keep)))] (pD (.lit (.int .i64 0))) fun H' A' => LW H' A' (k + 1) did κm (k, 0) (crD d keep) ∧ (∀ lid κr l, LgAt H A lid did κr l → LgAt H' A' lid did κr l) ∧ (∀ j, j ≠ did → H' j = H j) ∧ (∀ τ, τ ≠ κm → τ.1 < k → A' τ = A τ) ∧ ∀ τ, A τ ≠ none → A' τ ≠ none := by
  obtain ⟨n1, n2, n3⟩ := hL.ne
  have nm0 : κm ≠ (k, 0) := tok_ne (by show κm.1 ≠ k; omega)
  have kc := Try.kCrash (κ' := (k, 0)) off hL.wf hL.dk hn hcl keep hkp (hL.new 0).2
  have hdc : (crD d keep).cache.length = 0 := rfl
  generalize crD d keep = dn at *
  have kA : ∀ τ, A τ ≠ none → upd (upd A κm (some (.mp (encNS dn.stays)))) (k, 0) (some (.co 2 0)) τ ≠ none := fun τ h => upd_keep _ (upd_keep _ h)
  refine ⟨_, _, kc, ⟨?_, ?_, ?_⟩, ?_, fun j q1 => by rw [upd_other _ _ q1], fun τ q1 q2 => by rw [upd_other _ _ (tok_ne (by show τ.1 ≠ k; omega)), upd_other _ _ q1], kA⟩
  · exact Wf_set hL.wf (DkAt.ok (kA κm (by rw [hL.dk.m]; simp)) (by rw [upd_same]; simp)) kA
  · exact Above_updA (Above_updA (Above_updH (Above_mono hL.ab (by omega)) (by omega)) (by omega)) (by show k < k + 1; omega)
  · exact ⟨upd_same _ _ _, by rw [upd_other _ _ nm0, upd_same], by rw [upd_same, hdc]⟩
  · intro lid κr l hl
    obtain ⟨m1, m2⟩ := hl.lt hL.ab
    exact hl.mv (by rw [upd_other _ _ (hl.ne hL.dk)]) (by rw [upd_other _ _ (tok_ne (by show κr.1 ≠ k; omega)), upd_other _ _ (hl.nm hL.dk)])
theorem Try.tReset (off : Nat) (hL : LW H A k did κm κc d) (hk : k < off + 1000) {lid : Nat} {κr : Tok} {l : Lg} (hl : LgAt H A lid did κr l) (hh : l.halted = false) (ht : l.turn + 1 < 9223372036854775807) (hin : l.from_ + 1 < d.n) (hdn : d.n ≤ 4096) (hcl : d.cache.length + 1 ≤ 1000000) (hf : d.fused = false) :
    SOK off Try.prog 72 H A [.c (.ptr lid 0)] (pD (.lit (.int .i64 0))) fun H' A' => LW H' A' (k + 1) did κm (k, 0) (nextD d l.from_ (l.turn + 1) (l.turn + 1)) ∧ LgAt H' A' lid did (k, 1) { l with turn := l.turn + 1, base := l.turn + 1, used := 0, recs := [] } ∧
      (∀ lid' κr' l', lid' ≠ lid → LgAt H A lid' did κr' l' → LgAt H' A' lid' did κr' l') ∧ (∀ j, j ≠ did → j ≠ lid → H' j = H j) ∧ (∀ τ, τ ≠ κm → τ ≠ κc → τ.1 < k → A' τ = A τ) ∧ ∀ τ, A τ ≠ none → A' τ ≠ none := by
  obtain ⟨n1, n2, n3⟩ := hL.ne
  obtain ⟨m1, m2⟩ := hl.lt hL.ab
  have nk : ((k, 1) : Tok) ≠ (k, 0) := fun e => by cases e
  have nm0 : κm ≠ (k, 0) := tok_ne (by show κm.1 ≠ k; omega)
  have nm1 : κm ≠ (k, 1) := tok_ne (by show κm.1 ≠ k; omega)
  have kr := Try.kReset (κ' := (k, 0)) (κr' := (k, 1)) off hL.wf hl hL.dk hh ht hin hdn hcl (burnt_no hf) (burnt_no hf) (hL.new 0).2 (by show k < off + 1000; omega) (hL.new 1).2 nk
  have hdc : (nextD d l.from_ (l.turn + 1) (l.turn + 1)).cache.length = 0 := rfl
  generalize nextD d l.from_ (l.turn + 1) (l.turn + 1) = dn at *
  have kA : ∀ τ, A τ ≠ none → upd (upd (upd (upd A κc (some (.co 2 (d.cache.length + 1)))) κm (some (.mp (encNS dn.stays)))) (k, 0) (some (.co 2 0))) (k, 1) (some (.co 1 0)) τ ≠ none := fun τ h => upd_keep _ (upd_keep _ (upd_keep _ (upd_keep _ h)))
  refine ⟨_, _, kr, ⟨?_, ?_, ?_⟩, ⟨upd_same _ _ _, by rw [upd_same]; rfl⟩, ?_, fun j q1 q2 => by rw [upd_other _ _ q2, upd_other _ _ q2, upd_other _ _ q1], fun τ q1 q2 q3 => by rw [upd_other _ _ (tok_ne (by show τ.1 ≠ k; omega)), upd_other _ _ (tok_ne (by show τ.1 ≠ k; omega)), upd_other _ _ q1, upd_other _ _ q2], kA⟩
  · exact Wf_set (A := upd (upd (upd (upd A κc (some (.co 2 (d.cache.length + 1)))) κm (some (.mp (encNS dn.stays)))) (k, 0) (some (.co 2 0))) (k, 1) (some (.co 1 0)))
      (Wf_set (A := upd (upd (upd (upd A κc (some (.co 2 (d.cache.length + 1)))) κm (some (.mp (encNS dn.stays)))) (k, 0) (some (.co 2 0))) (k, 1) (some (.co 1 0)))
        (Wf_set hL.wf (DkAt.ok (kA κm (by rw [hL.dk.m]; simp)) (upd_keep _ (by rw [upd_same]; simp))) kA) (LgAt.ok (upd_keepH _ (by rw [upd_same]; simp)) (kA κr (by rw [hl.r]; simp))) (fun _ h => h))
      (LgAt.ok (upd_keepH _ (upd_keepH _ (by rw [upd_same]; simp))) (by rw [upd_same]; simp)) (fun _ h => h)
  · exact Above_updA (Above_updA (Above_updA (Above_updA (Above_updH (Above_updH (Above_updH (Above_mono hL.ab (by omega)) (by omega)) (by omega)) (by omega)) (by omega)) (by omega)) (by show k < k + 1; omega)) (by show k < k + 1; omega)
  · exact ⟨by rw [upd_other _ _ (hl.ne hL.dk).symm, upd_other _ _ (hl.ne hL.dk).symm, upd_same], by rw [upd_other _ _ nm1, upd_other _ _ nm0, upd_same], by rw [upd_other _ _ nk.symm, upd_same, hdc]⟩
  · intro lid' κr' l' q1 hl'
    obtain ⟨p1, p2⟩ := hl'.lt hL.ab
    exact hl'.mv (by rw [upd_other _ _ q1, upd_other _ _ q1, upd_other _ _ (hl'.ne hL.dk)]) (by rw [upd_other _ _ (tok_ne (by show κr'.1 ≠ k; omega)), upd_other _ _ (tok_ne (by show κr'.1 ≠ k; omega)), upd_other _ _ (hl'.nm hL.dk), upd_other _ _ (hl'.nc hL.dk)])
end wal
end Go.Proofs

/-
  The log's steps at any off: a flush.
-/

namespace Go.Proofs
open Go.PW
section wal
variable {H : HMap} {A : AMap} {k did : Nat} {κm κc : Tok} {d : Dk}
theorem Try.tFlush (off : Nat) (hL : LW H A k did κm κc d) (hn : 0 < d.n) (hcl : d.cache.length ≤ 1000000) (hb : burnt d = false) :
    SOK off Try.prog 71 H A [.c (.ptr did 0)] (pD (.lit (.int .i64 0))) fun H' A' => LW H' A' (k + 1) did κm (k, 0) (flD d) ∧ (∀ lid κr l, LgAt H A lid did κr l → LgAt H' A' lid did κr l) ∧ (∀ j, j ≠ did → H' j = H j) ∧ (∀ τ, τ ≠ κm → τ.1 < k → A' τ = A τ) ∧ ∀ τ, A τ ≠ none → A' τ ≠ none := by
  obtain ⟨n1, n2, n3⟩ := hL.ne
  have nm0 : κm ≠ (k, 0) := tok_ne (by show κm.1 ≠ k; omega)
  have kc := Try.kFlush (κ' := (k, 0)) off hL.wf hL.dk hn hcl hb (hL.new 0).2
  have hdc : (flD d).cache.length = 0 := rfl
  generalize flD d = dn at *
  have kA : ∀ τ, A τ ≠ none → upd (upd A κm (some (.mp (encNS dn.stays)))) (k, 0) (some (.co 2 0)) τ ≠ none := fun τ h => upd_keep _ (upd_keep _ h)
  refine ⟨_, _, kc, ⟨?_, ?_, ?_⟩, ?_, fun j q1 => by rw [upd_other _ _ q1], fun τ q1 q2 => by rw [upd_other _ _ (tok_ne (by show τ.1 ≠ k; omega)), upd_other _ _ q1], kA⟩
  · exact Wf_set hL.wf (DkAt.ok (kA κm (by rw [hL.dk.m]; simp)) (by rw [upd_same]; simp)) kA
  · exact Above_updA (Above_updA (Above_updH (Above_mono hL.ab (by omega)) (by omega)) (by omega)) (by show k < k + 1; omega)
  · exact ⟨upd_same _ _ _, by rw [upd_other _ _ nm0, upd_same], by rw [upd_same, hdc]⟩
  · intro lid κr l hl
    obtain ⟨m1, m2⟩ := hl.lt hL.ab
    exact hl.mv (by rw [upd_other _ _ (hl.ne hL.dk)]) (by rw [upd_other _ _ (tok_ne (by show κr.1 ≠ k; omega)), upd_other _ _ (hl.nm hL.dk)])
/-- A pager that lies elsewhere stays. -/
theorem PgAt.mv {H' : HMap} {A' : AMap} {pid lid : Nat} {κp : Tok} {p : Pg} (hp : PgAt H A pid did lid κp p) (h1 : H' pid = H pid) (h2 : A' κp = A κp) : PgAt H' A' pid did lid κp p := ⟨by rw [h1]; exact hp.h, by rw [h2]; exact hp.m⟩
theorem PgAt.lt {pid lid : Nat} {κp : Tok} {p : Pg} (hp : PgAt H A pid did lid κp p) {off : Nat} (hab : Above off H A) : pid < off ∧ κp.1 < off := by
  refine ⟨Nat.lt_of_not_le fun h => ?_, Nat.lt_of_not_le fun h => ?_⟩
  · have := hp.h; rw [(hab pid h).1] at this; cases this
  · have := hp.m; rw [(hab κp.1 h).2 κp.2] at this; cases this
theorem PgAt.ne {pid lid : Nat} {κp : Tok} {p : Pg} (hp : PgAt H A pid did lid κp p) (hd : DkAt H A did κm κc d) : pid ≠ did := fun e => by
  have h1 := hp.h
  rw [e, hd.h] at h1
  have := congrArg List.length (Option.some.inj h1)
  cases this
theorem PgAt.neL {pid lid lid' : Nat} {κp κr : Tok} {p : Pg} {l : Lg} (hp : PgAt H A pid did lid κp p) (hl : LgAt H A lid' did κr l) : pid ≠ lid' := fun e => by
  have h1 := hp.h
  rw [e, hl.h] at h1
  have := congrArg List.length (Option.some.inj h1)
  cases this
end wal
end Go.Proofs

/-
  The pager: settle.
-/

namespace Go.Proofs
open Go.PW
section pg
variable {H : HMap} {A : AMap} {k pid did lid : Nat} {κm κc κp κr : Tok} {d : Dk} {p : Pg} {l : Lg}
set_option maxRecDepth 8000 in
set_option maxHeartbeats 16000000 in
theorem Try.tSettle (off : Nat) (hL : LW H A k did κm κc d) (hk : k + 2 ≤ off + 1000) (hp : PgAt H A pid did lid κp p) (hl : LgAt H A lid did κr l) (hh : l.halted = false) (ht : l.turn + 1 < 9223372036854775807) (hin : l.from_ + 1 < d.n) (hdn : d.n ≤ 4096) (hcl : d.cache.length ≤ 900000) (hf : d.fused = false) (hκp : κp ≠ κm) :
    SOK off Try.prog 45 H A [.c (.ptr pid 0)] (pD (.lit (.int .i64 0))) fun H' A' => LW H' A' (k + 2) did κm (k + 1, 0) (nextD (flD d) l.from_ (l.turn + 1) (l.turn + 1)) ∧ LgAt H' A' lid did (k + 1, 1) { l with turn := l.turn + 1, base := l.turn + 1, used := 0, recs := [] } ∧ PgAt H' A' pid did lid κp p ∧
      (∀ j, j ≠ did → j ≠ lid → H' j = H j) ∧ (∀ τ, τ ≠ κm → τ.1 < k → A' τ = A τ) ∧ (∀ j, H j ≠ none → H' j ≠ none) ∧ ∀ τ, A τ ≠ none → A' τ ≠ none := by
  obtain ⟨H1, A1, e1, L1, g1, f1, fa1, k1⟩ := Try.tFlush (off + 1000) hL (by omega) (by omega) (burnt_no hf)
  have g1 := g1 _ _ _ hl
  obtain ⟨H2, A2, e2, L2, g2, _, f2, fa2, k2⟩ := Try.tReset (off + 1000) L1 (by omega) g1 hh ht hin hdn (by show 0 + 1 ≤ _; omega) hf
  have hpk := hp.lt hL.ab
  have q1 : pid ≠ did := hp.ne hL.dk
  have q2 : pid ≠ lid := hp.neL hl
  have fA : ∀ τ, τ ≠ κm → τ.1 < k → A2 τ = A τ := fun τ x1 x2 => by rw [fa2 τ x1 (tok_ne (by show τ.1 ≠ k; omega)) (by omega), fa1 τ x1 x2]
  have fH : ∀ j, j ≠ did → j ≠ lid → H2 j = H j := fun j x1 x2 => by rw [f2 j x1 x2, f1 j x1]
  have kH : ∀ j, H j ≠ none → H2 j ≠ none := fun j h => by
    by_cases x1 : j = did
    · rw [x1, L2.dk.h]; simp
    · by_cases x2 : j = lid
      · rw [x2, g2.h]; simp
      · rw [fH j x1 x2]; exact h
  have kA : ∀ τ, A τ ≠ none → A2 τ ≠ none := fun τ h => k2 τ (k1 τ h)
  refine ⟨H2, A2, ?_, L2, g2, hp.mv (fH pid q1 q2) (fA κp hκp hpk.2), fH, fA, kH, kA⟩
  refine effr_ok (E := envOf Try.prog [71, 72] off [] []) (envOf_ok Try.mixed) Try.func45 rfl Try.call45 (by kernel_rfl) (by exact Nat.le_of_ble_eq_true rfl) (fun hab => ?_)
  have hph := hp.h
  have hph1 : H1 pid = some (encPg did lid κp p) := by rw [f1 pid q1]; exact hph
  unfold encPg at hph hph1
  repeat' (first
   | with_reducible first | refine VC_seq fun K hK => ?_ | refine W_region ?_ | refine VC_block ?_ | refine VC_scope ?_ | refine VC_if ?_ | refine VC_skip ?_ | refine VC_exit ?_ | refine VC_ret ?_
   | (with_reducible first | refine G_not (fun h => ?_) (fun h => ?_) | refine G_cases (fun h => ?_) (fun h => ?_)) <;> (try simp only [h])
   | refine C_call rfl e1 rfl (Above_mono hab (by omega)) ?_
   | refine C_call rfl e2 rfl (Above_mono L1.ab (by omega)) ?_
   | with_reducible first | (refine hK _ ?_; clear hK K) | (clear hK K; refine hK _ ?_; clear hK K) | (clear hK K; clear hK K; refine hK _ ?_; clear hK K) | (clear hK K; clear hK K; clear hK K; refine hK _ ?_; clear hK K)
   | (with_reducible refine todo ?_; simp +decide only [go_sem, hph, hph1, zne]))
  exact RetR_eq rfl (wk_c (.inr (.inl ⟨rfl, True.intro⟩))) True.intro L2.wf (fun _ _ => rfl) rfl kH kA
end pg
end Go.Proofs

/-
  The pager: redo, where the log has nothing.
-/

namespace Go.Proofs
open Go.PW
section pg
variable {H : HMap} {A : AMap} {pid did lid : Nat} {κp κr : Tok} {p : Pg} {l : Lg}
set_option maxRecDepth 8000 in
set_option maxHeartbeats 8000000 in
theorem Try.kRedo0 (off : Nat) (hw : Wf H A) (hp : PgAt H A pid did lid κp p) (hl : LgAt H A lid did κr l) (hr : l.recs = []) : EffOK Try.prog 36 off H A [.c (.ptr pid 0)] (pD (.lit (.int .i64 0))) H A := by
  refine effr_ok (E := envOf Try.prog [59] off [] []) (envOf_ok Try.mixed) Try.func36 rfl Try.call36 (by kernel_rfl) (by exact Nat.le_of_ble_eq_true rfl) (fun hab => ?_)
  have hph := hp.h
  unfold encPg at hph
  have kr := Try.kRecords (off + 1000) hw hl (by rw [hr]; exact Nat.zero_le _)
  rw [hr] at kr
  have v3 : (((textsD []).length : Int) == 0) = true := rfl
  repeat' (first
   | with_reducible first | refine VC_seq fun K hK => ?_ | refine W_region ?_ | refine VC_block ?_ | refine VC_scope ?_ | refine VC_if ?_ | refine VC_skip ?_ | refine VC_exit ?_ | refine VC_ret ?_
   | (with_reducible first | refine G_not (fun h => ?_) (fun h => ?_) | refine G_cases (fun h => ?_) (fun h => ?_)) <;> (try simp only [h])
   | refine C_call rfl kr rfl (Above_mono hab (by omega)) ?_
   | with_reducible first | (refine hK _ ?_; clear hK K) | (clear hK K; refine hK _ ?_; clear hK K) | (clear hK K; clear hK K; refine hK _ ?_; clear hK K) | (clear hK K; clear hK K; clear hK K; refine hK _ ?_; clear hK K)
   | (with_reducible refine todo ?_; simp +decide only [go_sem, hph, v3]))
  exact RetR_same rfl (by simp +decide only [go_sem]) True.intro hw kp_refl (fun _ _ => rfl)
end pg
end Go.Proofs

/-
  The pager: Open, where the log has nothing.
-/

namespace Go.Proofs
open Go.PW
theorem encPg_ok {H : HMap} {A : AMap} {did lid : Nat} {κp : Tok} {p : Pg} (h1 : H did ≠ none) (h2 : H lid ≠ none) (h3 : A κp ≠ none) : ∀ c ∈ encPg did lid κp p, c.ok (fun i => H i ≠ none) (fun κ => A κ ≠ none) := by
  intro c hc
  unfold encPg at hc
  simp only [List.mem_cons, List.not_mem_nil, or_false] at hc
  rcases hc with rfl | rfl | rfl | rfl | rfl
  · exact h1
  · exact h2
  · exact True.intro
  · exact h3
  · exact True.intro
section pg
variable {H : HMap} {A : AMap} {k did : Nat} {κm κc : Tok} {d : Dk} {logs t0 b0 t1 b1 : Nat} {pl : Nat → Option Pc}
set_option maxRecDepth 8000 in
set_option maxHeartbeats 16000000 in
theorem Try.tOpenP (off : Nat) (hL : LW H A k did κm κc d) (hk : k + 2 ≤ off) (ho : OpAt d 0 logs t0 b0 t1 b1 pl) (hn : logs + 1 ≤ d.n) (hn2 : d.n ≤ logs + 1024) (hf : d.fused = false) (hr : (opL 0 logs t0 b0 t1 b1 pl).recs = []) :
    SOK off Try.prog 20 H A [.c (.ptr did 0), pD (.lit (.int .i64 logs))] (.tup [.c (.ptr (k + 1) 0), .c (.d (.lit (.int .i64 0)))]) fun H' A' =>
      LW H' A' (k + 2) did κm (k, 1) (nextD d 0 (opT t0 t1 + 1) (opB t0 b0 t1 b1)) ∧ LgAt H' A' k did (k, 0) (opL 0 logs t0 b0 t1 b1 pl) ∧ PgAt H' A' (k + 1) did k (k + 1, 0) ⟨logs, [], false⟩ ∧
      (∀ j, j ≠ did → j ≠ k → j ≠ k + 1 → H' j = H j) ∧ ∀ τ, τ ≠ κm → τ ≠ κc → τ.1 < k → A' τ = A τ := by
  obtain ⟨HE, AE, ee, LE, gE, _, fH, fA, kA⟩ := Try.tOpen (off + 1000) hL (by omega) ho hf
  obtain ⟨n1, n2, n3⟩ := hL.ne
  obtain ⟨_, _, _, hdn, _, _, _, _, _⟩ := ho
  generalize opL 0 logs t0 b0 t1 b1 pl = l at *
  generalize nextD d 0 (opT t0 t1 + 1) (opB t0 b0 t1 b1) = dn at *
  have hE1 : HE (k + 1) = none := (LE.ab (k + 1) (Nat.le_refl _)).1
  have hEo : HE (off + 40) = none := (LE.ab (off + 40) (by omega)).1
  have aE1 : AE (k + 1, 0) = none := (LE.ab (k + 1) (Nat.le_refl _)).2 0
  have aEo : AE (off + 38, 0) = none := (LE.ab (off + 38) (by omega)).2 0
  have hdE : HE did ≠ none := by rw [LE.dk.h]; simp
  have hlE : HE k ≠ none := by rw [gE.h]; simp
  obtain ⟨q1, q2, q3⟩ := tok1 (r := Arr.mp []) aE1 aEo
  have kH : ∀ i, H i ≠ none → HE i ≠ none := fun i h => by
    by_cases x1 : i = did
    · rw [x1]; exact hdE
    · by_cases x2 : i = k
      · rw [x2]; exact hlE
      · rw [fH i x1 x2]; exact h
  refine ⟨upd HE (k + 1) (some (encPg did k (k + 1, 0) ⟨logs, [], false⟩)), upd AE (k + 1, 0) (some (.mp [])), ?_, ⟨?_, ?_, ?_⟩, gE.mv (upd_other _ _ (by omega)) (upd_other _ _ (tok_ne (by show k ≠ k + 1; omega))), ⟨upd_same _ _ _, upd_same _ _ _⟩, fun j x1 x2 x3 => by rw [upd_other _ _ x3, fH j x1 x2], fun τ x1 x2 x3 => by rw [upd_other _ _ (tok_ne (by show τ.1 ≠ k + 1; omega)), fA τ x1 x2 x3]⟩
  · refine effr_ok (E := envOf Try.prog [34, 35, 36] off [] []) (envOf_ok Try.mixed) Try.func20 rfl Try.call20 (by kernel_rfl) (by exact Nat.le_of_ble_eq_true rfl) (fun hab => ?_)
    have kl := Try.kLen (off + 1000) hL.wf hL.dk
    have c1 : IntKind.i64.wrap ((d.n : Int) - (logs : Int)) = ((d.n - logs : Nat) : Int) := by rw [Go.IntWalk.i64_in _ (by omega)]; omega
    have z1 : ((d.n : Int) == 0) = false := by rw [beq_eq_false_iff_ne]; omega
    have z2 : (((d.n - logs : Nat) : Int) < 1) = False := eq_false (by omega)
    have z3 : ((1024 : Int) < ((d.n - logs : Nat) : Int)) = False := eq_false (by omega)
    have hw3 : Wf (upd HE (off + 40) (some (encPg did k (off + 38, 0) ⟨logs, [], false⟩))) (upd AE (off + 38, 0) (some (.mp []))) := Wf_set LE.wf (encPg_ok (upd_keepH _ hdE) (upd_keepH _ hlE) (by rw [upd_same]; simp)) upd_keep
    have hp3 : PgAt (upd HE (off + 40) (some (encPg did k (off + 38, 0) ⟨logs, [], false⟩))) (upd AE (off + 38, 0) (some (.mp []))) (off + 40) did k (off + 38, 0) ⟨logs, [], false⟩ := ⟨upd_same _ _ _, upd_same _ _ _⟩
    have hl3 : LgAt (upd HE (off + 40) (some (encPg did k (off + 38, 0) ⟨logs, [], false⟩))) (upd AE (off + 38, 0) (some (.mp []))) k did (k, 0) l := gE.mv (upd_other _ _ (by omega)) (upd_other _ _ (tok_ne (by show k ≠ off + 38; omega)))
    have er := Try.kRedo0 (off + 1000) hw3 hp3 hl3 hr
    have hab3 : Above (off + 1000) (upd HE (off + 40) (some (encPg did k (off + 38, 0) ⟨logs, [], false⟩))) (upd AE (off + 38, 0) (some (.mp []))) := Above_updA (Above_updH (Above_mono LE.ab (by omega)) (by omega)) (by show off + 38 < off + 1000; omega)
    unfold encPg at er hab3
    repeat' (first
     | with_reducible first | refine VC_seq fun K hK => ?_ | refine W_region ?_ | refine VC_block ?_ | refine VC_scope ?_ | refine VC_if ?_ | refine VC_skip ?_ | refine VC_exit ?_ | refine VC_ret ?_
     | (with_reducible first | refine G_not (fun h => ?_) (fun h => ?_) | refine G_cases (fun h => ?_) (fun h => ?_)) <;> (try simp only [h])
     | refine And.intro aEo ?_
     | refine And.intro hEo ?_
     | refine C_call rfl kl rfl (Above_mono hab (by omega)) ?_
     | refine C_call rfl ee rfl (Above_mono hab (by omega)) ?_
     | refine C_call rfl er rfl hab3 ?_
     | with_reducible first | (refine hK _ ?_; clear hK K) | (clear hK K; refine hK _ ?_; clear hK K) | (clear hK K; clear hK K; refine hK _ ?_; clear hK K) | (clear hK K; clear hK K; clear hK K; refine hK _ ?_; clear hK K)
     | (with_reducible refine todo ?_; simp +decide only [go_sem, c1, z1, z2, z3, zne]))
    have hsw : swt (k + 1, 0) (off + 38, 0) (k + 1, 0) = (off + 38, 0) := if_pos rfl
    have him : (encPg did k (k + 1, 0) ⟨logs, [], false⟩).map (CV.im (swp (k + 1) (off + 40)) (swt (k + 1, 0) (off + 38, 0))) = encPg did k (off + 38, 0) ⟨logs, [], false⟩ := by
      show [CV.ptr (swp (k + 1) (off + 40) did) 0, CV.ptr (swp (k + 1) (off + 40) k) 0, _, CV.mpr (swt (k + 1, 0) (off + 38, 0) (k + 1, 0)), _] = _
      rw [hsw, show swp (k + 1) (off + 40) did = did from if_neg (by omega), show swp (k + 1) (off + 40) k = k from if_neg (by omega)]
      rfl
    have tkE : ∀ τ, AE τ ≠ none → upd AE (off + 38, 0) (some (Arr.mp [])) τ ≠ none ∧ upd AE (off + 38, 0) (some (Arr.mp [])) τ = AE τ := fun τ h => by
      have e : τ ≠ (off + 38, 0) := fun e => h (by rw [e]; exact aEo)
      rw [upd_other _ _ e]; exact ⟨h, rfl⟩
    refine RetR_obj (H1 := HE) (A1 := AE) (A'' := upd AE (off + 38, 0) (some (.mp []))) (i' := off + 40) (h := swt (k + 1, 0) (off + 38, 0)) (ds := encPg did k (off + 38, 0) ⟨logs, [], false⟩) rfl ?_ (oks_pairP (by rw [upd_same]; simp)) LE.wf kH kA hE1 hEo
      (encPg_ok (upd_keepH _ hdE) (upd_keepH _ hlE) (by rw [upd_same]; simp)) ?_ (upd_same _ _ _) ?_ q1 q2 q3 (fun τ => .inr (.inl rfl))
    · show PV.wk _ _ _ (.tup [.c (.ptr (swp (k + 1) (off + 40) (k + 1)) 0), _]) _
      rw [show swp (k + 1) (off + 40) (k + 1) = off + 40 from if_pos rfl]
      exact wk_pairP (by rw [upd_same]; simp)
    · intro i es hi
      have hne : i ≠ off + 40 := fun e => by rw [e, hEo] at hi; cases hi
      refine ⟨es, by show upd _ _ _ _ = _; rw [upd_other _ _ hne]; exact hi, wkC_same fun c hc => ok_mono upd_keepH (fun τ h => ⟨(tkE τ h).1, rfl⟩) (LE.wf i es c hi hc)⟩
    · rw [him]
      exact wkC_same (fun c hc => ok_mono (fun _ h => h) (fun τ h => ⟨h, rfl⟩) (encPg_ok (A := upd AE (off + 38, 0) (some (.mp []))) (upd_keepH _ hdE) (upd_keepH _ hlE) (by rw [upd_same]; simp) c hc))
  · exact Wf_set LE.wf (encPg_ok (upd_keepH _ hdE) (upd_keepH _ hlE) (by rw [upd_same]; simp)) upd_keep
  · exact Above_updA (Above_updH (Above_mono LE.ab (by omega)) (by omega)) (by show k + 1 < k + 2; omega)
  · exact ⟨by rw [upd_other _ _ (by omega)]; exact LE.dk.h, by rw [upd_other _ _ (tok_ne (by show κm.1 ≠ k + 1; omega))]; exact LE.dk.m, by rw [upd_other _ _ (tok_ne (by show k ≠ k + 1; omega))]; exact LE.dk.c⟩
end pg
end Go.Proofs
