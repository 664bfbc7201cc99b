import Derived.Test.YtfcffhhipkbkmaaQ27

/-
  The log's calls one behind the other: each with what lies there behind it.
-/

namespace Go.Proofs
open Go.PW
/-- A disk, and names above which nothing lies. -/
structure LW (H : HMap) (A : AMap) (k did : Nat) (κm κc : Tok) (d : Dk) : Prop where
  wf : Wf H A
  ab : Above k H A
  dk : DkAt H A did κm κc d
theorem LgAt.mv {H H' : HMap} {A A' : AMap} {lid did : Nat} {κr : Tok} {l : Lg} (hl : LgAt H A lid did κr l) (h1 : H' lid = H lid) (h2 : A' κr = A κr) : LgAt H' A' lid did κr l := ⟨by rw [h1]; exact hl.h, by rw [h2]; exact hl.r⟩
theorem burnt_no {d : Dk} (h : d.fused = false) : burnt d = false := by unfold burnt; rw [h]; rfl
/-- A call, and what is there behind it. -/
def StepOK (P : Program) (f : FuncId) (H : HMap) (A : AMap) (args : List PV) (v : PV) (R : HMap → AMap → Prop) : Prop := ∃ H' A', EffOK P f 1000 H A args v H' A' ∧ R H' A'
theorem unfold_needN (n : Nat) : needN n = max 1 ((n + 99) / 100) := by unfold needN; omega
section wal
variable {H : HMap} {A : AMap} {k did : Nat} {κm κc : Tok} {d : Dk}
theorem LW.ne (hL : LW H A k did κm κc d) : did < k ∧ κm.1 < k ∧ κc.1 < k := hL.dk.lt hL.ab
theorem LW.new (hL : LW H A k did κm κc d) (j : Nat) : H k = none ∧ A (k, j) = none := ⟨(hL.ab k (Nat.le_refl k)).1, (hL.ab k (Nat.le_refl k)).2 j⟩
theorem tok_ne {a b : Tok} (h : a.1 ≠ b.1) : a ≠ b := fun e => h (by rw [e])
theorem Try.sNew (b n : Nat) (h1 : 1 ≤ n) (h2 : n ≤ 4096) : StepOK Try.prog 22 noH noA [pD (.lit (.int .i64 n))] (.tup [.c (.ptr b 0), .c (.d (.lit (.int .i64 0)))]) fun H' A' =>
    LW H' A' (b + 1) b (b, 0) (b, 1) (newD n) ∧ (∀ j, j ≠ b → H' j = none) ∧ ∀ τ, τ.1 ≠ b → A' τ = none := by
  have hw : Wf noH noA := fun i cs c h => by cases h
  have nk : ((b, 0) : Tok) ≠ (b, 1) := fun e => by cases e
  have kn := Try.kDiskNew (id := b) (κm := (b, 0)) (κc := (b, 1)) 1000 hw n h1 h2 rfl rfl rfl nk
  refine ⟨_, _, kn, ⟨?_, ?_, upd_same _ _ _, ?_, upd_same _ _ _⟩, fun j hj => upd_other _ _ hj, fun τ hτ => by rw [upd_other _ _ (tok_ne hτ), upd_other _ _ (tok_ne hτ)]; rfl⟩
  · refine Wf_set hw (DkAt.ok (A := upd (upd noA (b, 0) (some (.mp []))) (b, 1) (some (.co 2 0))) ?_ ?_) (fun κ h => (h rfl).elim)
    · rw [upd_other _ _ nk, upd_same]; simp
    · rw [upd_same]; simp
  · exact Above_updA (Above_updA (Above_updH (fun i _ => ⟨rfl, fun _ => rfl⟩) (Nat.lt_succ_self b)) (Nat.lt_succ_self b)) (Nat.lt_succ_self b)
  · rw [upd_other _ _ nk, upd_same]; rfl
theorem Try.sOpen (hL : LW H A k did κm κc d) (hk : k < 1000) {f n t0 b0 t1 b1 : Nat} {pl : Nat → Option Pc} (ho : OpAt d f n t0 b0 t1 b1 pl) (hf : d.fused = false) :
    StepOK Try.prog 14 H A [.c (.ptr did 0), pD (.lit (.int .i64 f)), pD (.lit (.int .i64 n))] (.tup [.c (.ptr k 0), .c (.d (.lit (.int .i64 0)))]) fun H' A' =>
      LW H' A' (k + 1) did κm (k, 1) (nextD d f (opT t0 t1 + 1) (opB t0 b0 t1 b1)) ∧ LgAt H' A' k did (k, 0) (opL f n t0 b0 t1 b1 pl) ∧ (∀ lid κr l, LgAt H A lid did κr l → LgAt H' A' lid did κr l) ∧ (∀ j, j ≠ did → j ≠ k → H' j = H j) ∧ (∀ τ, τ ≠ κm → τ ≠ κc → τ.1 < k → A' τ = A τ) ∧ ∀ τ, A τ ≠ none → A' τ ≠ none := by
  obtain ⟨n1, n2, n3⟩ := hL.ne
  have nk : ((k, 1) : Tok) ≠ (k, 0) := fun e => by cases e
  have nm0 : κm ≠ (k, 0) := tok_ne (by show κm.1 ≠ k; omega)
  have nm1 : κm ≠ (k, 1) := tok_ne (by show κm.1 ≠ k; omega)
  have nc0 : κc ≠ (k, 0) := tok_ne (by show κc.1 ≠ k; omega)
  have nc1 : κc ≠ (k, 1) := tok_ne (by show κc.1 ≠ k; omega)
  have ko := Try.kOpen (id := k) (κr := (k, 0)) (κ' := (k, 1)) 1000 hL.wf hL.dk ho (burnt_no hf) (burnt_no hf) (hL.new 0).1 (hL.new 0).2 (by show k < 2000; omega) (hL.new 1).2 nk
  have hdc : (nextD d f (opT t0 t1 + 1) (opB t0 b0 t1 b1)).cache.length = 0 := rfl
  generalize nextD d f (opT t0 t1 + 1) (opB t0 b0 t1 b1) = dn at *
  generalize opL f n t0 b0 t1 b1 pl = l' at *
  have kA : ∀ τ, A τ ≠ none → upd (upd (upd (upd A (k, 0) (some (.co 1 l'.recs.length))) κc (some (.co 2 (d.cache.length + 1)))) κm (some (.mp (encNS dn.stays)))) (k, 1) (some (.co 2 0)) τ ≠ none := fun τ h => upd_keep _ (upd_keep _ (upd_keep _ (upd_keep _ h)))
  have rκ : upd (upd (upd (upd A (k, 0) (some (.co 1 l'.recs.length))) κc (some (.co 2 (d.cache.length + 1)))) κm (some (.mp (encNS dn.stays)))) (k, 1) (some (.co 2 0)) (k, 0) = some (.co 1 l'.recs.length) := by
    rw [upd_other _ _ nk.symm, upd_other _ _ nm0.symm, upd_other _ _ nc0.symm, upd_same]
  refine ⟨_, _, ko, ⟨?_, ?_, ?_⟩, ⟨upd_same _ _ _, rκ⟩, ?_, fun j q1 q2 => by rw [upd_other _ _ q2, upd_other _ _ q1], fun τ q1 q2 q3 => by rw [upd_other _ _ (tok_ne (by show τ.1 ≠ k; omega)), upd_other _ _ q1, upd_other _ _ q2, upd_other _ _ (tok_ne (by show τ.1 ≠ k; omega))], kA⟩
  · exact Wf_set (A := upd (upd (upd (upd A (k, 0) (some (.co 1 l'.recs.length))) κc (some (.co 2 (d.cache.length + 1)))) κm (some (.mp (encNS dn.stays)))) (k, 1) (some (.co 2 0))) (Wf_set hL.wf (DkAt.ok (kA κm (by rw [hL.dk.m]; simp)) (by rw [upd_same]; simp)) kA)
      (LgAt.ok (upd_keepH _ (by rw [upd_same]; simp)) (by rw [rκ]; simp)) (fun _ h => h)
  · exact Above_updA (Above_updA (Above_updA (Above_updA (Above_updH (Above_updH (Above_mono hL.ab (by omega)) (by omega)) (by omega)) (by show k < k + 1; omega)) (by omega)) (by omega)) (by show k < k + 1; omega)
  · refine ⟨by rw [upd_other _ _ (by omega), upd_same], by rw [upd_other _ _ nm1, upd_same], by rw [upd_same, hdc]⟩
  · intro lid κr l hl
    obtain ⟨m1, m2⟩ := hl.lt hL.ab
    exact hl.mv (by rw [upd_other _ _ (by omega), upd_other _ _ (hl.ne hL.dk)]) (by rw [upd_other _ _ (tok_ne (by show κr.1 ≠ k; omega)), upd_other _ _ (hl.nm hL.dk), upd_other _ _ (hl.nc hL.dk), upd_other _ _ (tok_ne (by show κr.1 ≠ k; omega))])
theorem Try.sAppend (hL : LW H A k did κm κc d) {lid : Nat} {κr : Tok} {l : Lg} (hl : LgAt H A lid did κr l) (hh : l.halted = false) (s : List UInt8) (hs : s.length ≤ 5000) (hfit : l.used + needN s.length ≤ l.places) (hp : l.places ≤ 1000) (ht : l.turn < 9223372036854775808)
    (hin : l.from_ + 2 + l.places ≤ d.n) (hdn : d.n ≤ 4096) (hcl : d.cache.length + 100 ≤ 1000000) (hrl : l.recs.length ≤ 1000000) (hf : d.fused = false) :
    StepOK Try.prog 15 H A [.c (.ptr lid 0), pD (dS s)] (pD (.lit (.int .i64 0))) fun H' A' =>
      LW H' A' k did κm κc (apD l s (partsL s).length (partsL s) d (partsL s).length) ∧ LgAt H' A' lid did κr { l with recs := l.recs ++ [s], used := l.used + (partsL s).length } ∧ (∀ lid' κr' l', lid' ≠ lid → κr' ≠ κr → LgAt H A lid' did κr' l' → LgAt H' A' lid' did κr' l') ∧ (∀ j, j ≠ did → j ≠ lid → H' j = H j) ∧ (∀ τ, τ ≠ κc → τ ≠ κr → A' τ = A τ) ∧ ∀ τ, A τ ≠ none → A' τ ≠ none := by
  obtain ⟨n1, n2, n3⟩ := hL.ne
  obtain ⟨m1, m2⟩ := hl.lt hL.ab
  have ka := Try.kAppend 1000 hL.wf hl hL.dk hh s hs hfit hp ht hin hdn hcl hrl hf
  have hsp := (apD_spec l s (partsL s).length (partsL s) d (partsL s).length).2.1
  have hst := (apD_spec l s (partsL s).length (partsL s) d (partsL s).length).2.2.2
  generalize apD l s (partsL s).length (partsL s) d (partsL s).length = dn at *
  have kA : ∀ τ, A τ ≠ none → upd (upd A κc (some (.co 2 (d.cache.length + (partsL s).length)))) κr (some (.co 1 (l.recs.length + 1))) τ ≠ none := fun τ h => upd_keep _ (upd_keep _ h)
  refine ⟨_, _, ka, ⟨?_, ?_, ?_⟩, ⟨upd_same _ _ _, by rw [upd_same]; simp⟩, ?_, fun j q1 q2 => by rw [upd_other _ _ q2, upd_other _ _ q1], fun τ q1 q2 => by rw [upd_other _ _ q2, upd_other _ _ q1], kA⟩
  · exact Wf_set (A := upd (upd A κc (some (.co 2 (d.cache.length + (partsL s).length)))) κr (some (.co 1 (l.recs.length + 1)))) (Wf_set hL.wf (DkAt.ok (kA κm (by rw [hL.dk.m]; simp)) (kA κc (by rw [hL.dk.c]; simp))) kA) (LgAt.ok (upd_keepH _ (by rw [upd_same]; simp)) (by rw [upd_same]; simp)) (fun _ h => h)
  · exact Above_updA (Above_updA (Above_updH (Above_updH hL.ab n1) m1) n3) m2
  · refine ⟨by rw [upd_other _ _ (hl.ne hL.dk).symm, upd_same], by rw [upd_other _ _ (hl.nm hL.dk).symm, upd_other _ _ hL.dk.ne.symm, hst]; exact hL.dk.m, by rw [upd_other _ _ (hl.nc hL.dk).symm, upd_same, hsp]⟩
  · intro lid' κr' l' q1 q2 hl'
    exact hl'.mv (by rw [upd_other _ _ q1, upd_other _ _ (hl'.ne hL.dk)]) (by rw [upd_other _ _ q2, upd_other _ _ (hl'.nc hL.dk)])
theorem Try.sCommit (hL : LW H A k did κm κc d) (hk : k < 1000) {lid : Nat} {κr : Tok} {l : Lg} (hl : LgAt H A lid did κr l) (hh : l.halted = false) (hn : 0 < d.n) (hcl : d.cache.length ≤ 1000000) (hf : d.fused = false) :
    StepOK Try.prog 16 H A [.c (.ptr lid 0)] (pD (.lit (.int .i64 0))) fun H' A' => LW H' A' (k + 1) did κm (k, 0) (flD d) ∧ (∀ lid κr l, LgAt H A lid did κr l → LgAt H' A' lid did κr l) ∧ (∀ j, j ≠ did → H' j = H j) ∧ (∀ τ, τ ≠ κm → τ.1 < k → A' τ = A τ) ∧ ∀ τ, A τ ≠ none → A' τ ≠ none := by
  obtain ⟨n1, n2, n3⟩ := hL.ne
  have nm0 : κm ≠ (k, 0) := tok_ne (by show κm.1 ≠ k; omega)
  have kc := Try.kCommit (κ' := (k, 0)) 1000 hL.wf hl hL.dk hh hn hcl (burnt_no hf) (hL.new 0).2 (by show k < 2000; omega)
  have hdc : (flD d).cache.length = 0 := rfl
  generalize flD d = dn at *
  have kA : ∀ τ, A τ ≠ none → upd (upd A κm (some (.mp (encNS dn.stays)))) (k, 0) (some (.co 2 0)) τ ≠ none := fun τ h => upd_keep _ (upd_keep _ h)
  refine ⟨_, _, kc, ⟨?_, ?_, ?_⟩, ?_, fun j q1 => by rw [upd_other _ _ q1], fun τ q1 q2 => by rw [upd_other _ _ (tok_ne (by show τ.1 ≠ k; omega)), upd_other _ _ q1], kA⟩
  · exact Wf_set hL.wf (DkAt.ok (kA κm (by rw [hL.dk.m]; simp)) (by rw [upd_same]; simp)) kA
  · exact Above_updA (Above_updA (Above_updH (Above_mono hL.ab (by omega)) (by omega)) (by omega)) (by show k < k + 1; omega)
  · exact ⟨upd_same _ _ _, by rw [upd_other _ _ nm0, upd_same], by rw [upd_same, hdc]⟩
  · intro lid κr l hl
    obtain ⟨m1, m2⟩ := hl.lt hL.ab
    exact hl.mv (by rw [upd_other _ _ (hl.ne hL.dk)]) (by rw [upd_other _ _ (tok_ne (by show κr.1 ≠ k; omega)), upd_other _ _ (hl.nm hL.dk)])
theorem Try.sCrash (hL : LW H A k did κm κc d) (hn : 0 < d.n) (hcl : d.cache.length ≤ 1000000) (keep : List Bool) (hkp : keep.length ≤ d.cache.length) :
    StepOK Try.prog 23 H A [.c (.ptr did 0), .c (.d (.sl (bools keep)))] (pD (.lit (.int .i64 0))) fun H' A' => LW H' A' (k + 1) did κm (k, 0) (crD d keep) ∧ (∀ lid κr l, LgAt H A lid did κr l → LgAt H' A' lid did κr l) ∧ (∀ j, j ≠ did → H' j = H j) ∧ (∀ τ, τ ≠ κm → τ.1 < k → A' τ = A τ) ∧ ∀ τ, A τ ≠ none → A' τ ≠ none := by
  obtain ⟨n1, n2, n3⟩ := hL.ne
  have nm0 : κm ≠ (k, 0) := tok_ne (by show κm.1 ≠ k; omega)
  have kc := Try.kCrash (κ' := (k, 0)) 1000 hL.wf hL.dk hn hcl keep hkp (hL.new 0).2
  have hdc : (crD d keep).cache.length = 0 := rfl
  generalize crD d keep = dn at *
  have kA : ∀ τ, A τ ≠ none → upd (upd A κm (some (.mp (encNS dn.stays)))) (k, 0) (some (.co 2 0)) τ ≠ none := fun τ h => upd_keep _ (upd_keep _ h)
  refine ⟨_, _, kc, ⟨?_, ?_, ?_⟩, ?_, fun j q1 => by rw [upd_other _ _ q1], fun τ q1 q2 => by rw [upd_other _ _ (tok_ne (by show τ.1 ≠ k; omega)), upd_other _ _ q1], kA⟩
  · exact Wf_set hL.wf (DkAt.ok (kA κm (by rw [hL.dk.m]; simp)) (by rw [upd_same]; simp)) kA
  · exact Above_updA (Above_updA (Above_updH (Above_mono hL.ab (by omega)) (by omega)) (by omega)) (by show k < k + 1; omega)
  · exact ⟨upd_same _ _ _, by rw [upd_other _ _ nm0, upd_same], by rw [upd_same, hdc]⟩
  · intro lid κr l hl
    obtain ⟨m1, m2⟩ := hl.lt hL.ab
    exact hl.mv (by rw [upd_other _ _ (hl.ne hL.dk)]) (by rw [upd_other _ _ (tok_ne (by show κr.1 ≠ k; omega)), upd_other _ _ (hl.nm hL.dk)])
theorem Try.sReset (hL : LW H A k did κm κc d) (hk : k < 1000) {lid : Nat} {κr : Tok} {l : Lg} (hl : LgAt H A lid did κr l) (hh : l.halted = false) (ht : l.turn + 1 < 9223372036854775807) (hin : l.from_ + 1 < d.n) (hdn : d.n ≤ 4096) (hcl : d.cache.length + 1 ≤ 1000000) (hf : d.fused = false) :
    StepOK Try.prog 17 H A [.c (.ptr lid 0)] (pD (.lit (.int .i64 0))) fun H' A' => LW H' A' (k + 1) did κm (k, 0) (nextD d l.from_ (l.turn + 1) (l.turn + 1)) ∧ LgAt H' A' lid did (k, 1) { l with turn := l.turn + 1, base := l.turn + 1, used := 0, recs := [] } ∧
      (∀ lid' κr' l', lid' ≠ lid → LgAt H A lid' did κr' l' → LgAt H' A' lid' did κr' l') ∧ (∀ j, j ≠ did → j ≠ lid → H' j = H j) ∧ (∀ τ, τ ≠ κm → τ ≠ κc → τ.1 < k → A' τ = A τ) ∧ ∀ τ, A τ ≠ none → A' τ ≠ none := by
  obtain ⟨n1, n2, n3⟩ := hL.ne
  obtain ⟨m1, m2⟩ := hl.lt hL.ab
  have nk : ((k, 1) : Tok) ≠ (k, 0) := fun e => by cases e
  have nm0 : κm ≠ (k, 0) := tok_ne (by show κm.1 ≠ k; omega)
  have nm1 : κm ≠ (k, 1) := tok_ne (by show κm.1 ≠ k; omega)
  have kr := Try.kReset (κ' := (k, 0)) (κr' := (k, 1)) 1000 hL.wf hl hL.dk hh ht hin hdn hcl (burnt_no hf) (burnt_no hf) (hL.new 0).2 (by show k < 2000; omega) (hL.new 1).2 nk
  have hdc : (nextD d l.from_ (l.turn + 1) (l.turn + 1)).cache.length = 0 := rfl
  generalize nextD d l.from_ (l.turn + 1) (l.turn + 1) = dn at *
  have kA : ∀ τ, A τ ≠ none → upd (upd (upd (upd A κc (some (.co 2 (d.cache.length + 1)))) κm (some (.mp (encNS dn.stays)))) (k, 0) (some (.co 2 0))) (k, 1) (some (.co 1 0)) τ ≠ none := fun τ h => upd_keep _ (upd_keep _ (upd_keep _ (upd_keep _ h)))
  refine ⟨_, _, kr, ⟨?_, ?_, ?_⟩, ⟨upd_same _ _ _, by rw [upd_same]; rfl⟩, ?_, fun j q1 q2 => by rw [upd_other _ _ q2, upd_other _ _ q2, upd_other _ _ q1], fun τ q1 q2 q3 => by rw [upd_other _ _ (tok_ne (by show τ.1 ≠ k; omega)), upd_other _ _ (tok_ne (by show τ.1 ≠ k; omega)), upd_other _ _ q1, upd_other _ _ q2], kA⟩
  · exact Wf_set (A := upd (upd (upd (upd A κc (some (.co 2 (d.cache.length + 1)))) κm (some (.mp (encNS dn.stays)))) (k, 0) (some (.co 2 0))) (k, 1) (some (.co 1 0)))
      (Wf_set (A := upd (upd (upd (upd A κc (some (.co 2 (d.cache.length + 1)))) κm (some (.mp (encNS dn.stays)))) (k, 0) (some (.co 2 0))) (k, 1) (some (.co 1 0)))
        (Wf_set hL.wf (DkAt.ok (kA κm (by rw [hL.dk.m]; simp)) (upd_keep _ (by rw [upd_same]; simp))) kA) (LgAt.ok (upd_keepH _ (by rw [upd_same]; simp)) (kA κr (by rw [hl.r]; simp))) (fun _ h => h))
      (LgAt.ok (upd_keepH _ (upd_keepH _ (by rw [upd_same]; simp))) (by rw [upd_same]; simp)) (fun _ h => h)
  · exact Above_updA (Above_updA (Above_updA (Above_updA (Above_updH (Above_updH (Above_updH (Above_mono hL.ab (by omega)) (by omega)) (by omega)) (by omega)) (by omega)) (by omega)) (by show k < k + 1; omega)) (by show k < k + 1; omega)
  · exact ⟨by rw [upd_other _ _ (hl.ne hL.dk).symm, upd_other _ _ (hl.ne hL.dk).symm, upd_same], by rw [upd_other _ _ nm1, upd_other _ _ nm0, upd_same], by rw [upd_other _ _ nk.symm, upd_same, hdc]⟩
  · intro lid' κr' l' q1 hl'
    obtain ⟨p1, p2⟩ := hl'.lt hL.ab
    exact hl'.mv (by rw [upd_other _ _ q1, upd_other _ _ q1, upd_other _ _ (hl'.ne hL.dk)]) (by rw [upd_other _ _ (tok_ne (by show κr'.1 ≠ k; omega)), upd_other _ _ (tok_ne (by show κr'.1 ≠ k; omega)), upd_other _ _ (hl'.nm hL.dk), upd_other _ _ (hl'.nc hL.dk)])
set_option maxRecDepth 8000 in
set_option maxHeartbeats 16000000 in
theorem Try.kAppendF (off : Nat) (hw : Wf H A) {lid : Nat} {κr : Tok} {l : Lg} (hl : LgAt H A lid did κr l) (hh : l.halted = false) (s : List UInt8) (hs : s.length ≤ 100000) (h1 : l.used ≤ l.places) (h2 : l.places ≤ 1000) (hno : l.places < l.used + needN s.length) :
    EffOK Try.prog 15 off H A [.c (.ptr lid 0), pD (dS s)] (pD (.lit (.int .i64 3))) H A := by
  refine effr_ok (E := envOf Try.prog [35, 21] off [] []) (envOf_ok Try.mixed) Try.func15 rfl Try.call15 (by kernel_rfl) (by exact Nat.le_of_ble_eq_true rfl) (fun hab => ?_)
  have ks := Try.kState (off + 1000) hw hl hh
  have kf := Try.kFits (off + 1000) hw hl s.length hs h1 h2
  rw [show decide (l.used + needN s.length ≤ l.places) = false from decide_eq_false (by omega)] at kf
  repeat' (first
    | with_reducible refine VC_seq fun K hK => ?_
    | with_reducible refine W_region ?_
    | with_reducible refine VC_block ?_
    | with_reducible refine VC_scope ?_
    | with_reducible refine VC_if ?_
    | with_reducible refine VC_skip ?_
    | with_reducible refine VC_exit ?_
    | with_reducible refine VC_ret ?_
    | (with_reducible refine G_not (fun h => ?_) (fun h => ?_) <;> (try simp only [h]))
    | (with_reducible refine G_cases (fun h => ?_) (fun h => ?_) <;> (try simp only [h]))
    | refine C_call rfl ks rfl (Above_mono hab (by omega)) ?_
    | refine C_call rfl kf rfl (Above_mono hab (by omega)) ?_
    | (with_reducible refine hK _ ?_; clear hK K)
    | (clear hK K; with_reducible refine hK _ ?_; clear hK K)
    | (clear hK K; clear hK K; with_reducible refine hK _ ?_; clear hK K)
    | (clear hK K; clear hK K; clear hK K; with_reducible refine hK _ ?_; clear hK K)
    | (with_reducible refine todo ?_; simp +decide only [go_sem, zne]))
  exact RetR_same rfl (by simp +decide only [go_sem]) True.intro hw kp_refl (fun _ _ => rfl)
set_option maxRecDepth 8000 in
set_option maxHeartbeats 16000000 in
theorem Try.kOpenE (off : Nat) (hw : Wf H A) (hd : DkAt H A did κm κc d) (f n : Nat) (n1 : 4 ≤ n) (n2 : n ≤ 1000) (hn : 0 < d.n) (h1 : f ≤ d.n) (h2 : d.n < f + n) (hdn : d.n ≤ 4096) :
    EffOK Try.prog 14 off H A [.c (.ptr did 0), pD (.lit (.int .i64 f)), pD (.lit (.int .i64 n))] (.tup [.c (.d (.lit (.pointer none))), .c (.d (.lit (.int .i64 1)))]) H A := by
  refine effr_ok (E := envOf Try.prog [31] off [] []) (envOf_ok Try.mixed) Try.func14 rfl Try.call14 (by kernel_rfl) (by exact Nat.le_of_ble_eq_true rfl) (fun hab => ?_)
  have q1 : ((d.n : Int) == 0) = false := by rw [beq_eq_false_iff_ne]; omega
  have q2 : ((n : Int) < 4) = False := eq_false (by omega)
  have q3 : ((1000 : Int) < (n : Int)) = False := eq_false (by omega)
  have q4 : ((f : Int) < 0) = False := eq_false (by omega)
  have q5 : ((d.n : Int) < (f : Int)) = False := eq_false (by omega)
  have q6 : IntKind.i64.wrap ((d.n : Int) - (f : Int)) = ((d.n - f : Nat) : Int) := by rw [Go.IntWalk.i64_in _ (by omega)]; omega
  have q7 : (((d.n - f : Nat) : Int) < (n : Int)) = True := eq_true (by omega)
  have kl := Try.kLen (off + 1000) hw hd
  repeat' (first
    | with_reducible refine VC_seq fun K hK => ?_
    | with_reducible refine W_region ?_
    | with_reducible refine VC_block ?_
    | with_reducible refine VC_scope ?_
    | with_reducible refine VC_if ?_
    | with_reducible refine VC_skip ?_
    | with_reducible refine VC_exit ?_
    | with_reducible refine VC_ret ?_
    | (with_reducible refine G_not (fun h => ?_) (fun h => ?_) <;> (try simp only [h]))
    | (with_reducible refine G_cases (fun h => ?_) (fun h => ?_) <;> (try simp only [h]))
    | refine C_call rfl kl rfl (Above_mono hab (by omega)) ?_
    | (with_reducible refine hK _ ?_; clear hK K)
    | (clear hK K; with_reducible refine hK _ ?_; clear hK K)
    | (clear hK K; clear hK K; with_reducible refine hK _ ?_; clear hK K)
    | (clear hK K; clear hK K; clear hK K; with_reducible refine hK _ ?_; clear hK K)
    | (with_reducible refine todo ?_; simp +decide only [go_sem, q1, q2, q3, q4, q5, q6, q7]))
  exact RetR_same rfl wk_pair oks_pair hw kp_refl (fun _ _ => rfl)
end wal
/-- A contract without variables is one on data. -/
theorem pure_eff {P : Program} {f : FuncId} {args : List PV} {x : D} (hcl : args.all PV.closed = true) (h : EffOK P f 0 noH noA args (pD x) noH noA) : PureOK P f args (.one (.d x)) := by
  refine ⟨hcl, fun C w vals hC har => ?_⟩
  have hm : MRel (gOnly C) noH noA w := ⟨hC, fun id b hb => (by cases hb), fun κ ar hA => (by cases hA), fun b o ho => (by cases ho)⟩
  rcases h (gOnly C) w vals hm (fun _ _ => rfl) (fun i _ => ⟨rfl, fun _ => rfl⟩) har with ⟨a, hc⟩ | ⟨v, w', hc, g', h1, h2, h3, _⟩
  · exact .inl ⟨a, hc.mono fun e W' ⟨v, e1, g', h1, h2, h3, _⟩ => ⟨v, e1, g', h1, h2, h3⟩⟩
  · exact .inr ⟨v, w', hc, g', h1, h2, h3⟩
end Go.Proofs

/-
  What must come of fixed calls.
-/

namespace Go.Proofs
open Go.PW
/-- A disk on which no fuse burns. -/
structure DI (n c : Nat) (d : Dk) : Prop where
  n : d.n = n
  c : d.cache.length = c
  f : d.fused = false
  g : DkG d
theorem DI.new (n : Nat) : DI n 0 (newD n) := ⟨rfl, rfl, rfl, DkG_new n⟩
theorem DI.wr {n c : Nat} {d : Dk} (h : DI n c d) (k : Int) (s : List UInt8) : DI n (c + 1) (wrD d k s) := ⟨h.n, by show (d.cache ++ [_]).length = _; rw [List.length_append, h.c]; rfl, h.f, h.g⟩
theorem DI.fl {n c : Nat} {d : Dk} (h : DI n c d) : DI n 0 (flD d) := ⟨h.n, rfl, h.f, h.g.fl⟩
theorem DI.cr {n c : Nat} {d : Dk} (h : DI n c d) (keep : List Bool) : DI n 0 (crD d keep) := ⟨h.n, rfl, rfl, h.g.cr keep⟩
theorem DI.next {n c : Nat} {d : Dk} (h : DI n c d) (f t b : Nat) : DI n 0 (nextD d f t b) := (h.wr _ _).fl
theorem DI.ap {n c : Nat} {d : Dk} (h : DI n c d) (l : Lg) (s : List UInt8) (m : Nat) (cut : List (List UInt8)) : ∀ k, DI n (c + k) (apD l s m cut d k)
  | 0 => h
  | k + 1 => (DI.ap h l s m cut k).wr _ _
theorem rd_next {n c : Nat} {d : Dk} (h : DI n c d) (f t b : Nat) (j : Int) : rd (nextD d f t b) j = if ((f + t % 2 : Nat) : Int) = j then pad (turnB t b) else rd d j := by
  unfold nextD
  rw [rd_fl (h.g.wr _ _), rd_wr]
theorem rd_cr0 {n c : Nat} {d : Dk} (h : DI n c d) (j : Int) : rd (crD d []) j = lkR j d.stays := by
  rw [rd_cr h.g, show keptL d.cache [] = [] by unfold keptL; simp]
  rfl
theorem rd_stays {n : Nat} {d : Dk} (h : DI n 0 d) (j : Int) : lkR j d.stays = rd d j := by
  rw [rd_eq, List.length_eq_zero_iff.1 h.c]; rfl
theorem pad_seal_len (b : List UInt8) : (pad (sealB b)).length ≤ 128 := by rw [pad_len (sealB_len b)]; omega
theorem if_len {p : Prop} [Decidable p] {b x : List UInt8} (h : x.length ≤ 128) : (if p then pad (sealB b) else x).length ≤ 128 := by
  split
  · exact pad_seal_len b
  · exact h
def kn1 : Dk := nextD (newD 20) 2 1 0
def knL : Lg := ⟨2, 8, 1, 0, 0, [], false⟩
def kn2 : Dk := apD knL [97] 1 [[97]] kn1 1
def kn3 : Dk := flD kn2
def knL2 : Lg := ⟨2, 8, 1, 0, 1, [[97]], false⟩
def kn4 : Dk := apD knL2 [98] 1 [[98]] kn3 1
def kn5 : Dk := crD kn4 []
def kn6 : Dk := nextD kn5 2 2 0
def kn7 : Dk := nextD kn6 2 3 3
def knB : List UInt8 := headL 1 0 0 ++ sum4 [97] ++ [97]
def knPl : Nat → Option Pc := fun i => if i = 0 then some ⟨1, sum4 [97], [97], false⟩ else none
theorem i1 : DI 20 0 kn1 := (DI.new 20).next 2 1 0
theorem i2 : DI 20 1 kn2 := i1.ap _ _ _ _ 1
theorem i3 : DI 20 0 kn3 := i2.fl
theorem i4 : DI 20 1 kn4 := i3.ap _ _ _ _ 1
theorem i5 : DI 20 0 kn5 := i4.cr []
theorem i6 : DI 20 0 kn6 := i5.next 2 2 0
theorem i7 : DI 20 0 kn7 := i6.next 2 3 3
theorem r1 (j : Int) : rd kn1 j = if (3 : Int) = j then pad (turnB 1 0) else zeros := by
  unfold kn1; rw [rd_next (DI.new 20), rd_new]; rfl
theorem r5 (j : Int) : rd kn5 j = if (4 : Int) = j then pad (sealB knB) else if (3 : Int) = j then pad (turnB 1 0) else zeros := by
  unfold kn5
  rw [rd_cr0 i4, show kn4.stays = kn3.stays from rfl, rd_stays i3]
  unfold kn3
  rw [rd_fl i2.g]
  show rd (wrD kn1 _ _) j = _
  rw [rd_wr, r1]
  rfl
theorem r7 (j : Int) : rd kn7 j = if (3 : Int) = j then pad (turnB 3 3) else if (2 : Int) = j then pad (turnB 2 0) else if (4 : Int) = j then pad (sealB knB) else if (3 : Int) = j then pad (turnB 1 0) else zeros := by
  unfold kn7
  rw [rd_next i6]
  unfold kn6
  rw [rd_next i5, r5]
  rfl
theorem knAt (i : Nat) : AtOK (if i = 0 then pad (sealB knB) else zeros) i (knPl i) := by
  unfold knPl
  by_cases h : i = 0
  · rw [if_pos h, if_pos h, h]
    exact at_place (c := 0) rfl (by omega) (sum4_len _) (by decide) (fun h => by cases h) (by decide +kernel)
  · rw [if_neg h, if_neg h]; exact at_zeros i
theorem o1 : OpAt (newD 20) 2 10 0 0 0 0 (fun _ => none) :=
  ⟨by decide, by decide, by decide, by decide, by decide, fun i _ => by rw [rd_new, zeros_len]; omega, by rw [rd_new]; exact tell_zeros, by rw [rd_new]; exact tell_zeros, fun i _ => by rw [rd_new]; exact at_zeros i⟩
theorem o5 : OpAt kn5 2 10 0 0 1 0 knPl := by
  refine ⟨by decide, by decide, by rw [i5.n]; omega, by rw [i5.n]; omega, by rw [i5.c]; omega, fun i _ => ?_, ?_, ?_, fun i _ => ?_⟩
  · rw [r5]; unfold turnB; exact if_len (if_len (by rw [zeros_len]; omega))
  · rw [r5, if_neg (by omega), if_neg (by omega)]; exact tell_zeros
  · rw [r5, if_neg (by omega), if_pos (by omega)]; exact tell_turn (by omega) (by omega)
  · have := knAt i
    by_cases h : i = 0
    · rw [if_pos h] at this; rw [r5, if_pos (by omega)]; exact this
    · rw [if_neg h] at this; rw [r5, if_neg (by omega), if_neg (by omega)]; exact this
theorem o7 : OpAt kn7 2 10 2 0 3 3 knPl := by
  refine ⟨by decide, by decide, by rw [i7.n]; omega, by rw [i7.n]; omega, by rw [i7.c]; omega, fun i _ => ?_, ?_, ?_, fun i _ => ?_⟩
  · rw [r7]; unfold turnB; exact if_len (if_len (if_len (if_len (by rw [zeros_len]; omega))))
  · rw [r7, if_neg (by omega), if_pos (by omega)]; exact tell_turn (by omega) (by omega)
  · rw [r7, if_pos (by omega)]; exact tell_turn (by omega) (by omega)
  · have := knAt i
    by_cases h : i = 0
    · rw [if_pos h] at this; rw [r7, if_neg (by omega), if_neg (by omega), if_pos (by omega)]; exact this
    · rw [if_neg h] at this; rw [r7, if_neg (by omega), if_neg (by omega), if_neg (by omega), if_neg (by omega)]; exact this
theorem fit1 : knL.used + needN [97].length ≤ knL.places := by decide
theorem l1e : opL 2 10 0 0 0 0 (fun _ => none) = knL := rfl
theorem l5e : opL 2 10 0 0 1 0 knPl = ⟨2, 8, 2, 0, 1, [[97]], false⟩ := by kernel_rfl
theorem l7e : opL 2 10 2 0 3 3 knPl = ⟨2, 8, 4, 3, 0, [], false⟩ := by kernel_rfl
set_option maxRecDepth 8000 in
set_option maxHeartbeats 32000000 in
theorem Try.kKnown : PureOK Try.prog 9 [] (.one (.d (.lit (.bool true)))) := by
  obtain ⟨H1, A1, e1, L1, _⟩ := Try.sNew 0 20 (by omega) (by omega)
  obtain ⟨H2, A2, e2, L2, g2, _⟩ := Try.sOpen L1 (by omega) o1 rfl
  rw [l1e] at g2
  have L2 : LW H2 A2 2 0 (0, 0) (1, 1) kn1 := L2
  have e3 := Try.kOpenE 1000 L2.wf L2.dk 12 10 (by omega) (by omega) (by rw [i1.n]; omega) (by rw [i1.n]; omega) (by rw [i1.n]; omega) (by rw [i1.n]; omega)
  obtain ⟨H4, A4, e4, L4, g4, _⟩ := Try.sAppend L2 g2 rfl [97] (by decide) (by decide) (by decide) (by decide) (by rw [i1.n]; decide) (by rw [i1.n]; omega) (by rw [i1.c]; omega) (by decide) i1.f
  have L4 : LW H4 A4 2 0 (0, 0) (1, 1) kn2 := L4
  have g4 : LgAt H4 A4 1 0 (1, 0) knL2 := g4
  obtain ⟨H5, A5, e5, L5, f5, _⟩ := Try.sCommit L4 (by omega) g4 rfl (by rw [i2.n]; omega) (by rw [i2.c]; omega) i2.f
  have L5 : LW H5 A5 3 0 (0, 0) (2, 0) kn3 := L5
  have g5 := f5 _ _ _ g4
  obtain ⟨H6, A6, e6, L6, g6, _⟩ := Try.sAppend L5 g5 rfl [98] (by decide) (by decide) (by decide) (by decide) (by rw [i3.n]; decide) (by rw [i3.n]; omega) (by rw [i3.c]; omega) (by decide) i3.f
  have L6 : LW H6 A6 3 0 (0, 0) (2, 0) kn4 := L6
  have e7 := Try.kUsed 1000 L6.wf g6
  obtain ⟨H8, A8, e8, L8, _⟩ := Try.sCrash L6 (by rw [i4.n]; omega) (by rw [i4.c]; omega) [] (by rw [i4.c]; exact Nat.zero_le _)
  have L8 : LW H8 A8 4 0 (0, 0) (3, 0) kn5 := L8
  obtain ⟨H9, A9, e9, L9, g9, _⟩ := Try.sOpen L8 (by omega) o5 i5.f
  rw [l5e] at g9
  have L9 : LW H9 A9 5 0 (0, 0) (4, 1) kn6 := L9
  have e10 := Try.kRecords 1000 L9.wf g9 (by decide)
  obtain ⟨H11, A11, e11, L11, g11, _⟩ := Try.sReset L9 (by omega) g9 rfl (by decide) (by rw [i6.n]; decide) (by rw [i6.n]; omega) (by rw [i6.c]; omega) i6.f
  have L11 : LW H11 A11 6 0 (0, 0) (5, 0) kn7 := L11
  have e12 := Try.kGen 1000 L11.wf g11
  obtain ⟨H13, A13, e13, L13, g13, f13, _⟩ := Try.sOpen L11 (by omega) o7 i7.f
  rw [l7e] at g13
  have g13' := f13 _ _ _ g11
  have e14 := Try.kSeal [120, 121] (by decide)
  have e15 := Try.kUnseal (sealB [120, 121] ++ [122]) (by have := sealB_len [120, 121]; rw [List.length_append]; simp only [List.length_singleton]; omega)
  rw [unseal_seal _ _ (by decide)] at e15
  simp only [optS] at e15
  have e16 := Try.kTexts [[97]] [[97]] (by decide)
  have e17 := Try.kRecords 1000 L13.wf g13 (by decide)
  have e18 := Try.kGen 1000 L13.wf g13
  have e19 := Try.kFits 1000 L13.wf g13' 800 (by omega) (by decide) (by decide)
  have e20 := Try.kFits 1000 L13.wf g13' 801 (by omega) (by decide) (by decide)
  have hcat : ((sealB [120, 121]).length + 1 ≤ 9223372036854775807) = True := eq_true (by have := sealB_len [120, 121]; omega)
  generalize sealB [120, 121] = sb at *
  have v1 : (((knL2.used + (partsL [98]).length : Nat) : Int) == 2) = true := rfl
  have v2 : (((2 + 1 : Nat) : Int) == 3) = true := rfl
  have v3 : (((textsD []).length : Int) == 0) = true := rfl
  have v4 : (((4 : Nat) : Int) == 4) = true := rfl
  refine pure_eff rfl (effr_ok (E := envOf Try.prog [22, 14, 15, 16, 20, 23, 18, 17, 19, 21] 0 [] []) (envOf_ok Try.mixed) Try.func9 rfl Try.call9 (by kernel_rfl) (by exact Nat.le_of_ble_eq_true rfl) (fun hab => ?_))
  repeat' (first
    | with_reducible refine VC_seq fun K hK => ?_
    | with_reducible refine W_region ?_
    | with_reducible refine VC_block ?_
    | with_reducible refine VC_scope ?_
    | with_reducible refine VC_if ?_
    | with_reducible refine VC_skip ?_
    | with_reducible refine VC_exit ?_
    | with_reducible refine VC_ret ?_
    | (with_reducible refine G_not (fun h => ?_) (fun h => ?_) <;> (try simp only [h]))
    | (with_reducible refine G_cases (fun h => ?_) (fun h => ?_) <;> (try simp only [h]))
    | refine C_call rfl e1 rfl (Above_mono hab (by omega)) ?_
    | refine C_call rfl e2 rfl (Above_mono L1.ab (by omega)) ?_
    | refine C_call rfl e3 rfl (Above_mono L2.ab (by omega)) ?_
    | refine C_call rfl e4 rfl (Above_mono L2.ab (by omega)) ?_
    | refine C_call rfl e5 rfl (Above_mono L4.ab (by omega)) ?_
    | refine C_call rfl e6 rfl (Above_mono L5.ab (by omega)) ?_
    | refine C_call rfl e7 rfl (Above_mono L6.ab (by omega)) ?_
    | refine C_call rfl e8 rfl (Above_mono L6.ab (by omega)) ?_
    | refine C_call rfl e9 rfl (Above_mono L8.ab (by omega)) ?_
    | refine C_call rfl e10 rfl (Above_mono L9.ab (by omega)) ?_
    | refine C_call rfl e11 rfl (Above_mono L9.ab (by omega)) ?_
    | refine C_call rfl e12 rfl (Above_mono L11.ab (by omega)) ?_
    | refine C_call rfl e13 rfl (Above_mono L11.ab (by omega)) ?_
    | refine C_pure e14 rfl rfl (fun k => (L13.ab _ (Nat.le_of_ble_eq_true rfl)).2 k) ?_
    | refine C_pure e15 rfl rfl (fun k => (L13.ab _ (Nat.le_of_ble_eq_true rfl)).2 k) ?_
    | refine C_pure e16 rfl rfl (fun k => (L13.ab _ (Nat.le_of_ble_eq_true rfl)).2 k) ?_
    | refine C_call rfl e17 rfl (Above_mono L13.ab (by omega)) ?_
    | refine C_call rfl e18 rfl (Above_mono L13.ab (by omega)) ?_
    | refine C_call rfl e19 rfl (Above_mono L13.ab (by omega)) ?_
    | refine C_call rfl e20 rfl (Above_mono L13.ab (by omega)) ?_
    | (with_reducible refine hK _ ?_; clear hK K)
    | (clear hK K; with_reducible refine hK _ ?_; clear hK K)
    | (clear hK K; clear hK K; with_reducible refine hK _ ?_; clear hK K)
    | (clear hK K; clear hK K; clear hK K; with_reducible refine hK _ ?_; clear hK K)
    | (with_reducible refine todo ?_; simp +decide only [go_sem, zne, hcat, v1, v2, v3, v4]))
  exact RetR_same rfl (by simp +decide only [go_sem]) True.intro (fun i cs c h => by cases h) (fun i h => (h rfl).elim) (fun i h => (h rfl).elim)
end Go.Proofs
