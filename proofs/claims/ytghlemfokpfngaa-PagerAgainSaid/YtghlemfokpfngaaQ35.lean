/-
  Parts of the proof, laid together: PwRa, PwRb.
-/
import Derived.Test.YtghlemfokpfngaaQ34
import Derived.Test.YtghlemfokpfngaaQ30
import Derived.Test.YtghlemfokpfngaaQ19

namespace Go.Proofs
open Go.PW
section wal
variable {H : HMap} {A : AMap} {k did : Nat} {κm κc : Tok} {d : Dk}
theorem Try.tAppendG (off : Nat) (hL : LW H A k did κm κc d) {lid : Nat} {κr : Tok} {l : Lg} (hl : LgAt H A lid did κr l) (hh : l.halted = false) (s : List UInt8) (hs : s.length ≤ 5000) (hfit : l.used + needN s.length ≤ l.places) (hp : l.places ≤ 1000) (ht : l.turn < 9223372036854775808)
    (hin : l.from_ + 2 + l.places ≤ d.n) (hdn : d.n ≤ 4096) (hcl : d.cache.length + 100 ≤ 1000000) (hrl : l.recs.length ≤ 1000000) (hbs : ∀ k, k < (partsL s).length → burnt (apD l s (partsL s).length (partsL s) d k) = false) :
    SOK off Try.prog 33 H A [.c (.ptr lid 0), pD (dS s)] (pD (.lit (.int .i64 0))) fun H' A' =>
      LW H' A' k did κm κc (apD l s (partsL s).length (partsL s) d (partsL s).length) ∧ LgAt H' A' lid did κr { l with recs := l.recs ++ [s], used := l.used + (partsL s).length } ∧ (∀ lid' κr' l', lid' ≠ lid → κr' ≠ κr → LgAt H A lid' did κr' l' → LgAt H' A' lid' did κr' l') ∧ (∀ j, j ≠ did → j ≠ lid → H' j = H j) ∧ (∀ τ, τ ≠ κc → τ ≠ κr → A' τ = A τ) ∧ ∀ τ, A τ ≠ none → A' τ ≠ none := by
  obtain ⟨n1, n2, n3⟩ := hL.ne
  obtain ⟨m1, m2⟩ := hl.lt hL.ab
  have ka := Try.kAppendG off hL.wf hl hL.dk hh s hs hfit hp ht hin hdn hcl hrl hbs
  have hsp := (apD_spec l s (partsL s).length (partsL s) d (partsL s).length).2.1
  have hst := (apD_spec l s (partsL s).length (partsL s) d (partsL s).length).2.2.2
  clear hbs
  generalize apD l s (partsL s).length (partsL s) d (partsL s).length = dn at *
  have kA : ∀ τ, A τ ≠ none → upd (upd A κc (some (.co 2 (d.cache.length + (partsL s).length)))) κr (some (.co 1 (l.recs.length + 1))) τ ≠ none := fun τ h => upd_keep _ (upd_keep _ h)
  refine ⟨_, _, ka, ⟨?_, ?_, ?_⟩, ⟨upd_same _ _ _, by rw [upd_same]; simp⟩, ?_, fun j q1 q2 => by rw [upd_other _ _ q2, upd_other _ _ q1], fun τ q1 q2 => by rw [upd_other _ _ q2, upd_other _ _ q1], kA⟩
  · exact Wf_set (A := upd (upd A κc (some (.co 2 (d.cache.length + (partsL s).length)))) κr (some (.co 1 (l.recs.length + 1)))) (Wf_set hL.wf (DkAt.ok (kA κm (by rw [hL.dk.m]; simp)) (kA κc (by rw [hL.dk.c]; simp))) kA) (LgAt.ok (upd_keepH _ (by rw [upd_same]; simp)) (by rw [upd_same]; simp)) (fun _ h => h)
  · exact Above_updA (Above_updA (Above_updH (Above_updH hL.ab n1) m1) n3) m2
  · refine ⟨by rw [upd_other _ _ (hl.ne hL.dk).symm, upd_same], by rw [upd_other _ _ (hl.nm hL.dk).symm, upd_other _ _ hL.dk.ne.symm, hst]; exact hL.dk.m, by rw [upd_other _ _ (hl.nc hL.dk).symm, upd_same, hsp]⟩
  · intro lid' κr' l' q1 q2 hl'
    exact hl'.mv (by rw [upd_other _ _ q1, upd_other _ _ (hl'.ne hL.dk)]) (by rw [upd_other _ _ q2, upd_other _ _ (hl'.nc hL.dk)])
theorem Try.tAppendB (off : Nat) (hL : LW H A k did κm κc d) {lid : Nat} {κr : Tok} {l : Lg} (hl : LgAt H A lid did κr l) (hh : l.halted = false) (s : List UInt8) (hs : s.length ≤ 5000) (hfit : l.used + needN s.length ≤ l.places) (hp : l.places ≤ 1000) (ht : l.turn < 9223372036854775808)
    (hin : l.from_ + 2 + l.places ≤ d.n) (hdn : d.n ≤ 4096) (hcl : d.cache.length + 100 ≤ 1000000) (k0 : Nat) (hk0 : k0 < (partsL s).length) (hbs : ∀ k, k < k0 → burnt (apD l s (partsL s).length (partsL s) d k) = false) (hbb : burnt (apD l s (partsL s).length (partsL s) d k0) = true) :
    SOK off Try.prog 33 H A [.c (.ptr lid 0), pD (dS s)] (pD (.lit (.int .i64 6))) fun H' A' =>
      LW H' A' k did κm κc (apD l s (partsL s).length (partsL s) d k0) ∧ LgAt H' A' lid did κr { l with halted := true } ∧ (∀ j, j ≠ did → j ≠ lid → H' j = H j) ∧ (∀ τ, τ ≠ κc → A' τ = A τ) ∧ ∀ τ, A τ ≠ none → A' τ ≠ none := by
  obtain ⟨n1, n2, n3⟩ := hL.ne
  obtain ⟨m1, m2⟩ := hl.lt hL.ab
  have ka := Try.kAppendB off hL.wf hl hL.dk hh s hs hfit hp ht hin hdn hcl k0 hk0 hbs hbb
  have hsp := (apD_spec l s (partsL s).length (partsL s) d k0).2.1
  have hst := (apD_spec l s (partsL s).length (partsL s) d k0).2.2.2
  clear hbs hbb
  generalize apD l s (partsL s).length (partsL s) d k0 = dn at *
  have kA : ∀ τ, A τ ≠ none → upd A κc (some (.co 2 (d.cache.length + k0))) τ ≠ none := fun τ h => upd_keep _ h
  refine ⟨_, _, ka, ⟨?_, ?_, ?_⟩, ⟨upd_same _ _ _, by rw [upd_other _ _ (hl.nc hL.dk)]; exact hl.r⟩, fun j q1 q2 => by rw [upd_other _ _ q2, upd_other _ _ q1], fun τ q1 => by rw [upd_other _ _ q1], kA⟩
  · exact Wf_set (A := upd A κc (some (.co 2 (d.cache.length + k0)))) (Wf_set hL.wf (DkAt.ok (kA κm (by rw [hL.dk.m]; simp)) (kA κc (by rw [hL.dk.c]; simp))) kA) (LgAt.ok (upd_keepH _ (by rw [upd_same]; simp)) (kA κr (by rw [hl.r]; simp))) (fun _ h => h)
  · exact Above_updA (Above_updH (Above_updH hL.ab n1) m1) n3
  · refine ⟨by rw [upd_other _ _ (hl.ne hL.dk).symm, upd_same], by rw [upd_other _ _ hL.dk.ne.symm, hst]; exact hL.dk.m, by rw [upd_same, hsp]⟩
theorem Try.tCommitB (off : Nat) (hL : LW H A k did κm κc d) {lid : Nat} {κr : Tok} {l : Lg} (hl : LgAt H A lid did κr l) (hh : l.halted = false) (hn : 0 < d.n) (hb : burnt d = true) :
    SOK off Try.prog 34 H A [.c (.ptr lid 0)] (pD (.lit (.int .i64 6))) fun H' A' => A' = A ∧ LW H' A k did κm κc d ∧ LgAt H' A lid did κr { l with halted := true } ∧ ∀ j, j ≠ lid → H' j = H j := by
  obtain ⟨m1, m2⟩ := hl.lt hL.ab
  have hdid : H did ≠ none := by rw [hL.dk.h]; simp
  refine ⟨_, _, Try.kCommitB off hL.wf hl hL.dk hh hn hb, rfl, ⟨Wf_set hL.wf (LgAt.ok (upd_keepH _ hdid) (by rw [hl.r]; simp)) (fun _ h => h), Above_updH hL.ab m1, hL.dk.updH (hl.ne hL.dk).symm⟩, ⟨upd_same _ _ _, hl.r⟩, fun j q => upd_other _ _ q⟩
theorem Try.tCommitG (off : Nat) (hL : LW H A k did κm κc d) (hk : k < off + 1000) {lid : Nat} {κr : Tok} {l : Lg} (hl : LgAt H A lid did κr l) (hh : l.halted = false) (hn : 0 < d.n) (hcl : d.cache.length ≤ 1000000) (hb : burnt d = false) :
    SOK off Try.prog 34 H A [.c (.ptr lid 0)] (pD (.lit (.int .i64 0))) fun H' A' => LW H' A' (k + 1) did κm (k, 0) (flD d) ∧ LgAt H' A' lid did κr l ∧ (∀ j, j ≠ did → H' j = H j) ∧ (∀ τ, τ ≠ κm → τ.1 < k → A' τ = A τ) ∧ ∀ τ, A τ ≠ none → A' τ ≠ none := by
  obtain ⟨n1, n2, n3⟩ := hL.ne
  have nm0 : κm ≠ (k, 0) := tok_ne (by show κm.1 ≠ k; omega)
  have kc := Try.kCommit (κ' := (k, 0)) off hL.wf hl hL.dk hh hn hcl hb (hL.new 0).2 (by show k < off + 1000; omega)
  have hdc : (flD d).cache.length = 0 := rfl
  generalize flD d = dn at *
  have kA : ∀ τ, A τ ≠ none → upd (upd A κm (some (.mp (encNS dn.stays)))) (k, 0) (some (.co 2 0)) τ ≠ none := fun τ h => upd_keep _ (upd_keep _ h)
  obtain ⟨m1, m2⟩ := hl.lt hL.ab
  refine ⟨_, _, kc, ⟨?_, ?_, ?_⟩, ?_, fun j q1 => by rw [upd_other _ _ q1], fun τ q1 q2 => by rw [upd_other _ _ (tok_ne (by show τ.1 ≠ k; omega)), upd_other _ _ q1], kA⟩
  · exact Wf_set hL.wf (DkAt.ok (kA κm (by rw [hL.dk.m]; simp)) (by rw [upd_same]; simp)) kA
  · exact Above_updA (Above_updA (Above_updH (Above_mono hL.ab (by omega)) (by omega)) (by omega)) (by show k < k + 1; omega)
  · exact ⟨upd_same _ _ _, by rw [upd_other _ _ nm0, upd_same], by rw [upd_same, hdc]⟩
  · exact hl.mv (by rw [upd_other _ _ (hl.ne hL.dk)]) (by rw [upd_other _ _ (tok_ne (by show κr.1 ≠ k; omega)), upd_other _ _ (hl.nm hL.dk)])
theorem Try.tFuse (off : Nat) (hL : LW H A k did κm κc d) (hn : 0 < d.n) (n : Int) : SOK off Try.prog 8 H A [.c (.ptr did 0), pD (.lit (.int .i64 n))] (.c .any) fun H' A' => A' = A ∧ LW H' A k did κm κc (fuseD d n) ∧ ∀ j, j ≠ did → H' j = H j := by
  obtain ⟨n1, _, _⟩ := hL.ne
  exact ⟨_, _, Try.kFuse off hL.wf hL.dk hn n, rfl, ⟨DkAt.wf hL.wf hL.dk _ (fun _ h => h), Above_updH hL.ab n1, ⟨upd_same _ _ _, hL.dk.m, hL.dk.c⟩⟩, fun j q => upd_other _ _ q⟩
theorem Try.tResetG (off : Nat) (hL : LW H A k did κm κc d) (hk : k < off + 1000) {lid : Nat} {κr : Tok} {l : Lg} (hl : LgAt H A lid did κr l) (hh : l.halted = false) (ht : l.turn + 1 < 9223372036854775807) (hin : l.from_ + 1 < d.n) (hdn : d.n ≤ 4096) (hcl : d.cache.length + 1 ≤ 1000000) (hb1 : burnt d = false) (hb2 : burnt (wrD d ((l.from_ + (l.turn + 1) % 2 : Nat) : Int) (turnB (l.turn + 1) (l.turn + 1))) = false) :
    SOK off Try.prog 61 H A [.c (.ptr lid 0)] (pD (.lit (.int .i64 0))) fun H' A' => LW H' A' (k + 1) did κm (k, 0) (nextD d l.from_ (l.turn + 1) (l.turn + 1)) ∧ LgAt H' A' lid did (k, 1) { l with turn := l.turn + 1, base := l.turn + 1, used := 0, recs := [] } ∧
      (∀ lid' κr' l', lid' ≠ lid → LgAt H A lid' did κr' l' → LgAt H' A' lid' did κr' l') ∧ (∀ j, j ≠ did → j ≠ lid → H' j = H j) ∧ (∀ τ, τ ≠ κm → τ ≠ κc → τ.1 < k → A' τ = A τ) ∧ ∀ τ, A τ ≠ none → A' τ ≠ none := by
  obtain ⟨n1, n2, n3⟩ := hL.ne
  obtain ⟨m1, m2⟩ := hl.lt hL.ab
  have nk : ((k, 1) : Tok) ≠ (k, 0) := fun e => by cases e
  have nm0 : κm ≠ (k, 0) := tok_ne (by show κm.1 ≠ k; omega)
  have nm1 : κm ≠ (k, 1) := tok_ne (by show κm.1 ≠ k; omega)
  have kr := Try.kReset (κ' := (k, 0)) (κr' := (k, 1)) off hL.wf hl hL.dk hh ht hin hdn hcl hb1 hb2 (hL.new 0).2 (by show k < off + 1000; omega) (hL.new 1).2 nk
  have hdc : (nextD d l.from_ (l.turn + 1) (l.turn + 1)).cache.length = 0 := rfl
  generalize nextD d l.from_ (l.turn + 1) (l.turn + 1) = dn at *
  have kA : ∀ τ, A τ ≠ none → upd (upd (upd (upd A κc (some (.co 2 (d.cache.length + 1)))) κm (some (.mp (encNS dn.stays)))) (k, 0) (some (.co 2 0))) (k, 1) (some (.co 1 0)) τ ≠ none := fun τ h => upd_keep _ (upd_keep _ (upd_keep _ (upd_keep _ h)))
  refine ⟨_, _, kr, ⟨?_, ?_, ?_⟩, ⟨upd_same _ _ _, by rw [upd_same]; rfl⟩, ?_, fun j q1 q2 => by rw [upd_other _ _ q2, upd_other _ _ q2, upd_other _ _ q1], fun τ q1 q2 q3 => by rw [upd_other _ _ (tok_ne (by show τ.1 ≠ k; omega)), upd_other _ _ (tok_ne (by show τ.1 ≠ k; omega)), upd_other _ _ q1, upd_other _ _ q2], kA⟩
  · exact Wf_set (A := upd (upd (upd (upd A κc (some (.co 2 (d.cache.length + 1)))) κm (some (.mp (encNS dn.stays)))) (k, 0) (some (.co 2 0))) (k, 1) (some (.co 1 0)))
      (Wf_set (A := upd (upd (upd (upd A κc (some (.co 2 (d.cache.length + 1)))) κm (some (.mp (encNS dn.stays)))) (k, 0) (some (.co 2 0))) (k, 1) (some (.co 1 0)))
        (Wf_set hL.wf (DkAt.ok (kA κm (by rw [hL.dk.m]; simp)) (upd_keep _ (by rw [upd_same]; simp))) kA) (LgAt.ok (upd_keepH _ (by rw [upd_same]; simp)) (kA κr (by rw [hl.r]; simp))) (fun _ h => h))
      (LgAt.ok (upd_keepH _ (upd_keepH _ (by rw [upd_same]; simp))) (by rw [upd_same]; simp)) (fun _ h => h)
  · exact Above_updA (Above_updA (Above_updA (Above_updA (Above_updH (Above_updH (Above_updH (Above_mono hL.ab (by omega)) (by omega)) (by omega)) (by omega)) (by omega)) (by omega)) (by show k < k + 1; omega)) (by show k < k + 1; omega)
  · exact ⟨by rw [upd_other _ _ (hl.ne hL.dk).symm, upd_other _ _ (hl.ne hL.dk).symm, upd_same], by rw [upd_other _ _ nm1, upd_other _ _ nm0, upd_same], by rw [upd_other _ _ nk.symm, upd_same, hdc]⟩
  · intro lid' κr' l' q1 hl'
    obtain ⟨p1, p2⟩ := hl'.lt hL.ab
    exact hl'.mv (by rw [upd_other _ _ q1, upd_other _ _ q1, upd_other _ _ (hl'.ne hL.dk)]) (by rw [upd_other _ _ (tok_ne (by show κr'.1 ≠ k; omega)), upd_other _ _ (tok_ne (by show κr'.1 ≠ k; omega)), upd_other _ _ (hl'.nm hL.dk), upd_other _ _ (hl'.nc hL.dk)])
theorem Try.tResetB0 (off : Nat) (hL : LW H A k did κm κc d) {lid : Nat} {κr : Tok} {l : Lg} (hl : LgAt H A lid did κr l) (hh : l.halted = false) (ht : l.turn + 1 < 9223372036854775807) (hin : l.from_ + 1 < d.n) (hdn : d.n ≤ 4096) (hb1 : burnt d = true) :
    SOK off Try.prog 61 H A [.c (.ptr lid 0)] (pD (.lit (.int .i64 6))) fun H' A' => A' = A ∧ LW H' A' k did κm κc d ∧ LgAt H' A' lid did κr { l with halted := true } ∧ ∀ j, j ≠ lid → H' j = H j := by
  obtain ⟨m1, m2⟩ := hl.lt hL.ab
  have hdid : H did ≠ none := by rw [hL.dk.h]; simp
  refine ⟨_, _, Try.kResetB0 off hL.wf hl hL.dk hh ht hin hdn hb1, rfl, ⟨Wf_set hL.wf (LgAt.ok (upd_keepH _ hdid) (by rw [hl.r]; simp)) (fun _ h => h), Above_updH hL.ab m1, hL.dk.updH (hl.ne hL.dk).symm⟩, ⟨upd_same _ _ _, hl.r⟩, fun j q => upd_other _ _ q⟩
theorem Try.tResetB1 (off : Nat) (hL : LW H A k did κm κc d) {lid : Nat} {κr : Tok} {l : Lg} (hl : LgAt H A lid did κr l) (hh : l.halted = false) (ht : l.turn + 1 < 9223372036854775807) (hin : l.from_ + 1 < d.n) (hdn : d.n ≤ 4096) (hcl : d.cache.length + 1 ≤ 1000000)
    (hb1 : burnt d = false) (hb2 : burnt (wrD d ((l.from_ + (l.turn + 1) % 2 : Nat) : Int) (turnB (l.turn + 1) (l.turn + 1))) = true) :
    SOK off Try.prog 61 H A [.c (.ptr lid 0)] (pD (.lit (.int .i64 6))) fun H' A' => LW H' A' k did κm κc (wrD d ((l.from_ + (l.turn + 1) % 2 : Nat) : Int) (turnB (l.turn + 1) (l.turn + 1))) ∧ LgAt H' A' lid did κr { l with halted := true } ∧ (∀ j, j ≠ did → j ≠ lid → H' j = H j) ∧ (∀ τ, τ ≠ κc → A' τ = A τ) ∧ ∀ τ, A τ ≠ none → A' τ ≠ none := by
  obtain ⟨n1, n2, n3⟩ := hL.ne
  obtain ⟨m1, _⟩ := hl.lt hL.ab
  have kr := Try.kResetB1 off hL.wf hl hL.dk hh ht hin hdn hcl hb1 hb2
  have hc : (wrD d ((l.from_ + (l.turn + 1) % 2 : Nat) : Int) (turnB (l.turn + 1) (l.turn + 1))).cache.length = d.cache.length + 1 := by simp [wrD]
  have hs : (wrD d ((l.from_ + (l.turn + 1) % 2 : Nat) : Int) (turnB (l.turn + 1) (l.turn + 1))).stays = d.stays := rfl
  clear hb2
  generalize wrD d ((l.from_ + (l.turn + 1) % 2 : Nat) : Int) (turnB (l.turn + 1) (l.turn + 1)) = dw at *
  have hw2 : Wf (upd H did (some (encDk κm κc dw))) (upd A κc (some (.co 2 (d.cache.length + 1)))) := DkAt.wf hL.wf hL.dk _ upd_keep
  refine ⟨_, _, kr, ⟨?_, ?_, ?_⟩, ⟨upd_same _ _ _, by rw [upd_other _ _ (hl.nc hL.dk)]; exact hl.r⟩, fun j q1 q2 => by rw [upd_other _ _ q2, upd_other _ _ q1], fun τ q => upd_other _ _ q, upd_keep⟩
  · exact Wf_set hw2 (LgAt.ok (upd_keepH _ (by rw [upd_same]; simp)) (by rw [upd_other _ _ (hl.nc hL.dk), hl.r]; simp)) (fun _ h => h)
  · exact Above_updA (Above_updH (Above_updH hL.ab n1) m1) n3
  · exact ⟨by rw [upd_other _ _ (hl.ne hL.dk).symm, upd_same], by rw [upd_other _ _ hL.dk.ne.symm, hs]; exact hL.dk.m, by rw [upd_same, hc]⟩
end wal
end Go.Proofs

namespace Go.Proofs
open Go.PW
theorem least_burnt (f : Nat → Bool) : ∀ n, (∀ k, k < n → f k = false) ∨ ∃ k0, k0 < n ∧ f k0 = true ∧ ∀ k, k < k0 → f k = false
  | 0 => .inl fun k hk => by omega
  | n + 1 => by
    rcases least_burnt f n with h | ⟨k0, h1, h2, h3⟩
    · cases hf : f n with
      | false =>
        refine .inl fun k hk => ?_
        rcases Nat.lt_or_ge k n with h4 | h4
        · exact h k h4
        · rw [show k = n by omega]; exact hf
      | true => exact .inr ⟨n, by omega, hf, h⟩
    · exact .inr ⟨k0, by omega, h2, h3⟩
theorem OpAt.same {d d' : Dk} {f n t0 b0 t1 b1 : Nat} {pl : Nat → Option Pc} (h : OpAt d f n t0 b0 t1 b1 pl) (hn : d'.n = d.n) (hc : d'.cache.length + 1 ≤ 1000000) (hr : ∀ j, rd d' j = rd d j) : OpAt d' f n t0 b0 t1 b1 pl :=
  ⟨h.n1, h.n2, by rw [hn]; exact h.hin, by rw [hn]; exact h.hdn, hc, fun i hi => by rw [hr]; exact h.hs i hi, by rw [hr]; exact h.c0, by rw [hr]; exact h.c1, fun i hi => by rw [hr]; exact h.hpl i hi⟩
section pi
variable {d d' : Dk} {f n N T B : Nat} {old new : List (Nat × List UInt8)} {S : Nat → Option Pc}
theorem PI.nocache (h : PI d f n N T B old [] S) : d.cache = [] := by
  cases hc : d.cache with
  | nil => rfl
  | cons w l =>
    obtain ⟨_, _, p, hp, _⟩ := h.cache 0 w (by rw [hc]; rfl)
    simp [pcs] at hp
theorem PI.congr (h : PI d f n N T B old new S) (hn : d'.n = d.n) (hs : d'.stays = d.stays) (hc : d'.cache = d.cache) : PI d' f n N T B old new S :=
  { h with g := by unfold DkG; rw [hs]; exact h.g, dn := hn.trans h.dn, len := by rw [hs]; exact h.len, at_ := by rw [hs]; exact h.at_, s0 := by rw [hs]; exact h.s0, s1 := by rw [hs]; exact h.s1, cache := by rw [hc]; exact h.cache }
theorem PI.pages (h : PI d f n N T B old [] S) (hg : DkG d') (hn : d'.n = d.n) (hc : d'.cache = []) (hl : ∀ j, (lkR j d'.stays).length ≤ 128) (hs : ∀ i, i < n → lkR ((f + i : Nat) : Int) d'.stays = lkR ((f + i : Nat) : Int) d.stays) : PI d' f n N T B old [] S := by
  have h1 := h.n1
  refine { h with g := hg, dn := hn.trans h.dn, len := hl, at_ := fun i hi => ?_, s0 := ?_, s1 := ?_, cache := fun k w hk => by rw [hc] at hk; cases hk }
  · have := hs (2 + i) (by omega)
    rw [← Nat.add_assoc] at this
    rw [this]; exact h.at_ i hi
  · rw [hs (T % 2) (by omega)]; exact h.s0
  · obtain ⟨t, b, ht, hs1⟩ := h.s1
    exact ⟨t, b, ht, by rw [hs ((T + 1) % 2) (by omega)]; exact hs1⟩
theorem PI.key (h : PI d f n N T B old new S) {w : Int × List UInt8} (hw : w ∈ d.cache) : w.1 < ((f + n : Nat) : Int) := by
  obtain ⟨k, hk, e⟩ := List.getElem_of_mem hw
  obtain ⟨h1, _, p, h3, _⟩ := h.cache k w (by rw [List.getElem?_eq_getElem hk, e])
  have h4 := (List.getElem?_eq_some_iff.1 h3).1
  have h5 := h.fit
  have h6 := h.n1
  omega
theorem PI.noW (h : PI d f n N T B old new S) {c : List (Int × List UInt8)} (hc : ∀ x ∈ c, x ∈ d.cache) {j : Int} (hj : ((f + n : Nat) : Int) ≤ j) : lastW j c = none := by
  cases hl : lastW j c with
  | none => rfl
  | some s =>
    have := h.key (hc _ (lastW_mem hl))
    simp only at this
    omega
theorem PI.rdP (h : PI d f n N T B old new S) (keep : List Bool) {j : Int} (hj : ((f + n : Nat) : Int) ≤ j) : rd (crD d keep) j = rd d j := by
  rw [rd_cr h.g, rd_eq, h.noW kept_mem hj, h.noW (fun _ h => h) hj]
end pi
structure Rdy (logs N T B : Nat) (old : List (Nat × List UInt8)) (d : Dk) : Prop where
  ex : ∃ t0 b0 t1 b1 R, OpAt d 0 logs t0 b0 t1 b1 R ∧ opT t0 t1 = T ∧ opB t0 b0 t1 b1 = B ∧ opL 0 logs t0 b0 t1 b1 R = ⟨0, logs - 2, T + 1, B, (pcs old).length, old.map (·.2), false⟩ ∧ PI (nextD d 0 (T + 1) B) 0 logs N (T + 1) B old [] R
  g : DkG d
  c : d.cache = []
section rdy
variable {d d' : Dk} {logs N T B : Nat} {old new : List (Nat × List UInt8)} {S : Nat → Option Pc}
theorem next_stays (d : Dk) (f t b : Nat) : (nextD d f t b).stays = layAll d.stays (d.cache ++ [(((f + t % 2 : Nat) : Int), pad (turnB t b))]) := rfl
theorem Rdy.congr (h : Rdy logs N T B old d) (hn : d'.n = d.n) (hs : d'.stays = d.stays) (hc : d'.cache = []) : Rdy logs N T B old d' := by
  obtain ⟨t0, b0, t1, b1, R, h1, h2, h3, h4, h5⟩ := h.ex
  refine ⟨⟨t0, b0, t1, b1, R, h1.same hn (by rw [hc]; show 0 + 1 ≤ _; omega) (fun j => by rw [rd_eq, rd_eq, hc, hs, h.c]), h2, h3, h4, h5.congr hn ?_ rfl⟩, by unfold DkG; rw [hs]; exact h.g, hc⟩
  rw [next_stays, next_stays, hs, hc, h.c]
theorem PI.rdy (h : PI d 0 logs N T B old new S) (hT : T < 1000000) (keep : List Bool) : ∃ m, m ≤ new.length ∧ Rdy logs N T B (old ++ new.take m) (crD d keep) := by
  obtain ⟨t0, b0, t1, b1, R, m, c1, c2, c3, c4, c5, c6⟩ := h.crash hT keep
  exact ⟨m, c4, ⟨t0, b0, t1, b1, R, c1, c2, c3, c5, c6⟩, h.g.cr keep, rfl⟩
theorem PI.rdy0 (h : PI d 0 logs N T B old [] S) (hT : T < 1000000) : Rdy logs N T B old d := by
  obtain ⟨m, _, hr⟩ := h.rdy hT []
  have hc := h.nocache
  rw [List.take_nil, List.append_nil] at hr
  exact hr.congr rfl (by show _ = layAll d.stays (keptL d.cache []); rw [hc]; rfl) hc
end rdy
def Redo (logs N : Nat) (old : List (Nat × List UInt8)) (bd b : Nat → List UInt8) : Prop :=
  (old = [] ∧ ∀ j, j < N - logs → bd j = b j) ∨ ∃ t ch, old = [(t, recK ch (N - logs))] ∧ KsOK (N - logs) ch ∧ ∀ j, j < N - logs → ct bd ch j = b j
def RX (logs N M : Nat) (b : Nat → List UInt8) (d : Dk) : Prop :=
  ∃ T B old, T ≤ M ∧ Rdy logs N T B old d ∧ Redo logs N old (fun j => rd d ((logs + j : Nat) : Int)) b ∧ ∀ j, j < N - logs → (rd d ((logs + j : Nat) : Int)).length = 128
def Cut (logs N M : Nat) (b : Nat → List UInt8) (d : Dk) : Prop := ∀ keep, RX logs N M b (crD d keep)
theorem Redo.same {logs N : Nat} {old : List (Nat × List UInt8)} {bd bd' b : Nat → List UInt8} (h : Redo logs N old bd b) (e : ∀ j, j < N - logs → bd' j = bd j) : Redo logs N old bd' b := by
  rcases h with ⟨h1, h2⟩ | ⟨t, ch, h1, h2, h3⟩
  · exact .inl ⟨h1, fun j hj => (e j hj).trans (h2 j hj)⟩
  · refine .inr ⟨t, ch, h1, h2, fun j hj => ?_⟩
    rw [← h3 j hj]
    unfold ct
    rw [e j hj]
theorem RX.congr {logs N M : Nat} {b : Nat → List UInt8} {d d' : Dk} (h : RX logs N M b d) (hn : d'.n = d.n) (hs : d'.stays = d.stays) (hc : d'.cache = []) : RX logs N M b d' := by
  obtain ⟨T, B, old, h1, h2, h3, h4⟩ := h
  have e : ∀ j, rd d' j = rd d j := fun j => by rw [rd_eq, rd_eq, hc, hs, h2.c]
  exact ⟨T, B, old, h1, h2.congr hn hs hc, h3.same fun j _ => e _, fun j hj => by rw [e]; exact h4 j hj⟩
theorem RX.mono {logs N M M' : Nat} {b : Nat → List UInt8} {d : Dk} (h : RX logs N M b d) (hM : M ≤ M') : RX logs N M' b d := by
  obtain ⟨T, B, old, h1, h2⟩ := h
  exact ⟨T, B, old, by omega, h2⟩
theorem Cut.mono {logs N M M' : Nat} {b : Nat → List UInt8} {d : Dk} (h : Cut logs N M b d) (hM : M ≤ M') : Cut logs N M' b d := fun keep => (h keep).mono hM
theorem ct_same {bd bd' : Nat → List UInt8} {m m' : List (Int × List UInt8)} {j : Nat} (hv : valR (j : Int) m = valR (j : Int) m') (hb : valR (j : Int) m = none → bd j = bd' j) : ct bd m j = ct bd' m' j := by
  unfold ct
  rw [← hv]
  cases h : valR (j : Int) m with
  | none => exact hb h
  | some s => rfl
theorem ct_ct (bd : Nat → List UInt8) (m : List (Int × List UInt8)) (j : Nat) : ct (ct bd m) m j = ct bd m j := by
  unfold ct
  cases valR (j : Int) m <;> rfl
theorem keptL_nil (keep : List Bool) : keptL [] keep = [] := by unfold keptL; simp
theorem crD_stays (d : Dk) (keep : List Bool) (hc : d.cache = []) : (crD d keep).stays = d.stays := by
  show layAll d.stays (keptL d.cache keep) = _
  rw [hc, keptL_nil]; rfl
theorem kept_one (w : Int × List UInt8) (keep : List Bool) : keptL [w] keep = [] ∨ keptL [w] keep = [w] := by
  cases keep with
  | nil => exact .inl rfl
  | cons b r => cases b with
    | true => right; cases r <;> rfl
    | false => left; cases r <;> rfl
theorem home_cache {d : Dk} {logs : Nat} {m : List (Int × List UInt8)} : ∀ {K : Nat} {w}, w ∈ (homeD d logs m K).cache → w ∈ d.cache ∨ ∃ i : Nat, i < K ∧ ∃ s, valR (i : Int) m = some s ∧ w = (((logs + i : Nat) : Int), pad s)
  | 0, w, h => .inl h
  | K + 1, w, h => by
    unfold homeD at h
    have hv := valR_find (K : Int) m
    cases hf : findN (K : Int) m 0 with
    | none =>
      rw [hf] at h
      rcases home_cache h with h | ⟨i, h1, h2⟩
      · exact .inl h
      · exact .inr ⟨i, by omega, h2⟩
    | some r =>
      rw [hf] at h hv
      rcases List.mem_append.1 (show w ∈ (homeD d logs m K).cache ++ [(((logs + K : Nat) : Int), pad r.2)] from h) with h | h
      · rcases home_cache h with h | ⟨i, h1, h2⟩
        · exact .inl h
        · exact .inr ⟨i, by omega, h2⟩
      · exact .inr ⟨K, by omega, r.2, hv.symm, List.mem_singleton.1 h⟩
section cut
variable {d d' : Dk} {logs N M T B : Nat} {new : List (Nat × List UInt8)} {S : Nat → Option Pc} {b bd : Nat → List UInt8} {ch m : List (Int × List UInt8)} {t : Nat}
theorem cut_append (h : PI d 0 logs N T B [] [] S) (hT : T < 1000000) (hM : T ≤ M) (hch : KsOK (N - logs) ch) (hb : ∀ j, j < N - logs → rd d ((logs + j : Nat) : Int) = b j) (hl : ∀ j, j < N - logs → (rd d ((logs + j : Nat) : Int)).length = 128)
    {l : Lg} (h1 : l.from_ = 0) (h2 : l.turn = T) (h3 : l.used = 0) (hfit : needN (recK ch (N - logs)).length ≤ logs - 2) (k : Nat) (hk : k ≤ (partsL (recK ch (N - logs))).length) (keep : List Bool) :
    RX logs N M b (crD (apD l (recK ch (N - logs)) (partsL (recK ch (N - logs))).length (partsL (recK ch (N - logs))) d k) keep) ∨ RX logs N M (ct b ch) (crD (apD l (recK ch (N - logs)) (partsL (recK ch (N - logs))).length (partsL (recK ch (N - logs))) d k) keep) := by
  have hpl := partsL_len (recK ch (N - logs))
  have p1 := h.append h1 h2 (by rw [h3]; rfl) (by rw [h.nocache]; rfl) (recK ch (N - logs)) (by omega) k hk
  have hrd : ∀ j, j < N - logs → rd (crD (apD l (recK ch (N - logs)) (partsL (recK ch (N - logs))).length (partsL (recK ch (N - logs))) d k) keep) ((logs + j : Nat) : Int) = b j := fun j hj => by
    rw [p1.rdP keep (by omega), rd_ap (fun i hi => by have := h.n1; omega), hb j hj]
  obtain ⟨m, hm, hr⟩ := p1.rdy hT keep
  rw [List.nil_append, List.nil_append] at hr
  have hm1 : m ≤ 1 := hm
  have hlen : ∀ j, j < N - logs → (rd (crD (apD l (recK ch (N - logs)) (partsL (recK ch (N - logs))).length (partsL (recK ch (N - logs))) d k) keep) ((logs + j : Nat) : Int)).length = 128 := fun j hj => by rw [hrd j hj, ← hb j hj]; exact hl j hj
  rcases Nat.lt_or_ge m 1 with h4 | h4
  · rw [show m = 0 by omega] at hr
    exact .inl ⟨T, B, [], hM, hr, .inl ⟨rfl, hrd⟩, hlen⟩
  · rw [show m = 1 by omega] at hr
    refine .inr ⟨T, B, _, hM, hr, .inr ⟨T, ch, rfl, hch, fun j hj => ct_same rfl fun _ => hrd j hj⟩, hlen⟩
theorem cut_home (h : PI d 0 logs N T B [(t, recK ch (N - logs))] [] S) (hT : T < 1000000) (hM : T ≤ M) (hch : KsOK (N - logs) ch) (hm : ∀ k r, findN k m 0 = some r → r.2.length = 128) (hv : ∀ j, j < N - logs → valR (j : Int) m = valR (j : Int) ch)
    (hb : ∀ j, j < N - logs → rd d ((logs + j : Nat) : Int) = b j) (hl : ∀ j, j < N - logs → (rd d ((logs + j : Nat) : Int)).length = 128) (K : Nat) (_ : K ≤ N - logs) : Cut logs N M (ct b ch) (homeD d logs m K) := fun keep => by
  have hc := h.nocache
  have hsp := homeD_spec d logs m K
  have hg := home_g h.g logs m K
  have hkp : ∀ {j : Int} {s : List UInt8}, lastW j (keptL (homeD d logs m K).cache keep) = some s → ∃ i : Nat, i < K ∧ ∃ v, valR (i : Int) m = some v ∧ j = ((logs + i : Nat) : Int) ∧ s = v ∧ v.length = 128 := fun {j s} hs => by
    rcases home_cache (kept_mem _ (lastW_mem hs)) with h1 | ⟨i, h1, v, h2, h3⟩
    · rw [hc] at h1; cases h1
    · have hvl : v.length = 128 := by
        have hf := valR_find (i : Int) m
        rw [h2] at hf
        cases hf2 : findN (i : Int) m 0 with
        | none => rw [hf2] at hf; cases hf
        | some r =>
          rw [hf2] at hf
          cases hf
          exact hm _ _ hf2
      obtain ⟨h4, h5⟩ := Prod.mk.inj h3
      exact ⟨i, h1, v, h2, h4, by rw [h5, pad_full hvl], hvl⟩
  have hrd : ∀ j, rd (crD (homeD d logs m K) keep) j = (lastW j (keptL (homeD d logs m K).cache keep)).getD (lkR j d.stays) := fun j => by rw [rd_cr hg, hsp.2.2]
  have hr0 : ∀ j, rd d j = lkR j d.stays := fun j => by rw [rd_eq, hc]; rfl
  have hlk : ∀ j, lkR j (crD (homeD d logs m K) keep).stays = rd (crD (homeD d logs m K) keep) j := fun j => by rw [rd_eq]; rfl
  have hlow : ∀ i, i < logs → rd (crD (homeD d logs m K) keep) ((i : Nat) : Int) = lkR (i : Int) d.stays := fun i hi => by
    rw [hrd]
    cases hs : lastW (i : Int) (keptL (homeD d logs m K).cache keep) with
    | none => rfl
    | some s =>
      obtain ⟨a, _, _, _, e, _⟩ := hkp hs
      omega
  have hpg : ∀ j, j < N - logs → rd (crD (homeD d logs m K) keep) ((logs + j : Nat) : Int) = b j ∨ (∃ v, valR (j : Int) m = some v ∧ rd (crD (homeD d logs m K) keep) ((logs + j : Nat) : Int) = v ∧ v.length = 128) := fun j hj => by
    rw [hrd]
    cases hs : lastW ((logs + j : Nat) : Int) (keptL (homeD d logs m K).cache keep) with
    | none => left; rw [← hb j hj, hr0]; rfl
    | some s =>
      obtain ⟨a, _, v, h2, e, e2, h5⟩ := hkp hs
      have : a = j := by omega
      subst this
      exact .inr ⟨v, h2, e2, h5⟩
  have p1 : PI (crD (homeD d logs m K) keep) 0 logs N T B [(t, recK ch (N - logs))] [] S := h.pages (hg.cr keep) hsp.1 rfl (fun j => by
      rw [hlk, hrd]
      cases hs : lastW j (keptL (homeD d logs m K).cache keep) with
      | none => exact h.len j
      | some s =>
        obtain ⟨a, _, v, h2, e, e2, h5⟩ := hkp hs
        rw [e2]; show v.length ≤ 128; omega) (fun i hi => by rw [hlk, Nat.zero_add]; exact hlow i hi)
  refine ⟨T, B, _, hM, p1.rdy0 hT, .inr ⟨t, ch, rfl, hch, fun j hj => ?_⟩, fun j hj => ?_⟩
  · unfold ct
    rcases hpg j hj with e | ⟨v, h2, e, _⟩
    · show (valR (j : Int) ch).getD (rd (crD (homeD d logs m K) keep) ((logs + j : Nat) : Int)) = _
      rw [e]
    · rw [hv j hj] at h2
      rw [h2]; rfl
  · rcases hpg j hj with e | ⟨v, _, e, h5⟩
    · rw [e, ← hb j hj]; exact hl j hj
    · rw [e]; exact h5
theorem cut_done (h : PI d 0 logs N T B [(t, recK ch (N - logs))] [] S) (hT : T < 1000000) (hM : T ≤ M) (hch : KsOK (N - logs) ch) (hb : ∀ j, j < N - logs → rd d ((logs + j : Nat) : Int) = ct b ch j) (hl : ∀ j, j < N - logs → (rd d ((logs + j : Nat) : Int)).length = 128) : RX logs N M (ct b ch) d :=
  ⟨T, B, _, hM, h.rdy0 hT, .inr ⟨t, ch, rfl, hch, fun j hj => (ct_same rfl fun _ => hb j hj).trans (ct_ct b ch j)⟩, hl⟩
theorem RX.cut (h : RX logs N M b d) : Cut logs N M b d := fun keep => h.congr rfl (crD_stays d keep (by obtain ⟨_, _, _, _, h2, _⟩ := h; exact h2.c)) rfl
theorem rd_wlog (hg : DkG d) (f t b' : Nat) (j : Int) (hj : ((f + t % 2 : Nat) : Int) ≠ j) : rd (nextD d f t b') j = rd d j := by
  unfold nextD
  rw [rd_fl (hg.wr _ _), rd_wr, if_neg hj]
theorem cut_reset (h : PI d 0 logs N T B [(t, recK ch (N - logs))] [] S) (hT : T + 1 < 1000000) (hM : T + 1 ≤ M) (hch : KsOK (N - logs) ch) (hb : ∀ j, j < N - logs → rd d ((logs + j : Nat) : Int) = ct b ch j) (hl : ∀ j, j < N - logs → (rd d ((logs + j : Nat) : Int)).length = 128) :
    Cut logs N M (ct b ch) (wrD d ((0 + (T + 1) % 2 : Nat) : Int) (turnB (T + 1) (T + 1))) := fun keep => by
  have hc := h.nocache
  have hs : (crD (wrD d ((0 + (T + 1) % 2 : Nat) : Int) (turnB (T + 1) (T + 1))) keep).stays = layAll d.stays (keptL [(((0 + (T + 1) % 2 : Nat) : Int), pad (turnB (T + 1) (T + 1)))] keep) := by
    show layAll d.stays (keptL (d.cache ++ [_]) keep) = _
    rw [hc]; rfl
  rcases kept_one (((0 + (T + 1) % 2 : Nat) : Int), pad (turnB (T + 1) (T + 1))) keep with e | e
  · rw [e] at hs
    exact (cut_done h (by omega) (by omega) hch hb hl).congr rfl hs rfl
  · rw [e] at hs
    obtain ⟨R, p⟩ := h.reset (by omega)
    have p' := p.congr (d' := crD (wrD d ((0 + (T + 1) % 2 : Nat) : Int) (turnB (T + 1) (T + 1))) keep) rfl (by rw [hs, next_stays, hc]; rfl) rfl
    have hn1 := h.n1
    have hrd : ∀ j, rd (crD (wrD d ((0 + (T + 1) % 2 : Nat) : Int) (turnB (T + 1) (T + 1))) keep) ((logs + j : Nat) : Int) = rd d ((logs + j : Nat) : Int) := fun j => by
      rw [← rd_wlog h.g 0 (T + 1) (T + 1) ((logs + j : Nat) : Int) (by omega), rd_eq, rd_eq, show (crD (wrD d ((0 + (T + 1) % 2 : Nat) : Int) (turnB (T + 1) (T + 1))) keep).stays = (nextD d 0 (T + 1) (T + 1)).stays by rw [hs, next_stays, hc]; rfl]; rfl
    exact ⟨T + 1, T + 1, [], hM, p'.rdy0 hT, .inl ⟨rfl, fun j hj => (hrd j).trans (hb j hj)⟩, fun j hj => by rw [hrd]; exact hl j hj⟩
theorem home_done (h : PI d 0 logs N T B [(t, recK ch (N - logs))] [] S) (hm : ∀ k r, findN k m 0 = some r → r.2.length = 128) (hv : ∀ j, j < N - logs → valR (j : Int) m = valR (j : Int) ch) (hb : ∀ j, j < N - logs → rd d ((logs + j : Nat) : Int) = b j) (hl : ∀ j, j < N - logs → (rd d ((logs + j : Nat) : Int)).length = 128) :
    PI (flD (homeD d logs m (N - logs))) 0 logs N T B [(t, recK ch (N - logs))] [] S ∧ (∀ j, j < N - logs → rd (flD (homeD d logs m (N - logs))) ((logs + j : Nat) : Int) = ct b ch j) ∧ ∀ j, j < N - logs → (rd (flD (homeD d logs m (N - logs))) ((logs + j : Nat) : Int)).length = 128 := by
  have hg := home_g h.g logs m (N - logs)
  have hx : ∀ j, j < N - logs → rd (flD (homeD d logs m (N - logs))) ((logs + j : Nat) : Int) = ct b ch j ∧ (ct b ch j).length = 128 := fun j hj => by
    rw [rd_fl hg, rd_home_in hj]
    unfold ct
    rw [← hv j hj]
    cases e : valR (j : Int) m with
    | none =>
      refine ⟨hb j hj, ?_⟩
      show (b j).length = 128
      rw [← hb j hj]; exact hl j hj
    | some s =>
      have hf := valR_find (j : Int) m
      rw [e] at hf
      cases hf2 : findN (j : Int) m 0 with
      | none => rw [hf2] at hf; cases hf
      | some r =>
        rw [hf2] at hf
        cases hf
        have := hm _ _ hf2
        exact ⟨pad_full this, this⟩
  exact ⟨h.home (fun k r hr => Nat.le_of_eq (hm k r hr)) (by omega), fun j hj => (hx j hj).1, fun j hj => by rw [(hx j hj).1]; exact (hx j hj).2⟩
end cut
end Go.Proofs
