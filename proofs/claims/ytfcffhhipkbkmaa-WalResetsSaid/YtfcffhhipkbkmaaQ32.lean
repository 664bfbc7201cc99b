import Derived.Test.YtfcffhhipkbkmaaQ31
import Derived.Test.YtfcffhhipkbkmaaQ28

/-
  The log's calls where a fuse may burn (written by hy.py).
-/

namespace Go.Proofs
open Go.PW
section wal
variable {H : HMap} {A : AMap} {k did : Nat} {κm κc : Tok} {d : Dk}
theorem Try.sAppendG (hL : LW H A k did κm κc d) {lid : Nat} {κr : Tok} {l : Lg} (hl : LgAt H A lid did κr l) (hh : l.halted = false) (s : List UInt8) (hs : s.length ≤ 5000) (hfit : l.used + needN s.length ≤ l.places) (hp : l.places ≤ 1000) (ht : l.turn < 9223372036854775808)
    (hin : l.from_ + 2 + l.places ≤ d.n) (hdn : d.n ≤ 4096) (hcl : d.cache.length + 100 ≤ 1000000) (hrl : l.recs.length ≤ 1000000) (hbs : ∀ k, k < (partsL s).length → burnt (apD l s (partsL s).length (partsL s) d k) = false) :
    StepOK Try.prog 15 H A [.c (.ptr lid 0), pD (dS s)] (pD (.lit (.int .i64 0))) fun H' A' =>
      LW H' A' k did κm κc (apD l s (partsL s).length (partsL s) d (partsL s).length) ∧ LgAt H' A' lid did κr { l with recs := l.recs ++ [s], used := l.used + (partsL s).length } ∧ (∀ lid' κr' l', lid' ≠ lid → κr' ≠ κr → LgAt H A lid' did κr' l' → LgAt H' A' lid' did κr' l') ∧ (∀ j, j ≠ did → j ≠ lid → H' j = H j) ∧ (∀ τ, τ ≠ κc → τ ≠ κr → A' τ = A τ) ∧ ∀ τ, A τ ≠ none → A' τ ≠ none := by
  obtain ⟨n1, n2, n3⟩ := hL.ne
  obtain ⟨m1, m2⟩ := hl.lt hL.ab
  have ka := Try.kAppendG 1000 hL.wf hl hL.dk hh s hs hfit hp ht hin hdn hcl hrl hbs
  have hsp := (apD_spec l s (partsL s).length (partsL s) d (partsL s).length).2.1
  have hst := (apD_spec l s (partsL s).length (partsL s) d (partsL s).length).2.2.2
  clear hbs
  generalize apD l s (partsL s).length (partsL s) d (partsL s).length = dn at *
  have kA : ∀ τ, A τ ≠ none → upd (upd A κc (some (.co 2 (d.cache.length + (partsL s).length)))) κr (some (.co 1 (l.recs.length + 1))) τ ≠ none := fun τ h => upd_keep _ (upd_keep _ h)
  refine ⟨_, _, ka, ⟨?_, ?_, ?_⟩, ⟨upd_same _ _ _, by rw [upd_same]; simp⟩, ?_, fun j q1 q2 => by rw [upd_other _ _ q2, upd_other _ _ q1], fun τ q1 q2 => by rw [upd_other _ _ q2, upd_other _ _ q1], kA⟩
  · exact Wf_set (A := upd (upd A κc (some (.co 2 (d.cache.length + (partsL s).length)))) κr (some (.co 1 (l.recs.length + 1)))) (Wf_set hL.wf (DkAt.ok (kA κm (by rw [hL.dk.m]; simp)) (kA κc (by rw [hL.dk.c]; simp))) kA) (LgAt.ok (upd_keepH _ (by rw [upd_same]; simp)) (by rw [upd_same]; simp)) (fun _ h => h)
  · exact Above_updA (Above_updA (Above_updH (Above_updH hL.ab n1) m1) n3) m2
  · refine ⟨by rw [upd_other _ _ (hl.ne hL.dk).symm, upd_same], by rw [upd_other _ _ (hl.nm hL.dk).symm, upd_other _ _ hL.dk.ne.symm, hst]; exact hL.dk.m, by rw [upd_other _ _ (hl.nc hL.dk).symm, upd_same, hsp]⟩
  · intro lid' κr' l' q1 q2 hl'
    exact hl'.mv (by rw [upd_other _ _ q1, upd_other _ _ (hl'.ne hL.dk)]) (by rw [upd_other _ _ q2, upd_other _ _ (hl'.nc hL.dk)])
theorem Try.sAppendB (hL : LW H A k did κm κc d) {lid : Nat} {κr : Tok} {l : Lg} (hl : LgAt H A lid did κr l) (hh : l.halted = false) (s : List UInt8) (hs : s.length ≤ 5000) (hfit : l.used + needN s.length ≤ l.places) (hp : l.places ≤ 1000) (ht : l.turn < 9223372036854775808)
    (hin : l.from_ + 2 + l.places ≤ d.n) (hdn : d.n ≤ 4096) (hcl : d.cache.length + 100 ≤ 1000000) (k0 : Nat) (hk0 : k0 < (partsL s).length) (hbs : ∀ k, k < k0 → burnt (apD l s (partsL s).length (partsL s) d k) = false) (hbb : burnt (apD l s (partsL s).length (partsL s) d k0) = true) :
    StepOK Try.prog 15 H A [.c (.ptr lid 0), pD (dS s)] (pD (.lit (.int .i64 6))) fun H' A' =>
      LW H' A' k did κm κc (apD l s (partsL s).length (partsL s) d k0) ∧ LgAt H' A' lid did κr { l with halted := true } ∧ (∀ j, j ≠ did → j ≠ lid → H' j = H j) ∧ (∀ τ, τ ≠ κc → A' τ = A τ) ∧ ∀ τ, A τ ≠ none → A' τ ≠ none := by
  obtain ⟨n1, n2, n3⟩ := hL.ne
  obtain ⟨m1, m2⟩ := hl.lt hL.ab
  have ka := Try.kAppendB 1000 hL.wf hl hL.dk hh s hs hfit hp ht hin hdn hcl k0 hk0 hbs hbb
  have hsp := (apD_spec l s (partsL s).length (partsL s) d k0).2.1
  have hst := (apD_spec l s (partsL s).length (partsL s) d k0).2.2.2
  clear hbs hbb
  generalize apD l s (partsL s).length (partsL s) d k0 = dn at *
  have kA : ∀ τ, A τ ≠ none → upd A κc (some (.co 2 (d.cache.length + k0))) τ ≠ none := fun τ h => upd_keep _ h
  refine ⟨_, _, ka, ⟨?_, ?_, ?_⟩, ⟨upd_same _ _ _, by rw [upd_other _ _ (hl.nc hL.dk)]; exact hl.r⟩, fun j q1 q2 => by rw [upd_other _ _ q2, upd_other _ _ q1], fun τ q1 => by rw [upd_other _ _ q1], kA⟩
  · exact Wf_set (A := upd A κc (some (.co 2 (d.cache.length + k0)))) (Wf_set hL.wf (DkAt.ok (kA κm (by rw [hL.dk.m]; simp)) (kA κc (by rw [hL.dk.c]; simp))) kA) (LgAt.ok (upd_keepH _ (by rw [upd_same]; simp)) (kA κr (by rw [hl.r]; simp))) (fun _ h => h)
  · exact Above_updA (Above_updH (Above_updH hL.ab n1) m1) n3
  · refine ⟨by rw [upd_other _ _ (hl.ne hL.dk).symm, upd_same], by rw [upd_other _ _ hL.dk.ne.symm, hst]; exact hL.dk.m, by rw [upd_same, hsp]⟩
theorem Try.sCommitB (hL : LW H A k did κm κc d) {lid : Nat} {κr : Tok} {l : Lg} (hl : LgAt H A lid did κr l) (hh : l.halted = false) (hn : 0 < d.n) (hb : burnt d = true) :
    StepOK Try.prog 16 H A [.c (.ptr lid 0)] (pD (.lit (.int .i64 6))) fun H' A' => A' = A ∧ LW H' A k did κm κc d ∧ LgAt H' A lid did κr { l with halted := true } ∧ ∀ j, j ≠ lid → H' j = H j := by
  obtain ⟨m1, m2⟩ := hl.lt hL.ab
  have hdid : H did ≠ none := by rw [hL.dk.h]; simp
  refine ⟨_, _, Try.kCommitB 1000 hL.wf hl hL.dk hh hn hb, rfl, ⟨Wf_set hL.wf (LgAt.ok (upd_keepH _ hdid) (by rw [hl.r]; simp)) (fun _ h => h), Above_updH hL.ab m1, hL.dk.updH (hl.ne hL.dk).symm⟩, ⟨upd_same _ _ _, hl.r⟩, fun j q => upd_other _ _ q⟩
/-- Commit where no fuse burns. -/
theorem Try.sCommitG (hL : LW H A k did κm κc d) (hk : k < 1000) {lid : Nat} {κr : Tok} {l : Lg} (hl : LgAt H A lid did κr l) (hh : l.halted = false) (hn : 0 < d.n) (hcl : d.cache.length ≤ 1000000) (hb : burnt d = false) :
    StepOK Try.prog 16 H A [.c (.ptr lid 0)] (pD (.lit (.int .i64 0))) fun H' A' => LW H' A' (k + 1) did κm (k, 0) (flD d) ∧ LgAt H' A' lid did κr l ∧ (∀ j, j ≠ did → H' j = H j) ∧ (∀ τ, τ ≠ κm → τ.1 < k → A' τ = A τ) ∧ ∀ τ, A τ ≠ none → A' τ ≠ none := by
  obtain ⟨n1, n2, n3⟩ := hL.ne
  have nm0 : κm ≠ (k, 0) := tok_ne (by show κm.1 ≠ k; omega)
  have kc := Try.kCommit (κ' := (k, 0)) 1000 hL.wf hl hL.dk hh hn hcl hb (hL.new 0).2 (by show k < 2000; omega)
  have hdc : (flD d).cache.length = 0 := rfl
  generalize flD d = dn at *
  have kA : ∀ τ, A τ ≠ none → upd (upd A κm (some (.mp (encNS dn.stays)))) (k, 0) (some (.co 2 0)) τ ≠ none := fun τ h => upd_keep _ (upd_keep _ h)
  obtain ⟨m1, m2⟩ := hl.lt hL.ab
  refine ⟨_, _, kc, ⟨?_, ?_, ?_⟩, ?_, fun j q1 => by rw [upd_other _ _ q1], fun τ q1 q2 => by rw [upd_other _ _ (tok_ne (by show τ.1 ≠ k; omega)), upd_other _ _ q1], kA⟩
  · exact Wf_set hL.wf (DkAt.ok (kA κm (by rw [hL.dk.m]; simp)) (by rw [upd_same]; simp)) kA
  · exact Above_updA (Above_updA (Above_updH (Above_mono hL.ab (by omega)) (by omega)) (by omega)) (by show k < k + 1; omega)
  · exact ⟨upd_same _ _ _, by rw [upd_other _ _ nm0, upd_same], by rw [upd_same, hdc]⟩
  · exact hl.mv (by rw [upd_other _ _ (hl.ne hL.dk)]) (by rw [upd_other _ _ (tok_ne (by show κr.1 ≠ k; omega)), upd_other _ _ (hl.nm hL.dk)])
theorem Try.sFuse (hL : LW H A k did κm κc d) (hn : 0 < d.n) (n : Int) : StepOK Try.prog 26 H A [.c (.ptr did 0), pD (.lit (.int .i64 n))] (.c .any) fun H' A' => A' = A ∧ LW H' A k did κm κc (fuseD d n) ∧ ∀ j, j ≠ did → H' j = H j := by
  obtain ⟨n1, _, _⟩ := hL.ne
  exact ⟨_, _, Try.kFuse 1000 hL.wf hL.dk hn n, rfl, ⟨DkAt.wf hL.wf hL.dk _ (fun _ h => h), Above_updH hL.ab n1, ⟨upd_same _ _ _, hL.dk.m, hL.dk.c⟩⟩, fun j q => upd_other _ _ q⟩
end wal
end Go.Proofs

/-
  WalSeals: the law's body.
-/

namespace Go.Proofs
open Go.PW
@[go_sem] theorem B_beql {P : Program} {T : TypeId} {a b : Bool} (h : P.underlying T = some .bool) : binS P .eql T (.c (.d (.lit (.bool a)))) (.c (.d (.lit (.bool b)))) = some (lit (.bool (a == b))) := by
  simp [binS, eqS, h]
set_option maxRecDepth 8000 in
set_option maxHeartbeats 16000000 in
theorem Try.kSeals (b s : List UInt8) : PureOK Try.prog 3 [pD (dS b), pD (dS s)] (.one (.d (.lit (.bool true)))) := by
  refine Try.pure (md := []) Try.func3 rfl Try.call3 (by kernel_rfl) (by rfl) (by exact Nat.le_of_ble_eq_true rfl) ?_
  have e0 := Try.kKnown
  by_cases q1 : 300 < b.length
  · have f1 : ((300 : Int) < (b.length : Int)) = True := eq_true (by omega)
    repeat' (first
      | with_reducible refine VC_seq fun K hK => ?_
      | with_reducible refine W_region ?_
      | with_reducible refine VC_block ?_
      | with_reducible refine VC_scope ?_
      | with_reducible refine VC_if ?_
      | with_reducible refine VC_skip ?_
      | with_reducible refine VC_exit ?_
      | with_reducible refine VC_ret ?_
      | (with_reducible refine G_not (fun h => ?_) (fun h => ?_) <;> (try simp only [h]))
      | (with_reducible refine G_cases (fun h => ?_) (fun h => ?_) <;> (try simp only [h]))
      | refine C_pure e0 rfl rfl (fun _ => rfl) ?_
      | (with_reducible refine hK _ ?_; clear hK K)
      | (clear hK K; with_reducible refine hK _ ?_; clear hK K)
      | (clear hK K; clear hK K; with_reducible refine hK _ ?_; clear hK K)
      | (clear hK K; clear hK K; clear hK K; with_reducible refine hK _ ?_; clear hK K)
      | (with_reducible refine todo ?_; simp +decide only [go_sem, f1]))
    exact Ret_d rfl rfl
  · have f1 : ((300 : Int) < (b.length : Int)) = False := eq_false (by omega)
    by_cases q2 : 300 < s.length
    · have f2 : ((300 : Int) < (s.length : Int)) = True := eq_true (by omega)
      repeat' (first
        | with_reducible refine VC_seq fun K hK => ?_
        | with_reducible refine W_region ?_
        | with_reducible refine VC_block ?_
        | with_reducible refine VC_scope ?_
        | with_reducible refine VC_if ?_
        | with_reducible refine VC_skip ?_
        | with_reducible refine VC_exit ?_
        | with_reducible refine VC_ret ?_
        | (with_reducible refine G_not (fun h => ?_) (fun h => ?_) <;> (try simp only [h]))
        | (with_reducible refine G_cases (fun h => ?_) (fun h => ?_) <;> (try simp only [h]))
        | refine C_pure e0 rfl rfl (fun _ => rfl) ?_
        | (with_reducible refine hK _ ?_; clear hK K)
        | (clear hK K; with_reducible refine hK _ ?_; clear hK K)
        | (clear hK K; clear hK K; with_reducible refine hK _ ?_; clear hK K)
        | (clear hK K; clear hK K; clear hK K; with_reducible refine hK _ ?_; clear hK K)
        | (with_reducible refine todo ?_; simp +decide only [go_sem, f1, f2]))
      exact Ret_d rfl rfl
    · have f2 : ((300 : Int) < (s.length : Int)) = False := eq_false (by omega)
      have hsl := sealB_len b
      have hcat : ((sealB b).length + s.length ≤ 9223372036854775807) = True := eq_true (by omega)
      have e1 := Try.kUnseal s (by omega)
      have e2 := Try.rUnseal s (by omega)
      have e3 := Try.kUnseal (sealB b ++ s) (by rw [List.length_append]; omega)
      have e4 := Try.kSeal b (by omega)
      have e5 := Try.rSeal b (by omega)
      have g1 : ∀ l : List UInt8, (l == l) = true := fun l => by simp
      by_cases q3 : 123 < b.length
      · have f3 : ((123 : Int) < (b.length : Int)) = True := eq_true (by omega)
        generalize unsealB (sealB b ++ s) = u at *
        generalize unsealB s = v at *
        generalize sealB b = sb at *
        cases u <;> cases v <;> simp only [optS] at e1 e2 e3
        · repeat' (first
            | with_reducible refine VC_seq fun K hK => ?_
            | with_reducible refine W_region ?_
            | with_reducible refine VC_block ?_
            | with_reducible refine VC_scope ?_
            | with_reducible refine VC_if ?_
            | with_reducible refine VC_skip ?_
            | with_reducible refine VC_exit ?_
            | with_reducible refine VC_ret ?_
            | (with_reducible refine G_not (fun h => ?_) (fun h => ?_) <;> (try simp only [h]))
            | (with_reducible refine G_cases (fun h => ?_) (fun h => ?_) <;> (try simp only [h]))
            | refine C_pure e0 rfl rfl (fun _ => rfl) ?_
            | refine C_pure e1 rfl rfl (fun _ => rfl) ?_
            | refine C_pure e2 rfl rfl (fun _ => rfl) ?_
            | refine C_pure e3 rfl rfl (fun _ => rfl) ?_
            | refine C_pure e4 rfl rfl (fun _ => rfl) ?_
            | refine C_pure e5 rfl rfl (fun _ => rfl) ?_
            | (with_reducible refine hK _ ?_; clear hK K)
            | (clear hK K; with_reducible refine hK _ ?_; clear hK K)
            | (clear hK K; clear hK K; with_reducible refine hK _ ?_; clear hK K)
            | (clear hK K; clear hK K; clear hK K; with_reducible refine hK _ ?_; clear hK K)
            | (with_reducible refine todo ?_; simp +decide only [go_sem, f1, f2, f3, hcat, g1]))
          exact Ret_d rfl rfl
        · repeat' (first
            | with_reducible refine VC_seq fun K hK => ?_
            | with_reducible refine W_region ?_
            | with_reducible refine VC_block ?_
            | with_reducible refine VC_scope ?_
            | with_reducible refine VC_if ?_
            | with_reducible refine VC_skip ?_
            | with_reducible refine VC_exit ?_
            | with_reducible refine VC_ret ?_
            | (with_reducible refine G_not (fun h => ?_) (fun h => ?_) <;> (try simp only [h]))
            | (with_reducible refine G_cases (fun h => ?_) (fun h => ?_) <;> (try simp only [h]))
            | refine C_pure e0 rfl rfl (fun _ => rfl) ?_
            | refine C_pure e1 rfl rfl (fun _ => rfl) ?_
            | refine C_pure e2 rfl rfl (fun _ => rfl) ?_
            | refine C_pure e3 rfl rfl (fun _ => rfl) ?_
            | refine C_pure e4 rfl rfl (fun _ => rfl) ?_
            | refine C_pure e5 rfl rfl (fun _ => rfl) ?_
            | (with_reducible refine hK _ ?_; clear hK K)
            | (clear hK K; with_reducible refine hK _ ?_; clear hK K)
            | (clear hK K; clear hK K; with_reducible refine hK _ ?_; clear hK K)
            | (clear hK K; clear hK K; clear hK K; with_reducible refine hK _ ?_; clear hK K)
            | (with_reducible refine todo ?_; simp +decide only [go_sem, f1, f2, f3, hcat, g1]))
          exact Ret_d rfl rfl
        · repeat' (first
            | with_reducible refine VC_seq fun K hK => ?_
            | with_reducible refine W_region ?_
            | with_reducible refine VC_block ?_
            | with_reducible refine VC_scope ?_
            | with_reducible refine VC_if ?_
            | with_reducible refine VC_skip ?_
            | with_reducible refine VC_exit ?_
            | with_reducible refine VC_ret ?_
            | (with_reducible refine G_not (fun h => ?_) (fun h => ?_) <;> (try simp only [h]))
            | (with_reducible refine G_cases (fun h => ?_) (fun h => ?_) <;> (try simp only [h]))
            | refine C_pure e0 rfl rfl (fun _ => rfl) ?_
            | refine C_pure e1 rfl rfl (fun _ => rfl) ?_
            | refine C_pure e2 rfl rfl (fun _ => rfl) ?_
            | refine C_pure e3 rfl rfl (fun _ => rfl) ?_
            | refine C_pure e4 rfl rfl (fun _ => rfl) ?_
            | refine C_pure e5 rfl rfl (fun _ => rfl) ?_
            | (with_reducible refine hK _ ?_; clear hK K)
            | (clear hK K; with_reducible refine hK _ ?_; clear hK K)
            | (clear hK K; clear hK K; with_reducible refine hK _ ?_; clear hK K)
            | (clear hK K; clear hK K; clear hK K; with_reducible refine hK _ ?_; clear hK K)
            | (with_reducible refine todo ?_; simp +decide only [go_sem, f1, f2, f3, hcat, g1]))
          exact Ret_d rfl rfl
        · repeat' (first
            | with_reducible refine VC_seq fun K hK => ?_
            | with_reducible refine W_region ?_
            | with_reducible refine VC_block ?_
            | with_reducible refine VC_scope ?_
            | with_reducible refine VC_if ?_
            | with_reducible refine VC_skip ?_
            | with_reducible refine VC_exit ?_
            | with_reducible refine VC_ret ?_
            | (with_reducible refine G_not (fun h => ?_) (fun h => ?_) <;> (try simp only [h]))
            | (with_reducible refine G_cases (fun h => ?_) (fun h => ?_) <;> (try simp only [h]))
            | refine C_pure e0 rfl rfl (fun _ => rfl) ?_
            | refine C_pure e1 rfl rfl (fun _ => rfl) ?_
            | refine C_pure e2 rfl rfl (fun _ => rfl) ?_
            | refine C_pure e3 rfl rfl (fun _ => rfl) ?_
            | refine C_pure e4 rfl rfl (fun _ => rfl) ?_
            | refine C_pure e5 rfl rfl (fun _ => rfl) ?_
            | (with_reducible refine hK _ ?_; clear hK K)
            | (clear hK K; with_reducible refine hK _ ?_; clear hK K)
            | (clear hK K; clear hK K; with_reducible refine hK _ ?_; clear hK K)
            | (clear hK K; clear hK K; clear hK K; with_reducible refine hK _ ?_; clear hK K)
            | (with_reducible refine todo ?_; simp +decide only [go_sem, f1, f2, f3, hcat, g1]))
          exact Ret_d rfl rfl
      · have f3 : ((123 : Int) < (b.length : Int)) = False := eq_false (by omega)
        rw [unseal_seal b s (by omega)] at e3
        generalize unsealB s = v at *
        generalize sealB b = sb at *
        cases v <;> simp only [optS] at e1 e2 e3
        · repeat' (first
            | with_reducible refine VC_seq fun K hK => ?_
            | with_reducible refine W_region ?_
            | with_reducible refine VC_block ?_
            | with_reducible refine VC_scope ?_
            | with_reducible refine VC_if ?_
            | with_reducible refine VC_skip ?_
            | with_reducible refine VC_exit ?_
            | with_reducible refine VC_ret ?_
            | (with_reducible refine G_not (fun h => ?_) (fun h => ?_) <;> (try simp only [h]))
            | (with_reducible refine G_cases (fun h => ?_) (fun h => ?_) <;> (try simp only [h]))
            | refine C_pure e0 rfl rfl (fun _ => rfl) ?_
            | refine C_pure e1 rfl rfl (fun _ => rfl) ?_
            | refine C_pure e2 rfl rfl (fun _ => rfl) ?_
            | refine C_pure e3 rfl rfl (fun _ => rfl) ?_
            | refine C_pure e4 rfl rfl (fun _ => rfl) ?_
            | refine C_pure e5 rfl rfl (fun _ => rfl) ?_
            | (with_reducible refine hK _ ?_; clear hK K)
            | (clear hK K; with_reducible refine hK _ ?_; clear hK K)
            | (clear hK K; clear hK K; with_reducible refine hK _ ?_; clear hK K)
            | (clear hK K; clear hK K; clear hK K; with_reducible refine hK _ ?_; clear hK K)
            | (with_reducible refine todo ?_; simp +decide only [go_sem, f1, f2, f3, hcat, g1]))
          exact Ret_d rfl rfl
        · repeat' (first
            | with_reducible refine VC_seq fun K hK => ?_
            | with_reducible refine W_region ?_
            | with_reducible refine VC_block ?_
            | with_reducible refine VC_scope ?_
            | with_reducible refine VC_if ?_
            | with_reducible refine VC_skip ?_
            | with_reducible refine VC_exit ?_
            | with_reducible refine VC_ret ?_
            | (with_reducible refine G_not (fun h => ?_) (fun h => ?_) <;> (try simp only [h]))
            | (with_reducible refine G_cases (fun h => ?_) (fun h => ?_) <;> (try simp only [h]))
            | refine C_pure e0 rfl rfl (fun _ => rfl) ?_
            | refine C_pure e1 rfl rfl (fun _ => rfl) ?_
            | refine C_pure e2 rfl rfl (fun _ => rfl) ?_
            | refine C_pure e3 rfl rfl (fun _ => rfl) ?_
            | refine C_pure e4 rfl rfl (fun _ => rfl) ?_
            | refine C_pure e5 rfl rfl (fun _ => rfl) ?_
            | (with_reducible refine hK _ ?_; clear hK K)
            | (clear hK K; with_reducible refine hK _ ?_; clear hK K)
            | (clear hK K; clear hK K; with_reducible refine hK _ ?_; clear hK K)
            | (clear hK K; clear hK K; clear hK K; with_reducible refine hK _ ?_; clear hK K)
            | (with_reducible refine todo ?_; simp +decide only [go_sem, f1, f2, f3, hcat, g1]))
          exact Ret_d rfl rfl
end Go.Proofs

/-
  WalNil: the law's body.
-/

namespace Go.Proofs
open Go.PW
theorem wf0 : Wf noH noA := fun i cs c h => by cases h
theorem wfZ : Wf (upd noH 8 (some zeroLg)) noA := by
  refine Wf_set wf0 (fun c hc => ?_) (fun _ h => h)
  unfold zeroLg at hc
  simp only [List.mem_cons, List.not_mem_nil, or_false] at hc
  rcases hc with rfl | rfl | rfl | rfl | rfl | rfl | rfl | rfl <;> exact True.intro
theorem abZ : Above 1000 (upd noH 8 (some zeroLg)) noA := Above_updH (fun i _ => ⟨rfl, fun _ => rfl⟩) (by decide)
set_option maxRecDepth 8000 in
set_option maxHeartbeats 16000000 in
theorem Try.kNilL (s : List UInt8) : PureOK Try.prog 4 [pD (dS s)] (.one (.d (.lit (.bool true)))) := by
  have e0 := Try.kKnown
  have e1 := Try.kOpenN 1000 wfZ
  have e2 := Try.kAppendN 1000 s wfZ
  have e3 := Try.kAppendZ (lid := 8) 1000 s wfZ (upd_same _ _ _)
  have e4 := Try.kCommitN 1000 wfZ
  have e5 := Try.kResetZ (lid := 8) 1000 wfZ (upd_same _ _ _)
  have e6 := Try.kRecordsN 1000 wfZ
  have e7 := Try.kRecordsZ (lid := 8) 1000 wfZ (upd_same _ _ _)
  have e8 := Try.kGenN 1000 wfZ
  have e9 := Try.kUsedN 1000 wfZ
  have e10 := Try.kFitsN 1000 wfZ
  have e11 := Try.kFitsZ (lid := 8) 1000 wfZ (upd_same _ _ _)
  have hab := abZ
  unfold nilP at e1 e2 e4 e6 e8 e9 e10
  unfold zeroLg at e1 e2 e3 e4 e5 e6 e7 e8 e9 e10 e11 hab
  refine pure_eff rfl (effr_ok (E := envOf Try.prog [14, 15, 16, 20, 18, 17, 19, 21] 0 [] []) (envOf_ok Try.mixed) Try.func4 rfl Try.call4 (by kernel_rfl) (by exact Nat.le_of_ble_eq_true rfl) (fun _ => ?_))
  repeat' (first
    | with_reducible refine VC_seq fun K hK => ?_
    | with_reducible refine W_region ?_
    | with_reducible refine VC_block ?_
    | with_reducible refine VC_scope ?_
    | with_reducible refine VC_if ?_
    | with_reducible refine VC_skip ?_
    | with_reducible refine VC_exit ?_
    | with_reducible refine VC_ret ?_
    | (with_reducible refine G_not (fun h => ?_) (fun h => ?_) <;> (try simp only [h]))
    | (with_reducible refine G_cases (fun h => ?_) (fun h => ?_) <;> (try simp only [h]))
    | refine And.intro rfl ?_
    | refine C_call rfl e1 rfl hab ?_
    | refine C_call rfl e2 rfl hab ?_
    | refine C_call rfl e3 rfl hab ?_
    | refine C_call rfl e4 rfl hab ?_
    | refine C_call rfl e5 rfl hab ?_
    | refine C_call rfl e6 rfl hab ?_
    | refine C_call rfl e7 rfl hab ?_
    | refine C_call rfl e8 rfl hab ?_
    | refine C_call rfl e9 rfl hab ?_
    | refine C_call rfl e10 rfl hab ?_
    | refine C_call rfl e11 rfl hab ?_
    | refine C_pure e0 rfl rfl (fun _ => rfl) ?_
    | (with_reducible refine hK _ ?_; clear hK K)
    | (clear hK K; with_reducible refine hK _ ?_; clear hK K)
    | (clear hK K; clear hK K; with_reducible refine hK _ ?_; clear hK K)
    | (clear hK K; clear hK K; clear hK K; with_reducible refine hK _ ?_; clear hK K)
    | (with_reducible refine todo ?_; simp +decide only [go_sem]))
  exact RetR_same rfl (by simp +decide only [go_sem]) True.intro wf0 (fun i h => (h rfl).elim) (fun i h => (h rfl).elim)
end Go.Proofs

/-
  WalFull: the law's body.
-/

namespace Go.Proofs
open Go.PW
@[go_sem] theorem B_bneq {P : Program} {T : TypeId} {a b : Bool} (h : P.underlying T = some .bool) : binS P .neq T (.c (.d (.lit (.bool a)))) (.c (.d (.lit (.bool b)))) = some (lit (.bool (!(a == b)))) := by
  simp [binS, eqS, h]
theorem scan_no (t : Nat) : ∀ (k i : Nat) (x : Sc), scanK (fun _ => none) t k i x = x
  | 0, _, _ => rfl
  | _ + 1, _, _ => rfl
/-- A new disk has nothing of a log. -/
theorem op_new {N f n : Nat} (h1 : 4 ≤ n) (h2 : n ≤ 1000) (h3 : f + n ≤ N) (h4 : N ≤ 4096) : OpAt (newD N) f n 0 0 0 0 (fun _ => none) :=
  ⟨h1, h2, h3, h4, by show 0 + 1 ≤ _; omega, fun i _ => by rw [rd_new, zeros_len]; omega, by rw [rd_new]; exact tell_zeros, by rw [rd_new]; exact tell_zeros, fun i _ => by rw [rd_new]; exact at_zeros i⟩
theorem opL_new (f n : Nat) : opL f n 0 0 0 0 (fun _ => none) = ⟨f, n - 2, 1, 0, 0, [], false⟩ := by
  unfold opL opX
  rw [scan_no]; rfl
theorem LgAt.ptr {H : HMap} {A : AMap} {lid did : Nat} {κr : Tok} {l : Lg} (hl : LgAt H A lid did κr l) {A1 A2 : AMap} : PV.wk (hOver [] H) A1 A2 (.c (.ptr lid 0)) (.c (.ptr lid 0)) = True := eq_true (wkP_ptr (by show H lid ≠ none; rw [hl.h]; simp))
theorem z30 : ((3 : Int) == 0) = false := rfl
theorem z3n : ((3 : Int) != 0) = true := rfl
theorem nself (a : Int) : (a != a) = false := by simp
structure FSt where
  i : Nat
  H : HMap
  A : AMap
  l : Lg
  d : Dk
structure FI (m : Nat) (y : FSt) : Prop where
  L : LW y.H y.A 2 0 (0, 0) (1, 1) y.d
  g : LgAt y.H y.A 1 0 (1, 0) y.l
  hh : y.l.halted = false
  hp : y.l.places = m - 2
  hf : y.l.from_ = 2
  ht : y.l.turn = 1
  hu : y.l.used ≤ y.l.places
  hr : y.l.recs.length ≤ y.i
  hd : ∃ c, c ≤ 60 * y.i ∧ DI 40 c y.d
  hi : y.i ≤ 40
set_option maxRecDepth 8000 in
set_option maxHeartbeats 32000000 in
theorem Try.kFull (ls : List (List UInt8)) (n : Nat) (hn : n < 256) : PureOK Try.prog 5 [tx ls, pD (.lit (.int .u8 n))] (.one (.d (.lit (.bool true)))) := by
  have e0 := Try.kKnown
  have c1 : IntKind.i64.wrap (n : Int) = (n : Int) := Go.IntWalk.i64_in _ (by omega)
  have c2 : Int.tmod (n : Int) 30 = ((n % 30 : Nat) : Int) := tmod_nat n 30
  have c3 : IntKind.i64.wrap (4 + ((n % 30 : Nat) : Int)) = ((4 + n % 30 : Nat) : Int) := by rw [Go.IntWalk.i64_in _ (by omega)]; omega
  have hm : 4 ≤ 4 + n % 30 ∧ 4 + n % 30 ≤ 33 := by omega
  generalize 4 + n % 30 = m at *
  obtain ⟨m1, m2⟩ := hm
  obtain ⟨H1, A1, e1, L1, _⟩ := Try.sNew 0 40 (by omega) (by omega)
  obtain ⟨H2, A2, e2, L2, g2, _⟩ := Try.sOpen L1 (by omega) (op_new (f := 2) m1 (by omega) (by omega) (by omega)) rfl
  rw [opL_new] at g2
  have L2 : LW H2 A2 2 0 (0, 0) (1, 1) (nextD (newD 40) 2 1 0) := L2
  have d2 : DI 40 0 (nextD (newD 40) 2 1 0) := (DI.new 40).next 2 1 0
  have c4 : IntKind.i64.wrap ((m : Int) - 2) = ((m - 2 : Nat) : Int) := by rw [Go.IntWalk.i64_in _ (by omega)]; omega
  have hp2 := fun {X Y : AMap} => g2.ptr (A1 := X) (A2 := Y)
  have hll := textsD_len ls
  unfold tx
  refine pure_eff rfl (effr_ok (E := envOf Try.prog [22, 14, 15, 20, 21] 0 [] []) (envOf_ok Try.mixed) Try.func5 rfl Try.call5 (by kernel_rfl) (by exact Nat.le_of_ble_eq_true rfl) (fun hab => ?_))
  repeat' (first
    | with_reducible refine VC_seq fun K hK => ?_
    | with_reducible refine W_region ?_
    | with_reducible refine VC_block ?_
    | with_reducible refine VC_scope ?_
    | with_reducible refine VC_if ?_
    | with_reducible refine VC_skip ?_
    | with_reducible refine VC_exit ?_
    | with_reducible refine VC_ret ?_
    | (with_reducible refine G_not (fun h => ?_) (fun h => ?_) <;> (try simp only [h]))
    | (with_reducible refine G_cases (fun h => ?_) (fun h => ?_) <;> (try simp only [h]))
    | refine C_call rfl e1 rfl (Above_mono hab (by omega)) ?_
    | refine C_call rfl e2 rfl (Above_mono L1.ab (by omega)) ?_
    | (with_reducible refine hK _ ?_; clear hK K)
    | (clear hK K; with_reducible refine hK _ ?_; clear hK K)
    | (clear hK K; clear hK K; with_reducible refine hK _ ?_; clear hK K)
    | (clear hK K; clear hK K; clear hK K; with_reducible refine hK _ ?_; clear hK K)
    | (with_reducible refine todo ?_; simp +decide only [go_sem, zne, c1, c2, c3]))
  refine VC_while (ι := FSt) (FI m) (fun y => over [(0, .c (.d (.sl (textsD ls)))), (5, pD (.lit (.int .i64 m))), (8, .c (.ptr 1 0)), (10, pD (.lit (.int .i64 y.i)))] [] y.H y.A) (fun y => 40 - y.i) ⟨0, H2, A2, _, _⟩
    ⟨L2, g2, rfl, rfl, rfl, rfl, Nat.zero_le _, Nat.le_refl _, ⟨0, Nat.le_refl _, d2⟩, Nat.zero_le _⟩ ?_ ?_
  · refine Weak_overG L2.wf (fun _ _ => rfl) rfl ?_ ?_ (fun i h => (h rfl).elim) (fun i h => (h rfl).elim)
    · simp +decide only [go_sem, hp2]
    · simp +decide only [go_sem]
  · rintro ⟨i, H, A, l, d⟩ ⟨L, g, hh, hp, hf, ht, hu, hr, ⟨c, hc, hd⟩, hi⟩
    simp only at L g hh hp hf ht hu hr hc hd hi
    have hpt := fun {X Y : AMap} => g.ptr (A1 := X) (A2 := Y)
    have hab2 : Above (0 + 1000) H A := Above_mono L.ab (by omega)
    by_cases q1 : i < ls.length
    · have f1 : ((i : Int) < ((textsD ls).length : Int)) = True := eq_true (by rw [hll]; omega)
      have hg := textsD_get q1
      have hnx : IntKind.i64.wrap ((i : Int) + 1) = ((i + 1 : Nat) : Int) := by rw [Go.IntWalk.i64_in _ (by omega)]; omega
      generalize ls[i] = s at hg
      by_cases q2 : i < 40
      · have f2 : ((i : Int) < 40) = True := eq_true (by omega)
        by_cases q3 : 5000 < s.length
        · have f3 : ((5000 : Int) < (s.length : Int)) = True := eq_true (by omega)
          repeat' (first
            | with_reducible refine VC_seq fun K hK => ?_
            | with_reducible refine W_region ?_
            | with_reducible refine VC_block ?_
            | with_reducible refine VC_scope ?_
            | with_reducible refine VC_if ?_
            | with_reducible refine VC_skip ?_
            | with_reducible refine VC_exit ?_
            | with_reducible refine VC_ret ?_
            | (with_reducible refine G_not (fun h => ?_) (fun h => ?_) <;> (try simp only [h]))
            | (with_reducible refine G_cases (fun h => ?_) (fun h => ?_) <;> (try simp only [h]))
            | (with_reducible refine hK _ ?_; clear hK K)
            | (clear hK K; with_reducible refine hK _ ?_; clear hK K)
            | (clear hK K; clear hK K; with_reducible refine hK _ ?_; clear hK K)
            | (clear hK K; clear hK K; clear hK K; with_reducible refine hK _ ?_; clear hK K)
            | (with_reducible refine todo ?_; simp +decide only [go_sem, f1, f2, f3, hg, hnx]))
          refine ⟨⟨⟨i + 1, H, A, l, d⟩, ⟨L, g, hh, hp, hf, ht, hu, by show l.recs.length ≤ i + 1; omega, ⟨c, by show c ≤ 60 * (i + 1); omega, hd⟩, q2⟩⟩, Weak_overG L.wf (fun _ _ => rfl) rfl ?_ ?_ (fun i h => (h rfl).elim) (fun i h => (h rfl).elim), by show 40 - (i + 1) < 40 - i; omega⟩
          · simp +decide only [go_sem, hpt]
          · simp +decide only [go_sem]
        · have f3 : ((5000 : Int) < (s.length : Int)) = False := eq_false (by omega)
          have n1 : IntKind.i64.wrap ((s.length : Int) + 99) = ((s.length + 99 : Nat) : Int) := by rw [Go.IntWalk.i64_in _ (by omega)]; omega
          have n2 : IntKind.i64.wrap (Int.tdiv ((s.length + 99 : Nat) : Int) 100) = (((s.length + 99) / 100 : Nat) : Int) := by rw [show Int.tdiv ((s.length + 99 : Nat) : Int) 100 = (((s.length + 99) / 100 : Nat) : Int) from tdiv_nat (s.length + 99) 100, Go.IntWalk.i64_in _ (by omega)]
          have n3 : (if (((s.length + 99) / 100 : Nat) : Int) > 1 then (((s.length + 99) / 100 : Nat) : Int) else 1) = ((needN s.length : Nat) : Int) := by
            unfold needN
            split <;> omega
          have hne : needN s.length ≤ 60 := by unfold needN; omega
          have n4 : IntKind.i64.wrap ((l.used : Int) + ((needN s.length : Nat) : Int)) = ((l.used + needN s.length : Nat) : Int) := by rw [Go.IntWalk.i64_in _ (by omega)]; omega
          have ku := Try.kUsed 1000 L.wf g
          have kf := Try.kFits 1000 L.wf g s.length (by omega) hu (by omega)
          by_cases q4 : l.used + needN s.length ≤ l.places
          · rw [decide_eq_true q4] at kf
            obtain ⟨H', A', ka, L', g', _⟩ := Try.sAppend L g hh s (by omega) q4 (by omega) (by omega) (by rw [hd.n]; omega) (by rw [hd.n]; omega) (by rw [hd.c]; omega) (by omega) hd.f
            have hd' := hd.ap l s (partsL s).length (partsL s) (partsL s).length
            have hpl := partsL_len s
            rw [hpl] at L' g' hd'
            have ku' := Try.kUsed 1000 L'.wf g'
            have hpt' := fun {X Y : AMap} => g'.ptr (A1 := X) (A2 := Y)
            have hab3 : Above (0 + 1000) H' A' := Above_mono L'.ab (by omega)
            have f4 : (((l.used + needN s.length : Nat) : Int) ≤ ((m - 2 : Nat) : Int)) = True := eq_true (by omega)
            have f5 : (((m - 2 : Nat) : Int) < ((l.used + needN s.length : Nat) : Int)) = False := eq_false (by omega)
            repeat' (first
              | with_reducible refine VC_seq fun K hK => ?_
              | with_reducible refine W_region ?_
              | with_reducible refine VC_block ?_
              | with_reducible refine VC_scope ?_
              | with_reducible refine VC_if ?_
              | with_reducible refine VC_skip ?_
              | with_reducible refine VC_exit ?_
              | with_reducible refine VC_ret ?_
              | (with_reducible refine G_not (fun h => ?_) (fun h => ?_) <;> (try simp only [h]))
              | (with_reducible refine G_cases (fun h => ?_) (fun h => ?_) <;> (try simp only [h]))
              | refine C_call rfl ku rfl hab2 ?_
              | refine C_call rfl kf rfl hab2 ?_
              | refine C_call rfl ka rfl hab2 ?_
              | refine C_call rfl ku' rfl hab3 ?_
              | (with_reducible refine hK _ ?_; clear hK K)
              | (clear hK K; with_reducible refine hK _ ?_; clear hK K)
              | (clear hK K; clear hK K; with_reducible refine hK _ ?_; clear hK K)
              | (clear hK K; clear hK K; clear hK K; with_reducible refine hK _ ?_; clear hK K)
              | (with_reducible refine todo ?_; simp +decide only [go_sem, f1, f2, f3, hg, n1, n2, n3, n4, c4, f4, f5, nself, hnx]))
            refine ⟨⟨⟨i + 1, H', A', _, _⟩, ⟨L', g', hh, hp, hf, ht, q4, by show (l.recs ++ [s]).length ≤ i + 1; rw [List.length_append, List.length_singleton]; omega, ⟨_, by show c + needN s.length ≤ 60 * (i + 1); omega, hd'⟩, q2⟩⟩, Weak_overG L'.wf (fun _ _ => rfl) rfl ?_ ?_ (fun i h => (h rfl).elim) (fun i h => (h rfl).elim), by show 40 - (i + 1) < 40 - i; omega⟩
            · simp +decide only [go_sem, hpt']
            · simp +decide only [go_sem]
          · rw [decide_eq_false q4] at kf
            have ka := Try.kAppendF 1000 L.wf g hh s (by omega) hu (by omega) (by omega)
            have f4 : (((l.used + needN s.length : Nat) : Int) ≤ ((m - 2 : Nat) : Int)) = False := eq_false (by omega)
            have f5 : (((m - 2 : Nat) : Int) < (l.used : Int)) = False := eq_false (by omega)
            repeat' (first
              | with_reducible refine VC_seq fun K hK => ?_
              | with_reducible refine W_region ?_
              | with_reducible refine VC_block ?_
              | with_reducible refine VC_scope ?_
              | with_reducible refine VC_if ?_
              | with_reducible refine VC_skip ?_
              | with_reducible refine VC_exit ?_
              | with_reducible refine VC_ret ?_
              | (with_reducible refine G_not (fun h => ?_) (fun h => ?_) <;> (try simp only [h]))
              | (with_reducible refine G_cases (fun h => ?_) (fun h => ?_) <;> (try simp only [h]))
              | refine C_call rfl ku rfl hab2 ?_
              | refine C_call rfl kf rfl hab2 ?_
              | refine C_call rfl ka rfl hab2 ?_
              | (with_reducible refine hK _ ?_; clear hK K)
              | (clear hK K; with_reducible refine hK _ ?_; clear hK K)
              | (clear hK K; clear hK K; with_reducible refine hK _ ?_; clear hK K)
              | (clear hK K; clear hK K; clear hK K; with_reducible refine hK _ ?_; clear hK K)
              | (with_reducible refine todo ?_; simp +decide only [go_sem, f1, f2, f3, hg, n1, n2, n3, n4, c4, f4, f5, z30, z3n, nself, hnx]))
            refine ⟨⟨⟨i + 1, H, A, l, d⟩, ⟨L, g, hh, hp, hf, ht, hu, by show l.recs.length ≤ i + 1; omega, ⟨c, by show c ≤ 60 * (i + 1); omega, hd⟩, q2⟩⟩, Weak_overG L.wf (fun _ _ => rfl) rfl ?_ ?_ (fun i h => (h rfl).elim) (fun i h => (h rfl).elim), by show 40 - (i + 1) < 40 - i; omega⟩
            · simp +decide only [go_sem, hpt]
            · simp +decide only [go_sem]
      · have f2 : ((i : Int) < 40) = False := eq_false (by omega)
        repeat' (first
          | with_reducible refine VC_seq fun K hK => ?_
          | with_reducible refine W_region ?_
          | with_reducible refine VC_block ?_
          | with_reducible refine VC_scope ?_
          | with_reducible refine VC_if ?_
          | with_reducible refine VC_skip ?_
          | with_reducible refine VC_exit ?_
          | with_reducible refine VC_ret ?_
          | (with_reducible refine G_not (fun h => ?_) (fun h => ?_) <;> (try simp only [h]))
          | (with_reducible refine G_cases (fun h => ?_) (fun h => ?_) <;> (try simp only [h]))
          | refine C_pure e0 rfl rfl (fun k => (L.ab _ (Nat.le_of_ble_eq_true rfl)).2 k) ?_
          | (with_reducible refine hK _ ?_; clear hK K)
          | (clear hK K; with_reducible refine hK _ ?_; clear hK K)
          | (clear hK K; clear hK K; with_reducible refine hK _ ?_; clear hK K)
          | (clear hK K; clear hK K; clear hK K; with_reducible refine hK _ ?_; clear hK K)
          | (with_reducible refine todo ?_; simp +decide only [go_sem, f1, f2]))
        exact RetR_same rfl (by simp +decide only [go_sem]) True.intro wf0 (fun i h => (h rfl).elim) (fun i h => (h rfl).elim)
    · have f1 : ((i : Int) < ((textsD ls).length : Int)) = False := eq_false (by rw [hll]; omega)
      repeat' (first
        | with_reducible refine VC_seq fun K hK => ?_
        | with_reducible refine W_region ?_
        | with_reducible refine VC_block ?_
        | with_reducible refine VC_scope ?_
        | with_reducible refine VC_if ?_
        | with_reducible refine VC_skip ?_
        | with_reducible refine VC_exit ?_
        | with_reducible refine VC_ret ?_
        | (with_reducible refine G_not (fun h => ?_) (fun h => ?_) <;> (try simp only [h]))
        | (with_reducible refine G_cases (fun h => ?_) (fun h => ?_) <;> (try simp only [h]))
        | refine C_pure e0 rfl rfl (fun k => (L.ab _ (Nat.le_of_ble_eq_true rfl)).2 k) ?_
        | (with_reducible refine hK _ ?_; clear hK K)
        | (clear hK K; with_reducible refine hK _ ?_; clear hK K)
        | (clear hK K; clear hK K; with_reducible refine hK _ ?_; clear hK K)
        | (clear hK K; clear hK K; clear hK K; with_reducible refine hK _ ?_; clear hK K)
        | (with_reducible refine todo ?_; simp +decide only [go_sem, f1]))
      exact RetR_same rfl (by simp +decide only [go_sem]) True.intro wf0 (fun i h => (h rfl).elim) (fun i h => (h rfl).elim)
end Go.Proofs
