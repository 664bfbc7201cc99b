import Derived.Test.YtfcffhhipkbkmaaQ32
import Derived.Test.YtfcffhhipkbkmaaQ35

/-
  The log: the next turn, and Reset, where a fuse burns.
-/

namespace Go.Proofs
open Go.PW
section wal
variable {H : HMap} {A : AMap} {lid did : Nat} {κm κc κr κ' : Tok} {d : Dk} {l : Lg}
theorem writeE_turn {d : Dk} {f t b : Nat} (hin : f + 1 < d.n) : writeE d ((f + t % 2 : Nat) : Int) (turnB t b) = if burnt d = true then 6 else 0 := by
  have h1 : dkRight d ((f + t % 2 : Nat) : Int) = 0 := by unfold dkRight; rw [if_neg (by omega), if_neg (by omega)]
  have h2 : (turnB t b).length ≤ 128 := sealB_len _
  unfold writeE
  rw [if_neg (by simpa using h1), if_neg (by omega)]
set_option maxRecDepth 8000 in
set_option maxHeartbeats 16000000 in
theorem Try.kNextB0 (off : Nat) (hw : Wf H A) (hl : LgAt H A lid did κr l) (hd : DkAt H A did κm κc d) (b : Nat) (hb : b < 9223372036854775808) (ht : l.turn + 1 < 9223372036854775808) (hin : l.from_ + 1 < d.n) (hdn : d.n ≤ 4096) (hb1 : burnt d = true) :
    EffOK Try.prog 34 off H A [.c (.ptr lid 0), pD (.lit (.int .i64 b))] (pD (.lit (.int .i64 6))) H A := by
  refine effr_ok (E := envOf Try.prog [38, 41] off [] []) (envOf_ok Try.mixed) Try.func34 rfl Try.call34 (by kernel_rfl) (by exact Nat.le_of_ble_eq_true rfl) (fun hab => ?_)
  have hlh := hl.h
  unfold encLg at hlh
  have c1 : IntKind.i64.wrap ((l.turn : Int) + 1) = ((l.turn + 1 : Nat) : Int) := Go.IntWalk.i64_in _ (by omega)
  have c2 : Int.tmod ((l.turn + 1 : Nat) : Int) 2 = (((l.turn + 1) % 2 : Nat) : Int) := tmod_nat (l.turn + 1) 2
  have c3 : IntKind.i64.wrap ((l.from_ : Int) + (((l.turn + 1) % 2 : Nat) : Int)) = ((l.from_ + (l.turn + 1) % 2 : Nat) : Int) := by rw [Go.IntWalk.i64_in _ (by omega)]; omega
  have kn1 := Try.kNumber (l.turn + 1) ht
  have kn2 := Try.kNumber b hb
  have l1 := uintB_len (l.turn + 1)
  have l2 := uintB_len b
  have ks := Try.kSeal ([83] ++ uintB (l.turn + 1) ++ uintB b) (by simp; omega)
  have hwe : writeE d ((l.from_ + (l.turn + 1) % 2 : Nat) : Int) (turnB (l.turn + 1) b) = 6 := by rw [writeE_turn hin, if_pos hb1]
  have kw := Try.kWriteNo (off + 1000) hw hd ((l.from_ + (l.turn + 1) % 2 : Nat) : Int) (turnB (l.turn + 1) b) (by omega) (by rw [hwe]; decide)
  rw [hwe] at kw
  have htb : sealB ([83] ++ uintB (l.turn + 1) ++ uintB b) = turnB (l.turn + 1) b := rfl
  rw [htb] at ks
  generalize turnB (l.turn + 1) b = tb at *
  generalize uintB (l.turn + 1) = u1 at *
  generalize uintB b = u2 at *
  have s1 : (1 + u1.length ≤ 9223372036854775807) = True := eq_true (by omega)
  have s2 : (u1.length + 1 + u2.length ≤ 9223372036854775807) = True := eq_true (by omega)
  repeat' (first
    | with_reducible refine VC_seq fun K hK => ?_
    | with_reducible refine W_region ?_
    | with_reducible refine VC_block ?_
    | with_reducible refine VC_scope ?_
    | with_reducible refine VC_if ?_
    | with_reducible refine VC_skip ?_
    | with_reducible refine VC_exit ?_
    | with_reducible refine VC_ret ?_
    | (with_reducible refine G_not (fun h => ?_) (fun h => ?_) <;> (try simp only [h]))
    | (with_reducible refine G_cases (fun h => ?_) (fun h => ?_) <;> (try simp only [h]))
    | refine C_pure kn1 rfl rfl (fun k => (hab _ (Nat.le_add_right _ _)).2 k) ?_
    | refine C_pure kn2 rfl rfl (fun k => (hab _ (Nat.le_add_right _ _)).2 k) ?_
    | refine C_pure ks rfl rfl (fun k => (hab _ (Nat.le_add_right _ _)).2 k) ?_
    | refine C_call rfl kw rfl (Above_mono hab (by omega)) ?_
    | (with_reducible refine hK _ ?_; clear hK K)
    | (clear hK K; with_reducible refine hK _ ?_; clear hK K)
    | (clear hK K; clear hK K; with_reducible refine hK _ ?_; clear hK K)
    | (clear hK K; clear hK K; clear hK K; with_reducible refine hK _ ?_; clear hK K)
    | (with_reducible refine todo ?_; simp +decide only [go_sem, hlh, c1, c2, c3, z60, s1, s2]))
  exact RetR_same rfl (by simp +decide only [go_sem]) True.intro hw kp_refl (fun _ _ => rfl)
set_option maxRecDepth 8000 in
set_option maxHeartbeats 16000000 in
theorem Try.kNextB1 (off : Nat) (hw : Wf H A) (hl : LgAt H A lid did κr l) (hd : DkAt H A did κm κc d) (b : Nat) (hb : b < 9223372036854775808) (ht : l.turn + 1 < 9223372036854775808) (hin : l.from_ + 1 < d.n) (hdn : d.n ≤ 4096) (hcl : d.cache.length + 1 ≤ 1000000)
    (hb1 : burnt d = false) (hb2 : burnt (wrD d ((l.from_ + (l.turn + 1) % 2 : Nat) : Int) (turnB (l.turn + 1) b)) = true) :
    EffOK Try.prog 34 off H A [.c (.ptr lid 0), pD (.lit (.int .i64 b))] (pD (.lit (.int .i64 6)))
      (upd H did (some (encDk κm κc (wrD d ((l.from_ + (l.turn + 1) % 2 : Nat) : Int) (turnB (l.turn + 1) b))))) (upd A κc (some (.co 2 (d.cache.length + 1)))) := by
  refine effr_ok (E := envOf Try.prog [38, 41] off [] []) (envOf_ok Try.mixed) Try.func34 rfl Try.call34 (by kernel_rfl) (by exact Nat.le_of_ble_eq_true rfl) (fun hab => ?_)
  have hlh := hl.h
  unfold encLg at hlh
  have hne := hl.ne hd
  have hlt := hd.lt hab
  have c1 : IntKind.i64.wrap ((l.turn : Int) + 1) = ((l.turn + 1 : Nat) : Int) := Go.IntWalk.i64_in _ (by omega)
  have c2 : Int.tmod ((l.turn + 1 : Nat) : Int) 2 = (((l.turn + 1) % 2 : Nat) : Int) := tmod_nat (l.turn + 1) 2
  have c3 : IntKind.i64.wrap ((l.from_ : Int) + (((l.turn + 1) % 2 : Nat) : Int)) = ((l.from_ + (l.turn + 1) % 2 : Nat) : Int) := by rw [Go.IntWalk.i64_in _ (by omega)]; omega
  have kn1 := Try.kNumber (l.turn + 1) ht
  have kn2 := Try.kNumber b hb
  have l1 := uintB_len (l.turn + 1)
  have l2 := uintB_len b
  have ks := Try.kSeal ([83] ++ uintB (l.turn + 1) ++ uintB b) (by simp; omega)
  have hwe : writeE d ((l.from_ + (l.turn + 1) % 2 : Nat) : Int) (turnB (l.turn + 1) b) = 0 := by rw [writeE_turn hin, hb1]; rfl
  have kw := Try.kWrite (off + 1000) hw hd ((l.from_ + (l.turn + 1) % 2 : Nat) : Int) (turnB (l.turn + 1) b) (by omega) (by omega) hwe
  have hw1 := DkAt.wf (d' := wrD d ((l.from_ + (l.turn + 1) % 2 : Nat) : Int) (turnB (l.turn + 1) b)) hw hd (A' := upd A κc (some (.co 2 (d.cache.length + 1)))) upd_keep
  have hd1 : DkAt (upd H did (some (encDk κm κc (wrD d ((l.from_ + (l.turn + 1) % 2 : Nat) : Int) (turnB (l.turn + 1) b))))) (upd A κc (some (.co 2 (d.cache.length + 1)))) did κm κc (wrD d ((l.from_ + (l.turn + 1) % 2 : Nat) : Int) (turnB (l.turn + 1) b)) :=
    ⟨upd_same _ _ _, by rw [upd_other _ _ hd.ne.symm]; exact hd.m, by rw [upd_same]; simp [wrD]⟩
  have kf := Try.kFlushNo (off + 1000) hw1 hd1 (by show 0 < d.n; omega) hb2
  have htb : sealB ([83] ++ uintB (l.turn + 1) ++ uintB b) = turnB (l.turn + 1) b := rfl
  rw [htb] at ks
  have hm : Above (off + 1000) (upd H did (some (encDk κm κc (wrD d ((l.from_ + (l.turn + 1) % 2 : Nat) : Int) (turnB (l.turn + 1) b))))) (upd A κc (some (.co 2 (d.cache.length + 1)))) := Above_updA (Above_updH (Above_mono hab (by omega)) (by omega)) (by omega)
  generalize wrD d ((l.from_ + (l.turn + 1) % 2 : Nat) : Int) (turnB (l.turn + 1) b) = dw at *
  generalize turnB (l.turn + 1) b = tb at *
  generalize uintB (l.turn + 1) = u1 at *
  generalize uintB b = u2 at *
  have s1 : (1 + u1.length ≤ 9223372036854775807) = True := eq_true (by omega)
  have s2 : (u1.length + 1 + u2.length ≤ 9223372036854775807) = True := eq_true (by omega)
  repeat' (first
    | with_reducible refine VC_seq fun K hK => ?_
    | with_reducible refine W_region ?_
    | with_reducible refine VC_block ?_
    | with_reducible refine VC_scope ?_
    | with_reducible refine VC_if ?_
    | with_reducible refine VC_skip ?_
    | with_reducible refine VC_exit ?_
    | with_reducible refine VC_ret ?_
    | (with_reducible refine G_not (fun h => ?_) (fun h => ?_) <;> (try simp only [h]))
    | (with_reducible refine G_cases (fun h => ?_) (fun h => ?_) <;> (try simp only [h]))
    | refine C_pure kn1 rfl rfl (fun k => (hab _ (Nat.le_add_right _ _)).2 k) ?_
    | refine C_pure kn2 rfl rfl (fun k => (hab _ (Nat.le_add_right _ _)).2 k) ?_
    | refine C_pure ks rfl rfl (fun k => (hab _ (Nat.le_add_right _ _)).2 k) ?_
    | refine C_call rfl kw rfl (Above_mono hab (by omega)) ?_
    | refine C_call rfl kf rfl hm ?_
    | (with_reducible refine hK _ ?_; clear hK K)
    | (clear hK K; with_reducible refine hK _ ?_; clear hK K)
    | (clear hK K; clear hK K; with_reducible refine hK _ ?_; clear hK K)
    | (clear hK K; clear hK K; clear hK K; with_reducible refine hK _ ?_; clear hK K)
    | (with_reducible refine todo ?_; simp +decide only [go_sem, hlh, c1, c2, c3, zne, z60, s1, s2, hne]))
  exact RetR_eq rfl (wk_c (.inr (.inl ⟨rfl, True.intro⟩))) True.intro hw1 (fun _ _ => rfl) rfl upd_keepH upd_keep
set_option maxRecDepth 8000 in
set_option maxHeartbeats 16000000 in
theorem Try.kResetB0 (off : Nat) (hw : Wf H A) (hl : LgAt H A lid did κr l) (hd : DkAt H A did κm κc d) (hh : l.halted = false) (ht : l.turn + 1 < 9223372036854775807) (hin : l.from_ + 1 < d.n) (hdn : d.n ≤ 4096) (hb1 : burnt d = true) :
    EffOK Try.prog 17 off H A [.c (.ptr lid 0)] (pD (.lit (.int .i64 6))) (upd H lid (some (encLg did κr { l with halted := true }))) A := by
  refine effr_ok (E := envOf Try.prog [35, 37, 34] off [] []) (envOf_ok Try.mixed) Try.func17 rfl Try.call17 (by kernel_rfl) (by exact Nat.le_of_ble_eq_true rfl) (fun hab => ?_)
  have hlh := hl.h
  have hdid : H did ≠ none := by rw [hd.h]; simp
  have ks := Try.kState (off + 1000) hw hl hh
  have kn := Try.kNextB0 (off + 1000) hw hl hd (l.turn + 1) (by omega) (by omega) hin hdn hb1
  have c1 : IntKind.i64.wrap ((l.turn : Int) + 1) = ((l.turn + 1 : Nat) : Int) := Go.IntWalk.i64_in _ (by omega)
  have kt := Try.kTook (off + 1000) hw hl hdid 6
  rw [show (l.halted || ((6 : Int) != 0)) = true by rw [hh]; rfl] at kt
  have hwE : Wf (upd H lid (some (encLg did κr { l with halted := true }))) A := Wf_set hw (LgAt.ok (upd_keepH _ hdid) (by rw [hl.r]; simp)) (fun _ h => h)
  unfold encLg at hlh
  repeat' (first
    | with_reducible refine VC_seq fun K hK => ?_
    | with_reducible refine W_region ?_
    | with_reducible refine VC_block ?_
    | with_reducible refine VC_scope ?_
    | with_reducible refine VC_if ?_
    | with_reducible refine VC_skip ?_
    | with_reducible refine VC_exit ?_
    | with_reducible refine VC_ret ?_
    | (with_reducible refine G_not (fun h => ?_) (fun h => ?_) <;> (try simp only [h]))
    | (with_reducible refine G_cases (fun h => ?_) (fun h => ?_) <;> (try simp only [h]))
    | refine C_call rfl ks rfl (Above_mono hab (by omega)) ?_
    | refine C_call rfl kn rfl (Above_mono hab (by omega)) ?_
    | refine C_call rfl kt rfl (Above_mono hab (by omega)) ?_
    | (with_reducible refine hK _ ?_; clear hK K)
    | (clear hK K; with_reducible refine hK _ ?_; clear hK K)
    | (clear hK K; clear hK K; with_reducible refine hK _ ?_; clear hK K)
    | (clear hK K; clear hK K; clear hK K; with_reducible refine hK _ ?_; clear hK K)
    | (with_reducible refine todo ?_; simp +decide only [go_sem, hlh, c1, zne, z60]))
  exact RetR_eq rfl (wk_c (.inr (.inl ⟨rfl, True.intro⟩))) True.intro hwE (fun _ _ => rfl) rfl upd_keepH (fun _ h => h)
set_option maxRecDepth 8000 in
set_option maxHeartbeats 16000000 in
theorem Try.kResetB1 (off : Nat) (hw : Wf H A) (hl : LgAt H A lid did κr l) (hd : DkAt H A did κm κc d) (hh : l.halted = false) (ht : l.turn + 1 < 9223372036854775807) (hin : l.from_ + 1 < d.n) (hdn : d.n ≤ 4096) (hcl : d.cache.length + 1 ≤ 1000000)
    (hb1 : burnt d = false) (hb2 : burnt (wrD d ((l.from_ + (l.turn + 1) % 2 : Nat) : Int) (turnB (l.turn + 1) (l.turn + 1))) = true) :
    EffOK Try.prog 17 off H A [.c (.ptr lid 0)] (pD (.lit (.int .i64 6)))
      (upd (upd H did (some (encDk κm κc (wrD d ((l.from_ + (l.turn + 1) % 2 : Nat) : Int) (turnB (l.turn + 1) (l.turn + 1)))))) lid (some (encLg did κr { l with halted := true }))) (upd A κc (some (.co 2 (d.cache.length + 1)))) := by
  refine effr_ok (E := envOf Try.prog [35, 37, 34] off [] []) (envOf_ok Try.mixed) Try.func17 rfl Try.call17 (by kernel_rfl) (by exact Nat.le_of_ble_eq_true rfl) (fun hab => ?_)
  have hlh := hl.h
  have hlt := hd.lt hab
  have hlt2 := hl.lt hab
  have ks := Try.kState (off + 1000) hw hl hh
  have kn := Try.kNextB1 (off + 1000) hw hl hd (l.turn + 1) (by omega) (by omega) hin hdn hcl hb1 hb2
  generalize wrD d ((l.from_ + (l.turn + 1) % 2 : Nat) : Int) (turnB (l.turn + 1) (l.turn + 1)) = dw at *
  have c1 : IntKind.i64.wrap ((l.turn : Int) + 1) = ((l.turn + 1 : Nat) : Int) := Go.IntWalk.i64_in _ (by omega)
  have hw2 : Wf (upd H did (some (encDk κm κc dw))) (upd A κc (some (.co 2 (d.cache.length + 1)))) := DkAt.wf hw hd _ upd_keep
  have hl2 : LgAt (upd H did (some (encDk κm κc dw))) (upd A κc (some (.co 2 (d.cache.length + 1)))) lid did κr l := ⟨by rw [upd_other _ _ (hl.ne hd)]; exact hl.h, by rw [upd_other _ _ (hl.nc hd)]; exact hl.r⟩
  have hdid : upd H did (some (encDk κm κc dw)) did ≠ none := by rw [upd_same]; simp
  have kt := Try.kTook (off + 1000) hw2 hl2 hdid 6
  rw [show (l.halted || ((6 : Int) != 0)) = true by rw [hh]; rfl] at kt
  have hm : Above (off + 1000) (upd H did (some (encDk κm κc dw))) (upd A κc (some (.co 2 (d.cache.length + 1)))) := Above_updA (Above_updH (Above_mono hab (by omega)) (by omega)) (by omega)
  have hwE : Wf (upd (upd H did (some (encDk κm κc dw))) lid (some (encLg did κr { l with halted := true }))) (upd A κc (some (.co 2 (d.cache.length + 1)))) := Wf_set hw2 (LgAt.ok (upd_keepH _ hdid) (by rw [hl2.r]; simp)) (fun _ h => h)
  unfold encLg at hlh
  repeat' (first
    | with_reducible refine VC_seq fun K hK => ?_
    | with_reducible refine W_region ?_
    | with_reducible refine VC_block ?_
    | with_reducible refine VC_scope ?_
    | with_reducible refine VC_if ?_
    | with_reducible refine VC_skip ?_
    | with_reducible refine VC_exit ?_
    | with_reducible refine VC_ret ?_
    | (with_reducible refine G_not (fun h => ?_) (fun h => ?_) <;> (try simp only [h]))
    | (with_reducible refine G_cases (fun h => ?_) (fun h => ?_) <;> (try simp only [h]))
    | refine C_call rfl ks rfl (Above_mono hab (by omega)) ?_
    | refine C_call rfl kn rfl (Above_mono hab (by omega)) ?_
    | refine C_call rfl kt rfl hm ?_
    | (with_reducible refine hK _ ?_; clear hK K)
    | (clear hK K; with_reducible refine hK _ ?_; clear hK K)
    | (clear hK K; clear hK K; with_reducible refine hK _ ?_; clear hK K)
    | (clear hK K; clear hK K; clear hK K; with_reducible refine hK _ ?_; clear hK K)
    | (with_reducible refine todo ?_; simp +decide only [go_sem, hlh, c1, zne, z60]))
  exact RetR_eq rfl (wk_c (.inr (.inl ⟨rfl, True.intro⟩))) True.intro hwE (fun _ _ => rfl) rfl (fun i h => upd_keepH i (upd_keepH i h)) upd_keep
end wal
end Go.Proofs

/-
  WalResets: the steps of Reset where a fuse may burn, and what a crash leaves (written by hz.py).
-/


namespace Go.Proofs
open Go.PW
section wal
variable {H : HMap} {A : AMap} {k did : Nat} {κm κc : Tok} {d : Dk}
theorem Try.sResetG (hL : LW H A k did κm κc d) (hk : k < 1000) {lid : Nat} {κr : Tok} {l : Lg} (hl : LgAt H A lid did κr l) (hh : l.halted = false) (ht : l.turn + 1 < 9223372036854775807) (hin : l.from_ + 1 < d.n) (hdn : d.n ≤ 4096) (hcl : d.cache.length + 1 ≤ 1000000) (hb1 : burnt d = false) (hb2 : burnt (wrD d ((l.from_ + (l.turn + 1) % 2 : Nat) : Int) (turnB (l.turn + 1) (l.turn + 1))) = false) :
    StepOK Try.prog 17 H A [.c (.ptr lid 0)] (pD (.lit (.int .i64 0))) fun H' A' => LW H' A' (k + 1) did κm (k, 0) (nextD d l.from_ (l.turn + 1) (l.turn + 1)) ∧ LgAt H' A' lid did (k, 1) { l with turn := l.turn + 1, base := l.turn + 1, used := 0, recs := [] } ∧
      (∀ lid' κr' l', lid' ≠ lid → LgAt H A lid' did κr' l' → LgAt H' A' lid' did κr' l') ∧ (∀ j, j ≠ did → j ≠ lid → H' j = H j) ∧ (∀ τ, τ ≠ κm → τ ≠ κc → τ.1 < k → A' τ = A τ) ∧ ∀ τ, A τ ≠ none → A' τ ≠ none := by
  obtain ⟨n1, n2, n3⟩ := hL.ne
  obtain ⟨m1, m2⟩ := hl.lt hL.ab
  have nk : ((k, 1) : Tok) ≠ (k, 0) := fun e => by cases e
  have nm0 : κm ≠ (k, 0) := tok_ne (by show κm.1 ≠ k; omega)
  have nm1 : κm ≠ (k, 1) := tok_ne (by show κm.1 ≠ k; omega)
  have kr := Try.kReset (κ' := (k, 0)) (κr' := (k, 1)) 1000 hL.wf hl hL.dk hh ht hin hdn hcl hb1 hb2 (hL.new 0).2 (by show k < 2000; omega) (hL.new 1).2 nk
  have hdc : (nextD d l.from_ (l.turn + 1) (l.turn + 1)).cache.length = 0 := rfl
  generalize nextD d l.from_ (l.turn + 1) (l.turn + 1) = dn at *
  have kA : ∀ τ, A τ ≠ none → upd (upd (upd (upd A κc (some (.co 2 (d.cache.length + 1)))) κm (some (.mp (encNS dn.stays)))) (k, 0) (some (.co 2 0))) (k, 1) (some (.co 1 0)) τ ≠ none := fun τ h => upd_keep _ (upd_keep _ (upd_keep _ (upd_keep _ h)))
  refine ⟨_, _, kr, ⟨?_, ?_, ?_⟩, ⟨upd_same _ _ _, by rw [upd_same]; rfl⟩, ?_, fun j q1 q2 => by rw [upd_other _ _ q2, upd_other _ _ q2, upd_other _ _ q1], fun τ q1 q2 q3 => by rw [upd_other _ _ (tok_ne (by show τ.1 ≠ k; omega)), upd_other _ _ (tok_ne (by show τ.1 ≠ k; omega)), upd_other _ _ q1, upd_other _ _ q2], kA⟩
  · exact Wf_set (A := upd (upd (upd (upd A κc (some (.co 2 (d.cache.length + 1)))) κm (some (.mp (encNS dn.stays)))) (k, 0) (some (.co 2 0))) (k, 1) (some (.co 1 0)))
      (Wf_set (A := upd (upd (upd (upd A κc (some (.co 2 (d.cache.length + 1)))) κm (some (.mp (encNS dn.stays)))) (k, 0) (some (.co 2 0))) (k, 1) (some (.co 1 0)))
        (Wf_set hL.wf (DkAt.ok (kA κm (by rw [hL.dk.m]; simp)) (upd_keep _ (by rw [upd_same]; simp))) kA) (LgAt.ok (upd_keepH _ (by rw [upd_same]; simp)) (kA κr (by rw [hl.r]; simp))) (fun _ h => h))
      (LgAt.ok (upd_keepH _ (upd_keepH _ (by rw [upd_same]; simp))) (by rw [upd_same]; simp)) (fun _ h => h)
  · exact Above_updA (Above_updA (Above_updA (Above_updA (Above_updH (Above_updH (Above_updH (Above_mono hL.ab (by omega)) (by omega)) (by omega)) (by omega)) (by omega)) (by omega)) (by show k < k + 1; omega)) (by show k < k + 1; omega)
  · exact ⟨by rw [upd_other _ _ (hl.ne hL.dk).symm, upd_other _ _ (hl.ne hL.dk).symm, upd_same], by rw [upd_other _ _ nm1, upd_other _ _ nm0, upd_same], by rw [upd_other _ _ nk.symm, upd_same, hdc]⟩
  · intro lid' κr' l' q1 hl'
    obtain ⟨p1, p2⟩ := hl'.lt hL.ab
    exact hl'.mv (by rw [upd_other _ _ q1, upd_other _ _ q1, upd_other _ _ (hl'.ne hL.dk)]) (by rw [upd_other _ _ (tok_ne (by show κr'.1 ≠ k; omega)), upd_other _ _ (tok_ne (by show κr'.1 ≠ k; omega)), upd_other _ _ (hl'.nm hL.dk), upd_other _ _ (hl'.nc hL.dk)])
theorem Try.sResetB0 (hL : LW H A k did κm κc d) {lid : Nat} {κr : Tok} {l : Lg} (hl : LgAt H A lid did κr l) (hh : l.halted = false) (ht : l.turn + 1 < 9223372036854775807) (hin : l.from_ + 1 < d.n) (hdn : d.n ≤ 4096) (hb1 : burnt d = true) :
    StepOK Try.prog 17 H A [.c (.ptr lid 0)] (pD (.lit (.int .i64 6))) fun H' A' => A' = A ∧ LW H' A k did κm κc d := by
  obtain ⟨m1, _⟩ := hl.lt hL.ab
  have hdid : H did ≠ none := by rw [hL.dk.h]; simp
  exact ⟨_, _, Try.kResetB0 1000 hL.wf hl hL.dk hh ht hin hdn hb1, rfl, ⟨Wf_set hL.wf (LgAt.ok (upd_keepH _ hdid) (by rw [hl.r]; simp)) (fun _ h => h), Above_updH hL.ab m1, hL.dk.updH (hl.ne hL.dk).symm⟩⟩
theorem Try.sResetB1 (hL : LW H A k did κm κc d) {lid : Nat} {κr : Tok} {l : Lg} (hl : LgAt H A lid did κr l) (hh : l.halted = false) (ht : l.turn + 1 < 9223372036854775807) (hin : l.from_ + 1 < d.n) (hdn : d.n ≤ 4096) (hcl : d.cache.length + 1 ≤ 1000000)
    (hb1 : burnt d = false) (hb2 : burnt (wrD d ((l.from_ + (l.turn + 1) % 2 : Nat) : Int) (turnB (l.turn + 1) (l.turn + 1))) = true) :
    StepOK Try.prog 17 H A [.c (.ptr lid 0)] (pD (.lit (.int .i64 6))) fun H' A' => LW H' A' k did κm κc (wrD d ((l.from_ + (l.turn + 1) % 2 : Nat) : Int) (turnB (l.turn + 1) (l.turn + 1))) ∧ ∀ τ, τ ≠ κc → A' τ = A τ := by
  obtain ⟨n1, n2, n3⟩ := hL.ne
  obtain ⟨m1, _⟩ := hl.lt hL.ab
  have kr := Try.kResetB1 1000 hL.wf hl hL.dk hh ht hin hdn hcl hb1 hb2
  have hc : (wrD d ((l.from_ + (l.turn + 1) % 2 : Nat) : Int) (turnB (l.turn + 1) (l.turn + 1))).cache.length = d.cache.length + 1 := by simp [wrD]
  have hs : (wrD d ((l.from_ + (l.turn + 1) % 2 : Nat) : Int) (turnB (l.turn + 1) (l.turn + 1))).stays = d.stays := rfl
  clear hb2
  generalize wrD d ((l.from_ + (l.turn + 1) % 2 : Nat) : Int) (turnB (l.turn + 1) (l.turn + 1)) = dw at *
  have hw2 : Wf (upd H did (some (encDk κm κc dw))) (upd A κc (some (.co 2 (d.cache.length + 1)))) := DkAt.wf hL.wf hL.dk _ upd_keep
  refine ⟨_, _, kr, ⟨?_, ?_, ?_⟩, fun τ q => upd_other _ _ q⟩
  · exact Wf_set hw2 (LgAt.ok (upd_keepH _ (by rw [upd_same]; simp)) (by rw [upd_other _ _ (hl.nc hL.dk), hl.r]; simp)) (fun _ h => h)
  · exact Above_updA (Above_updH (Above_updH hL.ab n1) m1) n3
  · exact ⟨by rw [upd_other _ _ (hl.ne hL.dk).symm, upd_same], by rw [upd_other _ _ hL.dk.ne.symm, hs]; exact hL.dk.m, by rw [upd_same, hc]⟩
end wal
theorem OpAt.same {d d' : Dk} {f n t0 b0 t1 b1 : Nat} {pl : Nat → Option Pc} (h : OpAt d f n t0 b0 t1 b1 pl) (hn : d'.n = d.n) (hc : d'.cache.length + 1 ≤ 1000000) (hr : ∀ j, rd d' j = rd d j) : OpAt d' f n t0 b0 t1 b1 pl :=
  ⟨h.n1, h.n2, by rw [hn]; exact h.hin, by rw [hn]; exact h.hdn, hc, fun i hi => by rw [hr]; exact h.hs i hi, by rw [hr]; exact h.c0, by rw [hr]; exact h.c1, fun i hi => by rw [hr]; exact h.hpl i hi⟩
/-- A log to which was appended, on a disk without a fuse. -/
def PR (l : Lg) (d : Dk) : Prop := ∃ new S, PI d 0 40 40 1 0 [] new S ∧ l = ⟨0, 38, 1, 0, (pcs new).length, new.map (·.2), false⟩ ∧ d.cache.length = (pcs new).length ∧ d.fused = false
theorem PR.spec {l : Lg} {d : Dk} (h : PR l d) : l.from_ = 0 ∧ l.places = 38 ∧ l.turn = 1 ∧ l.halted = false ∧ l.used ≤ 38 ∧ d.n = 40 ∧ d.fused = false ∧ d.cache.length ≤ 38 ∧ l.recs.length ≤ 38 := by
  obtain ⟨new, S, h1, rfl, h3, h4⟩ := h
  have hf := h1.fit
  have h7 := len_pcs new
  have h0 : (pcs ([] : List (Nat × List UInt8))).length = 0 := rfl
  exact ⟨rfl, rfl, rfl, rfl, by show (pcs new).length ≤ 38; omega, h1.dn, h4, by omega, by show (new.map _).length ≤ 38; rw [List.length_map]; omega⟩
theorem PR.append {l : Lg} {d : Dk} (h : PR l d) (s : List UInt8) (hfit : l.used + (partsL s).length ≤ 38) : PR { l with recs := l.recs ++ [s], used := l.used + (partsL s).length } (apD l s (partsL s).length (partsL s) d (partsL s).length) := by
  obtain ⟨new, S, h1, rfl, h3, h4⟩ := h
  obtain ⟨_, c2, c3, _⟩ := apD_spec ⟨0, 38, 1, 0, (pcs new).length, new.map (·.2), false⟩ s (partsL s).length (partsL s) d (partsL s).length
  have hp := h1.append (l := ⟨0, 38, 1, 0, (pcs new).length, new.map (·.2), false⟩) rfl rfl (by show (pcs new).length = 0 + (pcs new).length; omega) h3 s hfit (partsL s).length (Nat.le_refl _)
  have hr : (pcsR 1 s).length = (partsL s).length := by unfold pcsR; rw [pcK_len]
  have hn : (pcs (new ++ [(1, s)])).length = (pcs new).length + (partsL s).length := by
    rw [show pcs (new ++ [(1, s)]) = pcs new ++ (pcsR 1 s ++ []) from pcs_app _ _, List.append_nil, List.length_append, hr]
  refine ⟨new ++ [(1, s)], S, hp, ?_, by rw [c2, h3, hn], by rw [c3]; exact h4⟩
  have e2 : List.map (fun r : Nat × List UInt8 => r.2) (new ++ [(1, s)]) = new.map (·.2) ++ [s] := by rw [List.map_append]; rfl
  rw [hn, e2]
/-- Behind a Reset that a fuse may have cut off, and a crash. -/
def RRes (l : Lg) (dR : Dk) (g : Int) : Prop := ∀ keep : List Bool, ∃ t0 b0 t1 b1 R, OpAt (crD dR keep) 0 40 t0 b0 t1 b1 R ∧
  ((g = 0 ∧ (opL 0 40 t0 b0 t1 b1 R).recs = [] ∧ (opL 0 40 t0 b0 t1 b1 R).turn = 3) ∨ (g = 6 ∧ (((opL 0 40 t0 b0 t1 b1 R).recs = [] ∧ (opL 0 40 t0 b0 t1 b1 R).turn = 3) ∨ ((opL 0 40 t0 b0 t1 b1 R).recs = l.recs ∧ (opL 0 40 t0 b0 t1 b1 R).turn = 2))))
theorem PI.fuse {d : Dk} {f n N T B : Nat} {old new : List (Nat × List UInt8)} {S : Nat → Option Pc} (h : PI d f n N T B old new S) (q : Int) : PI (fuseD d q) f n N T B old new S :=
  { h with g := h.g, dn := h.dn, len := h.len, at_ := h.at_, s0 := h.s0, s1 := h.s1, cache := h.cache }
theorem PR.committed {l : Lg} {d : Dk} (h : PR l d) (q : Int) : ∃ new R, PI (fuseD (flD d) q) 0 40 40 1 0 new [] R ∧ l.recs = new.map (·.2) := by
  obtain ⟨new, S, h1, rfl, h3, h4⟩ := h
  obtain ⟨R, hR⟩ := h1.commit h3
  exact ⟨new, R, hR.fuse q, rfl⟩
theorem PR.res0 {l : Lg} {d : Dk} (h : PR l d) (q : Int) : RRes l (fuseD (flD d) q) 6 := fun keep => by
  obtain ⟨new, R, h1, h2⟩ := h.committed q
  obtain ⟨t0, b0, t1, b1, R', m, c1, c2, c3, c4, c5, c6⟩ := h1.crash (by omega) keep
  refine ⟨t0, b0, t1, b1, R', c1, .inr ⟨rfl, .inr ⟨?_, by rw [c5]⟩⟩⟩
  rw [c5, h2]
  simp
theorem PR.res2 {l : Lg} {d : Dk} (h : PR l d) (q : Int) : RRes l (nextD (fuseD (flD d) q) 0 2 2) 0 := fun keep => by
  obtain ⟨new, R, h1, h2⟩ := h.committed q
  obtain ⟨R2, h3⟩ := h1.reset (by omega)
  obtain ⟨t0, b0, t1, b1, R', m, c1, c2, c3, c4, c5, c6⟩ := h3.crash (by omega) keep
  refine ⟨t0, b0, t1, b1, R', c1, .inl ⟨rfl, ?_, by rw [c5]⟩⟩
  rw [c5]
  simp
theorem PR.res1 {l : Lg} {d : Dk} (h : PR l d) (q : Int) : RRes l (wrD (fuseD (flD d) q) ((0 + 2 % 2 : Nat) : Int) (turnB 2 2)) 6 := fun keep => by
  obtain ⟨new, R, h1, h2⟩ := h.committed q
  have hg := h1.g
  have hlen := h1.len
  have hat := h1.at_
  have hs0 := h1.s0
  have hdn := h1.dn
  have hle := h1.oldle
  have hcr := h1.crash (by omega) []
  have hca : (fuseD (flD d) q).cache = [] := rfl
  generalize hD : fuseD (flD d) q = dd at *
  have hcache : (wrD dd ((0 + 2 % 2 : Nat) : Int) (turnB 2 2)).cache = [(0, pad (turnB 2 2))] := by show dd.cache ++ [_] = _; rw [hca]; rfl
  have hrd : ∀ j, rd (crD (wrD dd ((0 + 2 % 2 : Nat) : Int) (turnB 2 2)) keep) j = (lastW j (keptL [(0, pad (turnB 2 2))] keep)).getD (lkR j dd.stays) := fun j => by
    rw [rd_cr (hg.wr _ _), hcache]; rfl
  have hk : keptL [(0, pad (turnB 2 2))] keep = [] ∨ keptL [((0 : Int), pad (turnB 2 2))] keep = [(0, pad (turnB 2 2))] := by
    cases keep with
    | nil => exact .inl rfl
    | cons b r => cases b with
      | true => right; cases r <;> rfl
      | false => left; cases r <;> rfl
  rcases hk with hk | hk
  · obtain ⟨t0, b0, t1, b1, R', m, c1, c2, c3, c4, c5, c6⟩ := hcr
    refine ⟨t0, b0, t1, b1, R', c1.same rfl (by show 0 + 1 ≤ _; omega) (fun j => ?_), .inr ⟨rfl, .inr ⟨?_, by rw [c5]⟩⟩⟩
    · rw [hrd, hk, rd_cr hg, hca]; rfl
    · rw [c5, h2]; simp
  · have hnow : ∀ (k i : Nat) (x : Sc), x.now = 2 → scanK R 2 k i x = x := fun k i x hx => by
      cases k with
      | zero => rfl
      | succ k =>
        unfold scanK
        cases hR : R i with
        | none => rfl
        | some p =>
          simp only
          rw [scStep_old (by have := hle i p hR; omega)]
    have hx : opX R 40 2 2 = ⟨[], [], 0, 2, [], 0⟩ := hnow _ _ _ rfl
    have hl0 : ∀ j : Int, j ≠ 0 → lastW j [((0 : Int), pad (turnB 2 2))] = none := fun j hj => by
      show (match lastW j [] with | some s => some s | none => if (0 : Int) = j then some (pad (turnB 2 2)) else none) = none
      show (if (0 : Int) = j then some (pad (turnB 2 2)) else none) = none
      rw [if_neg (fun e => hj e.symm)]
    refine ⟨2, 2, 1, 0, R, ⟨by omega, by omega, by show 0 + 40 ≤ dd.n; omega, by show dd.n ≤ 4096; omega, by show 0 + 1 ≤ _; omega, fun i _ => ?_, ?_, ?_, fun i hi => ?_⟩, .inr ⟨rfl, .inl ⟨?_, ?_⟩⟩⟩
    · rw [hrd, hk]
      by_cases e : ((0 + i : Nat) : Int) = 0
      · rw [e]
        show (pad (turnB 2 2)).length ≤ 128
        unfold turnB; exact pad_seal_len _
      · rw [hl0 _ e]; exact hlen _
    · rw [hrd, hk]
      show TellCase (pad (turnB 2 2)) 2 2
      exact tell_turn (by omega) (by omega)
    · rw [hrd, hk, hl0 _ (by omega)]; exact hs0
    · rw [hrd, hk, hl0 _ (by omega)]; exact hat i hi
    · show (opX R 40 (opT 2 1) (opB 2 2 1 0)).recs = []
      rw [show opT 2 1 = 2 from rfl, show opB 2 2 1 0 = 2 from rfl, hx]
    · rfl
end Go.Proofs
