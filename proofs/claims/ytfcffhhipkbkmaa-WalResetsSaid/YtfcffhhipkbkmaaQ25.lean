import Derived.Test.YtfcffhhipkbkmaaQ24

/-
  Logs that are not there; a log without a disk.
-/

namespace Go.Proofs
open Go.PW
theorem z00 : ((0 : Int) == 0) = true := rfl
theorem z13 : ((13 : Int) != 0) = true := rfl
def nilP : PV := .c (.d (.lit (.pointer none)))
def zeroLg : List CV := [.d (.lit (.pointer none)), .d (.lit (.int .i64 0)), .d (.lit (.int .i64 0)), .d (.lit (.int .i64 0)), .d (.lit (.int .i64 0)), .d (.lit (.int .i64 0)), .full [], .d (.lit (.bool false))]
section wal
variable {H : HMap} {A : AMap} {lid : Nat}
set_option maxRecDepth 8000 in
set_option maxHeartbeats 8000000 in
theorem Try.kStateN (off : Nat) (hw : Wf H A) : EffOK Try.prog 35 off H A [nilP] (pD (.lit (.int .i64 13))) H A := by
  refine effr_ok (E := envOf Try.prog [] off [] []) (envOf_ok Try.mixed) Try.func35 rfl Try.call35 (by kernel_rfl) (by exact Nat.le_of_ble_eq_true rfl) (fun hab => ?_)
  unfold nilP
  repeat' (first
    | with_reducible refine VC_seq fun K hK => ?_
    | with_reducible refine W_region ?_
    | with_reducible refine VC_block ?_
    | with_reducible refine VC_scope ?_
    | with_reducible refine VC_if ?_
    | with_reducible refine VC_skip ?_
    | with_reducible refine VC_exit ?_
    | with_reducible refine VC_ret ?_
    | (with_reducible refine G_not (fun h => ?_) (fun h => ?_) <;> (try simp only [h]))
    | (with_reducible refine G_cases (fun h => ?_) (fun h => ?_) <;> (try simp only [h]))
    | (with_reducible refine hK _ ?_; clear hK K)
    | (clear hK K; with_reducible refine hK _ ?_; clear hK K)
    | (clear hK K; clear hK K; with_reducible refine hK _ ?_; clear hK K)
    | (clear hK K; clear hK K; clear hK K; with_reducible refine hK _ ?_; clear hK K)
    | (with_reducible refine todo ?_; simp +decide only [go_sem]))
  exact RetR_same rfl (by simp +decide only [go_sem]) True.intro hw kp_refl (fun _ _ => rfl)
set_option maxRecDepth 8000 in
set_option maxHeartbeats 8000000 in
theorem Try.kStateZ (off : Nat) (hw : Wf H A) (hz : H lid = some zeroLg) : EffOK Try.prog 35 off H A [.c (.ptr lid 0)] (pD (.lit (.int .i64 13))) H A := by
  refine effr_ok (E := envOf Try.prog [] off [] []) (envOf_ok Try.mixed) Try.func35 rfl Try.call35 (by kernel_rfl) (by exact Nat.le_of_ble_eq_true rfl) (fun hab => ?_)
  unfold zeroLg at hz
  repeat' (first
    | with_reducible refine VC_seq fun K hK => ?_
    | with_reducible refine W_region ?_
    | with_reducible refine VC_block ?_
    | with_reducible refine VC_scope ?_
    | with_reducible refine VC_if ?_
    | with_reducible refine VC_skip ?_
    | with_reducible refine VC_exit ?_
    | with_reducible refine VC_ret ?_
    | (with_reducible refine G_not (fun h => ?_) (fun h => ?_) <;> (try simp only [h]))
    | (with_reducible refine G_cases (fun h => ?_) (fun h => ?_) <;> (try simp only [h]))
    | (with_reducible refine hK _ ?_; clear hK K)
    | (clear hK K; with_reducible refine hK _ ?_; clear hK K)
    | (clear hK K; clear hK K; with_reducible refine hK _ ?_; clear hK K)
    | (clear hK K; clear hK K; clear hK K; with_reducible refine hK _ ?_; clear hK K)
    | (with_reducible refine todo ?_; simp +decide only [go_sem, hz]))
  exact RetR_same rfl (by simp +decide only [go_sem]) True.intro hw kp_refl (fun _ _ => rfl)
set_option maxRecDepth 8000 in
set_option maxHeartbeats 8000000 in
theorem Try.kAppendN (off : Nat) (s : List UInt8) (hw : Wf H A) : EffOK Try.prog 15 off H A [nilP, pD (dS s)] (pD (.lit (.int .i64 13))) H A := by
  refine effr_ok (E := envOf Try.prog [35] off [] []) (envOf_ok Try.mixed) Try.func15 rfl Try.call15 (by kernel_rfl) (by exact Nat.le_of_ble_eq_true rfl) (fun hab => ?_)
  have ks := Try.kStateN (A := A) (off + 1000) hw
  unfold nilP at ks
  unfold nilP
  repeat' (first
    | with_reducible refine VC_seq fun K hK => ?_
    | with_reducible refine W_region ?_
    | with_reducible refine VC_block ?_
    | with_reducible refine VC_scope ?_
    | with_reducible refine VC_if ?_
    | with_reducible refine VC_skip ?_
    | with_reducible refine VC_exit ?_
    | with_reducible refine VC_ret ?_
    | (with_reducible refine G_not (fun h => ?_) (fun h => ?_) <;> (try simp only [h]))
    | (with_reducible refine G_cases (fun h => ?_) (fun h => ?_) <;> (try simp only [h]))
    | refine C_call rfl ks rfl (Above_mono hab (by omega)) ?_
    | (with_reducible refine hK _ ?_; clear hK K)
    | (clear hK K; with_reducible refine hK _ ?_; clear hK K)
    | (clear hK K; clear hK K; with_reducible refine hK _ ?_; clear hK K)
    | (clear hK K; clear hK K; clear hK K; with_reducible refine hK _ ?_; clear hK K)
    | (with_reducible refine todo ?_; simp +decide only [go_sem, z13]))
  exact RetR_same rfl (by simp +decide only [go_sem]) True.intro hw kp_refl (fun _ _ => rfl)
set_option maxRecDepth 8000 in
set_option maxHeartbeats 8000000 in
theorem Try.kAppendZ (off : Nat) (s : List UInt8) (hw : Wf H A) (hz : H lid = some zeroLg) : EffOK Try.prog 15 off H A [.c (.ptr lid 0), pD (dS s)] (pD (.lit (.int .i64 13))) H A := by
  refine effr_ok (E := envOf Try.prog [35] off [] []) (envOf_ok Try.mixed) Try.func15 rfl Try.call15 (by kernel_rfl) (by exact Nat.le_of_ble_eq_true rfl) (fun hab => ?_)
  have ks := Try.kStateZ (A := A) (off + 1000) hw hz
  unfold zeroLg at hz
  repeat' (first
    | with_reducible refine VC_seq fun K hK => ?_
    | with_reducible refine W_region ?_
    | with_reducible refine VC_block ?_
    | with_reducible refine VC_scope ?_
    | with_reducible refine VC_if ?_
    | with_reducible refine VC_skip ?_
    | with_reducible refine VC_exit ?_
    | with_reducible refine VC_ret ?_
    | (with_reducible refine G_not (fun h => ?_) (fun h => ?_) <;> (try simp only [h]))
    | (with_reducible refine G_cases (fun h => ?_) (fun h => ?_) <;> (try simp only [h]))
    | refine C_call rfl ks rfl (Above_mono hab (by omega)) ?_
    | (with_reducible refine hK _ ?_; clear hK K)
    | (clear hK K; with_reducible refine hK _ ?_; clear hK K)
    | (clear hK K; clear hK K; with_reducible refine hK _ ?_; clear hK K)
    | (clear hK K; clear hK K; clear hK K; with_reducible refine hK _ ?_; clear hK K)
    | (with_reducible refine todo ?_; simp +decide only [go_sem, z13]))
  exact RetR_same rfl (by simp +decide only [go_sem]) True.intro hw kp_refl (fun _ _ => rfl)
set_option maxRecDepth 8000 in
set_option maxHeartbeats 8000000 in
theorem Try.kCommitN (off : Nat) (hw : Wf H A) : EffOK Try.prog 16 off H A [nilP] (pD (.lit (.int .i64 13))) H A := by
  refine effr_ok (E := envOf Try.prog [35] off [] []) (envOf_ok Try.mixed) Try.func16 rfl Try.call16 (by kernel_rfl) (by exact Nat.le_of_ble_eq_true rfl) (fun hab => ?_)
  have ks := Try.kStateN (A := A) (off + 1000) hw
  unfold nilP at ks
  unfold nilP
  repeat' (first
    | with_reducible refine VC_seq fun K hK => ?_
    | with_reducible refine W_region ?_
    | with_reducible refine VC_block ?_
    | with_reducible refine VC_scope ?_
    | with_reducible refine VC_if ?_
    | with_reducible refine VC_skip ?_
    | with_reducible refine VC_exit ?_
    | with_reducible refine VC_ret ?_
    | (with_reducible refine G_not (fun h => ?_) (fun h => ?_) <;> (try simp only [h]))
    | (with_reducible refine G_cases (fun h => ?_) (fun h => ?_) <;> (try simp only [h]))
    | refine C_call rfl ks rfl (Above_mono hab (by omega)) ?_
    | (with_reducible refine hK _ ?_; clear hK K)
    | (clear hK K; with_reducible refine hK _ ?_; clear hK K)
    | (clear hK K; clear hK K; with_reducible refine hK _ ?_; clear hK K)
    | (clear hK K; clear hK K; clear hK K; with_reducible refine hK _ ?_; clear hK K)
    | (with_reducible refine todo ?_; simp +decide only [go_sem, z13]))
  exact RetR_same rfl (by simp +decide only [go_sem]) True.intro hw kp_refl (fun _ _ => rfl)
set_option maxRecDepth 8000 in
set_option maxHeartbeats 8000000 in
theorem Try.kResetZ (off : Nat) (hw : Wf H A) (hz : H lid = some zeroLg) : EffOK Try.prog 17 off H A [.c (.ptr lid 0)] (pD (.lit (.int .i64 13))) H A := by
  refine effr_ok (E := envOf Try.prog [35] off [] []) (envOf_ok Try.mixed) Try.func17 rfl Try.call17 (by kernel_rfl) (by exact Nat.le_of_ble_eq_true rfl) (fun hab => ?_)
  have ks := Try.kStateZ (A := A) (off + 1000) hw hz
  unfold zeroLg at hz
  repeat' (first
    | with_reducible refine VC_seq fun K hK => ?_
    | with_reducible refine W_region ?_
    | with_reducible refine VC_block ?_
    | with_reducible refine VC_scope ?_
    | with_reducible refine VC_if ?_
    | with_reducible refine VC_skip ?_
    | with_reducible refine VC_exit ?_
    | with_reducible refine VC_ret ?_
    | (with_reducible refine G_not (fun h => ?_) (fun h => ?_) <;> (try simp only [h]))
    | (with_reducible refine G_cases (fun h => ?_) (fun h => ?_) <;> (try simp only [h]))
    | refine C_call rfl ks rfl (Above_mono hab (by omega)) ?_
    | (with_reducible refine hK _ ?_; clear hK K)
    | (clear hK K; with_reducible refine hK _ ?_; clear hK K)
    | (clear hK K; clear hK K; with_reducible refine hK _ ?_; clear hK K)
    | (clear hK K; clear hK K; clear hK K; with_reducible refine hK _ ?_; clear hK K)
    | (with_reducible refine todo ?_; simp +decide only [go_sem, z13]))
  exact RetR_same rfl (by simp +decide only [go_sem]) True.intro hw kp_refl (fun _ _ => rfl)
set_option maxRecDepth 8000 in
set_option maxHeartbeats 8000000 in
theorem Try.kGenN (off : Nat) (hw : Wf H A) : EffOK Try.prog 19 off H A [nilP] (pD (.lit (.int .i64 0))) H A := by
  refine effr_ok (E := envOf Try.prog [] off [] []) (envOf_ok Try.mixed) Try.func19 rfl Try.call19 (by kernel_rfl) (by exact Nat.le_of_ble_eq_true rfl) (fun hab => ?_)
  unfold nilP
  repeat' (first
    | with_reducible refine VC_seq fun K hK => ?_
    | with_reducible refine W_region ?_
    | with_reducible refine VC_block ?_
    | with_reducible refine VC_scope ?_
    | with_reducible refine VC_if ?_
    | with_reducible refine VC_skip ?_
    | with_reducible refine VC_exit ?_
    | with_reducible refine VC_ret ?_
    | (with_reducible refine G_not (fun h => ?_) (fun h => ?_) <;> (try simp only [h]))
    | (with_reducible refine G_cases (fun h => ?_) (fun h => ?_) <;> (try simp only [h]))
    | (with_reducible refine hK _ ?_; clear hK K)
    | (clear hK K; with_reducible refine hK _ ?_; clear hK K)
    | (clear hK K; clear hK K; with_reducible refine hK _ ?_; clear hK K)
    | (clear hK K; clear hK K; clear hK K; with_reducible refine hK _ ?_; clear hK K)
    | (with_reducible refine todo ?_; simp +decide only [go_sem]))
  exact RetR_same rfl (by simp +decide only [go_sem]) True.intro hw kp_refl (fun _ _ => rfl)
set_option maxRecDepth 8000 in
set_option maxHeartbeats 8000000 in
theorem Try.kUsedN (off : Nat) (hw : Wf H A) : EffOK Try.prog 20 off H A [nilP] (pD (.lit (.int .i64 0))) H A := by
  refine effr_ok (E := envOf Try.prog [] off [] []) (envOf_ok Try.mixed) Try.func20 rfl Try.call20 (by kernel_rfl) (by exact Nat.le_of_ble_eq_true rfl) (fun hab => ?_)
  unfold nilP
  repeat' (first
    | with_reducible refine VC_seq fun K hK => ?_
    | with_reducible refine W_region ?_
    | with_reducible refine VC_block ?_
    | with_reducible refine VC_scope ?_
    | with_reducible refine VC_if ?_
    | with_reducible refine VC_skip ?_
    | with_reducible refine VC_exit ?_
    | with_reducible refine VC_ret ?_
    | (with_reducible refine G_not (fun h => ?_) (fun h => ?_) <;> (try simp only [h]))
    | (with_reducible refine G_cases (fun h => ?_) (fun h => ?_) <;> (try simp only [h]))
    | (with_reducible refine hK _ ?_; clear hK K)
    | (clear hK K; with_reducible refine hK _ ?_; clear hK K)
    | (clear hK K; clear hK K; with_reducible refine hK _ ?_; clear hK K)
    | (clear hK K; clear hK K; clear hK K; with_reducible refine hK _ ?_; clear hK K)
    | (with_reducible refine todo ?_; simp +decide only [go_sem]))
  exact RetR_same rfl (by simp +decide only [go_sem]) True.intro hw kp_refl (fun _ _ => rfl)
set_option maxRecDepth 8000 in
set_option maxHeartbeats 8000000 in
theorem Try.kFitsN (off : Nat) (hw : Wf H A) : EffOK Try.prog 21 off H A [nilP, pD (.lit (.int .i64 0))] (pD (.lit (.bool false))) H A := by
  refine effr_ok (E := envOf Try.prog [] off [] []) (envOf_ok Try.mixed) Try.func21 rfl Try.call21 (by kernel_rfl) (by exact Nat.le_of_ble_eq_true rfl) (fun hab => ?_)
  unfold nilP
  repeat' (first
    | with_reducible refine VC_seq fun K hK => ?_
    | with_reducible refine W_region ?_
    | with_reducible refine VC_block ?_
    | with_reducible refine VC_scope ?_
    | with_reducible refine VC_if ?_
    | with_reducible refine VC_skip ?_
    | with_reducible refine VC_exit ?_
    | with_reducible refine VC_ret ?_
    | (with_reducible refine G_not (fun h => ?_) (fun h => ?_) <;> (try simp only [h]))
    | (with_reducible refine G_cases (fun h => ?_) (fun h => ?_) <;> (try simp only [h]))
    | (with_reducible refine hK _ ?_; clear hK K)
    | (clear hK K; with_reducible refine hK _ ?_; clear hK K)
    | (clear hK K; clear hK K; with_reducible refine hK _ ?_; clear hK K)
    | (clear hK K; clear hK K; clear hK K; with_reducible refine hK _ ?_; clear hK K)
    | (with_reducible refine todo ?_; simp +decide only [go_sem]))
  exact RetR_same rfl (by simp +decide only [go_sem]) True.intro hw kp_refl (fun _ _ => rfl)
set_option maxRecDepth 8000 in
set_option maxHeartbeats 8000000 in
theorem Try.kFitsZ (off : Nat) (hw : Wf H A) (hz : H lid = some zeroLg) : EffOK Try.prog 21 off H A [.c (.ptr lid 0), pD (.lit (.int .i64 0))] (pD (.lit (.bool false))) H A := by
  refine effr_ok (E := envOf Try.prog [] off [] []) (envOf_ok Try.mixed) Try.func21 rfl Try.call21 (by kernel_rfl) (by exact Nat.le_of_ble_eq_true rfl) (fun hab => ?_)
  unfold zeroLg at hz
  repeat' (first
    | with_reducible refine VC_seq fun K hK => ?_
    | with_reducible refine W_region ?_
    | with_reducible refine VC_block ?_
    | with_reducible refine VC_scope ?_
    | with_reducible refine VC_if ?_
    | with_reducible refine VC_skip ?_
    | with_reducible refine VC_exit ?_
    | with_reducible refine VC_ret ?_
    | (with_reducible refine G_not (fun h => ?_) (fun h => ?_) <;> (try simp only [h]))
    | (with_reducible refine G_cases (fun h => ?_) (fun h => ?_) <;> (try simp only [h]))
    | (with_reducible refine hK _ ?_; clear hK K)
    | (clear hK K; with_reducible refine hK _ ?_; clear hK K)
    | (clear hK K; clear hK K; with_reducible refine hK _ ?_; clear hK K)
    | (clear hK K; clear hK K; clear hK K; with_reducible refine hK _ ?_; clear hK K)
    | (with_reducible refine todo ?_; simp +decide only [go_sem, hz]))
  exact RetR_same rfl (by simp +decide only [go_sem]) True.intro hw kp_refl (fun _ _ => rfl)
set_option maxRecDepth 8000 in
set_option maxHeartbeats 8000000 in
theorem Try.kRecordsN (off : Nat) (hw : Wf H A) : EffOK Try.prog 18 off H A [nilP] (.c (.d (.sl []))) H A := by
  refine effr_ok (E := envOf Try.prog [] off [] []) (envOf_ok Try.mixed) Try.func18 rfl Try.call18 (by kernel_rfl) (by exact Nat.le_of_ble_eq_true rfl) (fun hab => ?_)
  unfold nilP
  repeat' (first
    | with_reducible refine VC_seq fun K hK => ?_
    | with_reducible refine W_region ?_
    | with_reducible refine VC_block ?_
    | with_reducible refine VC_scope ?_
    | with_reducible refine VC_if ?_
    | with_reducible refine VC_skip ?_
    | with_reducible refine VC_exit ?_
    | with_reducible refine VC_ret ?_
    | (with_reducible refine G_not (fun h => ?_) (fun h => ?_) <;> (try simp only [h]))
    | (with_reducible refine G_cases (fun h => ?_) (fun h => ?_) <;> (try simp only [h]))
    | (with_reducible refine hK _ ?_; clear hK K)
    | (clear hK K; with_reducible refine hK _ ?_; clear hK K)
    | (clear hK K; clear hK K; with_reducible refine hK _ ?_; clear hK K)
    | (clear hK K; clear hK K; clear hK K; with_reducible refine hK _ ?_; clear hK K)
    | (with_reducible refine todo ?_; simp +decide only [go_sem]))
  exact RetR_same rfl (by simp +decide only [go_sem]) True.intro hw kp_refl (fun _ _ => rfl)
set_option maxRecDepth 8000 in
set_option maxHeartbeats 8000000 in
theorem Try.kRecordsZ (off : Nat) (hw : Wf H A) (hz : H lid = some zeroLg) : EffOK Try.prog 18 off H A [.c (.ptr lid 0)] (.c (.d (.sl []))) H A := by
  refine effr_ok (E := envOf Try.prog [] off [] []) (envOf_ok Try.mixed) Try.func18 rfl Try.call18 (by kernel_rfl) (by exact Nat.le_of_ble_eq_true rfl) (fun hab => ?_)
  unfold zeroLg at hz
  repeat' (first
    | with_reducible refine VC_seq fun K hK => ?_
    | with_reducible refine W_region ?_
    | with_reducible refine VC_block ?_
    | with_reducible refine VC_scope ?_
    | with_reducible refine VC_if ?_
    | with_reducible refine VC_skip ?_
    | with_reducible refine VC_exit ?_
    | with_reducible refine VC_ret ?_
    | (with_reducible refine G_not (fun h => ?_) (fun h => ?_) <;> (try simp only [h]))
    | (with_reducible refine G_cases (fun h => ?_) (fun h => ?_) <;> (try simp only [h]))
    | refine W_full Try.appT rfl rfl szNil szNil (by simp) ((hab _ (Nat.le_add_right _ _)).2 _) ?_
    | (with_reducible refine hK _ ?_; clear hK K)
    | (clear hK K; with_reducible refine hK _ ?_; clear hK K)
    | (clear hK K; clear hK K; with_reducible refine hK _ ?_; clear hK K)
    | (clear hK K; clear hK K; clear hK K; with_reducible refine hK _ ?_; clear hK K)
    | (with_reducible refine todo ?_; simp +decide only [go_sem, hz]))
  refine RetR_same rfl (by simp +decide only [go_sem]) True.intro hw kp_refl (fun κ hκ => ?_)
  show upd _ _ _ κ = _
  rw [upd_other _ _ (fun e => hκ (by rw [e]; exact (hab _ (Nat.le_add_right _ _)).2 _))]
set_option maxRecDepth 8000 in
set_option maxHeartbeats 8000000 in
theorem Try.kLenN (off : Nat) (hw : Wf H A) : EffOK Try.prog 31 off H A [nilP] (pD (.lit (.int .i64 0))) H A := by
  refine effr_ok (E := envOf Try.prog [] off [] []) (envOf_ok Try.mixed) Try.func31 rfl Try.call31 (by kernel_rfl) (by exact Nat.le_of_ble_eq_true rfl) (fun hab => ?_)
  unfold nilP
  repeat' (first
    | with_reducible refine VC_seq fun K hK => ?_
    | with_reducible refine W_region ?_
    | with_reducible refine VC_block ?_
    | with_reducible refine VC_scope ?_
    | with_reducible refine VC_if ?_
    | with_reducible refine VC_skip ?_
    | with_reducible refine VC_exit ?_
    | with_reducible refine VC_ret ?_
    | (with_reducible refine G_not (fun h => ?_) (fun h => ?_) <;> (try simp only [h]))
    | (with_reducible refine G_cases (fun h => ?_) (fun h => ?_) <;> (try simp only [h]))
    | (with_reducible refine hK _ ?_; clear hK K)
    | (clear hK K; with_reducible refine hK _ ?_; clear hK K)
    | (clear hK K; clear hK K; with_reducible refine hK _ ?_; clear hK K)
    | (clear hK K; clear hK K; clear hK K; with_reducible refine hK _ ?_; clear hK K)
    | (with_reducible refine todo ?_; simp +decide only [go_sem]))
  exact RetR_same rfl (by simp +decide only [go_sem]) True.intro hw kp_refl (fun _ _ => rfl)
set_option maxRecDepth 8000 in
set_option maxHeartbeats 8000000 in
theorem Try.kOpenN (off : Nat) (hw : Wf H A) : EffOK Try.prog 14 off H A [nilP, pD (.lit (.int .i64 0)), pD (.lit (.int .i64 10))] (.tup [.c (.d (.lit (.pointer none))), .c (.d (.lit (.int .i64 1)))]) H A := by
  refine effr_ok (E := envOf Try.prog [31, 32, 33, 34] off [] []) (envOf_ok Try.mixed) Try.func14 rfl Try.call14 (by kernel_rfl) (by exact Nat.le_of_ble_eq_true rfl) (fun hab => ?_)
  have kl := Try.kLenN (A := A) (off + 1000) hw
  unfold nilP at *
  repeat' (first
    | with_reducible refine VC_seq fun K hK => ?_
    | with_reducible refine W_region ?_
    | with_reducible refine VC_block ?_
    | with_reducible refine VC_scope ?_
    | with_reducible refine VC_if ?_
    | with_reducible refine VC_skip ?_
    | with_reducible refine VC_exit ?_
    | with_reducible refine VC_ret ?_
    | (with_reducible refine G_not (fun h => ?_) (fun h => ?_) <;> (try simp only [h]))
    | (with_reducible refine G_cases (fun h => ?_) (fun h => ?_) <;> (try simp only [h]))
    | refine C_call rfl kl rfl (Above_mono hab (by omega)) ?_
    | (with_reducible refine hK _ ?_; clear hK K)
    | (clear hK K; with_reducible refine hK _ ?_; clear hK K)
    | (clear hK K; clear hK K; with_reducible refine hK _ ?_; clear hK K)
    | (clear hK K; clear hK K; clear hK K; with_reducible refine hK _ ?_; clear hK K)
    | (with_reducible refine todo ?_; simp +decide only [go_sem, z00]))
  exact RetR_same rfl wk_pair oks_pair hw kp_refl (fun _ _ => rfl)
end wal
end Go.Proofs

/-
  The log: what is found when it is opened (plain).
-/

namespace Go.Proofs
open Go.PW
/-- What a place has. -/
structure Pc where
  t : Nat
  sm : List UInt8
  pt : List UInt8
  more : Bool
def AtOK (s : List UInt8) (i : Nat) : Option Pc → Prop
  | none => unsealB s = some [] ∨ unsealB s = none
  | some p => unsealB s = some (headL p.t i (if p.more = true then 1 else 0) ++ (p.sm ++ p.pt)) ∧ p.t ≤ 1099511627776 ∧ p.sm.length = 4 ∧ p.pt.length ≤ 100 ∧ (p.more = true → p.pt.length = 100)
def atV : Option Pc → PV
  | none => pieceV 0 [] [] false false
  | some p => pieceV p.t p.sm p.pt p.more true
/-- How far the search has come. -/
structure Sc where
  s : List UInt8
  want : List UInt8
  first : Nat
  now : Nat
  recs : List (List UInt8)
  used : Nat
/-- A place is looked at: none: no further. -/
def scStep (turn i : Nat) (x : Sc) (p : Pc) : Option Sc :=
  if p.t < x.now ∨ turn < p.t then none
  else if i ≠ x.first ∧ (p.t ≠ x.now ∨ p.sm ≠ x.want ∨ p.pt = []) then none
  else if p.more = true then some { x with s := x.s ++ p.pt, want := p.sm, now := p.t }
  else if sum4 (x.s ++ p.pt) ≠ p.sm then none
  else some ⟨[], p.sm, i + 1, p.t, x.recs ++ [x.s ++ p.pt], i + 1⟩
def scanK (pl : Nat → Option Pc) (turn : Nat) : Nat → Nat → Sc → Sc
  | 0, _, x => x
  | k + 1, i, x => match pl i with
    | none => x
    | some p => match scStep turn i x p with
      | none => x
      | some x' => scanK pl turn k (i + 1) x'
section wal
variable {H : HMap} {A : AMap} {lid did : Nat} {κm κc κr : Tok} {d : Dk} {l : Lg}
/-- What a place has, be it written or not. -/
theorem Try.kAt (off : Nat) (hw : Wf H A) (hl : LgAt H A lid did κr l) (hd : DkAt H A did κm κc d) (hcl : d.cache.length ≤ 1000000) (i : Nat) (hin : l.from_ + 2 + i < d.n) (hdn : d.n ≤ 4096) (hs : (rd d ((l.from_ + 2 + i : Nat) : Int)).length ≤ 128)
    (o : Option Pc) (hc : AtOK (rd d ((l.from_ + 2 + i : Nat) : Int)) i o) : EffOK Try.prog 51 off H A [.c (.ptr lid 0), pD (.lit (.int .i64 i))] (atV o) H A := by
  cases o with
  | none => exact Try.kAtE off hw hl hd hcl i hin hdn hs hc
  | some p =>
    obtain ⟨h1, h2, h3, h4, h5⟩ := hc
    exact Try.kAtP off hw hl hd hcl i hin hdn hs p.t p.sm p.pt p.more h2 h3 h4 h5 h1
end wal
end Go.Proofs
