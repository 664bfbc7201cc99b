import Derived.Test.YthkngcankpnhlaaQ34

/-
  Pagers that are not there; a pager without a disk (written by pn.py).
-/

namespace Go.Proofs
open Go.PW
theorem z13 : ((13 : Int) != 0) = true := rfl
theorem z131 : ((13 : Int) == 0) = false := rfl
def zeroPg : List CV := [.d (.lit (.pointer none)), .d (.lit (.pointer none)), .d (.lit (.int .i64 0)), .d (.lit (.map none)), .d (.lit (.bool false))]
section pg
variable {H : HMap} {A : AMap} {z : Nat}
set_option maxRecDepth 8000 in
set_option maxHeartbeats 8000000 in
theorem Try.nThereN (off : Nat) (hw : Wf H A) : EffOK Try.prog 33 off H A [.c (.d (.lit (.pointer none)))] (pD (.lit (.bool false))) H A := by
  refine effr_ok (E := envOf Try.prog [] off [] []) (envOf_ok Try.mixed) Try.func33 rfl Try.call33 (by kernel_rfl) (by exact Nat.le_of_ble_eq_true rfl) (fun hab => ?_)
  repeat' (first
   | with_reducible first | refine VC_seq fun K hK => ?_ | refine W_region ?_ | refine VC_block ?_ | refine VC_scope ?_ | refine VC_if ?_ | refine VC_skip ?_ | refine VC_exit ?_ | refine VC_ret ?_
   | (with_reducible first | refine G_not (fun h => ?_) (fun h => ?_) | refine G_cases (fun h => ?_) (fun h => ?_)) <;> (try simp only [h])
   | with_reducible first | (refine hK _ ?_; clear hK K) | (clear hK K; refine hK _ ?_; clear hK K) | (clear hK K; clear hK K; refine hK _ ?_; clear hK K) | (clear hK K; clear hK K; clear hK K; refine hK _ ?_; clear hK K)
   | (with_reducible refine todo ?_; simp +decide only [go_sem]))
  exact RetR_same rfl (by simp +decide only [go_sem]) True.intro hw kp_refl (fun _ _ => rfl)
set_option maxRecDepth 8000 in
set_option maxHeartbeats 8000000 in
theorem Try.nLenN (off : Nat) (hw : Wf H A) : EffOK Try.prog 22 off H A [.c (.d (.lit (.pointer none)))] (pD (.lit (.int .i64 0))) H A := by
  refine effr_ok (E := envOf Try.prog [33] off [] []) (envOf_ok Try.mixed) Try.func22 rfl Try.call22 (by kernel_rfl) (by exact Nat.le_of_ble_eq_true rfl) (fun hab => ?_)
  have kt := Try.nThereN (A := A) (off + 1000) hw
  repeat' (first
   | with_reducible first | refine VC_seq fun K hK => ?_ | refine W_region ?_ | refine VC_block ?_ | refine VC_scope ?_ | refine VC_if ?_ | refine VC_skip ?_ | refine VC_exit ?_ | refine VC_ret ?_
   | (with_reducible first | refine G_not (fun h => ?_) (fun h => ?_) | refine G_cases (fun h => ?_) (fun h => ?_)) <;> (try simp only [h])
   | refine C_call rfl kt rfl (Above_mono hab (by omega)) ?_
   | with_reducible first | (refine hK _ ?_; clear hK K) | (clear hK K; refine hK _ ?_; clear hK K) | (clear hK K; clear hK K; refine hK _ ?_; clear hK K) | (clear hK K; clear hK K; clear hK K; refine hK _ ?_; clear hK K)
   | (with_reducible refine todo ?_; simp +decide only [go_sem]))
  exact RetR_same rfl (by simp +decide only [go_sem]) True.intro hw kp_refl (fun _ _ => rfl)
set_option maxRecDepth 8000 in
set_option maxHeartbeats 8000000 in
theorem Try.nRightN (off : Nat) (hw : Wf H A) (n : Int) : EffOK Try.prog 36 off H A [.c (.d (.lit (.pointer none))), pD (.lit (.int .i64 n))] (pD (.lit (.int .i64 13))) H A := by
  refine effr_ok (E := envOf Try.prog [33, 22] off [] []) (envOf_ok Try.mixed) Try.func36 rfl Try.call36 (by kernel_rfl) (by exact Nat.le_of_ble_eq_true rfl) (fun hab => ?_)
  have kt := Try.nThereN (A := A) (off + 1000) hw
  repeat' (first
   | with_reducible first | refine VC_seq fun K hK => ?_ | refine W_region ?_ | refine VC_block ?_ | refine VC_scope ?_ | refine VC_if ?_ | refine VC_skip ?_ | refine VC_exit ?_ | refine VC_ret ?_
   | (with_reducible first | refine G_not (fun h => ?_) (fun h => ?_) | refine G_cases (fun h => ?_) (fun h => ?_)) <;> (try simp only [h])
   | refine C_call rfl kt rfl (Above_mono hab (by omega)) ?_
   | with_reducible first | (refine hK _ ?_; clear hK K) | (clear hK K; refine hK _ ?_; clear hK K) | (clear hK K; clear hK K; refine hK _ ?_; clear hK K) | (clear hK K; clear hK K; clear hK K; refine hK _ ?_; clear hK K)
   | (with_reducible refine todo ?_; simp +decide only [go_sem]))
  exact RetR_same rfl (by simp +decide only [go_sem]) True.intro hw kp_refl (fun _ _ => rfl)
set_option maxRecDepth 8000 in
set_option maxHeartbeats 8000000 in
theorem Try.nReadN (off : Nat) (hw : Wf H A) (n : Int) : EffOK Try.prog 12 off H A [.c (.d (.lit (.pointer none))), pD (.lit (.int .i64 n))] (.tup [.c (.d (dS [])), .c (.d (.lit (.int .i64 13)))]) H A := by
  refine effr_ok (E := envOf Try.prog [36] off [] []) (envOf_ok Try.mixed) Try.func12 rfl Try.call12 (by kernel_rfl) (by exact Nat.le_of_ble_eq_true rfl) (fun hab => ?_)
  have kr := Try.nRightN (off + 1000) hw n
  repeat' (first
   | with_reducible first | refine VC_seq fun K hK => ?_ | refine W_region ?_ | refine VC_block ?_ | refine VC_scope ?_ | refine VC_if ?_ | refine VC_skip ?_ | refine VC_exit ?_ | refine VC_ret ?_
   | (with_reducible first | refine G_not (fun h => ?_) (fun h => ?_) | refine G_cases (fun h => ?_) (fun h => ?_)) <;> (try simp only [h])
   | refine C_call rfl kr rfl (Above_mono hab (by omega)) ?_
   | with_reducible first | (refine hK _ ?_; clear hK K) | (clear hK K; refine hK _ ?_; clear hK K) | (clear hK K; clear hK K; refine hK _ ?_; clear hK K) | (clear hK K; clear hK K; clear hK K; refine hK _ ?_; clear hK K)
   | (with_reducible refine todo ?_; simp +decide only [go_sem, z13]))
  exact RetR_same rfl wk_pair oks_pair hw kp_refl (fun _ _ => rfl)
set_option maxRecDepth 8000 in
set_option maxHeartbeats 8000000 in
theorem Try.nWriteN (off : Nat) (hw : Wf H A) (n : Int) (s : List UInt8) : EffOK Try.prog 14 off H A [.c (.d (.lit (.pointer none))), pD (.lit (.int .i64 n)), pD (dS s)] (pD (.lit (.int .i64 13))) H A := by
  refine effr_ok (E := envOf Try.prog [36] off [] []) (envOf_ok Try.mixed) Try.func14 rfl Try.call14 (by kernel_rfl) (by exact Nat.le_of_ble_eq_true rfl) (fun hab => ?_)
  have kr := Try.nRightN (off + 1000) hw n
  repeat' (first
   | with_reducible first | refine VC_seq fun K hK => ?_ | refine W_region ?_ | refine VC_block ?_ | refine VC_scope ?_ | refine VC_if ?_ | refine VC_skip ?_ | refine VC_exit ?_ | refine VC_ret ?_
   | (with_reducible first | refine G_not (fun h => ?_) (fun h => ?_) | refine G_cases (fun h => ?_) (fun h => ?_)) <;> (try simp only [h])
   | refine C_call rfl kr rfl (Above_mono hab (by omega)) ?_
   | with_reducible first | (refine hK _ ?_; clear hK K) | (clear hK K; refine hK _ ?_; clear hK K) | (clear hK K; clear hK K; refine hK _ ?_; clear hK K) | (clear hK K; clear hK K; clear hK K; refine hK _ ?_; clear hK K)
   | (with_reducible refine todo ?_; simp +decide only [go_sem, z13]))
  exact RetR_same rfl (by simp +decide only [go_sem]) True.intro hw kp_refl (fun _ _ => rfl)
set_option maxRecDepth 8000 in
set_option maxHeartbeats 8000000 in
theorem Try.nDirtyN (off : Nat) (hw : Wf H A) : EffOK Try.prog 21 off H A [.c (.d (.lit (.pointer none)))] (.c (.d (.sl []))) H A := by
  refine effr_ok (E := envOf Try.prog [33] off [] []) (envOf_ok Try.mixed) Try.func21 rfl Try.call21 (by kernel_rfl) (by exact Nat.le_of_ble_eq_true rfl) (fun hab => ?_)
  have kt := Try.nThereN (A := A) (off + 1000) hw
  repeat' (first
   | with_reducible first | refine VC_seq fun K hK => ?_ | refine W_region ?_ | refine VC_block ?_ | refine VC_scope ?_ | refine VC_if ?_ | refine VC_skip ?_ | refine VC_exit ?_ | refine VC_ret ?_
   | (with_reducible first | refine G_not (fun h => ?_) (fun h => ?_) | refine G_cases (fun h => ?_) (fun h => ?_)) <;> (try simp only [h])
   | refine C_call rfl kt rfl (Above_mono hab (by omega)) ?_
   | with_reducible first | (refine hK _ ?_; clear hK K) | (clear hK K; refine hK _ ?_; clear hK K) | (clear hK K; clear hK K; refine hK _ ?_; clear hK K) | (clear hK K; clear hK K; clear hK K; refine hK _ ?_; clear hK K)
   | (with_reducible refine todo ?_; simp +decide only [go_sem]))
  exact RetR_same rfl (by simp +decide only [go_sem]) True.intro hw kp_refl (fun _ _ => rfl)
set_option maxRecDepth 8000 in
set_option maxHeartbeats 8000000 in
theorem Try.nAbortN (off : Nat) (hw : Wf H A) : EffOK Try.prog 19 off H A [.c (.d (.lit (.pointer none)))] (.c .any) H A := by
  refine effr_ok (E := envOf Try.prog [33] off [] []) (envOf_ok Try.mixed) Try.func19 rfl Try.call19 (by kernel_rfl) (by exact Nat.le_of_ble_eq_true rfl) (fun hab => ?_)
  have kt := Try.nThereN (A := A) (off + 1000) hw
  repeat' (first
   | with_reducible first | refine VC_seq fun K hK => ?_ | refine W_region ?_ | refine VC_block ?_ | refine VC_scope ?_ | refine VC_if ?_ | refine VC_skip ?_ | refine VC_exit ?_ | refine VC_ret ?_
   | (with_reducible first | refine G_not (fun h => ?_) (fun h => ?_) | refine G_cases (fun h => ?_) (fun h => ?_)) <;> (try simp only [h])
   | refine C_call rfl kt rfl (Above_mono hab (by omega)) ?_
   | with_reducible first | (refine hK _ ?_; clear hK K) | (clear hK K; refine hK _ ?_; clear hK K) | (clear hK K; clear hK K; refine hK _ ?_; clear hK K) | (clear hK K; clear hK K; clear hK K; refine hK _ ?_; clear hK K)
   | (with_reducible refine todo ?_; simp +decide only [go_sem]))
  exact RetR_same rfl True.intro True.intro hw kp_refl (fun _ _ => rfl)
set_option maxRecDepth 8000 in
set_option maxHeartbeats 8000000 in
theorem Try.nIsFreeN (off : Nat) (hw : Wf H A) (n : Int) : EffOK Try.prog 16 off H A [.c (.d (.lit (.pointer none))), pD (.lit (.int .i64 n))] (pD (.lit (.bool false))) H A := by
  refine effr_ok (E := envOf Try.prog [36] off [] []) (envOf_ok Try.mixed) Try.func16 rfl Try.call16 (by kernel_rfl) (by exact Nat.le_of_ble_eq_true rfl) (fun hab => ?_)
  have kr := Try.nRightN (off + 1000) hw n
  by_cases h0 : n = 0
  · subst h0
    repeat' (first
     | with_reducible first | refine VC_seq fun K hK => ?_ | refine W_region ?_ | refine VC_block ?_ | refine VC_scope ?_ | refine VC_if ?_ | refine VC_skip ?_ | refine VC_exit ?_ | refine VC_ret ?_
     | (with_reducible first | refine G_not (fun h => ?_) (fun h => ?_) | refine G_cases (fun h => ?_) (fun h => ?_)) <;> (try simp only [h])
     | with_reducible first | (refine hK _ ?_; clear hK K) | (clear hK K; refine hK _ ?_; clear hK K) | (clear hK K; clear hK K; refine hK _ ?_; clear hK K) | (clear hK K; clear hK K; clear hK K; refine hK _ ?_; clear hK K)
     | (with_reducible refine todo ?_; simp +decide only [go_sem]))
    exact RetR_same rfl (by simp +decide only [go_sem]) True.intro hw kp_refl (fun _ _ => rfl)
  · have z : (n == 0) = false := by simpa using h0
    repeat' (first
     | with_reducible first | refine VC_seq fun K hK => ?_ | refine W_region ?_ | refine VC_block ?_ | refine VC_scope ?_ | refine VC_if ?_ | refine VC_skip ?_ | refine VC_exit ?_ | refine VC_ret ?_
     | (with_reducible first | refine G_not (fun h => ?_) (fun h => ?_) | refine G_cases (fun h => ?_) (fun h => ?_)) <;> (try simp only [h])
     | refine C_call rfl kr rfl (Above_mono hab (by omega)) ?_
     | with_reducible first | (refine hK _ ?_; clear hK K) | (clear hK K; refine hK _ ?_; clear hK K) | (clear hK K; clear hK K; refine hK _ ?_; clear hK K) | (clear hK K; clear hK K; clear hK K; refine hK _ ?_; clear hK K)
     | (with_reducible refine todo ?_; simp +decide only [go_sem, z, z13]))
    exact RetR_same rfl (by simp +decide only [go_sem]) True.intro hw kp_refl (fun _ _ => rfl)
set_option maxRecDepth 8000 in
set_option maxHeartbeats 8000000 in
theorem Try.nCommitN (off : Nat) (hw : Wf H A) : EffOK Try.prog 20 off H A [.c (.d (.lit (.pointer none)))] (pD (.lit (.int .i64 13))) H A := by
  refine effr_ok (E := envOf Try.prog [33, 7000000 + 41, 19, 5000000 + 43, 6000000 + 78] off [] []) (envOf_ok Try.mixed) Try.func20 rfl Try.call20 (by kernel_rfl) (by exact Nat.le_of_ble_eq_true rfl) (fun hab => ?_)
  have n1 : H (off + 1) = none := (hab _ (by omega)).1
  have hw1 : Wf (upd H (off + 1) (some [.d (.lit (.pointer none))])) A := Wf_set hw (fun x hx => by rw [List.mem_singleton.1 hx]; exact True.intro) (fun _ h => h)
  have ab1 : Above (off + 1000) (upd H (off + 1) (some [.d (.lit (.pointer none))])) A := Above_updH (Above_mono hab (by omega)) (by omega)
  have kt := Try.nThereN (off + 1000) hw1
  repeat' (first
   | with_reducible first | refine VC_seq fun K hK => ?_ | refine W_region ?_ | refine VC_block ?_ | refine VC_scope ?_ | refine VC_if ?_ | refine VC_skip ?_ | refine VC_exit ?_ | refine VC_ret ?_
   | (with_reducible first | refine G_not (fun h => ?_) (fun h => ?_) | refine G_cases (fun h => ?_) (fun h => ?_)) <;> (try simp only [h])
   | refine And.intro n1 ?_
   | refine C_call rfl kt rfl ab1 ?_
   | with_reducible first | (refine hK _ ?_; clear hK K) | (clear hK K; refine hK _ ?_; clear hK K) | (clear hK K; clear hK K; refine hK _ ?_; clear hK K) | (clear hK K; clear hK K; clear hK K; refine hK _ ?_; clear hK K)
   | (with_reducible refine todo ?_; simp +decide only [go_sem]))
  exact RetR_sub rfl (wk_c (.inr (.inl ⟨rfl, True.intro⟩))) True.intro hw (fun j hj => upd_other _ _ fun e => hj (by rw [e]; exact n1)) (fun _ _ => rfl) (fun _ h => h) (fun _ h => h)
set_option maxRecDepth 8000 in
set_option maxHeartbeats 8000000 in
theorem Try.nThereZ (off : Nat) (hw : Wf H A) (hz : H z = some zeroPg) : EffOK Try.prog 33 off H A [.c (.ptr z 0)] (pD (.lit (.bool false))) H A := by
  refine effr_ok (E := envOf Try.prog [] off [] []) (envOf_ok Try.mixed) Try.func33 rfl Try.call33 (by kernel_rfl) (by exact Nat.le_of_ble_eq_true rfl) (fun hab => ?_)
  unfold zeroPg at hz
  repeat' (first
   | with_reducible first | refine VC_seq fun K hK => ?_ | refine W_region ?_ | refine VC_block ?_ | refine VC_scope ?_ | refine VC_if ?_ | refine VC_skip ?_ | refine VC_exit ?_ | refine VC_ret ?_
   | (with_reducible first | refine G_not (fun h => ?_) (fun h => ?_) | refine G_cases (fun h => ?_) (fun h => ?_)) <;> (try simp only [h])
   | with_reducible first | (refine hK _ ?_; clear hK K) | (clear hK K; refine hK _ ?_; clear hK K) | (clear hK K; clear hK K; refine hK _ ?_; clear hK K) | (clear hK K; clear hK K; clear hK K; refine hK _ ?_; clear hK K)
   | (with_reducible refine todo ?_; simp +decide only [go_sem, hz]))
  exact RetR_same rfl (by simp +decide only [go_sem]) True.intro hw kp_refl (fun _ _ => rfl)
set_option maxRecDepth 8000 in
set_option maxHeartbeats 8000000 in
theorem Try.nLenZ (off : Nat) (hw : Wf H A) (hz : H z = some zeroPg) : EffOK Try.prog 22 off H A [.c (.ptr z 0)] (pD (.lit (.int .i64 0))) H A := by
  refine effr_ok (E := envOf Try.prog [33] off [] []) (envOf_ok Try.mixed) Try.func22 rfl Try.call22 (by kernel_rfl) (by exact Nat.le_of_ble_eq_true rfl) (fun hab => ?_)
  have kt := Try.nThereZ (off + 1000) hw hz
  repeat' (first
   | with_reducible first | refine VC_seq fun K hK => ?_ | refine W_region ?_ | refine VC_block ?_ | refine VC_scope ?_ | refine VC_if ?_ | refine VC_skip ?_ | refine VC_exit ?_ | refine VC_ret ?_
   | (with_reducible first | refine G_not (fun h => ?_) (fun h => ?_) | refine G_cases (fun h => ?_) (fun h => ?_)) <;> (try simp only [h])
   | refine C_call rfl kt rfl (Above_mono hab (by omega)) ?_
   | with_reducible first | (refine hK _ ?_; clear hK K) | (clear hK K; refine hK _ ?_; clear hK K) | (clear hK K; clear hK K; refine hK _ ?_; clear hK K) | (clear hK K; clear hK K; clear hK K; refine hK _ ?_; clear hK K)
   | (with_reducible refine todo ?_; simp +decide only [go_sem]))
  exact RetR_same rfl (by simp +decide only [go_sem]) True.intro hw kp_refl (fun _ _ => rfl)
set_option maxRecDepth 8000 in
set_option maxHeartbeats 8000000 in
theorem Try.nRightZ (off : Nat) (hw : Wf H A) (hz : H z = some zeroPg) (n : Int) : EffOK Try.prog 36 off H A [.c (.ptr z 0), pD (.lit (.int .i64 n))] (pD (.lit (.int .i64 13))) H A := by
  refine effr_ok (E := envOf Try.prog [33, 22] off [] []) (envOf_ok Try.mixed) Try.func36 rfl Try.call36 (by kernel_rfl) (by exact Nat.le_of_ble_eq_true rfl) (fun hab => ?_)
  have kt := Try.nThereZ (off + 1000) hw hz
  repeat' (first
   | with_reducible first | refine VC_seq fun K hK => ?_ | refine W_region ?_ | refine VC_block ?_ | refine VC_scope ?_ | refine VC_if ?_ | refine VC_skip ?_ | refine VC_exit ?_ | refine VC_ret ?_
   | (with_reducible first | refine G_not (fun h => ?_) (fun h => ?_) | refine G_cases (fun h => ?_) (fun h => ?_)) <;> (try simp only [h])
   | refine C_call rfl kt rfl (Above_mono hab (by omega)) ?_
   | with_reducible first | (refine hK _ ?_; clear hK K) | (clear hK K; refine hK _ ?_; clear hK K) | (clear hK K; clear hK K; refine hK _ ?_; clear hK K) | (clear hK K; clear hK K; clear hK K; refine hK _ ?_; clear hK K)
   | (with_reducible refine todo ?_; simp +decide only [go_sem]))
  exact RetR_same rfl (by simp +decide only [go_sem]) True.intro hw kp_refl (fun _ _ => rfl)
set_option maxRecDepth 8000 in
set_option maxHeartbeats 8000000 in
theorem Try.nAllocZ (off : Nat) (hw : Wf H A) (hz : H z = some zeroPg) : EffOK Try.prog 11 off H A [.c (.ptr z 0)] (.tup [.c (.d (.lit (.int .i64 0))), .c (.d (.lit (.int .i64 13)))]) H A := by
  refine effr_ok (E := envOf Try.prog [33] off [] []) (envOf_ok Try.mixed) Try.func11 rfl Try.call11 (by kernel_rfl) (by exact Nat.le_of_ble_eq_true rfl) (fun hab => ?_)
  have kt := Try.nThereZ (off + 1000) hw hz
  repeat' (first
   | with_reducible first | refine VC_seq fun K hK => ?_ | refine W_region ?_ | refine VC_block ?_ | refine VC_scope ?_ | refine VC_if ?_ | refine VC_skip ?_ | refine VC_exit ?_ | refine VC_ret ?_
   | (with_reducible first | refine G_not (fun h => ?_) (fun h => ?_) | refine G_cases (fun h => ?_) (fun h => ?_)) <;> (try simp only [h])
   | refine C_call rfl kt rfl (Above_mono hab (by omega)) ?_
   | with_reducible first | (refine hK _ ?_; clear hK K) | (clear hK K; refine hK _ ?_; clear hK K) | (clear hK K; clear hK K; refine hK _ ?_; clear hK K) | (clear hK K; clear hK K; clear hK K; refine hK _ ?_; clear hK K)
   | (with_reducible refine todo ?_; simp +decide only [go_sem]))
  exact RetR_same rfl wk_pair oks_pair hw kp_refl (fun _ _ => rfl)
set_option maxRecDepth 8000 in
set_option maxHeartbeats 8000000 in
theorem Try.nFreeZ (off : Nat) (hw : Wf H A) (hz : H z = some zeroPg) (n : Int) : EffOK Try.prog 15 off H A [.c (.ptr z 0), pD (.lit (.int .i64 n))] (pD (.lit (.int .i64 13))) H A := by
  refine effr_ok (E := envOf Try.prog [36] off [] []) (envOf_ok Try.mixed) Try.func15 rfl Try.call15 (by kernel_rfl) (by exact Nat.le_of_ble_eq_true rfl) (fun hab => ?_)
  have kr := Try.nRightZ (off + 1000) hw hz n
  repeat' (first
   | with_reducible first | refine VC_seq fun K hK => ?_ | refine W_region ?_ | refine VC_block ?_ | refine VC_scope ?_ | refine VC_if ?_ | refine VC_skip ?_ | refine VC_exit ?_ | refine VC_ret ?_
   | (with_reducible first | refine G_not (fun h => ?_) (fun h => ?_) | refine G_cases (fun h => ?_) (fun h => ?_)) <;> (try simp only [h])
   | refine C_call rfl kr rfl (Above_mono hab (by omega)) ?_
   | with_reducible first | (refine hK _ ?_; clear hK K) | (clear hK K; refine hK _ ?_; clear hK K) | (clear hK K; clear hK K; refine hK _ ?_; clear hK K) | (clear hK K; clear hK K; clear hK K; refine hK _ ?_; clear hK K)
   | (with_reducible refine todo ?_; simp +decide only [go_sem, z13]))
  exact RetR_same rfl (by simp +decide only [go_sem]) True.intro hw kp_refl (fun _ _ => rfl)
set_option maxRecDepth 8000 in
set_option maxHeartbeats 8000000 in
theorem Try.nAbortZ (off : Nat) (hw : Wf H A) (hz : H z = some zeroPg) : EffOK Try.prog 19 off H A [.c (.ptr z 0)] (.c .any) H A := by
  refine effr_ok (E := envOf Try.prog [33] off [] []) (envOf_ok Try.mixed) Try.func19 rfl Try.call19 (by kernel_rfl) (by exact Nat.le_of_ble_eq_true rfl) (fun hab => ?_)
  have kt := Try.nThereZ (off + 1000) hw hz
  repeat' (first
   | with_reducible first | refine VC_seq fun K hK => ?_ | refine W_region ?_ | refine VC_block ?_ | refine VC_scope ?_ | refine VC_if ?_ | refine VC_skip ?_ | refine VC_exit ?_ | refine VC_ret ?_
   | (with_reducible first | refine G_not (fun h => ?_) (fun h => ?_) | refine G_cases (fun h => ?_) (fun h => ?_)) <;> (try simp only [h])
   | refine C_call rfl kt rfl (Above_mono hab (by omega)) ?_
   | with_reducible first | (refine hK _ ?_; clear hK K) | (clear hK K; refine hK _ ?_; clear hK K) | (clear hK K; clear hK K; refine hK _ ?_; clear hK K) | (clear hK K; clear hK K; clear hK K; refine hK _ ?_; clear hK K)
   | (with_reducible refine todo ?_; simp +decide only [go_sem]))
  exact RetR_same rfl True.intro True.intro hw kp_refl (fun _ _ => rfl)
set_option maxRecDepth 8000 in
set_option maxHeartbeats 8000000 in
theorem Try.nIsFreeZ (off : Nat) (hw : Wf H A) (hz : H z = some zeroPg) (n : Int) : EffOK Try.prog 16 off H A [.c (.ptr z 0), pD (.lit (.int .i64 n))] (pD (.lit (.bool false))) H A := by
  refine effr_ok (E := envOf Try.prog [36] off [] []) (envOf_ok Try.mixed) Try.func16 rfl Try.call16 (by kernel_rfl) (by exact Nat.le_of_ble_eq_true rfl) (fun hab => ?_)
  have kr := Try.nRightZ (off + 1000) hw hz n
  by_cases h0 : n = 0
  · subst h0
    repeat' (first
     | with_reducible first | refine VC_seq fun K hK => ?_ | refine W_region ?_ | refine VC_block ?_ | refine VC_scope ?_ | refine VC_if ?_ | refine VC_skip ?_ | refine VC_exit ?_ | refine VC_ret ?_
     | (with_reducible first | refine G_not (fun h => ?_) (fun h => ?_) | refine G_cases (fun h => ?_) (fun h => ?_)) <;> (try simp only [h])
     | with_reducible first | (refine hK _ ?_; clear hK K) | (clear hK K; refine hK _ ?_; clear hK K) | (clear hK K; clear hK K; refine hK _ ?_; clear hK K) | (clear hK K; clear hK K; clear hK K; refine hK _ ?_; clear hK K)
     | (with_reducible refine todo ?_; simp +decide only [go_sem]))
    exact RetR_same rfl (by simp +decide only [go_sem]) True.intro hw kp_refl (fun _ _ => rfl)
  · have z : (n == 0) = false := by simpa using h0
    repeat' (first
     | with_reducible first | refine VC_seq fun K hK => ?_ | refine W_region ?_ | refine VC_block ?_ | refine VC_scope ?_ | refine VC_if ?_ | refine VC_skip ?_ | refine VC_exit ?_ | refine VC_ret ?_
     | (with_reducible first | refine G_not (fun h => ?_) (fun h => ?_) | refine G_cases (fun h => ?_) (fun h => ?_)) <;> (try simp only [h])
     | refine C_call rfl kr rfl (Above_mono hab (by omega)) ?_
     | with_reducible first | (refine hK _ ?_; clear hK K) | (clear hK K; refine hK _ ?_; clear hK K) | (clear hK K; clear hK K; refine hK _ ?_; clear hK K) | (clear hK K; clear hK K; clear hK K; refine hK _ ?_; clear hK K)
     | (with_reducible refine todo ?_; simp +decide only [go_sem, z, z13]))
    exact RetR_same rfl (by simp +decide only [go_sem]) True.intro hw kp_refl (fun _ _ => rfl)
set_option maxRecDepth 8000 in
set_option maxHeartbeats 8000000 in
theorem Try.nCommitZ (off : Nat) (hw : Wf H A) (hz : H z = some zeroPg) : EffOK Try.prog 20 off H A [.c (.ptr z 0)] (pD (.lit (.int .i64 13))) H A := by
  refine effr_ok (E := envOf Try.prog [33, 7000000 + 41, 19, 5000000 + 43, 6000000 + 78] off [] []) (envOf_ok Try.mixed) Try.func20 rfl Try.call20 (by kernel_rfl) (by exact Nat.le_of_ble_eq_true rfl) (fun hab => ?_)
  have n1 : H (off + 1) = none := (hab _ (by omega)).1
  have hw1 : Wf (upd H (off + 1) (some [.ptr z 0])) A := Wf_set hw (fun x hx => by rw [List.mem_singleton.1 hx]; exact upd_keepH _ (by rw [hz]; simp)) (fun _ h => h)
  have hz1 : upd H (off + 1) (some [.ptr z 0]) z = some zeroPg := by rw [upd_other _ _ (fun e => by rw [e, n1] at hz; cases hz)]; exact hz
  have ab1 : Above (off + 1000) (upd H (off + 1) (some [.ptr z 0])) A := Above_updH (Above_mono hab (by omega)) (by omega)
  have kt := Try.nThereZ (off + 1000) hw1 hz1
  repeat' (first
   | with_reducible first | refine VC_seq fun K hK => ?_ | refine W_region ?_ | refine VC_block ?_ | refine VC_scope ?_ | refine VC_if ?_ | refine VC_skip ?_ | refine VC_exit ?_ | refine VC_ret ?_
   | (with_reducible first | refine G_not (fun h => ?_) (fun h => ?_) | refine G_cases (fun h => ?_) (fun h => ?_)) <;> (try simp only [h])
   | refine And.intro n1 ?_
   | refine C_call rfl kt rfl ab1 ?_
   | with_reducible first | (refine hK _ ?_; clear hK K) | (clear hK K; refine hK _ ?_; clear hK K) | (clear hK K; clear hK K; refine hK _ ?_; clear hK K) | (clear hK K; clear hK K; clear hK K; refine hK _ ?_; clear hK K)
   | (with_reducible refine todo ?_; simp +decide only [go_sem]))
  exact RetR_sub rfl (wk_c (.inr (.inl ⟨rfl, True.intro⟩))) True.intro hw (fun j hj => upd_other _ _ fun e => hj (by rw [e]; exact n1)) (fun _ _ => rfl) (fun _ h => h) (fun _ h => h)
set_option maxRecDepth 8000 in
set_option maxHeartbeats 8000000 in
theorem Try.nFreesZ (off : Nat) (hw : Wf H A) (hz : H z = some zeroPg) : EffOK Try.prog 17 off H A [.c (.ptr z 0)] (pD (.lit (.int .i64 0))) H A := by
  refine effr_ok (E := envOf Try.prog [22, 16] off [] []) (envOf_ok Try.mixed) Try.func17 rfl Try.call17 (by kernel_rfl) (by exact Nat.le_of_ble_eq_true rfl) (fun hab => ?_)
  have kl := Try.nLenZ (off + 1000) hw hz
  have hptr : ∀ {X Y : AMap}, PV.wk (hOver [] H) X Y (.c (.ptr z 0)) (.c (.ptr z 0)) = True := eq_true (wkP_ptr (by show H z ≠ none; rw [hz]; simp))
  repeat' (first
   | with_reducible first | refine VC_seq fun K hK => ?_ | refine W_region ?_ | refine VC_block ?_ | refine VC_scope ?_ | refine VC_if ?_ | refine VC_skip ?_ | refine VC_exit ?_ | refine VC_ret ?_
   | (with_reducible first | refine G_not (fun h => ?_) (fun h => ?_) | refine G_cases (fun h => ?_) (fun h => ?_)) <;> (try simp only [h])
   | refine C_call rfl kl rfl (Above_mono hab (by omega)) ?_
   | with_reducible first | (refine hK _ ?_; clear hK K) | (clear hK K; refine hK _ ?_; clear hK K) | (clear hK K; clear hK K; refine hK _ ?_; clear hK K) | (clear hK K; clear hK K; clear hK K; refine hK _ ?_; clear hK K)
   | (with_reducible refine todo ?_; simp +decide only [go_sem]))
  refine VC_range 0 (fun _ => True) (fun i => over [(0, .c (.ptr z 0)), (3, pD (.lit (.int .i64 0))), (6, pD (.lit (.int .i64 ((0 : Nat) : Int)))), (7, pD (.lit (.int .i64 i)))] [] H A) True.intro ?_ ?_
  · refine Weak_overG hw (fun _ _ => rfl) rfl ?_ ?_ (fun i hi => hi) (fun _ h => h)
    · simp +decide only [go_sem, hptr]
    · simp +decide only [go_sem]
  · intro i hi _
    obtain rfl : i = 0 := by omega
    repeat' (first
     | with_reducible first | refine VC_seq fun K hK => ?_ | refine W_region ?_ | refine VC_block ?_ | refine VC_scope ?_ | refine VC_if ?_ | refine VC_skip ?_ | refine VC_exit ?_ | refine VC_ret ?_
     | (with_reducible first | refine G_not (fun h => ?_) (fun h => ?_) | refine G_cases (fun h => ?_) (fun h => ?_)) <;> (try simp only [h])
     | with_reducible first | (refine hK _ ?_; clear hK K) | (clear hK K; refine hK _ ?_; clear hK K) | (clear hK K; clear hK K; refine hK _ ?_; clear hK K) | (clear hK K; clear hK K; clear hK K; refine hK _ ?_; clear hK K)
     | (with_reducible refine todo ?_; simp +decide only [go_sem]))
    exact RetR_same rfl (by simp +decide only [go_sem]) True.intro hw kp_nil (fun _ _ => rfl)
set_option maxRecDepth 8000 in
set_option maxHeartbeats 8000000 in
theorem Try.nDkLen (off : Nat) (hw : Wf H A) : EffOK Try.prog 30 off H A [.c (.d (.lit (.pointer none)))] (pD (.lit (.int .i64 0))) H A := by
  refine effr_ok (E := envOf Try.prog [] off [] []) (envOf_ok Try.mixed) Try.func30 rfl Try.call30 (by kernel_rfl) (by exact Nat.le_of_ble_eq_true rfl) (fun hab => ?_)
  repeat' (first
   | with_reducible first | refine VC_seq fun K hK => ?_ | refine W_region ?_ | refine VC_block ?_ | refine VC_scope ?_ | refine VC_if ?_ | refine VC_skip ?_ | refine VC_exit ?_ | refine VC_ret ?_
   | (with_reducible first | refine G_not (fun h => ?_) (fun h => ?_) | refine G_cases (fun h => ?_) (fun h => ?_)) <;> (try simp only [h])
   | with_reducible first | (refine hK _ ?_; clear hK K) | (clear hK K; refine hK _ ?_; clear hK K) | (clear hK K; clear hK K; refine hK _ ?_; clear hK K) | (clear hK K; clear hK K; clear hK K; refine hK _ ?_; clear hK K)
   | (with_reducible refine todo ?_; simp +decide only [go_sem]))
  exact RetR_same rfl (by simp +decide only [go_sem]) True.intro hw kp_refl (fun _ _ => rfl)
set_option maxRecDepth 8000 in
set_option maxHeartbeats 8000000 in
theorem Try.nOpen (off : Nat) (hw : Wf H A) : EffOK Try.prog 10 off H A [.c (.d (.lit (.pointer none))), pD (.lit (.int .i64 10))] (.tup [.c (.d (.lit (.pointer none))), .c (.d (.lit (.int .i64 1)))]) H A := by
  refine effr_ok (E := envOf Try.prog [30, 31, 32] off [] []) (envOf_ok Try.mixed) Try.func10 rfl Try.call10 (by kernel_rfl) (by exact Nat.le_of_ble_eq_true rfl) (fun hab => ?_)
  have kl := Try.nDkLen (A := A) (off + 1000) hw
  have c1 : IntKind.i64.wrap ((0 : Int) - 10) = -10 := by decide
  have z1 : ((0 : Int) == 0) = true := rfl
  repeat' (first
   | with_reducible first | refine VC_seq fun K hK => ?_ | refine W_region ?_ | refine VC_block ?_ | refine VC_scope ?_ | refine VC_if ?_ | refine VC_skip ?_ | refine VC_exit ?_ | refine VC_ret ?_
   | (with_reducible first | refine G_not (fun h => ?_) (fun h => ?_) | refine G_cases (fun h => ?_) (fun h => ?_)) <;> (try simp only [h])
   | refine C_call rfl kl rfl (Above_mono hab (by omega)) ?_
   | with_reducible first | (refine hK _ ?_; clear hK K) | (clear hK K; refine hK _ ?_; clear hK K) | (clear hK K; clear hK K; refine hK _ ?_; clear hK K) | (clear hK K; clear hK K; clear hK K; refine hK _ ?_; clear hK K)
   | (with_reducible refine todo ?_; simp +decide only [go_sem, c1, z1]))
  exact RetR_same rfl wk_pair oks_pair hw kp_refl (fun _ _ => rfl)
end pg
theorem wf0 : Wf noH noA := fun i cs c h => by cases h
theorem wfZ : Wf (upd noH 14 (some zeroPg)) noA := by
  refine Wf_set wf0 (fun c hc => ?_) (fun _ h => h)
  unfold zeroPg at hc
  simp only [List.mem_cons, List.not_mem_nil, or_false] at hc
  rcases hc with rfl | rfl | rfl | rfl | rfl <;> exact True.intro
theorem abZ : Above 1000 (upd noH 14 (some zeroPg)) noA := Above_updH (fun i _ => ⟨rfl, fun _ => rfl⟩) (by decide)
set_option maxRecDepth 8000 in
set_option maxHeartbeats 32000000 in
theorem Try.kPagerNil (n : Int) (s : List UInt8) : PureOK Try.prog 4 [pD (.lit (.int .i64 n)), pD (dS s)] (.one (.d (.lit (.bool true)))) := by
  have e0 := Try.kKnown
  have hz : upd noH 14 (some zeroPg) 14 = some zeroPg := upd_same _ _ _
  have e1 := Try.nOpen 1000 wfZ
  have e2 := Try.nReadN 1000 wfZ n
  have e3 := Try.nAllocZ 1000 wfZ hz
  have e4 := Try.nAbortN 1000 wfZ
  have e5 := Try.nAbortZ 1000 wfZ hz
  have e6 := Try.nWriteN 1000 wfZ n s
  have e7 := Try.nFreeZ 1000 wfZ hz n
  have e8 := Try.nCommitN 1000 wfZ
  have e9 := Try.nCommitZ 1000 wfZ hz
  have e10 := Try.nIsFreeN 1000 wfZ n
  have e11 := Try.nIsFreeZ 1000 wfZ hz n
  have e12 := Try.nDirtyN 1000 wfZ
  have e13 := Try.nLenN 1000 wfZ
  have e14 := Try.nLenZ 1000 wfZ hz
  have e15 := Try.nFreesZ 1000 wfZ hz
  have hab := abZ
  unfold zeroPg at e1 e2 e3 e4 e5 e6 e7 e8 e9 e10 e11 e12 e13 e14 e15 hab
  refine pure_eff rfl (effr_ok (E := envOf Try.prog [10, 11, 14, 21, 20, 19, 12, 16, 17, 22, 15] 0 [] []) (envOf_ok Try.mixed) Try.func4 rfl Try.call4 (by kernel_rfl) (by exact Nat.le_of_ble_eq_true rfl) (fun _ => ?_))
  repeat' (first
   | with_reducible first | refine VC_seq fun K hK => ?_ | refine W_region ?_ | refine VC_block ?_ | refine VC_scope ?_ | refine VC_if ?_ | refine VC_skip ?_ | refine VC_exit ?_ | refine VC_ret ?_
   | (with_reducible first | refine G_not (fun h => ?_) (fun h => ?_) | refine G_cases (fun h => ?_) (fun h => ?_)) <;> (try simp only [h])
   | (refine RunV_app (by simp only [List.append_eq, List.cons_append, List.nil_append]; exact rfl) ?_)
   | refine And.intro rfl ?_
   | refine C_pure e0 rfl rfl (fun _ => rfl) ?_
   | refine C_call rfl e1 rfl hab ?_
   | refine C_call rfl e2 rfl hab ?_
   | refine C_call rfl e3 rfl hab ?_
   | refine C_call rfl e4 rfl hab ?_
   | refine C_call rfl e5 rfl hab ?_
   | refine C_call rfl e6 rfl hab ?_
   | refine C_call rfl e7 rfl hab ?_
   | refine C_call rfl e8 rfl hab ?_
   | refine C_call rfl e9 rfl hab ?_
   | refine C_call rfl e10 rfl hab ?_
   | refine C_call rfl e11 rfl hab ?_
   | refine C_call rfl e12 rfl hab ?_
   | refine C_call rfl e13 rfl hab ?_
   | refine C_call rfl e14 rfl hab ?_
   | refine C_call rfl e15 rfl hab ?_
   | with_reducible first | (refine hK _ ?_; clear hK K) | (clear hK K; refine hK _ ?_; clear hK K) | (clear hK K; clear hK K; refine hK _ ?_; clear hK K) | (clear hK K; clear hK K; clear hK K; refine hK _ ?_; clear hK K)
   | (with_reducible refine todo ?_; simp +decide only [go_sem]))
  exact RetR_same rfl (by simp +decide only [go_sem]) True.intro wf0 (fun i h => (h rfl).elim) (fun i h => (h rfl).elim)
end Go.Proofs
