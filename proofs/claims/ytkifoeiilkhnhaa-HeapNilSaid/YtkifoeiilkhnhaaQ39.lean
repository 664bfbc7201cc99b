import Derived.Test.YtkifoeiilkhnhaaQ38

/-
  HeapNil: a heap that is not there (written by kn.py).
-/

namespace Go.Proofs
open Go.PW
def zeroHp : List CV := [.d (.lit (.pointer none))]
section hp
variable {H : HMap} {A : AMap} {z : Nat}
set_option maxRecDepth 8000 in
set_option maxHeartbeats 8000000 in
theorem Try.nPgThere (off : Nat) (hw : Wf H A) : EffOK Try.prog 37 off H A [.c (.d (.lit (.pointer none)))] (pD (.lit (.bool false))) H A := by
  refine effr_ok (E := envOf Try.prog [] off [] []) (envOf_ok Try.mixed) Try.func37 rfl Try.call37 (by kernel_rfl) (by exact Nat.le_of_ble_eq_true rfl) (fun hab => ?_)
  repeat' (first
   | with_reducible first | refine VC_seq fun K hK => ?_ | refine W_region ?_ | refine VC_block ?_ | refine VC_scope ?_ | refine VC_if ?_ | refine VC_skip ?_ | refine VC_exit ?_ | refine VC_ret ?_
   | (with_reducible first | refine G_not (fun h => ?_) (fun h => ?_) | refine G_cases (fun h => ?_) (fun h => ?_)) <;> (try simp only [h])
   | with_reducible first | (refine hK _ ?_; clear hK K) | (clear hK K; refine hK _ ?_; clear hK K) | (clear hK K; clear hK K; refine hK _ ?_; clear hK K) | (clear hK K; clear hK K; clear hK K; refine hK _ ?_; clear hK K)
   | (with_reducible refine todo ?_; simp +decide only [go_sem]))
  exact RetR_same rfl (by simp +decide only [go_sem]) True.intro hw kp_refl (fun _ _ => rfl)
set_option maxRecDepth 8000 in
set_option maxHeartbeats 8000000 in
theorem Try.nPgLen (off : Nat) (hw : Wf H A) : EffOK Try.prog 31 off H A [.c (.d (.lit (.pointer none)))] (pD (.lit (.int .i64 0))) H A := by
  refine effr_ok (E := envOf Try.prog [37] off [] []) (envOf_ok Try.mixed) Try.func31 rfl Try.call31 (by kernel_rfl) (by exact Nat.le_of_ble_eq_true rfl) (fun hab => ?_)
  have kt := Try.nPgThere (A := A) (off + 1000) hw
  repeat' (first
   | with_reducible first | refine VC_seq fun K hK => ?_ | refine W_region ?_ | refine VC_block ?_ | refine VC_scope ?_ | refine VC_if ?_ | refine VC_skip ?_ | refine VC_exit ?_ | refine VC_ret ?_
   | (with_reducible first | refine G_not (fun h => ?_) (fun h => ?_) | refine G_cases (fun h => ?_) (fun h => ?_)) <;> (try simp only [h])
   | refine C_call rfl kt rfl (Above_mono hab (by omega)) ?_
   | with_reducible first | (refine hK _ ?_; clear hK K) | (clear hK K; refine hK _ ?_; clear hK K) | (clear hK K; clear hK K; refine hK _ ?_; clear hK K) | (clear hK K; clear hK K; clear hK K; refine hK _ ?_; clear hK K)
   | (with_reducible refine todo ?_; simp +decide only [go_sem]))
  exact RetR_same rfl (by simp +decide only [go_sem]) True.intro hw kp_refl (fun _ _ => rfl)
set_option maxRecDepth 8000 in
set_option maxHeartbeats 8000000 in
theorem Try.nOpen (off : Nat) (hw : Wf H A) : EffOK Try.prog 17 off H A [.c (.d (.lit (.pointer none)))] (.tup [.c (.d (.lit (.pointer none))), .c (.d (.lit (.int .i64 1)))]) H A := by
  refine effr_ok (E := envOf Try.prog [31, 32, 25, 26, 33] off [] []) (envOf_ok Try.mixed) Try.func17 rfl Try.call17 (by kernel_rfl) (by exact Nat.le_of_ble_eq_true rfl) (fun hab => ?_)
  have kt := Try.nPgLen (A := A) (off + 1000) hw
  repeat' (first
   | with_reducible first | refine VC_seq fun K hK => ?_ | refine W_region ?_ | refine VC_block ?_ | refine VC_scope ?_ | refine VC_if ?_ | refine VC_skip ?_ | refine VC_exit ?_ | refine VC_ret ?_
   | (with_reducible first | refine G_not (fun h => ?_) (fun h => ?_) | refine G_cases (fun h => ?_) (fun h => ?_)) <;> (try simp only [h])
   | refine C_call rfl kt rfl (Above_mono hab (by omega)) ?_
   | with_reducible first | (refine hK _ ?_; clear hK K) | (clear hK K; refine hK _ ?_; clear hK K) | (clear hK K; clear hK K; refine hK _ ?_; clear hK K) | (clear hK K; clear hK K; clear hK K; refine hK _ ?_; clear hK K)
   | (with_reducible refine todo ?_; simp +decide only [go_sem]))
  exact RetR_same rfl wk_pair oks_pair hw kp_refl (fun _ _ => rfl)
set_option maxRecDepth 8000 in
set_option maxHeartbeats 8000000 in
theorem Try.nThereN (off : Nat) (hw : Wf H A) : EffOK Try.prog 23 off H A [.c (.d (.lit (.pointer none)))] (pD (.lit (.bool false))) H A := by
  refine effr_ok (E := envOf Try.prog [] off [] []) (envOf_ok Try.mixed) Try.func23 rfl Try.call23 (by kernel_rfl) (by exact Nat.le_of_ble_eq_true rfl) (fun hab => ?_)
  repeat' (first
   | with_reducible first | refine VC_seq fun K hK => ?_ | refine W_region ?_ | refine VC_block ?_ | refine VC_scope ?_ | refine VC_if ?_ | refine VC_skip ?_ | refine VC_exit ?_ | refine VC_ret ?_
   | (with_reducible first | refine G_not (fun h => ?_) (fun h => ?_) | refine G_cases (fun h => ?_) (fun h => ?_)) <;> (try simp only [h])
   | with_reducible first | (refine hK _ ?_; clear hK K) | (clear hK K; refine hK _ ?_; clear hK K) | (clear hK K; clear hK K; refine hK _ ?_; clear hK K) | (clear hK K; clear hK K; clear hK K; refine hK _ ?_; clear hK K)
   | (with_reducible refine todo ?_; simp +decide only [go_sem]))
  exact RetR_same rfl (by simp +decide only [go_sem]) True.intro hw kp_refl (fun _ _ => rfl)
set_option maxRecDepth 8000 in
set_option maxHeartbeats 8000000 in
theorem Try.nPutN (off : Nat) (hw : Wf H A) (s : List UInt8) : EffOK Try.prog 9 off H A [.c (.d (.lit (.pointer none))), pD (dS s)] (.tup [.c (.d (.lit (.int .i64 0))), .c (.d (.lit (.int .i64 13)))]) H A := by
  refine effr_ok (E := envOf Try.prog [23, 14, 12, 24, 25, 26] off [] []) (envOf_ok Try.mixed) Try.func9 rfl Try.call9 (by kernel_rfl) (by exact Nat.le_of_ble_eq_true rfl) (fun hab => ?_)
  have kt := Try.nThereN (A := A) (off + 1000) hw
  repeat' (first
   | with_reducible first | refine VC_seq fun K hK => ?_ | refine W_region ?_ | refine VC_block ?_ | refine VC_scope ?_ | refine VC_if ?_ | refine VC_skip ?_ | refine VC_exit ?_ | refine VC_ret ?_
   | (with_reducible first | refine G_not (fun h => ?_) (fun h => ?_) | refine G_cases (fun h => ?_) (fun h => ?_)) <;> (try simp only [h])
   | refine C_call rfl kt rfl (Above_mono hab (by omega)) ?_
   | with_reducible first | (refine hK _ ?_; clear hK K) | (clear hK K; refine hK _ ?_; clear hK K) | (clear hK K; clear hK K; refine hK _ ?_; clear hK K) | (clear hK K; clear hK K; clear hK K; refine hK _ ?_; clear hK K)
   | (with_reducible refine todo ?_; simp +decide only [go_sem]))
  exact RetR_same rfl wk_pair oks_pair hw kp_refl (fun _ _ => rfl)
set_option maxRecDepth 8000 in
set_option maxHeartbeats 8000000 in
theorem Try.nRowN (off : Nat) (hw : Wf H A) (n : Int) : EffOK Try.prog 28 off H A [.c (.d (.lit (.pointer none))), pD (.lit (.int .i64 n))] (.tup [.c (.d (.sl [])), .c (.d (dS [])), .c (.d (.lit (.int .i64 13)))]) H A := by
  refine effr_ok (E := envOf Try.prog [23, 52, 31, 33] off [] []) (envOf_ok Try.mixed) Try.func28 rfl Try.call28 (by kernel_rfl) (by exact Nat.le_of_ble_eq_true rfl) (fun hab => ?_)
  have kt := Try.nThereN (A := A) (off + 1000) hw
  repeat' (first
   | with_reducible first | refine VC_seq fun K hK => ?_ | refine W_region ?_ | refine VC_block ?_ | refine VC_scope ?_ | refine VC_if ?_ | refine VC_skip ?_ | refine VC_exit ?_ | refine VC_ret ?_
   | (with_reducible first | refine G_not (fun h => ?_) (fun h => ?_) | refine G_cases (fun h => ?_) (fun h => ?_)) <;> (try simp only [h])
   | refine C_call rfl kt rfl (Above_mono hab (by omega)) ?_
   | with_reducible first | (refine hK _ ?_; clear hK K) | (clear hK K; refine hK _ ?_; clear hK K) | (clear hK K; clear hK K; refine hK _ ?_; clear hK K) | (clear hK K; clear hK K; clear hK K; refine hK _ ?_; clear hK K)
   | (with_reducible refine todo ?_; simp +decide only [go_sem]))
  exact RetR_same rfl wk_rowF oks_row hw kp_refl (fun _ _ => rfl)
set_option maxRecDepth 8000 in
set_option maxHeartbeats 8000000 in
theorem Try.nGetN (off : Nat) (hw : Wf H A) (n : Int) : EffOK Try.prog 13 off H A [.c (.d (.lit (.pointer none))), pD (.lit (.int .i64 n))] (.tup [.c (.d (dS [])), .c (.d (.lit (.int .i64 13)))]) H A := by
  refine effr_ok (E := envOf Try.prog [28] off [] []) (envOf_ok Try.mixed) Try.func13 rfl Try.call13 (by kernel_rfl) (by exact Nat.le_of_ble_eq_true rfl) (fun hab => ?_)
  have kr := Try.nRowN (A := A) (off + 1000) hw n
  repeat' (first
   | with_reducible first | refine VC_seq fun K hK => ?_ | refine W_region ?_ | refine VC_block ?_ | refine VC_scope ?_ | refine VC_if ?_ | refine VC_skip ?_ | refine VC_exit ?_ | refine VC_ret ?_
   | (with_reducible first | refine G_not (fun h => ?_) (fun h => ?_) | refine G_cases (fun h => ?_) (fun h => ?_)) <;> (try simp only [h])
   | refine C_call rfl kr rfl (Above_mono hab (by omega)) ?_
   | with_reducible first | (refine hK _ ?_; clear hK K) | (clear hK K; refine hK _ ?_; clear hK K) | (clear hK K; clear hK K; refine hK _ ?_; clear hK K) | (clear hK K; clear hK K; clear hK K; refine hK _ ?_; clear hK K)
   | (with_reducible refine todo ?_; simp +decide only [go_sem]))
  exact RetR_same rfl wk_pair oks_pair hw kp_refl (fun _ _ => rfl)
set_option maxRecDepth 8000 in
set_option maxHeartbeats 8000000 in
theorem Try.nRootN (off : Nat) (hw : Wf H A) : EffOK Try.prog 18 off H A [.c (.d (.lit (.pointer none)))] (.tup [.c (.d (dS [])), .c (.d (.lit (.int .i64 13)))]) H A := by
  refine effr_ok (E := envOf Try.prog [23, 30, 13] off [] []) (envOf_ok Try.mixed) Try.func18 rfl Try.call18 (by kernel_rfl) (by exact Nat.le_of_ble_eq_true rfl) (fun hab => ?_)
  have kt := Try.nThereN (A := A) (off + 1000) hw
  repeat' (first
   | with_reducible first | refine VC_seq fun K hK => ?_ | refine W_region ?_ | refine VC_block ?_ | refine VC_scope ?_ | refine VC_if ?_ | refine VC_skip ?_ | refine VC_exit ?_ | refine VC_ret ?_
   | (with_reducible first | refine G_not (fun h => ?_) (fun h => ?_) | refine G_cases (fun h => ?_) (fun h => ?_)) <;> (try simp only [h])
   | refine C_call rfl kt rfl (Above_mono hab (by omega)) ?_
   | with_reducible first | (refine hK _ ?_; clear hK K) | (clear hK K; refine hK _ ?_; clear hK K) | (clear hK K; clear hK K; refine hK _ ?_; clear hK K) | (clear hK K; clear hK K; clear hK K; refine hK _ ?_; clear hK K)
   | (with_reducible refine todo ?_; simp +decide only [go_sem]))
  exact RetR_same rfl wk_pair oks_pair hw kp_refl (fun _ _ => rfl)
set_option maxRecDepth 8000 in
set_option maxHeartbeats 8000000 in
theorem Try.nSetRootN (off : Nat) (hw : Wf H A) (s : List UInt8) : EffOK Try.prog 11 off H A [.c (.d (.lit (.pointer none))), pD (dS s)] (pD (.lit (.int .i64 13))) H A := by
  refine effr_ok (E := envOf Try.prog [9, 30, 10, 26] off [] []) (envOf_ok Try.mixed) Try.func11 rfl Try.call11 (by kernel_rfl) (by exact Nat.le_of_ble_eq_true rfl) (fun hab => ?_)
  have kp := Try.nPutN (A := A) (off + 1000) hw s
  have z13 : ((13 : Int) != 0) = true := rfl
  repeat' (first
   | with_reducible first | refine VC_seq fun K hK => ?_ | refine W_region ?_ | refine VC_block ?_ | refine VC_scope ?_ | refine VC_if ?_ | refine VC_skip ?_ | refine VC_exit ?_ | refine VC_ret ?_
   | (with_reducible first | refine G_not (fun h => ?_) (fun h => ?_) | refine G_cases (fun h => ?_) (fun h => ?_)) <;> (try simp only [h])
   | refine C_call rfl kp rfl (Above_mono hab (by omega)) ?_
   | with_reducible first | (refine hK _ ?_; clear hK K) | (clear hK K; refine hK _ ?_; clear hK K) | (clear hK K; clear hK K; refine hK _ ?_; clear hK K) | (clear hK K; clear hK K; clear hK K; refine hK _ ?_; clear hK K)
   | (with_reducible refine todo ?_; simp +decide only [go_sem, z13]))
  exact RetR_same rfl (by simp +decide only [go_sem]) True.intro hw kp_refl (fun _ _ => rfl)
set_option maxRecDepth 8000 in
set_option maxHeartbeats 8000000 in
theorem Try.nDropN (off : Nat) (hw : Wf H A) (n : Int) : EffOK Try.prog 10 off H A [.c (.d (.lit (.pointer none))), pD (.lit (.int .i64 n))] (pD (.lit (.int .i64 13))) H A := by
  refine effr_ok (E := envOf Try.prog [28, 29] off [] []) (envOf_ok Try.mixed) Try.func10 rfl Try.call10 (by kernel_rfl) (by exact Nat.le_of_ble_eq_true rfl) (fun hab => ?_)
  have kr := Try.nRowN (A := A) (off + 1000) hw n
  repeat' (first
   | with_reducible first | refine VC_seq fun K hK => ?_ | refine W_region ?_ | refine VC_block ?_ | refine VC_scope ?_ | refine VC_if ?_ | refine VC_skip ?_ | refine VC_exit ?_ | refine VC_ret ?_
   | (with_reducible first | refine G_not (fun h => ?_) (fun h => ?_) | refine G_cases (fun h => ?_) (fun h => ?_)) <;> (try simp only [h])
   | refine C_call rfl kr rfl (Above_mono hab (by omega)) ?_
   | with_reducible first | (refine hK _ ?_; clear hK K) | (clear hK K; refine hK _ ?_; clear hK K) | (clear hK K; clear hK K; refine hK _ ?_; clear hK K) | (clear hK K; clear hK K; clear hK K; refine hK _ ?_; clear hK K)
   | (with_reducible refine todo ?_; simp +decide only [go_sem]))
  refine VC_range 0 (fun _ => True) (fun i => over [(7, pD (.lit (.int .i64 13))), (17, .c (.d (.sl []))), (18, pD (.lit (.int .i64 ((0 : Nat) : Int)))), (19, pD (.lit (.int .i64 i)))] [] H A) True.intro ?_ ?_
  · refine Weak_overG hw (fun _ _ => rfl) rfl ?_ ?_ (fun _ h => h) (fun _ h => h)
    · simp +decide only [go_sem]
    · simp +decide only [go_sem]
  · intro i hi _
    have hi0 : i = 0 := by omega
    subst hi0
    repeat' (first
     | with_reducible first | refine VC_seq fun K hK => ?_ | refine W_region ?_ | refine VC_block ?_ | refine VC_scope ?_ | refine VC_if ?_ | refine VC_skip ?_ | refine VC_exit ?_ | refine VC_ret ?_
     | (with_reducible first | refine G_not (fun h => ?_) (fun h => ?_) | refine G_cases (fun h => ?_) (fun h => ?_)) <;> (try simp only [h])
     | with_reducible first | (refine hK _ ?_; clear hK K) | (clear hK K; refine hK _ ?_; clear hK K) | (clear hK K; clear hK K; refine hK _ ?_; clear hK K) | (clear hK K; clear hK K; clear hK K; refine hK _ ?_; clear hK K)
     | (with_reducible refine todo ?_; simp +decide only [go_sem]))
    exact RetR_same rfl (by simp +decide only [go_sem]) True.intro hw kp_refl (fun _ _ => rfl)
set_option maxRecDepth 8000 in
set_option maxHeartbeats 8000000 in
theorem Try.nThereZ (off : Nat) (hw : Wf H A) (hz : H z = some zeroHp) : EffOK Try.prog 23 off H A [.c (.ptr z 0)] (pD (.lit (.bool false))) H A := by
  refine effr_ok (E := envOf Try.prog [] off [] []) (envOf_ok Try.mixed) Try.func23 rfl Try.call23 (by kernel_rfl) (by exact Nat.le_of_ble_eq_true rfl) (fun hab => ?_)
  unfold zeroHp at hz
  repeat' (first
   | with_reducible first | refine VC_seq fun K hK => ?_ | refine W_region ?_ | refine VC_block ?_ | refine VC_scope ?_ | refine VC_if ?_ | refine VC_skip ?_ | refine VC_exit ?_ | refine VC_ret ?_
   | (with_reducible first | refine G_not (fun h => ?_) (fun h => ?_) | refine G_cases (fun h => ?_) (fun h => ?_)) <;> (try simp only [h])
   | with_reducible first | (refine hK _ ?_; clear hK K) | (clear hK K; refine hK _ ?_; clear hK K) | (clear hK K; clear hK K; refine hK _ ?_; clear hK K) | (clear hK K; clear hK K; clear hK K; refine hK _ ?_; clear hK K)
   | (with_reducible refine todo ?_; simp +decide only [go_sem, hz]))
  exact RetR_same rfl (by simp +decide only [go_sem]) True.intro hw kp_refl (fun _ _ => rfl)
set_option maxRecDepth 8000 in
set_option maxHeartbeats 8000000 in
theorem Try.nPutZ (off : Nat) (hw : Wf H A) (hz : H z = some zeroHp) (s : List UInt8) : EffOK Try.prog 9 off H A [.c (.ptr z 0), pD (dS s)] (.tup [.c (.d (.lit (.int .i64 0))), .c (.d (.lit (.int .i64 13)))]) H A := by
  refine effr_ok (E := envOf Try.prog [23, 14, 12, 24, 25, 26] off [] []) (envOf_ok Try.mixed) Try.func9 rfl Try.call9 (by kernel_rfl) (by exact Nat.le_of_ble_eq_true rfl) (fun hab => ?_)
  have kt := Try.nThereZ (A := A) (off + 1000) hw hz
  repeat' (first
   | with_reducible first | refine VC_seq fun K hK => ?_ | refine W_region ?_ | refine VC_block ?_ | refine VC_scope ?_ | refine VC_if ?_ | refine VC_skip ?_ | refine VC_exit ?_ | refine VC_ret ?_
   | (with_reducible first | refine G_not (fun h => ?_) (fun h => ?_) | refine G_cases (fun h => ?_) (fun h => ?_)) <;> (try simp only [h])
   | refine C_call rfl kt rfl (Above_mono hab (by omega)) ?_
   | with_reducible first | (refine hK _ ?_; clear hK K) | (clear hK K; refine hK _ ?_; clear hK K) | (clear hK K; clear hK K; refine hK _ ?_; clear hK K) | (clear hK K; clear hK K; clear hK K; refine hK _ ?_; clear hK K)
   | (with_reducible refine todo ?_; simp +decide only [go_sem]))
  exact RetR_same rfl wk_pair oks_pair hw kp_refl (fun _ _ => rfl)
set_option maxRecDepth 8000 in
set_option maxHeartbeats 8000000 in
theorem Try.nRowZ (off : Nat) (hw : Wf H A) (hz : H z = some zeroHp) (n : Int) : EffOK Try.prog 28 off H A [.c (.ptr z 0), pD (.lit (.int .i64 n))] (.tup [.c (.d (.sl [])), .c (.d (dS [])), .c (.d (.lit (.int .i64 13)))]) H A := by
  refine effr_ok (E := envOf Try.prog [23, 52, 31, 33] off [] []) (envOf_ok Try.mixed) Try.func28 rfl Try.call28 (by kernel_rfl) (by exact Nat.le_of_ble_eq_true rfl) (fun hab => ?_)
  have kt := Try.nThereZ (A := A) (off + 1000) hw hz
  repeat' (first
   | with_reducible first | refine VC_seq fun K hK => ?_ | refine W_region ?_ | refine VC_block ?_ | refine VC_scope ?_ | refine VC_if ?_ | refine VC_skip ?_ | refine VC_exit ?_ | refine VC_ret ?_
   | (with_reducible first | refine G_not (fun h => ?_) (fun h => ?_) | refine G_cases (fun h => ?_) (fun h => ?_)) <;> (try simp only [h])
   | refine C_call rfl kt rfl (Above_mono hab (by omega)) ?_
   | with_reducible first | (refine hK _ ?_; clear hK K) | (clear hK K; refine hK _ ?_; clear hK K) | (clear hK K; clear hK K; refine hK _ ?_; clear hK K) | (clear hK K; clear hK K; clear hK K; refine hK _ ?_; clear hK K)
   | (with_reducible refine todo ?_; simp +decide only [go_sem]))
  exact RetR_same rfl wk_rowF oks_row hw kp_refl (fun _ _ => rfl)
set_option maxRecDepth 8000 in
set_option maxHeartbeats 8000000 in
theorem Try.nGetZ (off : Nat) (hw : Wf H A) (hz : H z = some zeroHp) (n : Int) : EffOK Try.prog 13 off H A [.c (.ptr z 0), pD (.lit (.int .i64 n))] (.tup [.c (.d (dS [])), .c (.d (.lit (.int .i64 13)))]) H A := by
  refine effr_ok (E := envOf Try.prog [28] off [] []) (envOf_ok Try.mixed) Try.func13 rfl Try.call13 (by kernel_rfl) (by exact Nat.le_of_ble_eq_true rfl) (fun hab => ?_)
  have kr := Try.nRowZ (A := A) (off + 1000) hw hz n
  repeat' (first
   | with_reducible first | refine VC_seq fun K hK => ?_ | refine W_region ?_ | refine VC_block ?_ | refine VC_scope ?_ | refine VC_if ?_ | refine VC_skip ?_ | refine VC_exit ?_ | refine VC_ret ?_
   | (with_reducible first | refine G_not (fun h => ?_) (fun h => ?_) | refine G_cases (fun h => ?_) (fun h => ?_)) <;> (try simp only [h])
   | refine C_call rfl kr rfl (Above_mono hab (by omega)) ?_
   | with_reducible first | (refine hK _ ?_; clear hK K) | (clear hK K; refine hK _ ?_; clear hK K) | (clear hK K; clear hK K; refine hK _ ?_; clear hK K) | (clear hK K; clear hK K; clear hK K; refine hK _ ?_; clear hK K)
   | (with_reducible refine todo ?_; simp +decide only [go_sem]))
  exact RetR_same rfl wk_pair oks_pair hw kp_refl (fun _ _ => rfl)
set_option maxRecDepth 8000 in
set_option maxHeartbeats 8000000 in
theorem Try.nRootZ (off : Nat) (hw : Wf H A) (hz : H z = some zeroHp) : EffOK Try.prog 18 off H A [.c (.ptr z 0)] (.tup [.c (.d (dS [])), .c (.d (.lit (.int .i64 13)))]) H A := by
  refine effr_ok (E := envOf Try.prog [23, 30, 13] off [] []) (envOf_ok Try.mixed) Try.func18 rfl Try.call18 (by kernel_rfl) (by exact Nat.le_of_ble_eq_true rfl) (fun hab => ?_)
  have kt := Try.nThereZ (A := A) (off + 1000) hw hz
  repeat' (first
   | with_reducible first | refine VC_seq fun K hK => ?_ | refine W_region ?_ | refine VC_block ?_ | refine VC_scope ?_ | refine VC_if ?_ | refine VC_skip ?_ | refine VC_exit ?_ | refine VC_ret ?_
   | (with_reducible first | refine G_not (fun h => ?_) (fun h => ?_) | refine G_cases (fun h => ?_) (fun h => ?_)) <;> (try simp only [h])
   | refine C_call rfl kt rfl (Above_mono hab (by omega)) ?_
   | with_reducible first | (refine hK _ ?_; clear hK K) | (clear hK K; refine hK _ ?_; clear hK K) | (clear hK K; clear hK K; refine hK _ ?_; clear hK K) | (clear hK K; clear hK K; clear hK K; refine hK _ ?_; clear hK K)
   | (with_reducible refine todo ?_; simp +decide only [go_sem]))
  exact RetR_same rfl wk_pair oks_pair hw kp_refl (fun _ _ => rfl)
set_option maxRecDepth 8000 in
set_option maxHeartbeats 8000000 in
theorem Try.nSetRootZ (off : Nat) (hw : Wf H A) (hz : H z = some zeroHp) (s : List UInt8) : EffOK Try.prog 11 off H A [.c (.ptr z 0), pD (dS s)] (pD (.lit (.int .i64 13))) H A := by
  refine effr_ok (E := envOf Try.prog [9, 30, 10, 26] off [] []) (envOf_ok Try.mixed) Try.func11 rfl Try.call11 (by kernel_rfl) (by exact Nat.le_of_ble_eq_true rfl) (fun hab => ?_)
  have kp := Try.nPutZ (A := A) (off + 1000) hw hz s
  have z13 : ((13 : Int) != 0) = true := rfl
  repeat' (first
   | with_reducible first | refine VC_seq fun K hK => ?_ | refine W_region ?_ | refine VC_block ?_ | refine VC_scope ?_ | refine VC_if ?_ | refine VC_skip ?_ | refine VC_exit ?_ | refine VC_ret ?_
   | (with_reducible first | refine G_not (fun h => ?_) (fun h => ?_) | refine G_cases (fun h => ?_) (fun h => ?_)) <;> (try simp only [h])
   | refine C_call rfl kp rfl (Above_mono hab (by omega)) ?_
   | with_reducible first | (refine hK _ ?_; clear hK K) | (clear hK K; refine hK _ ?_; clear hK K) | (clear hK K; clear hK K; refine hK _ ?_; clear hK K) | (clear hK K; clear hK K; clear hK K; refine hK _ ?_; clear hK K)
   | (with_reducible refine todo ?_; simp +decide only [go_sem, z13]))
  exact RetR_same rfl (by simp +decide only [go_sem]) True.intro hw kp_refl (fun _ _ => rfl)
set_option maxRecDepth 8000 in
set_option maxHeartbeats 8000000 in
theorem Try.nDropZ (off : Nat) (hw : Wf H A) (hz : H z = some zeroHp) (n : Int) : EffOK Try.prog 10 off H A [.c (.ptr z 0), pD (.lit (.int .i64 n))] (pD (.lit (.int .i64 13))) H A := by
  refine effr_ok (E := envOf Try.prog [28, 29] off [] []) (envOf_ok Try.mixed) Try.func10 rfl Try.call10 (by kernel_rfl) (by exact Nat.le_of_ble_eq_true rfl) (fun hab => ?_)
  have kr := Try.nRowZ (A := A) (off + 1000) hw hz n
  repeat' (first
   | with_reducible first | refine VC_seq fun K hK => ?_ | refine W_region ?_ | refine VC_block ?_ | refine VC_scope ?_ | refine VC_if ?_ | refine VC_skip ?_ | refine VC_exit ?_ | refine VC_ret ?_
   | (with_reducible first | refine G_not (fun h => ?_) (fun h => ?_) | refine G_cases (fun h => ?_) (fun h => ?_)) <;> (try simp only [h])
   | refine C_call rfl kr rfl (Above_mono hab (by omega)) ?_
   | with_reducible first | (refine hK _ ?_; clear hK K) | (clear hK K; refine hK _ ?_; clear hK K) | (clear hK K; clear hK K; refine hK _ ?_; clear hK K) | (clear hK K; clear hK K; clear hK K; refine hK _ ?_; clear hK K)
   | (with_reducible refine todo ?_; simp +decide only [go_sem]))
  refine VC_range 0 (fun _ => True) (fun i => over [(7, pD (.lit (.int .i64 13))), (17, .c (.d (.sl []))), (18, pD (.lit (.int .i64 ((0 : Nat) : Int)))), (19, pD (.lit (.int .i64 i)))] [] H A) True.intro ?_ ?_
  · refine Weak_overG hw (fun _ _ => rfl) rfl ?_ ?_ (fun _ h => h) (fun _ h => h)
    · simp +decide only [go_sem]
    · simp +decide only [go_sem]
  · intro i hi _
    have hi0 : i = 0 := by omega
    subst hi0
    repeat' (first
     | with_reducible first | refine VC_seq fun K hK => ?_ | refine W_region ?_ | refine VC_block ?_ | refine VC_scope ?_ | refine VC_if ?_ | refine VC_skip ?_ | refine VC_exit ?_ | refine VC_ret ?_
     | (with_reducible first | refine G_not (fun h => ?_) (fun h => ?_) | refine G_cases (fun h => ?_) (fun h => ?_)) <;> (try simp only [h])
     | with_reducible first | (refine hK _ ?_; clear hK K) | (clear hK K; refine hK _ ?_; clear hK K) | (clear hK K; clear hK K; refine hK _ ?_; clear hK K) | (clear hK K; clear hK K; clear hK K; refine hK _ ?_; clear hK K)
     | (with_reducible refine todo ?_; simp +decide only [go_sem]))
    exact RetR_same rfl (by simp +decide only [go_sem]) True.intro hw kp_refl (fun _ _ => rfl)
end hp
theorem wf0 : Wf noH noA := fun i cs c h => by cases h
theorem wfZ : Wf (upd noH 16 (some zeroHp)) noA := by
  refine Wf_set wf0 (fun c hc => ?_) (fun _ h => h)
  rw [List.mem_singleton.1 hc]
  exact True.intro
theorem abZ : Above 1000 (upd noH 16 (some zeroHp)) noA := Above_updH (fun i _ => ⟨rfl, fun _ => rfl⟩) (by decide)
set_option maxRecDepth 8000 in
set_option maxHeartbeats 32000000 in
theorem Try.kHeapNil (n : Int) (s : List UInt8) : PureOK Try.prog 5 [pD (.lit (.int .i64 n)), pD (dS s)] (.one (.d (.lit (.bool true)))) := by
  have e0 := Try.kKnown
  have hz : upd noH 16 (some zeroHp) 16 = some zeroHp := upd_same _ _ _
  have e1 := Try.nOpen 1000 wfZ
  have e2 := Try.nPutN 1000 wfZ s
  have e3 := Try.nGetZ 1000 wfZ hz n
  have e4 := Try.nRootN 1000 wfZ
  have e5 := Try.nDropN 1000 wfZ n
  have e6 := Try.nDropZ 1000 wfZ hz n
  have e7 := Try.nSetRootZ 1000 wfZ hz s
  have hab := abZ
  unfold zeroHp at e1 e2 e3 e4 e5 e6 e7 hab
  refine pure_eff rfl (effr_ok (E := envOf Try.prog [17, 9, 13, 18, 10, 11] 0 [] []) (envOf_ok Try.mixed) Try.func5 rfl Try.call5 (by kernel_rfl) (by exact Nat.le_of_ble_eq_true rfl) (fun _ => ?_))
  repeat' (first
   | with_reducible first | refine VC_seq fun K hK => ?_ | refine W_region ?_ | refine VC_block ?_ | refine VC_scope ?_ | refine VC_if ?_ | refine VC_skip ?_ | refine VC_exit ?_ | refine VC_ret ?_
   | (with_reducible first | refine G_not (fun h => ?_) (fun h => ?_) | refine G_cases (fun h => ?_) (fun h => ?_)) <;> (try simp only [h])
   | (refine RunV_app (by simp only [List.append_eq, List.cons_append, List.nil_append]; exact rfl) ?_)
   | refine And.intro rfl ?_
   | refine C_pure e0 rfl rfl (fun _ => rfl) ?_
   | refine C_call rfl e1 rfl hab ?_
   | refine C_call rfl e2 rfl hab ?_
   | refine C_call rfl e3 rfl hab ?_
   | refine C_call rfl e4 rfl hab ?_
   | refine C_call rfl e5 rfl hab ?_
   | refine C_call rfl e6 rfl hab ?_
   | refine C_call rfl e7 rfl hab ?_
   | with_reducible first | (refine hK _ ?_; clear hK K) | (clear hK K; refine hK _ ?_; clear hK K) | (clear hK K; clear hK K; refine hK _ ?_; clear hK K) | (clear hK K; clear hK K; clear hK K; refine hK _ ?_; clear hK K)
   | (with_reducible refine todo ?_; simp +decide only [go_sem]))
  exact RetR_same rfl (by simp +decide only [go_sem]) True.intro wf0 (fun i h => (h rfl).elim) (fun i h => (h rfl).elim)
end Go.Proofs
