import Derived.Test.YtfcffhhipkbkmaaQ27

/-
  WalNil: the law's body.
-/

namespace Go.Proofs
open Go.PW
theorem wf0 : Wf noH noA := fun i cs c h => by cases h
theorem wfZ : Wf (upd noH 8 (some zeroLg)) noA := by
  refine Wf_set wf0 (fun c hc => ?_) (fun _ h => h)
  unfold zeroLg at hc
  simp only [List.mem_cons, List.not_mem_nil, or_false] at hc
  rcases hc with rfl | rfl | rfl | rfl | rfl | rfl | rfl | rfl <;> exact True.intro
theorem abZ : Above 1000 (upd noH 8 (some zeroLg)) noA := Above_updH (fun i _ => ⟨rfl, fun _ => rfl⟩) (by decide)
set_option maxRecDepth 8000 in
set_option maxHeartbeats 16000000 in
theorem Try.kNilL (s : List UInt8) : PureOK Try.prog 4 [pD (dS s)] (.one (.d (.lit (.bool true)))) := by
  have e0 := Try.kKnown
  have e1 := Try.kOpenN 1000 wfZ
  have e2 := Try.kAppendN 1000 s wfZ
  have e3 := Try.kAppendZ (lid := 8) 1000 s wfZ (upd_same _ _ _)
  have e4 := Try.kCommitN 1000 wfZ
  have e5 := Try.kResetZ (lid := 8) 1000 wfZ (upd_same _ _ _)
  have e6 := Try.kRecordsN 1000 wfZ
  have e7 := Try.kRecordsZ (lid := 8) 1000 wfZ (upd_same _ _ _)
  have e8 := Try.kGenN 1000 wfZ
  have e9 := Try.kUsedN 1000 wfZ
  have e10 := Try.kFitsN 1000 wfZ
  have e11 := Try.kFitsZ (lid := 8) 1000 wfZ (upd_same _ _ _)
  have hab := abZ
  unfold nilP at e1 e2 e4 e6 e8 e9 e10
  unfold zeroLg at e1 e2 e3 e4 e5 e6 e7 e8 e9 e10 e11 hab
  refine pure_eff rfl (effr_ok (E := envOf Try.prog [14, 15, 16, 20, 18, 17, 19, 21] 0 [] []) (envOf_ok Try.mixed) Try.func4 rfl Try.call4 (by kernel_rfl) (by exact Nat.le_of_ble_eq_true rfl) (fun _ => ?_))
  repeat' (first
    | with_reducible refine VC_seq fun K hK => ?_
    | with_reducible refine W_region ?_
    | with_reducible refine VC_block ?_
    | with_reducible refine VC_scope ?_
    | with_reducible refine VC_if ?_
    | with_reducible refine VC_skip ?_
    | with_reducible refine VC_exit ?_
    | with_reducible refine VC_ret ?_
    | (with_reducible refine G_not (fun h => ?_) (fun h => ?_) <;> (try simp only [h]))
    | (with_reducible refine G_cases (fun h => ?_) (fun h => ?_) <;> (try simp only [h]))
    | refine And.intro rfl ?_
    | refine C_call rfl e1 rfl hab ?_
    | refine C_call rfl e2 rfl hab ?_
    | refine C_call rfl e3 rfl hab ?_
    | refine C_call rfl e4 rfl hab ?_
    | refine C_call rfl e5 rfl hab ?_
    | refine C_call rfl e6 rfl hab ?_
    | refine C_call rfl e7 rfl hab ?_
    | refine C_call rfl e8 rfl hab ?_
    | refine C_call rfl e9 rfl hab ?_
    | refine C_call rfl e10 rfl hab ?_
    | refine C_call rfl e11 rfl hab ?_
    | refine C_pure e0 rfl rfl (fun _ => rfl) ?_
    | (with_reducible refine hK _ ?_; clear hK K)
    | (clear hK K; with_reducible refine hK _ ?_; clear hK K)
    | (clear hK K; clear hK K; with_reducible refine hK _ ?_; clear hK K)
    | (clear hK K; clear hK K; clear hK K; with_reducible refine hK _ ?_; clear hK K)
    | (with_reducible refine todo ?_; simp +decide only [go_sem]))
  exact RetR_same rfl (by simp +decide only [go_sem]) True.intro wf0 (fun i h => (h rfl).elim) (fun i h => (h rfl).elim)
end Go.Proofs
