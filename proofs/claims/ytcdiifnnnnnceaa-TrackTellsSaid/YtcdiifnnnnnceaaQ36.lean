import Derived.Test.YtcdiifnnnnnceaaQ34
import Derived.Test.YtcdiifnnnnnceaaQ35

/-
  TrackTells.
-/



namespace Go.Proofs
open Go.PW

theorem lightV_spec {l : List Ver} (h : lightV l = true) : l.length ≤ 30 ∧ ∀ v ∈ l, v.p.row.length ≤ 20 := by
  unfold lightV at h
  simp only [Bool.and_eq_true, Bool.not_eq_true', decide_eq_false_iff_not, List.all_eq_true] at h
  obtain ⟨h1, h2⟩ := h
  refine ⟨by omega, fun v hv => ?_⟩
  have := h2 v hv
  unfold shortV at this
  simp only [Bool.not_eq_true', decide_eq_false_iff_not] at this
  omega
theorem okV_rows {l : List Ver} (h : ∀ v ∈ l, Ver.ok v) : rowsOKV l := fun v hv => (h v hv).2.2

set_option maxRecDepth 8000 in
set_option maxHeartbeats 16000000 in
theorem Try.kTellsV (l : List Ver) (t : Int) (h0 : ∀ v ∈ l, Ver.ok v) : PureOK Try.prog 3 [pD (encVers l), pD (.lit (.int .i64 t))] (.one (dB true)) := by
  have hok := okV_rows h0
  have kl := Try.kLightV l
  have kk := Try.kKnown
  cases hL : lightV l with
  | false =>
    rw [hL] at kl
    refine Try.pure (md := []) Try.func3 rfl Try.call3 (by kernel_rfl) (by rfl) (by exact Nat.le_of_ble_eq_true rfl) ?_
    repeat' (first
      | with_reducible refine VC_seq fun K hK => ?_
      | with_reducible refine W_region ?_
      | with_reducible refine VC_block ?_
      | with_reducible refine VC_scope ?_
      | with_reducible refine VC_if ?_
      | with_reducible refine VC_skip ?_
      | with_reducible refine VC_exit ?_
      | with_reducible refine VC_ret ?_
      | (with_reducible refine G_not (fun h => ?_) (fun h => ?_) <;> (try simp only [h]))
      | (with_reducible refine G_cases (fun h => ?_) (fun h => ?_) <;> (try simp only [h]))
      | refine C_pure kl rfl rfl (fun _ => rfl) ?_
      | refine C_pure kk rfl rfl (fun _ => rfl) ?_
      | (with_reducible refine hK _ ?_; clear hK K)
      | (clear hK K; with_reducible refine hK _ ?_; clear hK K)
      | (clear hK K; clear hK K; with_reducible refine hK _ ?_; clear hK K)
      | (clear hK K; clear hK K; clear hK K; with_reducible refine hK _ ?_; clear hK K)
      | (with_reducible refine todo ?_; simp +decide only [go_sem]))
    exact Ret_d rfl rfl
  | true =>
    rw [hL] at kl
    obtain ⟨hn, hr⟩ := lightV_spec hL
    have hr' : ∀ v ∈ l, v.p.row.length ≤ 1048576 := fun v hv => Nat.le_trans (hr v hv) (by decide)
    have kp := Try.kPlainV l (by omega)
    have k1 := Try.kRightV l (by omega) hr'
    have r1 := Try.rRightV l (by omega) hr' hok
    have k2 := Try.kAtV l t (by omega) hr'
    have r2 := Try.rAtV l t (by omega) hr' hok
    have k2p := Try.kPieces (vAt l t) (Nat.le_trans (vAt_length l t) (by omega))
    have s2 := Try.rSame (vAt l t) (vAt l t) (Nat.le_trans (vAt_length l t) (by omega)) (fun x hx => by obtain ⟨v, hv, e⟩ := vAt_mem hx; rw [e]; exact hr' v hv)
    rw [samePieces_iff.2 rfl] at s2
    have k3 := Try.kLast l (by omega) hr'
    have r3 := Try.rLastV l (by omega) hr' hok
    have k4 := Try.kVacuum l t (by omega) hr'
    have r4 := Try.rVacuum l t (by omega) hr' hok
    have v1 : (vacuum l t).length ≤ l.length := by
      unfold vacuum
      split
      · exact List.length_filter_le _ _
      · exact Nat.le_refl _
    have v2 : ∀ v ∈ vacuum l t, v.p.row.length ≤ 1048576 := fun v hv => by
      unfold vacuum at hv
      split at hv
      · exact hr' v (List.mem_filter.1 hv).1
      · exact hr' v hv
    have k4p := Try.kPlainV (vacuum l t) (by omega)
    have s4 := Try.rSameV (vacuum l t) (vacuum l t) (by omega) v2
    rw [sameVers_self] at s4
    have k5 := Try.kCoalesceV l (by omega) hr'
    have r5 := Try.rCoalesceV l (by omega) hr' hok
    have c1 := vCoalesce_length l
    have c2 : ∀ v ∈ vCoalesce l, v.p.row.length ≤ 1048576 := fun v hv => by
      unfold vCoalesce at hv
      split at hv
      · exact (vCo_ok l [] hr' (fun w hw => by cases hw)).2 v hv
      · exact hr' v hv
    have k5p := Try.kPlainV (vCoalesce l) (by omega)
    have s5 := Try.rSameV (vCoalesce l) (vCoalesce l) (by omega) c2
    rw [sameVers_self] at s5
    have s6 := Try.rSameV l l (by omega) hr'
    rw [sameVers_self] at s6
    refine Try.pure (md := []) Try.func3 rfl Try.call3 (by kernel_rfl) (by rfl) (by exact Nat.le_of_ble_eq_true rfl) ?_
    repeat' (first
      | with_reducible refine VC_seq fun K hK => ?_
      | with_reducible refine W_region ?_
      | with_reducible refine VC_block ?_
      | with_reducible refine VC_scope ?_
      | with_reducible refine VC_if ?_
      | with_reducible refine VC_skip ?_
      | with_reducible refine VC_exit ?_
      | with_reducible refine VC_ret ?_
      | (with_reducible refine G_not (fun h => ?_) (fun h => ?_) <;> (try simp only [h]))
      | (with_reducible refine G_cases (fun h => ?_) (fun h => ?_) <;> (try simp only [h]))
      | refine C_pure kl rfl rfl (fun _ => rfl) ?_
      | refine C_pure kk rfl rfl (fun _ => rfl) ?_
      | refine C_pure kp rfl rfl (fun _ => rfl) ?_
      | refine C_pure k1 rfl rfl (fun _ => rfl) ?_
      | refine C_pure r1 rfl rfl (fun _ => rfl) ?_
      | refine C_pure k2 rfl rfl (fun _ => rfl) ?_
      | refine C_pure k2p rfl rfl (fun _ => rfl) ?_
      | refine C_pure r2 rfl rfl (fun _ => rfl) ?_
      | refine C_pure s2 rfl rfl (fun _ => rfl) ?_
      | refine C_pure k3 rfl rfl (fun _ => rfl) ?_
      | refine C_pure r3 rfl rfl (fun _ => rfl) ?_
      | refine C_pure k4 rfl rfl (fun _ => rfl) ?_
      | refine C_pure k4p rfl rfl (fun _ => rfl) ?_
      | refine C_pure r4 rfl rfl (fun _ => rfl) ?_
      | refine C_pure s4 rfl rfl (fun _ => rfl) ?_
      | refine C_pure k5 rfl rfl (fun _ => rfl) ?_
      | refine C_pure k5p rfl rfl (fun _ => rfl) ?_
      | refine C_pure r5 rfl rfl (fun _ => rfl) ?_
      | refine C_pure s5 rfl rfl (fun _ => rfl) ?_
      | refine C_pure s6 rfl rfl (fun _ => rfl) ?_
      | (with_reducible refine hK _ ?_; clear hK K)
      | (clear hK K; with_reducible refine hK _ ?_; clear hK K)
      | (clear hK K; clear hK K; with_reducible refine hK _ ?_; clear hK K)
      | (clear hK K; clear hK K; clear hK K; with_reducible refine hK _ ?_; clear hK K)
      | (with_reducible refine todo ?_; simp +decide only [go_sem, beq_self_eq_true]))
    exact Ret_d rfl rfl
end Go.Proofs
