import Derived.Test.YtcdiifnnnnnceaaQ36

/-
  TrackSets.
-/


namespace Go.Proofs
open Go.PW

theorem sameSts_self (l : List TSt) : sameSts l l = true := by
  unfold sameSts
  have : (List.zipWith sameSt l l).all id = true := by
    induction l with
    | nil => rfl
    | cons a r ih =>
      rw [List.zipWith_cons_cons, List.all_cons, ih]
      have e : sameSt a a = true := by
        unfold sameSt
        rw [samePieces_iff.2 rfl]
        simp
      rw [id, e]
      rfl
  rw [this]
  simp

set_option maxRecDepth 8000 in
set_option maxHeartbeats 16000000 in
theorem Try.kSetsV (l : List Ver) (p : List Piece) (s : Sp) (h0 : ∀ v ∈ l, Ver.ok v) (h1 : ∀ x ∈ p, Piece.ok x) : PureOK Try.prog 4 [pD (encVers l), pD (encPieces p), pA s.enc] (.one (dB true)) := by
  have hok := okV_rows h0
  have hok' : rowsOK p := fun x hx => (h1 x hx).2
  have hse : s.enc = encSpan s.1 s.2 := rfl
  have kl := Try.kLightV l
  have kk := Try.kKnown
  cases hL : lightV l with
  | false =>
    rw [hL] at kl
    refine Try.pure (md := []) Try.func4 rfl Try.call4 (by kernel_rfl) (by rfl) (by exact Nat.le_of_ble_eq_true rfl) ?_
    repeat' (first
      | with_reducible refine VC_seq fun K hK => ?_
      | with_reducible refine W_region ?_
      | with_reducible refine VC_block ?_
      | with_reducible refine VC_scope ?_
      | with_reducible refine VC_if ?_
      | with_reducible refine VC_skip ?_
      | with_reducible refine VC_exit ?_
      | with_reducible refine VC_ret ?_
      | (with_reducible refine G_not (fun h => ?_) (fun h => ?_) <;> (try simp only [h]))
      | (with_reducible refine G_cases (fun h => ?_) (fun h => ?_) <;> (try simp only [h]))
      | refine C_pure kl rfl rfl (fun _ => rfl) ?_
      | refine C_pure kk rfl rfl (fun _ => rfl) ?_
      | (with_reducible refine hK _ ?_; clear hK K)
      | (clear hK K; with_reducible refine hK _ ?_; clear hK K)
      | (clear hK K; clear hK K; with_reducible refine hK _ ?_; clear hK K)
      | (clear hK K; clear hK K; clear hK K; with_reducible refine hK _ ?_; clear hK K)
      | (with_reducible refine todo ?_; simp +decide only [go_sem, hse]))
    exact Ret_d rfl rfl
  | true =>
    rw [hL] at kl
    obtain ⟨hn, hr⟩ := lightV_spec hL
    have hr' : ∀ v ∈ l, v.p.row.length ≤ 1048576 := fun v hv => Nat.le_trans (hr v hv) (by decide)
    have kp := Try.kPlainV l (by omega)
    rcases Nat.lt_or_ge 20 p.length with hp | hp
    · have hpT : ((20 : Int) < (p.length : Int)) = True := eq_true (by omega)
      refine Try.pure (md := []) Try.func4 rfl Try.call4 (by kernel_rfl) (by rfl) (by exact Nat.le_of_ble_eq_true rfl) ?_
      repeat' (first
        | with_reducible refine VC_seq fun K hK => ?_
        | with_reducible refine W_region ?_
        | with_reducible refine VC_block ?_
        | with_reducible refine VC_scope ?_
        | with_reducible refine VC_if ?_
        | with_reducible refine VC_skip ?_
        | with_reducible refine VC_exit ?_
        | with_reducible refine VC_ret ?_
        | (with_reducible refine G_not (fun h => ?_) (fun h => ?_) <;> (try simp only [h]))
        | (with_reducible refine G_cases (fun h => ?_) (fun h => ?_) <;> (try simp only [h]))
        | refine C_pure kl rfl rfl (fun _ => rfl) ?_
        | refine C_pure kk rfl rfl (fun _ => rfl) ?_
        | (with_reducible refine hK _ ?_; clear hK K)
        | (clear hK K; with_reducible refine hK _ ?_; clear hK K)
        | (clear hK K; clear hK K; with_reducible refine hK _ ?_; clear hK K)
        | (clear hK K; clear hK K; clear hK K; with_reducible refine hK _ ?_; clear hK K)
        | (with_reducible refine todo ?_; simp +decide only [go_sem, hse, hpT]))
      exact Ret_d rfl rfl
    · have hpT : ((20 : Int) < (p.length : Int)) = False := eq_false (by omega)
      refine Try.pure (md := []) Try.func4 rfl Try.call4 (by kernel_rfl) (by rfl) (by exact Nat.le_of_ble_eq_true rfl) ?_
      repeat' (first
        | with_reducible refine VC_seq fun K hK => ?_
        | with_reducible refine W_region ?_
        | with_reducible refine VC_block ?_
        | with_reducible refine VC_scope ?_
        | with_reducible refine VC_if ?_
        | with_reducible refine VC_skip ?_
        | with_reducible refine VC_exit ?_
        | with_reducible refine VC_ret ?_
        | (with_reducible refine G_not (fun h => ?_) (fun h => ?_) <;> (try simp only [h]))
        | (with_reducible refine G_cases (fun h => ?_) (fun h => ?_) <;> (try simp only [h]))
        | refine C_pure kl rfl rfl (fun _ => rfl) ?_
        | (with_reducible refine hK _ ?_; clear hK K)
        | (clear hK K; with_reducible refine hK _ ?_; clear hK K)
        | (clear hK K; clear hK K; with_reducible refine hK _ ?_; clear hK K)
        | (clear hK K; clear hK K; clear hK K; with_reducible refine hK _ ?_; clear hK K)
        | (with_reducible refine todo ?_; simp +decide only [go_sem, hse, hpT]))
      refine VC_range p.length (fun i => ∀ x ∈ p.take i, x.row.length ≤ 20) (fun i => frame [(0, pD (encVers l)), (1, pD (encPieces p)), (5, .c (.ptr 5 0)), (7, pD (.lit (.int .i64 i)))] [(5, [.d (.lit (.int .i64 s.1)), .d (.lit (.int .i64 s.2))])] []) (fun x hx => by cases hx) ?_ ?_
      · refine Weak_frame ?_ ?_ ?_ <;> simp +decide only [go_sem]
        exact wkP_ptr (by simp [hOf])
      · intro i hi hI
        rcases Nat.lt_or_ge i p.length with hlt | hge
        · have hg := List.getElem?_eq_getElem hlt
          have hd := int_lt_true hlt
          have hwi := int_next hlt (show p.length ≤ 4294967296 by omega)
          generalize p[i] = x at hg
          rcases Nat.lt_or_ge 20 x.row.length with hx | hx
          · have hxT : ((20 : Int) < (x.row.length : Int)) = True := eq_true (by omega)
            repeat' (first
              | with_reducible refine VC_seq fun K hK => ?_
              | with_reducible refine W_region ?_
              | with_reducible refine VC_block ?_
              | with_reducible refine VC_scope ?_
              | with_reducible refine VC_if ?_
              | with_reducible refine VC_skip ?_
              | with_reducible refine VC_exit ?_
              | with_reducible refine VC_ret ?_
              | (with_reducible refine G_not (fun h => ?_) (fun h => ?_) <;> (try simp only [h]))
              | (with_reducible refine G_cases (fun h => ?_) (fun h => ?_) <;> (try simp only [h]))
              | refine C_pure kk rfl rfl (fun _ => rfl) ?_
              | (with_reducible refine hK _ ?_; clear hK K)
              | (clear hK K; with_reducible refine hK _ ?_; clear hK K)
              | (clear hK K; clear hK K; with_reducible refine hK _ ?_; clear hK K)
              | (clear hK K; clear hK K; clear hK K; with_reducible refine hK _ ?_; clear hK K)
              | (with_reducible refine todo ?_; simp +decide only [go_sem, hg, hd, hxT]))
            exact Ret_d rfl rfl
          · have hxT : ((20 : Int) < (x.row.length : Int)) = False := eq_false (by omega)
            repeat' (first
              | with_reducible refine VC_seq fun K hK => ?_
              | with_reducible refine W_region ?_
              | with_reducible refine VC_block ?_
              | with_reducible refine VC_scope ?_
              | with_reducible refine VC_if ?_
              | with_reducible refine VC_skip ?_
              | with_reducible refine VC_exit ?_
              | with_reducible refine VC_ret ?_
              | (with_reducible refine G_not (fun h => ?_) (fun h => ?_) <;> (try simp only [h]))
              | (with_reducible refine G_cases (fun h => ?_) (fun h => ?_) <;> (try simp only [h]))
              | (with_reducible refine hK _ ?_; clear hK K)
              | (clear hK K; with_reducible refine hK _ ?_; clear hK K)
              | (clear hK K; clear hK K; with_reducible refine hK _ ?_; clear hK K)
              | (clear hK K; clear hK K; clear hK K; with_reducible refine hK _ ?_; clear hK K)
              | (with_reducible refine todo ?_; simp +decide only [go_sem, hg, hd, hwi, hxT]))
            have hI2 : ∀ y ∈ p.take (i + 1), y.row.length ≤ 20 := fun y hy => by
              rw [take_next hg] at hy
              rcases List.mem_append.1 hy with hy | hy
              · exact hI y hy
              · rw [List.mem_singleton.1 hy]; exact hx
            refine Next_of hlt hI2 (Weak_frame ?_ ?_ ?_) <;> simp +decide only [go_sem]
            exact wkP_ptr (by simp [hOf])
        · have hd := int_lt_false hge
          rw [List.take_of_length_le hge] at hI
          have hpr : ∀ x ∈ p, x.row.length ≤ 1048576 := fun x hx => Nat.le_trans (hI x hx) (by decide)
          have k1 := Try.kSet l s.1 p (by omega) hr' (by omega) hpr
          have r1 := Try.rSetV l s.1 p (by omega) hr' hok (by omega) hpr hok'
          have kpp := Try.kPieces p (by omega)
          have m1 : (vSet l s.1 p).length ≤ 50 := by
            have := vSetOf_length l s.1 p
            unfold vSet
            split
            · omega
            · simp
          have m2 : ∀ v ∈ vSet l s.1 p, v.p.row.length ≤ 1048576 := by
            unfold vSet
            split
            · rename_i hS
              exact vSetOf_rows (sets_iff.1 hS) hr' hpr
            · exact fun v hv => by cases hv
          generalize vSet l s.1 p = m at *
          generalize (if vSetOK l s.1 p = true then (0 : Int) else 1) = er at *
          have kpm := Try.kPlainV m (by omega)
          have s1 := Try.rSameV m m (by omega) m2
          rw [sameVers_self] at s1
          have k2 := Try.kBetween l s.1 s.2 (by omega) hr'
          have r2 := Try.rBetweenV l s.1 s.2 (by omega) hr' hok
          obtain ⟨b1, b2⟩ := vBetween_ok (N := 1048576) (M := 1048576) (lo := s.1) (hi := s.2) (show l.length ≤ 1048576 by omega) hr'
          generalize vBetween l s.1 s.2 = b at *
          have k2s := Try.kStates b (by omega) (fun w hw => (b1 w hw).1)
          have s2 := Try.rStates b b (by omega) b1
          rw [sameSts_self] at s2
          have k3 := Try.kSameV l m (by omega) hr'
          have s3 := Try.rSameV l m (by omega) hr'
          repeat' (first
            | with_reducible refine VC_seq fun K hK => ?_
            | with_reducible refine W_region ?_
            | with_reducible refine VC_block ?_
            | with_reducible refine VC_scope ?_
            | with_reducible refine VC_if ?_
            | with_reducible refine VC_skip ?_
            | with_reducible refine VC_exit ?_
            | with_reducible refine VC_ret ?_
            | (with_reducible refine G_not (fun h => ?_) (fun h => ?_) <;> (try simp only [h]))
            | (with_reducible refine G_cases (fun h => ?_) (fun h => ?_) <;> (try simp only [h]))
            | refine C_pure kk rfl rfl (fun _ => rfl) ?_
            | refine C_pure kp rfl rfl (fun _ => rfl) ?_
            | refine C_pure k1 rfl rfl (fun _ => rfl) ?_
            | refine C_pure r1 rfl rfl (fun _ => rfl) ?_
            | refine C_pure kpp rfl rfl (fun _ => rfl) ?_
            | refine C_pure kpm rfl rfl (fun _ => rfl) ?_
            | refine C_pure s1 rfl rfl (fun _ => rfl) ?_
            | refine C_pure k2 rfl rfl (fun _ => rfl) ?_
            | refine C_pure r2 rfl rfl (fun _ => rfl) ?_
            | refine C_pure k2s rfl rfl (fun _ => rfl) ?_
            | refine C_pure s2 rfl rfl (fun _ => rfl) ?_
            | refine C_pure k3 rfl rfl (fun _ => rfl) ?_
            | refine C_pure s3 rfl rfl (fun _ => rfl) ?_
            | (with_reducible refine hK _ ?_; clear hK K)
            | (clear hK K; with_reducible refine hK _ ?_; clear hK K)
            | (clear hK K; clear hK K; with_reducible refine hK _ ?_; clear hK K)
            | (clear hK K; clear hK K; clear hK K; with_reducible refine hK _ ?_; clear hK K)
            | (with_reducible refine todo ?_; simp +decide only [go_sem, hd, beq_self_eq_true]))
          exact Ret_d rfl rfl
end Go.Proofs
