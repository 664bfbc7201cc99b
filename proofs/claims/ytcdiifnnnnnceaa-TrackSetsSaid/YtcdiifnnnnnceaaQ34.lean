import Derived.Test.YtcdiifnnnnnceaaQ33

/-
  The document's versions: Between.
-/

namespace Go.Proofs
open Go.PW

/-- Told states are of something. -/
def NEs (out : List TSt) : Prop := ∀ w ∈ out, w.ps ≠ []
theorem goesOn_empty {out : List TSt} {t : Int} (h : NEs out) : goesOn out t [] = false := by
  unfold goesOn
  cases hw : out[out.length - 1]? with
  | none => rfl
  | some w =>
    have := h w (List.mem_of_getElem? hw)
    have e : samePieces w.ps [] = false := by
      cases hs : samePieces w.ps [] with
      | false => rfl
      | true => exact absurd (samePieces_iff.1 hs) this
    show ((w.sh == t) && samePieces w.ps []) = false
    rw [e]
    exact Bool.and_false _
theorem NEs_step {l : List Ver} {t n : Int} {out : List TSt} (h : NEs out) : NEs (betwStep l t n out) := by
  unfold betwStep
  split
  · exact h
  · rename_i hp
    split
    · unfold lastTo
      split
      · rename_i w hw
        intro x hx
        rcases List.mem_or_eq_of_mem_set hx with hx | rfl
        · exact h x hx
        · exact h w (List.mem_of_getElem? hw)
      · exact h
    · intro x hx
      rcases List.mem_append.1 hx with hx | hx
      · exact h x hx
      · rw [List.mem_singleton.1 hx]
        exact fun e => hp (congrArg List.length (show coalesce (vAt l t) = [] from e))
theorem betwStep_eq {l : List Ver} {t n : Int} {out : List TSt} (h : NEs out) : betwStep l t n out =
    if goesOn out t (coalesce (vAt l t)) = true then lastTo out n else if 0 < (coalesce (vAt l t)).length then out ++ [⟨t, n, coalesce (vAt l t)⟩] else out := by
  unfold betwStep
  generalize coalesce (vAt l t) = p
  rcases Nat.eq_zero_or_pos p.length with h0 | h0
  · rw [if_pos h0]
    rw [List.eq_nil_of_length_eq_zero h0, goesOn_empty h]
    rfl
  · rw [if_neg (by omega), if_pos h0]

set_option maxRecDepth 8000 in
set_option maxHeartbeats 16000000 in
theorem Try.rBetweenV (l : List Ver) (lo hi : Int) (hn : l.length ≤ 131072) (hr : ∀ v ∈ l, v.p.row.length ≤ 1048576) (hok : rowsOKV l) : PureOK Try.prog 30 [pD (encVers l), pA (encSpan lo hi)] (.one (.d (encSts (vBetween l lo hi)))) := by
  refine Try.pure (md := []) Try.func30 rfl Try.call30 (by kernel_rfl) (by rfl) (by exact Nat.le_of_ble_eq_true rfl) ?_
  have kr := Try.rRightV l (by omega) hr hok
  have ks := Try.rSpanRight lo hi
  cases hR : vRight l with
  | false =>
    rw [hR] at kr
    have e : vBetween l lo hi = [] := by rw [vBetween, hR]; rfl
    repeat' (first
      | with_reducible refine VC_seq fun K hK => ?_
      | with_reducible refine W_region ?_
      | with_reducible refine VC_block ?_
      | with_reducible refine VC_scope ?_
      | with_reducible refine VC_if ?_
      | with_reducible refine VC_skip ?_
      | with_reducible refine VC_exit ?_
      | with_reducible refine VC_ret ?_
      | (with_reducible refine G_not (fun h => ?_) (fun h => ?_) <;> (try simp only [h]))
      | (with_reducible refine G_cases (fun h => ?_) (fun h => ?_) <;> (try simp only [h]))
      | refine C_pure kr rfl rfl (fun _ => rfl) ?_
      | (with_reducible refine hK _ ?_; clear hK K)
      | (clear hK K; with_reducible refine hK _ ?_; clear hK K)
      | (clear hK K; clear hK K; with_reducible refine hK _ ?_; clear hK K)
      | (clear hK K; clear hK K; clear hK K; with_reducible refine hK _ ?_; clear hK K)
      | (with_reducible refine todo ?_; simp +decide only [go_sem]))
    rw [e]
    exact Ret_d rfl rfl
  | true =>
    rw [hR] at kr
    cases hS : Span.right lo hi with
    | false =>
      rw [hS] at ks
      have e : vBetween l lo hi = [] := by rw [vBetween, hR, hS]; rfl
      repeat' (first
        | with_reducible refine VC_seq fun K hK => ?_
        | with_reducible refine W_region ?_
        | with_reducible refine VC_block ?_
        | with_reducible refine VC_scope ?_
        | with_reducible refine VC_if ?_
        | with_reducible refine VC_skip ?_
        | with_reducible refine VC_exit ?_
        | with_reducible refine VC_ret ?_
        | (with_reducible refine G_not (fun h => ?_) (fun h => ?_) <;> (try simp only [h]))
        | (with_reducible refine G_cases (fun h => ?_) (fun h => ?_) <;> (try simp only [h]))
        | refine C_pure kr rfl rfl (fun _ => rfl) ?_
        | refine C_pure ks rfl rfl (fun _ => rfl) ?_
        | (with_reducible refine hK _ ?_; clear hK K)
        | (clear hK K; with_reducible refine hK _ ?_; clear hK K)
        | (clear hK K; clear hK K; with_reducible refine hK _ ?_; clear hK K)
        | (clear hK K; clear hK K; clear hK K; with_reducible refine hK _ ?_; clear hK K)
        | (with_reducible refine todo ?_; simp +decide only [go_sem]))
      rw [e]
      exact Ret_d rfl rfl
    | true =>
      rw [hS] at ks
      have e : vBetween l lo hi = betw l hi lo [] := by rw [vBetween, hR, hS]; rfl
      rw [e]
      repeat' (first
        | with_reducible refine VC_seq fun K hK => ?_
        | with_reducible refine W_region ?_
        | with_reducible refine VC_block ?_
        | with_reducible refine VC_scope ?_
        | with_reducible refine VC_if ?_
        | with_reducible refine VC_skip ?_
        | with_reducible refine VC_exit ?_
        | with_reducible refine VC_ret ?_
        | (with_reducible refine G_not (fun h => ?_) (fun h => ?_) <;> (try simp only [h]))
        | (with_reducible refine G_cases (fun h => ?_) (fun h => ?_) <;> (try simp only [h]))
        | refine C_pure kr rfl rfl (fun _ => rfl) ?_
        | refine C_pure ks rfl rfl (fun _ => rfl) ?_
        | (with_reducible refine hK _ ?_; clear hK K)
        | (clear hK K; with_reducible refine hK _ ?_; clear hK K)
        | (clear hK K; clear hK K; with_reducible refine hK _ ?_; clear hK K)
        | (clear hK K; clear hK K; clear hK K; with_reducible refine hK _ ?_; clear hK K)
        | (with_reducible refine todo ?_; simp +decide only [go_sem]))
      refine VC_while (ι := Int × List TSt) (fun x => betw l hi x.1 x.2 = betw l hi lo [] ∧ x.2.length + left l hi x.1 ≤ left l hi lo ∧ TOK 131072 1048576 x.2 ∧ NEs x.2)
        (fun x => frame [(0, pD (encVers l)), (3, .c (.ptr 3 0)), (5, .c (.mt (110, 0) 3 x.2.length)), (6, pD (.lit (.int .i64 x.1)))] [(3, [.d (.lit (.int .i64 lo)), .d (.lit (.int .i64 hi))])] [((110, 0), .mu 3 (x.2.map TSt.enc))])
        (fun x => left l hi x.1) (lo, []) ⟨rfl, by simp, fun w hw => by (cases hw), fun w hw => by (cases hw)⟩ ?_ ?_
      · refine Weak_frame ?_ ?_ ?_ <;> simp +decide only [go_sem]
        exact ⟨wkP_ptr (by simp [hOf]), wkP_mt0 rfl rfl⟩
      · rintro ⟨t, out⟩ ⟨hI1, hI2, hI3, hI4⟩
        have hle := left_le l hi lo
        simp only at hI1 hI2 hI3 hI4
        rcases Int.lt_or_le t hi with hlt | hge
        · have hd : (t < hi) = True := eq_true hlt
          repeat' (first
            | with_reducible refine VC_seq fun K hK => ?_
            | with_reducible refine W_region ?_
            | with_reducible refine VC_block ?_
            | with_reducible refine VC_scope ?_
            | with_reducible refine VC_if ?_
            | with_reducible refine VC_skip ?_
            | with_reducible refine VC_exit ?_
            | with_reducible refine VC_ret ?_
            | (with_reducible refine G_not (fun h => ?_) (fun h => ?_) <;> (try simp only [h]))
            | (with_reducible refine G_cases (fun h => ?_) (fun h => ?_) <;> (try simp only [h]))
            | (with_reducible refine hK _ ?_; clear hK K)
            | (clear hK K; with_reducible refine hK _ ?_; clear hK K)
            | (clear hK K; clear hK K; with_reducible refine hK _ ?_; clear hK K)
            | (clear hK K; clear hK K; clear hK K; with_reducible refine hK _ ?_; clear hK K)
            | (with_reducible refine todo ?_; simp +decide only [go_sem, hd]))
          refine VC_range l.length (fun _ => True) (fun i => frame [(0, pD (encVers l)), (3, .c (.ptr 3 0)), (5, .c (.mt (110, 0) 3 out.length)), (6, pD (.lit (.int .i64 t))), (7, pD (.lit (.int .i64 (vNext (l.take i) t hi)))), (8, pD (.lit (.int .i64 i)))] [(3, [.d (.lit (.int .i64 lo)), .d (.lit (.int .i64 hi))])] [((110, 0), .mu 3 (out.map TSt.enc))]) True.intro ?_ ?_
          · refine Weak_frame ?_ ?_ ?_ <;> simp +decide only [go_sem, vNext, List.foldl_nil]
            exact ⟨wkP_ptr (by simp [hOf]), wkP_mt (by simp [aOf]) rfl⟩
          · intro i hi' hI
            rcases Nat.lt_or_ge i l.length with hil | hige
            · have hg := List.getElem?_eq_getElem hil
              have hdi := int_lt_true hil
              have hwi := int_next hil (show l.length ≤ 4294967296 by omega)
              generalize l[i] = x at hg
              have hnx : vNext (l.take (i + 1)) t hi = nextStep t (vNext (l.take i) t hi) x := foldl_next hg
              generalize vNext (l.take i) t hi = m at *
              have hm2 : nextStep t m x = next1 t (next1 t m x.sl) x.sh := rfl
              cases a1 : decide (t < x.sl) with
              | false =>
                have v1 : next1 t m x.sl = m := by unfold next1; rw [a1]; rfl
                cases a2 : decide (t < x.sh) with
                | false =>
                  have v2 : next1 t m x.sh = m := by unfold next1; rw [a2]; rfl
                  repeat' (first
                    | with_reducible refine VC_seq fun K hK => ?_
                    | with_reducible refine W_region ?_
                    | with_reducible refine VC_block ?_
                    | with_reducible refine VC_scope ?_
                    | with_reducible refine VC_if ?_
                    | with_reducible refine VC_skip ?_
                    | with_reducible refine VC_exit ?_
                    | with_reducible refine VC_ret ?_
                    | (with_reducible refine G_not (fun h => ?_) (fun h => ?_) <;> (try simp only [h]))
                    | (with_reducible refine G_cases (fun h => ?_) (fun h => ?_) <;> (try simp only [h]))
                    | (with_reducible refine hK _ ?_; clear hK K)
                    | (clear hK K; with_reducible refine hK _ ?_; clear hK K)
                    | (clear hK K; clear hK K; with_reducible refine hK _ ?_; clear hK K)
                    | (clear hK K; clear hK K; clear hK K; with_reducible refine hK _ ?_; clear hK K)
                    | (with_reducible refine todo ?_; simp +decide only [go_sem, hg, hdi, hwi, a1, a2]))
                  refine Next_of hil True.intro (Weak_frame ?_ ?_ ?_) <;> simp +decide only [go_sem, hnx, hm2, v1, v2]
                  exact ⟨wkP_ptr (by simp [hOf]), wkP_mt (by simp [aOf]) rfl⟩
                | true =>
                  have v2 : next1 t m x.sh = if x.sh < m then x.sh else m := by unfold next1; rw [a2]; rfl
                  repeat' (first
                    | with_reducible refine VC_seq fun K hK => ?_
                    | with_reducible refine W_region ?_
                    | with_reducible refine VC_block ?_
                    | with_reducible refine VC_scope ?_
                    | with_reducible refine VC_if ?_
                    | with_reducible refine VC_skip ?_
                    | with_reducible refine VC_exit ?_
                    | with_reducible refine VC_ret ?_
                    | (with_reducible refine G_not (fun h => ?_) (fun h => ?_) <;> (try simp only [h]))
                    | (with_reducible refine G_cases (fun h => ?_) (fun h => ?_) <;> (try simp only [h]))
                    | (with_reducible refine hK _ ?_; clear hK K)
                    | (clear hK K; with_reducible refine hK _ ?_; clear hK K)
                    | (clear hK K; clear hK K; with_reducible refine hK _ ?_; clear hK K)
                    | (clear hK K; clear hK K; clear hK K; with_reducible refine hK _ ?_; clear hK K)
                    | (with_reducible refine todo ?_; simp +decide only [go_sem, hg, hdi, hwi, a1, a2]))
                  refine Next_of hil True.intro (Weak_frame ?_ ?_ ?_) <;> simp +decide only [go_sem, hnx, hm2, v1, v2]
                  exact ⟨wkP_ptr (by simp [hOf]), wkP_mt (by simp [aOf]) rfl⟩
              | true =>
                have v1 : next1 t m x.sl = if x.sl < m then x.sl else m := by unfold next1; rw [a1]; rfl
                generalize hm1 : (if x.sl < m then x.sl else m) = m1 at *
                cases a2 : decide (t < x.sh) with
                | false =>
                  have v2 : next1 t m1 x.sh = m1 := by unfold next1; rw [a2]; rfl
                  repeat' (first
                    | with_reducible refine VC_seq fun K hK => ?_
                    | with_reducible refine W_region ?_
                    | with_reducible refine VC_block ?_
                    | with_reducible refine VC_scope ?_
                    | with_reducible refine VC_if ?_
                    | with_reducible refine VC_skip ?_
                    | with_reducible refine VC_exit ?_
                    | with_reducible refine VC_ret ?_
                    | (with_reducible refine G_not (fun h => ?_) (fun h => ?_) <;> (try simp only [h]))
                    | (with_reducible refine G_cases (fun h => ?_) (fun h => ?_) <;> (try simp only [h]))
                    | (with_reducible refine hK _ ?_; clear hK K)
                    | (clear hK K; with_reducible refine hK _ ?_; clear hK K)
                    | (clear hK K; clear hK K; with_reducible refine hK _ ?_; clear hK K)
                    | (clear hK K; clear hK K; clear hK K; with_reducible refine hK _ ?_; clear hK K)
                    | (with_reducible refine todo ?_; simp +decide only [go_sem, hg, hdi, hwi, a1, a2, hm1]))
                  refine Next_of hil True.intro (Weak_frame ?_ ?_ ?_) <;> simp +decide only [go_sem, hnx, hm2, v1, v2]
                  exact ⟨wkP_ptr (by simp [hOf]), wkP_mt (by simp [aOf]) rfl⟩
                | true =>
                  have v2 : next1 t m1 x.sh = if x.sh < m1 then x.sh else m1 := by unfold next1; rw [a2]; rfl
                  repeat' (first
                    | with_reducible refine VC_seq fun K hK => ?_
                    | with_reducible refine W_region ?_
                    | with_reducible refine VC_block ?_
                    | with_reducible refine VC_scope ?_
                    | with_reducible refine VC_if ?_
                    | with_reducible refine VC_skip ?_
                    | with_reducible refine VC_exit ?_
                    | with_reducible refine VC_ret ?_
                    | (with_reducible refine G_not (fun h => ?_) (fun h => ?_) <;> (try simp only [h]))
                    | (with_reducible refine G_cases (fun h => ?_) (fun h => ?_) <;> (try simp only [h]))
                    | (with_reducible refine hK _ ?_; clear hK K)
                    | (clear hK K; with_reducible refine hK _ ?_; clear hK K)
                    | (clear hK K; clear hK K; with_reducible refine hK _ ?_; clear hK K)
                    | (clear hK K; clear hK K; clear hK K; with_reducible refine hK _ ?_; clear hK K)
                    | (with_reducible refine todo ?_; simp +decide only [go_sem, hg, hdi, hwi, a1, a2, hm1]))
                  refine Next_of hil True.intro (Weak_frame ?_ ?_ ?_) <;> simp +decide only [go_sem, hnx, hm2, v1, v2]
                  exact ⟨wkP_ptr (by simp [hOf]), wkP_mt (by simp [aOf]) rfl⟩
            · have hdi := int_lt_false hige
              rw [List.take_of_length_le hige]
              have hbg := betw_go (l := l) (out := out) hlt
              have hll := left_lt (l := l) hlt
              have hso := betwStep_ok (n := vNext l t hi) (t := t) hn hr hI3
              have hne := NEs_step (l := l) (t := t) (n := vNext l t hi) hI4
              generalize vNext l t hi = n at *
              have hst := betwStep_eq (l := l) (t := t) (n := n) hI4
              have ka := Try.rAtV l t hn hr hok
              have kc := Try.rCoalesce (vAt l t) (Nat.le_trans (vAt_length _ _) (by omega)) (fun y hy => by obtain ⟨v, hv, e⟩ := vAt_mem hy; rw [e]; exact hr v hv) (rowsOK_at hok t)
              generalize coalesce (vAt l t) = p at *
              generalize betwStep l t n out = nout at *
              rcases Nat.eq_zero_or_pos out.length with h0 | h0
              · have hgo : goesOn out t p = false := by rw [goesOn, List.getElem?_eq_none (by omega)]
                have hw1 : IntKind.i64.wrap ((out.length : Int) - 1) = -1 := by rw [h0]; decide
                rcases Nat.eq_zero_or_pos p.length with hp | hp
                · have hz : ((0 : Int) < (p.length : Int)) = False := eq_false (by omega)
                  have hst : nout = out := by rw [hst, hgo, if_neg (by decide), if_neg (by omega)]
                  subst hst
                  repeat' (first
                    | with_reducible refine VC_seq fun K hK => ?_
                    | with_reducible refine W_region ?_
                    | with_reducible refine VC_block ?_
                    | with_reducible refine VC_scope ?_
                    | with_reducible refine VC_if ?_
                    | with_reducible refine VC_skip ?_
                    | with_reducible refine VC_exit ?_
                    | with_reducible refine VC_ret ?_
                    | (with_reducible refine G_not (fun h => ?_) (fun h => ?_) <;> (try simp only [h]))
                    | (with_reducible refine G_cases (fun h => ?_) (fun h => ?_) <;> (try simp only [h]))
                    | refine C_pure ka rfl rfl (fun _ => rfl) ?_
                    | refine C_pure kc rfl rfl (fun _ => rfl) ?_
                    | (with_reducible refine hK _ ?_; clear hK K)
                    | (clear hK K; with_reducible refine hK _ ?_; clear hK K)
                    | (clear hK K; clear hK K; with_reducible refine hK _ ?_; clear hK K)
                    | (clear hK K; clear hK K; clear hK K; with_reducible refine hK _ ?_; clear hK K)
                    | (with_reducible refine todo ?_; simp +decide only [go_sem, hdi, hw1, hz]))
                  refine ⟨⟨(n, nout), ⟨by rw [← hbg]; exact hI1, by simp only; omega, hI3, hne⟩⟩, Weak_frame ?_ ?_ ?_, hll⟩ <;> simp +decide only [go_sem]
                  exact ⟨wkP_ptr (by simp [hOf]), wkP_mt (by simp [aOf]) rfl⟩
                · have hz : ((0 : Int) < (p.length : Int)) = True := eq_true (by omega)
                  have hst : nout = out ++ [⟨t, n, p⟩] := by rw [hst, hgo, if_neg (by decide), if_pos hp]
                  subst hst
                  repeat' (first
                    | with_reducible refine VC_seq fun K hK => ?_
                    | with_reducible refine W_region ?_
                    | with_reducible refine VC_block ?_
                    | with_reducible refine VC_scope ?_
                    | with_reducible refine VC_if ?_
                    | with_reducible refine VC_skip ?_
                    | with_reducible refine VC_exit ?_
                    | with_reducible refine VC_ret ?_
                    | (with_reducible refine G_not (fun h => ?_) (fun h => ?_) <;> (try simp only [h]))
                    | (with_reducible refine G_cases (fun h => ?_) (fun h => ?_) <;> (try simp only [h]))
                    | refine C_pure ka rfl rfl (fun _ => rfl) ?_
                    | refine C_pure kc rfl rfl (fun _ => rfl) ?_
                    | (refine W_mt Try.appRefS (els := out.map TSt.enc) (by simp +decide only [go_sem]) (by simp +decide only [go_sem]) rfl (szOne rfl) (by simp; omega) ?_)
                    | (with_reducible refine hK _ ?_; clear hK K)
                    | (clear hK K; with_reducible refine hK _ ?_; clear hK K)
                    | (clear hK K; clear hK K; with_reducible refine hK _ ?_; clear hK K)
                    | (clear hK K; clear hK K; clear hK K; with_reducible refine hK _ ?_; clear hK K)
                    | (with_reducible refine todo ?_; simp +decide only [go_sem, hdi, hw1, hz]))
                  refine ⟨⟨(n, out ++ [⟨t, n, p⟩]), ⟨by rw [← hbg]; exact hI1, by simp only [List.length_append, List.length_singleton]; omega, hso.1, hne⟩⟩, Weak_frame ?_ ?_ ?_, hll⟩ <;> simp +decide only [go_sem]
                  exact ⟨wkP_ptr (by simp [hOf]), wkP_mt (by simp [aOf]) (by simp [aOf, upd])⟩
              · have hw1 : IntKind.i64.wrap ((out.length : Int) - 1) = ((out.length - 1 : Nat) : Int) := by rw [Go.IntWalk.i64_in _ (by omega)]; omega
                have hk0 : ((0 : Int) ≤ ((out.length - 1 : Nat) : Int)) = True := eq_true (by omega)
                have hl : (out.length - 1 < out.length) = True := eq_true (by omega)
                have hg := List.getElem?_eq_getElem (show out.length - 1 < out.length by omega)
                generalize out[out.length - 1] = w at hg
                have hwr := hI3 w (List.mem_of_getElem? hg)
                have ks := Try.rSame w.ps p (by omega) hwr.2
                have hgo := goesOn_some (t := t) (p := p) hg
                cases e1 : (w.sh == t) with
                | false =>
                  rw [e1] at hgo
                  have hgo : goesOn out t p = false := hgo
                  rcases Nat.eq_zero_or_pos p.length with hp | hp
                  · have hz : ((0 : Int) < (p.length : Int)) = False := eq_false (by omega)
                    have hst : nout = out := by rw [hst, hgo, if_neg (by decide), if_neg (by omega)]
                    subst hst
                    repeat' (first
                      | with_reducible refine VC_seq fun K hK => ?_
                      | with_reducible refine W_region ?_
                      | with_reducible refine VC_block ?_
                      | with_reducible refine VC_scope ?_
                      | with_reducible refine VC_if ?_
                      | with_reducible refine VC_skip ?_
                      | with_reducible refine VC_exit ?_
                      | with_reducible refine VC_ret ?_
                      | (with_reducible refine G_not (fun h => ?_) (fun h => ?_) <;> (try simp only [h]))
                      | (with_reducible refine G_cases (fun h => ?_) (fun h => ?_) <;> (try simp only [h]))
                      | refine C_pure ka rfl rfl (fun _ => rfl) ?_
                      | refine C_pure kc rfl rfl (fun _ => rfl) ?_
                      | (with_reducible refine hK _ ?_; clear hK K)
                      | (clear hK K; with_reducible refine hK _ ?_; clear hK K)
                      | (clear hK K; clear hK K; with_reducible refine hK _ ?_; clear hK K)
                      | (clear hK K; clear hK K; clear hK K; with_reducible refine hK _ ?_; clear hK K)
                      | (with_reducible refine todo ?_; simp +decide only [go_sem, hdi, hw1, hk0, hl, iE_mt, hg, e1, hz]))
                    refine ⟨⟨(n, nout), ⟨by rw [← hbg]; exact hI1, by simp only; omega, hI3, hne⟩⟩, Weak_frame ?_ ?_ ?_, hll⟩ <;> simp +decide only [go_sem]
                    exact ⟨wkP_ptr (by simp [hOf]), wkP_mt (by simp [aOf]) rfl⟩
                  · have hz : ((0 : Int) < (p.length : Int)) = True := eq_true (by omega)
                    have hst : nout = out ++ [⟨t, n, p⟩] := by rw [hst, hgo, if_neg (by decide), if_pos hp]
                    subst hst
                    repeat' (first
                      | with_reducible refine VC_seq fun K hK => ?_
                      | with_reducible refine W_region ?_
                      | with_reducible refine VC_block ?_
                      | with_reducible refine VC_scope ?_
                      | with_reducible refine VC_if ?_
                      | with_reducible refine VC_skip ?_
                      | with_reducible refine VC_exit ?_
                      | with_reducible refine VC_ret ?_
                      | (with_reducible refine G_not (fun h => ?_) (fun h => ?_) <;> (try simp only [h]))
                      | (with_reducible refine G_cases (fun h => ?_) (fun h => ?_) <;> (try simp only [h]))
                      | refine C_pure ka rfl rfl (fun _ => rfl) ?_
                      | refine C_pure kc rfl rfl (fun _ => rfl) ?_
                      | (refine W_mt Try.appRefS (els := out.map TSt.enc) (by simp +decide only [go_sem]) (by simp +decide only [go_sem]) rfl (szOne rfl) (by simp; omega) ?_)
                      | (with_reducible refine hK _ ?_; clear hK K)
                      | (clear hK K; with_reducible refine hK _ ?_; clear hK K)
                      | (clear hK K; clear hK K; with_reducible refine hK _ ?_; clear hK K)
                      | (clear hK K; clear hK K; clear hK K; with_reducible refine hK _ ?_; clear hK K)
                      | (with_reducible refine todo ?_; simp +decide only [go_sem, hdi, hw1, hk0, hl, iE_mt, hg, e1, hz]))
                    refine ⟨⟨(n, out ++ [⟨t, n, p⟩]), ⟨by rw [← hbg]; exact hI1, by simp only [List.length_append, List.length_singleton]; omega, hso.1, hne⟩⟩, Weak_frame ?_ ?_ ?_, hll⟩ <;> simp +decide only [go_sem]
                    exact ⟨wkP_ptr (by simp [hOf]), wkP_mt (by simp [aOf]) (by simp [aOf, upd])⟩
                | true =>
                  rw [e1] at hgo
                  cases e2 : samePieces w.ps p with
                  | false =>
                    rw [e2] at hgo ks
                    have hgo : goesOn out t p = false := hgo
                    rcases Nat.eq_zero_or_pos p.length with hp | hp
                    · have hz : ((0 : Int) < (p.length : Int)) = False := eq_false (by omega)
                      have hst : nout = out := by rw [hst, hgo, if_neg (by decide), if_neg (by omega)]
                      subst hst
                      repeat' (first
                        | with_reducible refine VC_seq fun K hK => ?_
                        | with_reducible refine W_region ?_
                        | with_reducible refine VC_block ?_
                        | with_reducible refine VC_scope ?_
                        | with_reducible refine VC_if ?_
                        | with_reducible refine VC_skip ?_
                        | with_reducible refine VC_exit ?_
                        | with_reducible refine VC_ret ?_
                        | (with_reducible refine G_not (fun h => ?_) (fun h => ?_) <;> (try simp only [h]))
                        | (with_reducible refine G_cases (fun h => ?_) (fun h => ?_) <;> (try simp only [h]))
                        | refine C_pure ka rfl rfl (fun _ => rfl) ?_
                        | refine C_pure kc rfl rfl (fun _ => rfl) ?_
                        | refine C_pure ks rfl rfl (fun _ => rfl) ?_
                        | (with_reducible refine hK _ ?_; clear hK K)
                        | (clear hK K; with_reducible refine hK _ ?_; clear hK K)
                        | (clear hK K; clear hK K; with_reducible refine hK _ ?_; clear hK K)
                        | (clear hK K; clear hK K; clear hK K; with_reducible refine hK _ ?_; clear hK K)
                        | (with_reducible refine todo ?_; simp +decide only [go_sem, hdi, hw1, hk0, hl, iE_mt, hg, e1, hz]))
                      refine ⟨⟨(n, nout), ⟨by rw [← hbg]; exact hI1, by simp only; omega, hI3, hne⟩⟩, Weak_frame ?_ ?_ ?_, hll⟩ <;> simp +decide only [go_sem]
                      exact ⟨wkP_ptr (by simp [hOf]), wkP_mt (by simp [aOf]) rfl⟩
                    · have hz : ((0 : Int) < (p.length : Int)) = True := eq_true (by omega)
                      have hst : nout = out ++ [⟨t, n, p⟩] := by rw [hst, hgo, if_neg (by decide), if_pos hp]
                      subst hst
                      repeat' (first
                        | with_reducible refine VC_seq fun K hK => ?_
                        | with_reducible refine W_region ?_
                        | with_reducible refine VC_block ?_
                        | with_reducible refine VC_scope ?_
                        | with_reducible refine VC_if ?_
                        | with_reducible refine VC_skip ?_
                        | with_reducible refine VC_exit ?_
                        | with_reducible refine VC_ret ?_
                        | (with_reducible refine G_not (fun h => ?_) (fun h => ?_) <;> (try simp only [h]))
                        | (with_reducible refine G_cases (fun h => ?_) (fun h => ?_) <;> (try simp only [h]))
                        | refine C_pure ka rfl rfl (fun _ => rfl) ?_
                        | refine C_pure kc rfl rfl (fun _ => rfl) ?_
                        | refine C_pure ks rfl rfl (fun _ => rfl) ?_
                        | (refine W_mt Try.appRefS (els := out.map TSt.enc) (by simp +decide only [go_sem]) (by simp +decide only [go_sem]) rfl (szOne rfl) (by simp; omega) ?_)
                        | (with_reducible refine hK _ ?_; clear hK K)
                        | (clear hK K; with_reducible refine hK _ ?_; clear hK K)
                        | (clear hK K; clear hK K; with_reducible refine hK _ ?_; clear hK K)
                        | (clear hK K; clear hK K; clear hK K; with_reducible refine hK _ ?_; clear hK K)
                        | (with_reducible refine todo ?_; simp +decide only [go_sem, hdi, hw1, hk0, hl, iE_mt, hg, e1, hz]))
                      refine ⟨⟨(n, out ++ [⟨t, n, p⟩]), ⟨by rw [← hbg]; exact hI1, by simp only [List.length_append, List.length_singleton]; omega, hso.1, hne⟩⟩, Weak_frame ?_ ?_ ?_, hll⟩ <;> simp +decide only [go_sem]
                      exact ⟨wkP_ptr (by simp [hOf]), wkP_mt (by simp [aOf]) (by simp [aOf, upd])⟩
                  | true =>
                    rw [e2] at hgo ks
                    have hgo : goesOn out t p = true := hgo
                    have hlt1 := lastTo_some (t := n) hg
                    have hst : nout = out.set (out.length - 1) { w with sh := n } := by rw [hst, hgo, if_pos rfl, hlt1]
                    subst hst
                    repeat' (first
                      | with_reducible refine VC_seq fun K hK => ?_
                      | with_reducible refine W_region ?_
                      | with_reducible refine VC_block ?_
                      | with_reducible refine VC_scope ?_
                      | with_reducible refine VC_if ?_
                      | with_reducible refine VC_skip ?_
                      | with_reducible refine VC_exit ?_
                      | with_reducible refine VC_ret ?_
                      | (with_reducible refine G_not (fun h => ?_) (fun h => ?_) <;> (try simp only [h]))
                      | (with_reducible refine G_cases (fun h => ?_) (fun h => ?_) <;> (try simp only [h]))
                      | refine C_pure ka rfl rfl (fun _ => rfl) ?_
                      | refine C_pure kc rfl rfl (fun _ => rfl) ?_
                      | refine C_pure ks rfl rfl (fun _ => rfl) ?_
                      | (with_reducible refine hK _ ?_; clear hK K)
                      | (clear hK K; with_reducible refine hK _ ?_; clear hK K)
                      | (clear hK K; clear hK K; with_reducible refine hK _ ?_; clear hK K)
                      | (clear hK K; clear hK K; clear hK K; with_reducible refine hK _ ?_; clear hK K)
                      | (with_reducible refine todo ?_; simp +decide only [go_sem, hdi, hw1, hk0, hl, iE_mt, hg, e1]))
                    refine ⟨⟨(n, out.set (out.length - 1) { w with sh := n }), ⟨by rw [← hbg]; exact hI1, by simp only [List.length_set]; omega, hso.1, hne⟩⟩, Weak_frame ?_ ?_ ?_, hll⟩ <;> simp +decide only [go_sem, List.map_set, List.length_set]
                    exact ⟨wkP_ptr (by simp [hOf]), wkP_mt (by simp [aOf]) (by simp [aOf, upd])⟩
        · have hd : (t < hi) = False := eq_false (by omega)
          have hbe : betw l hi t out = out := betw_end (by omega)
          have hfin : betw l hi lo [] = out := by rw [← hI1, hbe]
          repeat' (first
            | with_reducible refine VC_seq fun K hK => ?_
            | with_reducible refine W_region ?_
            | with_reducible refine VC_block ?_
            | with_reducible refine VC_scope ?_
            | with_reducible refine VC_if ?_
            | with_reducible refine VC_skip ?_
            | with_reducible refine VC_exit ?_
            | with_reducible refine VC_ret ?_
            | (with_reducible refine G_not (fun h => ?_) (fun h => ?_) <;> (try simp only [h]))
            | (with_reducible refine G_cases (fun h => ?_) (fun h => ?_) <;> (try simp only [h]))
            | (with_reducible refine hK _ ?_; clear hK K)
            | (clear hK K; with_reducible refine hK _ ?_; clear hK K)
            | (clear hK K; clear hK K; with_reducible refine hK _ ?_; clear hK K)
            | (clear hK K; clear hK K; clear hK K; with_reducible refine hK _ ?_; clear hK K)
            | (with_reducible refine todo ?_; simp +decide only [go_sem, hd]))
          rw [hfin]
          exact Ret_mt (110, 0) rfl (sz := 3) (by simp +decide only [go_sem]) (by simp +decide only [go_sem])
end Go.Proofs
