import Derived.Test.YtcdiifnnnnnceaaQ31

/-
  The document's versions: Coalesce.
-/

namespace Go.Proofs
open Go.PW

theorem vCo_next1 {l : List Ver} {x : Ver} {i : Nat} (h : l[i]? = some x) : vCo (l.take (i + 1)) = joinStep (vCo (l.take i)) x := by
  rw [take_next h, vCo, List.foldl_append]; rfl

set_option maxRecDepth 8000 in
set_option maxHeartbeats 16000000 in
theorem Try.rCoalesceV (l : List Ver) (hn : l.length ≤ 131072) (hr : ∀ v ∈ l, v.p.row.length ≤ 1048576) (hok : rowsOKV l) : PureOK Try.prog 24 [pD (encVers l)] (.one (.d (encVers (vCoalesce l)))) := by
  refine pure_ok (E := envOf Try.prog [] 0 [] [8]) (envOf_ok Try.mixed) Try.func24 rfl Try.call24 (by kernel_rfl) (by rfl) (by exact Nat.le_of_ble_eq_true rfl) ?_
  have kr := Try.rRightV l (by omega) hr hok
  have e : vCoalesce l = if vRight l = true then vCo l else l := rfl
  cases hR : vRight l with
  | false =>
    rw [hR] at kr e
    repeat' (first
      | with_reducible refine VC_seq fun K hK => ?_
      | with_reducible refine W_region ?_
      | with_reducible refine VC_block ?_
      | with_reducible refine VC_scope ?_
      | with_reducible refine VC_if ?_
      | with_reducible refine VC_skip ?_
      | with_reducible refine VC_exit ?_
      | with_reducible refine VC_ret ?_
      | (with_reducible refine G_not (fun h => ?_) (fun h => ?_) <;> (try simp only [h]))
      | (with_reducible refine G_cases (fun h => ?_) (fun h => ?_) <;> (try simp only [h]))
      | refine C_pure kr rfl rfl (fun _ => rfl) ?_
      | (with_reducible refine hK _ ?_; clear hK K)
      | (clear hK K; with_reducible refine hK _ ?_; clear hK K)
      | (clear hK K; clear hK K; with_reducible refine hK _ ?_; clear hK K)
      | (clear hK K; clear hK K; clear hK K; with_reducible refine hK _ ?_; clear hK K)
      | (with_reducible refine todo ?_; simp +decide only [go_sem]))
    rw [e]
    exact Ret_d rfl rfl
  | true =>
    rw [hR] at kr e
    rw [e, if_pos rfl]
    repeat' (first
      | with_reducible refine VC_seq fun K hK => ?_
      | with_reducible refine W_region ?_
      | with_reducible refine VC_block ?_
      | with_reducible refine VC_scope ?_
      | with_reducible refine VC_if ?_
      | with_reducible refine VC_skip ?_
      | with_reducible refine VC_exit ?_
      | with_reducible refine VC_ret ?_
      | (with_reducible refine G_not (fun h => ?_) (fun h => ?_) <;> (try simp only [h]))
      | (with_reducible refine G_cases (fun h => ?_) (fun h => ?_) <;> (try simp only [h]))
      | refine C_pure kr rfl rfl (fun _ => rfl) ?_
      | (with_reducible refine hK _ ?_; clear hK K)
      | (clear hK K; with_reducible refine hK _ ?_; clear hK K)
      | (clear hK K; clear hK K; with_reducible refine hK _ ?_; clear hK K)
      | (clear hK K; clear hK K; clear hK K; with_reducible refine hK _ ?_; clear hK K)
      | (with_reducible refine todo ?_; simp +decide only [go_sem]))
    refine VC_range l.length (fun _ => True) (fun i => frame [(0, pD (encVers l)), (3, .c (.mt (73, 0) 5 (vCo (l.take i)).length)), (4, pD (.lit (.int .i64 i)))] [] [((73, 0), .mu 5 ((vCo (l.take i)).map Ver.enc))]) True.intro ?_ ?_
    · have e0 : vCo (l.take 0) = [] := rfl
      rw [e0]
      refine Weak_frame ?_ ?_ ?_ <;> simp +decide only [go_sem]
      exact wkP_mt0 rfl rfl
    · intro i hi hI
      rcases Nat.lt_or_ge i l.length with hlt | hge
      · have hg := List.getElem?_eq_getElem hlt
        have hd := int_lt_true hlt
        have hwi := int_next hlt (show l.length ≤ 4294967296 by omega)
        generalize l[i] = x at hg
        have hx := hr x (List.mem_of_getElem? hg)
        have hnx := vCo_next1 hg
        obtain ⟨ho1, ho2⟩ := vCo_ok (N := 1048576) (l.take i) [] (fun w hw => hr w (List.mem_of_mem_take hw)) (fun w hw => by cases hw)
        change (vCo (l.take i)).length ≤ _ at ho1
        rw [List.length_take, List.length_nil] at ho1
        change ∀ w ∈ vCo (l.take i), _ at ho2
        generalize vCo (l.take i) = out at *
        repeat' (first
          | with_reducible refine VC_seq fun K hK => ?_
          | with_reducible refine W_region ?_
          | with_reducible refine VC_block ?_
          | with_reducible refine VC_scope ?_
          | with_reducible refine VC_if ?_
          | with_reducible refine VC_skip ?_
          | with_reducible refine VC_exit ?_
          | with_reducible refine VC_ret ?_
          | (with_reducible refine G_not (fun h => ?_) (fun h => ?_) <;> (try simp only [h]))
          | (with_reducible refine G_cases (fun h => ?_) (fun h => ?_) <;> (try simp only [h]))
          | (with_reducible refine hK _ ?_; clear hK K)
          | (clear hK K; with_reducible refine hK _ ?_; clear hK K)
          | (clear hK K; clear hK K; with_reducible refine hK _ ?_; clear hK K)
          | (clear hK K; clear hK K; clear hK K; with_reducible refine hK _ ?_; clear hK K)
          | (with_reducible refine todo ?_; simp +decide only [go_sem, hd]))
        refine VC_range out.length (fun k => (out.take k).all (fun w => !joins x w) = true) (fun k => frame [(0, pD (encVers l)), (3, .c (.mt (73, 0) 5 out.length)), (4, pD (.lit (.int .i64 i))), (5, pD (.lit (.int .i64 k)))] [] [((73, 0), .mu 5 (out.map Ver.enc))]) rfl ?_ ?_
        · refine Weak_frame ?_ ?_ ?_ <;> simp +decide only [go_sem]
          exact wkP_mt (by simp [aOf]) rfl
        · intro k hk hJ
          rcases Nat.lt_or_ge k out.length with hlt2 | hge2
          · have hg2 := List.getElem?_eq_getElem hlt2
            have hd2 := int_lt_true hlt2
            have hw2 := int_next hlt2 (show out.length ≤ 4294967296 by omega)
            have hlT : (k < out.length) = True := eq_true hlt2
            generalize out[k] = w at hg2
            have hwr := ho2 w (List.mem_of_getElem? hg2)
            have ka := Try.rAmongV [w.p] x.p (by simp) (fun p hp => by rw [List.mem_singleton.1 hp]; exact hwr)
            rw [isIn_one] at ka
            have hj : joins x w = ((w.sh == x.sl) && samePiece w.p x.p) := rfl
            have hfound : joins x w = true → join out x = some (out.set k { w with sh := x.sh }) := join_found hg2 hJ
            cases e1 : (w.sh == x.sl) with
            | false =>
              rw [e1] at hj
              have e1 : (w.sh != x.sl) = true := by rw [bne, e1]; rfl
              rw [frame_eq]
              repeat' (first
                | with_reducible refine VC_seq fun K hK => ?_
                | with_reducible refine W_region ?_
                | with_reducible refine VC_block ?_
                | with_reducible refine VC_scope ?_
                | with_reducible refine VC_if ?_
                | with_reducible refine VC_skip ?_
                | with_reducible refine VC_exit ?_
                | with_reducible refine VC_ret ?_
                | (with_reducible refine G_not (fun h => ?_) (fun h => ?_) <;> (try simp only [h]))
                | (with_reducible refine G_cases (fun h => ?_) (fun h => ?_) <;> (try simp only [h]))
                | (with_reducible refine hK _ ?_; clear hK K)
                | (clear hK K; with_reducible refine hK _ ?_; clear hK K)
                | (clear hK K; clear hK K; with_reducible refine hK _ ?_; clear hK K)
                | (clear hK K; clear hK K; clear hK K; with_reducible refine hK _ ?_; clear hK K)
                | (with_reducible refine todo ?_; simp +decide only [go_sem, hg, hg2, hd2, hw2, iE_mt, hlT, e1]))
              refine Next_of hlt2 (all_take hJ hg2 (by rw [hj]; rfl)) (Weak_frame ?_ ?_ ?_) <;> simp +decide only [go_sem]
              exact wkP_mt (by simp [aOf]) rfl
            | true =>
              rw [e1] at hj
              have e1 : (w.sh != x.sl) = false := by rw [bne, e1]; rfl
              cases e2 : samePiece w.p x.p with
              | false =>
                rw [e2] at hj ka
                rw [frame_eq]
                repeat' (first
                  | with_reducible refine VC_seq fun K hK => ?_
                  | with_reducible refine W_region ?_
                  | with_reducible refine VC_block ?_
                  | with_reducible refine VC_scope ?_
                  | with_reducible refine VC_if ?_
                  | with_reducible refine VC_skip ?_
                  | with_reducible refine VC_exit ?_
                  | with_reducible refine VC_ret ?_
                  | (with_reducible refine G_not (fun h => ?_) (fun h => ?_) <;> (try simp only [h]))
                  | (with_reducible refine G_cases (fun h => ?_) (fun h => ?_) <;> (try simp only [h]))
                  | refine C_pure ka rfl rfl (fun _ => rfl) ?_
                  | (with_reducible refine hK _ ?_; clear hK K)
                  | (clear hK K; with_reducible refine hK _ ?_; clear hK K)
                  | (clear hK K; clear hK K; with_reducible refine hK _ ?_; clear hK K)
                  | (clear hK K; clear hK K; clear hK K; with_reducible refine hK _ ?_; clear hK K)
                  | (with_reducible refine todo ?_; simp +decide only [go_sem, hg, hg2, hd2, hw2, iE_mt, hlT, e1]))
                refine Next_of hlt2 (all_take hJ hg2 (by rw [hj]; rfl)) (Weak_frame ?_ ?_ ?_) <;> simp +decide only [go_sem]
                exact wkP_mt (by simp [aOf]) rfl
              | true =>
                rw [e2] at hj ka
                have hf := hfound hj
                have hst : joinStep out x = out.set k { w with sh := x.sh } := by unfold joinStep joined; rw [hf]; rfl
                rw [hst] at hnx
                rw [frame_eq]
                repeat' (first
                  | with_reducible refine VC_seq fun K hK => ?_
                  | with_reducible refine W_region ?_
                  | with_reducible refine VC_block ?_
                  | with_reducible refine VC_scope ?_
                  | with_reducible refine VC_if ?_
                  | with_reducible refine VC_skip ?_
                  | with_reducible refine VC_exit ?_
                  | with_reducible refine VC_ret ?_
                  | (with_reducible refine G_not (fun h => ?_) (fun h => ?_) <;> (try simp only [h]))
                  | (with_reducible refine G_cases (fun h => ?_) (fun h => ?_) <;> (try simp only [h]))
                  | refine C_pure ka rfl rfl (fun _ => rfl) ?_
                  | (with_reducible refine hK _ ?_; clear hK K)
                  | (clear hK K; with_reducible refine hK _ ?_; clear hK K)
                  | (clear hK K; clear hK K; with_reducible refine hK _ ?_; clear hK K)
                  | (clear hK K; clear hK K; clear hK K; with_reducible refine hK _ ?_; clear hK K)
                  | (with_reducible refine todo ?_; simp +decide only [go_sem, hg, hg2, hd2, hwi, iE_mt, hlT, e1]))
                refine Next_of hlt True.intro (Weak_frame ?_ ?_ ?_) <;> simp +decide only [go_sem, hnx, List.map_set, List.length_set]
                exact wkP_mt (by simp [aOf]) (by simp [aOf, upd])
          · have hd2 := int_lt_false hge2
            rw [List.take_of_length_le hge2] at hJ
            have hf := join_none hJ
            have hst : joinStep out x = out ++ [x] := by unfold joinStep; rw [hf]; rfl
            rw [hst] at hnx
            rw [frame_eq]
            repeat' (first
              | with_reducible refine VC_seq fun K hK => ?_
              | with_reducible refine W_region ?_
              | with_reducible refine VC_block ?_
              | with_reducible refine VC_scope ?_
              | with_reducible refine VC_if ?_
              | with_reducible refine VC_skip ?_
              | with_reducible refine VC_exit ?_
              | with_reducible refine VC_ret ?_
              | (with_reducible refine G_not (fun h => ?_) (fun h => ?_) <;> (try simp only [h]))
              | (with_reducible refine G_cases (fun h => ?_) (fun h => ?_) <;> (try simp only [h]))
              | (refine W_mt Try.appRefV (els := out.map Ver.enc) (by simp +decide only [go_sem]) (by simp +decide only [go_sem]) rfl (szOne rfl) (by simp; omega) ?_)
              | (with_reducible refine hK _ ?_; clear hK K)
              | (clear hK K; with_reducible refine hK _ ?_; clear hK K)
              | (clear hK K; clear hK K; with_reducible refine hK _ ?_; clear hK K)
              | (clear hK K; clear hK K; clear hK K; with_reducible refine hK _ ?_; clear hK K)
              | (with_reducible refine todo ?_; simp +decide only [go_sem, hg, hd2, hwi]))
            refine Next_of hlt True.intro (Weak_frame ?_ ?_ ?_) <;> simp +decide only [go_sem, hnx]
            exact wkP_mt (by simp [aOf]) (by simp [aOf, upd])
      · have hd := int_lt_false hge
        rw [List.take_of_length_le hge]
        repeat' (first
          | with_reducible refine VC_seq fun K hK => ?_
          | with_reducible refine W_region ?_
          | with_reducible refine VC_block ?_
          | with_reducible refine VC_scope ?_
          | with_reducible refine VC_if ?_
          | with_reducible refine VC_skip ?_
          | with_reducible refine VC_exit ?_
          | with_reducible refine VC_ret ?_
          | (with_reducible refine G_not (fun h => ?_) (fun h => ?_) <;> (try simp only [h]))
          | (with_reducible refine G_cases (fun h => ?_) (fun h => ?_) <;> (try simp only [h]))
          | (with_reducible refine hK _ ?_; clear hK K)
          | (clear hK K; with_reducible refine hK _ ?_; clear hK K)
          | (clear hK K; clear hK K; with_reducible refine hK _ ?_; clear hK K)
          | (clear hK K; clear hK K; clear hK K; with_reducible refine hK _ ?_; clear hK K)
          | (with_reducible refine todo ?_; simp +decide only [go_sem, hd]))
        exact Ret_mt (73, 0) rfl (sz := 5) (by simp +decide only [go_sem]) (by simp +decide only [go_sem])
end Go.Proofs
