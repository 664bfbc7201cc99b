/-
  The document's pieces: Same, Diff.
-/
import Derived.Test.YtgpmdeembgohdaaPwRb
namespace Go.Proofs
open Go.PW

set_option maxHeartbeats 8000000 in
theorem Try.rSame (a b : List Piece) (hr : a.length ≤ 1048576) (hrr : ∀ p ∈ a, p.row.length ≤ 1048576) : PureOK Try.prog 17 [pD (encPieces a), pD (encPieces b)] (.one (dB (samePieces a b))) := by
  refine Try.pure (md := []) Try.func17 rfl Try.call17 (by kernel_rfl) (by rfl) (by exact Nat.le_of_ble_eq_true rfl) ?_
  repeat' (first
    | with_reducible refine VC_seq fun K hK => ?_
    | with_reducible refine W_region ?_
    | with_reducible refine VC_block ?_
    | with_reducible refine VC_scope ?_
    | with_reducible refine VC_if ?_
    | with_reducible refine VC_skip ?_
    | with_reducible refine VC_exit ?_
    | with_reducible refine VC_ret ?_
    | (with_reducible refine G_not (fun h => ?_) (fun h => ?_) <;> (try simp only [h]))
    | (with_reducible refine G_cases (fun h => ?_) (fun h => ?_) <;> (try simp only [h]))
    | (with_reducible refine hK _ ?_; clear hK K)
    | (clear hK K; with_reducible refine hK _ ?_; clear hK K)
    | (clear hK K; clear hK K; with_reducible refine hK _ ?_; clear hK K)
    | (clear hK K; clear hK K; clear hK K; with_reducible refine hK _ ?_; clear hK K)
    | (with_reducible refine todo ?_; simp +decide only [go_sem]))
  · refine Ret_d rfl ?_
    have hne : (a.length == b.length) = false := by
      rw [beq_eq_false_iff_ne]; intro e; rw [e] at h; simp at h
    simp +decide only [go_sem, samePieces, hne]
  · have hlen : a.length = b.length := by
      have e : ((a.length : Int) == (b.length : Int)) = true := by simpa [bne] using h
      exact Int.ofNat_inj.1 (by simpa using e)
    refine VC_range a.length (fun i => (List.zipWith samePiece (a.take i) (b.take i)).all id = true) (fun i => frame [(0, pD (encPieces a)), (1, pD (encPieces b)), (5, pD (.lit (.int .i64 i)))] [] []) rfl ?_ ?_
    · refine Weak_frame ?_ ?_ ?_ <;> simp +decide only [go_sem]
    · intro i hi hI
      rcases Nat.lt_or_ge i a.length with hlt | hge
      · have hg := List.getElem?_eq_getElem hlt
        have hg' := List.getElem?_eq_getElem (show i < b.length by omega)
        have hd := int_lt_true hlt
        have hw := int_next hlt (show a.length ≤ 4294967296 by omega)
        generalize a[i] = x at hg
        generalize b[i] = y at hg'
        have hx := hrr x (List.mem_of_getElem? hg)
        repeat' (first
          | with_reducible refine VC_seq fun K hK => ?_
          | with_reducible refine W_region ?_
          | with_reducible refine VC_block ?_
          | with_reducible refine VC_scope ?_
          | with_reducible refine VC_if ?_
          | with_reducible refine VC_skip ?_
          | with_reducible refine VC_exit ?_
          | with_reducible refine VC_ret ?_
          | (with_reducible refine G_not (fun h => ?_) (fun h => ?_) <;> (try simp only [h]))
          | (with_reducible refine G_cases (fun h => ?_) (fun h => ?_) <;> (try simp only [h]))
          | refine C_pure (Try.kRows x.row y.row (by omega)) rfl rfl (fun _ => rfl) ?_
          | (with_reducible refine hK _ ?_; clear hK K)
          | (clear hK K; with_reducible refine hK _ ?_; clear hK K)
          | (clear hK K; clear hK K; with_reducible refine hK _ ?_; clear hK K)
          | (clear hK K; clear hK K; clear hK K; with_reducible refine hK _ ?_; clear hK K)
          | (with_reducible refine todo ?_; simp +decide only [go_sem, hg, hg', hd, hw]))
        all_goals first
          | (have hf : samePiece x y = true := by unfold samePiece; simp [*]
             refine Next_of hlt (zip_take hI hg hg' hf) (Weak_frame ?_ ?_ ?_) <;> simp +decide only [go_sem])
          | (have hf : samePiece x y = false := by unfold samePiece; simp [*]
             refine Ret_d rfl ?_
             simp +decide only [go_sem, samePieces, zip_not hg hg' hf])
      · have hd := int_lt_false hge
        rw [List.take_of_length_le hge, List.take_of_length_le (show b.length ≤ i by omega)] at hI
        repeat' (first
          | with_reducible refine VC_seq fun K hK => ?_
          | with_reducible refine W_region ?_
          | with_reducible refine VC_block ?_
          | with_reducible refine VC_scope ?_
          | with_reducible refine VC_if ?_
          | with_reducible refine VC_skip ?_
          | with_reducible refine VC_exit ?_
          | with_reducible refine VC_ret ?_
          | (with_reducible refine G_not (fun h => ?_) (fun h => ?_) <;> (try simp only [h]))
          | (with_reducible refine G_cases (fun h => ?_) (fun h => ?_) <;> (try simp only [h]))
          | (with_reducible refine hK _ ?_; clear hK K)
          | (clear hK K; with_reducible refine hK _ ?_; clear hK K)
          | (clear hK K; clear hK K; with_reducible refine hK _ ?_; clear hK K)
          | (clear hK K; clear hK K; clear hK K; with_reducible refine hK _ ?_; clear hK K)
          | (with_reducible refine todo ?_; simp +decide only [go_sem, hd]))
        refine Ret_d rfl ?_
        simp +decide only [go_sem, samePieces, hI, hlen]

set_option maxHeartbeats 8000000 in
theorem Try.rDiff (a b : List Piece) (hn : a.length ≤ 1048576) (hr : ∀ p ∈ a, p.row.length ≤ 1048576) (hok : rowsOK a) (hn' : b.length ≤ 1048576) (hr' : ∀ p ∈ b, p.row.length ≤ 1048576) (hok' : rowsOK b) :
    PureOK Try.prog 26 [pD (encPieces a), pD (encPieces b)] (.tup [.d (encPieces (diff a b).1), .d (encPieces (diff a b).2)]) := by
  refine Try.pure (md := []) Try.func26 rfl Try.call26 (by kernel_rfl) (by rfl) (by exact Nat.le_of_ble_eq_true rfl) ?_
  repeat' (first
    | with_reducible refine VC_seq fun K hK => ?_
    | with_reducible refine W_region ?_
    | with_reducible refine VC_block ?_
    | with_reducible refine VC_scope ?_
    | with_reducible refine VC_if ?_
    | with_reducible refine VC_skip ?_
    | with_reducible refine VC_exit ?_
    | with_reducible refine VC_ret ?_
    | (with_reducible refine G_not (fun h => ?_) (fun h => ?_) <;> (try simp only [h]))
    | (with_reducible refine G_cases (fun h => ?_) (fun h => ?_) <;> (try simp only [h]))
    | refine C_pure (Try.rRight a hn hr hok) rfl rfl (fun _ => rfl) ?_
    | refine C_pure (Try.rRight b hn' hr' hok') rfl rfl (fun _ => rfl) ?_
    | (with_reducible refine hK _ ?_; clear hK K)
    | (clear hK K; with_reducible refine hK _ ?_; clear hK K)
    | (clear hK K; clear hK K; with_reducible refine hK _ ?_; clear hK K)
    | (clear hK K; clear hK K; clear hK K; with_reducible refine hK _ ?_; clear hK K)
    | (with_reducible refine todo ?_; simp +decide only [go_sem]))
  · have hD : diff a b = (without a b, without b a) := by unfold diff; simp [*]
    rw [hD] at hK ⊢
    refine VC_range a.length (fun _ => True) (fun i => frame [(0, pD (encPieces a)), (1, pD (encPieces b)), (8, pD (.lit (.int .i64 i))), (7, .c (.full [])), (6, .c (.own (39, 0) ((without (a.take i) b).map Piece.enc)))] [] [((39, 0), .co 3 (without (a.take i) b).length)]) True.intro ?_ ?_
    · refine Weak_frame ?_ ?_ ?_ <;> simp +decide only [go_sem, without, List.filter_nil]
      exact wkP_new rfl rfl
    · intro i hi hI
      rcases Nat.lt_or_ge i a.length with hlt | hge
      · have hg := List.getElem?_eq_getElem hlt
        have hd := int_lt_true hlt
        have hw := int_next hlt (show a.length ≤ 4294967296 by omega)
        generalize a[i] = x at hg
        have hl : (without (a.take i) b).length ≤ i := Nat.le_trans (without_length _ _) (by rw [List.length_take]; omega)
        have hnx := without_next (q := b) hg
        repeat' (first
          | with_reducible refine VC_seq fun K hK => ?_
          | with_reducible refine W_region ?_
          | with_reducible refine VC_block ?_
          | with_reducible refine VC_scope ?_
          | with_reducible refine VC_if ?_
          | with_reducible refine VC_skip ?_
          | with_reducible refine VC_exit ?_
          | with_reducible refine VC_ret ?_
          | (with_reducible refine G_not (fun h => ?_) (fun h => ?_) <;> (try simp only [h]))
          | (with_reducible refine G_cases (fun h => ?_) (fun h => ?_) <;> (try simp only [h]))
          | refine C_pure (Try.rAmong b x hn' hr') rfl rfl (fun _ => rfl) ?_
          | (refine W_own Try.appRef rfl (szPieces _) (szOne rfl) (by simp; omega) (by simp +decide only [go_sem]) ?_)
          | (with_reducible refine hK _ ?_; clear hK K)
          | (clear hK K; with_reducible refine hK _ ?_; clear hK K)
          | (clear hK K; clear hK K; with_reducible refine hK _ ?_; clear hK K)
          | (clear hK K; clear hK K; clear hK K; with_reducible refine hK _ ?_; clear hK K)
          | (with_reducible refine todo ?_; simp +decide only [go_sem, hg, hd, hw]))
        all_goals
          simp only [h, if_true, Bool.false_eq_true, if_false, List.append_nil] at hnx
          refine Next_of hlt True.intro (Weak_frame ?_ ?_ ?_) <;> simp +decide only [go_sem, hnx]
          exact wkP_own (by simp [aOf]) rfl
      · have hd := int_lt_false hge
        rw [List.take_of_length_le hge]
        repeat' (first
          | with_reducible refine VC_seq fun K hK => ?_
          | with_reducible refine W_region ?_
          | with_reducible refine VC_block ?_
          | with_reducible refine VC_scope ?_
          | with_reducible refine VC_if ?_
          | with_reducible refine VC_skip ?_
          | with_reducible refine VC_exit ?_
          | with_reducible refine VC_ret ?_
          | (with_reducible refine G_not (fun h => ?_) (fun h => ?_) <;> (try simp only [h]))
          | (with_reducible refine G_cases (fun h => ?_) (fun h => ?_) <;> (try simp only [h]))
          | (with_reducible refine hK _ ?_; clear hK K)
          | (clear hK K; with_reducible refine hK _ ?_; clear hK K)
          | (clear hK K; clear hK K; with_reducible refine hK _ ?_; clear hK K)
          | (clear hK K; clear hK K; clear hK K; with_reducible refine hK _ ?_; clear hK K)
          | (with_reducible refine todo ?_; simp +decide only [go_sem, hd]))
        refine VC_range b.length (fun _ => True) (fun j => frame [(0, pD (encPieces a)), (1, pD (encPieces b)), (9, pD (.lit (.int .i64 j))), (6, pD (encPieces (without a b))), (7, .c (.own (59, 0) ((without (b.take j) a).map Piece.enc)))] [] [((59, 0), .co 3 (without (b.take j) a).length)]) True.intro ?_ ?_
        · refine Weak_frame ?_ ?_ ?_ <;> simp +decide only [go_sem, show without [] a = [] from rfl]
          exact wkP_new rfl rfl
        · intro j hj hJ
          rcases Nat.lt_or_ge j b.length with hlt' | hge'
          · have hg := List.getElem?_eq_getElem hlt'
            have hd := int_lt_true hlt'
            have hw := int_next hlt' (show b.length ≤ 4294967296 by omega)
            generalize b[j] = x at hg
            have hl : (without (b.take j) a).length ≤ j := Nat.le_trans (without_length _ _) (by rw [List.length_take]; omega)
            have hnx := without_next (q := a) hg
            repeat' (first
              | with_reducible refine VC_seq fun K hK => ?_
              | with_reducible refine W_region ?_
              | with_reducible refine VC_block ?_
              | with_reducible refine VC_scope ?_
              | with_reducible refine VC_if ?_
              | with_reducible refine VC_skip ?_
              | with_reducible refine VC_exit ?_
              | with_reducible refine VC_ret ?_
              | (with_reducible refine G_not (fun h => ?_) (fun h => ?_) <;> (try simp only [h]))
              | (with_reducible refine G_cases (fun h => ?_) (fun h => ?_) <;> (try simp only [h]))
              | refine C_pure (Try.rAmong a x hn hr) rfl rfl (fun _ => rfl) ?_
              | (refine W_own Try.appRef rfl (szPieces _) (szOne rfl) (by simp; omega) (by simp +decide only [go_sem]) ?_)
              | (with_reducible refine hK _ ?_; clear hK K)
              | (clear hK K; with_reducible refine hK _ ?_; clear hK K)
              | (clear hK K; clear hK K; with_reducible refine hK _ ?_; clear hK K)
              | (clear hK K; clear hK K; clear hK K; with_reducible refine hK _ ?_; clear hK K)
              | (with_reducible refine todo ?_; simp +decide only [go_sem, hg, hd, hw]))
            all_goals
              simp only [h, if_true, Bool.false_eq_true, if_false, List.append_nil] at hnx
              refine Next_of hlt' True.intro (Weak_frame ?_ ?_ ?_) <;> simp +decide only [go_sem, hnx]
              exact wkP_own (by simp [aOf]) rfl
          · have hd := int_lt_false hge'
            rw [List.take_of_length_le hge']
            repeat' (first
              | with_reducible refine VC_seq fun K hK => ?_
              | with_reducible refine W_region ?_
              | with_reducible refine VC_block ?_
              | with_reducible refine VC_scope ?_
              | with_reducible refine VC_if ?_
              | with_reducible refine VC_skip ?_
              | with_reducible refine VC_exit ?_
              | with_reducible refine VC_ret ?_
              | (with_reducible refine G_not (fun h => ?_) (fun h => ?_) <;> (try simp only [h]))
              | (with_reducible refine G_cases (fun h => ?_) (fun h => ?_) <;> (try simp only [h]))
              | (with_reducible refine hK _ ?_; clear hK K)
              | (clear hK K; with_reducible refine hK _ ?_; clear hK K)
              | (clear hK K; clear hK K; with_reducible refine hK _ ?_; clear hK K)
              | (clear hK K; clear hK K; clear hK K; with_reducible refine hK _ ?_; clear hK K)
              | (with_reducible refine todo ?_; simp +decide only [go_sem, hd]))
            exact Ret_two none rfl (.inl rfl) (.inl rfl)
  all_goals
    have hD : diff a b = ([], []) := by unfold diff; simp [*]
    rw [hD]
    exact Ret_two none rfl (.inl rfl) (.inl rfl)
end Go.Proofs
