import Derived.Test.YtcdiifnnnnnceaaQ17

/-
  The document's pieces: Same, Diff.
-/

namespace Go.Proofs
open Go.PW

set_option maxRecDepth 8000 in
set_option maxHeartbeats 8000000 in
theorem Try.rSame (a b : List Piece) (hr : a.length ≤ 1048576) (hrr : ∀ p ∈ a, p.row.length ≤ 1048576) : PureOK Try.prog 14 [pD (encPieces a), pD (encPieces b)] (.one (dB (samePieces a b))) := by
  refine Try.pure (md := []) Try.func14 rfl Try.call14 (by kernel_rfl) (by rfl) (by exact Nat.le_of_ble_eq_true rfl) ?_
  repeat' (first
    | with_reducible refine VC_seq fun K hK => ?_
    | with_reducible refine W_region ?_
    | with_reducible refine VC_block ?_
    | with_reducible refine VC_scope ?_
    | with_reducible refine VC_if ?_
    | with_reducible refine VC_skip ?_
    | with_reducible refine VC_exit ?_
    | with_reducible refine VC_ret ?_
    | (with_reducible refine G_not (fun h => ?_) (fun h => ?_) <;> (try simp only [h]))
    | (with_reducible refine G_cases (fun h => ?_) (fun h => ?_) <;> (try simp only [h]))
    | (with_reducible refine hK _ ?_; clear hK K)
    | (clear hK K; with_reducible refine hK _ ?_; clear hK K)
    | (clear hK K; clear hK K; with_reducible refine hK _ ?_; clear hK K)
    | (clear hK K; clear hK K; clear hK K; with_reducible refine hK _ ?_; clear hK K)
    | (with_reducible refine todo ?_; simp +decide only [go_sem]))
  · refine Ret_d rfl ?_
    have hne : (a.length == b.length) = false := by
      rw [beq_eq_false_iff_ne]; intro e; rw [e] at h; simp at h
    simp +decide only [go_sem, samePieces, hne]
  · have hlen : a.length = b.length := by
      have e : ((a.length : Int) == (b.length : Int)) = true := by simpa [bne] using h
      exact Int.ofNat_inj.1 (by simpa using e)
    refine VC_range a.length (fun i => (List.zipWith samePiece (a.take i) (b.take i)).all id = true) (fun i => frame [(0, pD (encPieces a)), (1, pD (encPieces b)), (5, pD (.lit (.int .i64 i)))] [] []) rfl ?_ ?_
    · refine Weak_frame ?_ ?_ ?_ <;> simp +decide only [go_sem]
    · intro i hi hI
      rcases Nat.lt_or_ge i a.length with hlt | hge
      · have hg := List.getElem?_eq_getElem hlt
        have hg' := List.getElem?_eq_getElem (show i < b.length by omega)
        have hd := int_lt_true hlt
        have hw := int_next hlt (show a.length ≤ 4294967296 by omega)
        generalize a[i] = x at hg
        generalize b[i] = y at hg'
        have hx := hrr x (List.mem_of_getElem? hg)
        repeat' (first
          | with_reducible refine VC_seq fun K hK => ?_
          | with_reducible refine W_region ?_
          | with_reducible refine VC_block ?_
          | with_reducible refine VC_scope ?_
          | with_reducible refine VC_if ?_
          | with_reducible refine VC_skip ?_
          | with_reducible refine VC_exit ?_
          | with_reducible refine VC_ret ?_
          | (with_reducible refine G_not (fun h => ?_) (fun h => ?_) <;> (try simp only [h]))
          | (with_reducible refine G_cases (fun h => ?_) (fun h => ?_) <;> (try simp only [h]))
          | refine C_pure (Try.kRows x.row y.row (by omega)) rfl rfl (fun _ => rfl) ?_
          | (with_reducible refine hK _ ?_; clear hK K)
          | (clear hK K; with_reducible refine hK _ ?_; clear hK K)
          | (clear hK K; clear hK K; with_reducible refine hK _ ?_; clear hK K)
          | (clear hK K; clear hK K; clear hK K; with_reducible refine hK _ ?_; clear hK K)
          | (with_reducible refine todo ?_; simp +decide only [go_sem, hg, hg', hd, hw]))
        all_goals first
          | (have hf : samePiece x y = true := by unfold samePiece; simp [*]
             refine Next_of hlt (zip_take hI hg hg' hf) (Weak_frame ?_ ?_ ?_) <;> simp +decide only [go_sem])
          | (have hf : samePiece x y = false := by unfold samePiece; simp [*]
             refine Ret_d rfl ?_
             simp +decide only [go_sem, samePieces, zip_not hg hg' hf])
      · have hd := int_lt_false hge
        rw [List.take_of_length_le hge, List.take_of_length_le (show b.length ≤ i by omega)] at hI
        repeat' (first
          | with_reducible refine VC_seq fun K hK => ?_
          | with_reducible refine W_region ?_
          | with_reducible refine VC_block ?_
          | with_reducible refine VC_scope ?_
          | with_reducible refine VC_if ?_
          | with_reducible refine VC_skip ?_
          | with_reducible refine VC_exit ?_
          | with_reducible refine VC_ret ?_
          | (with_reducible refine G_not (fun h => ?_) (fun h => ?_) <;> (try simp only [h]))
          | (with_reducible refine G_cases (fun h => ?_) (fun h => ?_) <;> (try simp only [h]))
          | (with_reducible refine hK _ ?_; clear hK K)
          | (clear hK K; with_reducible refine hK _ ?_; clear hK K)
          | (clear hK K; clear hK K; with_reducible refine hK _ ?_; clear hK K)
          | (clear hK K; clear hK K; clear hK K; with_reducible refine hK _ ?_; clear hK K)
          | (with_reducible refine todo ?_; simp +decide only [go_sem, hd]))
        refine Ret_d rfl ?_
        simp +decide only [go_sem, samePieces, hI, hlen]

set_option maxRecDepth 8000 in
set_option maxHeartbeats 8000000 in
theorem Try.rDiff (a b : List Piece) (hn : a.length ≤ 1048576) (hr : ∀ p ∈ a, p.row.length ≤ 1048576) (hok : rowsOK a) (hn' : b.length ≤ 1048576) (hr' : ∀ p ∈ b, p.row.length ≤ 1048576) (hok' : rowsOK b) :
    PureOK Try.prog 60 [pD (encPieces a), pD (encPieces b)] (.tup [.d (encPieces (diff a b).1), .d (encPieces (diff a b).2)]) := by
  refine Try.pure (md := []) Try.func60 rfl Try.call60 (by kernel_rfl) (by rfl) (by exact Nat.le_of_ble_eq_true rfl) ?_
  repeat' (first
    | with_reducible refine VC_seq fun K hK => ?_
    | with_reducible refine W_region ?_
    | with_reducible refine VC_block ?_
    | with_reducible refine VC_scope ?_
    | with_reducible refine VC_if ?_
    | with_reducible refine VC_skip ?_
    | with_reducible refine VC_exit ?_
    | with_reducible refine VC_ret ?_
    | (with_reducible refine G_not (fun h => ?_) (fun h => ?_) <;> (try simp only [h]))
    | (with_reducible refine G_cases (fun h => ?_) (fun h => ?_) <;> (try simp only [h]))
    | refine C_pure (Try.rRight a hn hr hok) rfl rfl (fun _ => rfl) ?_
    | refine C_pure (Try.rRight b hn' hr' hok') rfl rfl (fun _ => rfl) ?_
    | (with_reducible refine hK _ ?_; clear hK K)
    | (clear hK K; with_reducible refine hK _ ?_; clear hK K)
    | (clear hK K; clear hK K; with_reducible refine hK _ ?_; clear hK K)
    | (clear hK K; clear hK K; clear hK K; with_reducible refine hK _ ?_; clear hK K)
    | (with_reducible refine todo ?_; simp +decide only [go_sem]))
  · have hD : diff a b = (without a b, without b a) := by unfold diff; simp [*]
    rw [hD] at hK ⊢
    refine VC_range a.length (fun _ => True) (fun i => frame [(0, pD (encPieces a)), (1, pD (encPieces b)), (8, pD (.lit (.int .i64 i))), (7, .c (.full [])), (6, .c (.own (39, 0) ((without (a.take i) b).map Piece.enc)))] [] [((39, 0), .co 3 (without (a.take i) b).length)]) True.intro ?_ ?_
    · refine Weak_frame ?_ ?_ ?_ <;> simp +decide only [go_sem, without, List.filter_nil]
      exact wkP_new rfl rfl
    · intro i hi hI
      rcases Nat.lt_or_ge i a.length with hlt | hge
      · have hg := List.getElem?_eq_getElem hlt
        have hd := int_lt_true hlt
        have hw := int_next hlt (show a.length ≤ 4294967296 by omega)
        generalize a[i] = x at hg
        have hl : (without (a.take i) b).length ≤ i := Nat.le_trans (without_length _ _) (by rw [List.length_take]; omega)
        have hnx := without_next (q := b) hg
        repeat' (first
          | with_reducible refine VC_seq fun K hK => ?_
          | with_reducible refine W_region ?_
          | with_reducible refine VC_block ?_
          | with_reducible refine VC_scope ?_
          | with_reducible refine VC_if ?_
          | with_reducible refine VC_skip ?_
          | with_reducible refine VC_exit ?_
          | with_reducible refine VC_ret ?_
          | (with_reducible refine G_not (fun h => ?_) (fun h => ?_) <;> (try simp only [h]))
          | (with_reducible refine G_cases (fun h => ?_) (fun h => ?_) <;> (try simp only [h]))
          | refine C_pure (Try.rAmong b x hn' hr') rfl rfl (fun _ => rfl) ?_
          | (refine W_own Try.appRef rfl (szPieces _) (szOne rfl) (by simp; omega) (by simp +decide only [go_sem]) ?_)
          | (with_reducible refine hK _ ?_; clear hK K)
          | (clear hK K; with_reducible refine hK _ ?_; clear hK K)
          | (clear hK K; clear hK K; with_reducible refine hK _ ?_; clear hK K)
          | (clear hK K; clear hK K; clear hK K; with_reducible refine hK _ ?_; clear hK K)
          | (with_reducible refine todo ?_; simp +decide only [go_sem, hg, hd, hw]))
        all_goals
          simp only [h, if_true, Bool.false_eq_true, if_false, List.append_nil] at hnx
          refine Next_of hlt True.intro (Weak_frame ?_ ?_ ?_) <;> simp +decide only [go_sem, hnx]
          exact wkP_own (by simp [aOf]) rfl
      · have hd := int_lt_false hge
        rw [List.take_of_length_le hge]
        repeat' (first
          | with_reducible refine VC_seq fun K hK => ?_
          | with_reducible refine W_region ?_
          | with_reducible refine VC_block ?_
          | with_reducible refine VC_scope ?_
          | with_reducible refine VC_if ?_
          | with_reducible refine VC_skip ?_
          | with_reducible refine VC_exit ?_
          | with_reducible refine VC_ret ?_
          | (with_reducible refine G_not (fun h => ?_) (fun h => ?_) <;> (try simp only [h]))
          | (with_reducible refine G_cases (fun h => ?_) (fun h => ?_) <;> (try simp only [h]))
          | (with_reducible refine hK _ ?_; clear hK K)
          | (clear hK K; with_reducible refine hK _ ?_; clear hK K)
          | (clear hK K; clear hK K; with_reducible refine hK _ ?_; clear hK K)
          | (clear hK K; clear hK K; clear hK K; with_reducible refine hK _ ?_; clear hK K)
          | (with_reducible refine todo ?_; simp +decide only [go_sem, hd]))
        refine VC_range b.length (fun _ => True) (fun j => frame [(0, pD (encPieces a)), (1, pD (encPieces b)), (9, pD (.lit (.int .i64 j))), (6, pD (encPieces (without a b))), (7, .c (.own (59, 0) ((without (b.take j) a).map Piece.enc)))] [] [((59, 0), .co 3 (without (b.take j) a).length)]) True.intro ?_ ?_
        · refine Weak_frame ?_ ?_ ?_ <;> simp +decide only [go_sem, show without [] a = [] from rfl]
          exact wkP_new rfl rfl
        · intro j hj hJ
          rcases Nat.lt_or_ge j b.length with hlt' | hge'
          · have hg := List.getElem?_eq_getElem hlt'
            have hd := int_lt_true hlt'
            have hw := int_next hlt' (show b.length ≤ 4294967296 by omega)
            generalize b[j] = x at hg
            have hl : (without (b.take j) a).length ≤ j := Nat.le_trans (without_length _ _) (by rw [List.length_take]; omega)
            have hnx := without_next (q := a) hg
            repeat' (first
              | with_reducible refine VC_seq fun K hK => ?_
              | with_reducible refine W_region ?_
              | with_reducible refine VC_block ?_
              | with_reducible refine VC_scope ?_
              | with_reducible refine VC_if ?_
              | with_reducible refine VC_skip ?_
              | with_reducible refine VC_exit ?_
              | with_reducible refine VC_ret ?_
              | (with_reducible refine G_not (fun h => ?_) (fun h => ?_) <;> (try simp only [h]))
              | (with_reducible refine G_cases (fun h => ?_) (fun h => ?_) <;> (try simp only [h]))
              | refine C_pure (Try.rAmong a x hn hr) rfl rfl (fun _ => rfl) ?_
              | (refine W_own Try.appRef rfl (szPieces _) (szOne rfl) (by simp; omega) (by simp +decide only [go_sem]) ?_)
              | (with_reducible refine hK _ ?_; clear hK K)
              | (clear hK K; with_reducible refine hK _ ?_; clear hK K)
              | (clear hK K; clear hK K; with_reducible refine hK _ ?_; clear hK K)
              | (clear hK K; clear hK K; clear hK K; with_reducible refine hK _ ?_; clear hK K)
              | (with_reducible refine todo ?_; simp +decide only [go_sem, hg, hd, hw]))
            all_goals
              simp only [h, if_true, Bool.false_eq_true, if_false, List.append_nil] at hnx
              refine Next_of hlt' True.intro (Weak_frame ?_ ?_ ?_) <;> simp +decide only [go_sem, hnx]
              exact wkP_own (by simp [aOf]) rfl
          · have hd := int_lt_false hge'
            rw [List.take_of_length_le hge']
            repeat' (first
              | with_reducible refine VC_seq fun K hK => ?_
              | with_reducible refine W_region ?_
              | with_reducible refine VC_block ?_
              | with_reducible refine VC_scope ?_
              | with_reducible refine VC_if ?_
              | with_reducible refine VC_skip ?_
              | with_reducible refine VC_exit ?_
              | with_reducible refine VC_ret ?_
              | (with_reducible refine G_not (fun h => ?_) (fun h => ?_) <;> (try simp only [h]))
              | (with_reducible refine G_cases (fun h => ?_) (fun h => ?_) <;> (try simp only [h]))
              | (with_reducible refine hK _ ?_; clear hK K)
              | (clear hK K; with_reducible refine hK _ ?_; clear hK K)
              | (clear hK K; clear hK K; with_reducible refine hK _ ?_; clear hK K)
              | (clear hK K; clear hK K; clear hK K; with_reducible refine hK _ ?_; clear hK K)
              | (with_reducible refine todo ?_; simp +decide only [go_sem, hd]))
            exact Ret_two none rfl (.inl rfl) (.inl rfl)
  all_goals
    have hD : diff a b = ([], []) := by unfold diff; simp [*]
    rw [hD]
    exact Ret_two none rfl (.inl rfl) (.inl rfl)
end Go.Proofs

/-
  The document's pieces: At, Cut, Drop, Put.
-/

namespace Go.Proofs
open Go.PW

def optRowD (r : Option Row) : RV :=
  match r with
  | some r => .tup [.d (encRow r), dB true]
  | none => .tup [.d (encRow []), dB false]

theorem at_not {ps : List Piece} {t : Int} (h : right ps = false) : at_ ps t = none := by unfold at_; rw [h]; rfl
theorem at_yes {ps : List Piece} {t : Int} (h : right ps = true) : at_ ps t = at' ps t := by unfold at_; rw [h]; rfl

theorem cut_some {a b m : Sp} (h : meet a b = some m) : cut a b = (if a.1 < m.1 then [(a.1, m.1)] else []) ++ (if m.2 < a.2 then [(m.2, a.2)] else []) := by
  have ha : Span.right a.1 a.2 = true := by
    cases e : Span.right a.1 a.2 with
    | true => rfl
    | false => rw [meet_not (.inl e)] at h; cases h
  have hb : Span.right b.1 b.2 = true := by
    cases e : Span.right b.1 b.2 with
    | true => rfl
    | false => rw [meet_not (.inr e)] at h; cases h
  have h' := h
  rw [meet_eq ha hb] at h'
  rw [spanRight_iff] at ha hb
  split at h'
  · cases h'
  · rename_i hm
    cases h'
    unfold cut
    rw [h]
    simp only [rights, List.filter_cons, List.filter_nil]
    unfold iMin iMax at hm
    have e1 : Sp.right (a.1, iMax a.1 b.1) = decide (a.1 < iMax a.1 b.1) := by
      rw [Bool.eq_iff_iff, Sp.right, spanRight_iff, decide_eq_true_eq]; unfold iMax; split <;> omega
    have e2 : Sp.right (iMin a.2 b.2, a.2) = decide (iMin a.2 b.2 < a.2) := by
      rw [Bool.eq_iff_iff, Sp.right, spanRight_iff, decide_eq_true_eq]; unfold iMin; split <;> omega
    simp only [e1, e2, decide_eq_true_eq]
    split <;> split <;> rfl
theorem cut_none {a b : Sp} (h : meet a b = none) : cut a b = if Span.right a.1 a.2 = true then [a] else [] := by
  unfold cut
  rw [h]
  cases hr : Span.right a.1 a.2 <;> simp [rights, Sp.right, hr]

set_option maxRecDepth 8000 in
set_option maxHeartbeats 4000000 in
theorem Try.rCut (a b : Sp) : PureOK Try.prog 78 [pA a.enc, pA b.enc] (.one (.d (.sl ((cut a b).map Sp.enc)))) := by
  refine Try.pure (md := []) Try.func78 rfl Try.call78 (by kernel_rfl) (by rfl) (by exact Nat.le_of_ble_eq_true rfl) ?_
  have ha : a.enc = encSpan a.1 a.2 := rfl
  have hb : b.enc = encSpan b.1 b.2 := rfl
  have hM := Try.rMeet a b
  cases hm : meet a b with
  | none =>
    rw [hm] at hM
    rw [cut_none hm]
    have kr := Try.rSpanRight a.1 a.2
    cases hr : Span.right a.1 a.2 with
    | true =>
      rw [hr] at kr
      repeat' (first
        | with_reducible refine VC_seq fun K hK => ?_
        | with_reducible refine W_region ?_
        | with_reducible refine VC_block ?_
        | with_reducible refine VC_scope ?_
        | with_reducible refine VC_if ?_
        | with_reducible refine VC_skip ?_
        | with_reducible refine VC_exit ?_
        | with_reducible refine VC_ret ?_
        | (with_reducible refine G_not (fun h => ?_) (fun h => ?_) <;> (try simp only [h]))
        | (with_reducible refine G_cases (fun h => ?_) (fun h => ?_) <;> (try simp only [h]))
        | refine C_pure hM rfl rfl (fun _ => rfl) ?_
        | refine C_pure kr rfl rfl (fun _ => rfl) ?_
        | (with_reducible refine hK _ ?_; clear hK K)
        | (clear hK K; with_reducible refine hK _ ?_; clear hK K)
        | (clear hK K; clear hK K; with_reducible refine hK _ ?_; clear hK K)
        | (clear hK K; clear hK K; clear hK K; with_reducible refine hK _ ?_; clear hK K)
        | (with_reducible refine todo ?_; simp +decide only [go_sem, ha, hb, optSpan]))
      exact Ret_d rfl rfl
    | false =>
      rw [hr] at kr
      repeat' (first
        | with_reducible refine VC_seq fun K hK => ?_
        | with_reducible refine W_region ?_
        | with_reducible refine VC_block ?_
        | with_reducible refine VC_scope ?_
        | with_reducible refine VC_if ?_
        | with_reducible refine VC_skip ?_
        | with_reducible refine VC_exit ?_
        | with_reducible refine VC_ret ?_
        | (with_reducible refine G_not (fun h => ?_) (fun h => ?_) <;> (try simp only [h]))
        | (with_reducible refine G_cases (fun h => ?_) (fun h => ?_) <;> (try simp only [h]))
        | refine C_pure hM rfl rfl (fun _ => rfl) ?_
        | refine C_pure kr rfl rfl (fun _ => rfl) ?_
        | (with_reducible refine hK _ ?_; clear hK K)
        | (clear hK K; with_reducible refine hK _ ?_; clear hK K)
        | (clear hK K; clear hK K; with_reducible refine hK _ ?_; clear hK K)
        | (clear hK K; clear hK K; clear hK K; with_reducible refine hK _ ?_; clear hK K)
        | (with_reducible refine todo ?_; simp +decide only [go_sem, ha, hb, optSpan]))
      exact Ret_d rfl rfl
  | some m =>
    rw [hm] at hM
    rw [cut_some hm]
    have hme : m.enc = encSpan m.1 m.2 := rfl
    by_cases h1 : a.1 < m.1 <;> by_cases h2 : m.2 < a.2
    all_goals
      simp only [h1, h2, if_true, if_false]
      repeat' (first
        | with_reducible refine VC_seq fun K hK => ?_
        | with_reducible refine W_region ?_
        | with_reducible refine VC_block ?_
        | with_reducible refine VC_scope ?_
        | with_reducible refine VC_if ?_
        | with_reducible refine VC_skip ?_
        | with_reducible refine VC_exit ?_
        | with_reducible refine VC_ret ?_
        | (with_reducible refine G_not (fun h => ?_) (fun h => ?_) <;> (try simp only [h]))
        | (with_reducible refine G_cases (fun h => ?_) (fun h => ?_) <;> (try simp only [h]))
        | refine C_pure hM rfl rfl (fun _ => rfl) ?_
        | refine W_full Try.appSpans rfl rfl szNil (szOne rfl) (by simp) rfl ?_
        | refine W_own Try.appSpans rfl (szOne rfl) (szOne rfl) (by simp) (by simp +decide only [go_sem]) ?_
        | (with_reducible refine hK _ ?_; clear hK K)
        | (clear hK K; with_reducible refine hK _ ?_; clear hK K)
        | (clear hK K; clear hK K; with_reducible refine hK _ ?_; clear hK K)
        | (clear hK K; clear hK K; clear hK K; with_reducible refine hK _ ?_; clear hK K)
        | (with_reducible refine todo ?_; simp +decide only [go_sem, ha, hb, hme, h1, h2, optSpan]))
      exact Ret_d rfl rfl

set_option maxRecDepth 8000 in
set_option maxHeartbeats 8000000 in
theorem Try.rDrop (ps : List Piece) (s : Sp) (hn : ps.length ≤ 262144) (hr : ∀ p ∈ ps, p.row.length ≤ 1048576) (hok : rowsOK ps) : PureOK Try.prog 72 [pD (encPieces ps), pA s.enc] (.one (.d (encPieces (drop ps s)))) := by
  refine Try.pure (md := []) Try.func72 rfl Try.call72 (by kernel_rfl) (by rfl) (by exact Nat.le_of_ble_eq_true rfl) ?_
  have hs : s.enc = encSpan s.1 s.2 := rfl
  have hrt := Try.rRight ps (by omega) hr hok
  repeat' (first
    | with_reducible refine VC_seq fun K hK => ?_
    | with_reducible refine W_region ?_
    | with_reducible refine VC_block ?_
    | with_reducible refine VC_scope ?_
    | with_reducible refine VC_if ?_
    | with_reducible refine VC_skip ?_
    | with_reducible refine VC_exit ?_
    | with_reducible refine VC_ret ?_
    | (with_reducible refine G_not (fun h => ?_) (fun h => ?_) <;> (try simp only [h]))
    | (with_reducible refine G_cases (fun h => ?_) (fun h => ?_) <;> (try simp only [h]))
    | refine C_pure hrt rfl rfl (fun _ => rfl) ?_
    | refine C_pure (Try.rSpanRight s.1 s.2) rfl rfl (fun _ => rfl) ?_
    | (with_reducible refine hK _ ?_; clear hK K)
    | (clear hK K; with_reducible refine hK _ ?_; clear hK K)
    | (clear hK K; clear hK K; with_reducible refine hK _ ?_; clear hK K)
    | (clear hK K; clear hK K; clear hK K; with_reducible refine hK _ ?_; clear hK K)
    | (with_reducible refine todo ?_; simp +decide only [go_sem, hs]))
  · have hD : drop ps s = rests s ps := by unfold drop; simp [*]
    rw [hD] at hK ⊢
    refine VC_range ps.length (fun _ => True) (fun i => frame [(0, pD (encPieces ps)), (6, pD (.lit (.int .i64 i))), (5, .c (.own (49, 0) ((rests s (ps.take i)).map Piece.enc))), (3, .c (.ptr 3 0))]
      [(3, [.d (.lit (.int .i64 s.1)), .d (.lit (.int .i64 s.2))])] [((49, 0), .co 3 (rests s (ps.take i)).length)]) True.intro ?_ ?_
    · refine Weak_frame ?_ ?_ ?_ <;> simp +decide only [go_sem, rests, List.flatMap_nil]
      exact ⟨wkP_new rfl rfl, wkP_ptr (by simp [hOf])⟩
    · intro i hi hI
      rcases Nat.lt_or_ge i ps.length with hlt | hge
      · have hg := List.getElem?_eq_getElem hlt
        have hd := int_lt_true hlt
        have hw := int_next hlt (show ps.length ≤ 4294967296 by omega)
        generalize ps[i] = x at hg
        have hnx := rests_next (s := s) hg
        have hl : (rests s (ps.take i)).length ≤ 2 * i := Nat.le_trans (rests_length _ _) (by rw [List.length_take]; omega)
        have hcut := Try.rCut (x.lo, x.hi) s
        have hxe : Sp.enc (x.lo, x.hi) = encSpan x.lo x.hi := rfl
        have hcl := cut_length (x.lo, x.hi) s
        repeat' (first
          | with_reducible refine VC_seq fun K hK => ?_
          | with_reducible refine W_region ?_
          | with_reducible refine VC_block ?_
          | with_reducible refine VC_scope ?_
          | with_reducible refine VC_if ?_
          | with_reducible refine VC_skip ?_
          | with_reducible refine VC_exit ?_
          | with_reducible refine VC_ret ?_
          | (with_reducible refine G_not (fun h => ?_) (fun h => ?_) <;> (try simp only [h]))
          | (with_reducible refine G_cases (fun h => ?_) (fun h => ?_) <;> (try simp only [h]))
          | refine C_pure hcut rfl rfl (fun _ => rfl) ?_
          | (with_reducible refine hK _ ?_; clear hK K)
          | (clear hK K; with_reducible refine hK _ ?_; clear hK K)
          | (clear hK K; clear hK K; with_reducible refine hK _ ?_; clear hK K)
          | (clear hK K; clear hK K; clear hK K; with_reducible refine hK _ ?_; clear hK K)
          | (with_reducible refine todo ?_; simp +decide only [go_sem, hg, hd]))
        have hL : rest1 s x = (cut (x.lo, x.hi) s).map fun m => ⟨m.1, m.2, x.row⟩ := rfl
        generalize cut (x.lo, x.hi) s = L at hcut hcl hL
        refine VC_range L.length (fun _ => True) (fun j => frame [(7, pD (.sl (L.map Sp.enc))), (8, pD (.lit (.int .i64 j))), (0, pD (encPieces ps)), (6, pD (.lit (.int .i64 i))),
            (5, .c (.own (49, 0) ((rests s (ps.take i)).map Piece.enc ++ (L.take j).map fun m => Piece.enc ⟨m.1, m.2, x.row⟩))), (3, .c (.ptr 3 0))]
          [(3, [.d (.lit (.int .i64 s.1)), .d (.lit (.int .i64 s.2))])] [((49, 0), .co 3 ((rests s (ps.take i)).length + (L.take j).length))]) True.intro ?_ ?_
        · refine Weak_frame ?_ ?_ ?_ <;> simp +decide only [go_sem]
          exact ⟨wkP_own (by simp [aOf]) rfl, wkP_ptr (by simp [hOf])⟩
        · intro j hj hJ
          rcases Nat.lt_or_ge j L.length with hlt' | hge'
          · have hg' := List.getElem?_eq_getElem hlt'
            have hd' := int_lt_true hlt'
            have hw' := int_next hlt' (show L.length ≤ 4294967296 by omega)
            generalize L[j] = y at hg'
            have hy : y.enc = encSpan y.1 y.2 := rfl
            have htk := take_next hg'
            have hlj : (L.take j).length = j := by rw [List.length_take]; omega
            repeat' (first
              | with_reducible refine VC_seq fun K hK => ?_
              | with_reducible refine W_region ?_
              | with_reducible refine VC_block ?_
              | with_reducible refine VC_scope ?_
              | with_reducible refine VC_if ?_
              | with_reducible refine VC_skip ?_
              | with_reducible refine VC_exit ?_
              | with_reducible refine VC_ret ?_
              | (with_reducible refine G_not (fun h => ?_) (fun h => ?_) <;> (try simp only [h]))
              | (with_reducible refine G_cases (fun h => ?_) (fun h => ?_) <;> (try simp only [h]))
              | (refine W_own Try.appRef rfl (szApp (szPieces _) (szPM _ _)) (szOne rfl) (by simp; omega) (by simp; rfl) ?_)
              | (with_reducible refine hK _ ?_; clear hK K)
              | (clear hK K; with_reducible refine hK _ ?_; clear hK K)
              | (clear hK K; clear hK K; with_reducible refine hK _ ?_; clear hK K)
              | (clear hK K; clear hK K; clear hK K; with_reducible refine hK _ ?_; clear hK K)
              | (with_reducible refine todo ?_; simp +decide only [go_sem, hg, hg', hd', hw', hy]))
            refine Next_of hlt' True.intro (Weak_frame ?_ ?_ ?_) <;> simp +decide only [go_sem, htk, List.append_assoc, Nat.add_assoc]
            exact ⟨wkP_own (by simp [aOf]) rfl, wkP_ptr (by simp [hOf])⟩
          · have hd' := int_lt_false hge'
            rw [List.take_of_length_le hge']
            repeat' (first
              | with_reducible refine VC_seq fun K hK => ?_
              | with_reducible refine W_region ?_
              | with_reducible refine VC_block ?_
              | with_reducible refine VC_scope ?_
              | with_reducible refine VC_if ?_
              | with_reducible refine VC_skip ?_
              | with_reducible refine VC_exit ?_
              | with_reducible refine VC_ret ?_
              | (with_reducible refine G_not (fun h => ?_) (fun h => ?_) <;> (try simp only [h]))
              | (with_reducible refine G_cases (fun h => ?_) (fun h => ?_) <;> (try simp only [h]))
              | (with_reducible refine hK _ ?_; clear hK K)
              | (clear hK K; with_reducible refine hK _ ?_; clear hK K)
              | (clear hK K; clear hK K; with_reducible refine hK _ ?_; clear hK K)
              | (clear hK K; clear hK K; clear hK K; with_reducible refine hK _ ?_; clear hK K)
              | (with_reducible refine todo ?_; simp +decide only [go_sem, hd', hw]))
            refine Next_of hlt True.intro (Weak_frame ?_ ?_ ?_) <;> simp +decide only [go_sem, hnx, hL, List.map_map]
            exact ⟨wkP_own (by simp [aOf]) rfl, wkP_ptr (by simp [hOf])⟩
      · have hd := int_lt_false hge
        rw [List.take_of_length_le hge]
        repeat' (first
          | with_reducible refine VC_seq fun K hK => ?_
          | with_reducible refine W_region ?_
          | with_reducible refine VC_block ?_
          | with_reducible refine VC_scope ?_
          | with_reducible refine VC_if ?_
          | with_reducible refine VC_skip ?_
          | with_reducible refine VC_exit ?_
          | with_reducible refine VC_ret ?_
          | (with_reducible refine G_not (fun h => ?_) (fun h => ?_) <;> (try simp only [h]))
          | (with_reducible refine G_cases (fun h => ?_) (fun h => ?_) <;> (try simp only [h]))
          | (with_reducible refine hK _ ?_; clear hK K)
          | (clear hK K; with_reducible refine hK _ ?_; clear hK K)
          | (clear hK K; clear hK K; with_reducible refine hK _ ?_; clear hK K)
          | (clear hK K; clear hK K; clear hK K; with_reducible refine hK _ ?_; clear hK K)
          | (with_reducible refine todo ?_; simp +decide only [go_sem, hd]))
        exact Ret_d rfl rfl
  all_goals
    have hD : drop ps s = ps := by unfold drop; simp [*]
    rw [hD]
    exact Ret_d rfl rfl

set_option maxRecDepth 8000 in
set_option maxHeartbeats 8000000 in
theorem Try.rPut (ps : List Piece) (s : Sp) (r : Row) (hn : ps.length ≤ 131072) (hr : ∀ p ∈ ps, p.row.length ≤ 1048576) (hok : rowsOK ps) (hrr : r.length ≤ 1048576) (hrok : Row.ok' r) : PureOK Try.prog 49 [pD (encPieces ps), pA s.enc, pD (encRow r)] (.one (.d (encPieces (putP ps s r)))) := by
  refine Try.pure (md := []) Try.func49 rfl Try.call49 (by kernel_rfl) (by rfl) (by exact Nat.le_of_ble_eq_true rfl) ?_
  have hs : s.enc = encSpan s.1 s.2 := rfl
  have hrt := Try.rRight ps (by omega) hr hok
  have hdr := Try.rDrop ps s (by omega) hr hok
  repeat' (first
    | with_reducible refine VC_seq fun K hK => ?_
    | with_reducible refine W_region ?_
    | with_reducible refine VC_block ?_
    | with_reducible refine VC_scope ?_
    | with_reducible refine VC_if ?_
    | with_reducible refine VC_skip ?_
    | with_reducible refine VC_exit ?_
    | with_reducible refine VC_ret ?_
    | (with_reducible refine G_not (fun h => ?_) (fun h => ?_) <;> (try simp only [h]))
    | (with_reducible refine G_cases (fun h => ?_) (fun h => ?_) <;> (try simp only [h]))
    | refine C_pure hrt rfl rfl (fun _ => rfl) ?_
    | refine C_pure (Try.rSpanRight s.1 s.2) rfl rfl (fun _ => rfl) ?_
    | refine C_pure (Try.rRowRight r (by omega) hrok) rfl rfl (fun _ => rfl) ?_
    | refine C_pure hdr rfl rfl (fun _ => rfl) ?_
    | (with_reducible refine hK _ ?_; clear hK K)
    | (clear hK K; with_reducible refine hK _ ?_; clear hK K)
    | (clear hK K; clear hK K; with_reducible refine hK _ ?_; clear hK K)
    | (clear hK K; clear hK K; clear hK K; with_reducible refine hK _ ?_; clear hK K)
    | (with_reducible refine todo ?_; simp +decide only [go_sem, hs]))
  · have hP : putP ps s r = insert' s r (drop ps s) := by unfold putP; simp [*]
    have hql := drop_length ps s
    rw [hP] at hK ⊢
    generalize drop ps s = q at *
    refine VC_range q.length (fun i => (q.take i).all (ahead s) = true) (fun i => frame [(2, pD (encRow r)), (4, .c (.ptr 4 0)), (8, pD (encPieces q)), (9, pD (.lit (.int .i64 i))), (7, .c (.own (48, 0) ((q.take i).map Piece.enc)))]
      [(4, [.d (.lit (.int .i64 s.1)), .d (.lit (.int .i64 s.2))])] [((48, 0), .co 3 (q.take i).length)]) rfl ?_ ?_
    · refine Weak_frame ?_ ?_ ?_ <;> simp +decide only [go_sem]
      exact ⟨wkP_ptr (by simp [hOf]), wkP_new rfl rfl⟩
    · intro i hi hI
      have hend : (∀ x, q[i]? = some x → ahead s x = false) → insert' s r q = q.take i ++ (⟨s.1, s.2, r⟩ :: q.drop i) := fun h => by
        obtain ⟨e1, e2⟩ := while_stop hI h
        rw [insert', e1, e2]
      have hq2 : List.take (q.length - i) ((q.drop i).map Piece.enc) = (q.drop i).map Piece.enc := List.take_of_length_le (by simp)
      have hlt1 : (q.take i).length = i := by rw [List.length_take]; omega
      rcases Nat.lt_or_ge i q.length with hlt | hge
      · have hg := List.getElem?_eq_getElem hlt
        have hd := int_lt_true hlt
        have hw := int_next hlt (show q.length ≤ 4294967296 by omega)
        generalize q[i] = x at hg
        have htk := take_next hg
        repeat' (first
          | with_reducible refine VC_seq fun K hK => ?_
          | with_reducible refine W_region ?_
          | with_reducible refine VC_block ?_
          | with_reducible refine VC_scope ?_
          | with_reducible refine VC_if ?_
          | with_reducible refine VC_skip ?_
          | with_reducible refine VC_exit ?_
          | with_reducible refine VC_ret ?_
          | (with_reducible refine G_not (fun h => ?_) (fun h => ?_) <;> (try simp only [h]))
          | (with_reducible refine G_cases (fun h => ?_) (fun h => ?_) <;> (try simp only [h]))
          | (refine W_own Try.appRef rfl (szPieces _) (szOne rfl) (by simp; omega) (by simp; rfl) ?_)
          | refine W_slc Try.appRef rfl (l := i) (h := q.length) (by simp [optNat, natOf?, intOf?]) (by simp [optNat]) (by omega) (by simp) (szPieces _) ?_
          | (refine W_own Try.appRef rfl (szApp (szPieces _) (szOne rfl)) (szPieces _) (by simp; omega) (by simp; rfl) ?_)
          | (with_reducible refine hK _ ?_; clear hK K)
          | (clear hK K; with_reducible refine hK _ ?_; clear hK K)
          | (clear hK K; clear hK K; with_reducible refine hK _ ?_; clear hK K)
          | (clear hK K; clear hK K; clear hK K; with_reducible refine hK _ ?_; clear hK K)
          | (with_reducible refine todo ?_; simp +decide only [go_sem, hg, hd, hw, ← List.map_drop, hq2]))
        · refine Next_of hlt (all_take hI hg h) (Weak_frame ?_ ?_ ?_) <;> simp +decide only [go_sem, htk]
          exact ⟨wkP_ptr (by simp [hOf]), wkP_own (by simp [aOf]) rfl⟩
        · rw [hend (fun y hy => by rw [hg] at hy; cases hy; exact h)]
          refine Ret_d rfl ?_
          simp +decide only [go_sem, List.append_assoc]
      · have hd := int_lt_false hge
        repeat' (first
          | with_reducible refine VC_seq fun K hK => ?_
          | with_reducible refine W_region ?_
          | with_reducible refine VC_block ?_
          | with_reducible refine VC_scope ?_
          | with_reducible refine VC_if ?_
          | with_reducible refine VC_skip ?_
          | with_reducible refine VC_exit ?_
          | with_reducible refine VC_ret ?_
          | (with_reducible refine G_not (fun h => ?_) (fun h => ?_) <;> (try simp only [h]))
          | (with_reducible refine G_cases (fun h => ?_) (fun h => ?_) <;> (try simp only [h]))
          | (refine W_own Try.appRef rfl (szPieces _) (szOne rfl) (by simp; omega) (by simp; rfl) ?_)
          | refine W_slc Try.appRef rfl (l := i) (h := q.length) (by simp [optNat, natOf?, intOf?]) (by simp [optNat]) (by omega) (by simp) (szPieces _) ?_
          | (refine W_own Try.appRef rfl (szApp (szPieces _) (szOne rfl)) (szPieces _) (by simp; omega) (by simp; rfl) ?_)
          | (with_reducible refine hK _ ?_; clear hK K)
          | (clear hK K; with_reducible refine hK _ ?_; clear hK K)
          | (clear hK K; clear hK K; with_reducible refine hK _ ?_; clear hK K)
          | (clear hK K; clear hK K; clear hK K; with_reducible refine hK _ ?_; clear hK K)
          | (with_reducible refine todo ?_; simp +decide only [go_sem, hd, ← List.map_drop, hq2]))
        rw [hend (fun y hy => by rw [List.getElem?_eq_none hge] at hy; cases hy)]
        refine Ret_d rfl ?_
        simp +decide only [go_sem, List.append_assoc]
  all_goals
    have hP : putP ps s r = ps := by unfold putP; simp [*]
    rw [hP]
    exact Ret_d rfl rfl
end Go.Proofs
