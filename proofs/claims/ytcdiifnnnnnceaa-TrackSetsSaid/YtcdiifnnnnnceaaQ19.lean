import Derived.Test.YtcdiifnnnnnceaaQ18
import Derived.Test.YtcdiifnnnnnceaaQ16

/-
  The document's pieces: At, Cut, Drop, Put.
-/

namespace Go.Proofs
open Go.PW

def optRowD (r : Option Row) : RV :=
  match r with
  | some r => .tup [.d (encRow r), dB true]
  | none => .tup [.d (encRow []), dB false]

theorem at_not {ps : List Piece} {t : Int} (h : right ps = false) : at_ ps t = none := by unfold at_; rw [h]; rfl
theorem at_yes {ps : List Piece} {t : Int} (h : right ps = true) : at_ ps t = at' ps t := by unfold at_; rw [h]; rfl

theorem cut_some {a b m : Sp} (h : meet a b = some m) : cut a b = (if a.1 < m.1 then [(a.1, m.1)] else []) ++ (if m.2 < a.2 then [(m.2, a.2)] else []) := by
  have ha : Span.right a.1 a.2 = true := by
    cases e : Span.right a.1 a.2 with
    | true => rfl
    | false => rw [meet_not (.inl e)] at h; cases h
  have hb : Span.right b.1 b.2 = true := by
    cases e : Span.right b.1 b.2 with
    | true => rfl
    | false => rw [meet_not (.inr e)] at h; cases h
  have h' := h
  rw [meet_eq ha hb] at h'
  rw [spanRight_iff] at ha hb
  split at h'
  · cases h'
  · rename_i hm
    cases h'
    unfold cut
    rw [h]
    simp only [rights, List.filter_cons, List.filter_nil]
    unfold iMin iMax at hm
    have e1 : Sp.right (a.1, iMax a.1 b.1) = decide (a.1 < iMax a.1 b.1) := by
      rw [Bool.eq_iff_iff, Sp.right, spanRight_iff, decide_eq_true_eq]; unfold iMax; split <;> omega
    have e2 : Sp.right (iMin a.2 b.2, a.2) = decide (iMin a.2 b.2 < a.2) := by
      rw [Bool.eq_iff_iff, Sp.right, spanRight_iff, decide_eq_true_eq]; unfold iMin; split <;> omega
    simp only [e1, e2, decide_eq_true_eq]
    split <;> split <;> rfl
theorem cut_none {a b : Sp} (h : meet a b = none) : cut a b = if Span.right a.1 a.2 = true then [a] else [] := by
  unfold cut
  rw [h]
  cases hr : Span.right a.1 a.2 <;> simp [rights, Sp.right, hr]

set_option maxRecDepth 8000 in
set_option maxHeartbeats 4000000 in
theorem Try.rCut (a b : Sp) : PureOK Try.prog 78 [pA a.enc, pA b.enc] (.one (.d (.sl ((cut a b).map Sp.enc)))) := by
  refine Try.pure (md := []) Try.func78 rfl Try.call78 (by kernel_rfl) (by rfl) (by exact Nat.le_of_ble_eq_true rfl) ?_
  have ha : a.enc = encSpan a.1 a.2 := rfl
  have hb : b.enc = encSpan b.1 b.2 := rfl
  have hM := Try.rMeet a b
  cases hm : meet a b with
  | none =>
    rw [hm] at hM
    rw [cut_none hm]
    have kr := Try.rSpanRight a.1 a.2
    cases hr : Span.right a.1 a.2 with
    | true =>
      rw [hr] at kr
      repeat' (first
        | with_reducible refine VC_seq fun K hK => ?_
        | with_reducible refine W_region ?_
        | with_reducible refine VC_block ?_
        | with_reducible refine VC_scope ?_
        | with_reducible refine VC_if ?_
        | with_reducible refine VC_skip ?_
        | with_reducible refine VC_exit ?_
        | with_reducible refine VC_ret ?_
        | (with_reducible refine G_not (fun h => ?_) (fun h => ?_) <;> (try simp only [h]))
        | (with_reducible refine G_cases (fun h => ?_) (fun h => ?_) <;> (try simp only [h]))
        | refine C_pure hM rfl rfl (fun _ => rfl) ?_
        | refine C_pure kr rfl rfl (fun _ => rfl) ?_
        | (with_reducible refine hK _ ?_; clear hK K)
        | (clear hK K; with_reducible refine hK _ ?_; clear hK K)
        | (clear hK K; clear hK K; with_reducible refine hK _ ?_; clear hK K)
        | (clear hK K; clear hK K; clear hK K; with_reducible refine hK _ ?_; clear hK K)
        | (with_reducible refine todo ?_; simp +decide only [go_sem, ha, hb, optSpan]))
      exact Ret_d rfl rfl
    | false =>
      rw [hr] at kr
      repeat' (first
        | with_reducible refine VC_seq fun K hK => ?_
        | with_reducible refine W_region ?_
        | with_reducible refine VC_block ?_
        | with_reducible refine VC_scope ?_
        | with_reducible refine VC_if ?_
        | with_reducible refine VC_skip ?_
        | with_reducible refine VC_exit ?_
        | with_reducible refine VC_ret ?_
        | (with_reducible refine G_not (fun h => ?_) (fun h => ?_) <;> (try simp only [h]))
        | (with_reducible refine G_cases (fun h => ?_) (fun h => ?_) <;> (try simp only [h]))
        | refine C_pure hM rfl rfl (fun _ => rfl) ?_
        | refine C_pure kr rfl rfl (fun _ => rfl) ?_
        | (with_reducible refine hK _ ?_; clear hK K)
        | (clear hK K; with_reducible refine hK _ ?_; clear hK K)
        | (clear hK K; clear hK K; with_reducible refine hK _ ?_; clear hK K)
        | (clear hK K; clear hK K; clear hK K; with_reducible refine hK _ ?_; clear hK K)
        | (with_reducible refine todo ?_; simp +decide only [go_sem, ha, hb, optSpan]))
      exact Ret_d rfl rfl
  | some m =>
    rw [hm] at hM
    rw [cut_some hm]
    have hme : m.enc = encSpan m.1 m.2 := rfl
    by_cases h1 : a.1 < m.1 <;> by_cases h2 : m.2 < a.2
    all_goals
      simp only [h1, h2, if_true, if_false]
      repeat' (first
        | with_reducible refine VC_seq fun K hK => ?_
        | with_reducible refine W_region ?_
        | with_reducible refine VC_block ?_
        | with_reducible refine VC_scope ?_
        | with_reducible refine VC_if ?_
        | with_reducible refine VC_skip ?_
        | with_reducible refine VC_exit ?_
        | with_reducible refine VC_ret ?_
        | (with_reducible refine G_not (fun h => ?_) (fun h => ?_) <;> (try simp only [h]))
        | (with_reducible refine G_cases (fun h => ?_) (fun h => ?_) <;> (try simp only [h]))
        | refine C_pure hM rfl rfl (fun _ => rfl) ?_
        | refine W_full Try.appSpans rfl rfl szNil (szOne rfl) (by simp) rfl ?_
        | refine W_own Try.appSpans rfl (szOne rfl) (szOne rfl) (by simp) (by simp +decide only [go_sem]) ?_
        | (with_reducible refine hK _ ?_; clear hK K)
        | (clear hK K; with_reducible refine hK _ ?_; clear hK K)
        | (clear hK K; clear hK K; with_reducible refine hK _ ?_; clear hK K)
        | (clear hK K; clear hK K; clear hK K; with_reducible refine hK _ ?_; clear hK K)
        | (with_reducible refine todo ?_; simp +decide only [go_sem, ha, hb, hme, h1, h2, optSpan]))
      exact Ret_d rfl rfl

set_option maxRecDepth 8000 in
set_option maxHeartbeats 8000000 in
theorem Try.rDrop (ps : List Piece) (s : Sp) (hn : ps.length ≤ 262144) (hr : ∀ p ∈ ps, p.row.length ≤ 1048576) (hok : rowsOK ps) : PureOK Try.prog 72 [pD (encPieces ps), pA s.enc] (.one (.d (encPieces (drop ps s)))) := by
  refine Try.pure (md := []) Try.func72 rfl Try.call72 (by kernel_rfl) (by rfl) (by exact Nat.le_of_ble_eq_true rfl) ?_
  have hs : s.enc = encSpan s.1 s.2 := rfl
  have hrt := Try.rRight ps (by omega) hr hok
  repeat' (first
    | with_reducible refine VC_seq fun K hK => ?_
    | with_reducible refine W_region ?_
    | with_reducible refine VC_block ?_
    | with_reducible refine VC_scope ?_
    | with_reducible refine VC_if ?_
    | with_reducible refine VC_skip ?_
    | with_reducible refine VC_exit ?_
    | with_reducible refine VC_ret ?_
    | (with_reducible refine G_not (fun h => ?_) (fun h => ?_) <;> (try simp only [h]))
    | (with_reducible refine G_cases (fun h => ?_) (fun h => ?_) <;> (try simp only [h]))
    | refine C_pure hrt rfl rfl (fun _ => rfl) ?_
    | refine C_pure (Try.rSpanRight s.1 s.2) rfl rfl (fun _ => rfl) ?_
    | (with_reducible refine hK _ ?_; clear hK K)
    | (clear hK K; with_reducible refine hK _ ?_; clear hK K)
    | (clear hK K; clear hK K; with_reducible refine hK _ ?_; clear hK K)
    | (clear hK K; clear hK K; clear hK K; with_reducible refine hK _ ?_; clear hK K)
    | (with_reducible refine todo ?_; simp +decide only [go_sem, hs]))
  · have hD : drop ps s = rests s ps := by unfold drop; simp [*]
    rw [hD] at hK ⊢
    refine VC_range ps.length (fun _ => True) (fun i => frame [(0, pD (encPieces ps)), (6, pD (.lit (.int .i64 i))), (5, .c (.own (49, 0) ((rests s (ps.take i)).map Piece.enc))), (3, .c (.ptr 3 0))]
      [(3, [.d (.lit (.int .i64 s.1)), .d (.lit (.int .i64 s.2))])] [((49, 0), .co 3 (rests s (ps.take i)).length)]) True.intro ?_ ?_
    · refine Weak_frame ?_ ?_ ?_ <;> simp +decide only [go_sem, rests, List.flatMap_nil]
      exact ⟨wkP_new rfl rfl, wkP_ptr (by simp [hOf])⟩
    · intro i hi hI
      rcases Nat.lt_or_ge i ps.length with hlt | hge
      · have hg := List.getElem?_eq_getElem hlt
        have hd := int_lt_true hlt
        have hw := int_next hlt (show ps.length ≤ 4294967296 by omega)
        generalize ps[i] = x at hg
        have hnx := rests_next (s := s) hg
        have hl : (rests s (ps.take i)).length ≤ 2 * i := Nat.le_trans (rests_length _ _) (by rw [List.length_take]; omega)
        have hcut := Try.rCut (x.lo, x.hi) s
        have hxe : Sp.enc (x.lo, x.hi) = encSpan x.lo x.hi := rfl
        have hcl := cut_length (x.lo, x.hi) s
        repeat' (first
          | with_reducible refine VC_seq fun K hK => ?_
          | with_reducible refine W_region ?_
          | with_reducible refine VC_block ?_
          | with_reducible refine VC_scope ?_
          | with_reducible refine VC_if ?_
          | with_reducible refine VC_skip ?_
          | with_reducible refine VC_exit ?_
          | with_reducible refine VC_ret ?_
          | (with_reducible refine G_not (fun h => ?_) (fun h => ?_) <;> (try simp only [h]))
          | (with_reducible refine G_cases (fun h => ?_) (fun h => ?_) <;> (try simp only [h]))
          | refine C_pure hcut rfl rfl (fun _ => rfl) ?_
          | (with_reducible refine hK _ ?_; clear hK K)
          | (clear hK K; with_reducible refine hK _ ?_; clear hK K)
          | (clear hK K; clear hK K; with_reducible refine hK _ ?_; clear hK K)
          | (clear hK K; clear hK K; clear hK K; with_reducible refine hK _ ?_; clear hK K)
          | (with_reducible refine todo ?_; simp +decide only [go_sem, hg, hd]))
        have hL : rest1 s x = (cut (x.lo, x.hi) s).map fun m => ⟨m.1, m.2, x.row⟩ := rfl
        generalize cut (x.lo, x.hi) s = L at hcut hcl hL
        refine VC_range L.length (fun _ => True) (fun j => frame [(7, pD (.sl (L.map Sp.enc))), (8, pD (.lit (.int .i64 j))), (0, pD (encPieces ps)), (6, pD (.lit (.int .i64 i))),
            (5, .c (.own (49, 0) ((rests s (ps.take i)).map Piece.enc ++ (L.take j).map fun m => Piece.enc ⟨m.1, m.2, x.row⟩))), (3, .c (.ptr 3 0))]
          [(3, [.d (.lit (.int .i64 s.1)), .d (.lit (.int .i64 s.2))])] [((49, 0), .co 3 ((rests s (ps.take i)).length + (L.take j).length))]) True.intro ?_ ?_
        · refine Weak_frame ?_ ?_ ?_ <;> simp +decide only [go_sem]
          exact ⟨wkP_own (by simp [aOf]) rfl, wkP_ptr (by simp [hOf])⟩
        · intro j hj hJ
          rcases Nat.lt_or_ge j L.length with hlt' | hge'
          · have hg' := List.getElem?_eq_getElem hlt'
            have hd' := int_lt_true hlt'
            have hw' := int_next hlt' (show L.length ≤ 4294967296 by omega)
            generalize L[j] = y at hg'
            have hy : y.enc = encSpan y.1 y.2 := rfl
            have htk := take_next hg'
            have hlj : (L.take j).length = j := by rw [List.length_take]; omega
            repeat' (first
              | with_reducible refine VC_seq fun K hK => ?_
              | with_reducible refine W_region ?_
              | with_reducible refine VC_block ?_
              | with_reducible refine VC_scope ?_
              | with_reducible refine VC_if ?_
              | with_reducible refine VC_skip ?_
              | with_reducible refine VC_exit ?_
              | with_reducible refine VC_ret ?_
              | (with_reducible refine G_not (fun h => ?_) (fun h => ?_) <;> (try simp only [h]))
              | (with_reducible refine G_cases (fun h => ?_) (fun h => ?_) <;> (try simp only [h]))
              | (refine W_own Try.appRef rfl (szApp (szPieces _) (szPM _ _)) (szOne rfl) (by simp; omega) (by simp; rfl) ?_)
              | (with_reducible refine hK _ ?_; clear hK K)
              | (clear hK K; with_reducible refine hK _ ?_; clear hK K)
              | (clear hK K; clear hK K; with_reducible refine hK _ ?_; clear hK K)
              | (clear hK K; clear hK K; clear hK K; with_reducible refine hK _ ?_; clear hK K)
              | (with_reducible refine todo ?_; simp +decide only [go_sem, hg, hg', hd', hw', hy]))
            refine Next_of hlt' True.intro (Weak_frame ?_ ?_ ?_) <;> simp +decide only [go_sem, htk, List.append_assoc, Nat.add_assoc]
            exact ⟨wkP_own (by simp [aOf]) rfl, wkP_ptr (by simp [hOf])⟩
          · have hd' := int_lt_false hge'
            rw [List.take_of_length_le hge']
            repeat' (first
              | with_reducible refine VC_seq fun K hK => ?_
              | with_reducible refine W_region ?_
              | with_reducible refine VC_block ?_
              | with_reducible refine VC_scope ?_
              | with_reducible refine VC_if ?_
              | with_reducible refine VC_skip ?_
              | with_reducible refine VC_exit ?_
              | with_reducible refine VC_ret ?_
              | (with_reducible refine G_not (fun h => ?_) (fun h => ?_) <;> (try simp only [h]))
              | (with_reducible refine G_cases (fun h => ?_) (fun h => ?_) <;> (try simp only [h]))
              | (with_reducible refine hK _ ?_; clear hK K)
              | (clear hK K; with_reducible refine hK _ ?_; clear hK K)
              | (clear hK K; clear hK K; with_reducible refine hK _ ?_; clear hK K)
              | (clear hK K; clear hK K; clear hK K; with_reducible refine hK _ ?_; clear hK K)
              | (with_reducible refine todo ?_; simp +decide only [go_sem, hd', hw]))
            refine Next_of hlt True.intro (Weak_frame ?_ ?_ ?_) <;> simp +decide only [go_sem, hnx, hL, List.map_map]
            exact ⟨wkP_own (by simp [aOf]) rfl, wkP_ptr (by simp [hOf])⟩
      · have hd := int_lt_false hge
        rw [List.take_of_length_le hge]
        repeat' (first
          | with_reducible refine VC_seq fun K hK => ?_
          | with_reducible refine W_region ?_
          | with_reducible refine VC_block ?_
          | with_reducible refine VC_scope ?_
          | with_reducible refine VC_if ?_
          | with_reducible refine VC_skip ?_
          | with_reducible refine VC_exit ?_
          | with_reducible refine VC_ret ?_
          | (with_reducible refine G_not (fun h => ?_) (fun h => ?_) <;> (try simp only [h]))
          | (with_reducible refine G_cases (fun h => ?_) (fun h => ?_) <;> (try simp only [h]))
          | (with_reducible refine hK _ ?_; clear hK K)
          | (clear hK K; with_reducible refine hK _ ?_; clear hK K)
          | (clear hK K; clear hK K; with_reducible refine hK _ ?_; clear hK K)
          | (clear hK K; clear hK K; clear hK K; with_reducible refine hK _ ?_; clear hK K)
          | (with_reducible refine todo ?_; simp +decide only [go_sem, hd]))
        exact Ret_d rfl rfl
  all_goals
    have hD : drop ps s = ps := by unfold drop; simp [*]
    rw [hD]
    exact Ret_d rfl rfl

set_option maxRecDepth 8000 in
set_option maxHeartbeats 8000000 in
theorem Try.rPut (ps : List Piece) (s : Sp) (r : Row) (hn : ps.length ≤ 131072) (hr : ∀ p ∈ ps, p.row.length ≤ 1048576) (hok : rowsOK ps) (hrr : r.length ≤ 1048576) (hrok : Row.ok' r) : PureOK Try.prog 49 [pD (encPieces ps), pA s.enc, pD (encRow r)] (.one (.d (encPieces (putP ps s r)))) := by
  refine Try.pure (md := []) Try.func49 rfl Try.call49 (by kernel_rfl) (by rfl) (by exact Nat.le_of_ble_eq_true rfl) ?_
  have hs : s.enc = encSpan s.1 s.2 := rfl
  have hrt := Try.rRight ps (by omega) hr hok
  have hdr := Try.rDrop ps s (by omega) hr hok
  repeat' (first
    | with_reducible refine VC_seq fun K hK => ?_
    | with_reducible refine W_region ?_
    | with_reducible refine VC_block ?_
    | with_reducible refine VC_scope ?_
    | with_reducible refine VC_if ?_
    | with_reducible refine VC_skip ?_
    | with_reducible refine VC_exit ?_
    | with_reducible refine VC_ret ?_
    | (with_reducible refine G_not (fun h => ?_) (fun h => ?_) <;> (try simp only [h]))
    | (with_reducible refine G_cases (fun h => ?_) (fun h => ?_) <;> (try simp only [h]))
    | refine C_pure hrt rfl rfl (fun _ => rfl) ?_
    | refine C_pure (Try.rSpanRight s.1 s.2) rfl rfl (fun _ => rfl) ?_
    | refine C_pure (Try.rRowRight r (by omega) hrok) rfl rfl (fun _ => rfl) ?_
    | refine C_pure hdr rfl rfl (fun _ => rfl) ?_
    | (with_reducible refine hK _ ?_; clear hK K)
    | (clear hK K; with_reducible refine hK _ ?_; clear hK K)
    | (clear hK K; clear hK K; with_reducible refine hK _ ?_; clear hK K)
    | (clear hK K; clear hK K; clear hK K; with_reducible refine hK _ ?_; clear hK K)
    | (with_reducible refine todo ?_; simp +decide only [go_sem, hs]))
  · have hP : putP ps s r = insert' s r (drop ps s) := by unfold putP; simp [*]
    have hql := drop_length ps s
    rw [hP] at hK ⊢
    generalize drop ps s = q at *
    refine VC_range q.length (fun i => (q.take i).all (ahead s) = true) (fun i => frame [(2, pD (encRow r)), (4, .c (.ptr 4 0)), (8, pD (encPieces q)), (9, pD (.lit (.int .i64 i))), (7, .c (.own (48, 0) ((q.take i).map Piece.enc)))]
      [(4, [.d (.lit (.int .i64 s.1)), .d (.lit (.int .i64 s.2))])] [((48, 0), .co 3 (q.take i).length)]) rfl ?_ ?_
    · refine Weak_frame ?_ ?_ ?_ <;> simp +decide only [go_sem]
      exact ⟨wkP_ptr (by simp [hOf]), wkP_new rfl rfl⟩
    · intro i hi hI
      have hend : (∀ x, q[i]? = some x → ahead s x = false) → insert' s r q = q.take i ++ (⟨s.1, s.2, r⟩ :: q.drop i) := fun h => by
        obtain ⟨e1, e2⟩ := while_stop hI h
        rw [insert', e1, e2]
      have hq2 : List.take (q.length - i) ((q.drop i).map Piece.enc) = (q.drop i).map Piece.enc := List.take_of_length_le (by simp)
      have hlt1 : (q.take i).length = i := by rw [List.length_take]; omega
      rcases Nat.lt_or_ge i q.length with hlt | hge
      · have hg := List.getElem?_eq_getElem hlt
        have hd := int_lt_true hlt
        have hw := int_next hlt (show q.length ≤ 4294967296 by omega)
        generalize q[i] = x at hg
        have htk := take_next hg
        repeat' (first
          | with_reducible refine VC_seq fun K hK => ?_
          | with_reducible refine W_region ?_
          | with_reducible refine VC_block ?_
          | with_reducible refine VC_scope ?_
          | with_reducible refine VC_if ?_
          | with_reducible refine VC_skip ?_
          | with_reducible refine VC_exit ?_
          | with_reducible refine VC_ret ?_
          | (with_reducible refine G_not (fun h => ?_) (fun h => ?_) <;> (try simp only [h]))
          | (with_reducible refine G_cases (fun h => ?_) (fun h => ?_) <;> (try simp only [h]))
          | (refine W_own Try.appRef rfl (szPieces _) (szOne rfl) (by simp; omega) (by simp; rfl) ?_)
          | refine W_slc Try.appRef rfl (l := i) (h := q.length) (by simp [optNat, natOf?, intOf?]) (by simp [optNat]) (by omega) (by simp) (szPieces _) ?_
          | (refine W_own Try.appRef rfl (szApp (szPieces _) (szOne rfl)) (szPieces _) (by simp; omega) (by simp; rfl) ?_)
          | (with_reducible refine hK _ ?_; clear hK K)
          | (clear hK K; with_reducible refine hK _ ?_; clear hK K)
          | (clear hK K; clear hK K; with_reducible refine hK _ ?_; clear hK K)
          | (clear hK K; clear hK K; clear hK K; with_reducible refine hK _ ?_; clear hK K)
          | (with_reducible refine todo ?_; simp +decide only [go_sem, hg, hd, hw, ← List.map_drop, hq2]))
        · refine Next_of hlt (all_take hI hg h) (Weak_frame ?_ ?_ ?_) <;> simp +decide only [go_sem, htk]
          exact ⟨wkP_ptr (by simp [hOf]), wkP_own (by simp [aOf]) rfl⟩
        · rw [hend (fun y hy => by rw [hg] at hy; cases hy; exact h)]
          refine Ret_d rfl ?_
          simp +decide only [go_sem, List.append_assoc]
      · have hd := int_lt_false hge
        repeat' (first
          | with_reducible refine VC_seq fun K hK => ?_
          | with_reducible refine W_region ?_
          | with_reducible refine VC_block ?_
          | with_reducible refine VC_scope ?_
          | with_reducible refine VC_if ?_
          | with_reducible refine VC_skip ?_
          | with_reducible refine VC_exit ?_
          | with_reducible refine VC_ret ?_
          | (with_reducible refine G_not (fun h => ?_) (fun h => ?_) <;> (try simp only [h]))
          | (with_reducible refine G_cases (fun h => ?_) (fun h => ?_) <;> (try simp only [h]))
          | (refine W_own Try.appRef rfl (szPieces _) (szOne rfl) (by simp; omega) (by simp; rfl) ?_)
          | refine W_slc Try.appRef rfl (l := i) (h := q.length) (by simp [optNat, natOf?, intOf?]) (by simp [optNat]) (by omega) (by simp) (szPieces _) ?_
          | (refine W_own Try.appRef rfl (szApp (szPieces _) (szOne rfl)) (szPieces _) (by simp; omega) (by simp; rfl) ?_)
          | (with_reducible refine hK _ ?_; clear hK K)
          | (clear hK K; with_reducible refine hK _ ?_; clear hK K)
          | (clear hK K; clear hK K; with_reducible refine hK _ ?_; clear hK K)
          | (clear hK K; clear hK K; clear hK K; with_reducible refine hK _ ?_; clear hK K)
          | (with_reducible refine todo ?_; simp +decide only [go_sem, hd, ← List.map_drop, hq2]))
        rw [hend (fun y hy => by rw [List.getElem?_eq_none hge] at hy; cases hy)]
        refine Ret_d rfl ?_
        simp +decide only [go_sem, List.append_assoc]
  all_goals
    have hP : putP ps s r = ps := by unfold putP; simp [*]
    rw [hP]
    exact Ret_d rfl rfl
end Go.Proofs

/-
  The document's pieces: Coalesce.
-/


namespace Go.Proofs
open Go.PW

theorem touches_snoc {out : List Piece} {z y : Piece} : touches (out ++ [z]) y = ((y.lo == z.hi) && sameRow y.row z.row) := by
  unfold touches
  rw [List.getLast?_concat]
  show ((z.hi == y.lo) && sameRow z.row y.row) = _
  rw [Bool.eq_iff_iff]
  simp only [Bool.and_eq_true, beq_iff_eq, sameRow_iff]
  constructor
  · rintro ⟨h1, h2⟩; exact ⟨h1.symm, h2.symm⟩
  · rintro ⟨h1, h2⟩; exact ⟨h1.symm, h2.symm⟩

/-- The last piece of what was coalesced so far. -/
def zOf (ps : List Piece) (x : Piece) (m : Nat) : Piece := ((co (ps.take m)).getLast?).getD x
theorem zOf_eq {ps out : List Piece} {x z : Piece} {m : Nat} (h : co (ps.take m) = out ++ [z]) : zOf ps x m = z := by
  unfold zOf
  rw [h, List.getLast?_concat]
  rfl

set_option maxRecDepth 4000 in
set_option maxHeartbeats 8000000 in
theorem Try.rCoalesce (ps : List Piece) (hn : ps.length ≤ 1048576) (hr : ∀ p ∈ ps, p.row.length ≤ 1048576) (hok : rowsOK ps) : PureOK Try.prog 64 [pD (encPieces ps)] (.one (.d (encPieces (coalesce ps)))) := by
  refine Try.pure (md := []) Try.func64 rfl Try.call64 (by kernel_rfl) (by rfl) (by exact Nat.le_of_ble_eq_true rfl) ?_
  repeat' (first
    | with_reducible refine VC_seq fun K hK => ?_
    | with_reducible refine W_region ?_
    | with_reducible refine VC_block ?_
    | with_reducible refine VC_scope ?_
    | with_reducible refine VC_if ?_
    | with_reducible refine VC_skip ?_
    | with_reducible refine VC_exit ?_
    | with_reducible refine VC_ret ?_
    | (with_reducible refine G_not (fun h => ?_) (fun h => ?_) <;> (try simp only [h]))
    | (with_reducible refine G_cases (fun h => ?_) (fun h => ?_) <;> (try simp only [h]))
    | refine C_pure (Try.rRight ps hn hr hok) rfl rfl (fun _ => rfl) ?_
    | (with_reducible refine hK _ ?_; clear hK K)
    | (clear hK K; with_reducible refine hK _ ?_; clear hK K)
    | (clear hK K; clear hK K; with_reducible refine hK _ ?_; clear hK K)
    | (clear hK K; clear hK K; clear hK K; with_reducible refine hK _ ?_; clear hK K)
    | (with_reducible refine todo ?_; simp +decide only [go_sem]))
  · have hR : coalesce ps = co ps := by unfold coalesce; rw [h]; rfl
    rw [hR] at hK ⊢
    refine VC_range ps.length (fun i => ∀ p, ps[i]? = some p → touches (co (ps.take i)) p = false) (fun i => frame [(0, pD (encPieces ps)), (4, pD (.lit (.int .i64 i))), (3, .c (.own (62, 0) ((co (ps.take i)).map Piece.enc)))] [] [((62, 0), .co 3 (co (ps.take i)).length)]) (fun _ _ => rfl) ?_ ?_
    · refine Weak_frame ?_ ?_ ?_ <;> simp +decide only [go_sem, co, List.foldl_nil]
      exact wkP_new rfl rfl
    · intro i hi hI
      rcases Nat.lt_or_ge i ps.length with hlt | hge
      · have hg := List.getElem?_eq_getElem hlt
        have hd := int_lt_true hlt
        generalize ps[i] = x at hg
        have hl : (co (ps.take i)).length ≤ i := Nat.le_trans (co_length _) (by rw [List.length_take]; omega)
        have h0 : co (ps.take (i + 1)) = co (ps.take i) ++ [x] := by
          rw [co_next hg]; unfold coStep; rw [hI x hg]; rfl
        repeat' (first
          | with_reducible refine VC_seq fun K hK => ?_
          | with_reducible refine W_region ?_
          | with_reducible refine VC_block ?_
          | with_reducible refine VC_scope ?_
          | with_reducible refine VC_if ?_
          | with_reducible refine VC_skip ?_
          | with_reducible refine VC_exit ?_
          | with_reducible refine VC_ret ?_
          | (with_reducible refine G_not (fun h => ?_) (fun h => ?_) <;> (try simp only [h]))
          | (with_reducible refine G_cases (fun h => ?_) (fun h => ?_) <;> (try simp only [h]))
          | (with_reducible refine hK _ ?_; clear hK K)
          | (clear hK K; with_reducible refine hK _ ?_; clear hK K)
          | (clear hK K; clear hK K; with_reducible refine hK _ ?_; clear hK K)
          | (clear hK K; clear hK K; clear hK K; with_reducible refine hK _ ?_; clear hK K)
          | (with_reducible refine todo ?_; simp +decide only [go_sem, hg, hd]))
        generalize hout : co (ps.take i) = out at hl h0 ⊢
        have hz0 : zOf ps x (i + 1) = x := zOf_eq h0
        refine VC_range (ps.length - 1 - i) (fun k => co (ps.take (i + k + 1)) = out ++ [zOf ps x (i + k + 1)]) (fun k => frame [(0, pD (encPieces ps)), (4, pD (.lit (.int .i64 ((i + k : Nat) : Int)))), (3, .c (.own (62, 0) (out.map Piece.enc))), (5, .c (.ptr 5 0))]
          [(5, [.d (.lit (.int .i64 (zOf ps x (i + k + 1)).lo)), .d (.lit (.int .i64 (zOf ps x (i + k + 1)).hi)), .d (encRow (zOf ps x (i + k + 1)).row)])] [((62, 0), .co 3 out.length)]) (by rw [Nat.add_zero, hz0]; exact h0) ?_ ?_
        · rw [Nat.add_zero, hz0]
          refine Weak_frame ?_ ?_ ?_ <;> simp +decide only [go_sem]
          exact ⟨wkP_own (by simp [aOf]) rfl, wkP_ptr (by simp [hOf])⟩
        · intro k hk hJ
          have hw := int_next (show i + k < ps.length by omega) (show ps.length ≤ 4294967296 by omega)
          have hrz : (zOf ps x (i + k + 1)).row.length ≤ 1048576 := by
            have hm : zOf ps x (i + k + 1) ∈ co (ps.take (i + k + 1)) := by rw [hJ]; simp
            exact co_rows (fun p hp => hr p (List.mem_of_mem_take hp)) _ hm
          have hnx2 : ∀ z', co (ps.take (i + k + 2)) = out ++ [z'] → zOf ps x (i + k + 2) = z' := fun z' h => zOf_eq h
          generalize zOf ps x (i + k + 1) = z at *
          have hfin : (∀ p, ps[i + k + 1]? = some p → touches (out ++ [z]) p = false) → ∀ p, ps[i + k + 1]? = some p → touches (co (ps.take (i + k + 1))) p = false := fun h => by rw [hJ]; exact h
          rcases Nat.lt_or_ge (i + k + 1) ps.length with hlt' | hge'
          · have hg' := List.getElem?_eq_getElem hlt'
            have hd' : (((i + k + 1 : Nat) : Int) < (ps.length : Int)) = True := eq_true (by omega)
            generalize ps[i + k + 1] = y at hg'
            have hw2 := int_next hlt' (show ps.length ≤ 4294967296 by omega)
            have hy := hr y (List.mem_of_getElem? hg')
            have hto := touches_snoc (out := out) (z := z) (y := y)
            have kr := Try.kRows y.row z.row (by omega)
            cases e1 : (y.lo == z.hi) with
            | false =>
              rw [e1] at hto
              repeat' (first
                | with_reducible refine VC_seq fun K hK => ?_
                | with_reducible refine W_region ?_
                | with_reducible refine VC_block ?_
                | with_reducible refine VC_scope ?_
                | with_reducible refine VC_if ?_
                | with_reducible refine VC_skip ?_
                | with_reducible refine VC_exit ?_
                | with_reducible refine VC_ret ?_
                | (with_reducible refine G_not (fun h => ?_) (fun h => ?_) <;> (try simp only [h]))
                | (with_reducible refine G_cases (fun h => ?_) (fun h => ?_) <;> (try simp only [h]))
                | (refine W_own Try.appRef rfl (szPieces _) (szOne rfl) (by simp; omega) (by simp; rfl) ?_)
                | (with_reducible refine hK _ ?_; clear hK K)
                | (clear hK K; with_reducible refine hK _ ?_; clear hK K)
                | (clear hK K; clear hK K; with_reducible refine hK _ ?_; clear hK K)
                | (clear hK K; clear hK K; clear hK K; with_reducible refine hK _ ?_; clear hK K)
                | (with_reducible refine todo ?_; simp +decide only [go_sem, hg', hd', hw, e1]))
              refine ⟨⟨i + k + 1, by omega, hfin (fun p hp => by rw [hg'] at hp; cases hp; exact hto)⟩, Weak_frame ?_ ?_ ?_, by show ps.length - (i + k + 1) < ps.length - i; omega⟩ <;> simp +decide only [go_sem, hJ]
              exact wkP_own (by simp [aOf]) rfl
            | true =>
              rw [e1] at hto
              cases e2 : sameRow y.row z.row with
              | false =>
                rw [e2] at hto kr
                repeat' (first
                  | with_reducible refine VC_seq fun K hK => ?_
                  | with_reducible refine W_region ?_
                  | with_reducible refine VC_block ?_
                  | with_reducible refine VC_scope ?_
                  | with_reducible refine VC_if ?_
                  | with_reducible refine VC_skip ?_
                  | with_reducible refine VC_exit ?_
                  | with_reducible refine VC_ret ?_
                  | (with_reducible refine G_not (fun h => ?_) (fun h => ?_) <;> (try simp only [h]))
                  | (with_reducible refine G_cases (fun h => ?_) (fun h => ?_) <;> (try simp only [h]))
                  | refine C_pure kr rfl rfl (fun _ => rfl) ?_
                  | (refine W_own Try.appRef rfl (szPieces _) (szOne rfl) (by simp; omega) (by simp; rfl) ?_)
                  | (with_reducible refine hK _ ?_; clear hK K)
                  | (clear hK K; with_reducible refine hK _ ?_; clear hK K)
                  | (clear hK K; clear hK K; with_reducible refine hK _ ?_; clear hK K)
                  | (clear hK K; clear hK K; clear hK K; with_reducible refine hK _ ?_; clear hK K)
                  | (with_reducible refine todo ?_; simp +decide only [go_sem, hg', hd', hw, e1]))
                refine ⟨⟨i + k + 1, by omega, hfin (fun p hp => by rw [hg'] at hp; cases hp; exact hto)⟩, Weak_frame ?_ ?_ ?_, by show ps.length - (i + k + 1) < ps.length - i; omega⟩ <;> simp +decide only [go_sem, hJ]
                exact wkP_own (by simp [aOf]) rfl
              | true =>
                rw [e2] at hto kr
                have hstep : co (ps.take (i + k + 2)) = out ++ [{ z with hi := y.hi }] := by
                  have := co_next hg'
                  rw [show i + k + 1 + 1 = i + k + 2 by omega] at this
                  rw [this, hJ]
                  unfold coStep
                  rw [hto]
                  exact setHi_last
                have hz2 := hnx2 _ hstep
                repeat' (first
                  | with_reducible refine VC_seq fun K hK => ?_
                  | with_reducible refine W_region ?_
                  | with_reducible refine VC_block ?_
                  | with_reducible refine VC_scope ?_
                  | with_reducible refine VC_if ?_
                  | with_reducible refine VC_skip ?_
                  | with_reducible refine VC_exit ?_
                  | with_reducible refine VC_ret ?_
                  | (with_reducible refine G_not (fun h => ?_) (fun h => ?_) <;> (try simp only [h]))
                  | (with_reducible refine G_cases (fun h => ?_) (fun h => ?_) <;> (try simp only [h]))
                  | refine C_pure kr rfl rfl (fun _ => rfl) ?_
                  | (with_reducible refine hK _ ?_; clear hK K)
                  | (clear hK K; with_reducible refine hK _ ?_; clear hK K)
                  | (clear hK K; clear hK K; with_reducible refine hK _ ?_; clear hK K)
                  | (clear hK K; clear hK K; clear hK K; with_reducible refine hK _ ?_; clear hK K)
                  | (with_reducible refine todo ?_; simp +decide only [go_sem, hg', hd', hw, e1]))
                have hadd : i + (k + 1) = i + k + 1 := by omega
                have hz3 : zOf ps x (i + k + 1 + 1) = { z with hi := y.hi } := hz2
                refine ⟨⟨k + 1, by omega, by show co (ps.take (i + (k + 1) + 1)) = out ++ [zOf ps x (i + (k + 1) + 1)]; rw [hadd, hz3]; exact hstep⟩, Weak_frame ?_ ?_ ?_, by show ps.length - 1 - i - (k + 1) < ps.length - 1 - i - k; omega⟩ <;> simp +decide only [go_sem, hadd, hz3]
                exact ⟨wkP_own (by simp [aOf]) rfl, wkP_ptr (by simp [hOf])⟩
          · have hd' : (((i + k + 1 : Nat) : Int) < (ps.length : Int)) = False := eq_false (by omega)
            repeat' (first
              | with_reducible refine VC_seq fun K hK => ?_
              | with_reducible refine W_region ?_
              | with_reducible refine VC_block ?_
              | with_reducible refine VC_scope ?_
              | with_reducible refine VC_if ?_
              | with_reducible refine VC_skip ?_
              | with_reducible refine VC_exit ?_
              | with_reducible refine VC_ret ?_
              | (with_reducible refine G_not (fun h => ?_) (fun h => ?_) <;> (try simp only [h]))
              | (with_reducible refine G_cases (fun h => ?_) (fun h => ?_) <;> (try simp only [h]))
              | (refine W_own Try.appRef rfl (szPieces _) (szOne rfl) (by simp; omega) (by simp; rfl) ?_)
              | (with_reducible refine hK _ ?_; clear hK K)
              | (clear hK K; with_reducible refine hK _ ?_; clear hK K)
              | (clear hK K; clear hK K; with_reducible refine hK _ ?_; clear hK K)
              | (clear hK K; clear hK K; clear hK K; with_reducible refine hK _ ?_; clear hK K)
              | (with_reducible refine todo ?_; simp +decide only [go_sem, hd', hw]))
            refine ⟨⟨i + k + 1, by omega, fun p hp => by rw [List.getElem?_eq_none hge'] at hp; cases hp⟩, Weak_frame ?_ ?_ ?_, by show ps.length - (i + k + 1) < ps.length - i; omega⟩ <;> simp +decide only [go_sem, hJ]
            exact wkP_own (by simp [aOf]) rfl
      · have hd := int_lt_false hge
        rw [List.take_of_length_le hge]
        repeat' (first
          | with_reducible refine VC_seq fun K hK => ?_
          | with_reducible refine W_region ?_
          | with_reducible refine VC_block ?_
          | with_reducible refine VC_scope ?_
          | with_reducible refine VC_if ?_
          | with_reducible refine VC_skip ?_
          | with_reducible refine VC_exit ?_
          | with_reducible refine VC_ret ?_
          | (with_reducible refine G_not (fun h => ?_) (fun h => ?_) <;> (try simp only [h]))
          | (with_reducible refine G_cases (fun h => ?_) (fun h => ?_) <;> (try simp only [h]))
          | (with_reducible refine hK _ ?_; clear hK K)
          | (clear hK K; with_reducible refine hK _ ?_; clear hK K)
          | (clear hK K; clear hK K; with_reducible refine hK _ ?_; clear hK K)
          | (clear hK K; clear hK K; clear hK K; with_reducible refine hK _ ?_; clear hK K)
          | (with_reducible refine todo ?_; simp +decide only [go_sem, hd]))
        refine Ret_d rfl ?_
        simp +decide only [go_sem]
  · have hR : coalesce ps = ps := by unfold coalesce; rw [h]; rfl
    rw [hR]
    exact Ret_d rfl rfl
end Go.Proofs
