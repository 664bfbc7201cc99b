/-
  Pieces: Put.
-/
import Derived.Test.YtgpmdeembgohdaaPwFg
namespace Go.Proofs
open Go.PW

def ahead (s : Sp) (p : Piece) : Bool := decide (p.lo < s.1)
def insert' (s : Sp) (r : Row) (q : List Piece) : List Piece := q.takeWhile (ahead s) ++ (⟨s.1, s.2, r⟩ :: q.dropWhile (ahead s))
def putP (ps : List Piece) (s : Sp) (r : Row) : List Piece := if right ps && Span.right s.1 s.2 && rowRight r then insert' s r (drop ps s) else ps

theorem drop_length (ps : List Piece) (s : Sp) : (drop ps s).length ≤ 2 * ps.length := by
  unfold drop
  split
  · exact rests_length _ _
  · omega
theorem drop_row {s : Sp} {ps : List Piece} {n : Nat} (h : ∀ p ∈ ps, p.row.length ≤ n) : ∀ p ∈ drop ps s, p.row.length ≤ n := by
  unfold drop
  split
  · exact rests_row h
  · exact h

theorem while_stop {α : Type} {f : α → Bool} : ∀ {l : List α} {i : Nat}, (l.take i).all f = true → (∀ x, l[i]? = some x → f x = false) → l.takeWhile f = l.take i ∧ l.dropWhile f = l.drop i
  | [], i, _, _ => by simp
  | a :: l, 0, _, h => by
    have := h a rfl
    simp [this]
  | a :: l, i + 1, h, h' => by
    simp only [List.take_succ_cons, List.all_cons, Bool.and_eq_true] at h
    have := while_stop (l := l) (i := i) h.2 (fun x hx => h' x (by simpa using hx))
    simp [h.1, this]

set_option maxHeartbeats 4000000 in
theorem Try.kPut (ps : List Piece) (s : Sp) (r : Row) (hn : ps.length ≤ 131072) (hr : ∀ p ∈ ps, p.row.length ≤ 1048576) (hrr : r.length ≤ 1048576) : PureOK Try.prog 18 [pD (encPieces ps), pA s.enc, pD (encRow r)] (.one (.own 3 ((putP ps s r).map Piece.enc))) := by
  refine Try.pure (md := []) Try.func18 rfl Try.call18 (by kernel_rfl) (by rfl) (by exact Nat.le_of_ble_eq_true rfl) ?_
  have hs : s.enc = encSpan s.1 s.2 := rfl
  have hown := Try.kOwn ps (by omega) hr
  have hrt := Try.kRight ps (by omega) hr
  have hdr := Try.kDrop ps s (by omega) hr
  repeat' (first
    | with_reducible refine VC_seq fun K hK => ?_
    | with_reducible refine W_region ?_
    | with_reducible refine VC_block ?_
    | with_reducible refine VC_scope ?_
    | with_reducible refine VC_if ?_
    | with_reducible refine VC_skip ?_
    | with_reducible refine VC_exit ?_
    | with_reducible refine VC_ret ?_
    | (with_reducible refine G_not (fun h => ?_) (fun h => ?_) <;> (try simp only [h]))
    | (with_reducible refine G_cases (fun h => ?_) (fun h => ?_) <;> (try simp only [h]))
    | refine C_pure hrt rfl rfl (fun _ => rfl) ?_
    | refine C_pure (Try.spanRight s.1 s.2) rfl rfl (fun _ => rfl) ?_
    | refine C_pure (Try.kRow r (by omega)) rfl rfl (fun _ => rfl) ?_
    | refine C_pure hown rfl rfl (fun _ => rfl) ?_
    | refine C_pure hdr rfl rfl (fun _ => rfl) ?_
    | (with_reducible refine hK _ ?_; clear hK K)
    | (clear hK K; with_reducible refine hK _ ?_; clear hK K)
    | (clear hK K; clear hK K; with_reducible refine hK _ ?_; clear hK K)
    | (clear hK K; clear hK K; clear hK K; with_reducible refine hK _ ?_; clear hK K)
    | (with_reducible refine todo ?_; simp +decide only [go_sem, hs]))
  · have hP : putP ps s r = insert' s r (drop ps s) := by unfold putP; simp [*]
    have hql := drop_length ps s
    have hqr := drop_row (s := s) hr
    rw [hP] at hK ⊢
    generalize drop ps s = q at *
    refine VC_range q.length (fun i => (q.take i).all (ahead s) = true) (fun i => frame [(0, pD (encPieces q)), (2, pD (encRow r)), (4, .c (.ptr 4 0)), (7, pD (.lit (.int .i64 i)))]
      [(4, [.d (.lit (.int .i64 s.1)), .d (.lit (.int .i64 s.2))])] []) rfl ?_ ?_
    · refine Weak_frame ?_ ?_ ?_ <;> simp +decide only [go_sem]
      exact wkP_ptr (by simp [hOf])
    · intro i hi hI
      have hend : (∀ x, q[i]? = some x → ahead s x = false) → insert' s r q = q.take i ++ (⟨s.1, s.2, r⟩ :: q.drop i) := fun h => by
        obtain ⟨e1, e2⟩ := while_stop hI h
        rw [insert', e1, e2]
      have ho1 := Try.kOwn (q.take i) (by rw [List.length_take]; omega) (fun p hp => hqr p (List.mem_of_mem_take hp))
      have ho2 := Try.kOwn (q.drop i) (by rw [List.length_drop]; omega) (fun p hp => hqr p (List.mem_of_mem_drop hp))
      have hq2 : List.take (q.length - i) ((q.drop i).map Piece.enc) = (q.drop i).map Piece.enc := List.take_of_length_le (by simp)
      have hlt1 : (q.take i).length = i := by rw [List.length_take]; omega
      rcases Nat.lt_or_ge i q.length with hlt | hge
      · have hg := List.getElem?_eq_getElem hlt
        have hd := int_lt_true hlt
        have hw := int_next hlt (show q.length ≤ 4294967296 by omega)
        generalize q[i] = x at hg
        repeat' (first
          | with_reducible refine VC_seq fun K hK => ?_
          | with_reducible refine W_region ?_
          | with_reducible refine VC_block ?_
          | with_reducible refine VC_scope ?_
          | with_reducible refine VC_if ?_
          | with_reducible refine VC_skip ?_
          | with_reducible refine VC_exit ?_
          | with_reducible refine VC_ret ?_
          | (with_reducible refine G_not (fun h => ?_) (fun h => ?_) <;> (try simp only [h]))
          | (with_reducible refine G_cases (fun h => ?_) (fun h => ?_) <;> (try simp only [h]))
          | (refine W_slc Try.appPieces rfl (l := 0) (h := i) rfl (by simp [optNat, natOf?, intOf?]) (by omega) (by simp; omega) (szPieces _) ?_)
          | refine W_slc Try.appPieces rfl (l := i) (h := q.length) (by simp [optNat, natOf?, intOf?]) (by simp [optNat]) (by omega) (by simp) (szPieces _) ?_
          | refine C_pure ho1 rfl rfl (fun _ => rfl) ?_
          | refine C_pure ho2 rfl rfl (fun _ => rfl) ?_
          | (refine W_full Try.appVals rfl rfl szNil (szRow _) (by simp; omega) rfl ?_)
          | (refine W_own Try.appPieces rfl (szPieces _) (szOne rfl) (by simp; omega) (by simp +decide only [go_sem]) ?_)
          | (refine W_own Try.appPieces rfl (szApp (szPieces _) (szOne rfl)) (szPieces _) (by simp; omega) (by simp +decide only [go_sem]) ?_)
          | (with_reducible refine hK _ ?_; clear hK K)
          | (clear hK K; with_reducible refine hK _ ?_; clear hK K)
          | (clear hK K; clear hK K; with_reducible refine hK _ ?_; clear hK K)
          | (clear hK K; clear hK K; clear hK K; with_reducible refine hK _ ?_; clear hK K)
          | (with_reducible refine todo ?_; simp +decide only [go_sem, hg, hd, hw, ← List.map_take, ← List.map_drop, Nat.sub_zero, hq2]))
        · refine Next_of hlt (all_take hI hg h) (Weak_frame ?_ ?_ ?_) <;> simp +decide only [go_sem]
          exact wkP_ptr (by simp [hOf])
        · rw [hend (fun y hy => by rw [hg] at hy; cases hy; exact h)]
          refine Ret_own (47, 0) rfl ?_ ?_
          · simp +decide only [go_sem, List.append_assoc]
          · simp +decide only [go_sem, Nat.add_assoc, Nat.add_comm 1]
      · have hd := int_lt_false hge
        repeat' (first
          | with_reducible refine VC_seq fun K hK => ?_
          | with_reducible refine W_region ?_
          | with_reducible refine VC_block ?_
          | with_reducible refine VC_scope ?_
          | with_reducible refine VC_if ?_
          | with_reducible refine VC_skip ?_
          | with_reducible refine VC_exit ?_
          | with_reducible refine VC_ret ?_
          | (with_reducible refine G_not (fun h => ?_) (fun h => ?_) <;> (try simp only [h]))
          | (with_reducible refine G_cases (fun h => ?_) (fun h => ?_) <;> (try simp only [h]))
          | (refine W_slc Try.appPieces rfl (l := 0) (h := i) rfl (by simp [optNat, natOf?, intOf?]) (by omega) (by simp; omega) (szPieces _) ?_)
          | refine W_slc Try.appPieces rfl (l := i) (h := q.length) (by simp [optNat, natOf?, intOf?]) (by simp [optNat]) (by omega) (by simp) (szPieces _) ?_
          | refine C_pure ho1 rfl rfl (fun _ => rfl) ?_
          | refine C_pure ho2 rfl rfl (fun _ => rfl) ?_
          | (refine W_full Try.appVals rfl rfl szNil (szRow _) (by simp; omega) rfl ?_)
          | (refine W_own Try.appPieces rfl (szPieces _) (szOne rfl) (by simp; omega) (by simp +decide only [go_sem]) ?_)
          | (refine W_own Try.appPieces rfl (szApp (szPieces _) (szOne rfl)) (szPieces _) (by simp; omega) (by simp +decide only [go_sem]) ?_)
          | (with_reducible refine hK _ ?_; clear hK K)
          | (clear hK K; with_reducible refine hK _ ?_; clear hK K)
          | (clear hK K; clear hK K; with_reducible refine hK _ ?_; clear hK K)
          | (clear hK K; clear hK K; clear hK K; with_reducible refine hK _ ?_; clear hK K)
          | (with_reducible refine todo ?_; simp +decide only [go_sem, hd, ← List.map_take, ← List.map_drop, Nat.sub_zero, hq2]))
        rw [hend (fun y hy => by rw [List.getElem?_eq_none hge] at hy; cases hy)]
        refine Ret_own (47, 0) rfl ?_ ?_
        · simp +decide only [go_sem, List.append_assoc]
        · simp +decide only [go_sem, Nat.add_assoc, Nat.add_comm 1]
  all_goals
    have hP : putP ps s r = ps := by unfold putP; simp [*]
    rw [hP]
    refine Ret_own (23, 0) rfl rfl ?_
    simp +decide only [go_sem]
end Go.Proofs
