import Derived.Test.YtcdiifnnnnnceaaQ13
import Derived.Test.YtcdiifnnnnnceaaQ11

/-
  Pieces: Drop.
-/

namespace Go.Proofs
open Go.PW

/-- What stays of a piece beside a span. -/
def rest1 (s : Sp) (p : Piece) : List Piece := (cut (p.lo, p.hi) s).map fun m => ⟨m.1, m.2, p.row⟩
def rests (s : Sp) (ps : List Piece) : List Piece := ps.flatMap (rest1 s)
def drop (ps : List Piece) (s : Sp) : List Piece := if right ps && Span.right s.1 s.2 then rests s ps else ps

theorem cut_length (a b : Sp) : (cut a b).length ≤ 2 := by
  unfold cut
  split
  · exact Nat.le_trans (List.length_filter_le _ _) (by simp)
  · exact Nat.le_trans (List.length_filter_le _ _) (by simp)
theorem rest1_length (s : Sp) (p : Piece) : (rest1 s p).length ≤ 2 := by unfold rest1; rw [List.length_map]; exact cut_length _ _
theorem rests_length (s : Sp) (ps : List Piece) : (rests s ps).length ≤ 2 * ps.length := by
  induction ps with
  | nil => exact Nat.le_refl _
  | cons p r ih =>
    have := rest1_length s p
    simp only [rests, List.flatMap_cons, List.length_append, List.length_cons] at ih ⊢
    omega
theorem rests_row {s : Sp} {ps : List Piece} {n : Nat} (h : ∀ p ∈ ps, p.row.length ≤ n) : ∀ p ∈ rests s ps, p.row.length ≤ n := by
  intro p hp
  obtain ⟨q, hq, hp⟩ := List.mem_flatMap.1 hp
  obtain ⟨m, _, rfl⟩ := List.mem_map.1 hp
  exact h q hq
theorem rests_next {s : Sp} {ps : List Piece} {i : Nat} {x : Piece} (h : ps[i]? = some x) : rests s (ps.take (i + 1)) = rests s (ps.take i) ++ rest1 s x := by
  rw [take_next h, rests, List.flatMap_append]
  simp [rests]

theorem szPM (r : Row) (l : List Sp) : Szd 3 (l.map fun m => Piece.enc ⟨m.1, m.2, r⟩) := fun e he => by
  obtain ⟨p, _, rfl⟩ := List.mem_map.1 he
  rfl

set_option maxRecDepth 8000 in
set_option maxHeartbeats 4000000 in
theorem Try.kDrop (ps : List Piece) (s : Sp) (hn : ps.length ≤ 262144) (hr : ∀ p ∈ ps, p.row.length ≤ 1048576) : PureOK Try.prog 65 [pD (encPieces ps), pA s.enc] (.one (.own 3 ((drop ps s).map Piece.enc))) := by
  refine Try.pure (md := []) Try.func65 rfl Try.call65 (by kernel_rfl) (by rfl) (by exact Nat.le_of_ble_eq_true rfl) ?_
  have hs : s.enc = encSpan s.1 s.2 := rfl
  have hown := Try.kOwn ps (by omega) hr
  have hrt := Try.kRight ps (by omega) hr
  repeat' (first
    | with_reducible refine VC_seq fun K hK => ?_
    | with_reducible refine W_region ?_
    | with_reducible refine VC_block ?_
    | with_reducible refine VC_scope ?_
    | with_reducible refine VC_if ?_
    | with_reducible refine VC_skip ?_
    | with_reducible refine VC_exit ?_
    | with_reducible refine VC_ret ?_
    | (with_reducible refine G_not (fun h => ?_) (fun h => ?_) <;> (try simp only [h]))
    | (with_reducible refine G_cases (fun h => ?_) (fun h => ?_) <;> (try simp only [h]))
    | refine C_pure hown rfl rfl (fun _ => rfl) ?_
    | refine C_pure hrt rfl rfl (fun _ => rfl) ?_
    | refine C_pure (Try.spanRight s.1 s.2) rfl rfl (fun _ => rfl) ?_
    | (with_reducible refine hK _ ?_; clear hK K)
    | (clear hK K; with_reducible refine hK _ ?_; clear hK K)
    | (clear hK K; clear hK K; with_reducible refine hK _ ?_; clear hK K)
    | (clear hK K; clear hK K; clear hK K; with_reducible refine hK _ ?_; clear hK K)
    | (with_reducible refine todo ?_; simp +decide only [go_sem, hs]))
  · have hD : drop ps s = rests s ps := by unfold drop; simp [*]
    rw [hD] at hK ⊢
    refine VC_range ps.length (fun _ => True) (fun i => frame [(21, pD (encPieces ps)), (22, pD (.lit (.int .i64 ps.length))), (23, pD (.lit (.int .i64 i))), (5, .c (.own (5, 0) ((rests s (ps.take i)).map Piece.enc))), (3, .c (.ptr 3 0))]
      [(3, [.d (.lit (.int .i64 s.1)), .d (.lit (.int .i64 s.2))])] [((5, 0), .co 3 (rests s (ps.take i)).length)]) True.intro ?_ ?_
    · refine Weak_frame ?_ ?_ ?_ <;> simp +decide only [go_sem, rests, List.flatMap_nil]
      exact ⟨wkP_new rfl rfl, wkP_ptr (by simp [hOf])⟩
    · intro i hi hI
      rcases Nat.lt_or_ge i ps.length with hlt | hge
      · have hg := List.getElem?_eq_getElem hlt
        have hd := int_lt_true hlt
        have hw := int_next hlt (show ps.length ≤ 4294967296 by omega)
        generalize ps[i] = x at hg
        have hnx := rests_next (s := s) hg
        have hl : (rests s (ps.take i)).length ≤ 2 * i := Nat.le_trans (rests_length _ _) (by rw [List.length_take]; omega)
        have hcut := Try.kCut (x.lo, x.hi) s
        have hxe : Sp.enc (x.lo, x.hi) = encSpan x.lo x.hi := rfl
        have hcl := cut_length (x.lo, x.hi) s
        repeat' (first
          | with_reducible refine VC_seq fun K hK => ?_
          | with_reducible refine W_region ?_
          | with_reducible refine VC_block ?_
          | with_reducible refine VC_scope ?_
          | with_reducible refine VC_if ?_
          | with_reducible refine VC_skip ?_
          | with_reducible refine VC_exit ?_
          | with_reducible refine VC_ret ?_
          | (with_reducible refine G_not (fun h => ?_) (fun h => ?_) <;> (try simp only [h]))
          | (with_reducible refine G_cases (fun h => ?_) (fun h => ?_) <;> (try simp only [h]))
          | refine C_pure hcut rfl rfl (fun _ => rfl) ?_
          | (with_reducible refine hK _ ?_; clear hK K)
          | (clear hK K; with_reducible refine hK _ ?_; clear hK K)
          | (clear hK K; clear hK K; with_reducible refine hK _ ?_; clear hK K)
          | (clear hK K; clear hK K; clear hK K; with_reducible refine hK _ ?_; clear hK K)
          | (with_reducible refine todo ?_; simp +decide only [go_sem, hg, hd]))
        have hL : rest1 s x = (cut (x.lo, x.hi) s).map fun m => ⟨m.1, m.2, x.row⟩ := rfl
        generalize cut (x.lo, x.hi) s = L at hcut hcl hL
        refine VC_range L.length (fun _ => True) (fun j => frame [(30, pD (.sl (L.map Sp.enc))), (31, pD (.lit (.int .i64 L.length))), (32, pD (.lit (.int .i64 j))), (7, .c (.ptr 7 0)), (21, pD (encPieces ps)), (22, pD (.lit (.int .i64 ps.length))), (23, pD (.lit (.int .i64 i))),
            (5, .c (.own (5, 0) ((rests s (ps.take i)).map Piece.enc ++ (L.take j).map fun m => Piece.enc ⟨m.1, m.2, x.row⟩))), (3, .c (.ptr 3 0))]
          [(3, [.d (.lit (.int .i64 s.1)), .d (.lit (.int .i64 s.2))]), (7, [.d (.lit (.int .i64 x.lo)), .d (.lit (.int .i64 x.hi)), .d (encRow x.row)])] [((5, 0), .co 3 ((rests s (ps.take i)).length + (L.take j).length))]) True.intro ?_ ?_
        · refine Weak_frame ?_ ?_ ?_ <;> simp +decide only [go_sem]
          exact ⟨wkP_ptr (by simp [hOf]), wkP_own (by simp [aOf]) rfl, wkP_ptr (by simp [hOf])⟩
        · intro j hj hJ
          rcases Nat.lt_or_ge j L.length with hlt' | hge'
          · have hg' := List.getElem?_eq_getElem hlt'
            have hd' := int_lt_true hlt'
            have hw' := int_next hlt' (show L.length ≤ 4294967296 by omega)
            generalize L[j] = y at hg'
            have hy : y.enc = encSpan y.1 y.2 := rfl
            have htk := take_next hg'
            have hlj : (L.take j).length = j := by rw [List.length_take]; omega
            repeat' (first
              | with_reducible refine VC_seq fun K hK => ?_
              | with_reducible refine W_region ?_
              | with_reducible refine VC_block ?_
              | with_reducible refine VC_scope ?_
              | with_reducible refine VC_if ?_
              | with_reducible refine VC_skip ?_
              | with_reducible refine VC_exit ?_
              | with_reducible refine VC_ret ?_
              | (with_reducible refine G_not (fun h => ?_) (fun h => ?_) <;> (try simp only [h]))
              | (with_reducible refine G_cases (fun h => ?_) (fun h => ?_) <;> (try simp only [h]))
              | (refine W_own Try.appPieces rfl (szApp (szPieces _) (szPM _ _)) (szOne rfl) (by simp; omega) (by simp; rfl) ?_)
              | (with_reducible refine hK _ ?_; clear hK K)
              | (clear hK K; with_reducible refine hK _ ?_; clear hK K)
              | (clear hK K; clear hK K; with_reducible refine hK _ ?_; clear hK K)
              | (clear hK K; clear hK K; clear hK K; with_reducible refine hK _ ?_; clear hK K)
              | (with_reducible refine todo ?_; simp +decide only [go_sem, hg', hd', hw', hy]))
            refine Next_of hlt' True.intro (Weak_frame ?_ ?_ ?_) <;> simp +decide only [go_sem, htk, List.append_assoc, Nat.add_assoc]
            exact ⟨wkP_ptr (by simp [hOf]), wkP_own (by simp [aOf]) rfl, wkP_ptr (by simp [hOf])⟩
          · have hd' := int_lt_false hge'
            rw [List.take_of_length_le hge']
            repeat' (first
              | with_reducible refine VC_seq fun K hK => ?_
              | with_reducible refine W_region ?_
              | with_reducible refine VC_block ?_
              | with_reducible refine VC_scope ?_
              | with_reducible refine VC_if ?_
              | with_reducible refine VC_skip ?_
              | with_reducible refine VC_exit ?_
              | with_reducible refine VC_ret ?_
              | (with_reducible refine G_not (fun h => ?_) (fun h => ?_) <;> (try simp only [h]))
              | (with_reducible refine G_cases (fun h => ?_) (fun h => ?_) <;> (try simp only [h]))
              | (with_reducible refine hK _ ?_; clear hK K)
              | (clear hK K; with_reducible refine hK _ ?_; clear hK K)
              | (clear hK K; clear hK K; with_reducible refine hK _ ?_; clear hK K)
              | (clear hK K; clear hK K; clear hK K; with_reducible refine hK _ ?_; clear hK K)
              | (with_reducible refine todo ?_; simp +decide only [go_sem, hd', hw]))
            refine Next_of hlt True.intro (Weak_frame ?_ ?_ ?_) <;> simp +decide only [go_sem, hnx, hL, List.map_map]
            exact ⟨wkP_own (by simp [aOf]) rfl, wkP_ptr (by simp [hOf])⟩
      · have hd := int_lt_false hge
        rw [List.take_of_length_le hge]
        have ho2 := Try.kOwn (rests s ps) (Nat.le_trans (rests_length _ _) (by omega)) (rests_row hr)
        repeat' (first
          | with_reducible refine VC_seq fun K hK => ?_
          | with_reducible refine W_region ?_
          | with_reducible refine VC_block ?_
          | with_reducible refine VC_scope ?_
          | with_reducible refine VC_if ?_
          | with_reducible refine VC_skip ?_
          | with_reducible refine VC_exit ?_
          | with_reducible refine VC_ret ?_
          | (with_reducible refine G_not (fun h => ?_) (fun h => ?_) <;> (try simp only [h]))
          | (with_reducible refine G_cases (fun h => ?_) (fun h => ?_) <;> (try simp only [h]))
          | refine C_pure ho2 rfl rfl (fun _ => rfl) ?_
          | (with_reducible refine hK _ ?_; clear hK K)
          | (clear hK K; with_reducible refine hK _ ?_; clear hK K)
          | (clear hK K; clear hK K; with_reducible refine hK _ ?_; clear hK K)
          | (clear hK K; clear hK K; clear hK K; with_reducible refine hK _ ?_; clear hK K)
          | (with_reducible refine todo ?_; simp +decide only [go_sem, hd]))
        refine Ret_own (46, 0) rfl rfl ?_
        simp +decide only [go_sem]
  all_goals
    have hD : drop ps s = ps := by unfold drop; simp [*]
    rw [hD]
    refine Ret_own (11, 0) rfl rfl ?_
    simp +decide only [go_sem]
end Go.Proofs

/-
  Pieces: Put.
-/

namespace Go.Proofs
open Go.PW

def ahead (s : Sp) (p : Piece) : Bool := decide (p.lo < s.1)
def insert' (s : Sp) (r : Row) (q : List Piece) : List Piece := q.takeWhile (ahead s) ++ (⟨s.1, s.2, r⟩ :: q.dropWhile (ahead s))
def putP (ps : List Piece) (s : Sp) (r : Row) : List Piece := if right ps && Span.right s.1 s.2 && rowRight r then insert' s r (drop ps s) else ps

theorem drop_length (ps : List Piece) (s : Sp) : (drop ps s).length ≤ 2 * ps.length := by
  unfold drop
  split
  · exact rests_length _ _
  · omega
theorem drop_row {s : Sp} {ps : List Piece} {n : Nat} (h : ∀ p ∈ ps, p.row.length ≤ n) : ∀ p ∈ drop ps s, p.row.length ≤ n := by
  unfold drop
  split
  · exact rests_row h
  · exact h

theorem while_stop {α : Type} {f : α → Bool} : ∀ {l : List α} {i : Nat}, (l.take i).all f = true → (∀ x, l[i]? = some x → f x = false) → l.takeWhile f = l.take i ∧ l.dropWhile f = l.drop i
  | [], i, _, _ => by simp
  | a :: l, 0, _, h => by
    have := h a rfl
    simp [this]
  | a :: l, i + 1, h, h' => by
    simp only [List.take_succ_cons, List.all_cons, Bool.and_eq_true] at h
    have := while_stop (l := l) (i := i) h.2 (fun x hx => h' x (by simpa using hx))
    simp [h.1, this]

set_option maxRecDepth 8000 in
set_option maxHeartbeats 4000000 in
theorem Try.kPut (ps : List Piece) (s : Sp) (r : Row) (hn : ps.length ≤ 131072) (hr : ∀ p ∈ ps, p.row.length ≤ 1048576) (hrr : r.length ≤ 1048576) : PureOK Try.prog 36 [pD (encPieces ps), pA s.enc, pD (encRow r)] (.one (.own 3 ((putP ps s r).map Piece.enc))) := by
  refine Try.pure (md := []) Try.func36 rfl Try.call36 (by kernel_rfl) (by rfl) (by exact Nat.le_of_ble_eq_true rfl) ?_
  have hs : s.enc = encSpan s.1 s.2 := rfl
  have hown := Try.kOwn ps (by omega) hr
  have hrt := Try.kRight ps (by omega) hr
  have hdr := Try.kDrop ps s (by omega) hr
  repeat' (first
    | with_reducible refine VC_seq fun K hK => ?_
    | with_reducible refine W_region ?_
    | with_reducible refine VC_block ?_
    | with_reducible refine VC_scope ?_
    | with_reducible refine VC_if ?_
    | with_reducible refine VC_skip ?_
    | with_reducible refine VC_exit ?_
    | with_reducible refine VC_ret ?_
    | (with_reducible refine G_not (fun h => ?_) (fun h => ?_) <;> (try simp only [h]))
    | (with_reducible refine G_cases (fun h => ?_) (fun h => ?_) <;> (try simp only [h]))
    | refine C_pure hrt rfl rfl (fun _ => rfl) ?_
    | refine C_pure (Try.spanRight s.1 s.2) rfl rfl (fun _ => rfl) ?_
    | refine C_pure (Try.kRow r (by omega)) rfl rfl (fun _ => rfl) ?_
    | refine C_pure hown rfl rfl (fun _ => rfl) ?_
    | refine C_pure hdr rfl rfl (fun _ => rfl) ?_
    | (with_reducible refine hK _ ?_; clear hK K)
    | (clear hK K; with_reducible refine hK _ ?_; clear hK K)
    | (clear hK K; clear hK K; with_reducible refine hK _ ?_; clear hK K)
    | (clear hK K; clear hK K; clear hK K; with_reducible refine hK _ ?_; clear hK K)
    | (with_reducible refine todo ?_; simp +decide only [go_sem, hs]))
  · have hP : putP ps s r = insert' s r (drop ps s) := by unfold putP; simp [*]
    have hql := drop_length ps s
    have hqr := drop_row (s := s) hr
    rw [hP] at hK ⊢
    generalize drop ps s = q at *
    refine VC_range q.length (fun i => (q.take i).all (ahead s) = true) (fun i => frame [(0, pD (encPieces q)), (2, pD (encRow r)), (4, .c (.ptr 4 0)), (7, pD (.lit (.int .i64 i)))]
      [(4, [.d (.lit (.int .i64 s.1)), .d (.lit (.int .i64 s.2))])] []) rfl ?_ ?_
    · refine Weak_frame ?_ ?_ ?_ <;> simp +decide only [go_sem]
      exact wkP_ptr (by simp [hOf])
    · intro i hi hI
      have hend : (∀ x, q[i]? = some x → ahead s x = false) → insert' s r q = q.take i ++ (⟨s.1, s.2, r⟩ :: q.drop i) := fun h => by
        obtain ⟨e1, e2⟩ := while_stop hI h
        rw [insert', e1, e2]
      have ho1 := Try.kOwn (q.take i) (by rw [List.length_take]; omega) (fun p hp => hqr p (List.mem_of_mem_take hp))
      have ho2 := Try.kOwn (q.drop i) (by rw [List.length_drop]; omega) (fun p hp => hqr p (List.mem_of_mem_drop hp))
      have hq2 : List.take (q.length - i) ((q.drop i).map Piece.enc) = (q.drop i).map Piece.enc := List.take_of_length_le (by simp)
      have hlt1 : (q.take i).length = i := by rw [List.length_take]; omega
      rcases Nat.lt_or_ge i q.length with hlt | hge
      · have hg := List.getElem?_eq_getElem hlt
        have hd := int_lt_true hlt
        have hw := int_next hlt (show q.length ≤ 4294967296 by omega)
        generalize q[i] = x at hg
        repeat' (first
          | with_reducible refine VC_seq fun K hK => ?_
          | with_reducible refine W_region ?_
          | with_reducible refine VC_block ?_
          | with_reducible refine VC_scope ?_
          | with_reducible refine VC_if ?_
          | with_reducible refine VC_skip ?_
          | with_reducible refine VC_exit ?_
          | with_reducible refine VC_ret ?_
          | (with_reducible refine G_not (fun h => ?_) (fun h => ?_) <;> (try simp only [h]))
          | (with_reducible refine G_cases (fun h => ?_) (fun h => ?_) <;> (try simp only [h]))
          | (refine W_slc Try.appPieces rfl (l := 0) (h := i) rfl (by simp [optNat, natOf?, intOf?]) (by omega) (by simp; omega) (szPieces _) ?_)
          | refine W_slc Try.appPieces rfl (l := i) (h := q.length) (by simp [optNat, natOf?, intOf?]) (by simp [optNat]) (by omega) (by simp) (szPieces _) ?_
          | refine C_pure ho1 rfl rfl (fun _ => rfl) ?_
          | refine C_pure ho2 rfl rfl (fun _ => rfl) ?_
          | (refine W_full Try.appVals rfl rfl szNil (szRow _) (by simp; omega) rfl ?_)
          | (refine W_own Try.appPieces rfl (szPieces _) (szOne rfl) (by simp; omega) (by simp +decide only [go_sem]) ?_)
          | (refine W_own Try.appPieces rfl (szApp (szPieces _) (szOne rfl)) (szPieces _) (by simp; omega) (by simp +decide only [go_sem]) ?_)
          | (with_reducible refine hK _ ?_; clear hK K)
          | (clear hK K; with_reducible refine hK _ ?_; clear hK K)
          | (clear hK K; clear hK K; with_reducible refine hK _ ?_; clear hK K)
          | (clear hK K; clear hK K; clear hK K; with_reducible refine hK _ ?_; clear hK K)
          | (with_reducible refine todo ?_; simp +decide only [go_sem, hg, hd, hw, ← List.map_take, ← List.map_drop, Nat.sub_zero, hq2]))
        · refine Next_of hlt (all_take hI hg h) (Weak_frame ?_ ?_ ?_) <;> simp +decide only [go_sem]
          exact wkP_ptr (by simp [hOf])
        · rw [hend (fun y hy => by rw [hg] at hy; cases hy; exact h)]
          refine Ret_own (47, 0) rfl ?_ ?_
          · simp +decide only [go_sem, List.append_assoc]
          · simp +decide only [go_sem, Nat.add_assoc, Nat.add_comm 1]
      · have hd := int_lt_false hge
        repeat' (first
          | with_reducible refine VC_seq fun K hK => ?_
          | with_reducible refine W_region ?_
          | with_reducible refine VC_block ?_
          | with_reducible refine VC_scope ?_
          | with_reducible refine VC_if ?_
          | with_reducible refine VC_skip ?_
          | with_reducible refine VC_exit ?_
          | with_reducible refine VC_ret ?_
          | (with_reducible refine G_not (fun h => ?_) (fun h => ?_) <;> (try simp only [h]))
          | (with_reducible refine G_cases (fun h => ?_) (fun h => ?_) <;> (try simp only [h]))
          | (refine W_slc Try.appPieces rfl (l := 0) (h := i) rfl (by simp [optNat, natOf?, intOf?]) (by omega) (by simp; omega) (szPieces _) ?_)
          | refine W_slc Try.appPieces rfl (l := i) (h := q.length) (by simp [optNat, natOf?, intOf?]) (by simp [optNat]) (by omega) (by simp) (szPieces _) ?_
          | refine C_pure ho1 rfl rfl (fun _ => rfl) ?_
          | refine C_pure ho2 rfl rfl (fun _ => rfl) ?_
          | (refine W_full Try.appVals rfl rfl szNil (szRow _) (by simp; omega) rfl ?_)
          | (refine W_own Try.appPieces rfl (szPieces _) (szOne rfl) (by simp; omega) (by simp +decide only [go_sem]) ?_)
          | (refine W_own Try.appPieces rfl (szApp (szPieces _) (szOne rfl)) (szPieces _) (by simp; omega) (by simp +decide only [go_sem]) ?_)
          | (with_reducible refine hK _ ?_; clear hK K)
          | (clear hK K; with_reducible refine hK _ ?_; clear hK K)
          | (clear hK K; clear hK K; with_reducible refine hK _ ?_; clear hK K)
          | (clear hK K; clear hK K; clear hK K; with_reducible refine hK _ ?_; clear hK K)
          | (with_reducible refine todo ?_; simp +decide only [go_sem, hd, ← List.map_take, ← List.map_drop, Nat.sub_zero, hq2]))
        rw [hend (fun y hy => by rw [List.getElem?_eq_none hge] at hy; cases hy)]
        refine Ret_own (47, 0) rfl ?_ ?_
        · simp +decide only [go_sem, List.append_assoc]
        · simp +decide only [go_sem, Nat.add_assoc, Nat.add_comm 1]
  all_goals
    have hP : putP ps s r = ps := by unfold putP; simp [*]
    rw [hP]
    refine Ret_own (23, 0) rfl rfl ?_
    simp +decide only [go_sem]
end Go.Proofs

/-
  Pieces: without (and the function within it).
-/


namespace Go.Proofs
open Go.PW

/-- The same piece. -/
def samePiece (x y : Piece) : Bool := ((x.lo == y.lo) && (x.hi == y.hi)) && sameRow x.row y.row
def isIn (q : List Piece) (x : Piece) : Bool := q.any (samePiece x)

theorem isIn_found {q : List Piece} {x y : Piece} {i : Nat} (h : q[i]? = some y) (hs : samePiece x y = true) : isIn q x = true := List.any_eq_true.2 ⟨y, List.mem_of_getElem? h, hs⟩
theorem isIn_next {q : List Piece} {x y : Piece} {i : Nat} (h : q[i]? = some y) (hI : isIn (q.take i) x = false) (hs : samePiece x y = false) : isIn (q.take (i + 1)) x = false := by
  unfold isIn at hI ⊢
  rw [take_next h, List.any_append, hI]
  simp [hs]

set_option maxRecDepth 8000 in
set_option maxHeartbeats 4000000 in
theorem Try.kWithout1 (q : List Piece) (x : Piece) (hn : q.length ≤ 1048576) (hx : x.row.length ≤ 1048576) {H : HMap} {A : AMap} (hw : Wf H A) {id : Nat} (hid : H id = some [.d (encPieces q)]) :
    EffOK Try.prog 79 1000 H A [pA x.enc, .c (.ptr id 0)] (pD (.lit (.bool (isIn q x)))) H A := by
  refine eff_ok (E := envOf Try.prog [] 1000 [] []) (envOf_ok Try.mixed) Try.func79 rfl Try.call79 (by kernel_rfl) (by exact Nat.le_of_ble_eq_true rfl) (fun hab => ?_)
  have hi : id < 1000 := Nat.lt_of_not_le fun h => by rw [(hab id h).1] at hid; cases hid
  have h2 : H 1002 = none := (hab _ (by decide)).1
  have h5 : H 1005 = none := (hab _ (by decide)).1
  have n2 : (id = 1002) = False := eq_false (by omega)
  have n5 : (id = 1005) = False := eq_false (by omega)
  repeat' (first
    | with_reducible refine VC_seq fun K hK => ?_
    | with_reducible refine W_region ?_
    | with_reducible refine VC_block ?_
    | with_reducible refine VC_scope ?_
    | with_reducible refine VC_if ?_
    | with_reducible refine VC_skip ?_
    | with_reducible refine VC_exit ?_
    | with_reducible refine VC_ret ?_
    | (with_reducible refine G_not (fun h => ?_) (fun h => ?_) <;> (try simp only [h]))
    | (with_reducible refine G_cases (fun h => ?_) (fun h => ?_) <;> (try simp only [h]))
    | (with_reducible refine hK _ ?_; clear hK K)
    | (clear hK K; with_reducible refine hK _ ?_; clear hK K)
    | (clear hK K; clear hK K; with_reducible refine hK _ ?_; clear hK K)
    | (clear hK K; clear hK K; clear hK K; with_reducible refine hK _ ?_; clear hK K)
    | (with_reducible refine todo ?_; simp +decide only [go_sem, hid, h2, n2]))
  refine VC_range q.length (fun i => isIn (q.take i) x = false) (fun i => over [(2, .c (.ptr 1002 0)), (6, pD (encPieces q)), (7, pD (.lit (.int .i64 q.length))), (8, pD (.lit (.int .i64 i)))]
    [(1002, [.d (.lit (.int .i64 x.lo)), .d (.lit (.int .i64 x.hi)), .d (encRow x.row)])] H A) rfl ?_ ?_
  · refine Weak_over hw (kp_upd h2 kp_refl) rfl ?_ ?_ <;> simp +decide only [go_sem]
    exact wkP_ptr (by simp [hOver])
  · intro i hi hI
    rcases Nat.lt_or_ge i q.length with hlt | hge
    · have hg := List.getElem?_eq_getElem hlt
      have hd := int_lt_true hlt
      have hnx := int_next hlt (show q.length ≤ 4294967296 by omega)
      generalize q[i] = y at hg
      repeat' (first
        | with_reducible refine VC_seq fun K hK => ?_
        | with_reducible refine W_region ?_
        | with_reducible refine VC_block ?_
        | with_reducible refine VC_scope ?_
        | with_reducible refine VC_if ?_
        | with_reducible refine VC_skip ?_
        | with_reducible refine VC_exit ?_
        | with_reducible refine VC_ret ?_
        | (with_reducible refine G_not (fun h => ?_) (fun h => ?_) <;> (try simp only [h]))
        | (with_reducible refine G_cases (fun h => ?_) (fun h => ?_) <;> (try simp only [h]))
        | refine C_pure (Try.kSame x.row y.row (by omega)) rfl rfl (fun k => (hab _ (by decide)).2 k) ?_
        | (with_reducible refine hK _ ?_; clear hK K)
        | (clear hK K; with_reducible refine hK _ ?_; clear hK K)
        | (clear hK K; clear hK K; with_reducible refine hK _ ?_; clear hK K)
        | (clear hK K; clear hK K; clear hK K; with_reducible refine hK _ ?_; clear hK K)
        | (with_reducible refine todo ?_; simp +decide only [go_sem, hg, hd, hnx, h5]))
      · rw [isIn_found hg (by unfold samePiece; simp [*])]
        exact RetE_same hw (kp_upd h5 (kp_upd h5 (kp_cons h2 kp_nil))) rfl rfl rfl
      all_goals
        refine Next_of hlt (isIn_next hg hI (by unfold samePiece; simp [*])) (Weak_over hw (kp_upd h5 (kp_upd h5 (kp_cons h2 kp_nil))) rfl ?_ ?_) <;> simp +decide only [go_sem]
        exact wkP_ptr (by simp [hOver])
    · have hd := int_lt_false hge
      rw [List.take_of_length_le hge] at hI
      repeat' (first
        | with_reducible refine VC_seq fun K hK => ?_
        | with_reducible refine W_region ?_
        | with_reducible refine VC_block ?_
        | with_reducible refine VC_scope ?_
        | with_reducible refine VC_if ?_
        | with_reducible refine VC_skip ?_
        | with_reducible refine VC_exit ?_
        | with_reducible refine VC_ret ?_
        | (with_reducible refine G_not (fun h => ?_) (fun h => ?_) <;> (try simp only [h]))
        | (with_reducible refine G_cases (fun h => ?_) (fun h => ?_) <;> (try simp only [h]))
        | (with_reducible refine hK _ ?_; clear hK K)
        | (clear hK K; with_reducible refine hK _ ?_; clear hK K)
        | (clear hK K; clear hK K; with_reducible refine hK _ ?_; clear hK K)
        | (clear hK K; clear hK K; clear hK K; with_reducible refine hK _ ?_; clear hK K)
        | (with_reducible refine todo ?_; simp +decide only [go_sem, hd]))
      rw [hI]
      exact RetE_same hw (kp_cons h2 kp_nil) rfl rfl rfl

/-- What is in the one and not in the other. -/
def without (ps q : List Piece) : List Piece := ps.filter fun x => !isIn q x
theorem without_next {ps q : List Piece} {x : Piece} {i : Nat} (h : ps[i]? = some x) : without (ps.take (i + 1)) q = without (ps.take i) q ++ (if isIn q x then [] else [x]) := by
  rw [take_next h, without, List.filter_append]
  cases h : isIn q x <;> simp [without, h]
theorem without_length (ps q : List Piece) : (without ps q).length ≤ ps.length := List.length_filter_le _ _

set_option maxRecDepth 8000 in
set_option maxHeartbeats 4000000 in
theorem Try.kWithout (ps q : List Piece) (hn : ps.length ≤ 1048576) (hr : ∀ p ∈ ps, p.row.length ≤ 1048576) (hq : q.length ≤ 1048576) : PureOK Try.prog 73 [pD (encPieces ps), pD (encPieces q)] (.one (.own 3 ((without ps q).map Piece.enc))) := by
  refine Try.pure (md := []) Try.func73 rfl Try.call73 (by kernel_rfl) (by rfl) (by exact Nat.le_of_ble_eq_true rfl) ?_
  repeat' (first
    | with_reducible refine VC_seq fun K hK => ?_
    | with_reducible refine W_region ?_
    | with_reducible refine VC_block ?_
    | with_reducible refine VC_scope ?_
    | with_reducible refine VC_if ?_
    | with_reducible refine VC_skip ?_
    | with_reducible refine VC_exit ?_
    | with_reducible refine VC_ret ?_
    | (with_reducible refine G_not (fun h => ?_) (fun h => ?_) <;> (try simp only [h]))
    | (with_reducible refine G_cases (fun h => ?_) (fun h => ?_) <;> (try simp only [h]))
    | (with_reducible refine hK _ ?_; clear hK K)
    | (clear hK K; with_reducible refine hK _ ?_; clear hK K)
    | (clear hK K; clear hK K; with_reducible refine hK _ ?_; clear hK K)
    | (clear hK K; clear hK K; clear hK K; with_reducible refine hK _ ?_; clear hK K)
    | (with_reducible refine todo ?_; simp +decide only [go_sem]))
  refine VC_range ps.length (fun _ => True) (fun i => frame [(5, .c (.fn 79 [(3, 0)])), (10, pD (encPieces ps)), (11, pD (.lit (.int .i64 ps.length))), (12, pD (.lit (.int .i64 i))), (6, .c (.own (6, 0) ((without (ps.take i) q).map Piece.enc)))]
    [(3, [.d (encPieces q)])] [((6, 0), .co 3 (without (ps.take i) q).length)]) True.intro ?_ ?_
  · refine Weak_frame ?_ ?_ ?_ <;> simp +decide only [go_sem, without, List.filter_nil]
    exact ⟨wkP_fn1 (by simp [hOf]), wkP_new rfl rfl⟩
  · intro i hi hI
    rcases Nat.lt_or_ge i ps.length with hlt | hge
    · have hg := List.getElem?_eq_getElem hlt
      have hd := int_lt_true hlt
      have hw := int_next hlt (show ps.length ≤ 4294967296 by omega)
      generalize ps[i] = x at hg
      have hx := hr x (List.mem_of_getElem? hg)
      have hl : (without (ps.take i) q).length ≤ i := Nat.le_trans (without_length _ _) (by rw [List.length_take]; omega)
      have hnx := without_next (q := q) hg
      repeat' (first
        | with_reducible refine VC_seq fun K hK => ?_
        | with_reducible refine W_region ?_
        | with_reducible refine VC_block ?_
        | with_reducible refine VC_scope ?_
        | with_reducible refine VC_if ?_
        | with_reducible refine VC_skip ?_
        | with_reducible refine VC_exit ?_
        | with_reducible refine VC_ret ?_
        | (with_reducible refine G_not (fun h => ?_) (fun h => ?_) <;> (try simp only [h]))
        | (with_reducible refine G_cases (fun h => ?_) (fun h => ?_) <;> (try simp only [h]))
        | refine C_eff (Try.kWithout1 q x hq hx (Wf_upd (Wf_upd (Wf_hOf rfl) rfl) rfl) (id := 3) (by simp +decide only [go_sem])) rfl (Above_updH (Above_updH (Above_of rfl rfl) (by decide)) (by decide)) ?_
        | (refine W_own Try.appPieces rfl (szPieces _) (szOne rfl) (by simp; omega) (by simp +decide only [go_sem]) ?_)
        | (with_reducible refine hK _ ?_; clear hK K)
        | (clear hK K; with_reducible refine hK _ ?_; clear hK K)
        | (clear hK K; clear hK K; with_reducible refine hK _ ?_; clear hK K)
        | (clear hK K; clear hK K; clear hK K; with_reducible refine hK _ ?_; clear hK K)
        | (with_reducible refine todo ?_; simp +decide only [go_sem, hg, hd, hw]))
      all_goals
        simp only [h, if_true, Bool.false_eq_true, if_false, List.append_nil] at hnx
        refine Next_of hlt True.intro (Weak_frame ?_ ?_ ?_) <;> simp +decide only [go_sem, hnx]
        exact ⟨wkP_fn1 (by simp [hOf]), wkP_own (by simp [aOf]) rfl⟩
    · have hd := int_lt_false hge
      rw [List.take_of_length_le hge]
      have ho := Try.kOwn (without ps q) (Nat.le_trans (without_length _ _) hn) (fun p hp => hr p (List.mem_filter.1 hp).1)
      repeat' (first
        | with_reducible refine VC_seq fun K hK => ?_
        | with_reducible refine W_region ?_
        | with_reducible refine VC_block ?_
        | with_reducible refine VC_scope ?_
        | with_reducible refine VC_if ?_
        | with_reducible refine VC_skip ?_
        | with_reducible refine VC_exit ?_
        | with_reducible refine VC_ret ?_
        | (with_reducible refine G_not (fun h => ?_) (fun h => ?_) <;> (try simp only [h]))
        | (with_reducible refine G_cases (fun h => ?_) (fun h => ?_) <;> (try simp only [h]))
        | refine C_pure ho rfl rfl (fun _ => rfl) ?_
        | (with_reducible refine hK _ ?_; clear hK K)
        | (clear hK K; with_reducible refine hK _ ?_; clear hK K)
        | (clear hK K; clear hK K; with_reducible refine hK _ ?_; clear hK K)
        | (clear hK K; clear hK K; clear hK K; with_reducible refine hK _ ?_; clear hK K)
        | (with_reducible refine todo ?_; simp +decide only [go_sem, hd]))
      refine Ret_own (26, 0) rfl rfl ?_
      simp +decide only [go_sem]
end Go.Proofs

/-
  Pieces: Diff, Same.
-/

namespace Go.Proofs
open Go.PW

def diff (ps q : List Piece) : List Piece × List Piece := if right ps && right q then (without ps q, without q ps) else ([], [])

set_option maxRecDepth 8000 in
set_option maxHeartbeats 4000000 in
theorem Try.kDiff (ps q : List Piece) (hn : ps.length ≤ 1048576) (hr : ∀ p ∈ ps, p.row.length ≤ 1048576) (hn' : q.length ≤ 1048576) (hr' : ∀ p ∈ q, p.row.length ≤ 1048576) :
    PureOK Try.prog 56 [pD (encPieces ps), pD (encPieces q)] (.tup [.own 3 ((diff ps q).1.map Piece.enc), .own 3 ((diff ps q).2.map Piece.enc)]) := by
  refine Try.pure (md := []) Try.func56 rfl Try.call56 (by kernel_rfl) (by rfl) (by exact Nat.le_of_ble_eq_true rfl) ?_
  repeat' (first
    | with_reducible refine VC_seq fun K hK => ?_
    | with_reducible refine W_region ?_
    | with_reducible refine VC_block ?_
    | with_reducible refine VC_scope ?_
    | with_reducible refine VC_if ?_
    | with_reducible refine VC_skip ?_
    | with_reducible refine VC_exit ?_
    | with_reducible refine VC_ret ?_
    | (with_reducible refine G_not (fun h => ?_) (fun h => ?_) <;> (try simp only [h]))
    | (with_reducible refine G_cases (fun h => ?_) (fun h => ?_) <;> (try simp only [h]))
    | refine C_pure (Try.kRight ps hn hr) rfl rfl (fun _ => rfl) ?_
    | refine C_pure (Try.kRight q hn' hr') rfl rfl (fun _ => rfl) ?_
    | refine C_pure (Try.kWithout ps q hn hr hn') rfl rfl (fun _ => rfl) ?_
    | refine C_pure (Try.kWithout q ps hn' hr' hn) rfl rfl (fun _ => rfl) ?_
    | (with_reducible refine hK _ ?_; clear hK K)
    | (clear hK K; with_reducible refine hK _ ?_; clear hK K)
    | (clear hK K; clear hK K; with_reducible refine hK _ ?_; clear hK K)
    | (clear hK K; clear hK K; clear hK K; with_reducible refine hK _ ?_; clear hK K)
    | (with_reducible refine todo ?_; simp +decide only [go_sem]))
  · have hD : diff ps q = (without ps q, without q ps) := by unfold diff; simp [*]
    rw [hD]
    refine Ret_both (k := some (16, 0)) (k' := some (19, 0)) (fun κ h h' => by rw [← h] at h'; simp at h') rfl (.inl ⟨_, rfl, rfl, ?_⟩) (.inl ⟨_, rfl, rfl, ?_⟩) <;> simp +decide only [go_sem]
  all_goals
    have hD : diff ps q = ([], []) := by unfold diff; simp [*]
    rw [hD]
    exact Ret_both (k := none) (k' := none) (fun κ h => by cases h) rfl (.inr rfl) (.inr rfl)

def samePieces (a b : List Piece) : Bool := a.length == b.length && (List.zipWith samePiece a b).all id
theorem zip_take {α : Type} {f : α → α → Bool} {a b : List α} {i : Nat} {x y : α} (h : (List.zipWith f (a.take i) (b.take i)).all id = true) (hx : a[i]? = some x) (hy : b[i]? = some y) (hf : f x y = true) : (List.zipWith f (a.take (i + 1)) (b.take (i + 1))).all id = true := by
  rw [← List.take_zipWith] at h ⊢
  refine all_take (x := true) h ?_ rfl
  rw [List.getElem?_zipWith, hx, hy]
  simp [hf]
theorem zip_not {α : Type} {f : α → α → Bool} {a b : List α} {i : Nat} {x y : α} (hx : a[i]? = some x) (hy : b[i]? = some y) (hf : f x y = false) : (List.zipWith f a b).all id = false := by
  refine all_not (i := i) (x := false) ?_ rfl
  rw [List.getElem?_zipWith, hx, hy]
  simp [hf]

set_option maxRecDepth 8000 in
set_option maxHeartbeats 4000000 in
theorem Try.kSameP (a b : List Piece) (hr : a.length ≤ 1048576) (hrr : ∀ p ∈ a, p.row.length ≤ 1048576) : PureOK Try.prog 37 [pD (encPieces a), pD (encPieces b)] (.one (dB (samePieces a b))) := by
  refine Try.pure (md := []) Try.func37 rfl Try.call37 (by kernel_rfl) (by rfl) (by exact Nat.le_of_ble_eq_true rfl) ?_
  repeat' (first
    | with_reducible refine VC_seq fun K hK => ?_
    | with_reducible refine W_region ?_
    | with_reducible refine VC_block ?_
    | with_reducible refine VC_scope ?_
    | with_reducible refine VC_if ?_
    | with_reducible refine VC_skip ?_
    | with_reducible refine VC_exit ?_
    | with_reducible refine VC_ret ?_
    | (with_reducible refine G_not (fun h => ?_) (fun h => ?_) <;> (try simp only [h]))
    | (with_reducible refine G_cases (fun h => ?_) (fun h => ?_) <;> (try simp only [h]))
    | (with_reducible refine hK _ ?_; clear hK K)
    | (clear hK K; with_reducible refine hK _ ?_; clear hK K)
    | (clear hK K; clear hK K; with_reducible refine hK _ ?_; clear hK K)
    | (clear hK K; clear hK K; clear hK K; with_reducible refine hK _ ?_; clear hK K)
    | (with_reducible refine todo ?_; simp +decide only [go_sem]))
  · refine Ret_d rfl ?_
    have hne : (a.length == b.length) = false := by
      rw [beq_eq_false_iff_ne]; intro e; rw [e] at h; simp at h
    simp +decide only [go_sem, samePieces, hne]
  · have hlen : a.length = b.length := by
      have e : ((a.length : Int) == (b.length : Int)) = true := by simpa [bne] using h
      exact Int.ofNat_inj.1 (by simpa using e)
    refine VC_range a.length (fun i => (List.zipWith samePiece (a.take i) (b.take i)).all id = true) (fun i => frame [(0, pD (encPieces a)), (1, pD (encPieces b)), (12, pD (.lit (.int .i64 a.length))), (13, pD (.lit (.int .i64 i)))] [] []) rfl ?_ ?_
    · refine Weak_frame ?_ ?_ ?_ <;> simp +decide only [go_sem]
    · intro i hi hI
      rcases Nat.lt_or_ge i a.length with hlt | hge
      · have hg := List.getElem?_eq_getElem hlt
        have hg' := List.getElem?_eq_getElem (show i < b.length by omega)
        have hd := int_lt_true hlt
        have hw := int_next hlt (show a.length ≤ 4294967296 by omega)
        generalize a[i] = x at hg
        generalize b[i] = y at hg'
        have hx := hrr x (List.mem_of_getElem? hg)
        repeat' (first
          | with_reducible refine VC_seq fun K hK => ?_
          | with_reducible refine W_region ?_
          | with_reducible refine VC_block ?_
          | with_reducible refine VC_scope ?_
          | with_reducible refine VC_if ?_
          | with_reducible refine VC_skip ?_
          | with_reducible refine VC_exit ?_
          | with_reducible refine VC_ret ?_
          | (with_reducible refine G_not (fun h => ?_) (fun h => ?_) <;> (try simp only [h]))
          | (with_reducible refine G_cases (fun h => ?_) (fun h => ?_) <;> (try simp only [h]))
          | refine C_pure (Try.kSame x.row y.row (by omega)) rfl rfl (fun _ => rfl) ?_
          | (with_reducible refine hK _ ?_; clear hK K)
          | (clear hK K; with_reducible refine hK _ ?_; clear hK K)
          | (clear hK K; clear hK K; with_reducible refine hK _ ?_; clear hK K)
          | (clear hK K; clear hK K; clear hK K; with_reducible refine hK _ ?_; clear hK K)
          | (with_reducible refine todo ?_; simp +decide only [go_sem, hg, hg', hd, hw]))
        all_goals first
          | (have hf : samePiece x y = true := by unfold samePiece; simp [*]
             refine Next_of hlt (zip_take hI hg hg' hf) (Weak_frame ?_ ?_ ?_) <;> simp +decide only [go_sem])
          | (have hf : samePiece x y = false := by unfold samePiece; simp [*]
             refine Ret_d rfl ?_
             simp +decide only [go_sem, samePieces, zip_not hg hg' hf])
      · have hd := int_lt_false hge
        rw [List.take_of_length_le hge, List.take_of_length_le (show b.length ≤ i by omega)] at hI
        repeat' (first
          | with_reducible refine VC_seq fun K hK => ?_
          | with_reducible refine W_region ?_
          | with_reducible refine VC_block ?_
          | with_reducible refine VC_scope ?_
          | with_reducible refine VC_if ?_
          | with_reducible refine VC_skip ?_
          | with_reducible refine VC_exit ?_
          | with_reducible refine VC_ret ?_
          | (with_reducible refine G_not (fun h => ?_) (fun h => ?_) <;> (try simp only [h]))
          | (with_reducible refine G_cases (fun h => ?_) (fun h => ?_) <;> (try simp only [h]))
          | (with_reducible refine hK _ ?_; clear hK K)
          | (clear hK K; with_reducible refine hK _ ?_; clear hK K)
          | (clear hK K; clear hK K; with_reducible refine hK _ ?_; clear hK K)
          | (clear hK K; clear hK K; clear hK K; with_reducible refine hK _ ?_; clear hK K)
          | (with_reducible refine todo ?_; simp +decide only [go_sem, hd]))
        refine Ret_d rfl ?_
        simp +decide only [go_sem, samePieces, hI, hlen]
end Go.Proofs
