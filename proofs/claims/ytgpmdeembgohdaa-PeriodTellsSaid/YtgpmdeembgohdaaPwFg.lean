/-
  Pieces: Drop.
-/
import Derived.Test.YtgpmdeembgohdaaPwFf
namespace Go.Proofs
open Go.PW

/-- What stays of a piece beside a span. -/
def rest1 (s : Sp) (p : Piece) : List Piece := (cut (p.lo, p.hi) s).map fun m => ⟨m.1, m.2, p.row⟩
def rests (s : Sp) (ps : List Piece) : List Piece := ps.flatMap (rest1 s)
def drop (ps : List Piece) (s : Sp) : List Piece := if right ps && Span.right s.1 s.2 then rests s ps else ps

theorem cut_length (a b : Sp) : (cut a b).length ≤ 2 := by
  unfold cut
  split
  · exact Nat.le_trans (List.length_filter_le _ _) (by simp)
  · exact Nat.le_trans (List.length_filter_le _ _) (by simp)
theorem rest1_length (s : Sp) (p : Piece) : (rest1 s p).length ≤ 2 := by unfold rest1; rw [List.length_map]; exact cut_length _ _
theorem rests_length (s : Sp) (ps : List Piece) : (rests s ps).length ≤ 2 * ps.length := by
  induction ps with
  | nil => exact Nat.le_refl _
  | cons p r ih =>
    have := rest1_length s p
    simp only [rests, List.flatMap_cons, List.length_append, List.length_cons] at ih ⊢
    omega
theorem rests_row {s : Sp} {ps : List Piece} {n : Nat} (h : ∀ p ∈ ps, p.row.length ≤ n) : ∀ p ∈ rests s ps, p.row.length ≤ n := by
  intro p hp
  obtain ⟨q, hq, hp⟩ := List.mem_flatMap.1 hp
  obtain ⟨m, _, rfl⟩ := List.mem_map.1 hp
  exact h q hq
theorem rests_next {s : Sp} {ps : List Piece} {i : Nat} {x : Piece} (h : ps[i]? = some x) : rests s (ps.take (i + 1)) = rests s (ps.take i) ++ rest1 s x := by
  rw [take_next h, rests, List.flatMap_append]
  simp [rests]

theorem szPM (r : Row) (l : List Sp) : Szd 3 (l.map fun m => Piece.enc ⟨m.1, m.2, r⟩) := fun e he => by
  obtain ⟨p, _, rfl⟩ := List.mem_map.1 he
  rfl

set_option maxHeartbeats 4000000 in
theorem Try.kDrop (ps : List Piece) (s : Sp) (hn : ps.length ≤ 262144) (hr : ∀ p ∈ ps, p.row.length ≤ 1048576) : PureOK Try.prog 20 [pD (encPieces ps), pA s.enc] (.one (.own 3 ((drop ps s).map Piece.enc))) := by
  refine Try.pure (md := []) Try.func20 rfl Try.call20 (by kernel_rfl) (by rfl) (by exact Nat.le_of_ble_eq_true rfl) ?_
  have hs : s.enc = encSpan s.1 s.2 := rfl
  have hown := Try.kOwn ps (by omega) hr
  have hrt := Try.kRight ps (by omega) hr
  repeat' (first
    | with_reducible refine VC_seq fun K hK => ?_
    | with_reducible refine W_region ?_
    | with_reducible refine VC_block ?_
    | with_reducible refine VC_scope ?_
    | with_reducible refine VC_if ?_
    | with_reducible refine VC_skip ?_
    | with_reducible refine VC_exit ?_
    | with_reducible refine VC_ret ?_
    | (with_reducible refine G_not (fun h => ?_) (fun h => ?_) <;> (try simp only [h]))
    | (with_reducible refine G_cases (fun h => ?_) (fun h => ?_) <;> (try simp only [h]))
    | refine C_pure hown rfl rfl (fun _ => rfl) ?_
    | refine C_pure hrt rfl rfl (fun _ => rfl) ?_
    | refine C_pure (Try.spanRight s.1 s.2) rfl rfl (fun _ => rfl) ?_
    | (with_reducible refine hK _ ?_; clear hK K)
    | (clear hK K; with_reducible refine hK _ ?_; clear hK K)
    | (clear hK K; clear hK K; with_reducible refine hK _ ?_; clear hK K)
    | (clear hK K; clear hK K; clear hK K; with_reducible refine hK _ ?_; clear hK K)
    | (with_reducible refine todo ?_; simp +decide only [go_sem, hs]))
  · have hD : drop ps s = rests s ps := by unfold drop; simp [*]
    rw [hD] at hK ⊢
    refine VC_range ps.length (fun _ => True) (fun i => frame [(21, pD (encPieces ps)), (22, pD (.lit (.int .i64 ps.length))), (23, pD (.lit (.int .i64 i))), (5, .c (.own (5, 0) ((rests s (ps.take i)).map Piece.enc))), (3, .c (.ptr 3 0))]
      [(3, [.d (.lit (.int .i64 s.1)), .d (.lit (.int .i64 s.2))])] [((5, 0), .co 3 (rests s (ps.take i)).length)]) True.intro ?_ ?_
    · refine Weak_frame ?_ ?_ ?_ <;> simp +decide only [go_sem, rests, List.flatMap_nil]
      exact ⟨wkP_new rfl rfl, wkP_ptr (by simp [hOf])⟩
    · intro i hi hI
      rcases Nat.lt_or_ge i ps.length with hlt | hge
      · have hg := List.getElem?_eq_getElem hlt
        have hd := int_lt_true hlt
        have hw := int_next hlt (show ps.length ≤ 4294967296 by omega)
        generalize ps[i] = x at hg
        have hnx := rests_next (s := s) hg
        have hl : (rests s (ps.take i)).length ≤ 2 * i := Nat.le_trans (rests_length _ _) (by rw [List.length_take]; omega)
        have hcut := Try.kCut (x.lo, x.hi) s
        have hxe : Sp.enc (x.lo, x.hi) = encSpan x.lo x.hi := rfl
        have hcl := cut_length (x.lo, x.hi) s
        repeat' (first
          | with_reducible refine VC_seq fun K hK => ?_
          | with_reducible refine W_region ?_
          | with_reducible refine VC_block ?_
          | with_reducible refine VC_scope ?_
          | with_reducible refine VC_if ?_
          | with_reducible refine VC_skip ?_
          | with_reducible refine VC_exit ?_
          | with_reducible refine VC_ret ?_
          | (with_reducible refine G_not (fun h => ?_) (fun h => ?_) <;> (try simp only [h]))
          | (with_reducible refine G_cases (fun h => ?_) (fun h => ?_) <;> (try simp only [h]))
          | refine C_pure hcut rfl rfl (fun _ => rfl) ?_
          | (with_reducible refine hK _ ?_; clear hK K)
          | (clear hK K; with_reducible refine hK _ ?_; clear hK K)
          | (clear hK K; clear hK K; with_reducible refine hK _ ?_; clear hK K)
          | (clear hK K; clear hK K; clear hK K; with_reducible refine hK _ ?_; clear hK K)
          | (with_reducible refine todo ?_; simp +decide only [go_sem, hg, hd]))
        have hL : rest1 s x = (cut (x.lo, x.hi) s).map fun m => ⟨m.1, m.2, x.row⟩ := rfl
        generalize cut (x.lo, x.hi) s = L at hcut hcl hL
        refine VC_range L.length (fun _ => True) (fun j => frame [(30, pD (.sl (L.map Sp.enc))), (31, pD (.lit (.int .i64 L.length))), (32, pD (.lit (.int .i64 j))), (7, .c (.ptr 7 0)), (21, pD (encPieces ps)), (22, pD (.lit (.int .i64 ps.length))), (23, pD (.lit (.int .i64 i))),
            (5, .c (.own (5, 0) ((rests s (ps.take i)).map Piece.enc ++ (L.take j).map fun m => Piece.enc ⟨m.1, m.2, x.row⟩))), (3, .c (.ptr 3 0))]
          [(3, [.d (.lit (.int .i64 s.1)), .d (.lit (.int .i64 s.2))]), (7, [.d (.lit (.int .i64 x.lo)), .d (.lit (.int .i64 x.hi)), .d (encRow x.row)])] [((5, 0), .co 3 ((rests s (ps.take i)).length + (L.take j).length))]) True.intro ?_ ?_
        · refine Weak_frame ?_ ?_ ?_ <;> simp +decide only [go_sem]
          exact ⟨wkP_ptr (by simp [hOf]), wkP_own (by simp [aOf]) rfl, wkP_ptr (by simp [hOf])⟩
        · intro j hj hJ
          rcases Nat.lt_or_ge j L.length with hlt' | hge'
          · have hg' := List.getElem?_eq_getElem hlt'
            have hd' := int_lt_true hlt'
            have hw' := int_next hlt' (show L.length ≤ 4294967296 by omega)
            generalize L[j] = y at hg'
            have hy : y.enc = encSpan y.1 y.2 := rfl
            have htk := take_next hg'
            have hlj : (L.take j).length = j := by rw [List.length_take]; omega
            repeat' (first
              | with_reducible refine VC_seq fun K hK => ?_
              | with_reducible refine W_region ?_
              | with_reducible refine VC_block ?_
              | with_reducible refine VC_scope ?_
              | with_reducible refine VC_if ?_
              | with_reducible refine VC_skip ?_
              | with_reducible refine VC_exit ?_
              | with_reducible refine VC_ret ?_
              | (with_reducible refine G_not (fun h => ?_) (fun h => ?_) <;> (try simp only [h]))
              | (with_reducible refine G_cases (fun h => ?_) (fun h => ?_) <;> (try simp only [h]))
              | (refine W_own Try.appPieces rfl (szApp (szPieces _) (szPM _ _)) (szOne rfl) (by simp; omega) (by simp; rfl) ?_)
              | (with_reducible refine hK _ ?_; clear hK K)
              | (clear hK K; with_reducible refine hK _ ?_; clear hK K)
              | (clear hK K; clear hK K; with_reducible refine hK _ ?_; clear hK K)
              | (clear hK K; clear hK K; clear hK K; with_reducible refine hK _ ?_; clear hK K)
              | (with_reducible refine todo ?_; simp +decide only [go_sem, hg', hd', hw', hy]))
            refine Next_of hlt' True.intro (Weak_frame ?_ ?_ ?_) <;> simp +decide only [go_sem, htk, List.append_assoc, Nat.add_assoc]
            exact ⟨wkP_ptr (by simp [hOf]), wkP_own (by simp [aOf]) rfl, wkP_ptr (by simp [hOf])⟩
          · have hd' := int_lt_false hge'
            rw [List.take_of_length_le hge']
            repeat' (first
              | with_reducible refine VC_seq fun K hK => ?_
              | with_reducible refine W_region ?_
              | with_reducible refine VC_block ?_
              | with_reducible refine VC_scope ?_
              | with_reducible refine VC_if ?_
              | with_reducible refine VC_skip ?_
              | with_reducible refine VC_exit ?_
              | with_reducible refine VC_ret ?_
              | (with_reducible refine G_not (fun h => ?_) (fun h => ?_) <;> (try simp only [h]))
              | (with_reducible refine G_cases (fun h => ?_) (fun h => ?_) <;> (try simp only [h]))
              | (with_reducible refine hK _ ?_; clear hK K)
              | (clear hK K; with_reducible refine hK _ ?_; clear hK K)
              | (clear hK K; clear hK K; with_reducible refine hK _ ?_; clear hK K)
              | (clear hK K; clear hK K; clear hK K; with_reducible refine hK _ ?_; clear hK K)
              | (with_reducible refine todo ?_; simp +decide only [go_sem, hd', hw]))
            refine Next_of hlt True.intro (Weak_frame ?_ ?_ ?_) <;> simp +decide only [go_sem, hnx, hL, List.map_map]
            exact ⟨wkP_own (by simp [aOf]) rfl, wkP_ptr (by simp [hOf])⟩
      · have hd := int_lt_false hge
        rw [List.take_of_length_le hge]
        have ho2 := Try.kOwn (rests s ps) (Nat.le_trans (rests_length _ _) (by omega)) (rests_row hr)
        repeat' (first
          | with_reducible refine VC_seq fun K hK => ?_
          | with_reducible refine W_region ?_
          | with_reducible refine VC_block ?_
          | with_reducible refine VC_scope ?_
          | with_reducible refine VC_if ?_
          | with_reducible refine VC_skip ?_
          | with_reducible refine VC_exit ?_
          | with_reducible refine VC_ret ?_
          | (with_reducible refine G_not (fun h => ?_) (fun h => ?_) <;> (try simp only [h]))
          | (with_reducible refine G_cases (fun h => ?_) (fun h => ?_) <;> (try simp only [h]))
          | refine C_pure ho2 rfl rfl (fun _ => rfl) ?_
          | (with_reducible refine hK _ ?_; clear hK K)
          | (clear hK K; with_reducible refine hK _ ?_; clear hK K)
          | (clear hK K; clear hK K; with_reducible refine hK _ ?_; clear hK K)
          | (clear hK K; clear hK K; clear hK K; with_reducible refine hK _ ?_; clear hK K)
          | (with_reducible refine todo ?_; simp +decide only [go_sem, hd]))
        refine Ret_own (46, 0) rfl rfl ?_
        simp +decide only [go_sem]
  all_goals
    have hD : drop ps s = ps := by unfold drop; simp [*]
    rw [hD]
    refine Ret_own (11, 0) rfl rfl ?_
    simp +decide only [go_sem]
end Go.Proofs
