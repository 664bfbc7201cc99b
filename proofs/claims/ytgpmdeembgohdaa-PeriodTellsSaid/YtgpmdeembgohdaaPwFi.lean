/-
  Pieces: without (and the function within it).
-/
import Derived.Test.YtgpmdeembgohdaaPwFh
import Derived.Test.YtgpmdeembgohdaaPwW
namespace Go.Proofs
open Go.PW

/-- The same piece. -/
def samePiece (x y : Piece) : Bool := ((x.lo == y.lo) && (x.hi == y.hi)) && sameRow x.row y.row
def isIn (q : List Piece) (x : Piece) : Bool := q.any (samePiece x)

theorem isIn_found {q : List Piece} {x y : Piece} {i : Nat} (h : q[i]? = some y) (hs : samePiece x y = true) : isIn q x = true := List.any_eq_true.2 ⟨y, List.mem_of_getElem? h, hs⟩
theorem isIn_next {q : List Piece} {x y : Piece} {i : Nat} (h : q[i]? = some y) (hI : isIn (q.take i) x = false) (hs : samePiece x y = false) : isIn (q.take (i + 1)) x = false := by
  unfold isIn at hI ⊢
  rw [take_next h, List.any_append, hI]
  simp [hs]

set_option maxHeartbeats 4000000 in
theorem Try.kWithout1 (q : List Piece) (x : Piece) (hn : q.length ≤ 1048576) (hx : x.row.length ≤ 1048576) {H : HMap} {A : AMap} (hw : Wf H A) {id : Nat} (hid : H id = some [.d (encPieces q)]) :
    EffOK Try.prog 47 1000 H A [pA x.enc, .c (.ptr id 0)] (pD (.lit (.bool (isIn q x)))) H A := by
  refine eff_ok (E := envOf Try.prog [] 1000 [] []) (envOf_ok Try.mixed) Try.func47 rfl Try.call47 (by kernel_rfl) (by exact Nat.le_of_ble_eq_true rfl) (fun hab => ?_)
  have hi : id < 1000 := Nat.lt_of_not_le fun h => by rw [(hab id h).1] at hid; cases hid
  have h2 : H 1002 = none := (hab _ (by decide)).1
  have h5 : H 1005 = none := (hab _ (by decide)).1
  have n2 : (id = 1002) = False := eq_false (by omega)
  have n5 : (id = 1005) = False := eq_false (by omega)
  repeat' (first
    | with_reducible refine VC_seq fun K hK => ?_
    | with_reducible refine W_region ?_
    | with_reducible refine VC_block ?_
    | with_reducible refine VC_scope ?_
    | with_reducible refine VC_if ?_
    | with_reducible refine VC_skip ?_
    | with_reducible refine VC_exit ?_
    | with_reducible refine VC_ret ?_
    | (with_reducible refine G_not (fun h => ?_) (fun h => ?_) <;> (try simp only [h]))
    | (with_reducible refine G_cases (fun h => ?_) (fun h => ?_) <;> (try simp only [h]))
    | (with_reducible refine hK _ ?_; clear hK K)
    | (clear hK K; with_reducible refine hK _ ?_; clear hK K)
    | (clear hK K; clear hK K; with_reducible refine hK _ ?_; clear hK K)
    | (clear hK K; clear hK K; clear hK K; with_reducible refine hK _ ?_; clear hK K)
    | (with_reducible refine todo ?_; simp +decide only [go_sem, hid, h2, n2]))
  refine VC_range q.length (fun i => isIn (q.take i) x = false) (fun i => over [(2, .c (.ptr 1002 0)), (6, pD (encPieces q)), (7, pD (.lit (.int .i64 q.length))), (8, pD (.lit (.int .i64 i)))]
    [(1002, [.d (.lit (.int .i64 x.lo)), .d (.lit (.int .i64 x.hi)), .d (encRow x.row)])] H A) rfl ?_ ?_
  · refine Weak_over hw (kp_upd h2 kp_refl) rfl ?_ ?_ <;> simp +decide only [go_sem]
    exact wkP_ptr (by simp [hOver])
  · intro i hi hI
    rcases Nat.lt_or_ge i q.length with hlt | hge
    · have hg := List.getElem?_eq_getElem hlt
      have hd := int_lt_true hlt
      have hnx := int_next hlt (show q.length ≤ 4294967296 by omega)
      generalize q[i] = y at hg
      repeat' (first
        | with_reducible refine VC_seq fun K hK => ?_
        | with_reducible refine W_region ?_
        | with_reducible refine VC_block ?_
        | with_reducible refine VC_scope ?_
        | with_reducible refine VC_if ?_
        | with_reducible refine VC_skip ?_
        | with_reducible refine VC_exit ?_
        | with_reducible refine VC_ret ?_
        | (with_reducible refine G_not (fun h => ?_) (fun h => ?_) <;> (try simp only [h]))
        | (with_reducible refine G_cases (fun h => ?_) (fun h => ?_) <;> (try simp only [h]))
        | refine C_pure (Try.kSame x.row y.row (by omega)) rfl rfl (fun k => (hab _ (by decide)).2 k) ?_
        | (with_reducible refine hK _ ?_; clear hK K)
        | (clear hK K; with_reducible refine hK _ ?_; clear hK K)
        | (clear hK K; clear hK K; with_reducible refine hK _ ?_; clear hK K)
        | (clear hK K; clear hK K; clear hK K; with_reducible refine hK _ ?_; clear hK K)
        | (with_reducible refine todo ?_; simp +decide only [go_sem, hg, hd, hnx, h5]))
      · rw [isIn_found hg (by unfold samePiece; simp [*])]
        exact RetE_same hw (kp_upd h5 (kp_upd h5 (kp_cons h2 kp_nil))) rfl rfl rfl
      all_goals
        refine Next_of hlt (isIn_next hg hI (by unfold samePiece; simp [*])) (Weak_over hw (kp_upd h5 (kp_upd h5 (kp_cons h2 kp_nil))) rfl ?_ ?_) <;> simp +decide only [go_sem]
        exact wkP_ptr (by simp [hOver])
    · have hd := int_lt_false hge
      rw [List.take_of_length_le hge] at hI
      repeat' (first
        | with_reducible refine VC_seq fun K hK => ?_
        | with_reducible refine W_region ?_
        | with_reducible refine VC_block ?_
        | with_reducible refine VC_scope ?_
        | with_reducible refine VC_if ?_
        | with_reducible refine VC_skip ?_
        | with_reducible refine VC_exit ?_
        | with_reducible refine VC_ret ?_
        | (with_reducible refine G_not (fun h => ?_) (fun h => ?_) <;> (try simp only [h]))
        | (with_reducible refine G_cases (fun h => ?_) (fun h => ?_) <;> (try simp only [h]))
        | (with_reducible refine hK _ ?_; clear hK K)
        | (clear hK K; with_reducible refine hK _ ?_; clear hK K)
        | (clear hK K; clear hK K; with_reducible refine hK _ ?_; clear hK K)
        | (clear hK K; clear hK K; clear hK K; with_reducible refine hK _ ?_; clear hK K)
        | (with_reducible refine todo ?_; simp +decide only [go_sem, hd]))
      rw [hI]
      exact RetE_same hw (kp_cons h2 kp_nil) rfl rfl rfl

/-- What is in the one and not in the other. -/
def without (ps q : List Piece) : List Piece := ps.filter fun x => !isIn q x
theorem without_next {ps q : List Piece} {x : Piece} {i : Nat} (h : ps[i]? = some x) : without (ps.take (i + 1)) q = without (ps.take i) q ++ (if isIn q x then [] else [x]) := by
  rw [take_next h, without, List.filter_append]
  cases h : isIn q x <;> simp [without, h]
theorem without_length (ps q : List Piece) : (without ps q).length ≤ ps.length := List.length_filter_le _ _

set_option maxHeartbeats 4000000 in
theorem Try.kWithout (ps q : List Piece) (hn : ps.length ≤ 1048576) (hr : ∀ p ∈ ps, p.row.length ≤ 1048576) (hq : q.length ≤ 1048576) : PureOK Try.prog 41 [pD (encPieces ps), pD (encPieces q)] (.one (.own 3 ((without ps q).map Piece.enc))) := by
  refine Try.pure (md := []) Try.func41 rfl Try.call41 (by kernel_rfl) (by rfl) (by exact Nat.le_of_ble_eq_true rfl) ?_
  repeat' (first
    | with_reducible refine VC_seq fun K hK => ?_
    | with_reducible refine W_region ?_
    | with_reducible refine VC_block ?_
    | with_reducible refine VC_scope ?_
    | with_reducible refine VC_if ?_
    | with_reducible refine VC_skip ?_
    | with_reducible refine VC_exit ?_
    | with_reducible refine VC_ret ?_
    | (with_reducible refine G_not (fun h => ?_) (fun h => ?_) <;> (try simp only [h]))
    | (with_reducible refine G_cases (fun h => ?_) (fun h => ?_) <;> (try simp only [h]))
    | (with_reducible refine hK _ ?_; clear hK K)
    | (clear hK K; with_reducible refine hK _ ?_; clear hK K)
    | (clear hK K; clear hK K; with_reducible refine hK _ ?_; clear hK K)
    | (clear hK K; clear hK K; clear hK K; with_reducible refine hK _ ?_; clear hK K)
    | (with_reducible refine todo ?_; simp +decide only [go_sem]))
  refine VC_range ps.length (fun _ => True) (fun i => frame [(5, .c (.fn 47 [(3, 0)])), (10, pD (encPieces ps)), (11, pD (.lit (.int .i64 ps.length))), (12, pD (.lit (.int .i64 i))), (6, .c (.own (6, 0) ((without (ps.take i) q).map Piece.enc)))]
    [(3, [.d (encPieces q)])] [((6, 0), .co 3 (without (ps.take i) q).length)]) True.intro ?_ ?_
  · refine Weak_frame ?_ ?_ ?_ <;> simp +decide only [go_sem, without, List.filter_nil]
    exact ⟨wkP_fn1 (by simp [hOf]), wkP_new rfl rfl⟩
  · intro i hi hI
    rcases Nat.lt_or_ge i ps.length with hlt | hge
    · have hg := List.getElem?_eq_getElem hlt
      have hd := int_lt_true hlt
      have hw := int_next hlt (show ps.length ≤ 4294967296 by omega)
      generalize ps[i] = x at hg
      have hx := hr x (List.mem_of_getElem? hg)
      have hl : (without (ps.take i) q).length ≤ i := Nat.le_trans (without_length _ _) (by rw [List.length_take]; omega)
      have hnx := without_next (q := q) hg
      repeat' (first
        | with_reducible refine VC_seq fun K hK => ?_
        | with_reducible refine W_region ?_
        | with_reducible refine VC_block ?_
        | with_reducible refine VC_scope ?_
        | with_reducible refine VC_if ?_
        | with_reducible refine VC_skip ?_
        | with_reducible refine VC_exit ?_
        | with_reducible refine VC_ret ?_
        | (with_reducible refine G_not (fun h => ?_) (fun h => ?_) <;> (try simp only [h]))
        | (with_reducible refine G_cases (fun h => ?_) (fun h => ?_) <;> (try simp only [h]))
        | refine C_eff (Try.kWithout1 q x hq hx (Wf_upd (Wf_upd (Wf_hOf rfl) rfl) rfl) (id := 3) (by simp +decide only [go_sem])) rfl (Above_updH (Above_updH (Above_of rfl rfl) (by decide)) (by decide)) ?_
        | (refine W_own Try.appPieces rfl (szPieces _) (szOne rfl) (by simp; omega) (by simp +decide only [go_sem]) ?_)
        | (with_reducible refine hK _ ?_; clear hK K)
        | (clear hK K; with_reducible refine hK _ ?_; clear hK K)
        | (clear hK K; clear hK K; with_reducible refine hK _ ?_; clear hK K)
        | (clear hK K; clear hK K; clear hK K; with_reducible refine hK _ ?_; clear hK K)
        | (with_reducible refine todo ?_; simp +decide only [go_sem, hg, hd, hw]))
      all_goals
        simp only [h, if_true, Bool.false_eq_true, if_false, List.append_nil] at hnx
        refine Next_of hlt True.intro (Weak_frame ?_ ?_ ?_) <;> simp +decide only [go_sem, hnx]
        exact ⟨wkP_fn1 (by simp [hOf]), wkP_own (by simp [aOf]) rfl⟩
    · have hd := int_lt_false hge
      rw [List.take_of_length_le hge]
      have ho := Try.kOwn (without ps q) (Nat.le_trans (without_length _ _) hn) (fun p hp => hr p (List.mem_filter.1 hp).1)
      repeat' (first
        | with_reducible refine VC_seq fun K hK => ?_
        | with_reducible refine W_region ?_
        | with_reducible refine VC_block ?_
        | with_reducible refine VC_scope ?_
        | with_reducible refine VC_if ?_
        | with_reducible refine VC_skip ?_
        | with_reducible refine VC_exit ?_
        | with_reducible refine VC_ret ?_
        | (with_reducible refine G_not (fun h => ?_) (fun h => ?_) <;> (try simp only [h]))
        | (with_reducible refine G_cases (fun h => ?_) (fun h => ?_) <;> (try simp only [h]))
        | refine C_pure ho rfl rfl (fun _ => rfl) ?_
        | (with_reducible refine hK _ ?_; clear hK K)
        | (clear hK K; with_reducible refine hK _ ?_; clear hK K)
        | (clear hK K; clear hK K; with_reducible refine hK _ ?_; clear hK K)
        | (clear hK K; clear hK K; clear hK K; with_reducible refine hK _ ?_; clear hK K)
        | (with_reducible refine todo ?_; simp +decide only [go_sem, hd]))
      refine Ret_own (26, 0) rfl rfl ?_
      simp +decide only [go_sem]
end Go.Proofs
