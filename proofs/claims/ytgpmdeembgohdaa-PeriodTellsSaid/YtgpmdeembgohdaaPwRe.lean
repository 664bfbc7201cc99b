/-
  The document's pieces: Coalesce.
-/
import Derived.Test.YtgpmdeembgohdaaPwRd
import Derived.Test.YtgpmdeembgohdaaPwLd
namespace Go.Proofs
open Go.PW

theorem touches_snoc {out : List Piece} {z y : Piece} : touches (out ++ [z]) y = ((y.lo == z.hi) && sameRow y.row z.row) := by
  unfold touches
  rw [List.getLast?_concat]
  show ((z.hi == y.lo) && sameRow z.row y.row) = _
  rw [Bool.eq_iff_iff]
  simp only [Bool.and_eq_true, beq_iff_eq, sameRow_iff]
  constructor
  · rintro ⟨h1, h2⟩; exact ⟨h1.symm, h2.symm⟩
  · rintro ⟨h1, h2⟩; exact ⟨h1.symm, h2.symm⟩

/-- The last piece of what was coalesced so far. -/
def zOf (ps : List Piece) (x : Piece) (m : Nat) : Piece := ((co (ps.take m)).getLast?).getD x
theorem zOf_eq {ps out : List Piece} {x z : Piece} {m : Nat} (h : co (ps.take m) = out ++ [z]) : zOf ps x m = z := by
  unfold zOf
  rw [h, List.getLast?_concat]
  rfl

set_option maxRecDepth 4000 in
set_option maxHeartbeats 8000000 in
theorem Try.rCoalesce (ps : List Piece) (hn : ps.length ≤ 1048576) (hr : ∀ p ∈ ps, p.row.length ≤ 1048576) (hok : rowsOK ps) : PureOK Try.prog 24 [pD (encPieces ps)] (.one (.d (encPieces (coalesce ps)))) := by
  refine Try.pure (md := []) Try.func24 rfl Try.call24 (by kernel_rfl) (by rfl) (by exact Nat.le_of_ble_eq_true rfl) ?_
  repeat' (first
    | with_reducible refine VC_seq fun K hK => ?_
    | with_reducible refine W_region ?_
    | with_reducible refine VC_block ?_
    | with_reducible refine VC_scope ?_
    | with_reducible refine VC_if ?_
    | with_reducible refine VC_skip ?_
    | with_reducible refine VC_exit ?_
    | with_reducible refine VC_ret ?_
    | (with_reducible refine G_not (fun h => ?_) (fun h => ?_) <;> (try simp only [h]))
    | (with_reducible refine G_cases (fun h => ?_) (fun h => ?_) <;> (try simp only [h]))
    | refine C_pure (Try.rRight ps hn hr hok) rfl rfl (fun _ => rfl) ?_
    | (with_reducible refine hK _ ?_; clear hK K)
    | (clear hK K; with_reducible refine hK _ ?_; clear hK K)
    | (clear hK K; clear hK K; with_reducible refine hK _ ?_; clear hK K)
    | (clear hK K; clear hK K; clear hK K; with_reducible refine hK _ ?_; clear hK K)
    | (with_reducible refine todo ?_; simp +decide only [go_sem]))
  · have hR : coalesce ps = co ps := by unfold coalesce; rw [h]; rfl
    rw [hR] at hK ⊢
    refine VC_range ps.length (fun i => ∀ p, ps[i]? = some p → touches (co (ps.take i)) p = false) (fun i => frame [(0, pD (encPieces ps)), (4, pD (.lit (.int .i64 i))), (3, .c (.own (62, 0) ((co (ps.take i)).map Piece.enc)))] [] [((62, 0), .co 3 (co (ps.take i)).length)]) (fun _ _ => rfl) ?_ ?_
    · refine Weak_frame ?_ ?_ ?_ <;> simp +decide only [go_sem, co, List.foldl_nil]
      exact wkP_new rfl rfl
    · intro i hi hI
      rcases Nat.lt_or_ge i ps.length with hlt | hge
      · have hg := List.getElem?_eq_getElem hlt
        have hd := int_lt_true hlt
        generalize ps[i] = x at hg
        have hl : (co (ps.take i)).length ≤ i := Nat.le_trans (co_length _) (by rw [List.length_take]; omega)
        have h0 : co (ps.take (i + 1)) = co (ps.take i) ++ [x] := by
          rw [co_next hg]; unfold coStep; rw [hI x hg]; rfl
        repeat' (first
          | with_reducible refine VC_seq fun K hK => ?_
          | with_reducible refine W_region ?_
          | with_reducible refine VC_block ?_
          | with_reducible refine VC_scope ?_
          | with_reducible refine VC_if ?_
          | with_reducible refine VC_skip ?_
          | with_reducible refine VC_exit ?_
          | with_reducible refine VC_ret ?_
          | (with_reducible refine G_not (fun h => ?_) (fun h => ?_) <;> (try simp only [h]))
          | (with_reducible refine G_cases (fun h => ?_) (fun h => ?_) <;> (try simp only [h]))
          | (with_reducible refine hK _ ?_; clear hK K)
          | (clear hK K; with_reducible refine hK _ ?_; clear hK K)
          | (clear hK K; clear hK K; with_reducible refine hK _ ?_; clear hK K)
          | (clear hK K; clear hK K; clear hK K; with_reducible refine hK _ ?_; clear hK K)
          | (with_reducible refine todo ?_; simp +decide only [go_sem, hg, hd]))
        generalize hout : co (ps.take i) = out at hl h0 ⊢
        have hz0 : zOf ps x (i + 1) = x := zOf_eq h0
        refine VC_range (ps.length - 1 - i) (fun k => co (ps.take (i + k + 1)) = out ++ [zOf ps x (i + k + 1)]) (fun k => frame [(0, pD (encPieces ps)), (4, pD (.lit (.int .i64 ((i + k : Nat) : Int)))), (3, .c (.own (62, 0) (out.map Piece.enc))), (5, .c (.ptr 5 0))]
          [(5, [.d (.lit (.int .i64 (zOf ps x (i + k + 1)).lo)), .d (.lit (.int .i64 (zOf ps x (i + k + 1)).hi)), .d (encRow (zOf ps x (i + k + 1)).row)])] [((62, 0), .co 3 out.length)]) (by rw [Nat.add_zero, hz0]; exact h0) ?_ ?_
        · rw [Nat.add_zero, hz0]
          refine Weak_frame ?_ ?_ ?_ <;> simp +decide only [go_sem]
          exact ⟨wkP_own (by simp [aOf]) rfl, wkP_ptr (by simp [hOf])⟩
        · intro k hk hJ
          have hw := int_next (show i + k < ps.length by omega) (show ps.length ≤ 4294967296 by omega)
          have hrz : (zOf ps x (i + k + 1)).row.length ≤ 1048576 := by
            have hm : zOf ps x (i + k + 1) ∈ co (ps.take (i + k + 1)) := by rw [hJ]; simp
            exact co_rows (fun p hp => hr p (List.mem_of_mem_take hp)) _ hm
          have hnx2 : ∀ z', co (ps.take (i + k + 2)) = out ++ [z'] → zOf ps x (i + k + 2) = z' := fun z' h => zOf_eq h
          generalize zOf ps x (i + k + 1) = z at *
          have hfin : (∀ p, ps[i + k + 1]? = some p → touches (out ++ [z]) p = false) → ∀ p, ps[i + k + 1]? = some p → touches (co (ps.take (i + k + 1))) p = false := fun h => by rw [hJ]; exact h
          rcases Nat.lt_or_ge (i + k + 1) ps.length with hlt' | hge'
          · have hg' := List.getElem?_eq_getElem hlt'
            have hd' : (((i + k + 1 : Nat) : Int) < (ps.length : Int)) = True := eq_true (by omega)
            generalize ps[i + k + 1] = y at hg'
            have hw2 := int_next hlt' (show ps.length ≤ 4294967296 by omega)
            have hy := hr y (List.mem_of_getElem? hg')
            have hto := touches_snoc (out := out) (z := z) (y := y)
            have kr := Try.kRows y.row z.row (by omega)
            cases e1 : (y.lo == z.hi) with
            | false =>
              rw [e1] at hto
              repeat' (first
                | with_reducible refine VC_seq fun K hK => ?_
                | with_reducible refine W_region ?_
                | with_reducible refine VC_block ?_
                | with_reducible refine VC_scope ?_
                | with_reducible refine VC_if ?_
                | with_reducible refine VC_skip ?_
                | with_reducible refine VC_exit ?_
                | with_reducible refine VC_ret ?_
                | (with_reducible refine G_not (fun h => ?_) (fun h => ?_) <;> (try simp only [h]))
                | (with_reducible refine G_cases (fun h => ?_) (fun h => ?_) <;> (try simp only [h]))
                | (refine W_own Try.appRef rfl (szPieces _) (szOne rfl) (by simp; omega) (by simp; rfl) ?_)
                | (with_reducible refine hK _ ?_; clear hK K)
                | (clear hK K; with_reducible refine hK _ ?_; clear hK K)
                | (clear hK K; clear hK K; with_reducible refine hK _ ?_; clear hK K)
                | (clear hK K; clear hK K; clear hK K; with_reducible refine hK _ ?_; clear hK K)
                | (with_reducible refine todo ?_; simp +decide only [go_sem, hg', hd', hw, e1]))
              refine ⟨⟨i + k + 1, by omega, hfin (fun p hp => by rw [hg'] at hp; cases hp; exact hto)⟩, Weak_frame ?_ ?_ ?_, by show ps.length - (i + k + 1) < ps.length - i; omega⟩ <;> simp +decide only [go_sem, hJ]
              exact wkP_own (by simp [aOf]) rfl
            | true =>
              rw [e1] at hto
              cases e2 : sameRow y.row z.row with
              | false =>
                rw [e2] at hto kr
                repeat' (first
                  | with_reducible refine VC_seq fun K hK => ?_
                  | with_reducible refine W_region ?_
                  | with_reducible refine VC_block ?_
                  | with_reducible refine VC_scope ?_
                  | with_reducible refine VC_if ?_
                  | with_reducible refine VC_skip ?_
                  | with_reducible refine VC_exit ?_
                  | with_reducible refine VC_ret ?_
                  | (with_reducible refine G_not (fun h => ?_) (fun h => ?_) <;> (try simp only [h]))
                  | (with_reducible refine G_cases (fun h => ?_) (fun h => ?_) <;> (try simp only [h]))
                  | refine C_pure kr rfl rfl (fun _ => rfl) ?_
                  | (refine W_own Try.appRef rfl (szPieces _) (szOne rfl) (by simp; omega) (by simp; rfl) ?_)
                  | (with_reducible refine hK _ ?_; clear hK K)
                  | (clear hK K; with_reducible refine hK _ ?_; clear hK K)
                  | (clear hK K; clear hK K; with_reducible refine hK _ ?_; clear hK K)
                  | (clear hK K; clear hK K; clear hK K; with_reducible refine hK _ ?_; clear hK K)
                  | (with_reducible refine todo ?_; simp +decide only [go_sem, hg', hd', hw, e1]))
                refine ⟨⟨i + k + 1, by omega, hfin (fun p hp => by rw [hg'] at hp; cases hp; exact hto)⟩, Weak_frame ?_ ?_ ?_, by show ps.length - (i + k + 1) < ps.length - i; omega⟩ <;> simp +decide only [go_sem, hJ]
                exact wkP_own (by simp [aOf]) rfl
              | true =>
                rw [e2] at hto kr
                have hstep : co (ps.take (i + k + 2)) = out ++ [{ z with hi := y.hi }] := by
                  have := co_next hg'
                  rw [show i + k + 1 + 1 = i + k + 2 by omega] at this
                  rw [this, hJ]
                  unfold coStep
                  rw [hto]
                  exact setHi_last
                have hz2 := hnx2 _ hstep
                repeat' (first
                  | with_reducible refine VC_seq fun K hK => ?_
                  | with_reducible refine W_region ?_
                  | with_reducible refine VC_block ?_
                  | with_reducible refine VC_scope ?_
                  | with_reducible refine VC_if ?_
                  | with_reducible refine VC_skip ?_
                  | with_reducible refine VC_exit ?_
                  | with_reducible refine VC_ret ?_
                  | (with_reducible refine G_not (fun h => ?_) (fun h => ?_) <;> (try simp only [h]))
                  | (with_reducible refine G_cases (fun h => ?_) (fun h => ?_) <;> (try simp only [h]))
                  | refine C_pure kr rfl rfl (fun _ => rfl) ?_
                  | (with_reducible refine hK _ ?_; clear hK K)
                  | (clear hK K; with_reducible refine hK _ ?_; clear hK K)
                  | (clear hK K; clear hK K; with_reducible refine hK _ ?_; clear hK K)
                  | (clear hK K; clear hK K; clear hK K; with_reducible refine hK _ ?_; clear hK K)
                  | (with_reducible refine todo ?_; simp +decide only [go_sem, hg', hd', hw, e1]))
                have hadd : i + (k + 1) = i + k + 1 := by omega
                have hz3 : zOf ps x (i + k + 1 + 1) = { z with hi := y.hi } := hz2
                refine ⟨⟨k + 1, by omega, by show co (ps.take (i + (k + 1) + 1)) = out ++ [zOf ps x (i + (k + 1) + 1)]; rw [hadd, hz3]; exact hstep⟩, Weak_frame ?_ ?_ ?_, by show ps.length - 1 - i - (k + 1) < ps.length - 1 - i - k; omega⟩ <;> simp +decide only [go_sem, hadd, hz3]
                exact ⟨wkP_own (by simp [aOf]) rfl, wkP_ptr (by simp [hOf])⟩
          · have hd' : (((i + k + 1 : Nat) : Int) < (ps.length : Int)) = False := eq_false (by omega)
            repeat' (first
              | with_reducible refine VC_seq fun K hK => ?_
              | with_reducible refine W_region ?_
              | with_reducible refine VC_block ?_
              | with_reducible refine VC_scope ?_
              | with_reducible refine VC_if ?_
              | with_reducible refine VC_skip ?_
              | with_reducible refine VC_exit ?_
              | with_reducible refine VC_ret ?_
              | (with_reducible refine G_not (fun h => ?_) (fun h => ?_) <;> (try simp only [h]))
              | (with_reducible refine G_cases (fun h => ?_) (fun h => ?_) <;> (try simp only [h]))
              | (refine W_own Try.appRef rfl (szPieces _) (szOne rfl) (by simp; omega) (by simp; rfl) ?_)
              | (with_reducible refine hK _ ?_; clear hK K)
              | (clear hK K; with_reducible refine hK _ ?_; clear hK K)
              | (clear hK K; clear hK K; with_reducible refine hK _ ?_; clear hK K)
              | (clear hK K; clear hK K; clear hK K; with_reducible refine hK _ ?_; clear hK K)
              | (with_reducible refine todo ?_; simp +decide only [go_sem, hd', hw]))
            refine ⟨⟨i + k + 1, by omega, fun p hp => by rw [List.getElem?_eq_none hge'] at hp; cases hp⟩, Weak_frame ?_ ?_ ?_, by show ps.length - (i + k + 1) < ps.length - i; omega⟩ <;> simp +decide only [go_sem, hJ]
            exact wkP_own (by simp [aOf]) rfl
      · have hd := int_lt_false hge
        rw [List.take_of_length_le hge]
        repeat' (first
          | with_reducible refine VC_seq fun K hK => ?_
          | with_reducible refine W_region ?_
          | with_reducible refine VC_block ?_
          | with_reducible refine VC_scope ?_
          | with_reducible refine VC_if ?_
          | with_reducible refine VC_skip ?_
          | with_reducible refine VC_exit ?_
          | with_reducible refine VC_ret ?_
          | (with_reducible refine G_not (fun h => ?_) (fun h => ?_) <;> (try simp only [h]))
          | (with_reducible refine G_cases (fun h => ?_) (fun h => ?_) <;> (try simp only [h]))
          | (with_reducible refine hK _ ?_; clear hK K)
          | (clear hK K; with_reducible refine hK _ ?_; clear hK K)
          | (clear hK K; clear hK K; with_reducible refine hK _ ?_; clear hK K)
          | (clear hK K; clear hK K; clear hK K; with_reducible refine hK _ ?_; clear hK K)
          | (with_reducible refine todo ?_; simp +decide only [go_sem, hd]))
        refine Ret_d rfl ?_
        simp +decide only [go_sem]
  · have hR : coalesce ps = ps := by unfold coalesce; rw [h]; rfl
    rw [hR]
    exact Ret_d rfl rfl
end Go.Proofs
