import Derived.Test.YtcdiifnnnnnceaaQ12

/-
  Rows.
-/


namespace Go.Proofs
open Go.PW

def rowRight (r : Row) : Bool := r.all Val.right

theorem all_take {α : Type} {f : α → Bool} {l : List α} {i : Nat} {x : α} (h : (l.take i).all f = true) (hx : l[i]? = some x) (hf : f x = true) : (l.take (i + 1)).all f = true := by
  rw [List.take_add_one, hx, List.all_append, h]
  simp [hf]
theorem all_not {α : Type} {f : α → Bool} {l : List α} {i : Nat} {x : α} (hx : l[i]? = some x) (hf : f x = false) : l.all f = false := by
  rw [List.all_eq_false]
  exact ⟨x, List.mem_of_getElem? hx, by simp [hf]⟩

set_option maxRecDepth 8000 in
set_option maxHeartbeats 400000 in
theorem Try.kRow (r : Row) (hr : r.length ≤ 4294967296) : PureOK Try.prog 69 [pD (encRow r)] (.one (dB (rowRight r))) := by
  refine Try.pure (md := []) Try.func69 rfl Try.call69 (by kernel_rfl) (by rfl) (by exact Nat.le_of_ble_eq_true rfl) ?_
  repeat' (first
    | with_reducible refine VC_seq fun K hK => ?_
    | with_reducible refine W_region ?_
    | with_reducible refine VC_block ?_
    | with_reducible refine VC_scope ?_
    | with_reducible refine VC_if ?_
    | with_reducible refine VC_skip ?_
    | with_reducible refine VC_exit ?_
    | with_reducible refine VC_ret ?_
    | (with_reducible refine G_not (fun h => ?_) (fun h => ?_) <;> (try simp only [h]))
    | (with_reducible refine G_cases (fun h => ?_) (fun h => ?_) <;> (try simp only [h]))
    | (with_reducible refine hK _ ?_; clear hK K)
    | (clear hK K; with_reducible refine hK _ ?_; clear hK K)
    | (clear hK K; clear hK K; with_reducible refine hK _ ?_; clear hK K)
    | (clear hK K; clear hK K; clear hK K; with_reducible refine hK _ ?_; clear hK K)
    | (with_reducible refine todo ?_; simp +decide only [go_sem]))
  refine VC_range r.length (fun i => rowRight (r.take i) = true) (fun i => frame [(5, pD (encRow r)), (6, pD (.lit (.int .i64 r.length))), (7, pD (.lit (.int .i64 i)))] [] []) rfl ?_ ?_
  · exact Weak_frame (by simp +decide only [go_sem]) True.intro True.intro
  · intro i hi hI
    rcases Nat.lt_or_ge i r.length with hlt | hge
    · have hg := List.getElem?_eq_getElem hlt
      have hd := int_lt_true hlt
      have hw := int_next hlt hr
      generalize r[i] = v at hg
      repeat' (first
        | with_reducible refine VC_seq fun K hK => ?_
        | with_reducible refine W_region ?_
        | with_reducible refine VC_block ?_
        | with_reducible refine VC_scope ?_
        | with_reducible refine VC_if ?_
        | with_reducible refine VC_skip ?_
        | with_reducible refine VC_exit ?_
        | with_reducible refine VC_ret ?_
        | (with_reducible refine G_not (fun h => ?_) (fun h => ?_) <;> (try simp only [h]))
        | (with_reducible refine G_cases (fun h => ?_) (fun h => ?_) <;> (try simp only [h]))
        | refine C_pure (Try.kValue v) rfl rfl (fun _ => rfl) ?_
        | (with_reducible refine hK _ ?_; clear hK K)
        | (clear hK K; with_reducible refine hK _ ?_; clear hK K)
        | (clear hK K; clear hK K; with_reducible refine hK _ ?_; clear hK K)
        | (clear hK K; clear hK K; clear hK K; with_reducible refine hK _ ?_; clear hK K)
        | (with_reducible refine todo ?_; simp +decide only [go_sem, hg, hd, hw]))
      · refine Next_of hlt (all_take hI hg h) (Weak_frame ?_ ?_ ?_) <;> simp +decide only [go_sem]
      · refine Ret_d rfl ?_
        simp +decide only [go_sem, all_not hg h, rowRight]
    · have hd := int_lt_false hge
      rw [List.take_of_length_le hge] at hI
      repeat' (first
        | with_reducible refine VC_seq fun K hK => ?_
        | with_reducible refine W_region ?_
        | with_reducible refine VC_block ?_
        | with_reducible refine VC_scope ?_
        | with_reducible refine VC_if ?_
        | with_reducible refine VC_skip ?_
        | with_reducible refine VC_exit ?_
        | with_reducible refine VC_ret ?_
        | (with_reducible refine G_not (fun h => ?_) (fun h => ?_) <;> (try simp only [h]))
        | (with_reducible refine G_cases (fun h => ?_) (fun h => ?_) <;> (try simp only [h]))
        | (with_reducible refine hK _ ?_; clear hK K)
        | (clear hK K; with_reducible refine hK _ ?_; clear hK K)
        | (clear hK K; clear hK K; with_reducible refine hK _ ?_; clear hK K)
        | (clear hK K; clear hK K; clear hK K; with_reducible refine hK _ ?_; clear hK K)
        | (with_reducible refine todo ?_; simp +decide only [go_sem, hd]))
      refine Ret_d rfl ?_
      simp +decide only [go_sem, hI]

/-- Two values, cell by cell. -/
def sameRow (a b : Row) : Bool := a.length == b.length && (List.zipWith Val.same a b).all id

theorem same_take {a b : Row} {i : Nat} {x y : Val} (h : (List.zipWith Val.same (a.take i) (b.take i)).all id = true) (hx : a[i]? = some x) (hy : b[i]? = some y) (hf : Val.same x y = true) : (List.zipWith Val.same (a.take (i + 1)) (b.take (i + 1))).all id = true := by
  rw [← List.take_zipWith] at h ⊢
  refine all_take (x := true) h ?_ rfl
  rw [List.getElem?_zipWith, hx, hy]
  simp [hf]
theorem same_not {a b : Row} {i : Nat} {x y : Val} (hx : a[i]? = some x) (hy : b[i]? = some y) (hf : Val.same x y = false) : (List.zipWith Val.same a b).all id = false := by
  refine all_not (i := i) (x := false) ?_ rfl
  rw [List.getElem?_zipWith, hx, hy]
  simp [hf]

set_option maxRecDepth 8000 in
set_option maxHeartbeats 1000000 in
theorem Try.kSame (a b : Row) (hr : a.length ≤ 4294967296) : PureOK Try.prog 68 [pD (encRow a), pD (encRow b)] (.one (dB (sameRow a b))) := by
  refine Try.pure (md := []) Try.func68 rfl Try.call68 (by kernel_rfl) (by rfl) (by exact Nat.le_of_ble_eq_true rfl) ?_
  repeat' (first
    | with_reducible refine VC_seq fun K hK => ?_
    | with_reducible refine W_region ?_
    | with_reducible refine VC_block ?_
    | with_reducible refine VC_scope ?_
    | with_reducible refine VC_if ?_
    | with_reducible refine VC_skip ?_
    | with_reducible refine VC_exit ?_
    | with_reducible refine VC_ret ?_
    | (with_reducible refine G_not (fun h => ?_) (fun h => ?_) <;> (try simp only [h]))
    | (with_reducible refine G_cases (fun h => ?_) (fun h => ?_) <;> (try simp only [h]))
    | (with_reducible refine hK _ ?_; clear hK K)
    | (clear hK K; with_reducible refine hK _ ?_; clear hK K)
    | (clear hK K; clear hK K; with_reducible refine hK _ ?_; clear hK K)
    | (clear hK K; clear hK K; clear hK K; with_reducible refine hK _ ?_; clear hK K)
    | (with_reducible refine todo ?_; simp +decide only [go_sem]))
  · refine Ret_d rfl ?_
    have hne : (a.length == b.length) = false := by
      rw [beq_eq_false_iff_ne]; intro e; rw [e] at h; simp at h
    simp +decide only [go_sem, sameRow, hne]
  · have hlen : a.length = b.length := by
      have e : ((a.length : Int) == (b.length : Int)) = true := by simpa [bne] using h
      exact Int.ofNat_inj.1 (by simpa using e)
    refine VC_range a.length (fun i => (List.zipWith Val.same (a.take i) (b.take i)).all id = true) (fun i => frame [(0, pD (encRow a)), (1, pD (encRow b)), (12, pD (.lit (.int .i64 a.length))), (13, pD (.lit (.int .i64 i)))] [] []) rfl ?_ ?_
    · refine Weak_frame ?_ ?_ ?_ <;> simp +decide only [go_sem]
    · intro i hi hI
      rcases Nat.lt_or_ge i a.length with hlt | hge
      · have hg := List.getElem?_eq_getElem hlt
        have hg' := List.getElem?_eq_getElem (show i < b.length by omega)
        have hd := int_lt_true hlt
        have hw := int_next hlt hr
        generalize a[i] = x at hg
        generalize b[i] = y at hg'
        repeat' (first
          | with_reducible refine VC_seq fun K hK => ?_
          | with_reducible refine W_region ?_
          | with_reducible refine VC_block ?_
          | with_reducible refine VC_scope ?_
          | with_reducible refine VC_if ?_
          | with_reducible refine VC_skip ?_
          | with_reducible refine VC_exit ?_
          | with_reducible refine VC_ret ?_
          | (with_reducible refine G_not (fun h => ?_) (fun h => ?_) <;> (try simp only [h]))
          | (with_reducible refine G_cases (fun h => ?_) (fun h => ?_) <;> (try simp only [h]))
          | (with_reducible refine hK _ ?_; clear hK K)
          | (clear hK K; with_reducible refine hK _ ?_; clear hK K)
          | (clear hK K; clear hK K; with_reducible refine hK _ ?_; clear hK K)
          | (clear hK K; clear hK K; clear hK K; with_reducible refine hK _ ?_; clear hK K)
          | (with_reducible refine todo ?_; simp +decide only [go_sem, hg, hg', hd, hw]))
        · refine Next_of hlt (same_take hI hg hg' h) (Weak_frame ?_ ?_ ?_) <;> simp +decide only [go_sem]
        · refine Ret_d rfl ?_
          simp +decide only [go_sem, sameRow, same_not hg hg' h]
      · have hd := int_lt_false hge
        rw [List.take_of_length_le hge, List.take_of_length_le (show b.length ≤ i by omega)] at hI
        repeat' (first
          | with_reducible refine VC_seq fun K hK => ?_
          | with_reducible refine W_region ?_
          | with_reducible refine VC_block ?_
          | with_reducible refine VC_scope ?_
          | with_reducible refine VC_if ?_
          | with_reducible refine VC_skip ?_
          | with_reducible refine VC_exit ?_
          | with_reducible refine VC_ret ?_
          | (with_reducible refine G_not (fun h => ?_) (fun h => ?_) <;> (try simp only [h]))
          | (with_reducible refine G_cases (fun h => ?_) (fun h => ?_) <;> (try simp only [h]))
          | (with_reducible refine hK _ ?_; clear hK K)
          | (clear hK K; with_reducible refine hK _ ?_; clear hK K)
          | (clear hK K; clear hK K; with_reducible refine hK _ ?_; clear hK K)
          | (clear hK K; clear hK K; clear hK K; with_reducible refine hK _ ?_; clear hK K)
          | (with_reducible refine todo ?_; simp +decide only [go_sem, hd]))
        refine Ret_d rfl ?_
        simp +decide only [go_sem, sameRow, hI, hlen]
end Go.Proofs

/-
  Pieces: own.
-/

namespace Go.Proofs
open Go.PW

set_option maxRecDepth 8000 in
set_option maxHeartbeats 1000000 in
theorem Try.kOwn (ps : List Piece) (hn : ps.length ≤ 1048576) (hr : ∀ p ∈ ps, p.row.length ≤ 1048576) : PureOK Try.prog 66 [pD (encPieces ps)] (.one (.own 3 (ps.map Piece.enc))) := by
  refine Try.pure (md := []) Try.func66 rfl Try.call66 (by kernel_rfl) (by rfl) (by exact Nat.le_of_ble_eq_true rfl) ?_
  repeat' (first
    | with_reducible refine VC_seq fun K hK => ?_
    | with_reducible refine W_region ?_
    | with_reducible refine VC_block ?_
    | with_reducible refine VC_scope ?_
    | with_reducible refine VC_if ?_
    | with_reducible refine VC_skip ?_
    | with_reducible refine VC_exit ?_
    | with_reducible refine VC_ret ?_
    | (with_reducible refine G_not (fun h => ?_) (fun h => ?_) <;> (try simp only [h]))
    | (with_reducible refine G_cases (fun h => ?_) (fun h => ?_) <;> (try simp only [h]))
    | (with_reducible refine hK _ ?_; clear hK K)
    | (clear hK K; with_reducible refine hK _ ?_; clear hK K)
    | (clear hK K; clear hK K; with_reducible refine hK _ ?_; clear hK K)
    | (clear hK K; clear hK K; clear hK K; with_reducible refine hK _ ?_; clear hK K)
    | (with_reducible refine todo ?_; simp +decide only [go_sem]))
  refine VC_range ps.length (fun _ => True) (fun i => frame [(6, pD (encPieces ps)), (7, pD (.lit (.int .i64 ps.length))), (8, pD (.lit (.int .i64 i))), (3, .c (.own (3, 0) ((ps.take i).map Piece.enc)))] [] [((3, 0), .co 3 (ps.take i).length)]) True.intro ?_ ?_
  · refine Weak_frame ?_ ?_ ?_ <;> simp +decide only [go_sem]
    exact wkP_new rfl rfl
  · intro i hi hI
    rcases Nat.lt_or_ge i ps.length with hlt | hge
    · have hg := List.getElem?_eq_getElem hlt
      have hd := int_lt_true hlt
      have hw := int_next hlt (show ps.length ≤ 4294967296 by omega)
      generalize ps[i] = x at hg
      have hx := hr x (List.mem_of_getElem? hg)
      have htk := take_next hg
      have hl : (ps.take i).length = i := by rw [List.length_take]; omega
      repeat' (first
        | with_reducible refine VC_seq fun K hK => ?_
        | with_reducible refine W_region ?_
        | with_reducible refine VC_block ?_
        | with_reducible refine VC_scope ?_
        | with_reducible refine VC_if ?_
        | with_reducible refine VC_skip ?_
        | with_reducible refine VC_exit ?_
        | with_reducible refine VC_ret ?_
        | (with_reducible refine G_not (fun h => ?_) (fun h => ?_) <;> (try simp only [h]))
        | (with_reducible refine G_cases (fun h => ?_) (fun h => ?_) <;> (try simp only [h]))
        | (refine W_full Try.appVals rfl rfl szNil (szRow _) (by simp; omega) rfl ?_)
        | (refine W_own Try.appPieces rfl (szPieces _) (szOne rfl) (by simp; omega) (by simp; rfl) ?_)
        | (with_reducible refine hK _ ?_; clear hK K)
        | (clear hK K; with_reducible refine hK _ ?_; clear hK K)
        | (clear hK K; clear hK K; with_reducible refine hK _ ?_; clear hK K)
        | (clear hK K; clear hK K; clear hK K; with_reducible refine hK _ ?_; clear hK K)
        | (with_reducible refine todo ?_; simp +decide only [go_sem, hg, hd, hw]))
      refine Next_of hlt True.intro (Weak_frame ?_ ?_ ?_) <;> simp +decide only [go_sem, htk]
      exact wkP_own (by simp [aOf]) rfl
    · have hd := int_lt_false hge
      rw [List.take_of_length_le hge]
      repeat' (first
        | with_reducible refine VC_seq fun K hK => ?_
        | with_reducible refine W_region ?_
        | with_reducible refine VC_block ?_
        | with_reducible refine VC_scope ?_
        | with_reducible refine VC_if ?_
        | with_reducible refine VC_skip ?_
        | with_reducible refine VC_exit ?_
        | with_reducible refine VC_ret ?_
        | (with_reducible refine G_not (fun h => ?_) (fun h => ?_) <;> (try simp only [h]))
        | (with_reducible refine G_cases (fun h => ?_) (fun h => ?_) <;> (try simp only [h]))
        | (with_reducible refine hK _ ?_; clear hK K)
        | (clear hK K; with_reducible refine hK _ ?_; clear hK K)
        | (clear hK K; clear hK K; with_reducible refine hK _ ?_; clear hK K)
        | (clear hK K; clear hK K; clear hK K; with_reducible refine hK _ ?_; clear hK K)
        | (with_reducible refine todo ?_; simp +decide only [go_sem, hd]))
      exact Ret_own (3, 0) rfl rfl (by simp; rfl)
end Go.Proofs

/-
  Pieces: Right, At.
-/

namespace Go.Proofs
open Go.PW

def pieceRight (e : Int) (p : Piece) : Bool := Span.right p.lo p.hi && rowRight p.row && !decide (p.lo < e)
def rightFrom : Int → List Piece → Bool
  | _, [] => true
  | e, p :: r => pieceRight e p && rightFrom p.hi r
def lastEnd : Int → List Piece → Int
  | e, [] => e
  | _, p :: r => lastEnd p.hi r
def right (ps : List Piece) : Bool := rightFrom 0 ps

theorem rightFrom_append (l m : List Piece) : ∀ e : Int, rightFrom e (l ++ m) = (rightFrom e l && rightFrom (lastEnd e l) m) := by
  induction l with
  | nil => intro e; rfl
  | cons p r ih => intro e; simp only [List.cons_append, rightFrom, lastEnd, ih, Bool.and_assoc]
theorem lastEnd_append (l m : List Piece) : ∀ e : Int, lastEnd e (l ++ m) = lastEnd (lastEnd e l) m := by
  induction l with
  | nil => intro e; rfl
  | cons p r ih => intro e; simp only [List.cons_append, lastEnd, ih]
theorem split_at {α : Type} {l : List α} {i : Nat} {x : α} (h : l[i]? = some x) : l = l.take i ++ x :: l.drop (i + 1) := by
  obtain ⟨hi, rfl⟩ := List.getElem?_eq_some_iff.1 h
  rw [List.getElem_cons_drop hi, List.take_append_drop]
theorem right_not {ps : List Piece} {i : Nat} {x : Piece} (h : ps[i]? = some x) (hf : pieceRight (lastEnd 0 (ps.take i)) x = false) : right ps = false := by
  rw [right, split_at h, rightFrom_append, rightFrom, hf]
  simp
theorem right_next {ps : List Piece} {i : Nat} {x : Piece} (h : ps[i]? = some x) (hI : right (ps.take i) = true) (hf : pieceRight (lastEnd 0 (ps.take i)) x = true) : right (ps.take (i + 1)) = true := by
  unfold right at hI ⊢
  rw [take_next h, rightFrom_append, hI, rightFrom, hf]
  rfl
theorem lastEnd_next {ps : List Piece} {i : Nat} {x : Piece} (h : ps[i]? = some x) : lastEnd 0 (ps.take (i + 1)) = x.hi := by
  rw [take_next h, lastEnd_append]
  rfl

set_option maxRecDepth 8000 in
set_option maxHeartbeats 1000000 in
theorem Try.kRight (ps : List Piece) (hn : ps.length ≤ 1048576) (hr : ∀ p ∈ ps, p.row.length ≤ 1048576) : PureOK Try.prog 39 [pD (encPieces ps)] (.one (dB (right ps))) := by
  refine Try.pure (md := []) Try.func39 rfl Try.call39 (by kernel_rfl) (by rfl) (by exact Nat.le_of_ble_eq_true rfl) ?_
  repeat' (first
    | with_reducible refine VC_seq fun K hK => ?_
    | with_reducible refine W_region ?_
    | with_reducible refine VC_block ?_
    | with_reducible refine VC_scope ?_
    | with_reducible refine VC_if ?_
    | with_reducible refine VC_skip ?_
    | with_reducible refine VC_exit ?_
    | with_reducible refine VC_ret ?_
    | (with_reducible refine G_not (fun h => ?_) (fun h => ?_) <;> (try simp only [h]))
    | (with_reducible refine G_cases (fun h => ?_) (fun h => ?_) <;> (try simp only [h]))
    | (with_reducible refine hK _ ?_; clear hK K)
    | (clear hK K; with_reducible refine hK _ ?_; clear hK K)
    | (clear hK K; clear hK K; with_reducible refine hK _ ?_; clear hK K)
    | (clear hK K; clear hK K; clear hK K; with_reducible refine hK _ ?_; clear hK K)
    | (with_reducible refine todo ?_; simp +decide only [go_sem]))
  refine VC_range ps.length (fun i => right (ps.take i) = true) (fun i => frame [(6, pD (encPieces ps)), (7, pD (.lit (.int .i64 ps.length))), (8, pD (.lit (.int .i64 i))), (3, pD (.lit (.int .i64 (lastEnd 0 (ps.take i)))))] [] []) rfl ?_ ?_
  · refine Weak_frame ?_ ?_ ?_ <;> simp +decide only [go_sem, lastEnd]
  · intro i hi hI
    rcases Nat.lt_or_ge i ps.length with hlt | hge
    · have hg := List.getElem?_eq_getElem hlt
      have hd := int_lt_true hlt
      have hw := int_next hlt (show ps.length ≤ 4294967296 by omega)
      generalize ps[i] = x at hg
      have hx : x.row.length ≤ 4294967296 := Nat.le_trans (hr x (List.mem_of_getElem? hg)) (by decide)
      have hnx := lastEnd_next hg
      have hnt := right_not hg
      have hrn := right_next hg hI
      repeat' (first
        | with_reducible refine VC_seq fun K hK => ?_
        | with_reducible refine W_region ?_
        | with_reducible refine VC_block ?_
        | with_reducible refine VC_scope ?_
        | with_reducible refine VC_if ?_
        | with_reducible refine VC_skip ?_
        | with_reducible refine VC_exit ?_
        | with_reducible refine VC_ret ?_
        | (with_reducible refine G_not (fun h => ?_) (fun h => ?_) <;> (try simp only [h]))
        | (with_reducible refine G_cases (fun h => ?_) (fun h => ?_) <;> (try simp only [h]))
        | refine C_pure (Try.spanRight x.lo x.hi) rfl rfl (fun _ => rfl) ?_
        | refine C_pure (Try.kRow x.row hx) rfl rfl (fun _ => rfl) ?_
        | (with_reducible refine hK _ ?_; clear hK K)
        | (clear hK K; with_reducible refine hK _ ?_; clear hK K)
        | (clear hK K; clear hK K; with_reducible refine hK _ ?_; clear hK K)
        | (clear hK K; clear hK K; clear hK K; with_reducible refine hK _ ?_; clear hK K)
        | (with_reducible refine todo ?_; simp +decide only [go_sem, hg, hd, hw]))
      all_goals first
        | (have hp : pieceRight (lastEnd 0 (ps.take i)) x = true := by simp +decide only [go_sem, pieceRight, *]
           refine Next_of hlt (hrn hp) (Weak_frame ?_ ?_ ?_) <;> simp +decide only [go_sem, hnx])
        | (have hp : pieceRight (lastEnd 0 (ps.take i)) x = false := by simp +decide only [go_sem, pieceRight, *]
           refine Ret_d rfl ?_
           simp +decide only [go_sem, hnt hp])
    · have hd := int_lt_false hge
      rw [List.take_of_length_le hge] at hI
      repeat' (first
        | with_reducible refine VC_seq fun K hK => ?_
        | with_reducible refine W_region ?_
        | with_reducible refine VC_block ?_
        | with_reducible refine VC_scope ?_
        | with_reducible refine VC_if ?_
        | with_reducible refine VC_skip ?_
        | with_reducible refine VC_exit ?_
        | with_reducible refine VC_ret ?_
        | (with_reducible refine G_not (fun h => ?_) (fun h => ?_) <;> (try simp only [h]))
        | (with_reducible refine G_cases (fun h => ?_) (fun h => ?_) <;> (try simp only [h]))
        | (with_reducible refine hK _ ?_; clear hK K)
        | (clear hK K; with_reducible refine hK _ ?_; clear hK K)
        | (clear hK K; clear hK K; with_reducible refine hK _ ?_; clear hK K)
        | (clear hK K; clear hK K; clear hK K; with_reducible refine hK _ ?_; clear hK K)
        | (with_reducible refine todo ?_; simp +decide only [go_sem, hd]))
      refine Ret_d rfl ?_
      simp +decide only [go_sem, hI]

def at' (ps : List Piece) (t : Int) : Option Row := (ps.find? fun p => Span.has p.lo p.hi t).map (·.row)

/-- What is told of a time. -/
def at_ (ps : List Piece) (t : Int) : Option Row := if right ps then at' ps t else none

def optRow (r : Option Row) : RV :=
  match r with
  | some r => .tup [.own 4 (r.map Val.enc), dB true]
  | none => .tup [.own 4 [], dB false]

theorem at_next {ps : List Piece} {i : Nat} {x : Piece} {t : Int} (h : ps[i]? = some x) (hI : at' (ps.take i) t = none) (hf : Span.has x.lo x.hi t = false) : at' (ps.take (i + 1)) t = none := by
  unfold at' at hI ⊢
  rw [take_next h, List.find?_append]
  rw [Option.map_eq_none_iff] at hI
  simp [hI, hf]
theorem at_found {ps : List Piece} {i : Nat} {x : Piece} {t : Int} (h : ps[i]? = some x) (hI : at' (ps.take i) t = none) (hf : Span.has x.lo x.hi t = true) : at' ps t = some x.row := by
  unfold at' at hI ⊢
  rw [Option.map_eq_none_iff] at hI
  rw [split_at h, List.find?_append, hI]
  simp [hf]

end Go.Proofs

/-
  Spans: Meet, rights, Cut.
-/

namespace Go.Proofs
open Go.PW

abbrev Sp := Int × Int
def Sp.enc (s : Sp) : List D := encSpan s.1 s.2
def Sp.right (s : Sp) : Bool := Span.right s.1 s.2
def rights (l : List Sp) : List Sp := l.filter Sp.right
def iMax (a b : Int) : Int := if b > a then b else a
def iMin (a b : Int) : Int := if b < a then b else a
/-- What two spans have in common. -/
def meet (a b : Sp) : Option Sp := if Span.right a.1 a.2 && Span.right b.1 b.2 && Span.right (iMax a.1 b.1) (iMin a.2 b.2) then some (iMax a.1 b.1, iMin a.2 b.2) else none
def optSpan : Option Sp → RV
  | some s => .tup [.agg (Sp.enc s), dB true]
  | none => .tup [.agg (encSpan 0 0), dB false]

theorem szSpans (l : List Sp) : Szd 2 (l.map Sp.enc) := fun e he => by
  obtain ⟨p, _, rfl⟩ := List.mem_map.1 he
  rfl

set_option maxRecDepth 8000 in
set_option maxHeartbeats 1000000 in
theorem Try.kRights (l : List Sp) (hn : l.length ≤ 1048576) : PureOK Try.prog 80 [pD (.sl (l.map Sp.enc))] (.one (.own 2 ((rights l).map Sp.enc))) := by
  refine Try.pure (md := []) Try.func80 rfl Try.call80 (by kernel_rfl) (by rfl) (by exact Nat.le_of_ble_eq_true rfl) ?_
  repeat' (first
    | with_reducible refine VC_seq fun K hK => ?_
    | with_reducible refine W_region ?_
    | with_reducible refine VC_block ?_
    | with_reducible refine VC_scope ?_
    | with_reducible refine VC_if ?_
    | with_reducible refine VC_skip ?_
    | with_reducible refine VC_exit ?_
    | with_reducible refine VC_ret ?_
    | (with_reducible refine G_not (fun h => ?_) (fun h => ?_) <;> (try simp only [h]))
    | (with_reducible refine G_cases (fun h => ?_) (fun h => ?_) <;> (try simp only [h]))
    | (with_reducible refine hK _ ?_; clear hK K)
    | (clear hK K; with_reducible refine hK _ ?_; clear hK K)
    | (clear hK K; clear hK K; with_reducible refine hK _ ?_; clear hK K)
    | (clear hK K; clear hK K; clear hK K; with_reducible refine hK _ ?_; clear hK K)
    | (with_reducible refine todo ?_; simp +decide only [go_sem]))
  refine VC_range l.length (fun _ => True) (fun i => frame [(6, pD (.sl (l.map Sp.enc))), (7, pD (.lit (.int .i64 l.length))), (8, pD (.lit (.int .i64 i))), (3, .c (.own (3, 0) ((rights (l.take i)).map Sp.enc)))] [] [((3, 0), .co 2 (rights (l.take i)).length)]) True.intro ?_ ?_
  · refine Weak_frame ?_ ?_ ?_ <;> simp +decide only [go_sem, rights, List.filter_nil]
    exact wkP_new rfl rfl
  · intro i hi hI
    rcases Nat.lt_or_ge i l.length with hlt | hge
    · have hg := List.getElem?_eq_getElem hlt
      have hd := int_lt_true hlt
      have hw := int_next hlt (show l.length ≤ 4294967296 by omega)
      generalize l[i] = x at hg
      have hx : x.enc = encSpan x.1 x.2 := rfl
      have htk := take_next hg
      have hl : (rights (l.take i)).length ≤ i := Nat.le_trans (List.length_filter_le _ _) (by rw [List.length_take]; omega)
      repeat' (first
        | with_reducible refine VC_seq fun K hK => ?_
        | with_reducible refine W_region ?_
        | with_reducible refine VC_block ?_
        | with_reducible refine VC_scope ?_
        | with_reducible refine VC_if ?_
        | with_reducible refine VC_skip ?_
        | with_reducible refine VC_exit ?_
        | with_reducible refine VC_ret ?_
        | (with_reducible refine G_not (fun h => ?_) (fun h => ?_) <;> (try simp only [h]))
        | (with_reducible refine G_cases (fun h => ?_) (fun h => ?_) <;> (try simp only [h]))
        | refine C_pure (Try.spanRight x.1 x.2) rfl rfl (fun _ => rfl) ?_
        | (refine W_own Try.appSpans rfl (szSpans _) (szOne rfl) (by simp; omega) (by simp; rfl) ?_)
        | (with_reducible refine hK _ ?_; clear hK K)
        | (clear hK K; with_reducible refine hK _ ?_; clear hK K)
        | (clear hK K; clear hK K; with_reducible refine hK _ ?_; clear hK K)
        | (clear hK K; clear hK K; clear hK K; with_reducible refine hK _ ?_; clear hK K)
        | (with_reducible refine todo ?_; simp +decide only [go_sem, hg, hd, hw, hx]))
      · have hrt : rights (l.take (i + 1)) = rights (l.take i) ++ [x] := by
          rw [htk, rights, List.filter_append]
          simp [rights, Sp.right, h]
        refine Next_of hlt True.intro (Weak_frame ?_ ?_ ?_) <;> simp +decide only [go_sem, hrt, hx]
        exact wkP_own (by simp [aOf]) rfl
      · have hrt : rights (l.take (i + 1)) = rights (l.take i) := by
          rw [htk, rights, List.filter_append]
          simp [rights, Sp.right, h]
        refine Next_of hlt True.intro (Weak_frame ?_ ?_ ?_) <;> simp +decide only [go_sem, hrt]
        exact wkP_own (by simp [aOf]) rfl
    · have hd := int_lt_false hge
      rw [List.take_of_length_le hge]
      repeat' (first
        | with_reducible refine VC_seq fun K hK => ?_
        | with_reducible refine W_region ?_
        | with_reducible refine VC_block ?_
        | with_reducible refine VC_scope ?_
        | with_reducible refine VC_if ?_
        | with_reducible refine VC_skip ?_
        | with_reducible refine VC_exit ?_
        | with_reducible refine VC_ret ?_
        | (with_reducible refine G_not (fun h => ?_) (fun h => ?_) <;> (try simp only [h]))
        | (with_reducible refine G_cases (fun h => ?_) (fun h => ?_) <;> (try simp only [h]))
        | (with_reducible refine hK _ ?_; clear hK K)
        | (clear hK K; with_reducible refine hK _ ?_; clear hK K)
        | (clear hK K; clear hK K; with_reducible refine hK _ ?_; clear hK K)
        | (clear hK K; clear hK K; clear hK K; with_reducible refine hK _ ?_; clear hK K)
        | (with_reducible refine todo ?_; simp +decide only [go_sem, hd]))
      exact Ret_own (3, 0) rfl rfl (by simp; rfl)

set_option maxRecDepth 8000 in
set_option maxHeartbeats 1000000 in
theorem Try.kMeet (a b : Sp) : PureOK Try.prog 70 [pA a.enc, pA b.enc] (optSpan (meet a b)) := by
  refine Try.pure (md := []) Try.func70 rfl Try.call70 (by kernel_rfl) (by rfl) (by exact Nat.le_of_ble_eq_true rfl) ?_
  have ha : a.enc = encSpan a.1 a.2 := rfl
  have hb : b.enc = encSpan b.1 b.2 := rfl
  repeat' (first
    | with_reducible refine VC_seq fun K hK => ?_
    | with_reducible refine W_region ?_
    | with_reducible refine VC_block ?_
    | with_reducible refine VC_scope ?_
    | with_reducible refine VC_if ?_
    | with_reducible refine VC_skip ?_
    | with_reducible refine VC_exit ?_
    | with_reducible refine VC_ret ?_
    | (with_reducible refine G_not (fun h => ?_) (fun h => ?_) <;> (try simp only [h]))
    | (with_reducible refine G_cases (fun h => ?_) (fun h => ?_) <;> (try simp only [h]))
    | refine C_pure (Try.spanRight a.1 a.2) rfl rfl (fun _ => rfl) ?_
    | refine C_pure (Try.spanRight b.1 b.2) rfl rfl (fun _ => rfl) ?_
    | refine C_pure (Try.spanRight (iMax a.1 b.1) (iMin a.2 b.2)) rfl rfl (fun _ => rfl) ?_
    | (with_reducible refine hK _ ?_; clear hK K)
    | (clear hK K; with_reducible refine hK _ ?_; clear hK K)
    | (clear hK K; clear hK K; with_reducible refine hK _ ?_; clear hK K)
    | (clear hK K; clear hK K; clear hK K; with_reducible refine hK _ ?_; clear hK K)
    | (with_reducible refine todo ?_; simp +decide only [go_sem, ha, hb]))
  · have hm : meet a b = some (iMax a.1 b.1, iMin a.2 b.2) := by unfold meet; simp [*]
    rw [hm]
    refine Ret_cell2 rfl ?_ rfl
    simp +decide only [go_sem, Sp.enc]
    rfl
  all_goals
    have hm : meet a b = none := by unfold meet; simp [*]
    rw [hm]
    refine Ret_cell2 rfl ?_ rfl
    simp +decide only [go_sem]

def cut (a b : Sp) : List Sp :=
  match meet a b with
  | some m => rights [(a.1, m.1), (m.2, a.2)]
  | none => rights [a]

set_option maxRecDepth 8000 in
set_option maxHeartbeats 1000000 in
theorem Try.kCut (a b : Sp) : PureOK Try.prog 75 [pA a.enc, pA b.enc] (.one (.own 2 ((cut a b).map Sp.enc))) := by
  refine Try.pure (md := []) Try.func75 rfl Try.call75 (by kernel_rfl) (by rfl) (by exact Nat.le_of_ble_eq_true rfl) ?_
  have ha : a.enc = encSpan a.1 a.2 := rfl
  have hb : b.enc = encSpan b.1 b.2 := rfl
  have hM := Try.kMeet a b
  unfold cut
  cases hm : meet a b with
  | none =>
    rw [hm] at hM
    repeat' (first
      | with_reducible refine VC_seq fun K hK => ?_
      | with_reducible refine W_region ?_
      | with_reducible refine VC_block ?_
      | with_reducible refine VC_scope ?_
      | with_reducible refine VC_if ?_
      | with_reducible refine VC_skip ?_
      | with_reducible refine VC_exit ?_
      | with_reducible refine VC_ret ?_
      | (with_reducible refine G_not (fun h => ?_) (fun h => ?_) <;> (try simp only [h]))
      | (with_reducible refine G_cases (fun h => ?_) (fun h => ?_) <;> (try simp only [h]))
      | refine C_pure hM rfl rfl (fun _ => rfl) ?_
      | refine C_pure (Try.kRights [a] (by simp)) rfl rfl (fun _ => rfl) ?_
      | (with_reducible refine hK _ ?_; clear hK K)
      | (clear hK K; with_reducible refine hK _ ?_; clear hK K)
      | (clear hK K; clear hK K; with_reducible refine hK _ ?_; clear hK K)
      | (clear hK K; clear hK K; clear hK K; with_reducible refine hK _ ?_; clear hK K)
      | (with_reducible refine todo ?_; simp +decide only [go_sem, ha, hb, optSpan]))
    refine Ret_own (17, 0) rfl rfl ?_
    simp +decide only [go_sem]
  | some m =>
    rw [hm] at hM
    have hme : m.enc = encSpan m.1 m.2 := rfl
    repeat' (first
      | with_reducible refine VC_seq fun K hK => ?_
      | with_reducible refine W_region ?_
      | with_reducible refine VC_block ?_
      | with_reducible refine VC_scope ?_
      | with_reducible refine VC_if ?_
      | with_reducible refine VC_skip ?_
      | with_reducible refine VC_exit ?_
      | with_reducible refine VC_ret ?_
      | (with_reducible refine G_not (fun h => ?_) (fun h => ?_) <;> (try simp only [h]))
      | (with_reducible refine G_cases (fun h => ?_) (fun h => ?_) <;> (try simp only [h]))
      | refine C_pure hM rfl rfl (fun _ => rfl) ?_
      | refine C_pure (Try.kRights [(a.1, m.1), (m.2, a.2)] (by simp)) rfl rfl (fun _ => rfl) ?_
      | (with_reducible refine hK _ ?_; clear hK K)
      | (clear hK K; with_reducible refine hK _ ?_; clear hK K)
      | (clear hK K; clear hK K; with_reducible refine hK _ ?_; clear hK K)
      | (clear hK K; clear hK K; clear hK K; with_reducible refine hK _ ?_; clear hK K)
      | (with_reducible refine todo ?_; simp +decide only [go_sem, ha, hb, hme, optSpan]))
    refine Ret_own (29, 0) rfl rfl ?_
    simp +decide only [go_sem]
end Go.Proofs
