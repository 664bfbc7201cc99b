/-
  Pieces: Right, At.
-/
import Derived.Test.YtgpmdeembgohdaaPwFd
namespace Go.Proofs
open Go.PW

def pieceRight (e : Int) (p : Piece) : Bool := Span.right p.lo p.hi && rowRight p.row && !decide (p.lo < e)
def rightFrom : Int → List Piece → Bool
  | _, [] => true
  | e, p :: r => pieceRight e p && rightFrom p.hi r
def lastEnd : Int → List Piece → Int
  | e, [] => e
  | _, p :: r => lastEnd p.hi r
def right (ps : List Piece) : Bool := rightFrom 0 ps

theorem rightFrom_append (l m : List Piece) : ∀ e : Int, rightFrom e (l ++ m) = (rightFrom e l && rightFrom (lastEnd e l) m) := by
  induction l with
  | nil => intro e; rfl
  | cons p r ih => intro e; simp only [List.cons_append, rightFrom, lastEnd, ih, Bool.and_assoc]
theorem lastEnd_append (l m : List Piece) : ∀ e : Int, lastEnd e (l ++ m) = lastEnd (lastEnd e l) m := by
  induction l with
  | nil => intro e; rfl
  | cons p r ih => intro e; simp only [List.cons_append, lastEnd, ih]
theorem split_at {α : Type} {l : List α} {i : Nat} {x : α} (h : l[i]? = some x) : l = l.take i ++ x :: l.drop (i + 1) := by
  obtain ⟨hi, rfl⟩ := List.getElem?_eq_some_iff.1 h
  rw [List.getElem_cons_drop hi, List.take_append_drop]
theorem right_not {ps : List Piece} {i : Nat} {x : Piece} (h : ps[i]? = some x) (hf : pieceRight (lastEnd 0 (ps.take i)) x = false) : right ps = false := by
  rw [right, split_at h, rightFrom_append, rightFrom, hf]
  simp
theorem right_next {ps : List Piece} {i : Nat} {x : Piece} (h : ps[i]? = some x) (hI : right (ps.take i) = true) (hf : pieceRight (lastEnd 0 (ps.take i)) x = true) : right (ps.take (i + 1)) = true := by
  unfold right at hI ⊢
  rw [take_next h, rightFrom_append, hI, rightFrom, hf]
  rfl
theorem lastEnd_next {ps : List Piece} {i : Nat} {x : Piece} (h : ps[i]? = some x) : lastEnd 0 (ps.take (i + 1)) = x.hi := by
  rw [take_next h, lastEnd_append]
  rfl

set_option maxHeartbeats 1000000 in
theorem Try.kRight (ps : List Piece) (hn : ps.length ≤ 1048576) (hr : ∀ p ∈ ps, p.row.length ≤ 1048576) : PureOK Try.prog 15 [pD (encPieces ps)] (.one (dB (right ps))) := by
  refine Try.pure (md := []) Try.func15 rfl Try.call15 (by kernel_rfl) (by rfl) (by exact Nat.le_of_ble_eq_true rfl) ?_
  repeat' (first
    | with_reducible refine VC_seq fun K hK => ?_
    | with_reducible refine W_region ?_
    | with_reducible refine VC_block ?_
    | with_reducible refine VC_scope ?_
    | with_reducible refine VC_if ?_
    | with_reducible refine VC_skip ?_
    | with_reducible refine VC_exit ?_
    | with_reducible refine VC_ret ?_
    | (with_reducible refine G_not (fun h => ?_) (fun h => ?_) <;> (try simp only [h]))
    | (with_reducible refine G_cases (fun h => ?_) (fun h => ?_) <;> (try simp only [h]))
    | (with_reducible refine hK _ ?_; clear hK K)
    | (clear hK K; with_reducible refine hK _ ?_; clear hK K)
    | (clear hK K; clear hK K; with_reducible refine hK _ ?_; clear hK K)
    | (clear hK K; clear hK K; clear hK K; with_reducible refine hK _ ?_; clear hK K)
    | (with_reducible refine todo ?_; simp +decide only [go_sem]))
  refine VC_range ps.length (fun i => right (ps.take i) = true) (fun i => frame [(6, pD (encPieces ps)), (7, pD (.lit (.int .i64 ps.length))), (8, pD (.lit (.int .i64 i))), (3, pD (.lit (.int .i64 (lastEnd 0 (ps.take i)))))] [] []) rfl ?_ ?_
  · refine Weak_frame ?_ ?_ ?_ <;> simp +decide only [go_sem, lastEnd]
  · intro i hi hI
    rcases Nat.lt_or_ge i ps.length with hlt | hge
    · have hg := List.getElem?_eq_getElem hlt
      have hd := int_lt_true hlt
      have hw := int_next hlt (show ps.length ≤ 4294967296 by omega)
      generalize ps[i] = x at hg
      have hx : x.row.length ≤ 4294967296 := Nat.le_trans (hr x (List.mem_of_getElem? hg)) (by decide)
      have hnx := lastEnd_next hg
      have hnt := right_not hg
      have hrn := right_next hg hI
      repeat' (first
        | with_reducible refine VC_seq fun K hK => ?_
        | with_reducible refine W_region ?_
        | with_reducible refine VC_block ?_
        | with_reducible refine VC_scope ?_
        | with_reducible refine VC_if ?_
        | with_reducible refine VC_skip ?_
        | with_reducible refine VC_exit ?_
        | with_reducible refine VC_ret ?_
        | (with_reducible refine G_not (fun h => ?_) (fun h => ?_) <;> (try simp only [h]))
        | (with_reducible refine G_cases (fun h => ?_) (fun h => ?_) <;> (try simp only [h]))
        | refine C_pure (Try.spanRight x.lo x.hi) rfl rfl (fun _ => rfl) ?_
        | refine C_pure (Try.kRow x.row hx) rfl rfl (fun _ => rfl) ?_
        | (with_reducible refine hK _ ?_; clear hK K)
        | (clear hK K; with_reducible refine hK _ ?_; clear hK K)
        | (clear hK K; clear hK K; with_reducible refine hK _ ?_; clear hK K)
        | (clear hK K; clear hK K; clear hK K; with_reducible refine hK _ ?_; clear hK K)
        | (with_reducible refine todo ?_; simp +decide only [go_sem, hg, hd, hw]))
      all_goals first
        | (have hp : pieceRight (lastEnd 0 (ps.take i)) x = true := by simp +decide only [go_sem, pieceRight, *]
           refine Next_of hlt (hrn hp) (Weak_frame ?_ ?_ ?_) <;> simp +decide only [go_sem, hnx])
        | (have hp : pieceRight (lastEnd 0 (ps.take i)) x = false := by simp +decide only [go_sem, pieceRight, *]
           refine Ret_d rfl ?_
           simp +decide only [go_sem, hnt hp])
    · have hd := int_lt_false hge
      rw [List.take_of_length_le hge] at hI
      repeat' (first
        | with_reducible refine VC_seq fun K hK => ?_
        | with_reducible refine W_region ?_
        | with_reducible refine VC_block ?_
        | with_reducible refine VC_scope ?_
        | with_reducible refine VC_if ?_
        | with_reducible refine VC_skip ?_
        | with_reducible refine VC_exit ?_
        | with_reducible refine VC_ret ?_
        | (with_reducible refine G_not (fun h => ?_) (fun h => ?_) <;> (try simp only [h]))
        | (with_reducible refine G_cases (fun h => ?_) (fun h => ?_) <;> (try simp only [h]))
        | (with_reducible refine hK _ ?_; clear hK K)
        | (clear hK K; with_reducible refine hK _ ?_; clear hK K)
        | (clear hK K; clear hK K; with_reducible refine hK _ ?_; clear hK K)
        | (clear hK K; clear hK K; clear hK K; with_reducible refine hK _ ?_; clear hK K)
        | (with_reducible refine todo ?_; simp +decide only [go_sem, hd]))
      refine Ret_d rfl ?_
      simp +decide only [go_sem, hI]

def at' (ps : List Piece) (t : Int) : Option Row := (ps.find? fun p => Span.has p.lo p.hi t).map (·.row)

/-- What is told of a time. -/
def at_ (ps : List Piece) (t : Int) : Option Row := if right ps then at' ps t else none

def optRow (r : Option Row) : RV :=
  match r with
  | some r => .tup [.own 4 (r.map Val.enc), dB true]
  | none => .tup [.own 4 [], dB false]

theorem at_next {ps : List Piece} {i : Nat} {x : Piece} {t : Int} (h : ps[i]? = some x) (hI : at' (ps.take i) t = none) (hf : Span.has x.lo x.hi t = false) : at' (ps.take (i + 1)) t = none := by
  unfold at' at hI ⊢
  rw [take_next h, List.find?_append]
  rw [Option.map_eq_none_iff] at hI
  simp [hI, hf]
theorem at_found {ps : List Piece} {i : Nat} {x : Piece} {t : Int} (h : ps[i]? = some x) (hI : at' (ps.take i) t = none) (hf : Span.has x.lo x.hi t = true) : at' ps t = some x.row := by
  unfold at' at hI ⊢
  rw [Option.map_eq_none_iff] at hI
  rw [split_at h, List.find?_append, hI]
  simp [hf]

set_option maxHeartbeats 1000000 in
theorem Try.kAt (ps : List Piece) (t : Int) (hn : ps.length ≤ 1048576) (hr : ∀ p ∈ ps, p.row.length ≤ 1048576) : PureOK Try.prog 13 [pD (encPieces ps), pD (.lit (.int .i64 t))] (optRow (at_ ps t)) := by
  refine Try.pure (md := []) Try.func13 rfl Try.call13 (by kernel_rfl) (by rfl) (by exact Nat.le_of_ble_eq_true rfl) ?_
  repeat' (first
    | with_reducible refine VC_seq fun K hK => ?_
    | with_reducible refine W_region ?_
    | with_reducible refine VC_block ?_
    | with_reducible refine VC_scope ?_
    | with_reducible refine VC_if ?_
    | with_reducible refine VC_skip ?_
    | with_reducible refine VC_exit ?_
    | with_reducible refine VC_ret ?_
    | (with_reducible refine G_not (fun h => ?_) (fun h => ?_) <;> (try simp only [h]))
    | (with_reducible refine G_cases (fun h => ?_) (fun h => ?_) <;> (try simp only [h]))
    | refine C_pure (Try.kRight ps hn hr) rfl rfl (fun _ => rfl) ?_
    | (with_reducible refine hK _ ?_; clear hK K)
    | (clear hK K; with_reducible refine hK _ ?_; clear hK K)
    | (clear hK K; clear hK K; with_reducible refine hK _ ?_; clear hK K)
    | (clear hK K; clear hK K; clear hK K; with_reducible refine hK _ ?_; clear hK K)
    | (with_reducible refine todo ?_; simp +decide only [go_sem]))
  · have hR : at_ ps t = at' ps t := by rw [at_, h]; rfl
    rw [hR] at hK ⊢
    refine VC_range ps.length (fun i => at' (ps.take i) t = none) (fun i => frame [(1, pD (.lit (.int .i64 t))), (11, pD (encPieces ps)), (12, pD (.lit (.int .i64 ps.length))), (13, pD (.lit (.int .i64 i)))] [] []) rfl ?_ ?_
    · refine Weak_frame ?_ ?_ ?_ <;> simp +decide only [go_sem]
    · intro i hi hI
      rcases Nat.lt_or_ge i ps.length with hlt | hge
      · have hg := List.getElem?_eq_getElem hlt
        have hd := int_lt_true hlt
        have hw := int_next hlt (show ps.length ≤ 4294967296 by omega)
        generalize ps[i] = x at hg
        have hx : x.row.length ≤ 1048576 := hr x (List.mem_of_getElem? hg)
        repeat' (first
          | with_reducible refine VC_seq fun K hK => ?_
          | with_reducible refine W_region ?_
          | with_reducible refine VC_block ?_
          | with_reducible refine VC_scope ?_
          | with_reducible refine VC_if ?_
          | with_reducible refine VC_skip ?_
          | with_reducible refine VC_exit ?_
          | with_reducible refine VC_ret ?_
          | (with_reducible refine G_not (fun h => ?_) (fun h => ?_) <;> (try simp only [h]))
          | (with_reducible refine G_cases (fun h => ?_) (fun h => ?_) <;> (try simp only [h]))
          | refine C_pure (Try.spanHas x.lo x.hi t) rfl rfl (fun _ => rfl) ?_
          | (refine W_full Try.appVals rfl rfl szNil (szRow _) (by simp; omega) rfl ?_)
          | (with_reducible refine hK _ ?_; clear hK K)
          | (clear hK K; with_reducible refine hK _ ?_; clear hK K)
          | (clear hK K; clear hK K; with_reducible refine hK _ ?_; clear hK K)
          | (clear hK K; clear hK K; clear hK K; with_reducible refine hK _ ?_; clear hK K)
          | (with_reducible refine todo ?_; simp +decide only [go_sem, hg, hd, hw]))
        · rw [at_found hg hI h]
          refine Ret_two (some (23, 0)) rfl (.inl ⟨(23, 0), rfl, rfl, ?_⟩) (.inl rfl)
          simp +decide only [go_sem]
        · refine Next_of hlt (at_next hg hI h) (Weak_frame ?_ ?_ ?_) <;> simp +decide only [go_sem]
      · have hd := int_lt_false hge
        rw [List.take_of_length_le hge] at hI
        repeat' (first
          | with_reducible refine VC_seq fun K hK => ?_
          | with_reducible refine W_region ?_
          | with_reducible refine VC_block ?_
          | with_reducible refine VC_scope ?_
          | with_reducible refine VC_if ?_
          | with_reducible refine VC_skip ?_
          | with_reducible refine VC_exit ?_
          | with_reducible refine VC_ret ?_
          | (with_reducible refine G_not (fun h => ?_) (fun h => ?_) <;> (try simp only [h]))
          | (with_reducible refine G_cases (fun h => ?_) (fun h => ?_) <;> (try simp only [h]))
          | (with_reducible refine hK _ ?_; clear hK K)
          | (clear hK K; with_reducible refine hK _ ?_; clear hK K)
          | (clear hK K; clear hK K; with_reducible refine hK _ ?_; clear hK K)
          | (clear hK K; clear hK K; clear hK K; with_reducible refine hK _ ?_; clear hK K)
          | (with_reducible refine todo ?_; simp +decide only [go_sem, hd]))
        rw [hI]
        exact Ret_two none rfl (.inr rfl) (.inl rfl)
  · rw [at_, h]
    exact Ret_two none rfl (.inr rfl) (.inl rfl)
end Go.Proofs
