/-
  Pieces: Diff, Same.
-/
import Derived.Test.YtgpmdeembgohdaaPwFi
namespace Go.Proofs
open Go.PW

def diff (ps q : List Piece) : List Piece × List Piece := if right ps && right q then (without ps q, without q ps) else ([], [])

set_option maxHeartbeats 4000000 in
theorem Try.kDiff (ps q : List Piece) (hn : ps.length ≤ 1048576) (hr : ∀ p ∈ ps, p.row.length ≤ 1048576) (hn' : q.length ≤ 1048576) (hr' : ∀ p ∈ q, p.row.length ≤ 1048576) :
    PureOK Try.prog 25 [pD (encPieces ps), pD (encPieces q)] (.tup [.own 3 ((diff ps q).1.map Piece.enc), .own 3 ((diff ps q).2.map Piece.enc)]) := by
  refine Try.pure (md := []) Try.func25 rfl Try.call25 (by kernel_rfl) (by rfl) (by exact Nat.le_of_ble_eq_true rfl) ?_
  repeat' (first
    | with_reducible refine VC_seq fun K hK => ?_
    | with_reducible refine W_region ?_
    | with_reducible refine VC_block ?_
    | with_reducible refine VC_scope ?_
    | with_reducible refine VC_if ?_
    | with_reducible refine VC_skip ?_
    | with_reducible refine VC_exit ?_
    | with_reducible refine VC_ret ?_
    | (with_reducible refine G_not (fun h => ?_) (fun h => ?_) <;> (try simp only [h]))
    | (with_reducible refine G_cases (fun h => ?_) (fun h => ?_) <;> (try simp only [h]))
    | refine C_pure (Try.kRight ps hn hr) rfl rfl (fun _ => rfl) ?_
    | refine C_pure (Try.kRight q hn' hr') rfl rfl (fun _ => rfl) ?_
    | refine C_pure (Try.kWithout ps q hn hr hn') rfl rfl (fun _ => rfl) ?_
    | refine C_pure (Try.kWithout q ps hn' hr' hn) rfl rfl (fun _ => rfl) ?_
    | (with_reducible refine hK _ ?_; clear hK K)
    | (clear hK K; with_reducible refine hK _ ?_; clear hK K)
    | (clear hK K; clear hK K; with_reducible refine hK _ ?_; clear hK K)
    | (clear hK K; clear hK K; clear hK K; with_reducible refine hK _ ?_; clear hK K)
    | (with_reducible refine todo ?_; simp +decide only [go_sem]))
  · have hD : diff ps q = (without ps q, without q ps) := by unfold diff; simp [*]
    rw [hD]
    refine Ret_both (k := some (16, 0)) (k' := some (19, 0)) (fun κ h h' => by rw [← h] at h'; simp at h') rfl (.inl ⟨_, rfl, rfl, ?_⟩) (.inl ⟨_, rfl, rfl, ?_⟩) <;> simp +decide only [go_sem]
  all_goals
    have hD : diff ps q = ([], []) := by unfold diff; simp [*]
    rw [hD]
    exact Ret_both (k := none) (k' := none) (fun κ h => by cases h) rfl (.inr rfl) (.inr rfl)

def samePieces (a b : List Piece) : Bool := a.length == b.length && (List.zipWith samePiece a b).all id
theorem zip_take {α : Type} {f : α → α → Bool} {a b : List α} {i : Nat} {x y : α} (h : (List.zipWith f (a.take i) (b.take i)).all id = true) (hx : a[i]? = some x) (hy : b[i]? = some y) (hf : f x y = true) : (List.zipWith f (a.take (i + 1)) (b.take (i + 1))).all id = true := by
  rw [← List.take_zipWith] at h ⊢
  refine all_take (x := true) h ?_ rfl
  rw [List.getElem?_zipWith, hx, hy]
  simp [hf]
theorem zip_not {α : Type} {f : α → α → Bool} {a b : List α} {i : Nat} {x y : α} (hx : a[i]? = some x) (hy : b[i]? = some y) (hf : f x y = false) : (List.zipWith f a b).all id = false := by
  refine all_not (i := i) (x := false) ?_ rfl
  rw [List.getElem?_zipWith, hx, hy]
  simp [hf]

set_option maxHeartbeats 4000000 in
theorem Try.kSameP (a b : List Piece) (hr : a.length ≤ 1048576) (hrr : ∀ p ∈ a, p.row.length ≤ 1048576) : PureOK Try.prog 27 [pD (encPieces a), pD (encPieces b)] (.one (dB (samePieces a b))) := by
  refine Try.pure (md := []) Try.func27 rfl Try.call27 (by kernel_rfl) (by rfl) (by exact Nat.le_of_ble_eq_true rfl) ?_
  repeat' (first
    | with_reducible refine VC_seq fun K hK => ?_
    | with_reducible refine W_region ?_
    | with_reducible refine VC_block ?_
    | with_reducible refine VC_scope ?_
    | with_reducible refine VC_if ?_
    | with_reducible refine VC_skip ?_
    | with_reducible refine VC_exit ?_
    | with_reducible refine VC_ret ?_
    | (with_reducible refine G_not (fun h => ?_) (fun h => ?_) <;> (try simp only [h]))
    | (with_reducible refine G_cases (fun h => ?_) (fun h => ?_) <;> (try simp only [h]))
    | (with_reducible refine hK _ ?_; clear hK K)
    | (clear hK K; with_reducible refine hK _ ?_; clear hK K)
    | (clear hK K; clear hK K; with_reducible refine hK _ ?_; clear hK K)
    | (clear hK K; clear hK K; clear hK K; with_reducible refine hK _ ?_; clear hK K)
    | (with_reducible refine todo ?_; simp +decide only [go_sem]))
  · refine Ret_d rfl ?_
    have hne : (a.length == b.length) = false := by
      rw [beq_eq_false_iff_ne]; intro e; rw [e] at h; simp at h
    simp +decide only [go_sem, samePieces, hne]
  · have hlen : a.length = b.length := by
      have e : ((a.length : Int) == (b.length : Int)) = true := by simpa [bne] using h
      exact Int.ofNat_inj.1 (by simpa using e)
    refine VC_range a.length (fun i => (List.zipWith samePiece (a.take i) (b.take i)).all id = true) (fun i => frame [(0, pD (encPieces a)), (1, pD (encPieces b)), (12, pD (.lit (.int .i64 a.length))), (13, pD (.lit (.int .i64 i)))] [] []) rfl ?_ ?_
    · refine Weak_frame ?_ ?_ ?_ <;> simp +decide only [go_sem]
    · intro i hi hI
      rcases Nat.lt_or_ge i a.length with hlt | hge
      · have hg := List.getElem?_eq_getElem hlt
        have hg' := List.getElem?_eq_getElem (show i < b.length by omega)
        have hd := int_lt_true hlt
        have hw := int_next hlt (show a.length ≤ 4294967296 by omega)
        generalize a[i] = x at hg
        generalize b[i] = y at hg'
        have hx := hrr x (List.mem_of_getElem? hg)
        repeat' (first
          | with_reducible refine VC_seq fun K hK => ?_
          | with_reducible refine W_region ?_
          | with_reducible refine VC_block ?_
          | with_reducible refine VC_scope ?_
          | with_reducible refine VC_if ?_
          | with_reducible refine VC_skip ?_
          | with_reducible refine VC_exit ?_
          | with_reducible refine VC_ret ?_
          | (with_reducible refine G_not (fun h => ?_) (fun h => ?_) <;> (try simp only [h]))
          | (with_reducible refine G_cases (fun h => ?_) (fun h => ?_) <;> (try simp only [h]))
          | refine C_pure (Try.kSame x.row y.row (by omega)) rfl rfl (fun _ => rfl) ?_
          | (with_reducible refine hK _ ?_; clear hK K)
          | (clear hK K; with_reducible refine hK _ ?_; clear hK K)
          | (clear hK K; clear hK K; with_reducible refine hK _ ?_; clear hK K)
          | (clear hK K; clear hK K; clear hK K; with_reducible refine hK _ ?_; clear hK K)
          | (with_reducible refine todo ?_; simp +decide only [go_sem, hg, hg', hd, hw]))
        all_goals first
          | (have hf : samePiece x y = true := by unfold samePiece; simp [*]
             refine Next_of hlt (zip_take hI hg hg' hf) (Weak_frame ?_ ?_ ?_) <;> simp +decide only [go_sem])
          | (have hf : samePiece x y = false := by unfold samePiece; simp [*]
             refine Ret_d rfl ?_
             simp +decide only [go_sem, samePieces, zip_not hg hg' hf])
      · have hd := int_lt_false hge
        rw [List.take_of_length_le hge, List.take_of_length_le (show b.length ≤ i by omega)] at hI
        repeat' (first
          | with_reducible refine VC_seq fun K hK => ?_
          | with_reducible refine W_region ?_
          | with_reducible refine VC_block ?_
          | with_reducible refine VC_scope ?_
          | with_reducible refine VC_if ?_
          | with_reducible refine VC_skip ?_
          | with_reducible refine VC_exit ?_
          | with_reducible refine VC_ret ?_
          | (with_reducible refine G_not (fun h => ?_) (fun h => ?_) <;> (try simp only [h]))
          | (with_reducible refine G_cases (fun h => ?_) (fun h => ?_) <;> (try simp only [h]))
          | (with_reducible refine hK _ ?_; clear hK K)
          | (clear hK K; with_reducible refine hK _ ?_; clear hK K)
          | (clear hK K; clear hK K; with_reducible refine hK _ ?_; clear hK K)
          | (clear hK K; clear hK K; clear hK K; with_reducible refine hK _ ?_; clear hK K)
          | (with_reducible refine todo ?_; simp +decide only [go_sem, hd]))
        refine Ret_d rfl ?_
        simp +decide only [go_sem, samePieces, hI, hlen]
end Go.Proofs
