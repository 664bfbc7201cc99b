import Derived.Test.YtcdiifnnnnnceaaQ17
import Derived.Test.YtcdiifnnnnnceaaQ16

/-
  The document's spans and values.
-/

namespace Go.Proofs
open Go.PW

@[go_sem] theorem B_seql {P : Program} {T : TypeId} {a b : ByteArray} : binS P .eql T (.c (.d (.lit (.string a)))) (.c (.d (.lit (.string b)))) = some (lit (.bool (a.toList == b.toList))) := rfl
@[go_sem] theorem B_sneq {P : Program} {T : TypeId} {a b : ByteArray} : binS P .neq T (.c (.d (.lit (.string a)))) (.c (.d (.lit (.string b)))) = some (lit (.bool (a.toList != b.toList))) := rfl
@[go_sem] theorem semOf_pb {b : Bool} : semOf (Pure.pure (Value.bool b) : Sem Value) = some (.bool b) := rfl

set_option maxRecDepth 8000 in
set_option maxHeartbeats 1000000 in
theorem Try.rSpanRight (a b : Int) : PureOK Try.prog 34 [pA (encSpan a b)] (.one (dB (Span.right a b))) := by
  refine Try.pure (md := []) Try.func34 rfl Try.call34 (by kernel_rfl) (by rfl) (by exact Nat.le_of_ble_eq_true rfl) ?_
  repeat' (first
    | with_reducible refine VC_seq fun K hK => ?_
    | with_reducible refine W_region ?_
    | with_reducible refine VC_block ?_
    | with_reducible refine VC_scope ?_
    | with_reducible refine VC_if ?_
    | with_reducible refine VC_skip ?_
    | with_reducible refine VC_exit ?_
    | with_reducible refine VC_ret ?_
    | (with_reducible refine G_not (fun h => ?_) (fun h => ?_) <;> (try simp only [h]))
    | (with_reducible refine G_cases (fun h => ?_) (fun h => ?_) <;> (try simp only [h]))
    | (with_reducible refine hK _ ?_; clear hK K)
    | (clear hK K; with_reducible refine hK _ ?_; clear hK K)
    | (clear hK K; clear hK K; with_reducible refine hK _ ?_; clear hK K)
    | (clear hK K; clear hK K; clear hK K; with_reducible refine hK _ ?_; clear hK K)
    | (with_reducible refine todo ?_; simp +decide only [go_sem]))
  all_goals (refine Ret_d rfl ?_; simp +decide only [go_sem, Span.right, *])

set_option maxRecDepth 8000 in
set_option maxHeartbeats 1000000 in
theorem Try.rSpanHas (a b n : Int) : PureOK Try.prog 33 [pA (encSpan a b), pD (.lit (.int .i64 n))] (.one (dB (Span.has a b n))) := by
  refine Try.pure (md := []) Try.func33 rfl Try.call33 (by kernel_rfl) (by rfl) (by exact Nat.le_of_ble_eq_true rfl) ?_
  repeat' (first
    | with_reducible refine VC_seq fun K hK => ?_
    | with_reducible refine W_region ?_
    | with_reducible refine VC_block ?_
    | with_reducible refine VC_scope ?_
    | with_reducible refine VC_if ?_
    | with_reducible refine VC_skip ?_
    | with_reducible refine VC_exit ?_
    | with_reducible refine VC_ret ?_
    | (with_reducible refine G_not (fun h => ?_) (fun h => ?_) <;> (try simp only [h]))
    | (with_reducible refine G_cases (fun h => ?_) (fun h => ?_) <;> (try simp only [h]))
    | refine C_pure (Try.rSpanRight a b) rfl rfl (fun _ => rfl) ?_
    | (with_reducible refine hK _ ?_; clear hK K)
    | (clear hK K; with_reducible refine hK _ ?_; clear hK K)
    | (clear hK K; clear hK K; with_reducible refine hK _ ?_; clear hK K)
    | (clear hK K; clear hK K; clear hK K; with_reducible refine hK _ ?_; clear hK K)
    | (with_reducible refine todo ?_; simp +decide only [go_sem]))
  all_goals (refine Ret_d rfl ?_; simp +decide only [go_sem, Span.has, *])

theorem meet_eq {a b : Sp} (ha : Span.right a.1 a.2 = true) (hb : Span.right b.1 b.2 = true) : meet a b = if iMin a.2 b.2 ≤ iMax a.1 b.1 then none else some (iMax a.1 b.1, iMin a.2 b.2) := by
  unfold meet
  rw [ha, hb]
  simp only [Bool.true_and]
  rw [spanRight_iff] at ha hb
  by_cases h : iMin a.2 b.2 ≤ iMax a.1 b.1
  · have : Span.right (iMax a.1 b.1) (iMin a.2 b.2) = false := by
      rw [Bool.eq_false_iff]; intro h'; rw [spanRight_iff] at h'; omega
    rw [this, if_pos h]
    rfl
  · have : Span.right (iMax a.1 b.1) (iMin a.2 b.2) = true := by
      rw [spanRight_iff]; unfold iMax iMin at h ⊢; split <;> split <;> simp_all <;> omega
    rw [this, if_neg h]
    rfl
theorem meet_not {a b : Sp} (h : Span.right a.1 a.2 = false ∨ Span.right b.1 b.2 = false) : meet a b = none := by
  unfold meet
  rcases h with h | h <;> rw [h] <;> simp

set_option maxRecDepth 8000 in
set_option maxHeartbeats 1000000 in
theorem Try.rMeet (a b : Sp) : PureOK Try.prog 43 [pA a.enc, pA b.enc] (optSpan (meet a b)) := by
  refine Try.pure (md := []) Try.func43 rfl Try.call43 (by kernel_rfl) (by rfl) (by exact Nat.le_of_ble_eq_true rfl) ?_
  have ha : a.enc = encSpan a.1 a.2 := rfl
  have hb : b.enc = encSpan b.1 b.2 := rfl
  repeat' (first
    | with_reducible refine VC_seq fun K hK => ?_
    | with_reducible refine W_region ?_
    | with_reducible refine VC_block ?_
    | with_reducible refine VC_scope ?_
    | with_reducible refine VC_if ?_
    | with_reducible refine VC_skip ?_
    | with_reducible refine VC_exit ?_
    | with_reducible refine VC_ret ?_
    | (with_reducible refine G_not (fun h => ?_) (fun h => ?_) <;> (try simp only [h]))
    | (with_reducible refine G_cases (fun h => ?_) (fun h => ?_) <;> (try simp only [h]))
    | refine C_pure (Try.rSpanRight a.1 a.2) rfl rfl (fun _ => rfl) ?_
    | refine C_pure (Try.rSpanRight b.1 b.2) rfl rfl (fun _ => rfl) ?_
    | (with_reducible refine hK _ ?_; clear hK K)
    | (clear hK K; with_reducible refine hK _ ?_; clear hK K)
    | (clear hK K; clear hK K; with_reducible refine hK _ ?_; clear hK K)
    | (clear hK K; clear hK K; clear hK K; with_reducible refine hK _ ?_; clear hK K)
    | (with_reducible refine todo ?_; simp +decide only [go_sem, ha, hb]))
  all_goals first
    | (rw [meet_eq (by assumption) (by assumption), if_pos (by simpa [iMin, iMax] using h)]
       refine Ret_cell2 rfl ?_ rfl
       simp +decide only [go_sem])
    | (rw [meet_eq (by assumption) (by assumption), if_neg (by simpa [iMin, iMax] using h)]
       refine Ret_cell2 rfl ?_ rfl
       simp +decide only [go_sem, Sp.enc]
       rfl)
    | (rw [meet_not (by simp [*])]
       refine Ret_cell2 rfl ?_ rfl
       simp +decide only [go_sem])

set_option maxRecDepth 8000 in
set_option maxHeartbeats 1000000 in
theorem Try.rCanon (b : Int) : PureOK Try.prog 83 [pD (.lit (.int .u64 b))] (.one (.d (.lit (.int .u64 (canonI b))))) := by
  refine Try.pure (md := []) Try.func83 rfl Try.call83 (by kernel_rfl) (by rfl) (by exact Nat.le_of_ble_eq_true rfl) ?_
  repeat' (first
    | with_reducible refine VC_seq fun K hK => ?_
    | with_reducible refine W_region ?_
    | with_reducible refine VC_block ?_
    | with_reducible refine VC_scope ?_
    | with_reducible refine VC_if ?_
    | with_reducible refine VC_skip ?_
    | with_reducible refine VC_exit ?_
    | with_reducible refine VC_ret ?_
    | (with_reducible refine G_not (fun h => ?_) (fun h => ?_) <;> (try simp only [h]))
    | (with_reducible refine G_cases (fun h => ?_) (fun h => ?_) <;> (try simp only [h]))
    | (with_reducible refine hK _ ?_; clear hK K)
    | (clear hK K; with_reducible refine hK _ ?_; clear hK K)
    | (clear hK K; clear hK K; with_reducible refine hK _ ?_; clear hK K)
    | (clear hK K; clear hK K; clear hK K; with_reducible refine hK _ ?_; clear hK K)
    | (with_reducible refine todo ?_; simp +decide only [go_sem]))
  all_goals (refine Ret_d rfl ?_; simp +decide only [go_sem, canonI, *])

set_option maxRecDepth 8000 in
set_option maxHeartbeats 4000000 in
theorem Try.rValue0 (v : Val) : PureOK Try.prog 77 [pA v.enc] (.one (dB v.rright)) := by
  refine Try.pure (md := []) Try.func77 rfl Try.call77 (by kernel_rfl) (by rfl) (by exact Nat.le_of_ble_eq_true rfl) ?_
  repeat' (first
    | with_reducible refine VC_seq fun K hK => ?_
    | with_reducible refine W_region ?_
    | with_reducible refine VC_block ?_
    | with_reducible refine VC_scope ?_
    | with_reducible refine VC_if ?_
    | with_reducible refine VC_skip ?_
    | with_reducible refine VC_exit ?_
    | with_reducible refine VC_ret ?_
    | (with_reducible refine G_not (fun h => ?_) (fun h => ?_) <;> (try simp only [h]))
    | (with_reducible refine G_cases (fun h => ?_) (fun h => ?_) <;> (try simp only [h]))
    | refine C_pure (Try.rCanon v.bits) rfl rfl (fun _ => rfl) ?_
    | (with_reducible refine hK _ ?_; clear hK K)
    | (clear hK K; with_reducible refine hK _ ?_; clear hK K)
    | (clear hK K; clear hK K; with_reducible refine hK _ ?_; clear hK K)
    | (clear hK K; clear hK K; clear hK K; with_reducible refine hK _ ?_; clear hK K)
    | (with_reducible refine todo ?_; simp +decide only [go_sem]))
  all_goals (refine Ret_d rfl ?_; simp +decide only [go_sem, Val.rright, *])
theorem Try.rValue (v : Val) (h : v.ok) : PureOK Try.prog 77 [pA v.enc] (.one (dB v.right)) := by
  rw [← rright_eq h]
  exact Try.rValue0 v

set_option maxRecDepth 8000 in
set_option maxHeartbeats 400000 in
theorem Try.rRowRight (r : Row) (hr : r.length ≤ 4294967296) (hok : Row.ok' r) : PureOK Try.prog 71 [pD (encRow r)] (.one (dB (rowRight r))) := by
  refine Try.pure (md := []) Try.func71 rfl Try.call71 (by kernel_rfl) (by rfl) (by exact Nat.le_of_ble_eq_true rfl) ?_
  repeat' (first
    | with_reducible refine VC_seq fun K hK => ?_
    | with_reducible refine W_region ?_
    | with_reducible refine VC_block ?_
    | with_reducible refine VC_scope ?_
    | with_reducible refine VC_if ?_
    | with_reducible refine VC_skip ?_
    | with_reducible refine VC_exit ?_
    | with_reducible refine VC_ret ?_
    | (with_reducible refine G_not (fun h => ?_) (fun h => ?_) <;> (try simp only [h]))
    | (with_reducible refine G_cases (fun h => ?_) (fun h => ?_) <;> (try simp only [h]))
    | (with_reducible refine hK _ ?_; clear hK K)
    | (clear hK K; with_reducible refine hK _ ?_; clear hK K)
    | (clear hK K; clear hK K; with_reducible refine hK _ ?_; clear hK K)
    | (clear hK K; clear hK K; clear hK K; with_reducible refine hK _ ?_; clear hK K)
    | (with_reducible refine todo ?_; simp +decide only [go_sem]))
  refine VC_range r.length (fun i => rowRight (r.take i) = true) (fun i => frame [(0, pD (encRow r)), (3, pD (.lit (.int .i64 i)))] [] []) rfl ?_ ?_
  · refine Weak_frame ?_ ?_ ?_ <;> simp +decide only [go_sem]
  · intro i hi hI
    rcases Nat.lt_or_ge i r.length with hlt | hge
    · have hg := List.getElem?_eq_getElem hlt
      have hd := int_lt_true hlt
      have hw := int_next hlt hr
      generalize r[i] = v at hg
      have hv := hok v (List.mem_of_getElem? hg)
      repeat' (first
        | with_reducible refine VC_seq fun K hK => ?_
        | with_reducible refine W_region ?_
        | with_reducible refine VC_block ?_
        | with_reducible refine VC_scope ?_
        | with_reducible refine VC_if ?_
        | with_reducible refine VC_skip ?_
        | with_reducible refine VC_exit ?_
        | with_reducible refine VC_ret ?_
        | (with_reducible refine G_not (fun h => ?_) (fun h => ?_) <;> (try simp only [h]))
        | (with_reducible refine G_cases (fun h => ?_) (fun h => ?_) <;> (try simp only [h]))
        | refine C_pure (Try.rValue v hv) rfl rfl (fun _ => rfl) ?_
        | (with_reducible refine hK _ ?_; clear hK K)
        | (clear hK K; with_reducible refine hK _ ?_; clear hK K)
        | (clear hK K; clear hK K; with_reducible refine hK _ ?_; clear hK K)
        | (clear hK K; clear hK K; clear hK K; with_reducible refine hK _ ?_; clear hK K)
        | (with_reducible refine todo ?_; simp +decide only [go_sem, hg, hd, hw]))
      · refine Next_of hlt (all_take hI hg h) (Weak_frame ?_ ?_ ?_) <;> simp +decide only [go_sem]
      · refine Ret_d rfl ?_
        simp +decide only [go_sem, all_not hg h, rowRight]
    · have hd := int_lt_false hge
      rw [List.take_of_length_le hge] at hI
      repeat' (first
        | with_reducible refine VC_seq fun K hK => ?_
        | with_reducible refine W_region ?_
        | with_reducible refine VC_block ?_
        | with_reducible refine VC_scope ?_
        | with_reducible refine VC_if ?_
        | with_reducible refine VC_skip ?_
        | with_reducible refine VC_exit ?_
        | with_reducible refine VC_ret ?_
        | (with_reducible refine G_not (fun h => ?_) (fun h => ?_) <;> (try simp only [h]))
        | (with_reducible refine G_cases (fun h => ?_) (fun h => ?_) <;> (try simp only [h]))
        | (with_reducible refine hK _ ?_; clear hK K)
        | (clear hK K; with_reducible refine hK _ ?_; clear hK K)
        | (clear hK K; clear hK K; with_reducible refine hK _ ?_; clear hK K)
        | (clear hK K; clear hK K; clear hK K; with_reducible refine hK _ ?_; clear hK K)
        | (with_reducible refine todo ?_; simp +decide only [go_sem, hd]))
      refine Ret_d rfl ?_
      simp +decide only [go_sem, hI]
end Go.Proofs

/-
  The document's pieces: Right, among.
-/


namespace Go.Proofs
open Go.PW

theorem Try.appRef : AppT Try.prog 29 81 3 40 := ⟨Try.underlying29, Try.cl81, Try.by81, Try.zo81, by decide, by decide⟩

/-- Rows of right values. -/
def rowsOK (ps : List Piece) : Prop := ∀ p ∈ ps, Row.ok' p.row

set_option maxRecDepth 8000 in
set_option maxHeartbeats 8000000 in
theorem Try.rRight (ps : List Piece) (hn : ps.length ≤ 1048576) (hr : ∀ p ∈ ps, p.row.length ≤ 1048576) (hok : rowsOK ps) : PureOK Try.prog 42 [pD (encPieces ps)] (.one (dB (right ps))) := by
  refine Try.pure (md := []) Try.func42 rfl Try.call42 (by kernel_rfl) (by rfl) (by exact Nat.le_of_ble_eq_true rfl) ?_
  repeat' (first
    | with_reducible refine VC_seq fun K hK => ?_
    | with_reducible refine W_region ?_
    | with_reducible refine VC_block ?_
    | with_reducible refine VC_scope ?_
    | with_reducible refine VC_if ?_
    | with_reducible refine VC_skip ?_
    | with_reducible refine VC_exit ?_
    | with_reducible refine VC_ret ?_
    | (with_reducible refine G_not (fun h => ?_) (fun h => ?_) <;> (try simp only [h]))
    | (with_reducible refine G_cases (fun h => ?_) (fun h => ?_) <;> (try simp only [h]))
    | (with_reducible refine hK _ ?_; clear hK K)
    | (clear hK K; with_reducible refine hK _ ?_; clear hK K)
    | (clear hK K; clear hK K; with_reducible refine hK _ ?_; clear hK K)
    | (clear hK K; clear hK K; clear hK K; with_reducible refine hK _ ?_; clear hK K)
    | (with_reducible refine todo ?_; simp +decide only [go_sem]))
  refine VC_range ps.length (fun i => right (ps.take i) = true) (fun i => frame [(0, pD (encPieces ps)), (3, pD (.lit (.int .i64 i)))] [] []) rfl ?_ ?_
  · refine Weak_frame ?_ ?_ ?_ <;> simp +decide only [go_sem]
  · intro i hi hI
    rcases Nat.lt_or_ge i ps.length with hlt | hge
    · have hg := List.getElem?_eq_getElem hlt
      have hd := int_lt_true hlt
      have hw := int_next hlt (show ps.length ≤ 4294967296 by omega)
      generalize ps[i] = x at hg
      have hx : x.row.length ≤ 4294967296 := Nat.le_trans (hr x (List.mem_of_getElem? hg)) (by decide)
      have hxo := hok x (List.mem_of_getElem? hg)
      have hnt := right_not hg
      have hrn := right_next hg hI
      rcases Nat.eq_zero_or_pos i with hi0 | hi0
      · have hl0 : lastEnd 0 (ps.take i) = 0 := by rw [hi0]; rfl
        rw [hl0] at hnt hrn
        have hlo : Span.right x.lo x.hi = true → decide (x.lo < 0) = false := fun h => by rw [spanRight_iff] at h; simp; omega
        have hgt : ((0 : Int) < (i : Int)) = False := eq_false (by omega)
        repeat' (first
          | with_reducible refine VC_seq fun K hK => ?_
          | with_reducible refine W_region ?_
          | with_reducible refine VC_block ?_
          | with_reducible refine VC_scope ?_
          | with_reducible refine VC_if ?_
          | with_reducible refine VC_skip ?_
          | with_reducible refine VC_exit ?_
          | with_reducible refine VC_ret ?_
          | (with_reducible refine G_not (fun h => ?_) (fun h => ?_) <;> (try simp only [h]))
          | (with_reducible refine G_cases (fun h => ?_) (fun h => ?_) <;> (try simp only [h]))
          | refine C_pure (Try.rSpanRight x.lo x.hi) rfl rfl (fun _ => rfl) ?_
          | refine C_pure (Try.rRowRight x.row hx hxo) rfl rfl (fun _ => rfl) ?_
          | (with_reducible refine hK _ ?_; clear hK K)
          | (clear hK K; with_reducible refine hK _ ?_; clear hK K)
          | (clear hK K; clear hK K; with_reducible refine hK _ ?_; clear hK K)
          | (clear hK K; clear hK K; clear hK K; with_reducible refine hK _ ?_; clear hK K)
          | (with_reducible refine todo ?_; simp +decide only [go_sem, hg, hd, hw, hgt]))
        all_goals first
          | (have hp : pieceRight 0 x = true := by unfold pieceRight; simp [*]
             refine Next_of hlt (hrn hp) (Weak_frame ?_ ?_ ?_) <;> simp +decide only [go_sem])
          | (have hp : pieceRight 0 x = false := by unfold pieceRight; simp [*]
             refine Ret_d rfl ?_
             simp +decide only [go_sem, hnt hp])
      · have hgy := List.getElem?_eq_getElem (show i - 1 < ps.length by omega)
        generalize ps[i - 1] = y at hgy
        have hl0 : lastEnd 0 (ps.take i) = y.hi := by
          have := lastEnd_next hgy
          rwa [show i - 1 + 1 = i by omega] at this
        rw [hl0] at hnt hrn
        have hgt : ((0 : Int) < (i : Int)) = True := eq_true (by omega)
        have hw1 : IntKind.i64.wrap ((i : Int) - 1) = ((i - 1 : Nat) : Int) := by rw [Go.IntWalk.i64_in _ (by omega)]; omega
        repeat' (first
          | with_reducible refine VC_seq fun K hK => ?_
          | with_reducible refine W_region ?_
          | with_reducible refine VC_block ?_
          | with_reducible refine VC_scope ?_
          | with_reducible refine VC_if ?_
          | with_reducible refine VC_skip ?_
          | with_reducible refine VC_exit ?_
          | with_reducible refine VC_ret ?_
          | (with_reducible refine G_not (fun h => ?_) (fun h => ?_) <;> (try simp only [h]))
          | (with_reducible refine G_cases (fun h => ?_) (fun h => ?_) <;> (try simp only [h]))
          | refine C_pure (Try.rSpanRight x.lo x.hi) rfl rfl (fun _ => rfl) ?_
          | refine C_pure (Try.rRowRight x.row hx hxo) rfl rfl (fun _ => rfl) ?_
          | (with_reducible refine hK _ ?_; clear hK K)
          | (clear hK K; with_reducible refine hK _ ?_; clear hK K)
          | (clear hK K; clear hK K; with_reducible refine hK _ ?_; clear hK K)
          | (clear hK K; clear hK K; clear hK K; with_reducible refine hK _ ?_; clear hK K)
          | (with_reducible refine todo ?_; simp +decide only [go_sem, hg, hd, hw, hgt, hw1, hgy]))
        all_goals first
          | (have hp : pieceRight y.hi x = true := by unfold pieceRight; simp [*]
             refine Next_of hlt (hrn hp) (Weak_frame ?_ ?_ ?_) <;> simp +decide only [go_sem])
          | (have hp : pieceRight y.hi x = false := by unfold pieceRight; simp [*]
             refine Ret_d rfl ?_
             simp +decide only [go_sem, hnt hp])
    · have hd := int_lt_false hge
      rw [List.take_of_length_le hge] at hI
      repeat' (first
        | with_reducible refine VC_seq fun K hK => ?_
        | with_reducible refine W_region ?_
        | with_reducible refine VC_block ?_
        | with_reducible refine VC_scope ?_
        | with_reducible refine VC_if ?_
        | with_reducible refine VC_skip ?_
        | with_reducible refine VC_exit ?_
        | with_reducible refine VC_ret ?_
        | (with_reducible refine G_not (fun h => ?_) (fun h => ?_) <;> (try simp only [h]))
        | (with_reducible refine G_cases (fun h => ?_) (fun h => ?_) <;> (try simp only [h]))
        | (with_reducible refine hK _ ?_; clear hK K)
        | (clear hK K; with_reducible refine hK _ ?_; clear hK K)
        | (clear hK K; clear hK K; with_reducible refine hK _ ?_; clear hK K)
        | (clear hK K; clear hK K; clear hK K; with_reducible refine hK _ ?_; clear hK K)
        | (with_reducible refine todo ?_; simp +decide only [go_sem, hd]))
      refine Ret_d rfl ?_
      simp +decide only [go_sem, hI]

theorem samePiece_comm (x y : Piece) : samePiece x y = samePiece y x := by
  rw [Bool.eq_iff_iff, samePiece_iff, samePiece_iff]
  exact eq_comm

set_option maxRecDepth 8000 in
set_option maxHeartbeats 8000000 in
theorem Try.rAmong (q : List Piece) (x : Piece) (hn : q.length ≤ 1048576) (hr : ∀ p ∈ q, p.row.length ≤ 1048576) : PureOK Try.prog 74 [pD (encPieces q), pA x.enc] (.one (dB (isIn q x))) := by
  refine Try.pure (md := []) Try.func74 rfl Try.call74 (by kernel_rfl) (by rfl) (by exact Nat.le_of_ble_eq_true rfl) ?_
  repeat' (first
    | with_reducible refine VC_seq fun K hK => ?_
    | with_reducible refine W_region ?_
    | with_reducible refine VC_block ?_
    | with_reducible refine VC_scope ?_
    | with_reducible refine VC_if ?_
    | with_reducible refine VC_skip ?_
    | with_reducible refine VC_exit ?_
    | with_reducible refine VC_ret ?_
    | (with_reducible refine G_not (fun h => ?_) (fun h => ?_) <;> (try simp only [h]))
    | (with_reducible refine G_cases (fun h => ?_) (fun h => ?_) <;> (try simp only [h]))
    | (with_reducible refine hK _ ?_; clear hK K)
    | (clear hK K; with_reducible refine hK _ ?_; clear hK K)
    | (clear hK K; clear hK K; with_reducible refine hK _ ?_; clear hK K)
    | (clear hK K; clear hK K; clear hK K; with_reducible refine hK _ ?_; clear hK K)
    | (with_reducible refine todo ?_; simp +decide only [go_sem]))
  refine VC_range q.length (fun i => isIn (q.take i) x = false) (fun i => frame [(0, pD (encPieces q)), (3, .c (.ptr 3 0)), (5, pD (.lit (.int .i64 i)))] [(3, [.d (.lit (.int .i64 x.lo)), .d (.lit (.int .i64 x.hi)), .d (encRow x.row)])] []) rfl ?_ ?_
  · refine Weak_frame ?_ ?_ ?_ <;> simp +decide only [go_sem]
    exact wkP_ptr (by simp [hOf])
  · intro i hi hI
    rcases Nat.lt_or_ge i q.length with hlt | hge
    · have hg := List.getElem?_eq_getElem hlt
      have hd := int_lt_true hlt
      have hw := int_next hlt (show q.length ≤ 4294967296 by omega)
      generalize q[i] = y at hg
      have hy := hr y (List.mem_of_getElem? hg)
      repeat' (first
        | with_reducible refine VC_seq fun K hK => ?_
        | with_reducible refine W_region ?_
        | with_reducible refine VC_block ?_
        | with_reducible refine VC_scope ?_
        | with_reducible refine VC_if ?_
        | with_reducible refine VC_skip ?_
        | with_reducible refine VC_exit ?_
        | with_reducible refine VC_ret ?_
        | (with_reducible refine G_not (fun h => ?_) (fun h => ?_) <;> (try simp only [h]))
        | (with_reducible refine G_cases (fun h => ?_) (fun h => ?_) <;> (try simp only [h]))
        | refine C_pure (Try.kRows y.row x.row (by omega)) rfl rfl (fun _ => rfl) ?_
        | (with_reducible refine hK _ ?_; clear hK K)
        | (clear hK K; with_reducible refine hK _ ?_; clear hK K)
        | (clear hK K; clear hK K; with_reducible refine hK _ ?_; clear hK K)
        | (clear hK K; clear hK K; clear hK K; with_reducible refine hK _ ?_; clear hK K)
        | (with_reducible refine todo ?_; simp +decide only [go_sem, hg, hd, hw]))
      all_goals first
        | (have hs : samePiece x y = true := by rw [samePiece_comm]; unfold samePiece; simp [*]
           refine Ret_d rfl ?_
           simp +decide only [go_sem, isIn_found hg hs])
        | (have hs : samePiece x y = false := by rw [samePiece_comm]; unfold samePiece; simp [*]
           refine Next_of hlt (isIn_next hg hI hs) (Weak_frame ?_ ?_ ?_) <;> simp +decide only [go_sem]
           exact wkP_ptr (by simp [hOf]))
    · have hd := int_lt_false hge
      rw [List.take_of_length_le hge] at hI
      repeat' (first
        | with_reducible refine VC_seq fun K hK => ?_
        | with_reducible refine W_region ?_
        | with_reducible refine VC_block ?_
        | with_reducible refine VC_scope ?_
        | with_reducible refine VC_if ?_
        | with_reducible refine VC_skip ?_
        | with_reducible refine VC_exit ?_
        | with_reducible refine VC_ret ?_
        | (with_reducible refine G_not (fun h => ?_) (fun h => ?_) <;> (try simp only [h]))
        | (with_reducible refine G_cases (fun h => ?_) (fun h => ?_) <;> (try simp only [h]))
        | (with_reducible refine hK _ ?_; clear hK K)
        | (clear hK K; with_reducible refine hK _ ?_; clear hK K)
        | (clear hK K; clear hK K; with_reducible refine hK _ ?_; clear hK K)
        | (clear hK K; clear hK K; clear hK K; with_reducible refine hK _ ?_; clear hK K)
        | (with_reducible refine todo ?_; simp +decide only [go_sem, hd]))
      refine Ret_d rfl ?_
      simp +decide only [go_sem, hI]
end Go.Proofs

/-
  The document's pieces: Same, Diff.
-/

namespace Go.Proofs
open Go.PW

set_option maxRecDepth 8000 in
set_option maxHeartbeats 8000000 in
theorem Try.rSame (a b : List Piece) (hr : a.length ≤ 1048576) (hrr : ∀ p ∈ a, p.row.length ≤ 1048576) : PureOK Try.prog 14 [pD (encPieces a), pD (encPieces b)] (.one (dB (samePieces a b))) := by
  refine Try.pure (md := []) Try.func14 rfl Try.call14 (by kernel_rfl) (by rfl) (by exact Nat.le_of_ble_eq_true rfl) ?_
  repeat' (first
    | with_reducible refine VC_seq fun K hK => ?_
    | with_reducible refine W_region ?_
    | with_reducible refine VC_block ?_
    | with_reducible refine VC_scope ?_
    | with_reducible refine VC_if ?_
    | with_reducible refine VC_skip ?_
    | with_reducible refine VC_exit ?_
    | with_reducible refine VC_ret ?_
    | (with_reducible refine G_not (fun h => ?_) (fun h => ?_) <;> (try simp only [h]))
    | (with_reducible refine G_cases (fun h => ?_) (fun h => ?_) <;> (try simp only [h]))
    | (with_reducible refine hK _ ?_; clear hK K)
    | (clear hK K; with_reducible refine hK _ ?_; clear hK K)
    | (clear hK K; clear hK K; with_reducible refine hK _ ?_; clear hK K)
    | (clear hK K; clear hK K; clear hK K; with_reducible refine hK _ ?_; clear hK K)
    | (with_reducible refine todo ?_; simp +decide only [go_sem]))
  · refine Ret_d rfl ?_
    have hne : (a.length == b.length) = false := by
      rw [beq_eq_false_iff_ne]; intro e; rw [e] at h; simp at h
    simp +decide only [go_sem, samePieces, hne]
  · have hlen : a.length = b.length := by
      have e : ((a.length : Int) == (b.length : Int)) = true := by simpa [bne] using h
      exact Int.ofNat_inj.1 (by simpa using e)
    refine VC_range a.length (fun i => (List.zipWith samePiece (a.take i) (b.take i)).all id = true) (fun i => frame [(0, pD (encPieces a)), (1, pD (encPieces b)), (5, pD (.lit (.int .i64 i)))] [] []) rfl ?_ ?_
    · refine Weak_frame ?_ ?_ ?_ <;> simp +decide only [go_sem]
    · intro i hi hI
      rcases Nat.lt_or_ge i a.length with hlt | hge
      · have hg := List.getElem?_eq_getElem hlt
        have hg' := List.getElem?_eq_getElem (show i < b.length by omega)
        have hd := int_lt_true hlt
        have hw := int_next hlt (show a.length ≤ 4294967296 by omega)
        generalize a[i] = x at hg
        generalize b[i] = y at hg'
        have hx := hrr x (List.mem_of_getElem? hg)
        repeat' (first
          | with_reducible refine VC_seq fun K hK => ?_
          | with_reducible refine W_region ?_
          | with_reducible refine VC_block ?_
          | with_reducible refine VC_scope ?_
          | with_reducible refine VC_if ?_
          | with_reducible refine VC_skip ?_
          | with_reducible refine VC_exit ?_
          | with_reducible refine VC_ret ?_
          | (with_reducible refine G_not (fun h => ?_) (fun h => ?_) <;> (try simp only [h]))
          | (with_reducible refine G_cases (fun h => ?_) (fun h => ?_) <;> (try simp only [h]))
          | refine C_pure (Try.kRows x.row y.row (by omega)) rfl rfl (fun _ => rfl) ?_
          | (with_reducible refine hK _ ?_; clear hK K)
          | (clear hK K; with_reducible refine hK _ ?_; clear hK K)
          | (clear hK K; clear hK K; with_reducible refine hK _ ?_; clear hK K)
          | (clear hK K; clear hK K; clear hK K; with_reducible refine hK _ ?_; clear hK K)
          | (with_reducible refine todo ?_; simp +decide only [go_sem, hg, hg', hd, hw]))
        all_goals first
          | (have hf : samePiece x y = true := by unfold samePiece; simp [*]
             refine Next_of hlt (zip_take hI hg hg' hf) (Weak_frame ?_ ?_ ?_) <;> simp +decide only [go_sem])
          | (have hf : samePiece x y = false := by unfold samePiece; simp [*]
             refine Ret_d rfl ?_
             simp +decide only [go_sem, samePieces, zip_not hg hg' hf])
      · have hd := int_lt_false hge
        rw [List.take_of_length_le hge, List.take_of_length_le (show b.length ≤ i by omega)] at hI
        repeat' (first
          | with_reducible refine VC_seq fun K hK => ?_
          | with_reducible refine W_region ?_
          | with_reducible refine VC_block ?_
          | with_reducible refine VC_scope ?_
          | with_reducible refine VC_if ?_
          | with_reducible refine VC_skip ?_
          | with_reducible refine VC_exit ?_
          | with_reducible refine VC_ret ?_
          | (with_reducible refine G_not (fun h => ?_) (fun h => ?_) <;> (try simp only [h]))
          | (with_reducible refine G_cases (fun h => ?_) (fun h => ?_) <;> (try simp only [h]))
          | (with_reducible refine hK _ ?_; clear hK K)
          | (clear hK K; with_reducible refine hK _ ?_; clear hK K)
          | (clear hK K; clear hK K; with_reducible refine hK _ ?_; clear hK K)
          | (clear hK K; clear hK K; clear hK K; with_reducible refine hK _ ?_; clear hK K)
          | (with_reducible refine todo ?_; simp +decide only [go_sem, hd]))
        refine Ret_d rfl ?_
        simp +decide only [go_sem, samePieces, hI, hlen]

set_option maxRecDepth 8000 in
set_option maxHeartbeats 8000000 in
theorem Try.rDiff (a b : List Piece) (hn : a.length ≤ 1048576) (hr : ∀ p ∈ a, p.row.length ≤ 1048576) (hok : rowsOK a) (hn' : b.length ≤ 1048576) (hr' : ∀ p ∈ b, p.row.length ≤ 1048576) (hok' : rowsOK b) :
    PureOK Try.prog 60 [pD (encPieces a), pD (encPieces b)] (.tup [.d (encPieces (diff a b).1), .d (encPieces (diff a b).2)]) := by
  refine Try.pure (md := []) Try.func60 rfl Try.call60 (by kernel_rfl) (by rfl) (by exact Nat.le_of_ble_eq_true rfl) ?_
  repeat' (first
    | with_reducible refine VC_seq fun K hK => ?_
    | with_reducible refine W_region ?_
    | with_reducible refine VC_block ?_
    | with_reducible refine VC_scope ?_
    | with_reducible refine VC_if ?_
    | with_reducible refine VC_skip ?_
    | with_reducible refine VC_exit ?_
    | with_reducible refine VC_ret ?_
    | (with_reducible refine G_not (fun h => ?_) (fun h => ?_) <;> (try simp only [h]))
    | (with_reducible refine G_cases (fun h => ?_) (fun h => ?_) <;> (try simp only [h]))
    | refine C_pure (Try.rRight a hn hr hok) rfl rfl (fun _ => rfl) ?_
    | refine C_pure (Try.rRight b hn' hr' hok') rfl rfl (fun _ => rfl) ?_
    | (with_reducible refine hK _ ?_; clear hK K)
    | (clear hK K; with_reducible refine hK _ ?_; clear hK K)
    | (clear hK K; clear hK K; with_reducible refine hK _ ?_; clear hK K)
    | (clear hK K; clear hK K; clear hK K; with_reducible refine hK _ ?_; clear hK K)
    | (with_reducible refine todo ?_; simp +decide only [go_sem]))
  · have hD : diff a b = (without a b, without b a) := by unfold diff; simp [*]
    rw [hD] at hK ⊢
    refine VC_range a.length (fun _ => True) (fun i => frame [(0, pD (encPieces a)), (1, pD (encPieces b)), (8, pD (.lit (.int .i64 i))), (7, .c (.full [])), (6, .c (.own (39, 0) ((without (a.take i) b).map Piece.enc)))] [] [((39, 0), .co 3 (without (a.take i) b).length)]) True.intro ?_ ?_
    · refine Weak_frame ?_ ?_ ?_ <;> simp +decide only [go_sem, without, List.filter_nil]
      exact wkP_new rfl rfl
    · intro i hi hI
      rcases Nat.lt_or_ge i a.length with hlt | hge
      · have hg := List.getElem?_eq_getElem hlt
        have hd := int_lt_true hlt
        have hw := int_next hlt (show a.length ≤ 4294967296 by omega)
        generalize a[i] = x at hg
        have hl : (without (a.take i) b).length ≤ i := Nat.le_trans (without_length _ _) (by rw [List.length_take]; omega)
        have hnx := without_next (q := b) hg
        repeat' (first
          | with_reducible refine VC_seq fun K hK => ?_
          | with_reducible refine W_region ?_
          | with_reducible refine VC_block ?_
          | with_reducible refine VC_scope ?_
          | with_reducible refine VC_if ?_
          | with_reducible refine VC_skip ?_
          | with_reducible refine VC_exit ?_
          | with_reducible refine VC_ret ?_
          | (with_reducible refine G_not (fun h => ?_) (fun h => ?_) <;> (try simp only [h]))
          | (with_reducible refine G_cases (fun h => ?_) (fun h => ?_) <;> (try simp only [h]))
          | refine C_pure (Try.rAmong b x hn' hr') rfl rfl (fun _ => rfl) ?_
          | (refine W_own Try.appRef rfl (szPieces _) (szOne rfl) (by simp; omega) (by simp +decide only [go_sem]) ?_)
          | (with_reducible refine hK _ ?_; clear hK K)
          | (clear hK K; with_reducible refine hK _ ?_; clear hK K)
          | (clear hK K; clear hK K; with_reducible refine hK _ ?_; clear hK K)
          | (clear hK K; clear hK K; clear hK K; with_reducible refine hK _ ?_; clear hK K)
          | (with_reducible refine todo ?_; simp +decide only [go_sem, hg, hd, hw]))
        all_goals
          simp only [h, if_true, Bool.false_eq_true, if_false, List.append_nil] at hnx
          refine Next_of hlt True.intro (Weak_frame ?_ ?_ ?_) <;> simp +decide only [go_sem, hnx]
          exact wkP_own (by simp [aOf]) rfl
      · have hd := int_lt_false hge
        rw [List.take_of_length_le hge]
        repeat' (first
          | with_reducible refine VC_seq fun K hK => ?_
          | with_reducible refine W_region ?_
          | with_reducible refine VC_block ?_
          | with_reducible refine VC_scope ?_
          | with_reducible refine VC_if ?_
          | with_reducible refine VC_skip ?_
          | with_reducible refine VC_exit ?_
          | with_reducible refine VC_ret ?_
          | (with_reducible refine G_not (fun h => ?_) (fun h => ?_) <;> (try simp only [h]))
          | (with_reducible refine G_cases (fun h => ?_) (fun h => ?_) <;> (try simp only [h]))
          | (with_reducible refine hK _ ?_; clear hK K)
          | (clear hK K; with_reducible refine hK _ ?_; clear hK K)
          | (clear hK K; clear hK K; with_reducible refine hK _ ?_; clear hK K)
          | (clear hK K; clear hK K; clear hK K; with_reducible refine hK _ ?_; clear hK K)
          | (with_reducible refine todo ?_; simp +decide only [go_sem, hd]))
        refine VC_range b.length (fun _ => True) (fun j => frame [(0, pD (encPieces a)), (1, pD (encPieces b)), (9, pD (.lit (.int .i64 j))), (6, pD (encPieces (without a b))), (7, .c (.own (59, 0) ((without (b.take j) a).map Piece.enc)))] [] [((59, 0), .co 3 (without (b.take j) a).length)]) True.intro ?_ ?_
        · refine Weak_frame ?_ ?_ ?_ <;> simp +decide only [go_sem, show without [] a = [] from rfl]
          exact wkP_new rfl rfl
        · intro j hj hJ
          rcases Nat.lt_or_ge j b.length with hlt' | hge'
          · have hg := List.getElem?_eq_getElem hlt'
            have hd := int_lt_true hlt'
            have hw := int_next hlt' (show b.length ≤ 4294967296 by omega)
            generalize b[j] = x at hg
            have hl : (without (b.take j) a).length ≤ j := Nat.le_trans (without_length _ _) (by rw [List.length_take]; omega)
            have hnx := without_next (q := a) hg
            repeat' (first
              | with_reducible refine VC_seq fun K hK => ?_
              | with_reducible refine W_region ?_
              | with_reducible refine VC_block ?_
              | with_reducible refine VC_scope ?_
              | with_reducible refine VC_if ?_
              | with_reducible refine VC_skip ?_
              | with_reducible refine VC_exit ?_
              | with_reducible refine VC_ret ?_
              | (with_reducible refine G_not (fun h => ?_) (fun h => ?_) <;> (try simp only [h]))
              | (with_reducible refine G_cases (fun h => ?_) (fun h => ?_) <;> (try simp only [h]))
              | refine C_pure (Try.rAmong a x hn hr) rfl rfl (fun _ => rfl) ?_
              | (refine W_own Try.appRef rfl (szPieces _) (szOne rfl) (by simp; omega) (by simp +decide only [go_sem]) ?_)
              | (with_reducible refine hK _ ?_; clear hK K)
              | (clear hK K; with_reducible refine hK _ ?_; clear hK K)
              | (clear hK K; clear hK K; with_reducible refine hK _ ?_; clear hK K)
              | (clear hK K; clear hK K; clear hK K; with_reducible refine hK _ ?_; clear hK K)
              | (with_reducible refine todo ?_; simp +decide only [go_sem, hg, hd, hw]))
            all_goals
              simp only [h, if_true, Bool.false_eq_true, if_false, List.append_nil] at hnx
              refine Next_of hlt' True.intro (Weak_frame ?_ ?_ ?_) <;> simp +decide only [go_sem, hnx]
              exact wkP_own (by simp [aOf]) rfl
          · have hd := int_lt_false hge'
            rw [List.take_of_length_le hge']
            repeat' (first
              | with_reducible refine VC_seq fun K hK => ?_
              | with_reducible refine W_region ?_
              | with_reducible refine VC_block ?_
              | with_reducible refine VC_scope ?_
              | with_reducible refine VC_if ?_
              | with_reducible refine VC_skip ?_
              | with_reducible refine VC_exit ?_
              | with_reducible refine VC_ret ?_
              | (with_reducible refine G_not (fun h => ?_) (fun h => ?_) <;> (try simp only [h]))
              | (with_reducible refine G_cases (fun h => ?_) (fun h => ?_) <;> (try simp only [h]))
              | (with_reducible refine hK _ ?_; clear hK K)
              | (clear hK K; with_reducible refine hK _ ?_; clear hK K)
              | (clear hK K; clear hK K; with_reducible refine hK _ ?_; clear hK K)
              | (clear hK K; clear hK K; clear hK K; with_reducible refine hK _ ?_; clear hK K)
              | (with_reducible refine todo ?_; simp +decide only [go_sem, hd]))
            exact Ret_two none rfl (.inl rfl) (.inl rfl)
  all_goals
    have hD : diff a b = ([], []) := by unfold diff; simp [*]
    rw [hD]
    exact Ret_two none rfl (.inl rfl) (.inl rfl)
end Go.Proofs
