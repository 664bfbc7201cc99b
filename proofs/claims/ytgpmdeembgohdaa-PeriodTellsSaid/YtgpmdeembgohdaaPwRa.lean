/-
  The document's spans and values.
-/
import Derived.Test.YtgpmdeembgohdaaPwLc
namespace Go.Proofs
open Go.PW

@[go_sem] theorem B_seql {P : Program} {T : TypeId} {a b : ByteArray} : binS P .eql T (.c (.d (.lit (.string a)))) (.c (.d (.lit (.string b)))) = some (lit (.bool (a.toList == b.toList))) := rfl
@[go_sem] theorem B_sneq {P : Program} {T : TypeId} {a b : ByteArray} : binS P .neq T (.c (.d (.lit (.string a)))) (.c (.d (.lit (.string b)))) = some (lit (.bool (a.toList != b.toList))) := rfl
@[go_sem] theorem semOf_pb {b : Bool} : semOf (Pure.pure (Value.bool b) : Sem Value) = some (.bool b) := rfl

set_option maxHeartbeats 1000000 in
theorem Try.rSpanRight (a b : Int) : PureOK Try.prog 34 [pA (encSpan a b)] (.one (dB (Span.right a b))) := by
  refine Try.pure (md := []) Try.func34 rfl Try.call34 (by kernel_rfl) (by rfl) (by exact Nat.le_of_ble_eq_true rfl) ?_
  repeat' (first
    | with_reducible refine VC_seq fun K hK => ?_
    | with_reducible refine W_region ?_
    | with_reducible refine VC_block ?_
    | with_reducible refine VC_scope ?_
    | with_reducible refine VC_if ?_
    | with_reducible refine VC_skip ?_
    | with_reducible refine VC_exit ?_
    | with_reducible refine VC_ret ?_
    | (with_reducible refine G_not (fun h => ?_) (fun h => ?_) <;> (try simp only [h]))
    | (with_reducible refine G_cases (fun h => ?_) (fun h => ?_) <;> (try simp only [h]))
    | (with_reducible refine hK _ ?_; clear hK K)
    | (clear hK K; with_reducible refine hK _ ?_; clear hK K)
    | (clear hK K; clear hK K; with_reducible refine hK _ ?_; clear hK K)
    | (clear hK K; clear hK K; clear hK K; with_reducible refine hK _ ?_; clear hK K)
    | (with_reducible refine todo ?_; simp +decide only [go_sem]))
  all_goals (refine Ret_d rfl ?_; simp +decide only [go_sem, Span.right, *])

set_option maxHeartbeats 1000000 in
theorem Try.rSpanHas (a b n : Int) : PureOK Try.prog 29 [pA (encSpan a b), pD (.lit (.int .i64 n))] (.one (dB (Span.has a b n))) := by
  refine Try.pure (md := []) Try.func29 rfl Try.call29 (by kernel_rfl) (by rfl) (by exact Nat.le_of_ble_eq_true rfl) ?_
  repeat' (first
    | with_reducible refine VC_seq fun K hK => ?_
    | with_reducible refine W_region ?_
    | with_reducible refine VC_block ?_
    | with_reducible refine VC_scope ?_
    | with_reducible refine VC_if ?_
    | with_reducible refine VC_skip ?_
    | with_reducible refine VC_exit ?_
    | with_reducible refine VC_ret ?_
    | (with_reducible refine G_not (fun h => ?_) (fun h => ?_) <;> (try simp only [h]))
    | (with_reducible refine G_cases (fun h => ?_) (fun h => ?_) <;> (try simp only [h]))
    | refine C_pure (Try.rSpanRight a b) rfl rfl (fun _ => rfl) ?_
    | (with_reducible refine hK _ ?_; clear hK K)
    | (clear hK K; with_reducible refine hK _ ?_; clear hK K)
    | (clear hK K; clear hK K; with_reducible refine hK _ ?_; clear hK K)
    | (clear hK K; clear hK K; clear hK K; with_reducible refine hK _ ?_; clear hK K)
    | (with_reducible refine todo ?_; simp +decide only [go_sem]))
  all_goals (refine Ret_d rfl ?_; simp +decide only [go_sem, Span.has, *])

theorem meet_eq {a b : Sp} (ha : Span.right a.1 a.2 = true) (hb : Span.right b.1 b.2 = true) : meet a b = if iMin a.2 b.2 ≤ iMax a.1 b.1 then none else some (iMax a.1 b.1, iMin a.2 b.2) := by
  unfold meet
  rw [ha, hb]
  simp only [Bool.true_and]
  rw [spanRight_iff] at ha hb
  by_cases h : iMin a.2 b.2 ≤ iMax a.1 b.1
  · have : Span.right (iMax a.1 b.1) (iMin a.2 b.2) = false := by
      rw [Bool.eq_false_iff]; intro h'; rw [spanRight_iff] at h'; omega
    rw [this, if_pos h]
    rfl
  · have : Span.right (iMax a.1 b.1) (iMin a.2 b.2) = true := by
      rw [spanRight_iff]; unfold iMax iMin at h ⊢; split <;> split <;> simp_all <;> omega
    rw [this, if_neg h]
    rfl
theorem meet_not {a b : Sp} (h : Span.right a.1 a.2 = false ∨ Span.right b.1 b.2 = false) : meet a b = none := by
  unfold meet
  rcases h with h | h <;> rw [h] <;> simp

set_option maxHeartbeats 1000000 in
theorem Try.rMeet (a b : Sp) : PureOK Try.prog 30 [pA a.enc, pA b.enc] (optSpan (meet a b)) := by
  refine Try.pure (md := []) Try.func30 rfl Try.call30 (by kernel_rfl) (by rfl) (by exact Nat.le_of_ble_eq_true rfl) ?_
  have ha : a.enc = encSpan a.1 a.2 := rfl
  have hb : b.enc = encSpan b.1 b.2 := rfl
  repeat' (first
    | with_reducible refine VC_seq fun K hK => ?_
    | with_reducible refine W_region ?_
    | with_reducible refine VC_block ?_
    | with_reducible refine VC_scope ?_
    | with_reducible refine VC_if ?_
    | with_reducible refine VC_skip ?_
    | with_reducible refine VC_exit ?_
    | with_reducible refine VC_ret ?_
    | (with_reducible refine G_not (fun h => ?_) (fun h => ?_) <;> (try simp only [h]))
    | (with_reducible refine G_cases (fun h => ?_) (fun h => ?_) <;> (try simp only [h]))
    | refine C_pure (Try.rSpanRight a.1 a.2) rfl rfl (fun _ => rfl) ?_
    | refine C_pure (Try.rSpanRight b.1 b.2) rfl rfl (fun _ => rfl) ?_
    | (with_reducible refine hK _ ?_; clear hK K)
    | (clear hK K; with_reducible refine hK _ ?_; clear hK K)
    | (clear hK K; clear hK K; with_reducible refine hK _ ?_; clear hK K)
    | (clear hK K; clear hK K; clear hK K; with_reducible refine hK _ ?_; clear hK K)
    | (with_reducible refine todo ?_; simp +decide only [go_sem, ha, hb]))
  all_goals first
    | (rw [meet_eq (by assumption) (by assumption), if_pos (by simpa [iMin, iMax] using h)]
       refine Ret_cell2 rfl ?_ rfl
       simp +decide only [go_sem])
    | (rw [meet_eq (by assumption) (by assumption), if_neg (by simpa [iMin, iMax] using h)]
       refine Ret_cell2 rfl ?_ rfl
       simp +decide only [go_sem, Sp.enc]
       rfl)
    | (rw [meet_not (by simp [*])]
       refine Ret_cell2 rfl ?_ rfl
       simp +decide only [go_sem])

set_option maxHeartbeats 1000000 in
theorem Try.rCanon (b : Int) : PureOK Try.prog 50 [pD (.lit (.int .u64 b))] (.one (.d (.lit (.int .u64 (canonI b))))) := by
  refine Try.pure (md := []) Try.func50 rfl Try.call50 (by kernel_rfl) (by rfl) (by exact Nat.le_of_ble_eq_true rfl) ?_
  repeat' (first
    | with_reducible refine VC_seq fun K hK => ?_
    | with_reducible refine W_region ?_
    | with_reducible refine VC_block ?_
    | with_reducible refine VC_scope ?_
    | with_reducible refine VC_if ?_
    | with_reducible refine VC_skip ?_
    | with_reducible refine VC_exit ?_
    | with_reducible refine VC_ret ?_
    | (with_reducible refine G_not (fun h => ?_) (fun h => ?_) <;> (try simp only [h]))
    | (with_reducible refine G_cases (fun h => ?_) (fun h => ?_) <;> (try simp only [h]))
    | (with_reducible refine hK _ ?_; clear hK K)
    | (clear hK K; with_reducible refine hK _ ?_; clear hK K)
    | (clear hK K; clear hK K; with_reducible refine hK _ ?_; clear hK K)
    | (clear hK K; clear hK K; clear hK K; with_reducible refine hK _ ?_; clear hK K)
    | (with_reducible refine todo ?_; simp +decide only [go_sem]))
  all_goals (refine Ret_d rfl ?_; simp +decide only [go_sem, canonI, *])

set_option maxHeartbeats 4000000 in
theorem Try.rValue0 (v : Val) : PureOK Try.prog 44 [pA v.enc] (.one (dB v.rright)) := by
  refine Try.pure (md := []) Try.func44 rfl Try.call44 (by kernel_rfl) (by rfl) (by exact Nat.le_of_ble_eq_true rfl) ?_
  repeat' (first
    | with_reducible refine VC_seq fun K hK => ?_
    | with_reducible refine W_region ?_
    | with_reducible refine VC_block ?_
    | with_reducible refine VC_scope ?_
    | with_reducible refine VC_if ?_
    | with_reducible refine VC_skip ?_
    | with_reducible refine VC_exit ?_
    | with_reducible refine VC_ret ?_
    | (with_reducible refine G_not (fun h => ?_) (fun h => ?_) <;> (try simp only [h]))
    | (with_reducible refine G_cases (fun h => ?_) (fun h => ?_) <;> (try simp only [h]))
    | refine C_pure (Try.rCanon v.bits) rfl rfl (fun _ => rfl) ?_
    | (with_reducible refine hK _ ?_; clear hK K)
    | (clear hK K; with_reducible refine hK _ ?_; clear hK K)
    | (clear hK K; clear hK K; with_reducible refine hK _ ?_; clear hK K)
    | (clear hK K; clear hK K; clear hK K; with_reducible refine hK _ ?_; clear hK K)
    | (with_reducible refine todo ?_; simp +decide only [go_sem]))
  all_goals (refine Ret_d rfl ?_; simp +decide only [go_sem, Val.rright, *])
theorem Try.rValue (v : Val) (h : v.ok) : PureOK Try.prog 44 [pA v.enc] (.one (dB v.right)) := by
  rw [← rright_eq h]
  exact Try.rValue0 v

set_option maxHeartbeats 400000 in
theorem Try.rRowRight (r : Row) (hr : r.length ≤ 4294967296) (hok : Row.ok' r) : PureOK Try.prog 35 [pD (encRow r)] (.one (dB (rowRight r))) := by
  refine Try.pure (md := []) Try.func35 rfl Try.call35 (by kernel_rfl) (by rfl) (by exact Nat.le_of_ble_eq_true rfl) ?_
  repeat' (first
    | with_reducible refine VC_seq fun K hK => ?_
    | with_reducible refine W_region ?_
    | with_reducible refine VC_block ?_
    | with_reducible refine VC_scope ?_
    | with_reducible refine VC_if ?_
    | with_reducible refine VC_skip ?_
    | with_reducible refine VC_exit ?_
    | with_reducible refine VC_ret ?_
    | (with_reducible refine G_not (fun h => ?_) (fun h => ?_) <;> (try simp only [h]))
    | (with_reducible refine G_cases (fun h => ?_) (fun h => ?_) <;> (try simp only [h]))
    | (with_reducible refine hK _ ?_; clear hK K)
    | (clear hK K; with_reducible refine hK _ ?_; clear hK K)
    | (clear hK K; clear hK K; with_reducible refine hK _ ?_; clear hK K)
    | (clear hK K; clear hK K; clear hK K; with_reducible refine hK _ ?_; clear hK K)
    | (with_reducible refine todo ?_; simp +decide only [go_sem]))
  refine VC_range r.length (fun i => rowRight (r.take i) = true) (fun i => frame [(0, pD (encRow r)), (3, pD (.lit (.int .i64 i)))] [] []) rfl ?_ ?_
  · refine Weak_frame ?_ ?_ ?_ <;> simp +decide only [go_sem]
  · intro i hi hI
    rcases Nat.lt_or_ge i r.length with hlt | hge
    · have hg := List.getElem?_eq_getElem hlt
      have hd := int_lt_true hlt
      have hw := int_next hlt hr
      generalize r[i] = v at hg
      have hv := hok v (List.mem_of_getElem? hg)
      repeat' (first
        | with_reducible refine VC_seq fun K hK => ?_
        | with_reducible refine W_region ?_
        | with_reducible refine VC_block ?_
        | with_reducible refine VC_scope ?_
        | with_reducible refine VC_if ?_
        | with_reducible refine VC_skip ?_
        | with_reducible refine VC_exit ?_
        | with_reducible refine VC_ret ?_
        | (with_reducible refine G_not (fun h => ?_) (fun h => ?_) <;> (try simp only [h]))
        | (with_reducible refine G_cases (fun h => ?_) (fun h => ?_) <;> (try simp only [h]))
        | refine C_pure (Try.rValue v hv) rfl rfl (fun _ => rfl) ?_
        | (with_reducible refine hK _ ?_; clear hK K)
        | (clear hK K; with_reducible refine hK _ ?_; clear hK K)
        | (clear hK K; clear hK K; with_reducible refine hK _ ?_; clear hK K)
        | (clear hK K; clear hK K; clear hK K; with_reducible refine hK _ ?_; clear hK K)
        | (with_reducible refine todo ?_; simp +decide only [go_sem, hg, hd, hw]))
      · refine Next_of hlt (all_take hI hg h) (Weak_frame ?_ ?_ ?_) <;> simp +decide only [go_sem]
      · refine Ret_d rfl ?_
        simp +decide only [go_sem, all_not hg h, rowRight]
    · have hd := int_lt_false hge
      rw [List.take_of_length_le hge] at hI
      repeat' (first
        | with_reducible refine VC_seq fun K hK => ?_
        | with_reducible refine W_region ?_
        | with_reducible refine VC_block ?_
        | with_reducible refine VC_scope ?_
        | with_reducible refine VC_if ?_
        | with_reducible refine VC_skip ?_
        | with_reducible refine VC_exit ?_
        | with_reducible refine VC_ret ?_
        | (with_reducible refine G_not (fun h => ?_) (fun h => ?_) <;> (try simp only [h]))
        | (with_reducible refine G_cases (fun h => ?_) (fun h => ?_) <;> (try simp only [h]))
        | (with_reducible refine hK _ ?_; clear hK K)
        | (clear hK K; with_reducible refine hK _ ?_; clear hK K)
        | (clear hK K; clear hK K; with_reducible refine hK _ ?_; clear hK K)
        | (clear hK K; clear hK K; clear hK K; with_reducible refine hK _ ?_; clear hK K)
        | (with_reducible refine todo ?_; simp +decide only [go_sem, hd]))
      refine Ret_d rfl ?_
      simp +decide only [go_sem, hI]
end Go.Proofs
