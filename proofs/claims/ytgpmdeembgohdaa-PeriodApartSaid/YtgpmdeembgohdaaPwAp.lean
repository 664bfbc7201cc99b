/-
  PeriodApart: the law's own body.
-/
import Derived.Test.YtgpmdeembgohdaaPwFn
import Derived.Test.YtgpmdeembgohdaaPwLb
import Derived.Test.YtgpmdeembgohdaaPwRa
namespace Go.Proofs
open Go.PW

theorem meet_apart {a b : Sp} (h : meet a b = none) (ha : Span.right a.1 a.2 = true) (hb : Span.right b.1 b.2 = true) : a.2 ≤ b.1 ∨ b.2 ≤ a.1 := by
  rw [meet_eq ha hb] at h
  rw [spanRight_iff] at ha hb
  split at h
  · rename_i h1
    unfold iMin iMax at h1
    split at h1 <;> split at h1 <;> omega
  · cases h

set_option maxHeartbeats 4000000 in
theorem Try.kApart (s : List OpP) (a b : OpP) : PureOK Try.prog 9 [pD (encOps s), pA a.enc, pA b.enc] (.one (dB true)) := by
  refine Try.pure (md := []) Try.func9 rfl Try.call9 (by kernel_rfl) (by rfl) (by exact Nat.le_of_ble_eq_true rfl) ?_
  have kB := Try.kBuild s
  obtain ⟨hr0, hl0, hw0⟩ := buildP_ok s
  have hm := Try.rMeet a.s b.s
  cases hmm : meet a.s b.s with
  | some m =>
    rw [hmm] at hm
    have hme : m.enc = encSpan m.1 m.2 := rfl
    repeat' (first
      | with_reducible refine VC_seq fun K hK => ?_
      | with_reducible refine W_region ?_
      | with_reducible refine VC_block ?_
      | with_reducible refine VC_scope ?_
      | with_reducible refine VC_if ?_
      | with_reducible refine VC_skip ?_
      | with_reducible refine VC_exit ?_
      | with_reducible refine VC_ret ?_
      | (with_reducible refine G_not (fun h => ?_) (fun h => ?_) <;> (try simp only [h]))
      | (with_reducible refine G_cases (fun h => ?_) (fun h => ?_) <;> (try simp only [h]))
      | refine C_pure hm rfl rfl (fun _ => rfl) ?_
      | refine C_pure Try.kKnown rfl rfl (fun _ => rfl) ?_
      | (with_reducible refine hK _ ?_; clear hK K)
      | (clear hK K; with_reducible refine hK _ ?_; clear hK K)
      | (clear hK K; clear hK K; with_reducible refine hK _ ?_; clear hK K)
      | (clear hK K; clear hK K; clear hK K; with_reducible refine hK _ ?_; clear hK K)
      | (with_reducible refine todo ?_; simp +decide only [go_sem, optSpan, hme]))
    refine Ret_d rfl ?_
    simp +decide only [go_sem]
  | none =>
    rw [hmm] at hm
    have hcomm := put_comm (ps := buildP s) (u := a.row) (v := b.row) hr0 (meet_apart hmm)
    generalize buildP s = l at *
    have hlr : ∀ p ∈ l, p.row.length ≤ 1048576 := fun p hp => Nat.le_trans (hw0 p hp) (by decide)
    rcases Nat.lt_or_ge 20 a.row.length with ha | ha
    · have h20 : ((a.row.length : Int) > 20) = True := eq_true (by omega)
      repeat' (first
        | with_reducible refine VC_seq fun K hK => ?_
        | with_reducible refine W_region ?_
        | with_reducible refine VC_block ?_
        | with_reducible refine VC_scope ?_
        | with_reducible refine VC_if ?_
        | with_reducible refine VC_skip ?_
        | with_reducible refine VC_exit ?_
        | with_reducible refine VC_ret ?_
        | (with_reducible refine G_not (fun h => ?_) (fun h => ?_) <;> (try simp only [h]))
        | (with_reducible refine G_cases (fun h => ?_) (fun h => ?_) <;> (try simp only [h]))
        | refine C_pure hm rfl rfl (fun _ => rfl) ?_
        | refine C_pure Try.kKnown rfl rfl (fun _ => rfl) ?_
        | (with_reducible refine hK _ ?_; clear hK K)
        | (clear hK K; with_reducible refine hK _ ?_; clear hK K)
        | (clear hK K; clear hK K; with_reducible refine hK _ ?_; clear hK K)
        | (clear hK K; clear hK K; clear hK K; with_reducible refine hK _ ?_; clear hK K)
        | (with_reducible refine todo ?_; simp +decide only [go_sem, optSpan, h20]))
      refine Ret_d rfl ?_
      simp +decide only [go_sem]
    · have h20 : ((a.row.length : Int) > 20) = False := eq_false (by omega)
      rcases Nat.lt_or_ge 20 b.row.length with hb | hb
      · have h21 : ((b.row.length : Int) > 20) = True := eq_true (by omega)
        repeat' (first
          | with_reducible refine VC_seq fun K hK => ?_
          | with_reducible refine W_region ?_
          | with_reducible refine VC_block ?_
          | with_reducible refine VC_scope ?_
          | with_reducible refine VC_if ?_
          | with_reducible refine VC_skip ?_
          | with_reducible refine VC_exit ?_
          | with_reducible refine VC_ret ?_
          | (with_reducible refine G_not (fun h => ?_) (fun h => ?_) <;> (try simp only [h]))
          | (with_reducible refine G_cases (fun h => ?_) (fun h => ?_) <;> (try simp only [h]))
          | refine C_pure hm rfl rfl (fun _ => rfl) ?_
          | refine C_pure Try.kKnown rfl rfl (fun _ => rfl) ?_
          | (with_reducible refine hK _ ?_; clear hK K)
          | (clear hK K; with_reducible refine hK _ ?_; clear hK K)
          | (clear hK K; clear hK K; with_reducible refine hK _ ?_; clear hK K)
          | (clear hK K; clear hK K; clear hK K; with_reducible refine hK _ ?_; clear hK K)
          | (with_reducible refine todo ?_; simp +decide only [go_sem, optSpan, h20, h21]))
        refine Ret_d rfl ?_
        simp +decide only [go_sem]
      · have h21 : ((b.row.length : Int) > 20) = False := eq_false (by omega)
        have k1 := Try.kPut l a.s a.row (by omega) hlr (by omega)
        have k2 := Try.kPut l b.s b.row (by omega) hlr (by omega)
        have r1 := putP_right (s := a.s) (r := a.row) hr0
        have r2 := putP_right (s := b.s) (r := b.row) hr0
        have l1 := putP_len (s := a.s) (r := a.row) hr0
        have l2 := putP_len (s := b.s) (r := b.row) hr0
        have w1 := putP_row (s := a.s) (r := a.row) hlr (by omega)
        have w2 := putP_row (s := b.s) (r := b.row) hlr (by omega)
        have k3 := Try.kPut (putP l a.s a.row) b.s b.row (by omega) w1 (by omega)
        have k4 := Try.kPut (putP l b.s b.row) a.s a.row (by omega) w2 (by omega)
        have l3 := putP_len (s := a.s) (r := a.row) r2
        have w3 := putP_row (s := a.s) (r := a.row) w2 (by omega)
        rw [hcomm] at k3
        generalize putP (putP l b.s b.row) a.s a.row = x at *
        generalize putP l a.s a.row = y at *
        generalize putP l b.s b.row = z at *
        have k5 := Try.kSameP x x (by omega) w3
        rw [samePieces_iff.2 rfl] at k5
        repeat' (first
          | with_reducible refine VC_seq fun K hK => ?_
          | with_reducible refine W_region ?_
          | with_reducible refine VC_block ?_
          | with_reducible refine VC_scope ?_
          | with_reducible refine VC_if ?_
          | with_reducible refine VC_skip ?_
          | with_reducible refine VC_exit ?_
          | with_reducible refine VC_ret ?_
          | (with_reducible refine G_not (fun h => ?_) (fun h => ?_) <;> (try simp only [h]))
          | (with_reducible refine G_cases (fun h => ?_) (fun h => ?_) <;> (try simp only [h]))
          | refine C_pure hm rfl rfl (fun _ => rfl) ?_
          | refine C_pure kB rfl rfl (fun _ => rfl) ?_
          | refine C_pure k1 rfl rfl (fun _ => rfl) ?_
          | refine C_pure k2 rfl rfl (fun _ => rfl) ?_
          | refine C_pure k3 rfl rfl (fun _ => rfl) ?_
          | refine C_pure k4 rfl rfl (fun _ => rfl) ?_
          | refine C_pure k5 rfl rfl (fun _ => rfl) ?_
          | refine C_pure Try.kKnown rfl rfl (fun _ => rfl) ?_
          | (with_reducible refine hK _ ?_; clear hK K)
          | (clear hK K; with_reducible refine hK _ ?_; clear hK K)
          | (clear hK K; clear hK K; with_reducible refine hK _ ?_; clear hK K)
          | (clear hK K; clear hK K; clear hK K; with_reducible refine hK _ ?_; clear hK K)
          | (with_reducible refine todo ?_; simp +decide only [go_sem, optSpan, h20, h21]))
        refine Ret_d rfl ?_
        simp +decide only [go_sem]
end Go.Proofs
