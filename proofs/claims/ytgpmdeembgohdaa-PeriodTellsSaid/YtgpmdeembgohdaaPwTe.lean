/-
  PeriodTells: the law's own body.
-/
import Derived.Test.YtgpmdeembgohdaaPwDf
import Derived.Test.YtgpmdeembgohdaaPwRe
namespace Go.Proofs
open Go.PW

theorem putP_len' (ps : List Piece) (s : Sp) (r : Row) : (putP ps s r).length ≤ ps.length + 2 := by
  cases h : right ps with
  | true => exact putP_len h
  | false => unfold putP; rw [h]; simp
theorem drop_len' (ps : List Piece) (s : Sp) : (drop ps s).length ≤ ps.length + 1 := by
  cases h : right ps with
  | true => exact drop_len h
  | false => unfold drop; rw [h]; simp
theorem optRow_eq (r : Option Row) : optRow r = .tup [.own 4 ((rowOf r).map Val.enc), dB r.isSome] := by cases r <;> rfl
theorem optRowD_eq (r : Option Row) : optRowD r = .tup [.d (encRow (rowOf r)), dB r.isSome] := by cases r <;> rfl

set_option maxRecDepth 8000 in
set_option maxHeartbeats 16000000 in
theorem Try.kTells (l : List Piece) (o : OpP) (t : Int) (hl : ∀ p ∈ l, Piece.ok p) (ho : OpP.ok o) : PureOK Try.prog 3 [pD (encPieces l), pA o.enc, pD (.lit (.int .i64 t))] (.one (dB true)) := by
  refine Try.pure (md := []) Try.func3 rfl Try.call3 (by kernel_rfl) (by rfl) (by exact Nat.le_of_ble_eq_true rfl) ?_
  have kl := Try.kLight l
  cases el : lightP l with
  | false =>
    rw [el] at kl
    repeat' (first
      | with_reducible refine VC_seq fun K hK => ?_
      | with_reducible refine W_region ?_
      | with_reducible refine VC_block ?_
      | with_reducible refine VC_scope ?_
      | with_reducible refine VC_if ?_
      | with_reducible refine VC_skip ?_
      | with_reducible refine VC_exit ?_
      | with_reducible refine VC_ret ?_
      | (with_reducible refine G_not (fun h => ?_) (fun h => ?_) <;> (try simp only [h]))
      | (with_reducible refine G_cases (fun h => ?_) (fun h => ?_) <;> (try simp only [h]))
      | refine C_pure kl rfl rfl (fun _ => rfl) ?_
      | refine C_pure Try.kKnown rfl rfl (fun _ => rfl) ?_
      | (with_reducible refine hK _ ?_; clear hK K)
      | (clear hK K; with_reducible refine hK _ ?_; clear hK K)
      | (clear hK K; clear hK K; with_reducible refine hK _ ?_; clear hK K)
      | (clear hK K; clear hK K; clear hK K; with_reducible refine hK _ ?_; clear hK K)
      | (with_reducible refine todo ?_; simp +decide only [go_sem]))
    refine Ret_d rfl ?_
    simp +decide only [go_sem]
  | true =>
    rw [el] at kl
    rcases Nat.lt_or_ge 20 o.row.length with hlong | hshort
    · have h20 : ((o.row.length : Int) > 20) = True := eq_true (by omega)
      repeat' (first
        | with_reducible refine VC_seq fun K hK => ?_
        | with_reducible refine W_region ?_
        | with_reducible refine VC_block ?_
        | with_reducible refine VC_scope ?_
        | with_reducible refine VC_if ?_
        | with_reducible refine VC_skip ?_
        | with_reducible refine VC_exit ?_
        | with_reducible refine VC_ret ?_
        | (with_reducible refine G_not (fun h => ?_) (fun h => ?_) <;> (try simp only [h]))
        | (with_reducible refine G_cases (fun h => ?_) (fun h => ?_) <;> (try simp only [h]))
        | refine C_pure kl rfl rfl (fun _ => rfl) ?_
        | refine C_pure Try.kKnown rfl rfl (fun _ => rfl) ?_
        | (with_reducible refine hK _ ?_; clear hK K)
        | (clear hK K; with_reducible refine hK _ ?_; clear hK K)
        | (clear hK K; clear hK K; with_reducible refine hK _ ?_; clear hK K)
        | (clear hK K; clear hK K; clear hK K; with_reducible refine hK _ ?_; clear hK K)
        | (with_reducible refine todo ?_; simp +decide only [go_sem, h20]))
      refine Ret_d rfl ?_
      simp +decide only [go_sem]
    · have h20 : ((o.row.length : Int) > 20) = False := eq_false (by omega)
      obtain ⟨nl, rl⟩ := light_ok el
      have rl' : ∀ p ∈ l, p.row.length ≤ 1048576 := fun p hp => Nat.le_trans (rl p hp) (by decide)
      have okl : rowsOK l := fun p hp => (hl p hp).2
      have pl := Try.kPlain l (by omega)
      have ka := Try.kAt l t (by omega) rl'
      have ra := Try.rAt l t (by omega) rl' okl
      rw [optRow_eq] at ka
      rw [optRowD_eq] at ra
      have hrow : (rowOf (at_ l t)).length ≤ 20 := by
        cases e : at_ l t with
        | none => exact Nat.zero_le _
        | some r =>
          unfold at_ at e
          cases hr : right l with
          | false => rw [hr] at e; cases e
          | true =>
            rw [hr] at e
            obtain ⟨p, hp, _, rfl⟩ := (at_iff hr).1 e
            exact rl p hp
      have kR := Try.kRows (rowOf (at_ l t)) (rowOf (at_ l t)) (by omega)
      rw [sameRow_iff.2 rfl] at kR
      generalize rowOf (at_ l t) = r0 at *
      generalize (at_ l t).isSome = b0 at *
      have k1 := Try.kRight l (by omega) rl'
      have k2 := Try.rRight l (by omega) rl' okl
      generalize right l = rr at *
      have k3 := Try.kPut l o.s o.row (by omega) rl' (by omega)
      have k4 := Try.rPut l o.s o.row (by omega) rl' okl (by omega) ho.2
      have n3 := putP_len' l o.s o.row
      have w3 := putP_row (s := o.s) (r := o.row) rl' (by omega)
      generalize putP l o.s o.row = P at *
      have k5 := Try.kPlain P (by omega)
      have k6 := Try.rSame P P (by omega) w3
      rw [samePieces_iff.2 rfl] at k6
      have k7 := Try.kDrop l o.s (by omega) rl'
      have k8 := Try.rDrop l o.s (by omega) rl' okl
      have n7 := drop_len' l o.s
      have w7 := drop_row (s := o.s) rl'
      generalize drop l o.s = D at *
      have k9 := Try.kPlain D (by omega)
      have k10 := Try.rSame D D (by omega) w7
      rw [samePieces_iff.2 rfl] at k10
      have k11 := Try.kCoalesce l (by omega) rl'
      have k12 := Try.rCoalesce l (by omega) rl' okl
      have n11 : (coalesce l).length ≤ l.length := by
        unfold coalesce
        split
        · exact co_length l
        · exact Nat.le_refl _
      have w11 : ∀ p ∈ coalesce l, p.row.length ≤ 1048576 := by
        unfold coalesce
        split
        · exact co_rows rl'
        · exact rl'
      generalize coalesce l = C at *
      have k13 := Try.kPlain C (by omega)
      have k14 := Try.rSame C C (by omega) w11
      rw [samePieces_iff.2 rfl] at k14
      have k15 := Try.rSame l l (by omega) rl'
      rw [samePieces_iff.2 rfl] at k15
      have hb0 : (b0 == b0) = true := beq_self_eq_true b0
      have hrr : (rr == rr) = true := beq_self_eq_true rr
      repeat' (first
        | with_reducible refine VC_seq fun K hK => ?_
        | with_reducible refine W_region ?_
        | with_reducible refine VC_block ?_
        | with_reducible refine VC_scope ?_
        | with_reducible refine VC_if ?_
        | with_reducible refine VC_skip ?_
        | with_reducible refine VC_exit ?_
        | with_reducible refine VC_ret ?_
        | (with_reducible refine G_not (fun h => ?_) (fun h => ?_) <;> (try simp only [h]))
        | (with_reducible refine G_cases (fun h => ?_) (fun h => ?_) <;> (try simp only [h]))
        | refine C_pure kl rfl rfl (fun _ => rfl) ?_
        | refine C_pure pl rfl rfl (fun _ => rfl) ?_
        | refine C_pure ka rfl rfl (fun _ => rfl) ?_
        | refine C_pure ra rfl rfl (fun _ => rfl) ?_
        | refine C_pure kR rfl rfl (fun _ => rfl) ?_
        | refine C_pure k1 rfl rfl (fun _ => rfl) ?_
        | refine C_pure k2 rfl rfl (fun _ => rfl) ?_
        | refine C_pure k3 rfl rfl (fun _ => rfl) ?_
        | refine C_pure k4 rfl rfl (fun _ => rfl) ?_
        | refine C_pure k5 rfl rfl (fun _ => rfl) ?_
        | refine C_pure k6 rfl rfl (fun _ => rfl) ?_
        | refine C_pure k7 rfl rfl (fun _ => rfl) ?_
        | refine C_pure k8 rfl rfl (fun _ => rfl) ?_
        | refine C_pure k9 rfl rfl (fun _ => rfl) ?_
        | refine C_pure k10 rfl rfl (fun _ => rfl) ?_
        | refine C_pure k11 rfl rfl (fun _ => rfl) ?_
        | refine C_pure k12 rfl rfl (fun _ => rfl) ?_
        | refine C_pure k13 rfl rfl (fun _ => rfl) ?_
        | refine C_pure k14 rfl rfl (fun _ => rfl) ?_
        | refine C_pure k15 rfl rfl (fun _ => rfl) ?_
        | refine C_pure Try.kKnown rfl rfl (fun _ => rfl) ?_
        | (with_reducible refine hK _ ?_; clear hK K)
        | (clear hK K; with_reducible refine hK _ ?_; clear hK K)
        | (clear hK K; clear hK K; with_reducible refine hK _ ?_; clear hK K)
        | (clear hK K; clear hK K; clear hK K; with_reducible refine hK _ ?_; clear hK K)
        | (with_reducible refine todo ?_; simp +decide only [go_sem, h20, hb0, hrr]))
      refine Ret_d rfl ?_
      simp +decide only [go_sem]
end Go.Proofs
