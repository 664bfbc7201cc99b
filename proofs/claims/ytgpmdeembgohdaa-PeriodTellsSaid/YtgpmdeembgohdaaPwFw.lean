/-
  PeriodFew: the law's own body.
-/
import Derived.Test.YtgpmdeembgohdaaPwFn
import Derived.Test.YtgpmdeembgohdaaPwLd
namespace Go.Proofs
open Go.PW

@[go_sem] theorem B_beql {P : Program} {T : TypeId} {a b : Bool} (h : P.underlying T = some .bool) : binS P .eql T (.c (.d (.lit (.bool a)))) (.c (.d (.lit (.bool b)))) = some (lit (.bool (a == b))) := by
  simp [binS, eqS, h]
@[go_sem] theorem B_bneq {P : Program} {T : TypeId} {a b : Bool} (h : P.underlying T = some .bool) : binS P .neq T (.c (.d (.lit (.bool a)))) (.c (.d (.lit (.bool b)))) = some (lit (.bool (!(a == b)))) := by
  simp [binS, eqS, h]

def rowOf (r : Option Row) : Row := r.getD []

set_option maxHeartbeats 8000000 in
theorem Try.kFew (s : List OpP) (t : Int) : PureOK Try.prog 6 [pD (encOps s), pD (.lit (.int .i64 t))] (.one (dB true)) := by
  refine Try.pure (md := []) Try.func6 rfl Try.call6 (by kernel_rfl) (by rfl) (by exact Nat.le_of_ble_eq_true rfl) ?_
  have kB := Try.kBuild s
  obtain ⟨hr0, hl0, hw0⟩ := buildP_ok s
  generalize buildP s = l at *
  have hlr : ∀ p ∈ l, p.row.length ≤ 1048576 := fun p hp => Nat.le_trans (hw0 p hp) (by decide)
  have hcl := co_length l
  have hcw : ∀ p ∈ co l, p.row.length ≤ 20 := co_rows hw0
  have hcr : ∀ p ∈ co l, p.row.length ≤ 1048576 := fun p hp => Nat.le_trans (hcw p hp) (by decide)
  have k1 := Try.kCoalesce l (by omega) hlr
  have hco : coalesce l = co l := by unfold coalesce; rw [hr0]; rfl
  have hrc := co_right hr0
  have hnt := co_noTouch l
  have htw := co_twice l
  have hat := co_at hr0 t
  rw [hco] at k1
  have k2 := Try.kAt l t (by omega) hlr
  have k3 := Try.kAt (co l) t (by omega) hcr
  have k4 := Try.kCoalesce (co l) (by omega) hcr
  have hco2 : coalesce (co l) = co l := by unfold coalesce; rw [hrc]; exact htw
  rw [hco2] at k4
  have k5 := Try.kSameP (co l) (co l) (by omega) hcr
  rw [samePieces_iff.2 rfl] at k5
  have k6 := Try.kRight (co l) (by omega) hcr
  rw [hrc] at k6
  have ea : at_ l t = at' l t := by unfold at_; rw [hr0]; rfl
  have eb : at_ (co l) t = at' l t := by unfold at_; rw [hrc]; exact hat
  rw [ea] at k2
  rw [eb] at k3
  have hrow : ∀ r, at' l t = some r → r.length ≤ 20 := fun r hr => by
    obtain ⟨p, hp, _, rfl⟩ := (at_iff hr0).1 hr
    exact hw0 p hp
  have hle : (((co l).length : Int) ≤ (l.length : Int)) = True := eq_true (by omega)
  have kR : ∀ r : Row, r.length ≤ 20 → PureOK Try.prog 22 [pD (encRow r), pD (encRow r)] (.one (dB true)) := fun r hr => by
    have := Try.kRows r r (by omega)
    rwa [sameRow_iff.2 rfl] at this
  generalize at' l t = at0 at *
  have k7 := kR (rowOf at0) (by cases at0 with | none => exact Nat.zero_le _ | some r => exact hrow r rfl)
  have hrow2 : optRow at0 = .tup [.own 4 ((rowOf at0).map Val.enc), dB at0.isSome] := by cases at0 <;> rfl
  rw [hrow2] at k2 k3
  generalize rowOf at0 = r0 at *
  generalize at0.isSome = b0 at *
  generalize hc : co l = c at *
  repeat' (first
    | with_reducible refine VC_seq fun K hK => ?_
    | with_reducible refine W_region ?_
    | with_reducible refine VC_block ?_
    | with_reducible refine VC_scope ?_
    | with_reducible refine VC_if ?_
    | with_reducible refine VC_skip ?_
    | with_reducible refine VC_exit ?_
    | with_reducible refine VC_ret ?_
    | (with_reducible refine G_not (fun h => ?_) (fun h => ?_) <;> (try simp only [h]))
    | (with_reducible refine G_cases (fun h => ?_) (fun h => ?_) <;> (try simp only [h]))
    | refine C_pure kB rfl rfl (fun _ => rfl) ?_
    | refine C_pure k1 rfl rfl (fun _ => rfl) ?_
    | refine C_pure k2 rfl rfl (fun _ => rfl) ?_
    | refine C_pure k3 rfl rfl (fun _ => rfl) ?_
    | (with_reducible refine hK _ ?_; clear hK K)
    | (clear hK K; with_reducible refine hK _ ?_; clear hK K)
    | (clear hK K; clear hK K; with_reducible refine hK _ ?_; clear hK K)
    | (clear hK K; clear hK K; clear hK K; with_reducible refine hK _ ?_; clear hK K)
    | (with_reducible refine todo ?_; simp +decide only [go_sem]))
  refine VC_range (c.length - 1) (fun _ => True) (fun i => frame [(5, pD (encPieces l)), (6, pD (encPieces c)), (7, pD (encRow r0)), (9, pD (encRow r0)), (8, pD (.lit (.bool b0))), (10, pD (.lit (.bool b0))), (11, pD (.lit (.int .i64 ((i : Int) + 1))))] [] []) True.intro ?_ ?_
  · refine Weak_frame ?_ ?_ ?_ <;> simp +decide only [go_sem, Int.zero_add]
  · intro i hi hI
    rcases Nat.lt_or_ge i (c.length - 1) with hlt | hge
    · have hd : ((i : Int) + 1 < (c.length : Int)) = True := eq_true (by omega)
      have hw1 : IntKind.i64.wrap ((i : Int) + 1 - 1) = (i : Int) := by rw [Go.IntWalk.i64_in _ (by omega)]; omega
      have hw2 : IntKind.i64.wrap ((i : Int) + 1 + 1) = ((i + 1 : Nat) : Int) + 1 := by rw [Go.IntWalk.i64_in _ (by omega)]; omega
      have hn1 : (0 ≤ (i : Int) + 1) = True := eq_true (by omega)
      have hn2 : ((i : Int) + 1).toNat = i + 1 := by omega
      have hga := List.getElem?_eq_getElem (show i < c.length by omega)
      have hgb := List.getElem?_eq_getElem (show i + 1 < c.length by omega)
      generalize c[i] = x at hga
      generalize c[i + 1] = y at hgb
      have hxy := hnt i x y hga hgb
      have hx := hcw x (List.mem_of_getElem? hga)
      have kS := Try.kRows x.row y.row (by omega)
      cases htt : (x.hi == y.lo) with
      | false =>
        repeat' (first
          | with_reducible refine VC_seq fun K hK => ?_
          | with_reducible refine W_region ?_
          | with_reducible refine VC_block ?_
          | with_reducible refine VC_scope ?_
          | with_reducible refine VC_if ?_
          | with_reducible refine VC_skip ?_
          | with_reducible refine VC_exit ?_
          | with_reducible refine VC_ret ?_
          | (with_reducible refine G_not (fun h => ?_) (fun h => ?_) <;> (try simp only [h]))
          | (with_reducible refine G_cases (fun h => ?_) (fun h => ?_) <;> (try simp only [h]))
          | (with_reducible refine hK _ ?_; clear hK K)
          | (clear hK K; with_reducible refine hK _ ?_; clear hK K)
          | (clear hK K; clear hK K; with_reducible refine hK _ ?_; clear hK K)
          | (clear hK K; clear hK K; clear hK K; with_reducible refine hK _ ?_; clear hK K)
          | (with_reducible refine todo ?_; simp +decide only [go_sem, hd, hw1, hw2, hn1, hn2, hga, hgb, htt]))
        refine Next_of hlt True.intro (Weak_frame ?_ ?_ ?_) <;> simp +decide only [go_sem]
      | true =>
        have hsr : sameRow x.row y.row = false := by
          rw [Bool.eq_false_iff]
          intro h
          exact hxy ⟨by simpa using htt, sameRow_iff.1 h⟩
        rw [hsr] at kS
        repeat' (first
          | with_reducible refine VC_seq fun K hK => ?_
          | with_reducible refine W_region ?_
          | with_reducible refine VC_block ?_
          | with_reducible refine VC_scope ?_
          | with_reducible refine VC_if ?_
          | with_reducible refine VC_skip ?_
          | with_reducible refine VC_exit ?_
          | with_reducible refine VC_ret ?_
          | (with_reducible refine G_not (fun h => ?_) (fun h => ?_) <;> (try simp only [h]))
          | (with_reducible refine G_cases (fun h => ?_) (fun h => ?_) <;> (try simp only [h]))
          | refine C_pure kS rfl rfl (fun _ => rfl) ?_
          | (with_reducible refine hK _ ?_; clear hK K)
          | (clear hK K; with_reducible refine hK _ ?_; clear hK K)
          | (clear hK K; clear hK K; with_reducible refine hK _ ?_; clear hK K)
          | (clear hK K; clear hK K; clear hK K; with_reducible refine hK _ ?_; clear hK K)
          | (with_reducible refine todo ?_; simp +decide only [go_sem, hd, hw1, hw2, hn1, hn2, hga, hgb, htt]))
        refine Next_of hlt True.intro (Weak_frame ?_ ?_ ?_) <;> simp +decide only [go_sem]
    · have hd : ((i : Int) + 1 < (c.length : Int)) = False := eq_false (by omega)
      have hbb : (b0 == b0) = true := beq_self_eq_true b0
      repeat' (first
        | with_reducible refine VC_seq fun K hK => ?_
        | with_reducible refine W_region ?_
        | with_reducible refine VC_block ?_
        | with_reducible refine VC_scope ?_
        | with_reducible refine VC_if ?_
        | with_reducible refine VC_skip ?_
        | with_reducible refine VC_exit ?_
        | with_reducible refine VC_ret ?_
        | (with_reducible refine G_not (fun h => ?_) (fun h => ?_) <;> (try simp only [h]))
        | (with_reducible refine G_cases (fun h => ?_) (fun h => ?_) <;> (try simp only [h]))
        | refine C_pure k7 rfl rfl (fun _ => rfl) ?_
        | refine C_pure k4 rfl rfl (fun _ => rfl) ?_
        | refine C_pure k5 rfl rfl (fun _ => rfl) ?_
        | refine C_pure k6 rfl rfl (fun _ => rfl) ?_
        | refine C_pure Try.kKnown rfl rfl (fun _ => rfl) ?_
        | (with_reducible refine hK _ ?_; clear hK K)
        | (clear hK K; with_reducible refine hK _ ?_; clear hK K)
        | (clear hK K; clear hK K; with_reducible refine hK _ ?_; clear hK K)
        | (clear hK K; clear hK K; clear hK K; with_reducible refine hK _ ?_; clear hK K)
        | (with_reducible refine todo ?_; simp +decide only [go_sem, hd, hle, hbb]))
      refine Ret_d rfl ?_
      simp +decide only [go_sem]
end Go.Proofs
