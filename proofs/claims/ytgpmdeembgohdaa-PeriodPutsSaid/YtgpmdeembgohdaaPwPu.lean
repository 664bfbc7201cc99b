/-
  PeriodPuts: the law's own body.
-/
import Derived.Test.YtgpmdeembgohdaaPwFn
import Derived.Test.YtgpmdeembgohdaaPwFw
import Derived.Test.YtgpmdeembgohdaaPwRb
namespace Go.Proofs
open Go.PW

/-- What is wanted at a time, and whether anything is. -/
def stepW (t : Int) (w : Row × Bool) (o : OpP) : Row × Bool :=
  if 20 < o.row.length then w else if Span.has o.s.1 o.s.2 t = true then (if o.dr = true then (o.row, false) else if right [⟨o.s.1, o.s.2, o.row⟩] = true then (o.row, true) else w) else w
def wants (t : Int) (l : List OpP) : Row × Bool := l.foldl (stepW t) ([], false)
def wantOf (w : Row × Bool) : Option Row := if w.2 = true then some w.1 else none

theorem right_one {s : Sp} {r : Row} : right [⟨s.1, s.2, r⟩] = puts s r := by
  rw [Bool.eq_iff_iff, right_iff]
  unfold puts
  rw [Bool.and_eq_true, spanRight_iff]
  simp [OK]
theorem stepW_ok {ps : List Piece} {t : Int} {w : Row × Bool} {o : OpP} (hr : right ps = true) (h : at' ps t = wantOf w) : at' (stepP ps o) t = wantOf (stepW t w o) := by
  unfold stepP stepW
  split
  · exact h
  · cases hdr : o.dr with
    | true =>
      rw [if_pos rfl, at_drop hr]
      cases hh : Span.has o.s.1 o.s.2 t with
      | true => rfl
      | false => exact h
    | false =>
      rw [if_neg (by simp), right_one]
      cases hp : puts o.s o.row with
      | false => rw [putP_not hp]; simpa using h
      | true =>
        rw [at_put hr hp]
        have hs := spanRight_iff.2 (puts_ok hp).1
        have hh : Span.has o.s.1 o.s.2 t = (decide (o.s.1 ≤ t) && decide (t < o.s.2)) := by unfold Span.has; rw [hs]; rfl
        by_cases hc : o.s.1 ≤ t ∧ t < o.s.2
        · have : Span.has o.s.1 o.s.2 t = true := by rw [hh]; simpa using hc
          rw [if_pos hc, if_pos this]
          rfl
        · have : ¬ Span.has o.s.1 o.s.2 t = true := by rw [hh]; simpa using hc
          rw [if_neg hc, if_neg this]
          exact h
theorem wants_next {t : Int} {l : List OpP} {i : Nat} {x : OpP} (h : l[i]? = some x) : wants t (l.take (i + 1)) = stepW t (wants t (l.take i)) x := by
  rw [take_next h, wants, List.foldl_append]
  rfl

set_option maxHeartbeats 8000000 in
theorem Try.kPuts (s : List OpP) (t : Int) (hok : ∀ o ∈ s, OpP.ok o) : PureOK Try.prog 5 [pD (encOps s), pD (.lit (.int .i64 t))] (.one (dB true)) := by
  refine Try.pure (md := []) Try.func5 rfl Try.call5 (by kernel_rfl) (by rfl) (by exact Nat.le_of_ble_eq_true rfl) ?_
  have kB := Try.kBuild s
  obtain ⟨hr0, hl0, hw0⟩ := buildP_ok s
  have hlr : ∀ p ∈ buildP s, p.row.length ≤ 1048576 := fun p hp => Nat.le_trans (hw0 p hp) (by decide)
  have k1 := Try.kRight (buildP s) (by omega) hlr
  rw [hr0] at k1
  have k2 := Try.kAt (buildP s) t (by omega) hlr
  have ea : at_ (buildP s) t = at' (buildP s) t := by unfold at_; rw [hr0]; rfl
  rw [ea] at k2
  repeat' (first
    | with_reducible refine VC_seq fun K hK => ?_
    | with_reducible refine W_region ?_
    | with_reducible refine VC_block ?_
    | with_reducible refine VC_scope ?_
    | with_reducible refine VC_if ?_
    | with_reducible refine VC_skip ?_
    | with_reducible refine VC_exit ?_
    | with_reducible refine VC_ret ?_
    | (with_reducible refine G_not (fun h => ?_) (fun h => ?_) <;> (try simp only [h]))
    | (with_reducible refine G_cases (fun h => ?_) (fun h => ?_) <;> (try simp only [h]))
    | refine C_pure kB rfl rfl (fun _ => rfl) ?_
    | refine C_pure k1 rfl rfl (fun _ => rfl) ?_
    | (with_reducible refine hK _ ?_; clear hK K)
    | (clear hK K; with_reducible refine hK _ ?_; clear hK K)
    | (clear hK K; clear hK K; with_reducible refine hK _ ?_; clear hK K)
    | (clear hK K; clear hK K; clear hK K; with_reducible refine hK _ ?_; clear hK K)
    | (with_reducible refine todo ?_; simp +decide only [go_sem]))
  have hmin : (s.take 30).length ≤ 30 ∧ (s.take 30).length ≤ s.length := by rw [List.length_take]; omega
  refine VC_range (s.take 30).length (fun i => at' (opsP [] (s.take i)) t = wantOf (wants t (s.take i))) (fun i => frame [(0, pD (encOps s)), (1, pD (.lit (.int .i64 t))), (5, pD (encPieces (buildP s))), (6, pD (encRow (wants t (s.take i)).1)), (7, pD (.lit (.bool (wants t (s.take i)).2))), (8, pD (.lit (.int .i64 i)))] [] []) rfl ?_ ?_
  · refine Weak_frame ?_ ?_ ?_ <;> simp +decide only [go_sem, wants, List.foldl_nil]
  · intro i hi hI
    have hi30 : i ≤ 30 := by omega
    have hil : i ≤ s.length := by omega
    rcases Nat.lt_or_ge i (s.take 30).length with hlt | hge
    · have hlt' : i < s.length := by omega
      have h30 : i < 30 := by omega
      have hg := List.getElem?_eq_getElem hlt'
      have hd := int_lt_true hlt'
      have hd3 : ((i : Int) < 30) = True := eq_true (by omega)
      have hw := int_next h30 (by decide)
      generalize s[i] = x at hg
      obtain ⟨hrm, _, _⟩ := opsP_ok (s.take i) (ps := []) (n := 0) rfl (Nat.le_refl 0) (fun p hp => by cases hp)
      have hI' : at' (opsP [] (s.take (i + 1))) t = wantOf (wants t (s.take (i + 1))) := by
        rw [opsP_next hg, wants_next hg]
        exact stepW_ok hrm hI
      have hnx := wants_next (t := t) hg
      have hxo := hok x (List.mem_of_getElem? hg)
      generalize wants t (s.take i) = w at *
      have kh := Try.rSpanHas x.s.1 x.s.2 t
      rcases Nat.lt_or_ge 20 x.row.length with hlong | hshort
      · have h20 : ((x.row.length : Int) > 20) = True := eq_true (by omega)
        have hst : stepW t w x = w := by unfold stepW; rw [if_pos hlong]
        repeat' (first
          | with_reducible refine VC_seq fun K hK => ?_
          | with_reducible refine W_region ?_
          | with_reducible refine VC_block ?_
          | with_reducible refine VC_scope ?_
          | with_reducible refine VC_if ?_
          | with_reducible refine VC_skip ?_
          | with_reducible refine VC_exit ?_
          | with_reducible refine VC_ret ?_
          | (with_reducible refine G_not (fun h => ?_) (fun h => ?_) <;> (try simp only [h]))
          | (with_reducible refine G_cases (fun h => ?_) (fun h => ?_) <;> (try simp only [h]))
          | (with_reducible refine hK _ ?_; clear hK K)
          | (clear hK K; with_reducible refine hK _ ?_; clear hK K)
          | (clear hK K; clear hK K; with_reducible refine hK _ ?_; clear hK K)
          | (clear hK K; clear hK K; clear hK K; with_reducible refine hK _ ?_; clear hK K)
          | (with_reducible refine todo ?_; simp +decide only [go_sem, hg, hd, hd3, hw, h20]))
        refine Next_of hlt hI' (Weak_frame ?_ ?_ ?_) <;> simp +decide only [go_sem, hnx, hst]
      · have h20 : ((x.row.length : Int) > 20) = False := eq_false (by omega)
        have kr := Try.rRight [⟨x.s.1, x.s.2, x.row⟩] (by simp) (fun p hp => by rw [List.mem_singleton.1 hp]; show x.row.length ≤ _; omega) (fun p hp => by rw [List.mem_singleton.1 hp]; exact hxo.2)
        have hst : stepW t w x = if Span.has x.s.1 x.s.2 t = true then (if x.dr = true then (x.row, false) else if right [⟨x.s.1, x.s.2, x.row⟩] = true then (x.row, true) else w) else w := by unfold stepW; rw [if_neg (by omega)]
        cases hh : Span.has x.s.1 x.s.2 t with
        | false =>
          rw [hh] at kh hst
          repeat' (first
            | with_reducible refine VC_seq fun K hK => ?_
            | with_reducible refine W_region ?_
            | with_reducible refine VC_block ?_
            | with_reducible refine VC_scope ?_
            | with_reducible refine VC_if ?_
            | with_reducible refine VC_skip ?_
            | with_reducible refine VC_exit ?_
            | with_reducible refine VC_ret ?_
            | (with_reducible refine G_not (fun h => ?_) (fun h => ?_) <;> (try simp only [h]))
            | (with_reducible refine G_cases (fun h => ?_) (fun h => ?_) <;> (try simp only [h]))
            | refine C_pure kh rfl rfl (fun _ => rfl) ?_
            | (with_reducible refine hK _ ?_; clear hK K)
            | (clear hK K; with_reducible refine hK _ ?_; clear hK K)
            | (clear hK K; clear hK K; with_reducible refine hK _ ?_; clear hK K)
            | (clear hK K; clear hK K; clear hK K; with_reducible refine hK _ ?_; clear hK K)
            | (with_reducible refine todo ?_; simp +decide only [go_sem, hg, hd, hd3, hw, h20]))
          refine Next_of hlt hI' (Weak_frame ?_ ?_ ?_) <;> simp +decide only [go_sem, hnx, hst]
        | true =>
          rw [hh] at kh hst
          cases hdr : x.dr with
          | true =>
            rw [hdr] at hst
            repeat' (first
              | with_reducible refine VC_seq fun K hK => ?_
              | with_reducible refine W_region ?_
              | with_reducible refine VC_block ?_
              | with_reducible refine VC_scope ?_
              | with_reducible refine VC_if ?_
              | with_reducible refine VC_skip ?_
              | with_reducible refine VC_exit ?_
              | with_reducible refine VC_ret ?_
              | (with_reducible refine G_not (fun h => ?_) (fun h => ?_) <;> (try simp only [h]))
              | (with_reducible refine G_cases (fun h => ?_) (fun h => ?_) <;> (try simp only [h]))
              | refine C_pure kh rfl rfl (fun _ => rfl) ?_
              | (with_reducible refine hK _ ?_; clear hK K)
              | (clear hK K; with_reducible refine hK _ ?_; clear hK K)
              | (clear hK K; clear hK K; with_reducible refine hK _ ?_; clear hK K)
              | (clear hK K; clear hK K; clear hK K; with_reducible refine hK _ ?_; clear hK K)
              | (with_reducible refine todo ?_; simp +decide only [go_sem, hg, hd, hd3, hw, h20, hdr]))
            refine Next_of hlt hI' (Weak_frame ?_ ?_ ?_) <;> simp +decide only [go_sem, hnx, hst]
          | false =>
            rw [hdr] at hst
            cases hsr : right [⟨x.s.1, x.s.2, x.row⟩] with
            | true =>
              rw [hsr] at kr hst
              repeat' (first
                | with_reducible refine VC_seq fun K hK => ?_
                | with_reducible refine W_region ?_
                | with_reducible refine VC_block ?_
                | with_reducible refine VC_scope ?_
                | with_reducible refine VC_if ?_
                | with_reducible refine VC_skip ?_
                | with_reducible refine VC_exit ?_
                | with_reducible refine VC_ret ?_
                | (with_reducible refine G_not (fun h => ?_) (fun h => ?_) <;> (try simp only [h]))
                | (with_reducible refine G_cases (fun h => ?_) (fun h => ?_) <;> (try simp only [h]))
                | refine C_pure kh rfl rfl (fun _ => rfl) ?_
                | refine C_pure kr rfl rfl (fun _ => rfl) ?_
                | (with_reducible refine hK _ ?_; clear hK K)
                | (clear hK K; with_reducible refine hK _ ?_; clear hK K)
                | (clear hK K; clear hK K; with_reducible refine hK _ ?_; clear hK K)
                | (clear hK K; clear hK K; clear hK K; with_reducible refine hK _ ?_; clear hK K)
                | (with_reducible refine todo ?_; simp +decide only [go_sem, hg, hd, hd3, hw, h20, hdr]))
              refine Next_of hlt hI' (Weak_frame ?_ ?_ ?_) <;> simp +decide only [go_sem, hnx, hst]
            | false =>
              rw [hsr] at kr hst
              repeat' (first
                | with_reducible refine VC_seq fun K hK => ?_
                | with_reducible refine W_region ?_
                | with_reducible refine VC_block ?_
                | with_reducible refine VC_scope ?_
                | with_reducible refine VC_if ?_
                | with_reducible refine VC_skip ?_
                | with_reducible refine VC_exit ?_
                | with_reducible refine VC_ret ?_
                | (with_reducible refine G_not (fun h => ?_) (fun h => ?_) <;> (try simp only [h]))
                | (with_reducible refine G_cases (fun h => ?_) (fun h => ?_) <;> (try simp only [h]))
                | refine C_pure kh rfl rfl (fun _ => rfl) ?_
                | refine C_pure kr rfl rfl (fun _ => rfl) ?_
                | (with_reducible refine hK _ ?_; clear hK K)
                | (clear hK K; with_reducible refine hK _ ?_; clear hK K)
                | (clear hK K; clear hK K; with_reducible refine hK _ ?_; clear hK K)
                | (clear hK K; clear hK K; clear hK K; with_reducible refine hK _ ?_; clear hK K)
                | (with_reducible refine todo ?_; simp +decide only [go_sem, hg, hd, hd3, hw, h20, hdr]))
              refine Next_of hlt hI' (Weak_frame ?_ ?_ ?_) <;> simp +decide only [go_sem, hnx, hst]
    · have hB : opsP [] (s.take i) = buildP s := by
        unfold buildP
        have : i = (s.take 30).length := by omega
        rw [this, List.length_take, List.take_eq_take_min (l := s) (i := 30)]
      rw [hB] at hI
      rw [hI] at k2
      have hrow : ∀ r, at' (buildP s) t = some r → r.length ≤ 20 := fun r hr => by
        obtain ⟨p, hp, _, rfl⟩ := (at_iff hr0).1 hr
        exact hw0 p hp
      rw [hI] at hrow
      generalize wants t (s.take i) = w at *
      obtain ⟨w, b⟩ := w
      have hbb : (b == b) = true := beq_self_eq_true b
      have h30 : i < s.length → ((i : Int) < 30) = False := fun hlt' => by
        rw [List.length_take] at hge
        exact eq_false (by omega)
      cases b with
      | true =>
        have hwn : wantOf (w, true) = some w := rfl
        rw [hwn] at k2 hrow
        have k3 := Try.kRows w w (by have := hrow w rfl; omega)
        rw [sameRow_iff.2 rfl] at k3
        rcases Nat.lt_or_ge i s.length with hlt' | hge'
        · have hd := int_lt_true hlt'
          have h30 := h30 hlt'
          repeat' (first
            | with_reducible refine VC_seq fun K hK => ?_
            | with_reducible refine W_region ?_
            | with_reducible refine VC_block ?_
            | with_reducible refine VC_scope ?_
            | with_reducible refine VC_if ?_
            | with_reducible refine VC_skip ?_
            | with_reducible refine VC_exit ?_
            | with_reducible refine VC_ret ?_
            | (with_reducible refine G_not (fun h => ?_) (fun h => ?_) <;> (try simp only [h]))
            | (with_reducible refine G_cases (fun h => ?_) (fun h => ?_) <;> (try simp only [h]))
            | refine C_pure k2 rfl rfl (fun _ => rfl) ?_
            | refine C_pure k3 rfl rfl (fun _ => rfl) ?_
            | refine C_pure Try.kKnown rfl rfl (fun _ => rfl) ?_
            | (with_reducible refine hK _ ?_; clear hK K)
            | (clear hK K; with_reducible refine hK _ ?_; clear hK K)
            | (clear hK K; clear hK K; with_reducible refine hK _ ?_; clear hK K)
            | (clear hK K; clear hK K; clear hK K; with_reducible refine hK _ ?_; clear hK K)
            | (with_reducible refine todo ?_; simp +decide only [go_sem, hd, h30, optRow]))
          refine Ret_d rfl ?_
          simp +decide only [go_sem]
        · have hd := int_lt_false hge'
          repeat' (first
            | with_reducible refine VC_seq fun K hK => ?_
            | with_reducible refine W_region ?_
            | with_reducible refine VC_block ?_
            | with_reducible refine VC_scope ?_
            | with_reducible refine VC_if ?_
            | with_reducible refine VC_skip ?_
            | with_reducible refine VC_exit ?_
            | with_reducible refine VC_ret ?_
            | (with_reducible refine G_not (fun h => ?_) (fun h => ?_) <;> (try simp only [h]))
            | (with_reducible refine G_cases (fun h => ?_) (fun h => ?_) <;> (try simp only [h]))
            | refine C_pure k2 rfl rfl (fun _ => rfl) ?_
            | refine C_pure k3 rfl rfl (fun _ => rfl) ?_
            | refine C_pure Try.kKnown rfl rfl (fun _ => rfl) ?_
            | (with_reducible refine hK _ ?_; clear hK K)
            | (clear hK K; with_reducible refine hK _ ?_; clear hK K)
            | (clear hK K; clear hK K; with_reducible refine hK _ ?_; clear hK K)
            | (clear hK K; clear hK K; clear hK K; with_reducible refine hK _ ?_; clear hK K)
            | (with_reducible refine todo ?_; simp +decide only [go_sem, hd, optRow]))
          refine Ret_d rfl ?_
          simp +decide only [go_sem]
      | false =>
        have hwn : wantOf (w, false) = none := rfl
        rw [hwn] at k2
        rcases Nat.lt_or_ge i s.length with hlt' | hge'
        · have hd := int_lt_true hlt'
          have h30 := h30 hlt'
          repeat' (first
            | with_reducible refine VC_seq fun K hK => ?_
            | with_reducible refine W_region ?_
            | with_reducible refine VC_block ?_
            | with_reducible refine VC_scope ?_
            | with_reducible refine VC_if ?_
            | with_reducible refine VC_skip ?_
            | with_reducible refine VC_exit ?_
            | with_reducible refine VC_ret ?_
            | (with_reducible refine G_not (fun h => ?_) (fun h => ?_) <;> (try simp only [h]))
            | (with_reducible refine G_cases (fun h => ?_) (fun h => ?_) <;> (try simp only [h]))
            | refine C_pure k2 rfl rfl (fun _ => rfl) ?_
            | refine C_pure Try.kKnown rfl rfl (fun _ => rfl) ?_
            | (with_reducible refine hK _ ?_; clear hK K)
            | (clear hK K; with_reducible refine hK _ ?_; clear hK K)
            | (clear hK K; clear hK K; with_reducible refine hK _ ?_; clear hK K)
            | (clear hK K; clear hK K; clear hK K; with_reducible refine hK _ ?_; clear hK K)
            | (with_reducible refine todo ?_; simp +decide only [go_sem, hd, h30, optRow]))
          refine Ret_d rfl ?_
          simp +decide only [go_sem]
        · have hd := int_lt_false hge'
          repeat' (first
            | with_reducible refine VC_seq fun K hK => ?_
            | with_reducible refine W_region ?_
            | with_reducible refine VC_block ?_
            | with_reducible refine VC_scope ?_
            | with_reducible refine VC_if ?_
            | with_reducible refine VC_skip ?_
            | with_reducible refine VC_exit ?_
            | with_reducible refine VC_ret ?_
            | (with_reducible refine G_not (fun h => ?_) (fun h => ?_) <;> (try simp only [h]))
            | (with_reducible refine G_cases (fun h => ?_) (fun h => ?_) <;> (try simp only [h]))
            | refine C_pure k2 rfl rfl (fun _ => rfl) ?_
            | refine C_pure Try.kKnown rfl rfl (fun _ => rfl) ?_
            | (with_reducible refine hK _ ?_; clear hK K)
            | (clear hK K; with_reducible refine hK _ ?_; clear hK K)
            | (clear hK K; clear hK K; with_reducible refine hK _ ?_; clear hK K)
            | (clear hK K; clear hK K; clear hK K; with_reducible refine hK _ ?_; clear hK K)
            | (with_reducible refine todo ?_; simp +decide only [go_sem, hd, optRow]))
          refine Ret_d rfl ?_
          simp +decide only [go_sem]
end Go.Proofs
