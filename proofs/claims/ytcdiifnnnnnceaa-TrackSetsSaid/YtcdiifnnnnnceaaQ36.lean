import Derived.Test.YtcdiifnnnnnceaaQ35
import Derived.Test.YtcdiifnnnnnceaaQ17
import Derived.Test.YtcdiifnnnnnceaaQ34

/-
  TrackBetween.
-/

namespace Go.Proofs
open Go.PW

theorem co_ne {ps : List Piece} (h : coalesce ps = []) : ps = [] := by
  unfold coalesce at h
  split at h
  · cases ps with
    | nil => rfl
    | cons x r =>
      exfalso
      have : ∀ (r out : List Piece), out ≠ [] → r.foldl coStep out ≠ [] := fun r => by
        induction r with
        | nil => exact fun out h => h
        | cons y r ih => exact fun out _ => ih _ coStep_ne
      exact this r (coStep [] x) coStep_ne h
  · exact h
theorem any_next {α : Type} {f : α → Bool} {l : List α} {i : Nat} {x : α} (h : l[i]? = some x) : (l.take (i + 1)).any f = ((l.take i).any f || f x) := by
  rw [take_next h, List.any_append]
  simp
theorem vBetween_not {l : List Ver} {lo hi : Int} (h : Span.right lo hi = false) : vBetween l lo hi = [] := by
  unfold vBetween
  rw [h]
  split <;> rfl
theorem has_right {a b t : Int} (h : Span.has a b t = true) : Span.right a b = true := by
  unfold Span.has at h
  simp only [Bool.and_eq_true] at h
  exact h.1.1

theorem vBetween_ok {l : List Ver} {N M : Nat} {lo hi : Int} (hl : l.length ≤ N) (hr : ∀ v ∈ l, v.p.row.length ≤ M) : TOK N M (vBetween l lo hi) ∧ (vBetween l lo hi).length ≤ 2 * l.length + 1 := by
  have key : ∀ (n : Nat) (t : Int) (out : List TSt), left l hi t ≤ n → TOK N M out → TOK N M (betw l hi t out) ∧ (betw l hi t out).length ≤ out.length + n := by
    intro n
    induction n with
    | zero =>
      intro t out hn h
      have hlt : ¬ t < hi := fun hlt => by have := left_lt (l := l) hlt; omega
      rw [betw_end hlt]
      exact ⟨h, by omega⟩
    | succ n ih =>
      intro t out hn h
      by_cases hlt : t < hi
      · have hll := left_lt (l := l) hlt
        rw [betw_go hlt]
        obtain ⟨k1, k2⟩ := betwStep_ok (t := t) (n := vNext l t hi) hl hr h
        obtain ⟨m1, m2⟩ := ih (vNext l t hi) _ (by omega) k1
        exact ⟨m1, by omega⟩
      · rw [betw_end hlt]
        exact ⟨h, by omega⟩
  unfold vBetween
  have h0 : TOK N M ([] : List TSt) := fun w hw => by cases hw
  split
  · split
    · obtain ⟨k1, k2⟩ := key (2 * l.length + 1) lo [] (left_le l hi lo) h0
      exact ⟨k1, by simpa using k2⟩
    · exact ⟨h0, by simp⟩
  · exact ⟨h0, by simp⟩

set_option maxRecDepth 8000 in
set_option maxHeartbeats 16000000 in
theorem Try.kBetw (s : List OpT) (a : Sp) (t : Int) (hb : ∀ o ∈ s, o.byte) : PureOK Try.prog 7 [pD (encOpsT s), pA a.enc, pD (.lit (.int .i64 t))] (.one (dB true)) := by
  have kb := Try.kBuildT s hb
  have hT := buildT_ok hb
  generalize buildT s = σ at *
  have hl : σ.l.length ≤ 1000 := by have := hT.vl; omega
  have hr := hT.vr
  have hR := hT.v
  generalize σ.l = l at *
  obtain ⟨lo, hi⟩ := a
  have hae : Sp.enc (lo, hi) = encSpan lo hi := rfl
  have kB := Try.kBetween l lo hi (by omega) (fun v hv => Nat.le_trans (hr v hv) (by decide))
  have ka := Try.kAtV l t (by omega) (fun v hv => Nat.le_trans (hr v hv) (by decide))
  have hpl := vAt_length l t
  have hpr : ∀ x ∈ vAt l t, x.row.length ≤ 20 := fun x hx => by obtain ⟨v, hv, e⟩ := vAt_mem hx; rw [e]; exact hr v hv
  have kc := Try.kCoalesce (vAt l t) (by omega) (fun x hx => Nat.le_trans (hpr x hx) (by decide))
  obtain ⟨hok, hbl⟩ := vBetween_ok (lo := lo) (hi := hi) hl hr
  have hspec : Span.right lo hi = true → BI l lo hi (vBetween l lo hi) := fun h => vBetween_spec hR h
  have hnot : Span.right lo hi = false → vBetween l lo hi = [] := fun h => vBetween_not h
  generalize vBetween l lo hi = b at *
  have hB : b ≠ [] → Span.right lo hi = true := fun h => by
    cases hS : Span.right lo hi with
    | true => rfl
    | false => exact absurd (hnot hS) h
  have kk := Try.kKnown
  refine Try.pure (md := []) Try.func7 rfl Try.call7 (by kernel_rfl) (by rfl) (by exact Nat.le_of_ble_eq_true rfl) ?_
  repeat' (first
    | with_reducible refine VC_seq fun K hK => ?_
    | with_reducible refine W_region ?_
    | with_reducible refine VC_block ?_
    | with_reducible refine VC_scope ?_
    | with_reducible refine VC_if ?_
    | with_reducible refine VC_skip ?_
    | with_reducible refine VC_exit ?_
    | with_reducible refine VC_ret ?_
    | (with_reducible refine G_not (fun h => ?_) (fun h => ?_) <;> (try simp only [h]))
    | (with_reducible refine G_cases (fun h => ?_) (fun h => ?_) <;> (try simp only [h]))
    | refine C_pure kb rfl rfl (fun _ => rfl) ?_
    | refine C_pure kB rfl rfl (fun _ => rfl) ?_
    | (with_reducible refine hK _ ?_; clear hK K)
    | (clear hK K; with_reducible refine hK _ ?_; clear hK K)
    | (clear hK K; clear hK K; with_reducible refine hK _ ?_; clear hK K)
    | (clear hK K; clear hK K; clear hK K; with_reducible refine hK _ ?_; clear hK K)
    | (with_reducible refine todo ?_; simp +decide only [go_sem, hae]))
  refine VC_range b.length (fun _ => True) (fun i => frame [(2, pD (.lit (.int .i64 t))), (4, .c (.ptr 4 0)), (7, pD (encVers l)), (9, pD (encSts b)), (10, pD (.lit (.bool ((b.take i).any fun w => Span.has w.sl w.sh t)))), (11, pD (.lit (.int .i64 i)))] [(4, [.d (.lit (.int .i64 lo)), .d (.lit (.int .i64 hi))])] []) True.intro ?_ ?_
  · refine Weak_frame ?_ ?_ ?_ <;> simp +decide only [go_sem, List.any_nil]
    exact wkP_ptr (by simp [hOf])
  · intro i hi' hI
    rcases Nat.lt_or_ge i b.length with hlt | hge
    · have hg := List.getElem?_eq_getElem hlt
      have hd := int_lt_true hlt
      have hwi := int_next hlt (show b.length ≤ 4294967296 by omega)
      have hS := hB (fun e => by rw [e] at hlt; simp at hlt)
      have hBI := hspec hS
      generalize b[i] = x at hg
      have hxm := List.mem_of_getElem? hg
      obtain ⟨x1, x2, x3, x4, x5⟩ := hBI.ok x hxm
      obtain ⟨xl, xr⟩ := hok x hxm
      rw [spanRight_iff] at hS
      have hxs : Span.right x.sl x.sh = true := spanRight_iff.2 ⟨by omega, x2, by omega⟩
      have ksp := Try.rSpanRight x.sl x.sh
      rw [hxs] at ksp
      have kh := Try.rSpanHas x.sl x.sh t
      have kp1 := Try.kPieces x.ps (by omega)
      have ksc := Try.rSame x.ps x.ps (by omega) (fun y hy => Nat.le_trans (xr y hy) (by decide))
      rw [samePieces_iff.2 rfl] at ksc
      have hcoal : Span.has x.sl x.sh t = true → coalesce (vAt l t) = x.ps := fun h => by
        rw [has_spOK (show SpOK (x.sl, x.sh) from ⟨by show 0 ≤ x.sl; omega, x2, by show x.sh ≤ _; omega⟩)] at h
        exact x5 t h.1 h.2
      have hnx := any_next (f := fun w : TSt => Span.has w.sl w.sh t) hg
      generalize (b.take i).any (fun w => Span.has w.sl w.sh t) = has at *
      have f1 : (x.sl < lo) = False := eq_false (by omega)
      have f2 : (hi < x.sh) = False := eq_false (by omega)
      have f3 : ((x.ps.length : Int) == 0) = false := by
        rw [beq_eq_false_iff_ne]
        have : x.ps.length ≠ 0 := fun e => x4 (List.eq_nil_of_length_eq_zero e)
        omega
      rcases Nat.eq_zero_or_pos i with hi0 | hi0
      · have hgt : ((0 : Int) < (i : Int)) = False := eq_false (by omega)
        clear hi0
        cases hh : Span.has x.sl x.sh t with
        | true =>
          rw [hh] at kh hnx
          have he := hcoal hh
          rw [he] at kc
          repeat' (first
            | with_reducible refine VC_seq fun K hK => ?_
            | with_reducible refine W_region ?_
            | with_reducible refine VC_block ?_
            | with_reducible refine VC_scope ?_
            | with_reducible refine VC_if ?_
            | with_reducible refine VC_skip ?_
            | with_reducible refine VC_exit ?_
            | with_reducible refine VC_ret ?_
            | (with_reducible refine G_not (fun h => ?_) (fun h => ?_) <;> (try simp only [h]))
            | (with_reducible refine G_cases (fun h => ?_) (fun h => ?_) <;> (try simp only [h]))
            | refine C_pure ksp rfl rfl (fun _ => rfl) ?_
            | refine C_pure kh rfl rfl (fun _ => rfl) ?_
            | refine C_pure kp1 rfl rfl (fun _ => rfl) ?_
            | refine C_pure ka rfl rfl (fun _ => rfl) ?_
            | refine C_pure kc rfl rfl (fun _ => rfl) ?_
            | refine C_pure ksc rfl rfl (fun _ => rfl) ?_
            | (with_reducible refine hK _ ?_; clear hK K)
            | (clear hK K; with_reducible refine hK _ ?_; clear hK K)
            | (clear hK K; clear hK K; with_reducible refine hK _ ?_; clear hK K)
            | (clear hK K; clear hK K; clear hK K; with_reducible refine hK _ ?_; clear hK K)
            | (with_reducible refine todo ?_; simp +decide only [go_sem, hg, hd, hwi, f1, f2, f3, hgt]))
          refine Next_of hlt True.intro (Weak_frame ?_ ?_ ?_) <;> simp +decide only [go_sem, hnx, Bool.or_true]
          exact wkP_ptr (by simp [hOf])
        | false =>
          rw [hh, Bool.or_false] at hnx
          rw [hh] at kh
          repeat' (first
            | with_reducible refine VC_seq fun K hK => ?_
            | with_reducible refine W_region ?_
            | with_reducible refine VC_block ?_
            | with_reducible refine VC_scope ?_
            | with_reducible refine VC_if ?_
            | with_reducible refine VC_skip ?_
            | with_reducible refine VC_exit ?_
            | with_reducible refine VC_ret ?_
            | (with_reducible refine G_not (fun h => ?_) (fun h => ?_) <;> (try simp only [h]))
            | (with_reducible refine G_cases (fun h => ?_) (fun h => ?_) <;> (try simp only [h]))
            | refine C_pure ksp rfl rfl (fun _ => rfl) ?_
            | refine C_pure kh rfl rfl (fun _ => rfl) ?_
            | (with_reducible refine hK _ ?_; clear hK K)
            | (clear hK K; with_reducible refine hK _ ?_; clear hK K)
            | (clear hK K; clear hK K; with_reducible refine hK _ ?_; clear hK K)
            | (clear hK K; clear hK K; clear hK K; with_reducible refine hK _ ?_; clear hK K)
            | (with_reducible refine todo ?_; simp +decide only [go_sem, hg, hd, hwi, f1, f2, f3, hgt]))
          refine Next_of hlt True.intro (Weak_frame ?_ ?_ ?_) <;> simp +decide only [go_sem, hnx]
          exact wkP_ptr (by simp [hOf])
      · have hgt : ((0 : Int) < (i : Int)) = True := eq_true (by omega)
        have hgy := List.getElem?_eq_getElem (show i - 1 < b.length by omega)
        generalize b[i - 1] = y at hgy
        have hw1 : IntKind.i64.wrap ((i : Int) - 1) = ((i - 1 : Nat) : Int) := by rw [Go.IntWalk.i64_in _ (by omega)]; omega
        have hcon := hBI.con (i - 1) y x hgy (by rw [show i - 1 + 1 = i by omega]; exact hg)
        obtain ⟨yl, yr⟩ := hok y (List.mem_of_getElem? hgy)
        have f4 : (x.sl < y.sh) = False := eq_false (by omega)
        cases he1 : (y.sh == x.sl) with
        | false =>
          cases hh : Span.has x.sl x.sh t with
          | true =>
            rw [hh] at kh hnx
            have he := hcoal hh
            rw [he] at kc
            repeat' (first
              | with_reducible refine VC_seq fun K hK => ?_
              | with_reducible refine W_region ?_
              | with_reducible refine VC_block ?_
              | with_reducible refine VC_scope ?_
              | with_reducible refine VC_if ?_
              | with_reducible refine VC_skip ?_
              | with_reducible refine VC_exit ?_
              | with_reducible refine VC_ret ?_
              | (with_reducible refine G_not (fun h => ?_) (fun h => ?_) <;> (try simp only [h]))
              | (with_reducible refine G_cases (fun h => ?_) (fun h => ?_) <;> (try simp only [h]))
              | refine C_pure ksp rfl rfl (fun _ => rfl) ?_
              | refine C_pure kh rfl rfl (fun _ => rfl) ?_
              | refine C_pure kp1 rfl rfl (fun _ => rfl) ?_
              | refine C_pure ka rfl rfl (fun _ => rfl) ?_
              | refine C_pure kc rfl rfl (fun _ => rfl) ?_
              | refine C_pure ksc rfl rfl (fun _ => rfl) ?_
              | (with_reducible refine hK _ ?_; clear hK K)
              | (clear hK K; with_reducible refine hK _ ?_; clear hK K)
              | (clear hK K; clear hK K; with_reducible refine hK _ ?_; clear hK K)
              | (clear hK K; clear hK K; clear hK K; with_reducible refine hK _ ?_; clear hK K)
              | (with_reducible refine todo ?_; simp +decide only [go_sem, hg, hd, hwi, f1, f2, f3, hgt, hgy, hw1, f4, he1]))
            refine Next_of hlt True.intro (Weak_frame ?_ ?_ ?_) <;> simp +decide only [go_sem, hnx, Bool.or_true]
            exact wkP_ptr (by simp [hOf])
          | false =>
            rw [hh, Bool.or_false] at hnx
            rw [hh] at kh
            repeat' (first
              | with_reducible refine VC_seq fun K hK => ?_
              | with_reducible refine W_region ?_
              | with_reducible refine VC_block ?_
              | with_reducible refine VC_scope ?_
              | with_reducible refine VC_if ?_
              | with_reducible refine VC_skip ?_
              | with_reducible refine VC_exit ?_
              | with_reducible refine VC_ret ?_
              | (with_reducible refine G_not (fun h => ?_) (fun h => ?_) <;> (try simp only [h]))
              | (with_reducible refine G_cases (fun h => ?_) (fun h => ?_) <;> (try simp only [h]))
              | refine C_pure ksp rfl rfl (fun _ => rfl) ?_
              | refine C_pure kh rfl rfl (fun _ => rfl) ?_
              | (with_reducible refine hK _ ?_; clear hK K)
              | (clear hK K; with_reducible refine hK _ ?_; clear hK K)
              | (clear hK K; clear hK K; with_reducible refine hK _ ?_; clear hK K)
              | (clear hK K; clear hK K; clear hK K; with_reducible refine hK _ ?_; clear hK K)
              | (with_reducible refine todo ?_; simp +decide only [go_sem, hg, hd, hwi, f1, f2, f3, hgt, hgy, hw1, f4, he1]))
            refine Next_of hlt True.intro (Weak_frame ?_ ?_ ?_) <;> simp +decide only [go_sem, hnx]
            exact wkP_ptr (by simp [hOf])
        | true =>
          have kp2 := Try.kPieces y.ps (by omega)
          have ksm := Try.rSame y.ps x.ps (by omega) (fun z hz => Nat.le_trans (yr z hz) (by decide))
          have hne : samePieces y.ps x.ps = false := by
            rw [← Bool.not_eq_true, samePieces_iff]
            exact fun e => hcon.2 ⟨by simpa using he1, e⟩
          rw [hne] at ksm
          cases hh : Span.has x.sl x.sh t with
          | true =>
            rw [hh] at kh hnx
            have he := hcoal hh
            rw [he] at kc
            repeat' (first
              | with_reducible refine VC_seq fun K hK => ?_
              | with_reducible refine W_region ?_
              | with_reducible refine VC_block ?_
              | with_reducible refine VC_scope ?_
              | with_reducible refine VC_if ?_
              | with_reducible refine VC_skip ?_
              | with_reducible refine VC_exit ?_
              | with_reducible refine VC_ret ?_
              | (with_reducible refine G_not (fun h => ?_) (fun h => ?_) <;> (try simp only [h]))
              | (with_reducible refine G_cases (fun h => ?_) (fun h => ?_) <;> (try simp only [h]))
              | refine C_pure ksp rfl rfl (fun _ => rfl) ?_
              | refine C_pure kp2 rfl rfl (fun _ => rfl) ?_
              | refine C_pure kp1 rfl rfl (fun _ => rfl) ?_
              | refine C_pure ksm rfl rfl (fun _ => rfl) ?_
              | refine C_pure kh rfl rfl (fun _ => rfl) ?_
              | refine C_pure kp1 rfl rfl (fun _ => rfl) ?_
              | refine C_pure ka rfl rfl (fun _ => rfl) ?_
              | refine C_pure kc rfl rfl (fun _ => rfl) ?_
              | refine C_pure ksc rfl rfl (fun _ => rfl) ?_
              | (with_reducible refine hK _ ?_; clear hK K)
              | (clear hK K; with_reducible refine hK _ ?_; clear hK K)
              | (clear hK K; clear hK K; with_reducible refine hK _ ?_; clear hK K)
              | (clear hK K; clear hK K; clear hK K; with_reducible refine hK _ ?_; clear hK K)
              | (with_reducible refine todo ?_; simp +decide only [go_sem, hg, hd, hwi, f1, f2, f3, hgt, hgy, hw1, f4, he1]))
            refine Next_of hlt True.intro (Weak_frame ?_ ?_ ?_) <;> simp +decide only [go_sem, hnx, Bool.or_true]
            exact wkP_ptr (by simp [hOf])
          | false =>
            rw [hh, Bool.or_false] at hnx
            rw [hh] at kh
            repeat' (first
              | with_reducible refine VC_seq fun K hK => ?_
              | with_reducible refine W_region ?_
              | with_reducible refine VC_block ?_
              | with_reducible refine VC_scope ?_
              | with_reducible refine VC_if ?_
              | with_reducible refine VC_skip ?_
              | with_reducible refine VC_exit ?_
              | with_reducible refine VC_ret ?_
              | (with_reducible refine G_not (fun h => ?_) (fun h => ?_) <;> (try simp only [h]))
              | (with_reducible refine G_cases (fun h => ?_) (fun h => ?_) <;> (try simp only [h]))
              | refine C_pure ksp rfl rfl (fun _ => rfl) ?_
              | refine C_pure kp2 rfl rfl (fun _ => rfl) ?_
              | refine C_pure kp1 rfl rfl (fun _ => rfl) ?_
              | refine C_pure ksm rfl rfl (fun _ => rfl) ?_
              | refine C_pure kh rfl rfl (fun _ => rfl) ?_
              | (with_reducible refine hK _ ?_; clear hK K)
              | (clear hK K; with_reducible refine hK _ ?_; clear hK K)
              | (clear hK K; clear hK K; with_reducible refine hK _ ?_; clear hK K)
              | (clear hK K; clear hK K; clear hK K; with_reducible refine hK _ ?_; clear hK K)
              | (with_reducible refine todo ?_; simp +decide only [go_sem, hg, hd, hwi, f1, f2, f3, hgt, hgy, hw1, f4, he1]))
            refine Next_of hlt True.intro (Weak_frame ?_ ?_ ?_) <;> simp +decide only [go_sem, hnx]
            exact wkP_ptr (by simp [hOf])
    · have hd := int_lt_false hge
      rw [List.take_of_length_le hge]
      have kht := Try.rSpanHas lo hi t
      cases hany : b.any (fun w => Span.has w.sl w.sh t) with
      | true =>
        repeat' (first
          | with_reducible refine VC_seq fun K hK => ?_
          | with_reducible refine W_region ?_
          | with_reducible refine VC_block ?_
          | with_reducible refine VC_scope ?_
          | with_reducible refine VC_if ?_
          | with_reducible refine VC_skip ?_
          | with_reducible refine VC_exit ?_
          | with_reducible refine VC_ret ?_
          | (with_reducible refine G_not (fun h => ?_) (fun h => ?_) <;> (try simp only [h]))
          | (with_reducible refine G_cases (fun h => ?_) (fun h => ?_) <;> (try simp only [h]))
          | refine C_pure kk rfl rfl (fun _ => rfl) ?_
          | (with_reducible refine hK _ ?_; clear hK K)
          | (clear hK K; with_reducible refine hK _ ?_; clear hK K)
          | (clear hK K; clear hK K; with_reducible refine hK _ ?_; clear hK K)
          | (clear hK K; clear hK K; clear hK K; with_reducible refine hK _ ?_; clear hK K)
          | (with_reducible refine todo ?_; simp +decide only [go_sem, hd]))
        exact Ret_d rfl rfl
      | false =>
        cases hh : Span.has lo hi t with
        | false =>
          rw [hh] at kht
          repeat' (first
            | with_reducible refine VC_seq fun K hK => ?_
            | with_reducible refine W_region ?_
            | with_reducible refine VC_block ?_
            | with_reducible refine VC_scope ?_
            | with_reducible refine VC_if ?_
            | with_reducible refine VC_skip ?_
            | with_reducible refine VC_exit ?_
            | with_reducible refine VC_ret ?_
            | (with_reducible refine G_not (fun h => ?_) (fun h => ?_) <;> (try simp only [h]))
            | (with_reducible refine G_cases (fun h => ?_) (fun h => ?_) <;> (try simp only [h]))
            | refine C_pure kht rfl rfl (fun _ => rfl) ?_
            | refine C_pure kk rfl rfl (fun _ => rfl) ?_
            | (with_reducible refine hK _ ?_; clear hK K)
            | (clear hK K; with_reducible refine hK _ ?_; clear hK K)
            | (clear hK K; clear hK K; with_reducible refine hK _ ?_; clear hK K)
            | (clear hK K; clear hK K; clear hK K; with_reducible refine hK _ ?_; clear hK K)
            | (with_reducible refine todo ?_; simp +decide only [go_sem, hd]))
          exact Ret_d rfl rfl
        | true =>
          rw [hh] at kht
          have hS := has_right hh
          have hBI := hspec hS
          have hemp : vAt l t = [] := by
            have hS2 := spanRight_iff.1 hS
            rw [has_spOK (show SpOK (lo, hi) from hS2)] at hh
            rcases hBI.cov t hh.1 hh.2 with ⟨w, hw, h1, h2⟩ | h
            · exfalso
              have hw1 := hBI.ok w hw
              have : b.any (fun w => Span.has w.sl w.sh t) = true := List.any_eq_true.2 ⟨w, hw, (has_spOK (show SpOK (w.sl, w.sh) from ⟨by show 0 ≤ w.sl; omega, hw1.2.1, by show w.sh ≤ _; omega⟩)).2 ⟨h1, h2⟩⟩
              rw [this] at hany
              cases hany
            · exact co_ne h
          rw [hemp] at ka
          repeat' (first
            | with_reducible refine VC_seq fun K hK => ?_
            | with_reducible refine W_region ?_
            | with_reducible refine VC_block ?_
            | with_reducible refine VC_scope ?_
            | with_reducible refine VC_if ?_
            | with_reducible refine VC_skip ?_
            | with_reducible refine VC_exit ?_
            | with_reducible refine VC_ret ?_
            | (with_reducible refine G_not (fun h => ?_) (fun h => ?_) <;> (try simp only [h]))
            | (with_reducible refine G_cases (fun h => ?_) (fun h => ?_) <;> (try simp only [h]))
            | refine C_pure kht rfl rfl (fun _ => rfl) ?_
            | refine C_pure ka rfl rfl (fun _ => rfl) ?_
            | refine C_pure kk rfl rfl (fun _ => rfl) ?_
            | (with_reducible refine hK _ ?_; clear hK K)
            | (clear hK K; with_reducible refine hK _ ?_; clear hK K)
            | (clear hK K; clear hK K; with_reducible refine hK _ ?_; clear hK K)
            | (clear hK K; clear hK K; clear hK K; with_reducible refine hK _ ?_; clear hK K)
            | (with_reducible refine todo ?_; simp +decide only [go_sem, hd]))
          exact Ret_d rfl rfl
end Go.Proofs

/-
  TrackLast.
-/

namespace Go.Proofs
open Go.PW

theorem iAnd_63 (m : Int) : 0 ≤ iAnd .i64 m 63 ∧ iAnd .i64 m 63 ≤ 63 := by
  have h : (BitVec.ofInt IntKind.i64.bits m &&& BitVec.ofInt IntKind.i64.bits 63).toNat ≤ 63 := by
    rw [BitVec.toNat_and]
    exact Nat.and_le_right
  have e : iAnd .i64 m 63 = ((BitVec.ofInt IntKind.i64.bits m &&& BitVec.ofInt IntKind.i64.bits 63).toNat : Int) := by
    unfold iAnd
    exact Go.IntWalk.i64_in _ (by omega)
  rw [e]
  omega
theorem sameVers_self (l : List Ver) : sameVers l l = true := by
  unfold sameVers
  have : (List.zipWith sameVer l l).all id = true := by
    induction l with
    | nil => rfl
    | cons v r ih =>
      rw [List.zipWith_cons_cons, List.all_cons, ih]
      have : sameVer v v = true := by unfold sameVer; rw [samePiece_iff.2 rfl]; simp
      simp [this]
  rw [this]
  simp
theorem sets_same {l : List Ver} {t : Int} (h : vRight l = true) (h1 : vLast l ≤ t) (h2 : t < 1099511627776) {p : List Piece} (hp : right p = true) : vSetOK l t p = true := sets_iff.2 ⟨h, hp, h1, h2⟩

set_option maxRecDepth 8000 in
set_option maxHeartbeats 16000000 in
theorem Try.kLasts (s : List OpT) (o : OpT) (back : Int) (hb : ∀ o ∈ s, o.byte) (ho : o.byte) : PureOK Try.prog 8 [pD (encOpsT s), pA o.enc, pD (.lit (.int .i64 back))] (.one (dB true)) := by
  have kb := Try.kBuildT s hb
  have hT := buildT_ok hb
  generalize buildT s = σ at *
  have hl : σ.l.length ≤ 1000 := by have := hT.vl; omega
  have hr := hT.vr
  have hR := hT.v
  have hL1 : vLast σ.l ≤ 140 := by have := hT.la; have := hT.t1; omega
  generalize σ.l = l at *
  have hL0 := (vLast_spec hR).1
  have kk := Try.kKnown
  have hroe : ∀ v ∈ l, v.p.row.length ≤ 1048576 := fun v hv => Nat.le_trans (hr v hv) (by decide)
  rcases Nat.lt_or_ge 20 o.row.length with hlong | hshort
  · have h20 : ((20 : Int) < (o.row.length : Int)) = True := eq_true (by omega)
    refine Try.pure (md := []) Try.func8 rfl Try.call8 (by kernel_rfl) (by rfl) (by exact Nat.le_of_ble_eq_true rfl) ?_
    repeat' (first
      | with_reducible refine VC_seq fun K hK => ?_
      | with_reducible refine W_region ?_
      | with_reducible refine VC_block ?_
      | with_reducible refine VC_scope ?_
      | with_reducible refine VC_if ?_
      | with_reducible refine VC_skip ?_
      | with_reducible refine VC_exit ?_
      | with_reducible refine VC_ret ?_
      | (with_reducible refine G_not (fun h => ?_) (fun h => ?_) <;> (try simp only [h]))
      | (with_reducible refine G_cases (fun h => ?_) (fun h => ?_) <;> (try simp only [h]))
      | refine C_pure kb rfl rfl (fun _ => rfl) ?_
      | refine C_pure kk rfl rfl (fun _ => rfl) ?_
      | (with_reducible refine hK _ ?_; clear hK K)
      | (clear hK K; with_reducible refine hK _ ?_; clear hK K)
      | (clear hK K; clear hK K; with_reducible refine hK _ ?_; clear hK K)
      | (clear hK K; clear hK K; clear hK K; with_reducible refine hK _ ?_; clear hK K)
      | (with_reducible refine todo ?_; simp +decide only [go_sem, h20]))
    exact Ret_d rfl rfl
  · have h20 : ((20 : Int) < (o.row.length : Int)) = False := eq_false (by omega)
    have ka := Try.kAtV l 1099511627775 (by omega) hroe
    have kl := Try.kLast l (by omega) hroe
    have hpl := vAt_length l 1099511627775
    have hpr : ∀ x ∈ vAt l 1099511627775, x.row.length ≤ 20 := fun x hx => by obtain ⟨v, hv, e⟩ := vAt_mem hx; rw [e]; exact hr v hv
    have hpR := vAt_right l 1099511627775
    have hsame : ∀ t, vLast l ≤ t → t < 1099511627776 → vSetOf l t (vAt l 1099511627775) = l := fun t h1 h2 => vSet_same ⟨hR, hpR, h1, h2⟩
    have hlast : ∀ t q, vLast l < t → t < 1099511627776 → right q = true → q ≠ vAt l 1099511627775 → vLast (vSetOf l t q) = t := fun t q h1 h2 h3 h4 => vSet_last ⟨hR, h3, by omega, h2⟩ h1 h4
    generalize vAt l 1099511627775 = p at *
    have hw0 : IntKind.i64.wrap o.lt = o.lt := Go.IntWalk.i64_in _ (by have := ho.1; have := ho.2; omega)
    have hw1 : IntKind.i64.wrap (vLast l + 1) = vLast l + 1 := Go.IntWalk.i64_in _ (by omega)
    obtain ⟨t, htd⟩ : ∃ t, vLast l + 1 + o.lt = t := ⟨_, rfl⟩
    have hw2 : IntKind.i64.wrap (vLast l + 1 + o.lt) = t := by rw [← htd]; exact Go.IntWalk.i64_in _ (by have := ho.1; have := ho.2; omega)
    have ht : vLast l < t ∧ t ≤ 1000 := by have := ho.1; have := ho.2; omega
    have kS := Try.kSet l t p (by omega) hroe (by omega) (fun x hx => Nat.le_trans (hpr x hx) (by decide))
    have hok := sets_same hR (show vLast l ≤ t by omega) (by omega) hpR
    rw [if_pos hok, vSet, if_pos hok, hsame t (by omega) (by omega)] at kS
    have kP := Try.kPut p o.s o.row (by omega) (fun x hx => Nat.le_trans (hpr x hx) (by decide)) (by omega)
    have hqR : right (putP p o.s o.row) = true := putP_right hpR
    have hql := putP_len (s := o.s) (r := o.row) hpR
    have hqr : ∀ x ∈ putP p o.s o.row, x.row.length ≤ 20 := putP_row hpr hshort
    generalize putP p o.s o.row = q at *
    have hsets : Sets l t q := ⟨hR, hqR, by omega, by omega⟩
    have kS2 := Try.kSet l t q (by omega) hroe (by omega) (fun x hx => Nat.le_trans (hqr x hx) (by decide))
    have hok2 := sets_iff.2 hsets
    rw [if_pos hok2, vSet, if_pos hok2] at kS2
    have hml := vSetOf_length l t q
    have hmr := vSetOf_rows hsets hr hqr
    have hm1 := vSet_after hsets (Int.le_refl t) (by omega)
    have hm2 := fun u (hu : u < t) => vSet_before hsets hu
    have hm3 := hlast t q ht.1 (by omega) hqR
    have hm4 : p = q → vSetOf l t q = l := fun e => by rw [← e]; exact hsame t (by omega) (by omega)
    generalize vSetOf l t q = m at *
    have hme : ∀ v ∈ m, v.p.row.length ≤ 1048576 := fun v hv => Nat.le_trans (hmr v hv) (by decide)
    have kV := Try.kSameV l l (by omega) hroe
    rw [sameVers_self] at kV
    have kpq := Try.kSameP p q (by omega) (fun x hx => Nat.le_trans (hpr x hx) (by decide))
    have n0 : ((0 : Int) != 0) = false := by decide
    have hse : o.s.enc = encSpan o.s.1 o.s.2 := rfl
    cases hpq : samePieces p q with
    | true =>
      rw [hpq] at kpq
      rw [hm4 (samePieces_iff.1 hpq)] at kS2
      refine Try.pure (md := []) Try.func8 rfl Try.call8 (by kernel_rfl) (by rfl) (by exact Nat.le_of_ble_eq_true rfl) ?_
      repeat' (first
        | with_reducible refine VC_seq fun K hK => ?_
        | with_reducible refine W_region ?_
        | with_reducible refine VC_block ?_
        | with_reducible refine VC_scope ?_
        | with_reducible refine VC_if ?_
        | with_reducible refine VC_skip ?_
        | with_reducible refine VC_exit ?_
        | with_reducible refine VC_ret ?_
        | (with_reducible refine G_not (fun h => ?_) (fun h => ?_) <;> (try simp only [h]))
        | (with_reducible refine G_cases (fun h => ?_) (fun h => ?_) <;> (try simp only [h]))
        | refine C_pure kb rfl rfl (fun _ => rfl) ?_
        | refine C_pure ka rfl rfl (fun _ => rfl) ?_
        | refine C_pure kl rfl rfl (fun _ => rfl) ?_
        | refine C_pure kS rfl rfl (fun _ => rfl) ?_
        | refine C_pure kP rfl rfl (fun _ => rfl) ?_
        | refine C_pure kS2 rfl rfl (fun _ => rfl) ?_
        | refine C_pure kV rfl rfl (fun _ => rfl) ?_
        | refine C_pure kpq rfl rfl (fun _ => rfl) ?_
        | refine C_pure kk rfl rfl (fun _ => rfl) ?_
        | (with_reducible refine hK _ ?_; clear hK K)
        | (clear hK K; with_reducible refine hK _ ?_; clear hK K)
        | (clear hK K; clear hK K; with_reducible refine hK _ ?_; clear hK K)
        | (clear hK K; clear hK K; clear hK K; with_reducible refine hK _ ?_; clear hK K)
        | (with_reducible refine todo ?_; simp +decide only [go_sem, h20, hw0, hw1, hw2, n0]))
      exact Ret_d rfl rfl
    | false =>
      rw [hpq] at kpq
      have hne : q ≠ p := fun e => by rw [samePieces_iff.2 e.symm] at hpq; cases hpq
      have hm3 := hm3 hne
      have hi := iAnd_63 back
      have hw3 : IntKind.i64.wrap (t - 1) = t - 1 := Go.IntWalk.i64_in _ (by omega)
      obtain ⟨old, hod⟩ : ∃ u, t - 1 - iAnd .i64 back 63 = u := ⟨_, rfl⟩
      have hw4 : IntKind.i64.wrap (t - 1 - iAnd .i64 back 63) = old := by rw [← hod]; exact Go.IntWalk.i64_in _ (by omega)
      have hold := hm2 old (by omega)
      have kml := Try.kLast m (by omega) hme
      rw [hm3] at kml
      have kmo := Try.kAtV m old (by omega) hme
      rw [hold] at kmo
      have klo := Try.kAtV l old (by omega) hroe
      have hdl := vAt_length l old
      have hdr : ∀ x ∈ vAt l old, x.row.length ≤ 20 := fun x hx => by obtain ⟨v, hv, e⟩ := vAt_mem hx; rw [e]; exact hr v hv
      generalize vAt l old = d at *
      have kpd := Try.kPieces d (by omega)
      have ksd := Try.rSame d d (by omega) (fun x hx => Nat.le_trans (hdr x hx) (by decide))
      rw [samePieces_iff.2 rfl] at ksd
      have kmt := Try.kAtV m t (by omega) hme
      rw [hm1] at kmt
      have kpe := Try.kPieces q (by omega)
      have kse := Try.rSame q q (by omega) (fun x hx => Nat.le_trans (hqr x hx) (by decide))
      rw [samePieces_iff.2 rfl] at kse
      have e1 : (t == t) = true := by simp
      refine Try.pure (md := []) Try.func8 rfl Try.call8 (by kernel_rfl) (by rfl) (by exact Nat.le_of_ble_eq_true rfl) ?_
      repeat' (first
        | with_reducible refine VC_seq fun K hK => ?_
        | with_reducible refine W_region ?_
        | with_reducible refine VC_block ?_
        | with_reducible refine VC_scope ?_
        | with_reducible refine VC_if ?_
        | with_reducible refine VC_skip ?_
        | with_reducible refine VC_exit ?_
        | with_reducible refine VC_ret ?_
        | (with_reducible refine G_not (fun h => ?_) (fun h => ?_) <;> (try simp only [h]))
        | (with_reducible refine G_cases (fun h => ?_) (fun h => ?_) <;> (try simp only [h]))
        | refine C_pure kb rfl rfl (fun _ => rfl) ?_
        | refine C_pure ka rfl rfl (fun _ => rfl) ?_
        | refine C_pure kl rfl rfl (fun _ => rfl) ?_
        | refine C_pure kS rfl rfl (fun _ => rfl) ?_
        | refine C_pure kP rfl rfl (fun _ => rfl) ?_
        | refine C_pure kS2 rfl rfl (fun _ => rfl) ?_
        | refine C_pure kV rfl rfl (fun _ => rfl) ?_
        | refine C_pure kpq rfl rfl (fun _ => rfl) ?_
        | refine C_pure kml rfl rfl (fun _ => rfl) ?_
        | refine C_pure kmo rfl rfl (fun _ => rfl) ?_
        | refine C_pure klo rfl rfl (fun _ => rfl) ?_
        | refine C_pure kpd rfl rfl (fun _ => rfl) ?_
        | refine C_pure ksd rfl rfl (fun _ => rfl) ?_
        | refine C_pure kmt rfl rfl (fun _ => rfl) ?_
        | refine C_pure kpe rfl rfl (fun _ => rfl) ?_
        | refine C_pure kse rfl rfl (fun _ => rfl) ?_
        | refine C_pure kk rfl rfl (fun _ => rfl) ?_
        | (with_reducible refine hK _ ?_; clear hK K)
        | (clear hK K; with_reducible refine hK _ ?_; clear hK K)
        | (clear hK K; clear hK K; with_reducible refine hK _ ?_; clear hK K)
        | (clear hK K; clear hK K; clear hK K; with_reducible refine hK _ ?_; clear hK K)
        | (with_reducible refine todo ?_; simp +decide only [go_sem, h20, hw0, hw1, hw2, n0, hw3, hw4, e1]))
      exact Ret_d rfl rfl
end Go.Proofs

/-
  What calls and versions (memoirlaw14) read as.
-/


namespace Go.Proofs
open Go.PW
def OpT.ok (o : OpT) : Prop := (Lit.int .u8 o.lt).wf = true ∧ Sp.ok o.s ∧ Row.ok' o.row
def Ver.ok (v : Ver) : Prop := Sp.ok (v.sl, v.sh) ∧ Piece.ok v.p
theorem OpT.ok_byte {o : OpT} (h : OpT.ok o) : o.byte := by
  have := h.1
  simp [Lit.wf] at this
  have h1 : IntKind.u8.min = 0 := by decide
  have h2 : IntKind.u8.max = 255 := by decide
  rw [h1, h2] at this
  exact ⟨this.1, by omega⟩
theorem Try.rOpT (w : World) : Reads Try.prog w 74 OpT.ok OpT.enc :=
  reads_map (reads_struct Try.underlying74 rfl (by kernel_rfl) (readsF_cons rfl Try.cl5 (reads_int Try.underlying5) (readsF_cons rfl Try.cl4 (reads_bool Try.underlying4) (readsF_cons rfl Try.cl43 (Try.rSp w) (readsF_cons rfl Try.cl44 (Try.rRow w) readsF_nil))))) (fun x => (⟨x.1, x.2.1, x.2.2.1, x.2.2.2.1⟩ : OpT)) (fun _ h => ⟨⟨h.1, h.2.2.1, h.2.2.2.1⟩, rfl⟩)
theorem Try.rOpsT (w : World) : Reads Try.prog w 60 (fun l : List OpT => ∀ o ∈ l, OpT.ok o) (fun l => [encOpsT l]) :=
  reads_slice Try.underlying60 Try.cl74 (by decide) (fun _ => rfl) (Try.rOpT w)
theorem Try.rVer (w : World) : Reads Try.prog w 68 Ver.ok Ver.enc :=
  reads_map (reads_struct Try.underlying68 rfl (by kernel_rfl) (readsF_cons rfl Try.cl43 (Try.rSp w) (readsF_cons rfl Try.cl46 (Try.rPiece w) readsF_nil))) (fun x => (⟨x.1.1, x.1.2, x.2.1⟩ : Ver)) (fun _ h => ⟨⟨h.1, h.2.1⟩, rfl⟩)
theorem Try.rVers (w : World) : Reads Try.prog w 22 (fun l : List Ver => ∀ v ∈ l, Ver.ok v) (fun l => [encVers l]) :=
  reads_slice Try.underlying22 Try.cl68 (by decide) (fun _ => rfl) (Try.rVer w)
theorem ops_byte {s : List OpT} (h : ∀ o ∈ s, OpT.ok o) : ∀ o ∈ s, o.byte := fun o ho => OpT.ok_byte (h o ho)
end Go.Proofs

/-
  TrackTells.
-/



namespace Go.Proofs
open Go.PW

theorem lightV_spec {l : List Ver} (h : lightV l = true) : l.length ≤ 30 ∧ ∀ v ∈ l, v.p.row.length ≤ 20 := by
  unfold lightV at h
  simp only [Bool.and_eq_true, Bool.not_eq_true', decide_eq_false_iff_not, List.all_eq_true] at h
  obtain ⟨h1, h2⟩ := h
  refine ⟨by omega, fun v hv => ?_⟩
  have := h2 v hv
  unfold shortV at this
  simp only [Bool.not_eq_true', decide_eq_false_iff_not] at this
  omega
theorem okV_rows {l : List Ver} (h : ∀ v ∈ l, Ver.ok v) : rowsOKV l := fun v hv => (h v hv).2.2

set_option maxRecDepth 8000 in
set_option maxHeartbeats 16000000 in
theorem Try.kTellsV (l : List Ver) (t : Int) (h0 : ∀ v ∈ l, Ver.ok v) : PureOK Try.prog 3 [pD (encVers l), pD (.lit (.int .i64 t))] (.one (dB true)) := by
  have hok := okV_rows h0
  have kl := Try.kLightV l
  have kk := Try.kKnown
  cases hL : lightV l with
  | false =>
    rw [hL] at kl
    refine Try.pure (md := []) Try.func3 rfl Try.call3 (by kernel_rfl) (by rfl) (by exact Nat.le_of_ble_eq_true rfl) ?_
    repeat' (first
      | with_reducible refine VC_seq fun K hK => ?_
      | with_reducible refine W_region ?_
      | with_reducible refine VC_block ?_
      | with_reducible refine VC_scope ?_
      | with_reducible refine VC_if ?_
      | with_reducible refine VC_skip ?_
      | with_reducible refine VC_exit ?_
      | with_reducible refine VC_ret ?_
      | (with_reducible refine G_not (fun h => ?_) (fun h => ?_) <;> (try simp only [h]))
      | (with_reducible refine G_cases (fun h => ?_) (fun h => ?_) <;> (try simp only [h]))
      | refine C_pure kl rfl rfl (fun _ => rfl) ?_
      | refine C_pure kk rfl rfl (fun _ => rfl) ?_
      | (with_reducible refine hK _ ?_; clear hK K)
      | (clear hK K; with_reducible refine hK _ ?_; clear hK K)
      | (clear hK K; clear hK K; with_reducible refine hK _ ?_; clear hK K)
      | (clear hK K; clear hK K; clear hK K; with_reducible refine hK _ ?_; clear hK K)
      | (with_reducible refine todo ?_; simp +decide only [go_sem]))
    exact Ret_d rfl rfl
  | true =>
    rw [hL] at kl
    obtain ⟨hn, hr⟩ := lightV_spec hL
    have hr' : ∀ v ∈ l, v.p.row.length ≤ 1048576 := fun v hv => Nat.le_trans (hr v hv) (by decide)
    have kp := Try.kPlainV l (by omega)
    have k1 := Try.kRightV l (by omega) hr'
    have r1 := Try.rRightV l (by omega) hr' hok
    have k2 := Try.kAtV l t (by omega) hr'
    have r2 := Try.rAtV l t (by omega) hr' hok
    have k2p := Try.kPieces (vAt l t) (Nat.le_trans (vAt_length l t) (by omega))
    have s2 := Try.rSame (vAt l t) (vAt l t) (Nat.le_trans (vAt_length l t) (by omega)) (fun x hx => by obtain ⟨v, hv, e⟩ := vAt_mem hx; rw [e]; exact hr' v hv)
    rw [samePieces_iff.2 rfl] at s2
    have k3 := Try.kLast l (by omega) hr'
    have r3 := Try.rLastV l (by omega) hr' hok
    have k4 := Try.kVacuum l t (by omega) hr'
    have r4 := Try.rVacuum l t (by omega) hr' hok
    have v1 : (vacuum l t).length ≤ l.length := by
      unfold vacuum
      split
      · exact List.length_filter_le _ _
      · exact Nat.le_refl _
    have v2 : ∀ v ∈ vacuum l t, v.p.row.length ≤ 1048576 := fun v hv => by
      unfold vacuum at hv
      split at hv
      · exact hr' v (List.mem_filter.1 hv).1
      · exact hr' v hv
    have k4p := Try.kPlainV (vacuum l t) (by omega)
    have s4 := Try.rSameV (vacuum l t) (vacuum l t) (by omega) v2
    rw [sameVers_self] at s4
    have k5 := Try.kCoalesceV l (by omega) hr'
    have r5 := Try.rCoalesceV l (by omega) hr' hok
    have c1 := vCoalesce_length l
    have c2 : ∀ v ∈ vCoalesce l, v.p.row.length ≤ 1048576 := fun v hv => by
      unfold vCoalesce at hv
      split at hv
      · exact (vCo_ok l [] hr' (fun w hw => by cases hw)).2 v hv
      · exact hr' v hv
    have k5p := Try.kPlainV (vCoalesce l) (by omega)
    have s5 := Try.rSameV (vCoalesce l) (vCoalesce l) (by omega) c2
    rw [sameVers_self] at s5
    have s6 := Try.rSameV l l (by omega) hr'
    rw [sameVers_self] at s6
    refine Try.pure (md := []) Try.func3 rfl Try.call3 (by kernel_rfl) (by rfl) (by exact Nat.le_of_ble_eq_true rfl) ?_
    repeat' (first
      | with_reducible refine VC_seq fun K hK => ?_
      | with_reducible refine W_region ?_
      | with_reducible refine VC_block ?_
      | with_reducible refine VC_scope ?_
      | with_reducible refine VC_if ?_
      | with_reducible refine VC_skip ?_
      | with_reducible refine VC_exit ?_
      | with_reducible refine VC_ret ?_
      | (with_reducible refine G_not (fun h => ?_) (fun h => ?_) <;> (try simp only [h]))
      | (with_reducible refine G_cases (fun h => ?_) (fun h => ?_) <;> (try simp only [h]))
      | refine C_pure kl rfl rfl (fun _ => rfl) ?_
      | refine C_pure kk rfl rfl (fun _ => rfl) ?_
      | refine C_pure kp rfl rfl (fun _ => rfl) ?_
      | refine C_pure k1 rfl rfl (fun _ => rfl) ?_
      | refine C_pure r1 rfl rfl (fun _ => rfl) ?_
      | refine C_pure k2 rfl rfl (fun _ => rfl) ?_
      | refine C_pure k2p rfl rfl (fun _ => rfl) ?_
      | refine C_pure r2 rfl rfl (fun _ => rfl) ?_
      | refine C_pure s2 rfl rfl (fun _ => rfl) ?_
      | refine C_pure k3 rfl rfl (fun _ => rfl) ?_
      | refine C_pure r3 rfl rfl (fun _ => rfl) ?_
      | refine C_pure k4 rfl rfl (fun _ => rfl) ?_
      | refine C_pure k4p rfl rfl (fun _ => rfl) ?_
      | refine C_pure r4 rfl rfl (fun _ => rfl) ?_
      | refine C_pure s4 rfl rfl (fun _ => rfl) ?_
      | refine C_pure k5 rfl rfl (fun _ => rfl) ?_
      | refine C_pure k5p rfl rfl (fun _ => rfl) ?_
      | refine C_pure r5 rfl rfl (fun _ => rfl) ?_
      | refine C_pure s5 rfl rfl (fun _ => rfl) ?_
      | refine C_pure s6 rfl rfl (fun _ => rfl) ?_
      | (with_reducible refine hK _ ?_; clear hK K)
      | (clear hK K; with_reducible refine hK _ ?_; clear hK K)
      | (clear hK K; clear hK K; with_reducible refine hK _ ?_; clear hK K)
      | (clear hK K; clear hK K; clear hK K; with_reducible refine hK _ ?_; clear hK K)
      | (with_reducible refine todo ?_; simp +decide only [go_sem, beq_self_eq_true]))
    exact Ret_d rfl rfl
end Go.Proofs
