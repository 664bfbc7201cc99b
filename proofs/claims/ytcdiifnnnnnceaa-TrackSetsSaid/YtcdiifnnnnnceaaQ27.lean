import Derived.Test.YtcdiifnnnnnceaaQ26

/-
  Versions: Between.
-/

namespace Go.PW
def CV.isM (κ : Tok) : CV → Bool
  | .mt κ' _ _ => decide (κ' = κ)
  | c => c.isD
theorem isM_ok {hk : Nat → Prop} {tk : Tok → Prop} {κ : Tok} {c : CV} (h : c.isM κ = true) (hκ : tk κ) : c.ok hk tk := by
  cases c with
  | mt κ' m n => rw [show κ' = κ from of_decide_eq_true h]; exact hκ
  | _ => first | exact True.intro | cases h
theorem Wf_hOfM {A : AMap} {κ : Tok} {l : List (Nat × List CV)} (hA : A κ ≠ none) (h : l.all (fun p => p.2.all (CV.isM κ)) = true) : Wf (hOf l) A := fun _ _ c h1 h2 =>
  isM_ok (List.all_eq_true.1 (List.all_eq_true.1 h _ (hOf_mem h1)) c h2) hA
theorem wk_mt0 {H' : HMap} {A A' : AMap} {κ : Tok} {sz : Nat} (h : A κ = none) (e : A' κ = some (.mu sz [])) : CV.wk H' A A' (.mt κ sz 0) (.full []) := .inr (.inr (.inr (.inr ⟨rfl, κ, sz, rfl, h, e⟩)))
theorem VC_while {E : Env} {H0 : HMap} {A0 : AMap} {c : Code} {Q : Post} {S : St} {ι : Type} (I : ι → Prop) (F : ι → St) (μ : ι → Nat) (i0 : ι) (hi : I i0) (h0 : Weak H0 A0 S (F i0))
    (h : ∀ i, I i → VC E H0 A0 c ⟨fun S' => ∃ j : {i : ι // I i}, Weak H0 A0 S' (F j.1) ∧ μ j.1 < μ i, Q.ret, Q.ext⟩ (F i)) : VC E H0 A0 (.loop c) Q S :=
  ⟨{i : ι // I i}, fun i => F i.1, fun i => μ i.1, ⟨⟨i0, hi⟩, h0⟩, fun i => h i.1 i.2⟩
end Go.PW
namespace Go.Proofs
open Go.PW

structure TSt where
  sl : Int
  sh : Int
  ps : List Piece
def TSt.enc (v : TSt) : List D := [.lit (.int .i64 v.sl), .lit (.int .i64 v.sh), encPieces v.ps]
def encSts (l : List TSt) : D := .sl (l.map TSt.enc)
attribute [go_sem] TSt.enc encSts
theorem Try.appSts : AppT Try.prog 55 65 3 40 := ⟨Try.underlying55, Try.cl65, Try.by65, Try.zo65, by decide, by decide⟩

/-- Whether what the key had last goes on. -/
def goesOn (out : List TSt) (t : Int) (p : List Piece) : Bool := match out[out.length - 1]? with
  | some w => (w.sh == t) && samePieces w.ps p
  | none => false
def lastTo (out : List TSt) (t : Int) : List TSt := match out[out.length - 1]? with
  | some w => out.set (out.length - 1) { w with sh := t }
  | none => out
theorem goesOn_some {out : List TSt} {t : Int} {p : List Piece} {w : TSt} (h : out[out.length - 1]? = some w) : goesOn out t p = ((w.sh == t) && samePieces w.ps p) := by rw [goesOn, h]
theorem lastTo_some {out : List TSt} {t : Int} {w : TSt} (h : out[out.length - 1]? = some w) : lastTo out t = out.set (out.length - 1) { w with sh := t } := by rw [lastTo, h]

set_option maxRecDepth 8000 in
set_option maxHeartbeats 8000000 in
theorem Try.kGoesOn (out : List TSt) (t : Int) (p : List Piece) (hn : out.length ≤ 1048576) (hr : ∀ w ∈ out, w.ps.length ≤ 1048576 ∧ ∀ x ∈ w.ps, x.row.length ≤ 1048576) {H : HMap} {A : AMap} (hw : Wf H A) {id : Nat} {κ : Tok} (hid : H id = some [.mt κ 3 out.length]) (hκ : A κ = some (.mu 3 (out.map TSt.enc))) :
    EffOK Try.prog 62 1000 H A [pD (.lit (.int .i64 t)), pD (encPieces p), .c (.ptr id 0)] (pD (.lit (.bool (goesOn out t p)))) H A := by
  refine eff_ok (E := envOf Try.prog [] 1000 [] []) (envOf_ok Try.mixed) Try.func62 rfl Try.call62 (by kernel_rfl) (by exact Nat.le_of_ble_eq_true rfl) (fun hab => ?_)
  rcases Nat.eq_zero_or_pos out.length with h0 | h0
  · have hd0 : ((0 : Int) < (out.length : Int)) = False := eq_false (by omega)
    have hg : goesOn out t p = false := by rw [goesOn, List.getElem?_eq_none (by omega)]
    rw [hg]
    repeat' (first
      | with_reducible refine VC_seq fun K hK => ?_
      | with_reducible refine W_region ?_
      | with_reducible refine VC_block ?_
      | with_reducible refine VC_scope ?_
      | with_reducible refine VC_if ?_
      | with_reducible refine VC_skip ?_
      | with_reducible refine VC_exit ?_
      | with_reducible refine VC_ret ?_
      | (with_reducible refine G_not (fun h => ?_) (fun h => ?_) <;> (try simp only [h]))
      | (with_reducible refine G_cases (fun h => ?_) (fun h => ?_) <;> (try simp only [h]))
      | (with_reducible refine hK _ ?_; clear hK K)
      | (clear hK K; with_reducible refine hK _ ?_; clear hK K)
      | (clear hK K; clear hK K; with_reducible refine hK _ ?_; clear hK K)
      | (clear hK K; clear hK K; clear hK K; with_reducible refine hK _ ?_; clear hK K)
      | (with_reducible refine todo ?_; simp +decide only [go_sem, hid, hd0]))
    exact RetE_same hw kp_refl rfl rfl rfl
  · have hd0 : ((0 : Int) < (out.length : Int)) = True := eq_true (by omega)
    have hw1 : IntKind.i64.wrap ((out.length : Int) - 1) = ((out.length - 1 : Nat) : Int) := by rw [Go.IntWalk.i64_in _ (by omega)]; omega
    have hl : (out.length - 1 < out.length) = True := eq_true (by omega)
    have hg := List.getElem?_eq_getElem (show out.length - 1 < out.length by omega)
    generalize out[out.length - 1] = w at hg
    have hwr := hr w (List.mem_of_getElem? hg)
    have ks := Try.kSameP w.ps p hwr.1 hwr.2
    rw [goesOn_some hg]
    cases e1 : (w.sh == t) with
    | false =>
      repeat' (first
        | with_reducible refine VC_seq fun K hK => ?_
        | with_reducible refine W_region ?_
        | with_reducible refine VC_block ?_
        | with_reducible refine VC_scope ?_
        | with_reducible refine VC_if ?_
        | with_reducible refine VC_skip ?_
        | with_reducible refine VC_exit ?_
        | with_reducible refine VC_ret ?_
        | (with_reducible refine G_not (fun h => ?_) (fun h => ?_) <;> (try simp only [h]))
        | (with_reducible refine G_cases (fun h => ?_) (fun h => ?_) <;> (try simp only [h]))
        | (with_reducible refine hK _ ?_; clear hK K)
        | (clear hK K; with_reducible refine hK _ ?_; clear hK K)
        | (clear hK K; clear hK K; with_reducible refine hK _ ?_; clear hK K)
        | (clear hK K; clear hK K; clear hK K; with_reducible refine hK _ ?_; clear hK K)
        | (with_reducible refine todo ?_; simp +decide only [go_sem, hid, hd0, hw1, iE_mt, hl, hκ, hg, e1]))
      exact RetE_same hw kp_refl rfl rfl rfl
    | true =>
      repeat' (first
        | with_reducible refine VC_seq fun K hK => ?_
        | with_reducible refine W_region ?_
        | with_reducible refine VC_block ?_
        | with_reducible refine VC_scope ?_
        | with_reducible refine VC_if ?_
        | with_reducible refine VC_skip ?_
        | with_reducible refine VC_exit ?_
        | with_reducible refine VC_ret ?_
        | (with_reducible refine G_not (fun h => ?_) (fun h => ?_) <;> (try simp only [h]))
        | (with_reducible refine G_cases (fun h => ?_) (fun h => ?_) <;> (try simp only [h]))
        | refine C_pure ks rfl rfl (fun k => (hab _ (by decide)).2 k) ?_
        | (with_reducible refine hK _ ?_; clear hK K)
        | (clear hK K; with_reducible refine hK _ ?_; clear hK K)
        | (clear hK K; clear hK K; with_reducible refine hK _ ?_; clear hK K)
        | (clear hK K; clear hK K; clear hK K; with_reducible refine hK _ ?_; clear hK K)
        | (with_reducible refine todo ?_; simp +decide only [go_sem, hid, hd0, hw1, iE_mt, hl, hκ, hg, e1]))
      exact RetE_same hw kp_refl rfl rfl rfl

theorem countP_strict {α : Type} {p q : α → Bool} {l : List α} (h : ∀ x ∈ l, p x = true → q x = true) {x : α} (hx : x ∈ l) (hq : q x = true) (hp : p x = false) : l.countP p < l.countP q := by
  induction l with
  | nil => cases hx
  | cons a r ih =>
    have hm := List.countP_mono_left (l := r) (fun y hy => h y (List.mem_cons_of_mem _ hy))
    rcases List.mem_cons.1 hx with e | hx
    · rw [e] at hq hp
      rw [List.countP_cons_of_pos hq, List.countP_cons_of_neg (by rw [hp]; simp)]
      omega
    · have ih := ih (fun y hy => h y (List.mem_cons_of_mem _ hy)) hx
      have ha := h a List.mem_cons_self
      cases hpa : p a with
      | true => rw [List.countP_cons_of_pos hpa, List.countP_cons_of_pos (ha hpa)]; omega
      | false =>
        rw [List.countP_cons_of_neg (by rw [hpa]; simp)]
        cases hqa : q a with
        | true => rw [List.countP_cons_of_pos hqa]; omega
        | false => rw [List.countP_cons_of_neg (by rw [hqa]; simp)]; omega

/-- How many times lie behind one. -/
def cntV (l : List Ver) (t : Int) : Nat := l.countP (fun v => decide (t < v.sl)) + l.countP (fun v => decide (t < v.sh))
def left (l : List Ver) (hi t : Int) : Nat := if t < hi then cntV l t + 1 else 0

theorem next1_spec {t m x : Int} (h : t < m) : t < next1 t m x ∧ next1 t m x ≤ m ∧ (next1 t m x = m ∨ (t < x ∧ next1 t m x = x)) ∧ (t < x → next1 t m x ≤ x) := by
  unfold next1 iMin
  split
  · rename_i hx
    have hx := of_decide_eq_true hx
    split <;> omega
  · rename_i hx
    have hx : ¬ t < x := fun h => hx (decide_eq_true h)
    omega
theorem vNext_spec : ∀ (l : List Ver) {t m : Int}, t < m → t < vNext l t m ∧ vNext l t m ≤ m ∧ (vNext l t m = m ∨ ∃ v ∈ l, (t < v.sl ∧ vNext l t m = v.sl) ∨ (t < v.sh ∧ vNext l t m = v.sh)) ∧ ∀ v ∈ l, (t < v.sl → vNext l t m ≤ v.sl) ∧ (t < v.sh → vNext l t m ≤ v.sh)
  | [], t, m, h => ⟨h, Int.le_refl _, .inl rfl, fun v hv => by cases hv⟩
  | v :: r, t, m, h => by
    obtain ⟨a1, a2, a3, a4⟩ := next1_spec (x := v.sl) h
    obtain ⟨b1, b2, b3, b4⟩ := next1_spec (x := v.sh) a1
    have e : vNext (v :: r) t m = vNext r t (next1 t (next1 t m v.sl) v.sh) := rfl
    obtain ⟨c1, c2, c3, c4⟩ := vNext_spec r b1
    rw [← e] at c1 c2 c3 c4
    refine ⟨c1, by omega, ?_, fun w hw => ?_⟩
    · rcases c3 with c3 | ⟨w, hw, c3⟩
      · rcases b3 with b3 | ⟨b3, b5⟩
        · rcases a3 with a3 | ⟨a3, a5⟩
          · exact .inl (by omega)
          · exact .inr ⟨v, List.mem_cons_self, .inl ⟨a3, by omega⟩⟩
        · exact .inr ⟨v, List.mem_cons_self, .inr ⟨b3, by omega⟩⟩
      · exact .inr ⟨w, List.mem_cons_of_mem _ hw, c3⟩
    · rcases List.mem_cons.1 hw with rfl | hw
      · exact ⟨fun h => by have := a4 h; omega, fun h => by have := b4 h; omega⟩
      · exact c4 w hw
theorem left_lt {l : List Ver} {hi t : Int} (h : t < hi) : left l hi (vNext l t hi) < left l hi t := by
  obtain ⟨h1, h2, h3, _⟩ := vNext_spec l h
  generalize vNext l t hi = n at *
  unfold left
  rw [if_pos h]
  split
  · rename_i hn
    have m1 : l.countP (fun v => decide (n < v.sl)) ≤ l.countP (fun v => decide (t < v.sl)) := List.countP_mono_left (fun v _ h => by simp only [decide_eq_true_eq] at h ⊢; omega)
    have m2 : l.countP (fun v => decide (n < v.sh)) ≤ l.countP (fun v => decide (t < v.sh)) := List.countP_mono_left (fun v _ h => by simp only [decide_eq_true_eq] at h ⊢; omega)
    unfold cntV
    rcases h3 with h3 | ⟨v, hv, ⟨h3, h4⟩ | ⟨h3, h4⟩⟩
    · omega
    · have : l.countP (fun v => decide (n < v.sl)) < l.countP (fun v => decide (t < v.sl)) := countP_strict (fun v _ h => by simp only [decide_eq_true_eq] at h ⊢; omega) hv (by simpa using h3) (by simp; omega)
      omega
    · have : l.countP (fun v => decide (n < v.sh)) < l.countP (fun v => decide (t < v.sh)) := countP_strict (fun v _ h => by simp only [decide_eq_true_eq] at h ⊢; omega) hv (by simpa using h3) (by simp; omega)
      omega
  · omega
theorem left_le (l : List Ver) (hi t : Int) : left l hi t ≤ 2 * l.length + 1 := by
  unfold left cntV
  have h1 := List.countP_le_length (p := fun v : Ver => decide (t < v.sl)) (l := l)
  have h2 := List.countP_le_length (p := fun v : Ver => decide (t < v.sh)) (l := l)
  split <;> omega

def betwStep (l : List Ver) (t n : Int) (out : List TSt) : List TSt :=
  if (coalesce (vAt l t)).length = 0 then out else if goesOn out t (coalesce (vAt l t)) = true then lastTo out n else out ++ [⟨t, n, coalesce (vAt l t)⟩]
/-- From a time on. -/
def betw (l : List Ver) (hi : Int) (t : Int) (out : List TSt) : List TSt :=
  if _h : t < hi then betw l hi (vNext l t hi) (betwStep l t (vNext l t hi) out) else out
termination_by left l hi t
decreasing_by exact left_lt ‹_›
def vBetween (l : List Ver) (lo hi : Int) : List TSt := if vRight l = true then (if Span.right lo hi = true then betw l hi lo [] else []) else []
theorem betw_go {l : List Ver} {hi t : Int} {out : List TSt} (h : t < hi) : betw l hi t out = betw l hi (vNext l t hi) (betwStep l t (vNext l t hi) out) := by
  rw [betw, dif_pos h]
theorem betw_end {l : List Ver} {hi t : Int} {out : List TSt} (h : ¬ t < hi) : betw l hi t out = out := by
  rw [betw, dif_neg h]
theorem coalesce_length (ps : List Piece) : (coalesce ps).length ≤ ps.length := by
  unfold coalesce
  split
  · exact co_length ps
  · exact Nat.le_refl _
theorem coalesce_rows {N : Nat} {ps : List Piece} (h : ∀ p ∈ ps, p.row.length ≤ N) : ∀ p ∈ coalesce ps, p.row.length ≤ N := by
  unfold coalesce
  split
  · exact co_rows h
  · exact h
/-- What is known of states that were told. -/
def TOK (N M : Nat) (out : List TSt) : Prop := ∀ w ∈ out, w.ps.length ≤ N ∧ ∀ x ∈ w.ps, x.row.length ≤ M
theorem betwStep_ok {N M : Nat} {l : List Ver} {t n : Int} {out : List TSt} (hl : l.length ≤ N) (hr : ∀ v ∈ l, v.p.row.length ≤ M) (h : TOK N M out) : TOK N M (betwStep l t n out) ∧ (betwStep l t n out).length ≤ out.length + 1 := by
  unfold betwStep
  split
  · exact ⟨h, by omega⟩
  · split
    · unfold lastTo
      split
      · rename_i w hw
        refine ⟨fun x hx => ?_, by simp⟩
        rcases List.mem_or_eq_of_mem_set hx with hx | rfl
        · exact h x hx
        · exact h w (List.mem_of_getElem? hw)
      · exact ⟨h, by omega⟩
    · refine ⟨fun x hx => ?_, by simp⟩
      rcases List.mem_append.1 hx with hx | hx
      · exact h x hx
      · rw [List.mem_singleton.1 hx]
        exact ⟨Nat.le_trans (coalesce_length _) (Nat.le_trans (vAt_length _ _) hl), coalesce_rows fun y hy => by obtain ⟨v, hv, e⟩ := vAt_mem hy; rw [e]; exact hr v hv⟩

set_option maxRecDepth 8000 in
set_option maxHeartbeats 16000000 in
theorem Try.kBetween (l : List Ver) (lo hi : Int) (hn : l.length ≤ 131072) (hr : ∀ v ∈ l, v.p.row.length ≤ 1048576) : PureOK Try.prog 29 [pD (encVers l), pA (encSpan lo hi)] (.one (.d (encSts (vBetween l lo hi)))) := by
  refine Try.pure (md := []) Try.func29 rfl Try.call29 (by kernel_rfl) (by rfl) (by exact Nat.le_of_ble_eq_true rfl) ?_
  have kr := Try.kRightV l (by omega) hr
  have ks := Try.spanRight lo hi
  cases hR : vRight l with
  | false =>
    rw [hR] at kr
    have e : vBetween l lo hi = [] := by rw [vBetween, hR]; rfl
    repeat' (first
      | with_reducible refine VC_seq fun K hK => ?_
      | with_reducible refine W_region ?_
      | with_reducible refine VC_block ?_
      | with_reducible refine VC_scope ?_
      | with_reducible refine VC_if ?_
      | with_reducible refine VC_skip ?_
      | with_reducible refine VC_exit ?_
      | with_reducible refine VC_ret ?_
      | (with_reducible refine G_not (fun h => ?_) (fun h => ?_) <;> (try simp only [h]))
      | (with_reducible refine G_cases (fun h => ?_) (fun h => ?_) <;> (try simp only [h]))
      | refine C_pure kr rfl rfl (fun _ => rfl) ?_
      | (with_reducible refine hK _ ?_; clear hK K)
      | (clear hK K; with_reducible refine hK _ ?_; clear hK K)
      | (clear hK K; clear hK K; with_reducible refine hK _ ?_; clear hK K)
      | (clear hK K; clear hK K; clear hK K; with_reducible refine hK _ ?_; clear hK K)
      | (with_reducible refine todo ?_; simp +decide only [go_sem]))
    rw [e]
    exact Ret_d rfl rfl
  | true =>
    rw [hR] at kr
    cases hS : Span.right lo hi with
    | false =>
      rw [hS] at ks
      have e : vBetween l lo hi = [] := by rw [vBetween, hR, hS]; rfl
      repeat' (first
        | with_reducible refine VC_seq fun K hK => ?_
        | with_reducible refine W_region ?_
        | with_reducible refine VC_block ?_
        | with_reducible refine VC_scope ?_
        | with_reducible refine VC_if ?_
        | with_reducible refine VC_skip ?_
        | with_reducible refine VC_exit ?_
        | with_reducible refine VC_ret ?_
        | (with_reducible refine G_not (fun h => ?_) (fun h => ?_) <;> (try simp only [h]))
        | (with_reducible refine G_cases (fun h => ?_) (fun h => ?_) <;> (try simp only [h]))
        | refine C_pure kr rfl rfl (fun _ => rfl) ?_
        | refine C_pure ks rfl rfl (fun _ => rfl) ?_
        | (with_reducible refine hK _ ?_; clear hK K)
        | (clear hK K; with_reducible refine hK _ ?_; clear hK K)
        | (clear hK K; clear hK K; with_reducible refine hK _ ?_; clear hK K)
        | (clear hK K; clear hK K; clear hK K; with_reducible refine hK _ ?_; clear hK K)
        | (with_reducible refine todo ?_; simp +decide only [go_sem]))
      rw [e]
      exact Ret_d rfl rfl
    | true =>
      rw [hS] at ks
      have e : vBetween l lo hi = betw l hi lo [] := by rw [vBetween, hR, hS]; rfl
      rw [e]
      repeat' (first
        | with_reducible refine VC_seq fun K hK => ?_
        | with_reducible refine W_region ?_
        | with_reducible refine VC_block ?_
        | with_reducible refine VC_scope ?_
        | with_reducible refine VC_if ?_
        | with_reducible refine VC_skip ?_
        | with_reducible refine VC_exit ?_
        | with_reducible refine VC_ret ?_
        | (with_reducible refine G_not (fun h => ?_) (fun h => ?_) <;> (try simp only [h]))
        | (with_reducible refine G_cases (fun h => ?_) (fun h => ?_) <;> (try simp only [h]))
        | refine C_pure kr rfl rfl (fun _ => rfl) ?_
        | refine C_pure ks rfl rfl (fun _ => rfl) ?_
        | (with_reducible refine hK _ ?_; clear hK K)
        | (clear hK K; with_reducible refine hK _ ?_; clear hK K)
        | (clear hK K; clear hK K; with_reducible refine hK _ ?_; clear hK K)
        | (clear hK K; clear hK K; clear hK K; with_reducible refine hK _ ?_; clear hK K)
        | (with_reducible refine todo ?_; simp +decide only [go_sem]))
      refine VC_while (ι := Int × List TSt) (fun x => betw l hi x.1 x.2 = betw l hi lo [] ∧ x.2.length + left l hi x.1 ≤ left l hi lo ∧ TOK 131072 1048576 x.2)
        (fun x => frame [(0, pD (encVers l)), (3, .c (.ptr 3 0)), (5, .c (.ptr 5 0)), (6, .c (.fn 62 [(5, 0)])), (7, pD (.lit (.int .i64 x.1)))] [(3, [.d (.lit (.int .i64 lo)), .d (.lit (.int .i64 hi))]), (5, [.mt (42, 0) 3 x.2.length])] [((42, 0), .mu 3 (x.2.map TSt.enc))])
        (fun x => left l hi x.1) (lo, []) ⟨rfl, by simp, fun w hw => by cases hw⟩ ?_ ?_
      · refine Weak_frame ?_ ?_ ?_ <;> simp +decide only [go_sem]
        · exact ⟨wkP_ptr (by simp [hOf]), wkP_ptr (by simp [hOf]), wkP_fn1 (by simp [hOf])⟩
        · exact wk_mt0 rfl rfl
      · rintro ⟨t, out⟩ ⟨hI1, hI2, hI3⟩
        have hle := left_le l hi lo
        simp only at hI1 hI2 hI3
        rcases Int.lt_or_le t hi with hlt | hge
        · have hd : (t < hi) = True := eq_true hlt
          have kn := Try.kNext l t hi (by omega)
          have hbg := betw_go (l := l) (out := out) hlt
          have hll := left_lt (l := l) hlt
          have hso := betwStep_ok (n := vNext l t hi) (t := t) hn hr hI3
          generalize vNext l t hi = n at *
          have ka := Try.kAtV l t hn hr
          have kc := Try.kCoalesce (vAt l t) (Nat.le_trans (vAt_length _ _) hn) (fun y hy => by obtain ⟨v, hv, e⟩ := vAt_mem hy; rw [e]; exact hr v hv)
          have hst : betwStep l t n out = if (coalesce (vAt l t)).length = 0 then out else if goesOn out t (coalesce (vAt l t)) = true then lastTo out n else out ++ [⟨t, n, coalesce (vAt l t)⟩] := rfl
          generalize coalesce (vAt l t) = p at *
          have kg := Try.kGoesOn out t p (by omega) (fun w hw => ⟨by have := (hI3 w hw).1; omega, (hI3 w hw).2⟩) (H := hOf [(3, [.d (.lit (.int .i64 lo)), .d (.lit (.int .i64 hi))]), (5, [.mt (42, 0) 3 out.length])]) (A := aOf [((42, 0), .mu 3 (out.map TSt.enc))]) (Wf_hOfM (κ := (42, 0)) (by simp [aOf]) rfl) (id := 5) (κ := (42, 0)) (by simp +decide only [go_sem]) (by simp +decide only [go_sem])
          rcases Nat.eq_zero_or_pos p.length with hp | hp
          · have hz : ((p.length : Int) == 0) = true := by rw [hp]; rfl
            have hst : betwStep l t n out = out := by rw [hst, if_pos hp]
            rw [hst] at hbg hso
            repeat' (first
              | with_reducible refine VC_seq fun K hK => ?_
              | with_reducible refine W_region ?_
              | with_reducible refine VC_block ?_
              | with_reducible refine VC_scope ?_
              | with_reducible refine VC_if ?_
              | with_reducible refine VC_skip ?_
              | with_reducible refine VC_exit ?_
              | with_reducible refine VC_ret ?_
              | (with_reducible refine G_not (fun h => ?_) (fun h => ?_) <;> (try simp only [h]))
              | (with_reducible refine G_cases (fun h => ?_) (fun h => ?_) <;> (try simp only [h]))
              | refine C_pure kn rfl rfl (fun _ => rfl) ?_
              | refine C_pure ka rfl rfl (fun _ => rfl) ?_
              | refine C_pure kc rfl rfl (fun _ => rfl) ?_
              | (with_reducible refine hK _ ?_; clear hK K)
              | (clear hK K; with_reducible refine hK _ ?_; clear hK K)
              | (clear hK K; clear hK K; with_reducible refine hK _ ?_; clear hK K)
              | (clear hK K; clear hK K; clear hK K; with_reducible refine hK _ ?_; clear hK K)
              | (with_reducible refine todo ?_; simp +decide only [go_sem, hd, hz]))
            refine ⟨⟨(n, out), ⟨by rw [← hbg]; exact hI1, by simp only; omega, hI3⟩⟩, Weak_frame ?_ ?_ ?_, hll⟩ <;> simp +decide only [go_sem]
            · exact ⟨wkP_ptr (by simp [hOf]), wkP_ptr (by simp [hOf]), wkP_fn1 (by simp [hOf])⟩
            · exact wk_mt (by simp [aOf]) rfl
          · have hz : ((p.length : Int) == 0) = false := by rw [beq_eq_false_iff_ne]; omega
            rw [if_neg (by omega)] at hst
            cases hgo : goesOn out t p with
            | false =>
              rw [hgo] at kg hst
              simp only [Bool.false_eq_true, if_false] at hst
              rw [hst] at hbg hso
              repeat' (first
                | with_reducible refine VC_seq fun K hK => ?_
                | with_reducible refine W_region ?_
                | with_reducible refine VC_block ?_
                | with_reducible refine VC_scope ?_
                | with_reducible refine VC_if ?_
                | with_reducible refine VC_skip ?_
                | with_reducible refine VC_exit ?_
                | with_reducible refine VC_ret ?_
                | (with_reducible refine G_not (fun h => ?_) (fun h => ?_) <;> (try simp only [h]))
                | (with_reducible refine G_cases (fun h => ?_) (fun h => ?_) <;> (try simp only [h]))
                | refine C_pure kn rfl rfl (fun _ => rfl) ?_
                | refine C_pure ka rfl rfl (fun _ => rfl) ?_
                | refine C_pure kc rfl rfl (fun _ => rfl) ?_
                | refine C_eff kg rfl (Above_of rfl rfl) ?_
                | (refine W_mt Try.appSts (els := out.map TSt.enc) (by simp +decide only [go_sem]) (by simp +decide only [go_sem]) rfl (szOne rfl) (by simp; omega) ?_)
                | (with_reducible refine hK _ ?_; clear hK K)
                | (clear hK K; with_reducible refine hK _ ?_; clear hK K)
                | (clear hK K; clear hK K; with_reducible refine hK _ ?_; clear hK K)
                | (clear hK K; clear hK K; clear hK K; with_reducible refine hK _ ?_; clear hK K)
                | (with_reducible refine todo ?_; simp +decide only [go_sem, hd, hz]))
              refine ⟨⟨(n, out ++ [⟨t, n, p⟩]), ⟨by rw [← hbg]; exact hI1, by simp only [List.length_append, List.length_singleton]; omega, hso.1⟩⟩, Weak_frame ?_ ?_ ?_, hll⟩ <;> simp +decide only [go_sem]
              · exact ⟨wkP_ptr (by simp [hOf]), wkP_ptr (by simp [hOf]), wkP_fn1 (by simp [hOf])⟩
              · exact wk_mt (by simp [aOf]) (by simp [aOf, upd])
            | true =>
              rw [hgo] at kg hst
              simp only [if_true] at hst
              rw [hst] at hbg hso
              have ho : 0 < out.length := by
                rcases Nat.eq_zero_or_pos out.length with h0 | h0
                · rw [goesOn, List.getElem?_eq_none (by omega)] at hgo; cases hgo
                · exact h0
              have hw1 : IntKind.i64.wrap ((out.length : Int) - 1) = ((out.length - 1 : Nat) : Int) := by rw [Go.IntWalk.i64_in _ (by omega)]; omega
              have hl : (out.length - 1 < out.length) = True := eq_true (by omega)
              have hg := List.getElem?_eq_getElem (show out.length - 1 < out.length by omega)
              generalize out[out.length - 1] = w at hg
              have hlt1 := lastTo_some (t := n) hg
              rw [hlt1] at hbg hso
              repeat' (first
                | with_reducible refine VC_seq fun K hK => ?_
                | with_reducible refine W_region ?_
                | with_reducible refine VC_block ?_
                | with_reducible refine VC_scope ?_
                | with_reducible refine VC_if ?_
                | with_reducible refine VC_skip ?_
                | with_reducible refine VC_exit ?_
                | with_reducible refine VC_ret ?_
                | (with_reducible refine G_not (fun h => ?_) (fun h => ?_) <;> (try simp only [h]))
                | (with_reducible refine G_cases (fun h => ?_) (fun h => ?_) <;> (try simp only [h]))
                | refine C_pure kn rfl rfl (fun _ => rfl) ?_
                | refine C_pure ka rfl rfl (fun _ => rfl) ?_
                | refine C_pure kc rfl rfl (fun _ => rfl) ?_
                | refine C_eff kg rfl (Above_of rfl rfl) ?_
                | (with_reducible refine hK _ ?_; clear hK K)
                | (clear hK K; with_reducible refine hK _ ?_; clear hK K)
                | (clear hK K; clear hK K; with_reducible refine hK _ ?_; clear hK K)
                | (clear hK K; clear hK K; clear hK K; with_reducible refine hK _ ?_; clear hK K)
                | (with_reducible refine todo ?_; simp +decide only [go_sem, hd, hz, hw1, iE_mt, hl, hg]))
              refine ⟨⟨(n, out.set (out.length - 1) { w with sh := n }), ⟨by rw [← hbg]; exact hI1, by simp only [List.length_set]; omega, hso.1⟩⟩, Weak_frame ?_ ?_ ?_, hll⟩ <;> simp +decide only [go_sem, List.map_set, List.length_set]
              · exact ⟨wkP_ptr (by simp [hOf]), wkP_ptr (by simp [hOf]), wkP_fn1 (by simp [hOf])⟩
              · exact wk_mt (by simp [aOf]) (by simp [aOf, upd])
        · have hd : (t < hi) = False := eq_false (by omega)
          have hbe : betw l hi t out = out := betw_end (by omega)
          have hfin : betw l hi lo [] = out := by rw [← hI1, hbe]
          repeat' (first
            | with_reducible refine VC_seq fun K hK => ?_
            | with_reducible refine W_region ?_
            | with_reducible refine VC_block ?_
            | with_reducible refine VC_scope ?_
            | with_reducible refine VC_if ?_
            | with_reducible refine VC_skip ?_
            | with_reducible refine VC_exit ?_
            | with_reducible refine VC_ret ?_
            | (with_reducible refine G_not (fun h => ?_) (fun h => ?_) <;> (try simp only [h]))
            | (with_reducible refine G_cases (fun h => ?_) (fun h => ?_) <;> (try simp only [h]))
            | (with_reducible refine hK _ ?_; clear hK K)
            | (clear hK K; with_reducible refine hK _ ?_; clear hK K)
            | (clear hK K; clear hK K; with_reducible refine hK _ ?_; clear hK K)
            | (clear hK K; clear hK K; clear hK K; with_reducible refine hK _ ?_; clear hK K)
            | (with_reducible refine todo ?_; simp +decide only [go_sem, hd]))
          rw [hfin]
          exact Ret_mt (42, 0) rfl (sz := 3) (by simp +decide only [go_sem]) (by simp +decide only [go_sem])
end Go.Proofs
