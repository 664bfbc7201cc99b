import Derived.Test.YtcdiifnnnnnceaaQ23

/-
  Versions: Same, next.
-/

namespace Go.Proofs
open Go.PW

/-- The same version. -/
def sameVer (v w : Ver) : Bool := ((v.sl == w.sl) && (v.sh == w.sh)) && samePiece v.p w.p
def sameVers (a b : List Ver) : Bool := a.length == b.length && (List.zipWith sameVer a b).all id

set_option maxRecDepth 8000 in
set_option maxHeartbeats 8000000 in
theorem Try.kSameV (a b : List Ver) (hr : a.length ≤ 1048576) (hrr : ∀ v ∈ a, v.p.row.length ≤ 1048576) : PureOK Try.prog 31 [pD (encVers a), pD (encVers b)] (.one (dB (sameVers a b))) := by
  refine Try.pure (md := []) Try.func31 rfl Try.call31 (by kernel_rfl) (by rfl) (by exact Nat.le_of_ble_eq_true rfl) ?_
  repeat' (first
    | with_reducible refine VC_seq fun K hK => ?_
    | with_reducible refine W_region ?_
    | with_reducible refine VC_block ?_
    | with_reducible refine VC_scope ?_
    | with_reducible refine VC_if ?_
    | with_reducible refine VC_skip ?_
    | with_reducible refine VC_exit ?_
    | with_reducible refine VC_ret ?_
    | (with_reducible refine G_not (fun h => ?_) (fun h => ?_) <;> (try simp only [h]))
    | (with_reducible refine G_cases (fun h => ?_) (fun h => ?_) <;> (try simp only [h]))
    | (with_reducible refine hK _ ?_; clear hK K)
    | (clear hK K; with_reducible refine hK _ ?_; clear hK K)
    | (clear hK K; clear hK K; with_reducible refine hK _ ?_; clear hK K)
    | (clear hK K; clear hK K; clear hK K; with_reducible refine hK _ ?_; clear hK K)
    | (with_reducible refine todo ?_; simp +decide only [go_sem]))
  · refine Ret_d rfl ?_
    have hne : (a.length == b.length) = false := by
      rw [beq_eq_false_iff_ne]; intro e; rw [e] at h; simp at h
    simp +decide only [go_sem, sameVers, hne]
  · have hlen : a.length = b.length := by
      have e : ((a.length : Int) == (b.length : Int)) = true := by simpa [bne] using h
      exact Int.ofNat_inj.1 (by simpa using e)
    refine VC_range a.length (fun i => (List.zipWith sameVer (a.take i) (b.take i)).all id = true) (fun i => frame [(0, pD (encVers a)), (1, pD (encVers b)), (12, pD (.lit (.int .i64 a.length))), (13, pD (.lit (.int .i64 i)))] [] []) rfl ?_ ?_
    · refine Weak_frame ?_ ?_ ?_ <;> simp +decide only [go_sem]
    · intro i hi hI
      rcases Nat.lt_or_ge i a.length with hlt | hge
      · have hg := List.getElem?_eq_getElem hlt
        have hg' := List.getElem?_eq_getElem (show i < b.length by omega)
        have hd := int_lt_true hlt
        have hw := int_next hlt (show a.length ≤ 4294967296 by omega)
        generalize a[i] = x at hg
        generalize b[i] = y at hg'
        have hx := hrr x (List.mem_of_getElem? hg)
        repeat' (first
          | with_reducible refine VC_seq fun K hK => ?_
          | with_reducible refine W_region ?_
          | with_reducible refine VC_block ?_
          | with_reducible refine VC_scope ?_
          | with_reducible refine VC_if ?_
          | with_reducible refine VC_skip ?_
          | with_reducible refine VC_exit ?_
          | with_reducible refine VC_ret ?_
          | (with_reducible refine G_not (fun h => ?_) (fun h => ?_) <;> (try simp only [h]))
          | (with_reducible refine G_cases (fun h => ?_) (fun h => ?_) <;> (try simp only [h]))
          | refine C_pure (Try.kAlike x.p y.p hx) rfl rfl (fun _ => rfl) ?_
          | (with_reducible refine hK _ ?_; clear hK K)
          | (clear hK K; with_reducible refine hK _ ?_; clear hK K)
          | (clear hK K; clear hK K; with_reducible refine hK _ ?_; clear hK K)
          | (clear hK K; clear hK K; clear hK K; with_reducible refine hK _ ?_; clear hK K)
          | (with_reducible refine todo ?_; simp +decide only [go_sem, hg, hg', hd, hw]))
        all_goals first
          | (have hf : sameVer x y = true := by unfold sameVer; simp [*]
             refine Next_of hlt (zip_take hI hg hg' hf) (Weak_frame ?_ ?_ ?_) <;> simp +decide only [go_sem])
          | (have hf : sameVer x y = false := by unfold sameVer; simp [*]
             refine Ret_d rfl ?_
             simp +decide only [go_sem, sameVers, zip_not hg hg' hf])
      · have hd := int_lt_false hge
        rw [List.take_of_length_le hge, List.take_of_length_le (show b.length ≤ i by omega)] at hI
        repeat' (first
          | with_reducible refine VC_seq fun K hK => ?_
          | with_reducible refine W_region ?_
          | with_reducible refine VC_block ?_
          | with_reducible refine VC_scope ?_
          | with_reducible refine VC_if ?_
          | with_reducible refine VC_skip ?_
          | with_reducible refine VC_exit ?_
          | with_reducible refine VC_ret ?_
          | (with_reducible refine G_not (fun h => ?_) (fun h => ?_) <;> (try simp only [h]))
          | (with_reducible refine G_cases (fun h => ?_) (fun h => ?_) <;> (try simp only [h]))
          | (with_reducible refine hK _ ?_; clear hK K)
          | (clear hK K; with_reducible refine hK _ ?_; clear hK K)
          | (clear hK K; clear hK K; with_reducible refine hK _ ?_; clear hK K)
          | (clear hK K; clear hK K; clear hK K; with_reducible refine hK _ ?_; clear hK K)
          | (with_reducible refine todo ?_; simp +decide only [go_sem, hd]))
        refine Ret_d rfl ?_
        simp +decide only [go_sem, sameVers, hI, hlen]

theorem wkP_agg {H' : HMap} {A A' : AMap} {x y : Int} {k k' : IntKind} : PV.wk H' A A' (.agg [.d (.lit (.int k x)), .d (.lit (.int k' y))]) (.agg [.d (.lit (.int k x)), .d (.lit (.int k' y))]) := by
  refine ⟨rfl, fun k c d h1 h2 => ?_⟩
  rw [h1] at h2
  cases h2
  match k, h1 with
  | 0, h1 => cases h1; rw [wk_d]; exact True.intro
  | 1, h1 => cases h1; rw [wk_d]; exact True.intro

/-- The first time behind one at which something begins or ends. -/
def next1 (t m x : Int) : Int := if decide (t < x) = true then iMin m x else m
def nextStep (t : Int) (m : Int) (v : Ver) : Int := next1 t (next1 t m v.sl) v.sh
def vNext (l : List Ver) (t most : Int) : Int := l.foldl (nextStep t) most

set_option maxRecDepth 8000 in
set_option maxHeartbeats 8000000 in
theorem Try.kNext (l : List Ver) (t most : Int) (hn : l.length ≤ 1048576) : PureOK Try.prog 63 [pD (encVers l), pD (.lit (.int .i64 t)), pD (.lit (.int .i64 most))] (.one (.d (.lit (.int .i64 (vNext l t most))))) := by
  refine Try.pure (md := []) Try.func63 rfl Try.call63 (by kernel_rfl) (by rfl) (by exact Nat.le_of_ble_eq_true rfl) ?_
  repeat' (first
    | with_reducible refine VC_seq fun K hK => ?_
    | with_reducible refine W_region ?_
    | with_reducible refine VC_block ?_
    | with_reducible refine VC_scope ?_
    | with_reducible refine VC_if ?_
    | with_reducible refine VC_skip ?_
    | with_reducible refine VC_exit ?_
    | with_reducible refine VC_ret ?_
    | (with_reducible refine G_not (fun h => ?_) (fun h => ?_) <;> (try simp only [h]))
    | (with_reducible refine G_cases (fun h => ?_) (fun h => ?_) <;> (try simp only [h]))
    | (with_reducible refine hK _ ?_; clear hK K)
    | (clear hK K; with_reducible refine hK _ ?_; clear hK K)
    | (clear hK K; clear hK K; with_reducible refine hK _ ?_; clear hK K)
    | (clear hK K; clear hK K; clear hK K; with_reducible refine hK _ ?_; clear hK K)
    | (with_reducible refine todo ?_; simp +decide only [go_sem]))
  refine VC_range l.length (fun _ => True) (fun i => frame [(1, pD (.lit (.int .i64 t))), (2, pD (.lit (.int .i64 (vNext (l.take i) t most)))), (11, pD (encVers l)), (12, pD (.lit (.int .i64 l.length))), (13, pD (.lit (.int .i64 i)))] [] []) True.intro ?_ ?_
  · refine Weak_frame ?_ ?_ ?_ <;> simp +decide only [go_sem, vNext, List.foldl_nil]
  · intro i hi hI
    rcases Nat.lt_or_ge i l.length with hlt | hge
    · have hg := List.getElem?_eq_getElem hlt
      have hd := int_lt_true hlt
      have hwi := int_next hlt (show l.length ≤ 4294967296 by omega)
      generalize l[i] = x at hg
      have hnx : vNext (l.take (i + 1)) t most = nextStep t (vNext (l.take i) t most) x := foldl_next hg
      generalize vNext (l.take i) t most = m at *
      have hm2 : nextStep t m x = next1 t (next1 t m x.sl) x.sh := rfl
      have t0 : Int.toNat 0 = 0 := rfl
      have t1 : Int.toNat 1 = 1 := rfl
      have w1 : IntKind.i64.wrap (0 + 1) = 1 := by decide
      have w2 : IntKind.i64.wrap (1 + 1) = 2 := by decide
      have c1 : ((1 : Nat) : Int) = 1 := rfl
      have c2 : ((2 : Nat) : Int) = 2 := rfl
      repeat' (first
        | with_reducible refine VC_seq fun K hK => ?_
        | with_reducible refine W_region ?_
        | with_reducible refine VC_block ?_
        | with_reducible refine VC_scope ?_
        | with_reducible refine VC_if ?_
        | with_reducible refine VC_skip ?_
        | with_reducible refine VC_exit ?_
        | with_reducible refine VC_ret ?_
        | (with_reducible refine G_not (fun h => ?_) (fun h => ?_) <;> (try simp only [h]))
        | (with_reducible refine G_cases (fun h => ?_) (fun h => ?_) <;> (try simp only [h]))
        | (with_reducible refine hK _ ?_; clear hK K)
        | (clear hK K; with_reducible refine hK _ ?_; clear hK K)
        | (clear hK K; clear hK K; with_reducible refine hK _ ?_; clear hK K)
        | (clear hK K; clear hK K; clear hK K; with_reducible refine hK _ ?_; clear hK K)
        | (with_reducible refine todo ?_; simp +decide only [go_sem, hg, hd]))
      refine VC_range 2 (fun _ => True) (fun k => frame [(1, pD (.lit (.int .i64 t))), (2, pD (.lit (.int .i64 (if k = 0 then m else if k = 1 then next1 t m x.sl else next1 t (next1 t m x.sl) x.sh)))), (11, pD (encVers l)), (12, pD (.lit (.int .i64 l.length))), (13, pD (.lit (.int .i64 i))), (23, .agg [.d (.lit (.int .i64 x.sl)), .d (.lit (.int .i64 x.sh))]), (24, pD (.lit (.int .i64 k)))] [] []) True.intro ?_ ?_
      · refine Weak_frame ?_ ?_ ?_ <;> simp +decide only [go_sem]
        exact wkP_agg
      · intro k hk hK'
        have hk3 : k = 0 ∨ k = 1 ∨ k = 2 := by omega
        rcases hk3 with rfl | rfl | rfl
        · repeat' (first
            | with_reducible refine VC_seq fun K hK => ?_
            | with_reducible refine W_region ?_
            | with_reducible refine VC_block ?_
            | with_reducible refine VC_scope ?_
            | with_reducible refine VC_if ?_
            | with_reducible refine VC_skip ?_
            | with_reducible refine VC_exit ?_
            | with_reducible refine VC_ret ?_
            | (with_reducible refine G_not (fun h => ?_) (fun h => ?_) <;> (try simp only [h]))
            | (with_reducible refine G_cases (fun h => ?_) (fun h => ?_) <;> (try simp only [h]))
            | (with_reducible refine hK _ ?_; clear hK K)
            | (clear hK K; with_reducible refine hK _ ?_; clear hK K)
            | (clear hK K; clear hK K; with_reducible refine hK _ ?_; clear hK K)
            | (clear hK K; clear hK K; clear hK K; with_reducible refine hK _ ?_; clear hK K)
            | (with_reducible refine todo ?_; simp +decide only [go_sem, t0, w1]))
          all_goals first
            | (have hv : next1 t m x.sl = iMin m x.sl := by unfold next1; rw [if_pos (by simpa using h)]
               refine ⟨⟨1, by omega, True.intro⟩, Weak_frame ?_ ?_ ?_, by show 2 - 1 < 2 - 0; omega⟩ <;> simp +decide only [go_sem, hv, c1, iMin]
               first | exact wkP_agg | exact ⟨wk_c (.inr (.inl ⟨rfl, True.intro⟩)), wkP_agg⟩)
            | (have hv : next1 t m x.sl = m := by unfold next1; rw [if_neg (by simpa using h)]
               refine ⟨⟨1, by omega, True.intro⟩, Weak_frame ?_ ?_ ?_, by show 2 - 1 < 2 - 0; omega⟩ <;> simp +decide only [go_sem, hv, c1]
               exact wkP_agg)
        · generalize next1 t m x.sl = m1 at *
          repeat' (first
            | with_reducible refine VC_seq fun K hK => ?_
            | with_reducible refine W_region ?_
            | with_reducible refine VC_block ?_
            | with_reducible refine VC_scope ?_
            | with_reducible refine VC_if ?_
            | with_reducible refine VC_skip ?_
            | with_reducible refine VC_exit ?_
            | with_reducible refine VC_ret ?_
            | (with_reducible refine G_not (fun h => ?_) (fun h => ?_) <;> (try simp only [h]))
            | (with_reducible refine G_cases (fun h => ?_) (fun h => ?_) <;> (try simp only [h]))
            | (with_reducible refine hK _ ?_; clear hK K)
            | (clear hK K; with_reducible refine hK _ ?_; clear hK K)
            | (clear hK K; clear hK K; with_reducible refine hK _ ?_; clear hK K)
            | (clear hK K; clear hK K; clear hK K; with_reducible refine hK _ ?_; clear hK K)
            | (with_reducible refine todo ?_; simp +decide only [go_sem, c1, t1, w2]))
          all_goals first
            | (have hv : next1 t m1 x.sh = iMin m1 x.sh := by unfold next1; rw [if_pos (by simpa using h)]
               refine ⟨⟨2, by omega, True.intro⟩, Weak_frame ?_ ?_ ?_, by show 2 - 2 < 2 - 1; omega⟩ <;> simp +decide only [go_sem, hv, c2, iMin]
               first | exact wkP_agg | exact ⟨wk_c (.inr (.inl ⟨rfl, True.intro⟩)), wkP_agg⟩)
            | (have hv : next1 t m1 x.sh = m1 := by unfold next1; rw [if_neg (by simpa using h)]
               refine ⟨⟨2, by omega, True.intro⟩, Weak_frame ?_ ?_ ?_, by show 2 - 2 < 2 - 1; omega⟩ <;> simp +decide only [go_sem, hv, c2]
               exact wkP_agg)
        · repeat' (first
            | with_reducible refine VC_seq fun K hK => ?_
            | with_reducible refine W_region ?_
            | with_reducible refine VC_block ?_
            | with_reducible refine VC_scope ?_
            | with_reducible refine VC_if ?_
            | with_reducible refine VC_skip ?_
            | with_reducible refine VC_exit ?_
            | with_reducible refine VC_ret ?_
            | (with_reducible refine G_not (fun h => ?_) (fun h => ?_) <;> (try simp only [h]))
            | (with_reducible refine G_cases (fun h => ?_) (fun h => ?_) <;> (try simp only [h]))
            | (with_reducible refine hK _ ?_; clear hK K)
            | (clear hK K; with_reducible refine hK _ ?_; clear hK K)
            | (clear hK K; clear hK K; with_reducible refine hK _ ?_; clear hK K)
            | (clear hK K; clear hK K; clear hK K; with_reducible refine hK _ ?_; clear hK K)
            | (with_reducible refine todo ?_; simp +decide only [go_sem, c2, hwi]))
          refine Next_of hlt True.intro (Weak_frame ?_ ?_ ?_) <;> simp +decide only [go_sem, hnx, hm2]
    · have hd := int_lt_false hge
      rw [List.take_of_length_le hge]
      repeat' (first
        | with_reducible refine VC_seq fun K hK => ?_
        | with_reducible refine W_region ?_
        | with_reducible refine VC_block ?_
        | with_reducible refine VC_scope ?_
        | with_reducible refine VC_if ?_
        | with_reducible refine VC_skip ?_
        | with_reducible refine VC_exit ?_
        | with_reducible refine VC_ret ?_
        | (with_reducible refine G_not (fun h => ?_) (fun h => ?_) <;> (try simp only [h]))
        | (with_reducible refine G_cases (fun h => ?_) (fun h => ?_) <;> (try simp only [h]))
        | (with_reducible refine hK _ ?_; clear hK K)
        | (clear hK K; with_reducible refine hK _ ?_; clear hK K)
        | (clear hK K; clear hK K; with_reducible refine hK _ ?_; clear hK K)
        | (clear hK K; clear hK K; clear hK K; with_reducible refine hK _ ?_; clear hK K)
        | (with_reducible refine todo ?_; simp +decide only [go_sem, hd]))
      exact Ret_d rfl rfl
end Go.Proofs

/-
  Versions: rise.
-/

namespace Go.PW

theorem hOver_spec3 {H : HMap} {A A' : AMap} {S : St} (hw : Wf H A) (hb : ∀ id, H id ≠ none → S.H id = H id) (hA : ∀ κ, A κ ≠ none → A' κ ≠ none ∧ A' κ = S.A κ) {all : List (Nat × List CV)} : ∀ {l : List (Nat × List CV)}, keepH (hOver all H) S.A A' S.H l → ∀ id, hOver l H id = none ∨ ∃ cs ds, hOver l H id = some cs ∧ S.H id = some ds ∧ cs.length = ds.length ∧
    ∀ (k : Nat) (c d : CV), cs[k]? = some c → ds[k]? = some d → CV.wk (hOver all H) S.A A' c d
  | [], _, t => by
    cases hH : H t with
    | none => exact .inl hH
    | some cs =>
      refine .inr ⟨cs, cs, hH, by rw [hb t (by rw [hH]; simp), hH], rfl, fun k c d h1 h2 => ?_⟩
      rw [h1] at h2
      cases h2
      exact .inr (.inl ⟨rfl, ok_mono (fun i hi => hOver_old hi) (fun κ hκ => hA κ hκ) (hw t cs c hH (List.mem_of_getElem? h1))⟩)
  | (u, x) :: r, h, t => by
    unfold hOver
    split
    · rename_i e
      subst e
      right
      obtain ⟨h1, _⟩ := h
      cases hH : S.H t with
      | none => rw [hH] at h1; exact h1.elim
      | some ds => rw [hH] at h1; exact ⟨x, ds, rfl, rfl, wkCells_spec h1⟩
    · exact hOver_spec3 hw hb hA h.2 t

theorem chg_ok {A : AMap} {S : St} {κ : Tok} {ar : Arr} (hA : ∀ κ', κ' ≠ κ → A κ' ≠ none → S.A κ' = A κ') (hk : S.A κ = some ar) : ∀ κ', A κ' ≠ none → upd A κ (some ar) κ' ≠ none ∧ upd A κ (some ar) κ' = S.A κ' := fun κ' hk' => by
  by_cases e : κ' = κ
  · subst e; rw [upd_same, hk]; simp
  · rw [upd_other _ _ e, hA κ' e hk']; exact ⟨hk', rfl⟩
theorem chg_A {A : AMap} {S : St} {κ : Tok} {ar : Arr} (hA : ∀ κ', κ' ≠ κ → A κ' ≠ none → S.A κ' = A κ') (hk : S.A κ = some ar) (κ' : Tok) : upd A κ (some ar) κ' = none ∨ upd A κ (some ar) κ' = S.A κ' := by
  by_cases e : κ' = κ
  · subst e; rw [upd_same, hk]; exact .inr rfl
  · rw [upd_other _ _ e]
    cases hA0 : A κ' with
    | none => exact .inl rfl
    | some y => exact .inr (by rw [hA κ' e (by rw [hA0]; simp), hA0])
/-- A loop's head: one of the caller's arrays has changed. -/
theorem Weak_over2 {H : HMap} {A : AMap} {S : St} {l : List (Nat × PV)} {h : List (Nat × List CV)} {κ : Tok} {ar : Arr} (hw : Wf H A) (hb : ∀ id, H id ≠ none → S.H id = H id) (hA : ∀ κ', κ' ≠ κ → A κ' ≠ none → S.A κ' = A κ') (hk : S.A κ = some ar)
    (h1 : keepP (hOver h H) S.A (upd A κ (some ar)) S.ρ l) (h2 : keepH (hOver h H) S.A (upd A κ (some ar)) S.H h) : Weak H A S (over1 l h H A κ ar) :=
  ⟨fun t => keepP_spec h1 t, hOver_spec3 hw hb (chg_ok hA hk) h2, fun κ' => (chg_A hA hk κ').imp (fun h => h) .inl, fun _ h => hOver_old h, fun κ' hk' => (chg_ok hA hk κ' hk').1⟩
/-- The end of a function without results: one of the caller's arrays has changed. -/
theorem RetE_none {P : Program} {fn : Func} {H : HMap} {A : AMap} {S : St} {κ : Tok} {ar : Arr} (hw : Wf H A) (hb : ∀ id, H id ≠ none → S.H id = H id) (hA : ∀ κ', κ' ≠ κ → A κ' ≠ none → S.A κ' = A κ') (hk : S.A κ = some ar) (hr : fn.results.toList = []) :
    RetE P fn H A (.c .any) H (upd A κ (some ar)) S := by
  refine ⟨.c .any, by rw [hr]; rfl, ?_⟩
  exact ⟨fun _ => True.intro, hOver_spec2 (S := ⟨fun _ => .c .any, S.H, S.A⟩) hw hb (chg_ok (S := ⟨fun _ => .c .any, S.H, S.A⟩) hA hk), fun κ' => (chg_A (S := ⟨fun _ => .c .any, S.H, S.A⟩) hA hk κ').imp (fun h => h) .inl, fun _ h => h, fun κ' hk' => (chg_ok (S := ⟨fun _ => .c .any, S.H, S.A⟩) hA hk κ' hk').1⟩
theorem kpA_chg {A : AMap} {κ : Tok} : ∀ κ', κ' ≠ κ → A κ' ≠ none → A κ' = A κ' := fun _ _ _ => rfl
theorem kpA_chg1 {A : AMap} {κ : Tok} {ar : Option Arr} : ∀ κ', κ' ≠ κ → A κ' ≠ none → upd A κ ar κ' = A κ' := fun _ h _ => upd_other _ _ h
theorem kpA_chg2 {A B : AMap} {κ : Tok} {ar : Option Arr} (h : ∀ κ', κ' ≠ κ → A κ' ≠ none → B κ' = A κ') : ∀ κ', κ' ≠ κ → A κ' ≠ none → upd B κ ar κ' = A κ' := fun κ' h1 h2 => by rw [upd_other _ _ h1]; exact h κ' h1 h2
end Go.PW
namespace Go.Proofs
open Go.PW

theorem swap_eq {α : Type} {a b : List α} {x y : α} {k : Nat} (hk : a.length = k) : ((a ++ y :: x :: b).set (k + 1) y).set k x = a ++ x :: y :: b := by
  subst hk
  simp

/-- Each one in turn moved ahead of those that it stands ahead of. -/
def rise1 (l : List Ver) (v : Ver) : List Ver := insBack (fun y => ahead' v y) l v
def rise (l : List Ver) : List Ver := l.foldl rise1 []
theorem rise1_length (l : List Ver) (v : Ver) : (rise1 l v).length = l.length + 1 := insBack_length _ _ _
theorem rise_length (l : List Ver) : ∀ out : List Ver, (l.foldl rise1 out).length = out.length + l.length := by
  induction l with
  | nil => intro out; rfl
  | cons v r ih => intro out; rw [List.foldl_cons, ih, rise1_length, List.length_cons]; omega

set_option maxRecDepth 8000 in
set_option maxHeartbeats 8000000 in
theorem Try.kRise (l : List Ver) (hn : l.length ≤ 1048576) {H : HMap} {A : AMap} (hw : Wf H A) {κ : Tok} (hκ : A κ = some (.mu 5 (l.map Ver.enc))) :
    EffOK Try.prog 59 1000 H A [.c (.mt κ 5 l.length)] (.c .any) H (upd A κ (some (.mu 5 ((rise l).map Ver.enc)))) := by
  refine eff_ok (E := envOf Try.prog [] 1000 [] [4, 6]) (envOf_ok Try.mixed) Try.func59 rfl Try.call59 (by kernel_rfl) (by exact Nat.le_of_ble_eq_true rfl) (fun hab => ?_)
  repeat' (first
    | with_reducible refine VC_seq fun K hK => ?_
    | with_reducible refine W_region ?_
    | with_reducible refine VC_block ?_
    | with_reducible refine VC_scope ?_
    | with_reducible refine VC_if ?_
    | with_reducible refine VC_skip ?_
    | with_reducible refine VC_exit ?_
    | with_reducible refine VC_ret ?_
    | (with_reducible refine G_not (fun h => ?_) (fun h => ?_) <;> (try simp only [h]))
    | (with_reducible refine G_cases (fun h => ?_) (fun h => ?_) <;> (try simp only [h]))
    | (with_reducible refine hK _ ?_; clear hK K)
    | (clear hK K; with_reducible refine hK _ ?_; clear hK K)
    | (clear hK K; clear hK K; with_reducible refine hK _ ?_; clear hK K)
    | (clear hK K; clear hK K; clear hK K; with_reducible refine hK _ ?_; clear hK K)
    | (with_reducible refine todo ?_; simp +decide only [go_sem]))
  refine VC_range l.length (fun _ => True) (fun i => over1 [(0, .c (.mt κ 5 l.length)), (5, pD (.lit (.int .i64 l.length))), (6, pD (.lit (.int .i64 i)))] [] H A κ (.mu 5 (((l.take i).foldl rise1 [] ++ l.drop i).map Ver.enc))) True.intro ?_ ?_
  · refine Weak_over2 hw kp_refl kpA_chg (by show A κ = _; rw [hκ]; rfl) ?_ ?_ <;> simp +decide only [go_sem, List.foldl_nil]
    exact wkP_mt (by simp [upd]) (by simp [upd, hκ])
  · intro i hi hI
    rcases Nat.lt_or_ge i l.length with hlt | hge
    · have hg := List.getElem?_eq_getElem hlt
      have hd := int_lt_true hlt
      have hwi := int_next hlt (show l.length ≤ 4294967296 by omega)
      have hdr := List.drop_eq_getElem_cons hlt
      generalize l[i] = x at hg hdr
      have hnx := foldl_next (f := rise1) (b := []) hg
      have hol : ((l.take i).foldl rise1 []).length = i := by rw [rise_length, List.length_take]; simp; omega
      repeat' (first
        | with_reducible refine VC_seq fun K hK => ?_
        | with_reducible refine W_region ?_
        | with_reducible refine VC_block ?_
        | with_reducible refine VC_scope ?_
        | with_reducible refine VC_if ?_
        | with_reducible refine VC_skip ?_
        | with_reducible refine VC_exit ?_
        | with_reducible refine VC_ret ?_
        | (with_reducible refine G_not (fun h => ?_) (fun h => ?_) <;> (try simp only [h]))
        | (with_reducible refine G_cases (fun h => ?_) (fun h => ?_) <;> (try simp only [h]))
        | (with_reducible refine hK _ ?_; clear hK K)
        | (clear hK K; with_reducible refine hK _ ?_; clear hK K)
        | (clear hK K; clear hK K; with_reducible refine hK _ ?_; clear hK K)
        | (clear hK K; clear hK K; clear hK K; with_reducible refine hK _ ?_; clear hK K)
        | (with_reducible refine todo ?_; simp +decide only [go_sem, hd]))
      generalize (l.take i).foldl rise1 [] = out at *
      rw [hdr]
      generalize hrest : l.drop (i + 1) = rest at *
      have hrl : rest.length = l.length - (i + 1) := by rw [← hrest, List.length_drop]
      refine VC_range i (fun j => (out.drop (i - j)).all (fun y => ahead' x y) = true) (fun j => over1 [(0, .c (.mt κ 5 l.length)), (5, pD (.lit (.int .i64 l.length))), (6, pD (.lit (.int .i64 i))), (3, pD (.lit (.int .i64 ((i - j : Nat) : Int))))] [] H A κ (.mu 5 ((out.take (i - j) ++ x :: (out.drop (i - j) ++ rest)).map Ver.enc))) (by rw [Nat.sub_zero, List.drop_of_length_le (by omega)]; rfl) ?_ ?_
      · rw [Nat.sub_zero, List.take_of_length_le (show out.length ≤ i by omega), List.drop_of_length_le (show out.length ≤ i by omega)]
        refine Weak_over2 hw kp_nil kpA_chg1 (by show upd _ _ _ _ = _; rw [upd_same]; simp) ?_ ?_ <;> simp +decide only [go_sem]
        exact wkP_mt (by simp [upd]) (by simp [upd])
      · intro j hj hJ
        generalize hkj : i - j = k at hJ ⊢
        have hki : k ≤ i := by omega
        have hal : (out.take k ++ x :: (out.drop k ++ rest)).length = l.length := by simp; omega
        rcases Nat.eq_zero_or_pos k with hk0 | hk0
        · have hd0 : ((0 : Int) < (k : Int)) = False := eq_false (by omega)
          have hI2 : rise1 out x = out.take k ++ x :: out.drop k := back_stop (by omega) hJ (fun y h0 => absurd hk0 h0)
          rw [over1_eq]
          repeat' (first
            | with_reducible refine VC_seq fun K hK => ?_
            | with_reducible refine W_region ?_
            | with_reducible refine VC_block ?_
            | with_reducible refine VC_scope ?_
            | with_reducible refine VC_if ?_
            | with_reducible refine VC_skip ?_
            | with_reducible refine VC_exit ?_
            | with_reducible refine VC_ret ?_
            | (with_reducible refine G_not (fun h => ?_) (fun h => ?_) <;> (try simp only [h]))
            | (with_reducible refine G_cases (fun h => ?_) (fun h => ?_) <;> (try simp only [h]))
            | (with_reducible refine hK _ ?_; clear hK K)
            | (clear hK K; with_reducible refine hK _ ?_; clear hK K)
            | (clear hK K; clear hK K; with_reducible refine hK _ ?_; clear hK K)
            | (clear hK K; clear hK K; clear hK K; with_reducible refine hK _ ?_; clear hK K)
            | (with_reducible refine todo ?_; simp +decide only [go_sem, hd0, hwi]))
          refine Next_of hlt True.intro (Weak_over2 hw kp_nil kpA_chg1 (by show upd _ _ _ _ = _; rw [upd_same, hnx, hI2]; simp; exact ⟨rfl, by rw [← hrest, List.map_drop]⟩) ?_ ?_) <;> simp +decide only [go_sem]
          exact wkP_mt (by simp [upd]) (by simp [upd, hnx, hI2]; exact ⟨rfl, by rw [← hrest, List.map_drop]⟩)
        · have hd0 : ((0 : Int) < (k : Int)) = True := eq_true (by omega)
          have hw1 : IntKind.i64.wrap ((k : Int) - 1) = ((k - 1 : Nat) : Int) := by rw [Go.IntWalk.i64_in _ (by omega)]; omega
          have hdk := List.drop_eq_getElem_cons (show k - 1 < out.length by omega)
          have htk : out.take k = out.take (k - 1) ++ [out[k - 1]] := by
            have := take_next (List.getElem?_eq_getElem (show k - 1 < out.length by omega))
            rwa [show k - 1 + 1 = k by omega] at this
          have hgy := List.getElem?_eq_getElem (show k - 1 < out.length by omega)
          rw [show k - 1 + 1 = k by omega] at hdk
          generalize out[k - 1] = y at hdk htk hgy
          have ka := Try.kAheadV x y
          have harr : out.take k ++ x :: (out.drop k ++ rest) = out.take (k - 1) ++ y :: x :: (out.drop k ++ rest) := by rw [htk]; simp
          have hsw := swap_eq (a := out.take (k - 1)) (b := out.drop k ++ rest) (x := x) (y := y) (k := k - 1) (by rw [List.length_take]; omega)
          rw [show k - 1 + 1 = k by omega] at hsw
          have hgk : (out.take (k - 1) ++ y :: x :: (out.drop k ++ rest))[k]? = some x := by
            rw [List.getElem?_append_right (by rw [List.length_take]; omega), List.length_take, show k - min (k - 1) out.length = 1 by omega]
            rfl
          have hgk1 : (out.take (k - 1) ++ y :: x :: (out.drop k ++ rest))[k - 1]? = some y := by
            rw [List.getElem?_append_right (by rw [List.length_take]; omega), List.length_take, show k - 1 - min (k - 1) out.length = 0 by omega]
            rfl
          have hstop : ahead' x y = false → rise1 out x = out.take k ++ x :: out.drop k := fun h => back_stop (by omega) hJ (fun z _ hz => by rw [hgy] at hz; cases hz; exact h)
          rw [harr] at hal ⊢
          generalize harr' : out.take (k - 1) ++ y :: x :: (out.drop k ++ rest) = arr at *
          have a22 : ∀ k', upd A κ (some (.mu 5 (arr.map Ver.enc))) (0 + 1000 + 22, k') = none := fun k' => by
            have h0 := (hab 1022 (by decide)).2 k'
            rw [upd_other _ _ (fun e => by rw [← e] at hκ; rw [h0] at hκ; cases hκ)]
            exact h0
          have hl1 : (k < l.length) = True := eq_true (by omega)
          have hl2 : (k - 1 < l.length) = True := eq_true (by omega)
          have hl3 : (l.length = arr.length) = True := eq_true hal.symm
          have hl4 : (k = k - 1) = False := eq_false (by omega)
          cases hah : ahead' x y with
          | false =>
            rw [hah] at ka
            have hI2 := hstop hah
            rw [over1_eq]
            repeat' (first
              | with_reducible refine VC_seq fun K hK => ?_
              | with_reducible refine W_region ?_
              | with_reducible refine VC_block ?_
              | with_reducible refine VC_scope ?_
              | with_reducible refine VC_if ?_
              | with_reducible refine VC_skip ?_
              | with_reducible refine VC_exit ?_
              | with_reducible refine VC_ret ?_
              | (with_reducible refine G_not (fun h => ?_) (fun h => ?_) <;> (try simp only [h]))
              | (with_reducible refine G_cases (fun h => ?_) (fun h => ?_) <;> (try simp only [h]))
              | refine C_pure ka rfl rfl (fun k' => a22 k') ?_
              | (with_reducible refine hK _ ?_; clear hK K)
              | (clear hK K; with_reducible refine hK _ ?_; clear hK K)
              | (clear hK K; clear hK K; with_reducible refine hK _ ?_; clear hK K)
              | (clear hK K; clear hK K; clear hK K; with_reducible refine hK _ ?_; clear hK K)
              | (with_reducible refine todo ?_; simp +decide only [go_sem, hd0, hw1, iE_mt, hl1, hl2, hl3, hgk, hgk1, hwi]))
            have hfin : out.take k ++ x :: out.drop k ++ rest = arr := by rw [← harr]; simp
            have hfin2 : (rise1 out x).map Ver.enc ++ rest.map Ver.enc = arr.map Ver.enc := by rw [hI2, ← hfin]; simp
            refine Next_of hlt True.intro (Weak_over2 hw kp_nil kpA_chg1 (by show upd _ _ _ _ = _; rw [upd_same, hnx, hrest, hfin2]) ?_ ?_) <;> simp +decide only [go_sem]
            exact wkP_mt (by simp [upd]) (by rw [upd_same, upd_same, hnx, hrest, hfin2])
          | true =>
            rw [hah] at ka
            rw [over1_eq]
            repeat' (first
              | with_reducible refine VC_seq fun K hK => ?_
              | with_reducible refine W_region ?_
              | with_reducible refine VC_block ?_
              | with_reducible refine VC_scope ?_
              | with_reducible refine VC_if ?_
              | with_reducible refine VC_skip ?_
              | with_reducible refine VC_exit ?_
              | with_reducible refine VC_ret ?_
              | (with_reducible refine G_not (fun h => ?_) (fun h => ?_) <;> (try simp only [h]))
              | (with_reducible refine G_cases (fun h => ?_) (fun h => ?_) <;> (try simp only [h]))
              | refine C_pure ka rfl rfl (fun k' => a22 k') ?_
              | (with_reducible refine hK _ ?_; clear hK K)
              | (clear hK K; with_reducible refine hK _ ?_; clear hK K)
              | (clear hK K; clear hK K; with_reducible refine hK _ ?_; clear hK K)
              | (clear hK K; clear hK K; clear hK K; with_reducible refine hK _ ?_; clear hK K)
              | (with_reducible refine todo ?_; simp +decide only [go_sem, hd0, hw1, iE_mt, hl1, hl2, hl3, hl4, hgk, hgk1, List.getElem?_set, List.length_set]))
            have hij : i - (j + 1) = k - 1 := by omega
            have hset : ((arr.map Ver.enc).set k y.enc).set (k - 1) x.enc = (out.take (k - 1)).map Ver.enc ++ x.enc :: ((out.drop (k - 1)).map Ver.enc ++ rest.map Ver.enc) := by
              rw [← List.map_set, ← List.map_set, hsw, hdk]; simp
            refine ⟨⟨j + 1, by omega, by show (out.drop (i - (j + 1))).all _ = true; rw [hij, hdk, List.all_cons, hah, hJ]; rfl⟩, Weak_over2 hw kp_nil (kpA_chg2 (kpA_chg2 kpA_chg1)) (by show upd _ _ _ _ = _; rw [upd_same, hij]; exact congrArg (fun z => some (Arr.mu 5 z)) hset) ?_ ?_, by show i - (j + 1) < i - j; omega⟩ <;> simp +decide only [go_sem, hij]
            exact wkP_mt (by simp [upd]) (by rw [upd_same, upd_same]; exact congrArg (fun z => some (Arr.mu 5 z)) hset.symm)
    · have hd := int_lt_false hge
      rw [List.take_of_length_le hge, List.drop_of_length_le hge, List.append_nil]
      repeat' (first
        | with_reducible refine VC_seq fun K hK => ?_
        | with_reducible refine W_region ?_
        | with_reducible refine VC_block ?_
        | with_reducible refine VC_scope ?_
        | with_reducible refine VC_if ?_
        | with_reducible refine VC_skip ?_
        | with_reducible refine VC_exit ?_
        | with_reducible refine VC_ret ?_
        | (with_reducible refine G_not (fun h => ?_) (fun h => ?_) <;> (try simp only [h]))
        | (with_reducible refine G_cases (fun h => ?_) (fun h => ?_) <;> (try simp only [h]))
        | (with_reducible refine hK _ ?_; clear hK K)
        | (clear hK K; with_reducible refine hK _ ?_; clear hK K)
        | (clear hK K; clear hK K; with_reducible refine hK _ ?_; clear hK K)
        | (clear hK K; clear hK K; clear hK K; with_reducible refine hK _ ?_; clear hK K)
        | (with_reducible refine todo ?_; simp +decide only [go_sem, hd]))
      exact RetE_none hw kp_nil kpA_chg1 (upd_same _ _ _) rfl
end Go.Proofs
