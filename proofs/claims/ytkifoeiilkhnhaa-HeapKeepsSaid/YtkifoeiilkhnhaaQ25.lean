import Derived.Test.YtkifoeiilkhnhaaQ24

/-
  The log: the search.
-/

namespace Go.PW
theorem VC_lab {E : Env} {H0 : HMap} {A0 : AMap} {l : Nat} {Q : Post} {S : St} (h : Q.nrm S) : VC E H0 A0 (.label l) Q S := h
/-- A variable's empty slice is taken for one with an array of its own. -/
theorem Weak_new {H0 H : HMap} {A0 A : AMap} {S : St} {l : List (Nat × PV)} {id : Nat} {cs ds : List CV} {κ : Tok} {sz : Nat} (hw : Wf H A) (hid : H id ≠ none) (hb : ∀ i, i ≠ id → H i ≠ none → S.H i = H i) (h2 : S.H id = some ds) (hA : S.A = A) (hκ : A κ = none)
    (hcs : wkCells (upd H id (some cs)) A (upd A κ (some (.co sz 0))) cs ds) (h1 : keepP (hOver [] (upd H id (some cs))) A (upd A κ (some (.co sz 0))) S.ρ l)
    (kH : ∀ i, H0 i ≠ none → H i ≠ none) (kA : ∀ κ, A0 κ ≠ none → A κ ≠ none) : Weak H0 A0 S (over l [] (upd H id (some cs)) (upd A κ (some (.co sz 0)))) := by
  subst hA
  have tk : ∀ τ, S.A τ ≠ none → upd S.A κ (some (.co sz 0)) τ ≠ none ∧ upd S.A κ (some (.co sz 0)) τ = S.A τ := fun τ h => by
    have e : τ ≠ κ := fun e => h (by rw [e]; exact hκ)
    rw [upd_other _ _ e]
    exact ⟨h, rfl⟩
  have hk : ∀ i, H i ≠ none → upd H id (some cs) i ≠ none := fun i hi => by
    rw [upd_apply']; split
    · simp
    · exact hi
  refine ⟨fun t => keepP_spec h1 t, fun i => ?_, fun τ => ?_, fun i h => hk i (kH i h), fun τ h => (tk τ (kA τ h)).1⟩
  · show upd H id (some cs) i = none ∨ ∃ es fs, upd H id (some cs) i = some es ∧ _
    by_cases e : i = id
    · subst e
      exact .inr ⟨cs, ds, upd_same _ _ _, h2, wkCells_spec hcs⟩
    · rw [upd_other _ _ e]
      cases hi : H i with
      | none => exact .inl rfl
      | some es =>
        refine .inr ⟨es, es, rfl, by rw [hb i e (by rw [hi]; simp), hi], rfl, fun k c d h3 h4 => ?_⟩
        rw [h3] at h4
        cases h4
        exact .inr (.inl ⟨rfl, ok_mono hk tk (hw i es c hi (List.mem_of_getElem? h3))⟩)
  · by_cases e : τ = κ
    · subst e
      exact .inr (.inr ⟨hκ, sz, .inl (upd_same _ _ _)⟩)
    · exact .inr (.inl (upd_other _ _ e))
end Go.PW
namespace Go.Proofs
open Go.PW
section wal
variable {H : HMap} {A : AMap} {lid did : Nat} {κm κc κr : Tok} {d : Dk} {l : Lg}
theorem scanK_none {pl : Nat → Option Pc} {turn k i : Nat} {x : Sc} (h : pl i = none) : scanK pl turn (k + 1) i x = x := by simp only [scanK, h]
theorem scanK_stop {pl : Nat → Option Pc} {turn k i : Nat} {x : Sc} {p : Pc} (h : pl i = some p) (h' : scStep turn i x p = none) : scanK pl turn (k + 1) i x = x := by simp only [scanK, h, h']
theorem scanK_go {pl : Nat → Option Pc} {turn k i : Nat} {x x' : Sc} {p : Pc} (h : pl i = some p) (h' : scStep turn i x p = some x') : scanK pl turn (k + 1) i x = scanK pl turn k (i + 1) x' := by simp only [scanK, h, h']
def scL (l : Lg) (x : Sc) : Lg := { l with recs := x.recs, used := x.used }
def sc0 (l : Lg) : Sc := ⟨[], [], 0, l.base, l.recs, l.used⟩
theorem scStep_bad {turn i : Nat} {x : Sc} {p : Pc} (q1 : ¬ p.t < x.now) (q2 : ¬ turn < p.t) (h : ((i : Int) == (x.first : Int)) = false) (h2 : ((p.t : Int) != (x.now : Int)) = true ∨ (p.sm == x.want) = false ∨ (p.pt == []) = true) : scStep turn i x p = none := by
  unfold scStep
  rw [if_neg (by omega), if_pos]
  have e1 : i ≠ x.first := fun e => by rw [e] at h; simp at h
  refine ⟨e1, ?_⟩
  rcases h2 with h | h | h
  · exact .inl fun e => by rw [e] at h; simp at h
  · exact .inr (.inl fun e => by rw [e] at h; simp at h)
  · exact .inr (.inr (by simpa using h))
theorem scStep_go {turn i : Nat} {x : Sc} {p : Pc} (q1 : ¬ p.t < x.now) (q2 : ¬ turn < p.t) (h : ((i : Int) == (x.first : Int)) = true ∨ (((p.t : Int) != (x.now : Int)) = false ∧ (p.sm == x.want) = true ∧ (p.pt == []) = false)) :
    scStep turn i x p = if p.more = true then some { x with s := x.s ++ p.pt, want := p.sm, now := p.t } else if sum4 (x.s ++ p.pt) ≠ p.sm then none else some ⟨[], p.sm, i + 1, p.t, x.recs ++ [x.s ++ p.pt], i + 1⟩ := by
  unfold scStep
  rw [if_neg (by omega), if_neg]
  rintro ⟨h1, h2⟩
  rcases h with h | ⟨h3, h4, h5⟩
  · exact h1 (by have := eq_of_beq h; omega)
  · rcases h2 with h2 | h2 | h2
    · exact h2 (by have : (p.t : Int) = x.now := by simpa using h3
                   omega)
    · exact h2 (eq_of_beq h4)
    · rw [h2] at h5; simp at h5
structure SI (pl : Nat → Option Pc) (l : Lg) (k : Nat) (x : Sc) : Prop where
  h1 : scanK pl l.turn k (l.places - k) x = scanK pl l.turn l.places 0 (sc0 l)
  h2 : k ≤ l.places
  h3 : x.s.length ≤ 100 * (l.places - k)
  h4 : x.recs.length ≤ l.recs.length + (l.places - k)
  h5 : x.used ≤ l.used + l.places
  h6 : x.first ≤ l.places
  h7 : x.now < 9223372036854775808
set_option maxRecDepth 8000 in
set_option maxHeartbeats 32000000 in
theorem Try.kScan (off : Nat) (hw : Wf H A) (hl : H lid = some (encLgC did (.full []) l)) (hr : l.recs = []) (hu : l.used = 0) (hκr : A κr = none) (hκb : κr.1 < off) (hd : DkAt H A did κm κc d) (hcl : d.cache.length ≤ 1000000) (hin : l.from_ + 2 + l.places ≤ d.n) (hdn : d.n ≤ 4096) (hp : l.places ≤ 1000) (hb : l.base < 9223372036854775808)
    (hs : ∀ i, i < l.places → (rd d ((l.from_ + 2 + i : Nat) : Int)).length ≤ 128) (pl : Nat → Option Pc) (hpl : ∀ i, i < l.places → AtOK (rd d ((l.from_ + 2 + i : Nat) : Int)) i (pl i)) :
    EffOK Try.prog 57 off H A [.c (.ptr lid 0)] (.c .any) (upd H lid (some (encLg did κr (scL l (scanK pl l.turn l.places 0 (sc0 l)))))) (upd A κr (some (.co 1 (scanK pl l.turn l.places 0 (sc0 l)).recs.length))) := by
  refine effr_ok (E := envOf Try.prog [82] off [] []) (envOf_ok Try.mixed) Try.func57 rfl Try.call57 (by kernel_rfl) (by exact Nat.le_of_ble_eq_true rfl) (fun hab => ?_)
  have hlh := hl
  unfold encLgC at hlh
  have hne : lid ≠ did := fun e => by have h1 := hlh; rw [e, hd.h] at h1; have := congrArg List.length (Option.some.inj h1); cases this
  have hnm : κr ≠ κm := fun e => by rw [e, hd.m] at hκr; cases hκr
  have hnc : κr ≠ κc := fun e => by rw [e, hd.c] at hκr; cases hκr
  have hlt := hd.lt hab
  have hlt2 : lid < off := by
    rcases Nat.lt_or_ge lid off with h | h
    · exact h
    · rw [(hab lid h).1] at hlh; cases hlh
  have hx7 : H (off + 7) = none := (hab _ (Nat.le_add_right _ _)).1
  have hdid : H did ≠ none := by rw [hd.h]; simp
  have hdid' : upd H lid (some (encLg did κr l)) did ≠ none := upd_keepH _ hdid
  have hwx : ∀ x : Sc, Wf (upd H lid (some (encLg did κr (scL l x)))) (upd A κr (some (.co 1 x.recs.length))) := fun x => Wf_set hw (LgAt.ok (upd_keepH _ hdid) (by rw [upd_same]; simp)) upd_keep
  have hlx : ∀ x : Sc, LgAt (upd H lid (some (encLg did κr (scL l x)))) (upd A κr (some (.co 1 x.recs.length))) lid did κr (scL l x) := fun x => ⟨upd_same _ _ _, upd_same _ _ _⟩
  have hdx : ∀ x : Sc, DkAt (upd H lid (some (encLg did κr (scL l x)))) (upd A κr (some (.co 1 x.recs.length))) did κm κc d := fun x => ⟨by rw [upd_other _ _ hne.symm]; exact hd.h, by rw [upd_other _ _ hnm.symm]; exact hd.m, by rw [upd_other _ _ hnc.symm]; exact hd.c⟩
  have hptr : ∀ {A1 A2 : AMap} {x : List CV}, PV.wk (hOver [] (upd H lid (some x))) A1 A2 (.c (.ptr lid 0)) (.c (.ptr lid 0)) = True := eq_true (wkP_ptr (by show upd _ _ _ _ ≠ none; rw [upd_same]; simp))
  repeat' (first
   | with_reducible first | refine VC_seq fun K hK => ?_ | refine W_region ?_ | refine VC_block ?_ | refine VC_scope ?_ | refine VC_if ?_ | refine VC_skip ?_ | refine VC_exit ?_ | refine VC_ret ?_
   | (with_reducible first | refine G_not (fun h => ?_) (fun h => ?_) | refine G_cases (fun h => ?_) (fun h => ?_)) <;> (try simp only [h])
   | with_reducible refine VC_lab ?_
   | with_reducible first | (refine hK _ ?_; clear hK K) | (clear hK K; refine hK _ ?_; clear hK K) | (clear hK K; clear hK K; refine hK _ ?_; clear hK K) | (clear hK K; clear hK K; clear hK K; refine hK _ ?_; clear hK K)
   | (with_reducible refine todo ?_; simp +decide only [go_sem, hlh]))
  refine VC_while (ι := Nat × Sc) (fun y => SI pl l y.1 y.2) (fun y => over [(0, .c (.ptr lid 0)), (2, pD (dS y.2.s)), (3, pD (dS y.2.want)), (4, pD (.lit (.int .i64 y.2.first))), (5, pD (.lit (.int .i64 y.2.now))), (6, pD (.lit (.int .i64 (l.places - y.1 : Nat))))] []
    (upd H lid (some (encLg did κr (scL l y.2)))) (upd A κr (some (.co 1 y.2.recs.length)))) (fun y => y.1) (l.places, sc0 l) ⟨by simp, Nat.le_refl _, by simp [sc0], by simp [sc0], by show l.used ≤ _; omega, by show 0 ≤ _; omega, hb⟩ ?_ ?_
  · have hA0 : upd A κr (some (.co 1 (sc0 l).recs.length)) = upd A κr (some (.co 1 0)) := by rw [show (sc0 l).recs.length = 0 by simp [sc0, hr]]
    have hH0 : encLg did κr (scL l (sc0 l)) = encLg did κr l := rfl
    rw [hA0, hH0]
    refine Weak_new hw (by rw [hl]; simp) (fun _ _ _ => rfl) hl rfl hκr ?_ ?_ (fun _ h => h) (fun _ h => h)
    · unfold encLg encLgC
      rw [hr]
      unfold encLg at hdid'
      rw [hr] at hdid'
      refine ⟨.inr (.inl ⟨rfl, hdid'⟩), ?_, ?_, ?_, ?_, ?_, .inr (.inr (.inr (.inl ⟨rfl, κr, 1, rfl, hκr, upd_same _ _ _⟩))), ?_, True.intro⟩ <;> exact .inr (.inl ⟨rfl, True.intro⟩)
    · simp +decide only [go_sem, hptr, sc0, Nat.sub_self]
  · rintro ⟨k, x⟩ ⟨h1, h2, h3, h4, h5, h6, h7⟩
    simp only at h1 h2 h3 h4 h5 h6 h7
    have hfin : ∀ {S : St} {fn : Func}, scanK pl l.turn l.places 0 (sc0 l) = x → resPVs Try.prog S fn.results.toList = some (.c .any) → (∀ i, upd H lid (some (encLg did κr (scL l x))) i ≠ none → S.H i = upd H lid (some (encLg did κr (scL l x))) i) → S.A = upd A κr (some (.co 1 x.recs.length)) →
        RetR Try.prog fn H A (.c .any) (upd H lid (some (encLg did κr (scL l (scanK pl l.turn l.places 0 (sc0 l)))))) (upd A κr (some (.co 1 (scanK pl l.turn l.places 0 (sc0 l)).recs.length))) S := fun e h1 h2 h3 => by
      rw [e]
      exact RetR_eq h1 True.intro True.intro (hwx x) h2 h3 upd_keepH upd_keep
    cases k with
    | zero =>
      have hc : (((l.places - 0 : Nat) : Int) < (l.places : Int)) = False := eq_false (by omega)
      repeat' (first
       | with_reducible first | refine VC_seq fun K hK => ?_ | refine W_region ?_ | refine VC_block ?_ | refine VC_scope ?_ | refine VC_if ?_ | refine VC_skip ?_ | refine VC_exit ?_ | refine VC_ret ?_
       | (with_reducible first | refine G_not (fun h => ?_) (fun h => ?_) | refine G_cases (fun h => ?_) (fun h => ?_)) <;> (try simp only [h])
       | with_reducible refine VC_lab ?_
       | with_reducible first | (refine hK _ ?_; clear hK K) | (clear hK K; refine hK _ ?_; clear hK K) | (clear hK K; clear hK K; refine hK _ ?_; clear hK K) | (clear hK K; clear hK K; clear hK K; refine hK _ ?_; clear hK K)
       | (with_reducible refine todo ?_; simp +decide only [go_sem, hc, encLg, scL]))
      exact hfin (by rw [← h1]; rfl) rfl (fun _ _ => rfl) rfl
    | succ k =>
      have hi : l.places - (k + 1) < l.places := by omega
      generalize hI : l.places - (k + 1) = i at *
      have hc := int_lt_true hi
      have ka := Try.kAt (off + 1000) (hwx x) (hlx x) (hdx x) hcl i (by show l.from_ + 2 + i < d.n; omega) hdn (hs i hi) (pl i) (hpl i hi)
      have hAb : Above (off + 1000) (upd H lid (some (encLg did κr (scL l x)))) (upd A κr (some (.co 1 x.recs.length))) := Above_updA (Above_updH (Above_mono hab (by omega)) (by omega)) (by omega)
      have hl7 : (lid = off + 7) = False := eq_false (by omega)
      have hy7 : (off + 7 = lid) = False := eq_false (by omega)
      cases ho : pl i with
      | none =>
        rw [ho] at ka
        unfold atV pieceV at ka
        repeat' (first
         | with_reducible first | refine VC_seq fun K hK => ?_ | refine W_region ?_ | refine VC_block ?_ | refine VC_scope ?_ | refine VC_if ?_ | refine VC_skip ?_ | refine VC_exit ?_ | refine VC_ret ?_
         | (with_reducible first | refine G_not (fun h => ?_) (fun h => ?_) | refine G_cases (fun h => ?_) (fun h => ?_)) <;> (try simp only [h])
         | with_reducible refine VC_lab ?_
         | refine C_call rfl ka rfl hAb ?_
         | with_reducible first | (refine hK _ ?_; clear hK K) | (clear hK K; refine hK _ ?_; clear hK K) | (clear hK K; clear hK K; refine hK _ ?_; clear hK K) | (clear hK K; clear hK K; clear hK K; refine hK _ ?_; clear hK K)
         | (with_reducible refine todo ?_; simp +decide only [go_sem, hc, encLg, scL, hy7, hx7]))
        exact hfin (by rw [← h1]; exact scanK_none ho) rfl (fun j hj => by
          have j7 : j ≠ off + 7 := fun e => hj (by rw [e, upd_other _ _ (by omega)]; exact hx7)
          show upd (upd _ _ _) _ _ j = _
          rw [upd_other _ _ j7, upd_other _ _ j7]
          rfl) rfl
      | some p =>
        rw [ho] at ka
        unfold atV pieceV at ka
        obtain ⟨o1, o2, o3, o4, o5⟩ : AtOK _ i (some p) := by have := hpl i hi; rw [ho] at this; exact this
        by_cases q1 : p.t < x.now
        · have f1 : ((p.t : Int) < (x.now : Int)) = True := eq_true (by omega)
          have hst : scStep l.turn i x p = none := by unfold scStep; rw [if_pos (.inl q1)]
          rw [scanK_stop ho hst] at h1
          repeat' (first
           | with_reducible first | refine VC_seq fun K hK => ?_ | refine W_region ?_ | refine VC_block ?_ | refine VC_scope ?_ | refine VC_if ?_ | refine VC_skip ?_ | refine VC_exit ?_ | refine VC_ret ?_
           | (with_reducible first | refine G_not (fun h => ?_) (fun h => ?_) | refine G_cases (fun h => ?_) (fun h => ?_)) <;> (try simp only [h])
           | with_reducible refine VC_lab ?_
           | refine C_call rfl ka rfl hAb ?_
           | with_reducible first | (refine hK _ ?_; clear hK K) | (clear hK K; refine hK _ ?_; clear hK K) | (clear hK K; clear hK K; refine hK _ ?_; clear hK K) | (clear hK K; clear hK K; clear hK K; refine hK _ ?_; clear hK K)
           | (with_reducible refine todo ?_; simp +decide only [go_sem, hc, encLg, scL, hy7, hx7, pieceC, f1]))
          exact hfin h1.symm rfl (fun j hj => by
          have j7 : j ≠ off + 7 := fun e => hj (by rw [e, upd_other _ _ (by omega)]; exact hx7)
          show upd (upd _ _ _) _ _ j = _
          rw [upd_other _ _ j7, upd_other _ _ j7]
          rfl) rfl
        · have f1 : ((p.t : Int) < (x.now : Int)) = False := eq_false (by omega)
          by_cases q2 : l.turn < p.t
          · have f2 : ((l.turn : Int) < (p.t : Int)) = True := eq_true (by omega)
            have hst : scStep l.turn i x p = none := by unfold scStep; rw [if_pos (.inr q2)]
            rw [scanK_stop ho hst] at h1
            repeat' (first
             | with_reducible first | refine VC_seq fun K hK => ?_ | refine W_region ?_ | refine VC_block ?_ | refine VC_scope ?_ | refine VC_if ?_ | refine VC_skip ?_ | refine VC_exit ?_ | refine VC_ret ?_
             | (with_reducible first | refine G_not (fun h => ?_) (fun h => ?_) | refine G_cases (fun h => ?_) (fun h => ?_)) <;> (try simp only [h])
             | with_reducible refine VC_lab ?_
             | refine C_call rfl ka rfl hAb ?_
             | with_reducible first | (refine hK _ ?_; clear hK K) | (clear hK K; refine hK _ ?_; clear hK K) | (clear hK K; clear hK K; refine hK _ ?_; clear hK K) | (clear hK K; clear hK K; clear hK K; refine hK _ ?_; clear hK K)
             | (with_reducible refine todo ?_; simp +decide only [go_sem, hc, encLg, scL, hy7, hx7, pieceC, f1, f2, hl7]))
            exact hfin h1.symm rfl (fun j hj => by
          have j7 : j ≠ off + 7 := fun e => hj (by rw [e, upd_other _ _ (by omega)]; exact hx7)
          show upd (upd _ _ _) _ _ j = _
          rw [upd_other _ _ j7, upd_other _ _ j7]
          rfl) rfl
          · have f2 : ((l.turn : Int) < (p.t : Int)) = False := eq_false (by omega)
            have hs7 : x.s.length ≤ 100000 := by omega
            have hB : (x.s.length + p.pt.length ≤ 9223372036854775807) = True := eq_true (by omega)
            have hk : l.places - k = i + 1 := by omega
            have hc9 : IntKind.i64.wrap ((i : Int) + 1) = ((i + 1 : Nat) : Int) := by rw [Go.IntWalk.i64_in _ (by omega)]; omega
            have hks : scStep l.turn i x p = none → x = scanK pl l.turn l.places 0 (sc0 l) := fun h => by rw [← h1]; exact (scanK_stop ho h).symm
            have hkg : ∀ x', scStep l.turn i x p = some x' → scanK pl l.turn k (l.places - k) x' = scanK pl l.turn l.places 0 (sc0 l) := fun x' h => by rw [← h1, hk]; exact (scanK_go ho h).symm
            have hH7 : ∀ {C : List CV} {D : List CV} (j : Nat), upd H lid (some (encLg did κr (scL l x))) j ≠ none → upd (upd (upd H lid (some (encLg did κr (scL l x)))) (off + 7) (some C)) (off + 7) (some D) j = upd H lid (some (encLg did κr (scL l x))) j := fun j hj => by
              have j7 : j ≠ off + 7 := fun e => hj (by rw [e, upd_other _ _ (by omega)]; exact hx7)
              rw [upd_other _ _ j7, upd_other _ _ j7]
            cases hmo : p.more with
            | true =>
              have hgo : ∀ (h : ((i : Int) == (x.first : Int)) = true ∨ (((p.t : Int) != (x.now : Int)) = false ∧ (p.sm == x.want) = true ∧ (p.pt == []) = false)), SI pl l k { x with s := x.s ++ p.pt, want := p.sm, now := p.t } := fun h => by
                have hst := scStep_go q1 q2 h
                rw [if_pos hmo] at hst
                refine ⟨hkg _ hst, by omega, ?_, by show x.recs.length ≤ _; omega, h5, h6, by show p.t < _; omega⟩
                show (x.s ++ p.pt).length ≤ _
                rw [List.length_append]; omega
              repeat' (first
               | with_reducible first | refine VC_seq fun K hK => ?_ | refine W_region ?_ | refine VC_block ?_ | refine VC_scope ?_ | refine VC_if ?_ | refine VC_skip ?_ | refine VC_exit ?_ | refine VC_ret ?_
               | (with_reducible first | refine G_not (fun h => ?_) (fun h => ?_) | refine G_cases (fun h => ?_) (fun h => ?_)) <;> (try simp only [h])
               | with_reducible refine VC_lab ?_
               | refine C_call rfl ka rfl hAb ?_
               | with_reducible first | (refine hK _ ?_; clear hK K) | (clear hK K; refine hK _ ?_; clear hK K) | (clear hK K; clear hK K; refine hK _ ?_; clear hK K) | (clear hK K; clear hK K; clear hK K; refine hK _ ?_; clear hK K)
               | (with_reducible refine todo ?_; simp +decide only [go_sem, hc, encLg, scL, hy7, hx7, pieceC, f1, f2, hl7, hB, hmo]))
              · refine ⟨⟨(k, { x with s := x.s ++ p.pt, want := p.sm, now := p.t }), hgo (.inl ‹_›)⟩, Weak_overG (hwx _) (fun j hj => hH7 j hj) rfl ?_ ?_ upd_keepH upd_keep, Nat.lt_succ_self k⟩
                · simp +decide only [go_sem, hptr, hk, hc9]
                · simp +decide only [go_sem]
              · exact hfin (hks (scStep_bad q1 q2 ‹_› (.inl ‹_›))).symm rfl (fun j hj => hH7 j hj) rfl
              · exact hfin (hks (scStep_bad q1 q2 ‹_› (.inr (.inr ‹_›)))).symm rfl (fun j hj => hH7 j hj) rfl
              · refine ⟨⟨(k, { x with s := x.s ++ p.pt, want := p.sm, now := p.t }), hgo (.inr ⟨‹_›, ‹_›, ‹_›⟩)⟩, Weak_overG (hwx _) (fun j hj => hH7 j hj) rfl ?_ ?_ upd_keepH upd_keep, Nat.lt_succ_self k⟩
                · simp +decide only [go_sem, hptr, hk, hc9]
                · simp +decide only [go_sem]
              · exact hfin (hks (scStep_bad q1 q2 ‹_› (.inr (.inl ‹_›)))).symm rfl (fun j hj => hH7 j hj) rfl
            | false =>
              have ksm := Try.kSum (x.s ++ p.pt) (by rw [List.length_append]; omega)
              have hAs : ∀ kk, upd A κr (some (.co 1 x.recs.length)) (off + 76, kk) = none := fun kk => by
                rw [upd_other _ _ (fun e => by have := congrArg Prod.fst e; simp only at this; omega)]
                exact (hab _ (Nat.le_add_right _ _)).2 kk
              by_cases hsum : sum4 (x.s ++ p.pt) = p.sm
              · have fS : (sum4 (x.s ++ p.pt) == p.sm) = true := by rw [hsum]; simp
                have hrl := textsD_len x.recs
                have hrl0 : l.recs.length = 0 := by rw [hr]; rfl
                have hb16 : ∀ {y : List D}, ((textsD x.recs).length + [y].length) * 16 ≤ 140737488355328 := by
                  intro y
                  rw [hrl, List.length_singleton]; omega
                have hκ1 : upd A κr (some (.co 1 x.recs.length)) κr = some (.co 1 (textsD x.recs).length) := by rw [hrl]; exact upd_same _ _ _
                have hgo : ∀ (h : ((i : Int) == (x.first : Int)) = true ∨ (((p.t : Int) != (x.now : Int)) = false ∧ (p.sm == x.want) = true ∧ (p.pt == []) = false)), SI pl l k ⟨[], p.sm, i + 1, p.t, x.recs ++ [x.s ++ p.pt], i + 1⟩ := fun h => by
                  have hst := scStep_go q1 q2 h
                  rw [if_neg (by rw [hmo]; simp), if_neg (by simpa using hsum)] at hst
                  refine ⟨hkg _ hst, by omega, by simp, ?_, by show i + 1 ≤ _; omega, by show i + 1 ≤ _; omega, by show p.t < _; omega⟩
                  show (x.recs ++ [x.s ++ p.pt]).length ≤ _
                  rw [List.length_append, List.length_singleton]; omega
                have hAG : upd (upd A κr (some (.co 1 x.recs.length))) κr (some (.co 1 ((textsD x.recs).length + 1))) = upd A κr (some (.co 1 (x.recs ++ [x.s ++ p.pt]).length)) := by
                  rw [upd_twice, List.length_append, hrl]; rfl
                have hHG : ∀ {C1 C2 C3 C4 : List CV} (j : Nat), upd H lid (some (encLg did κr (scL l ⟨[], p.sm, i + 1, p.t, x.recs ++ [x.s ++ p.pt], i + 1⟩))) j ≠ none → upd (upd (upd (upd (upd H lid (some C1)) (off + 7) (some C2)) (off + 7) (some C3)) lid (some C4)) lid (some (encLgC did (.own κr (textsD x.recs ++ [[D.lit (.string ⟨(x.s ++ p.pt).toArray⟩)]])) ⟨l.from_, l.places, l.turn, l.base, i + 1, [], l.halted⟩)) j = upd H lid (some (encLg did κr (scL l ⟨[], p.sm, i + 1, p.t, x.recs ++ [x.s ++ p.pt], i + 1⟩))) j := fun j hj => by
                  have j7 : j ≠ off + 7 := fun e => hj (by rw [e, upd_other _ _ (by omega)]; exact hx7)
                  by_cases e : j = lid
                  · subst e
                    rw [upd_same, upd_same]
                    unfold encLgC encLg scL
                    rw [textsD_app]
                    rfl
                  · rw [upd_other _ _ e, upd_other _ _ e, upd_other _ _ j7, upd_other _ _ j7, upd_other _ _ e, upd_other _ _ e]
                repeat' (first
                 | with_reducible first | refine VC_seq fun K hK => ?_ | refine W_region ?_ | refine VC_block ?_ | refine VC_scope ?_ | refine VC_if ?_ | refine VC_skip ?_ | refine VC_exit ?_ | refine VC_ret ?_
                 | (with_reducible first | refine G_not (fun h => ?_) (fun h => ?_) | refine G_cases (fun h => ?_) (fun h => ?_)) <;> (try simp only [h])
                 | with_reducible refine VC_lab ?_
                 | refine C_call rfl ka rfl hAb ?_
                 | refine C_pure ksm rfl rfl hAs ?_
                 | refine W_own Try.appT rfl (szd_texts _) (szOne rfl) hb16 hκ1 ?_
                 | with_reducible first | (refine hK _ ?_; clear hK K) | (clear hK K; refine hK _ ?_; clear hK K) | (clear hK K; clear hK K; refine hK _ ?_; clear hK K) | (clear hK K; clear hK K; clear hK K; refine hK _ ?_; clear hK K)
                 | (with_reducible refine todo ?_; simp +decide only [go_sem, hc, encLg, scL, hy7, hx7, pieceC, f1, f2, hl7, hB, hmo, fS, hc9]))
                · refine ⟨⟨(k, ⟨[], p.sm, i + 1, p.t, x.recs ++ [x.s ++ p.pt], i + 1⟩), hgo (.inl ‹_›)⟩, Weak_overG (hwx ⟨[], p.sm, i + 1, p.t, x.recs ++ [x.s ++ p.pt], i + 1⟩) (fun j hj => hHG j hj) hAG ?_ ?_ upd_keepH upd_keep, Nat.lt_succ_self k⟩
                  · simp +decide only [go_sem, hptr, hk]
                  · simp +decide only [go_sem]
                · exact hfin (hks (scStep_bad q1 q2 ‹_› (.inl ‹_›))).symm rfl (fun j hj => hH7 j hj) rfl
                · exact hfin (hks (scStep_bad q1 q2 ‹_› (.inr (.inr ‹_›)))).symm rfl (fun j hj => hH7 j hj) rfl
                · refine ⟨⟨(k, ⟨[], p.sm, i + 1, p.t, x.recs ++ [x.s ++ p.pt], i + 1⟩), hgo (.inr ⟨‹_›, ‹_›, ‹_›⟩)⟩, Weak_overG (hwx ⟨[], p.sm, i + 1, p.t, x.recs ++ [x.s ++ p.pt], i + 1⟩) (fun j hj => hHG j hj) hAG ?_ ?_ upd_keepH upd_keep, Nat.lt_succ_self k⟩
                  · simp +decide only [go_sem, hptr, hk]
                  · simp +decide only [go_sem]
                · exact hfin (hks (scStep_bad q1 q2 ‹_› (.inr (.inl ‹_›)))).symm rfl (fun j hj => hH7 j hj) rfl
              · have fS : (sum4 (x.s ++ p.pt) == p.sm) = false := by simpa using hsum
                have hno : ∀ (h : ((i : Int) == (x.first : Int)) = true ∨ (((p.t : Int) != (x.now : Int)) = false ∧ (p.sm == x.want) = true ∧ (p.pt == []) = false)), scStep l.turn i x p = none := fun h => by
                  have hst := scStep_go q1 q2 h
                  rw [if_neg (by rw [hmo]; simp), if_pos (by simpa using hsum)] at hst
                  exact hst
                repeat' (first
                 | with_reducible first | refine VC_seq fun K hK => ?_ | refine W_region ?_ | refine VC_block ?_ | refine VC_scope ?_ | refine VC_if ?_ | refine VC_skip ?_ | refine VC_exit ?_ | refine VC_ret ?_
                 | (with_reducible first | refine G_not (fun h => ?_) (fun h => ?_) | refine G_cases (fun h => ?_) (fun h => ?_)) <;> (try simp only [h])
                 | with_reducible refine VC_lab ?_
                 | refine C_call rfl ka rfl hAb ?_
                 | refine C_pure ksm rfl rfl hAs ?_
                 | with_reducible first | (refine hK _ ?_; clear hK K) | (clear hK K; refine hK _ ?_; clear hK K) | (clear hK K; clear hK K; refine hK _ ?_; clear hK K) | (clear hK K; clear hK K; clear hK K; refine hK _ ?_; clear hK K)
                 | (with_reducible refine todo ?_; simp +decide only [go_sem, hc, encLg, scL, hy7, hx7, pieceC, f1, f2, hl7, hB, hmo, fS]))
                · exact hfin (hks (hno (.inl ‹_›))).symm rfl (fun j hj => hH7 j hj) rfl
                · exact hfin (hks (scStep_bad q1 q2 ‹_› (.inl ‹_›))).symm rfl (fun j hj => hH7 j hj) rfl
                · exact hfin (hks (scStep_bad q1 q2 ‹_› (.inr (.inr ‹_›)))).symm rfl (fun j hj => hH7 j hj) rfl
                · exact hfin (hks (hno (.inr ⟨‹_›, ‹_›, ‹_›⟩))).symm rfl (fun j hj => hH7 j hj) rfl
                · exact hfin (hks (scStep_bad q1 q2 ‹_› (.inr (.inl ‹_›)))).symm rfl (fun j hj => hH7 j hj) rfl
end wal
end Go.Proofs

/-
  The log: Open.
-/

namespace Go.Proofs
open Go.PW
/-- What is known of a disk on which a log is opened. -/
structure OpAt (d : Dk) (f n t0 b0 t1 b1 : Nat) (pl : Nat → Option Pc) : Prop where
  n1 : 4 ≤ n
  n2 : n ≤ 1000
  hin : f + n ≤ d.n
  hdn : d.n ≤ 4096
  hcl : d.cache.length + 1 ≤ 1000000
  hs : ∀ i, i < n → (rd d ((f + i : Nat) : Int)).length ≤ 128
  c0 : TellCase (rd d ((f + 0 : Nat) : Int)) t0 b0
  c1 : TellCase (rd d ((f + 1 : Nat) : Int)) t1 b1
  hpl : ∀ i, i < n - 2 → AtOK (rd d ((f + 2 + i : Nat) : Int)) i (pl i)
def newL (f n t b : Nat) : Lg := ⟨f, n - 2, t, b, 0, [], false⟩
def opT (t0 t1 : Nat) : Nat := if t0 < t1 then t1 else t0
def opB (t0 b0 t1 b1 : Nat) : Nat := if t0 < t1 then b1 else b0
def opX (pl : Nat → Option Pc) (n t b : Nat) : Sc := scanK pl t (n - 2) 0 (sc0 (newL 0 n t b))
/-- The log that is opened. -/
def opL (f n t0 b0 t1 b1 : Nat) (pl : Nat → Option Pc) : Lg :=
  ⟨f, n - 2, opT t0 t1 + 1, opB t0 b0 t1 b1, (opX pl n (opT t0 t1) (opB t0 b0 t1 b1)).used, (opX pl n (opT t0 t1) (opB t0 b0 t1 b1)).recs, false⟩
theorem encLgC_ok {H : HMap} {A : AMap} {did : Nat} {c6 : CV} {l : Lg} (h : H did ≠ none) (h6 : c6.ok (fun i => H i ≠ none) (fun κ => A κ ≠ none)) : ∀ c ∈ encLgC did c6 l, c.ok (fun i => H i ≠ none) (fun κ => A κ ≠ none) := by
  intro c hc
  unfold encLgC at hc
  simp only [List.mem_cons, List.not_mem_nil, or_false] at hc
  rcases hc with rfl | rfl | rfl | rfl | rfl | rfl | rfl | rfl
  · exact h
  · exact True.intro
  · exact True.intro
  · exact True.intro
  · exact True.intro
  · exact True.intro
  · exact h6
  · exact True.intro
section wal
variable {H : HMap} {A : AMap} {id did : Nat} {κm κc κr κ' : Tok} {d : Dk} {f n t0 b0 t1 b1 : Nat} {pl : Nat → Option Pc}
set_option maxRecDepth 8000 in
set_option maxHeartbeats 32000000 in
theorem Try.kOpen (off : Nat) (hw : Wf H A) (hd : DkAt H A did κm κc d) (ho : OpAt d f n t0 b0 t1 b1 pl) (hb1 : burnt d = false) (hb2 : burnt (wrD d ((f + (opT t0 t1 + 1) % 2 : Nat) : Int) (turnB (opT t0 t1 + 1) (opB t0 b0 t1 b1))) = false)
    (hid : H id = none) (hκr : A κr = none) (hκb : κr.1 < off + 1000) (hκ : A κ' = none) (hκκ : κ' ≠ κr) :
    EffOK Try.prog 35 off H A [.c (.ptr did 0), pD (.lit (.int .i64 f)), pD (.lit (.int .i64 n))] (.tup [.c (.ptr id 0), .c (.d (.lit (.int .i64 0)))])
      (upd (upd H did (some (encDk κm κ' (nextD d f (opT t0 t1 + 1) (opB t0 b0 t1 b1))))) id (some (encLg did κr (opL f n t0 b0 t1 b1 pl))))
      (upd (upd (upd (upd A κr (some (.co 1 (opL f n t0 b0 t1 b1 pl).recs.length))) κc (some (.co 2 (d.cache.length + 1)))) κm (some (.mp (encNS (nextD d f (opT t0 t1 + 1) (opB t0 b0 t1 b1)).stays)))) κ' (some (.co 2 0))) := by
  refine effr_ok (E := envOf Try.prog [34, 56, 57, 58] off [] []) (envOf_ok Try.mixed) Try.func35 rfl Try.call35 (by kernel_rfl) (by exact Nat.le_of_ble_eq_true rfl) (fun hab => ?_)
  obtain ⟨n1, n2, hin, hdn, hcl, hs, c0, c1, hpl⟩ := ho
  have hx : H (off + 46) = none := (hab _ (Nat.le_add_right _ _)).1
  have hdid : H did ≠ none := by rw [hd.h]; simp
  have hlt := hd.lt hab
  have hndo : did ≠ off + 46 := by omega
  have q1 : ((d.n : Int) == 0) = false := by rw [beq_eq_false_iff_ne]; omega
  have q2 : ((n : Int) < 4) = False := eq_false (by omega)
  have q3 : ((1000 : Int) < (n : Int)) = False := eq_false (by omega)
  have q4 : ((f : Int) < 0) = False := eq_false (by omega)
  have q5 : ((d.n : Int) < (f : Int)) = False := eq_false (by omega)
  have q6 : IntKind.i64.wrap ((d.n : Int) - (f : Int)) = ((d.n - f : Nat) : Int) := by rw [Go.IntWalk.i64_in _ (by omega)]; omega
  have q7 : (((d.n - f : Nat) : Int) < (n : Int)) = False := eq_false (by omega)
  have q8 : IntKind.i64.wrap ((n : Int) - 2) = ((n - 2 : Nat) : Int) := by rw [Go.IntWalk.i64_in _ (by omega)]; omega
  have kl := Try.kLen (off + 1000) hw hd
  have hwC : ∀ l, Wf (upd H (off + 46) (some (encLgC did (.full []) l))) A := fun l => Wf_set hw (encLgC_ok (upd_keepH _ hdid) True.intro) (fun _ h => h)
  have hdC : ∀ x, DkAt (upd H (off + 46) (some x)) A did κm κc d := fun x => hd.updH hndo
  have hAb : ∀ x, Above (off + 1000) (upd H (off + 46) (some x)) A := fun x => Above_updH (Above_mono hab (by omega)) (by omega)
  have kt0 := Try.kTells (l := newL f n 0 0) (off + 1000) (hwC _) (upd_same _ _ _) (hdC _) (by omega) (by omega) 0 t0 b0 (by show f + 0 < d.n; omega) hdn (hs 0 (by omega)) c0
  have kt1 := Try.kTells (l := newL f n t0 b0) (off + 1000) (hwC _) (upd_same _ _ _) (hdC _) (by omega) (by omega) 1 t1 b1 (by show f + 1 < d.n; omega) hdn (hs 1 (by omega)) c1
  have hle0 : b0 ≤ t0 ∧ t0 ≤ 1099511627776 := by rcases c0 with ⟨_, h1, h2⟩ | ⟨_, h1, h2⟩ <;> omega
  have hle1 : b1 ≤ t1 ∧ t1 ≤ 1099511627776 := by rcases c1 with ⟨_, h1, h2⟩ | ⟨_, h1, h2⟩ <;> omega
  have hle : opB t0 b0 t1 b1 ≤ opT t0 t1 ∧ opT t0 t1 ≤ 1099511627776 := by unfold opB opT; split <;> omega
  have hsc : scanK pl (newL f n (opT t0 t1) (opB t0 b0 t1 b1)).turn (newL f n (opT t0 t1) (opB t0 b0 t1 b1)).places 0 (sc0 (newL f n (opT t0 t1) (opB t0 b0 t1 b1))) = opX pl n (opT t0 t1) (opB t0 b0 t1 b1) := rfl
  have ksc := Try.kScan (l := newL f n (opT t0 t1) (opB t0 b0 t1 b1)) (κr := κr) (off + 1000) (hwC _) (upd_same _ _ _) rfl rfl hκr (by omega) (hdC _) (by omega) (by show f + 2 + (n - 2) ≤ d.n; omega) hdn (by show n - 2 ≤ 1000; omega) (by show opB t0 b0 t1 b1 < _; omega)
    (fun i hi => by have h1 : i < n - 2 := hi; have h2 := hs (2 + i) (by omega); rw [show f + (2 + i) = f + 2 + i by omega] at h2; exact h2) pl hpl
  rw [hsc, upd_twice] at ksc
  have hopL : opL f n t0 b0 t1 b1 pl = { scL (newL f n (opT t0 t1) (opB t0 b0 t1 b1)) (opX pl n (opT t0 t1) (opB t0 b0 t1 b1)) with turn := opT t0 t1 + 1, base := opB t0 b0 t1 b1 } := rfl
  rw [hopL]
  generalize opX pl n (opT t0 t1) (opB t0 b0 t1 b1) = x at *
  generalize hl : scL (newL f n (opT t0 t1) (opB t0 b0 t1 b1)) x = l at *
  have lf : l.from_ = f := by rw [← hl]; rfl
  have lt : l.turn = opT t0 t1 := by rw [← hl]; rfl
  have lb : l.base = opB t0 b0 t1 b1 := by rw [← hl]; rfl
  have lr : l.recs = x.recs := by rw [← hl]; rfl
  have tk : ∀ τ, A τ ≠ none → upd A κr (some (.co 1 x.recs.length)) τ ≠ none := fun τ => upd_keep τ
  have hnm : κr ≠ κm := fun e => by rw [e, hd.m] at hκr; cases hκr
  have hnc : κr ≠ κc := fun e => by rw [e, hd.c] at hκr; cases hκr
  have hwS : Wf (upd H (off + 46) (some (encLg did κr l))) (upd A κr (some (.co 1 x.recs.length))) := Wf_set hw (LgAt.ok (upd_keepH _ hdid) (by rw [upd_same]; simp)) tk
  have hlS : LgAt (upd H (off + 46) (some (encLg did κr l))) (upd A κr (some (.co 1 x.recs.length))) (off + 46) did κr l := ⟨upd_same _ _ _, by rw [lr]; exact upd_same _ _ _⟩
  have hdS : DkAt (upd H (off + 46) (some (encLg did κr l))) (upd A κr (some (.co 1 x.recs.length))) did κm κc d := ⟨by rw [upd_other _ _ hndo]; exact hd.h, by rw [upd_other _ _ hnm.symm]; exact hd.m, by rw [upd_other _ _ hnc.symm]; exact hd.c⟩
  have knx := Try.kNext (κ' := κ') (off + 1000) hwS hlS hdS l.base (by omega) (by omega) (by omega) hdn hcl hb1 (by rw [lf, lt, lb]; exact hb2) (by rw [upd_other _ _ hκκ]; exact hκ)
  rw [lf, lt, lb] at knx
  have hAbS : Above (off + 1000) (upd H (off + 46) (some (encLg did κr l))) (upd A κr (some (.co 1 x.recs.length))) := Above_updA (hAb _) hκb
  generalize nextD d f (opT t0 t1 + 1) (opB t0 b0 t1 b1) = dn at *
  have hfin : ∀ {S : St} {fn : Func}, resPVs Try.prog S fn.results.toList = some (.tup [.c (.ptr (off + 46) 0), .c (.d (.lit (.int .i64 0)))]) → S.H = upd (upd (upd H (off + 46) (some (encLg did κr l))) did (some (encDk κm κ' dn))) (off + 46) (some (encLg did κr { l with turn := opT t0 t1 + 1, base := opB t0 b0 t1 b1 })) →
      S.A = upd (upd (upd (upd A κr (some (.co 1 x.recs.length))) κc (some (.co 2 (d.cache.length + 1)))) κm (some (.mp (encNS dn.stays)))) κ' (some (.co 2 0)) →
      RetR Try.prog fn H A (.tup [.c (.ptr id 0), .c (.d (.lit (.int .i64 0)))]) (upd (upd H did (some (encDk κm κ' dn))) id (some (encLg did κr { l with turn := opT t0 t1 + 1, base := opB t0 b0 t1 b1 })))
      (upd (upd (upd (upd A κr (some (.co 1 { l with turn := opT t0 t1 + 1, base := opB t0 b0 t1 b1 }.recs.length))) κc (some (.co 2 (d.cache.length + 1)))) κm (some (.mp (encNS dn.stays)))) κ' (some (.co 2 0))) S := by
    intro S fn h1 h2 h3
    have kA : ∀ τ, A τ ≠ none → S.A τ ≠ none := fun τ h => by rw [h3]; exact upd_keep _ (upd_keep _ (upd_keep _ (upd_keep _ h)))
    have hAe : upd (upd (upd (upd A κr (some (.co 1 { l with turn := opT t0 t1 + 1, base := opB t0 b0 t1 b1 }.recs.length))) κc (some (.co 2 (d.cache.length + 1)))) κm (some (.mp (encNS dn.stays)))) κ' (some (.co 2 0)) = S.A := by rw [h3, ← lr]
    rw [hAe]
    have hne : id ≠ did := fun e => hdid (by rw [← e]; exact hid)
    have h1id : upd H did (some (encDk κm κ' dn)) id = none := by rw [upd_other _ _ hne]; exact hid
    have h1o : upd H did (some (encDk κm κ' dn)) (off + 46) = none := by rw [upd_other _ _ hndo.symm]; exact hx
    have kκr : S.A κr ≠ none := by rw [h3]; exact upd_keep _ (upd_keep _ (upd_keep _ (by rw [upd_same]; simp)))
    have kκm : S.A κm ≠ none := by rw [h3]; exact upd_keep _ (by rw [upd_same]; simp)
    have kκ' : S.A κ' ≠ none := by rw [h3, upd_same]; simp
    have hw1 : Wf (upd H did (some (encDk κm κ' dn))) S.A := Wf_set hw (DkAt.ok kκm kκ') kA
    have him : (encLg did κr { l with turn := opT t0 t1 + 1, base := opB t0 b0 t1 b1 }).map (CV.im (swp id (off + 46)) (fun κ => κ)) = encLg did κr { l with turn := opT t0 t1 + 1, base := opB t0 b0 t1 b1 } := by
      show [CV.ptr (swp id (off + 46) did) 0, _, _, _, _, _, _, _] = _
      rw [show swp id (off + 46) did = did from if_neg hne.symm]
      rfl
    have hSe : ∀ i, i ≠ off + 46 → S.H i = upd H did (some (encDk κm κ' dn)) i := fun i hi => by
      rw [h2, upd_other _ _ hi]
      by_cases e : i = did
      · subst e; rw [upd_same, upd_same]
      · rw [upd_other _ _ e, upd_other _ _ e, upd_other _ _ hi]
    refine RetR_obj (H1 := upd H did (some (encDk κm κ' dn))) (A1 := S.A) (A'' := S.A) (i' := off + 46) (h := fun κ => κ) (ds := encLg did κr { l with turn := opT t0 t1 + 1, base := opB t0 b0 t1 b1 }) h1 ?_ (oks_pairP (by rw [upd_same]; simp)) hw1 upd_keepH kA h1id h1o
      (LgAt.ok (upd_keepH _ (by rw [upd_same]; simp)) kκr) ?_ (by rw [h2]; exact upd_same _ _ _) ?_ (fun κ h => ⟨rfl, h⟩) (fun κ ar h => h) (fun i j _ _ e => e) (fun κ => .inr (.inl rfl))
    · show PV.wk _ _ _ (.tup [.c (.ptr (swp id (off + 46) id) 0), _]) _
      rw [show swp id (off + 46) id = off + 46 from if_pos rfl]
      exact wk_pairP (by rw [upd_same]; simp)
    · intro i es hi
      have hne' : i ≠ off + 46 := fun e => by rw [e, h1o] at hi; cases hi
      refine ⟨es, by rw [hSe i hne']; exact hi, wkC_same fun c hc => ok_mono upd_keepH (fun κ hκ => ⟨hκ, rfl⟩) (hw1 i es c hi hc)⟩
    · rw [him]
      exact wkC_same (fun c hc => ok_mono (fun _ h => h) (fun κ hκ => ⟨hκ, rfl⟩) (LgAt.ok (upd_keepH _ (by rw [upd_same]; simp)) kκr c hc))
  have lenc : encLg did κr l = [.ptr did 0, .d (.lit (.int .i64 f)), .d (.lit (.int .i64 (n - 2 : Nat))), .d (.lit (.int .i64 (opT t0 t1))), .d (.lit (.int .i64 (opB t0 b0 t1 b1))), .d (.lit (.int .i64 x.used)), .own κr (textsD x.recs), .d (.lit (.bool false))] := by rw [← hl]; rfl
  dsimp only [encLgC, newL] at kt0 kt1 ksc
  rw [lenc] at ksc knx hAbS hfin
  rw [lf] at hfin
  by_cases q : t0 < t1
  · have hT : opT t0 t1 = t1 := if_pos q
    have hB : opB t0 b0 t1 b1 = b1 := if_pos q
    have g : ((t0 : Int) < (t1 : Int)) = True := eq_true (by omega)
    rw [hT, hB] at ksc knx hAbS hfin ⊢
    repeat' (first
     | with_reducible first | refine VC_seq fun K hK => ?_ | refine W_region ?_ | refine VC_block ?_ | refine VC_scope ?_ | refine VC_if ?_ | refine VC_skip ?_ | refine VC_exit ?_ | refine VC_ret ?_
     | (with_reducible first | refine G_not (fun h => ?_) (fun h => ?_) | refine G_cases (fun h => ?_) (fun h => ?_)) <;> (try simp only [h])
     | refine And.intro hx ?_
     | refine C_call rfl kl rfl (Above_mono hab (by omega)) ?_
     | refine C_call rfl kt0 rfl (hAb _) ?_
     | refine C_call rfl kt1 rfl (hAb _) ?_
     | refine C_call rfl ksc rfl (hAb _) ?_
     | refine C_call rfl knx rfl hAbS ?_
     | with_reducible first | (refine hK _ ?_; clear hK K) | (clear hK K; refine hK _ ?_; clear hK K) | (clear hK K; clear hK K; refine hK _ ?_; clear hK K) | (clear hK K; clear hK K; clear hK K; refine hK _ ?_; clear hK K)
     | (with_reducible refine todo ?_; simp +decide only [go_sem, q1, q2, q3, q4, q5, q6, q7, q8, g, zne, upd_twice]))
    rw [lf]
    refine hfin ?_ ?_ ?_ <;> rfl
  · have hT : opT t0 t1 = t0 := if_neg q
    have hB : opB t0 b0 t1 b1 = b0 := if_neg q
    have g : ((t0 : Int) < (t1 : Int)) = False := eq_false (by omega)
    rw [hT, hB] at ksc knx hAbS hfin ⊢
    repeat' (first
     | with_reducible first | refine VC_seq fun K hK => ?_ | refine W_region ?_ | refine VC_block ?_ | refine VC_scope ?_ | refine VC_if ?_ | refine VC_skip ?_ | refine VC_exit ?_ | refine VC_ret ?_
     | (with_reducible first | refine G_not (fun h => ?_) (fun h => ?_) | refine G_cases (fun h => ?_) (fun h => ?_)) <;> (try simp only [h])
     | refine And.intro hx ?_
     | refine C_call rfl kl rfl (Above_mono hab (by omega)) ?_
     | refine C_call rfl kt0 rfl (hAb _) ?_
     | refine C_call rfl kt1 rfl (hAb _) ?_
     | refine C_call rfl ksc rfl (hAb _) ?_
     | refine C_call rfl knx rfl hAbS ?_
     | with_reducible first | (refine hK _ ?_; clear hK K) | (clear hK K; refine hK _ ?_; clear hK K) | (clear hK K; clear hK K; refine hK _ ?_; clear hK K) | (clear hK K; clear hK K; clear hK K; refine hK _ ?_; clear hK K)
     | (with_reducible refine todo ?_; simp +decide only [go_sem, q1, q2, q3, q4, q5, q6, q7, q8, g, zne, upd_twice]))
    rw [lf]
    refine hfin ?_ ?_ ?_ <;> rfl
end wal
end Go.Proofs
