import Derived.Test.YtfcffhhipkbkmaaQ30
import Derived.Test.YtfcffhhipkbkmaaQ32

/-
  WalLives: what holds ahead of each call.
-/


namespace Go.PW
/-- The head of a loop: variables may be forgotten, new arrays be named. -/
theorem Weak_gen {S : St} {H : HMap} {A : AMap} {l : List (Nat × PV)} (hw : Wf H S.A) (hb : ∀ j, H j ≠ none → S.H j = H j) (h2 : ∀ τ, S.A τ ≠ none → A τ = S.A τ) (h3 : ∀ τ, S.A τ = none → A τ = none ∨ ∃ sz, A τ = some (.co sz 0)) (h1 : keepP (hOver [] H) S.A A S.ρ l) :
    Weak noH noA S (over l [] H A) := by
  refine ⟨fun t => keepP_spec h1 t, fun i => ?_, fun τ => ?_, fun i h => (h rfl).elim, fun τ h => (h rfl).elim⟩
  · show H i = none ∨ ∃ es fs, H i = some es ∧ _
    cases hi : H i with
    | none => exact .inl rfl
    | some es =>
      refine .inr ⟨es, es, rfl, by rw [hb i (by rw [hi]; simp), hi], rfl, fun k c d h4 h5 => ?_⟩
      rw [h4] at h5
      cases h5
      exact .inr (.inl ⟨rfl, ok_mono (fun _ h => h) (fun τ h => by rw [show (over l [] H A).A = A from rfl, h2 τ h]; exact ⟨h, rfl⟩) (hw i es c hi (List.mem_of_getElem? h4))⟩)
  · show A τ = none ∨ A τ = S.A τ ∨ _
    cases hτ : S.A τ with
    | none =>
      rcases h3 τ hτ with h | ⟨sz, h⟩
      · exact .inl h
      · exact .inr (.inr ⟨rfl, sz, .inl h⟩)
    | some ar => exact .inr (.inl (by rw [h2 τ (by rw [hτ]; simp), hτ]))
end Go.PW
namespace Go.Proofs
open Go.PW
structure OpW where
  kind : Int
  n : Int
  s : List UInt8
  keep : List Bool
def OpW.enc (o : OpW) : List D := [.lit (.int .i64 o.kind), .lit (.int .i64 o.n), dS o.s, .sl (bools o.keep)]
def opsD (l : List OpW) : List (List D) := l.map OpW.enc
theorem opsD_get {l : List OpW} {i : Nat} (h : i < l.length) : (opsD l)[i]? = some [.lit (.int .i64 l[i].kind), .lit (.int .i64 l[i].n), dS l[i].s, .sl (bools l[i].keep)] := by
  unfold opsD; rw [List.getElem?_map, List.getElem?_eq_getElem h]; rfl
theorem opsD_len (l : List OpW) : (opsD l).length = l.length := by simp [opsD]
def oC (o : OpW) : List CV := [.d (.lit (.int .i64 o.kind)), .d (.lit (.int .i64 o.n)), .d (dS o.s), .d (.sl (bools o.keep))]
structure LSt where
  i : Nat
  k : Nat
  lid : Nat
  κr : Tok
  κc : Tok
  κa : Tok
  H : HMap
  A : AMap
  l : Lg
  d : Dk
  sure : Nat
/-- What the disk and the log have. -/
def PL (i : Nat) (l : Lg) (d : Dk) (sure : Nat) : Prop := ∃ T B old new S, PI d 1 39 40 T B old new S ∧ l = ⟨1, 37, T, B, (pcs (old ++ new)).length, (old ++ new).map (·.2), false⟩ ∧ d.cache.length = (pcs new).length ∧ d.fused = false ∧ T ≤ 1 + i ∧ sure = old.length
structure LV (y : LSt) : Prop where
  L : LW y.H y.A y.k 200 (200, 0) y.κc y.d
  g : LgAt y.H y.A y.lid 200 y.κr y.l
  lo : ∀ j, j < 200 → y.H j = none ∧ ∀ q, y.A (j, q) = none
  a : y.A y.κa = some (.co 1 (textsD y.l.recs).length)
  na : y.κa ≠ y.κr ∧ y.κa ≠ y.κc ∧ y.κa ≠ (200, 0)
  k0 : 202 ≤ y.k ∧ y.k ≤ 203 + 4 * y.i
  hi : y.i ≤ 60
  p : PL y.i y.l y.d y.sure
theorem PL.mono {i j : Nat} {l : Lg} {d : Dk} {s : Nat} (h : PL i l d s) (hij : i ≤ j) : PL j l d s := by
  obtain ⟨T, B, old, new, S, h1, h2, h3, h4, h5, h6⟩ := h
  exact ⟨T, B, old, new, S, h1, h2, h3, h4, by omega, h6⟩
theorem PL.append {i : Nat} {l : Lg} {d : Dk} {sure : Nat} (h : PL i l d sure) (s : List UInt8) (hfit : l.used + (partsL s).length ≤ 37) : PL i { l with recs := l.recs ++ [s], used := l.used + (partsL s).length } (apD l s (partsL s).length (partsL s) d (partsL s).length) sure := by
  obtain ⟨T, B, old, new, S, h1, rfl, h3, h4, h5, h6⟩ := h
  have hpl : (pcs (old ++ new)).length = (pcs old).length + (pcs new).length := by rw [pcs_app, List.length_append]
  obtain ⟨_, c2, c3, _⟩ := apD_spec ⟨1, 37, T, B, (pcs (old ++ new)).length, (old ++ new).map (·.2), false⟩ s (partsL s).length (partsL s) d (partsL s).length
  have hp := h1.append (l := ⟨1, 37, T, B, (pcs (old ++ new)).length, (old ++ new).map (·.2), false⟩) rfl rfl hpl h3 s hfit (partsL s).length (Nat.le_refl _)
  have hr : (pcsR T s).length = (partsL s).length := by unfold pcsR; rw [pcK_len]
  have hn : (pcs (new ++ [(T, s)])).length = (pcs new).length + (partsL s).length := by
    rw [show pcs (new ++ [(T, s)]) = pcs new ++ (pcsR T s ++ []) from pcs_app _ _, List.append_nil, List.length_append, hr]
  refine ⟨T, B, old, new ++ [(T, s)], S, hp, ?_, by rw [c2, h3, hn], by rw [c3]; exact h4, h5, h6⟩
  have e1 : (pcs (old ++ (new ++ [(T, s)]))).length = (pcs (old ++ new)).length + (partsL s).length := by rw [pcs_app, List.length_append, hn, hpl]; omega
  have e2 : (old ++ (new ++ [(T, s)])).map (·.2) = (old ++ new).map (·.2) ++ [s] := by rw [← List.append_assoc, List.map_append]; rfl
  rw [e1, e2]
theorem PL.commit {i : Nat} {l : Lg} {d : Dk} {sure : Nat} (h : PL i l d sure) : PL i l (flD d) l.recs.length := by
  obtain ⟨T, B, old, new, S, h1, rfl, h3, h4, h5, h6⟩ := h
  obtain ⟨R, hR⟩ := h1.commit h3
  exact ⟨T, B, old ++ new, [], R, hR, by rw [List.append_nil], rfl, h4, h5, by simp⟩
theorem PL.reset {i : Nat} {l : Lg} {d : Dk} {sure : Nat} (h : PL i l d sure) (hi : i ≤ 60) : PL (i + 1) { l with turn := l.turn + 1, base := l.turn + 1, used := 0, recs := [] } (nextD d l.from_ (l.turn + 1) (l.turn + 1)) 0 := by
  obtain ⟨T, B, old, new, S, h1, rfl, h3, h4, h5, h6⟩ := h
  obtain ⟨R, hR⟩ := h1.reset (by omega)
  exact ⟨T + 1, T + 1, [], [], R, hR, rfl, rfl, h4, by omega, rfl⟩
theorem PL.crash {i : Nat} {l : Lg} {d : Dk} {sure : Nat} (h : PL i l d sure) (hi : i ≤ 60) (keep : List Bool) : ∃ t0 b0 t1 b1 R, OpAt (crD d keep) 1 39 t0 b0 t1 b1 R ∧
    PL (i + 1) (opL 1 39 t0 b0 t1 b1 R) (nextD (crD d keep) 1 (opT t0 t1 + 1) (opB t0 b0 t1 b1)) (opL 1 39 t0 b0 t1 b1 R).recs.length ∧ sure ≤ (opL 1 39 t0 b0 t1 b1 R).recs.length ∧ (opL 1 39 t0 b0 t1 b1 R).recs = l.recs.take (opL 1 39 t0 b0 t1 b1 R).recs.length := by
  obtain ⟨T, B, old, new, S, h1, rfl, h3, h4, h5, h6⟩ := h
  obtain ⟨t0, b0, t1, b1, R, m, c1, c2, c3, c4, c5, c6⟩ := h1.crash (by omega) keep
  refine ⟨t0, b0, t1, b1, R, c1, ?_, ?_, ?_⟩
  · rw [c5, c2, c3]
    exact ⟨T + 1, B, old ++ new.take m, [], R, c6, by rw [List.append_nil], rfl, rfl, by omega, by simp⟩
  · rw [c5]; simp only [List.length_map, List.length_append]; omega
  · rw [c5]
    simp only [List.length_map, List.length_append, List.length_take]
    have e : (old ++ new).take (old.length + min m new.length) = old ++ new.take m := by
      rw [List.take_append, List.take_of_length_le (l := old) (Nat.le_add_right _ _), show old.length + min m new.length - old.length = m by omega]
    rw [← List.map_take, e]
/-- What is known of a log: numbers. -/
theorem PL.spec {i : Nat} {l : Lg} {d : Dk} {sure : Nat} (h : PL i l d sure) : l.from_ = 1 ∧ l.places = 37 ∧ l.turn ≤ 1 + i ∧ l.halted = false ∧ l.used ≤ 37 ∧ d.n = 40 ∧ d.fused = false ∧ d.cache.length ≤ 37 ∧ l.recs.length ≤ 37 ∧ sure ≤ l.recs.length := by
  obtain ⟨T, B, old, new, S, h1, rfl, h3, h4, h5, h6⟩ := h
  have hpl : (pcs (old ++ new)).length = (pcs old).length + (pcs new).length := by rw [pcs_app, List.length_append]
  have hf := h1.fit
  have hlen : ∀ l : List (Nat × List UInt8), l.length ≤ (pcs l).length := fun l => by
    induction l with
    | nil => exact Nat.le_refl _
    | cons r l ih =>
      have := pcsR_ne r.1 r.2
      show l.length + 1 ≤ (pcsR r.1 r.2 ++ pcs l).length
      rw [List.length_append]; omega
  have h7 := hlen (old ++ new)
  refine ⟨rfl, rfl, h5, rfl, by show (pcs (old ++ new)).length ≤ 37; omega, h1.dn, h4, by omega, by show ((old ++ new).map _).length ≤ 37; rw [List.length_map]; omega, by show sure ≤ ((old ++ new).map _).length; rw [List.length_map, List.length_append]; omega⟩
section lv
variable {y : LSt}
theorem LV.loc (hy : LV y) (o : OpW) : LW (upd y.H 10 (some (oC o))) y.A y.k 200 (200, 0) y.κc y.d ∧ LgAt (upd y.H 10 (some (oC o))) y.A y.lid 200 y.κr y.l := by
  have h1 := hy.k0.1
  have hl : y.lid ≠ 10 := fun e => by have := hy.g.h; rw [e, (hy.lo 10 (by omega)).1] at this; cases this
  exact ⟨⟨Wf_upd hy.L.wf rfl, Above_updH hy.L.ab (by omega), hy.L.dk.updH (by omega)⟩, hy.g.mv (upd_other _ _ hl) rfl⟩
theorem LV.next (hy : LV y) {c : List CV} {H' : HMap} {A' A'' : AMap} {k' k'' lid' : Nat} {κr' κr0 κc' κa' : Tok} {l' l0 : Lg} {d' : Dk} {sure' : Nat}
    (hL : LW H' A' k' 200 (200, 0) κc' d') (hg : LgAt H' A' lid' 200 κr' l') (ho : LgAt H' A' y.lid 200 κr0 l0) (fr : ∀ j, j ≠ 200 → j ≠ y.lid → j ≠ lid' → H' j = upd y.H 10 (some c) j) (kA : ∀ τ, y.A τ ≠ none → A' τ ≠ none) (hlid : 200 ≤ lid')
    (hAA : ∀ τ, A' τ ≠ none → A'' τ = A' τ) (hab : Above k'' H' A'') (loA : ∀ τ : Tok, τ.1 < 200 → A'' τ = none) (a : A'' κa' = some (.co 1 (textsD l'.recs).length)) (na : κa' ≠ κr' ∧ κa' ≠ κc' ∧ κa' ≠ (200, 0)) (k0 : 202 ≤ k'' ∧ k'' ≤ 203 + 4 * (y.i + 1)) (hi : y.i < 60) (p : PL (y.i + 1) l' d' sure') :
    Wf (upd H' 10 none) A' ∧ LV ⟨y.i + 1, k'', lid', κr', κc', κa', upd H' 10 none, A'', l', d', sure'⟩ := by
  have hl10 : y.lid ≠ 10 := fun e => by have := hy.g.h; rw [e, (hy.lo 10 (by omega)).1] at this; cases this
  have hne : ∀ j, j ≠ 10 → upd H' 10 none j = H' j := fun j hj => upd_other _ _ hj
  have hd0 : upd H' 10 none 200 ≠ none := by rw [hne 200 (by omega), hL.dk.h]; simp
  have hwf : Wf (upd H' 10 none) A' := by
    intro j es cc hj hc
    by_cases e10 : j = 10
    · rw [e10, upd_same] at hj; cases hj
    · rw [hne j e10] at hj
      by_cases e1 : j = 200
      · rw [e1, hL.dk.h] at hj
        cases hj
        exact DkAt.ok (by rw [hL.dk.m]; simp) (by rw [hL.dk.c]; simp) cc hc
      · by_cases e2 : j = y.lid
        · rw [e2, ho.h] at hj
          cases hj
          exact LgAt.ok hd0 (by rw [ho.r]; simp) cc hc
        · by_cases e3 : j = lid'
          · rw [e3, hg.h] at hj
            cases hj
            exact LgAt.ok hd0 (by rw [hg.r]; simp) cc hc
          · rw [fr j e1 e2 e3, upd_other _ _ e10] at hj
            refine ok_mono (fun i hi => ?_) (fun τ hτ => kA τ hτ) (hy.L.wf j es cc hj hc)
            have i10 : i ≠ 10 := fun e => hi (by rw [e]; exact (hy.lo 10 (by omega)).1)
            rw [hne i i10]
            by_cases f1 : i = 200
            · rw [f1, hL.dk.h]; simp
            · by_cases f2 : i = y.lid
              · rw [f2, ho.h]; simp
              · by_cases f3 : i = lid'
                · rw [f3, hg.h]; simp
                · rw [fr i f1 f2 f3, upd_other _ _ i10]; exact hi
  have hlid2 : 200 ≤ y.lid := Nat.le_of_not_lt fun h => by have := hy.g.h; rw [(hy.lo _ h).1] at this; cases this
  refine ⟨hwf, ⟨Wf_arr hwf (fun τ h => by show A'' τ ≠ none; rw [hAA τ h]; exact h), fun i hi => ⟨?_, (hab i hi).2⟩, ?_⟩, ?_, fun j hj => ⟨?_, fun q => loA (j, q) hj⟩, a, na, k0, hi, p⟩
  · show upd H' 10 none i = none
    by_cases e : i = 10
    · rw [e, upd_same]
    · rw [hne i e]; exact (hab i hi).1
  · exact ⟨by show upd H' 10 none 200 = _; rw [hne 200 (by omega)]; exact hL.dk.h, by show A'' (200, 0) = _; rw [hAA _ (by rw [hL.dk.m]; simp)]; exact hL.dk.m, by show A'' κc' = _; rw [hAA _ (by rw [hL.dk.c]; simp)]; exact hL.dk.c⟩
  · exact hg.mv (hne lid' (by omega)) (hAA _ (by rw [hg.r]; simp))
  · show upd H' 10 none j = none
    by_cases e : j = 10
    · rw [e, upd_same]
    · rw [hne j e, fr j (by omega) (by omega) (by omega), upd_other _ _ e]; exact (hy.lo j hj).1
def FrL (ops : List OpW) (y : LSt) : St := over [(0, .c (.d (.sl (opsD ops)))), (3, .c (.ptr 200 0)), (5, .c (.ptr y.lid 0)), (7, pD (.lit (.int .i64 y.sure))), (8, .c (.own y.κa (textsD y.l.recs))), (9, pD (.lit (.int .i64 y.i)))] [] y.H y.A
theorem LV.fin {ops : List OpW} {S : St} {i' i k lid : Nat} {κr κc κa : Tok} {H' : HMap} {A' A : AMap} {l : Lg} {d : Dk} {sure : Nat} (h : Wf (upd H' 10 none) A' ∧ LV ⟨i + 1, k, lid, κr, κc, κa, upd H' 10 none, A, l, d, sure⟩) (hi : i < 60) (hi' : i' = i) (hS : S.H = H') (hA : S.A = A')
    (hAA : ∀ τ, A' τ ≠ none → A τ = A' τ) (h3 : ∀ τ, A' τ = none → A τ = none ∨ ∃ sz, A τ = some (.co sz 0)) (h8 : PV.wk (hOver [] (upd H' 10 none)) A' A (.c (.own κa (textsD l.recs))) (S.ρ 8))
    (p0 : S.ρ 0 = .c (.d (.sl (opsD ops)))) (p3 : S.ρ 3 = .c (.ptr 200 0)) (p5 : S.ρ 5 = .c (.ptr lid 0)) (p7 : S.ρ 7 = pD (.lit (.int .i64 sure))) (p9 : S.ρ 9 = pD (.lit (.int .i64 (i + 1 : Nat)))) :
    ∃ j : {y : LSt // LV y}, Weak noH noA S (FrL ops j.1) ∧ 60 - j.1.i < 60 - i' := by
  obtain ⟨hw, hy⟩ := h
  subst hS; subst hA; subst hi'
  refine ⟨⟨_, hy⟩, Weak_gen hw (fun j hj => ?_) hAA h3 ?_, by show 60 - (i' + 1) < 60 - i'; omega⟩
  · have hj' : upd S.H 10 none j ≠ none := hj
    have e : j ≠ 10 := fun e => hj' (by rw [e]; exact upd_same _ _ _)
    show S.H j = upd S.H 10 none j
    rw [upd_other _ _ e]
  · have w1 : upd S.H 10 none 200 ≠ none := by have := hy.L.dk.h; simp only at this; rw [this]; simp
    have w2 : upd S.H 10 none lid ≠ none := by have := hy.g.h; simp only at this; rw [this]; simp
    refine ⟨?_, ?_, ?_, ?_, h8, ?_, True.intro⟩
    · rw [p0, wkP_d]; exact True.intro
    · rw [p3]; exact wkP_ptr w1
    · rw [p5]; exact wkP_ptr w2
    · rw [p7]; unfold pD; rw [wkP_d]; exact True.intro
    · rw [p9]; unfold pD; rw [wkP_d]; exact True.intro
theorem LW.tok {H : HMap} {A : AMap} {k did : Nat} {κm κc κ : Tok} {d : Dk} {x : Arr} (hL : LW H A k did κm κc d) (h1 : κ ≠ κm) (h2 : κ ≠ κc) (h3 : κ.1 < k) : LW H (upd A κ (some x)) k did κm κc d :=
  ⟨Wf_arr hL.wf upd_keep, Above_updA hL.ab h3, hL.dk.h, by rw [upd_other _ _ h1.symm]; exact hL.dk.m, by rw [upd_other _ _ h2.symm]; exact hL.dk.c⟩
end lv
theorem Try.appB : AppT Try.prog 45 4 1 1 := ⟨Try.underlying45, Try.cl4, Try.by4, Try.zo4, by decide, by decide⟩
end Go.Proofs
