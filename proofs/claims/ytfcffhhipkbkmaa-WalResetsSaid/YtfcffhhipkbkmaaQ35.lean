import Derived.Test.YtfcffhhipkbkmaaQ32
import Derived.Test.YtfcffhhipkbkmaaQ33

/-
  WalSafe: what holds ahead of each call.
-/


namespace Go.Proofs
open Go.PW
theorem first_true (p : Nat → Bool) : ∀ m, (∀ k, k < m → p k = false) ∨ ∃ k0, k0 < m ∧ (∀ k, k < k0 → p k = false) ∧ p k0 = true
  | 0 => .inl fun k h => by omega
  | m + 1 => by
    rcases first_true p m with h | ⟨k0, h1, h2, h3⟩
    · cases hp : p m with
      | true => exact .inr ⟨m, Nat.lt_succ_self m, h, hp⟩
      | false =>
        refine .inl fun k hk => ?_
        rcases Nat.lt_or_ge k m with h4 | h4
        · exact h k h4
        · rw [show k = m by omega]; exact hp
    · exact .inr ⟨k0, by omega, h2, h3⟩
theorem PI.cacheLen {d : Dk} {f n N T B : Nat} {old new : List (Nat × List UInt8)} {S : Nat → Option Pc} (h : PI d f n N T B old new S) : d.cache.length ≤ (pcs new).length := Nat.le_of_not_lt fun hlt => by
  obtain ⟨_, _, p, hp, _⟩ := h.cache _ _ (List.getElem?_eq_getElem hlt)
  have := (List.getElem?_eq_some_iff.1 hp).1
  omega
theorem len_pcs (l : List (Nat × List UInt8)) : l.length ≤ (pcs l).length := by
  induction l with
  | nil => exact Nat.le_refl _
  | cons r l ih =>
    have := pcsR_ne r.1 r.2
    show l.length + 1 ≤ (pcsR r.1 r.2 ++ pcs l).length
    rw [List.length_append]; omega
/-- What the disk and the log have; 'all': what was to be there, 'sure' what was committed. -/
def PS (l : Lg) (d : Dk) (sure : Nat) (all : List (List UInt8)) : Prop := ∃ old new S ex, PI d 3 30 40 1 0 old new S ∧ all = (old ++ new).map (·.2) ++ ex ∧ sure = old.length ∧
  (l.halted = false → l = ⟨3, 28, 1, 0, (pcs (old ++ new)).length, (old ++ new).map (·.2), false⟩ ∧ d.cache.length = (pcs new).length ∧ ex = [])
section ps
variable {l : Lg} {d : Dk} {sure : Nat} {all : List (List UInt8)}
theorem PS.appendK (h : PS l d sure all) (hh : l.halted = false) (s : List UInt8) (hfit : l.used + (partsL s).length ≤ 28) (k0 : Nat) (hk : k0 ≤ (partsL s).length) : ∃ (old new : List (Nat × List UInt8)) (S : Nat → Option Pc), PI (apD l s (partsL s).length (partsL s) d k0) 3 30 40 1 0 old (new ++ [(1, s)]) S ∧ all ++ [s] = List.map (fun r : Nat × List UInt8 => r.2) (old ++ (new ++ [(1, s)])) ∧ sure = old.length ∧
    l = ⟨3, 28, 1, 0, (pcs (old ++ new)).length, (old ++ new).map (·.2), false⟩ ∧ d.cache.length = (pcs new).length := by
  obtain ⟨old, new, S, ex, h1, h2, h3, h4⟩ := h
  obtain ⟨rfl, h5, rfl⟩ := h4 hh
  have hpl : (pcs (old ++ new)).length = (pcs old).length + (pcs new).length := by rw [pcs_app, List.length_append]
  refine ⟨old, new, S, h1.append rfl rfl hpl h5 s hfit k0 hk, ?_, h3, rfl, h5⟩
  rw [h2, List.append_nil, ← List.append_assoc, List.map_append (l₁ := old ++ new)]; rfl
theorem PS.append (h : PS l d sure all) (hh : l.halted = false) (s : List UInt8) (hfit : l.used + (partsL s).length ≤ 28) : PS { l with recs := l.recs ++ [s], used := l.used + (partsL s).length } (apD l s (partsL s).length (partsL s) d (partsL s).length) sure (all ++ [s]) := by
  obtain ⟨old, new, S, h1, h2, h3, h4, h5⟩ := h.appendK hh s hfit (partsL s).length (Nat.le_refl _)
  obtain ⟨_, c2, _, _⟩ := apD_spec l s (partsL s).length (partsL s) d (partsL s).length
  have hr : (pcsR 1 s).length = (partsL s).length := by unfold pcsR; rw [pcK_len]
  have hn : (pcs (new ++ [(1, s)])).length = (pcs new).length + (partsL s).length := by
    rw [show pcs (new ++ [(1, s)]) = pcs new ++ (pcsR 1 s ++ []) from pcs_app _ _, List.append_nil, List.length_append, hr]
  refine ⟨old, new ++ [(1, s)], S, [], h1, by rw [List.append_nil]; exact h2, h3, fun _ => ⟨?_, by rw [c2, h5, hn], rfl⟩⟩
  have e1 : (pcs (old ++ (new ++ [(1, s)]))).length = (pcs (old ++ new)).length + (partsL s).length := by rw [pcs_app, List.length_append, hn, pcs_app, List.length_append]; omega
  have e2 : List.map (fun r : Nat × List UInt8 => r.2) (old ++ (new ++ [(1, s)])) = (old ++ new).map (·.2) ++ [s] := by rw [← List.append_assoc, List.map_append (l₁ := old ++ new)]; rfl
  rw [e1, e2, h4]
theorem PS.appendB (h : PS l d sure all) (hh : l.halted = false) (s : List UInt8) (hfit : l.used + (partsL s).length ≤ 28) (k0 : Nat) (hk : k0 ≤ (partsL s).length) : PS { l with halted := true } (apD l s (partsL s).length (partsL s) d k0) sure (all ++ [s]) := by
  obtain ⟨old, new, S, h1, h2, h3, _, _⟩ := h.appendK hh s hfit k0 hk
  exact ⟨old, new ++ [(1, s)], S, [], h1, by rw [List.append_nil]; exact h2, h3, fun h => by cases h⟩
theorem PS.appendH (h : PS l d sure all) (hh : l.halted = true) (s : List UInt8) : PS l d sure (all ++ [s]) := by
  obtain ⟨old, new, S, ex, h1, h2, h3, _⟩ := h
  exact ⟨old, new, S, ex ++ [s], h1, by rw [h2, List.append_assoc], h3, fun h => by rw [hh] at h; cases h⟩
theorem PS.commit (h : PS l d sure all) (hh : l.halted = false) : PS l (flD d) all.length all := by
  obtain ⟨old, new, S, ex, h1, h2, h3, h4⟩ := h
  obtain ⟨rfl, h5, rfl⟩ := h4 hh
  obtain ⟨R, hR⟩ := h1.commit h5
  exact ⟨old ++ new, [], R, [], hR, by rw [h2]; simp, by rw [h2]; simp, fun _ => ⟨by rw [List.append_nil], rfl, rfl⟩⟩
theorem PS.halt (h : PS l d sure all) : PS { l with halted := true } d sure all := by
  obtain ⟨old, new, S, ex, h1, h2, h3, _⟩ := h
  exact ⟨old, new, S, ex, h1, h2, h3, fun h => by cases h⟩
theorem PS.fuse (h : PS l d sure all) (n : Int) : PS l (fuseD d n) sure all := by
  obtain ⟨old, new, S, ex, h1, h2, h3, h4⟩ := h
  exact ⟨old, new, S, ex, { h1 with g := h1.g, dn := h1.dn, len := h1.len, at_ := h1.at_, s0 := h1.s0, s1 := h1.s1, cache := h1.cache }, h2, h3, h4⟩
theorem PS.dn (h : PS l d sure all) : d.n = 40 ∧ d.cache.length ≤ 28 := by
  obtain ⟨old, new, S, ex, h1, _⟩ := h
  have := h1.cacheLen
  have := h1.fit
  exact ⟨h1.dn, by omega⟩
theorem PS.spec (h : PS l d sure all) (hh : l.halted = false) : l.from_ = 3 ∧ l.places = 28 ∧ l.turn = 1 ∧ l.used ≤ 28 ∧ l.recs.length ≤ 28 := by
  obtain ⟨old, new, S, ex, h1, h2, h3, h4⟩ := h
  obtain ⟨rfl, h5, rfl⟩ := h4 hh
  have hpl : (pcs (old ++ new)).length = (pcs old).length + (pcs new).length := by rw [pcs_app, List.length_append]
  have hf := h1.fit
  have h7 := len_pcs (old ++ new)
  exact ⟨rfl, rfl, rfl, by show (pcs (old ++ new)).length ≤ 28; omega, by show ((old ++ new).map _).length ≤ 28; rw [List.length_map]; omega⟩
theorem PS.crash (h : PS l d sure all) (keep : List Bool) : ∃ t0 b0 t1 b1 R, OpAt (crD d keep) 3 30 t0 b0 t1 b1 R ∧ (opL 3 30 t0 b0 t1 b1 R).turn = 2 ∧ sure ≤ (opL 3 30 t0 b0 t1 b1 R).recs.length ∧ (opL 3 30 t0 b0 t1 b1 R).recs.length ≤ all.length ∧ (opL 3 30 t0 b0 t1 b1 R).recs.length ≤ 28 ∧
    (opL 3 30 t0 b0 t1 b1 R).recs = all.take (opL 3 30 t0 b0 t1 b1 R).recs.length := by
  obtain ⟨old, new, S, ex, h1, rfl, rfl, _⟩ := h
  obtain ⟨t0, b0, t1, b1, R, m, c1, c2, c3, c4, c5, c6⟩ := h1.crash (by omega) keep
  have h7 := len_pcs (old ++ new.take m)
  have hf := c6.fit
  rw [List.length_append] at h7
  refine ⟨t0, b0, t1, b1, R, c1, by rw [c5], ?_, ?_, ?_, ?_⟩
  · rw [c5]; simp only [List.length_map, List.length_append]; omega
  · rw [c5]; simp only [List.length_map, List.length_append, List.length_take]; omega
  · rw [c5]; simp only [List.length_map, List.length_append, List.length_take] at h7 hf ⊢; omega
  · rw [c5]
    simp only [List.length_map, List.length_append, List.length_take]
    have e : (old ++ new).take (old.length + min m new.length) = old ++ new.take m := by
      rw [List.take_append, List.take_of_length_le (l := old) (Nat.le_add_right _ _), show old.length + min m new.length - old.length = m by omega]
    have e2 : ((old ++ new).map (·.2) ++ ex).take (old.length + min m new.length) = ((old ++ new).map (·.2)).take (old.length + min m new.length) := by
      rw [List.take_append_of_le_length (by rw [List.length_map, List.length_append]; omega)]
    rw [e2, ← List.map_take, e]
end ps
structure SSt where
  i : Nat
  k : Nat
  κc : Tok
  H : HMap
  A : AMap
  l : Lg
  d : Dk
  sure : List (List UInt8)
  all : List (List UInt8)
structure SV (y : SSt) : Prop where
  L : LW y.H y.A y.k 200 (200, 0) y.κc y.d
  g : LgAt y.H y.A 201 200 (201, 0) y.l
  lo : ∀ j, j < 200 → y.H j = none ∧ ∀ q, y.A (j, q) = none
  a : y.A (202, 0) = some (.co 1 (textsD y.all).length)
  nc : y.κc ≠ (202, 0)
  k0 : 203 ≤ y.k ∧ y.k ≤ 203 + y.i
  hi : y.i ≤ 31
  hall : y.all.length ≤ y.i
  p : PS y.l y.d y.sure.length y.all
section sv
variable {y : SSt}
theorem SV.loc (hy : SV y) (o : OpW) : LW (upd y.H 14 (some (oC o))) y.A y.k 200 (200, 0) y.κc y.d ∧ LgAt (upd y.H 14 (some (oC o))) y.A 201 200 (201, 0) y.l := by
  have h1 := hy.k0.1
  exact ⟨⟨Wf_upd hy.L.wf rfl, Above_updH hy.L.ab (by omega), hy.L.dk.updH (by omega)⟩, hy.g.mv (upd_other _ _ (by omega)) rfl⟩
theorem SV.next (hy : SV y) {c : List CV} {H' : HMap} {A' : AMap} {k' i' : Nat} {κc' : Tok} {l' : Lg} {d' : Dk} {sure' all' : List (List UInt8)}
    (hL : LW H' A' k' 200 (200, 0) κc' d') (hg : LgAt H' A' 201 200 (201, 0) l') (fr : ∀ j, j ≠ 200 → j ≠ 201 → H' j = upd y.H 14 (some c) j) (kA : ∀ τ, y.A τ ≠ none → A' τ ≠ none)
    (loA : ∀ τ : Tok, τ.1 < 200 → A' τ = none) (a : A' (202, 0) = some (.co 1 (textsD all').length)) (nc : κc' ≠ (202, 0)) (k0 : 203 ≤ k' ∧ k' ≤ 203 + i') (hi : i' ≤ 31) (hall : all'.length ≤ i') (p : PS l' d' sure'.length all') :
    Wf (upd H' 14 none) A' ∧ SV ⟨i', k', κc', upd H' 14 none, A', l', d', sure', all'⟩ := by
  have hne : ∀ j, j ≠ 14 → upd H' 14 none j = H' j := fun j hj => upd_other _ _ hj
  have hd0 : upd H' 14 none 200 ≠ none := by rw [hne 200 (by omega), hL.dk.h]; simp
  have hwf : Wf (upd H' 14 none) A' := by
    intro j es cc hj hc
    by_cases e10 : j = 14
    · rw [e10, upd_same] at hj; cases hj
    · rw [hne j e10] at hj
      by_cases e1 : j = 200
      · rw [e1, hL.dk.h] at hj
        cases hj
        exact DkAt.ok (by rw [hL.dk.m]; simp) (by rw [hL.dk.c]; simp) cc hc
      · by_cases e2 : j = 201
        · rw [e2, hg.h] at hj
          cases hj
          exact LgAt.ok hd0 (by rw [hg.r]; simp) cc hc
        · rw [fr j e1 e2, upd_other _ _ e10] at hj
          refine ok_mono (fun i hi => ?_) (fun τ hτ => kA τ hτ) (hy.L.wf j es cc hj hc)
          have i10 : i ≠ 14 := fun e => hi (by rw [e]; exact (hy.lo 14 (by omega)).1)
          rw [hne i i10]
          by_cases f1 : i = 200
          · rw [f1, hL.dk.h]; simp
          · by_cases f2 : i = 201
            · rw [f2, hg.h]; simp
            · rw [fr i f1 f2, upd_other _ _ i10]; exact hi
  refine ⟨hwf, ⟨hwf, fun i hi => ⟨?_, (hL.ab i hi).2⟩, ?_⟩, ?_, fun j hj => ⟨?_, fun q => loA (j, q) hj⟩, a, nc, k0, hi, hall, p⟩
  · show upd H' 14 none i = none
    by_cases e : i = 14
    · rw [e, upd_same]
    · rw [hne i e]; exact (hL.ab i hi).1
  · exact ⟨by show upd H' 14 none 200 = _; rw [hne 200 (by omega)]; exact hL.dk.h, hL.dk.m, hL.dk.c⟩
  · exact hg.mv (hne 201 (by omega)) rfl
  · show upd H' 14 none j = none
    by_cases e : j = 14
    · rw [e, upd_same]
    · rw [hne j e, fr j (by omega) (by omega), upd_other _ _ e]; exact (hy.lo j hj).1
def FrS (ops : List OpW) (keep : List Bool) (y : SSt) : St := over [(0, .c (.d (.sl (opsD ops)))), (2, .c (.d (.sl (bools keep)))), (7, .c (.ptr 200 0)), (9, .c (.ptr 201 0)), (11, .c (.d (.sl (textsD y.sure)))), (12, .c (.own (202, 0) (textsD y.all))), (13, pD (.lit (.int .i64 y.i)))] [] y.H y.A
theorem SV.fin {ops : List OpW} {keep : List Bool} {S : St} {i i' k : Nat} {κc : Tok} {H' : HMap} {A' : AMap} {l : Lg} {d : Dk} {sure all : List (List UInt8)} (h : Wf (upd H' 14 none) A' ∧ SV ⟨i', k, κc, upd H' 14 none, A', l, d, sure, all⟩) (hi : i < i') (hS : S.H = H') (hA : S.A = A')
    (h11 : PV.wk (hOver [] (upd H' 14 none)) A' A' (.c (.d (.sl (textsD sure)))) (S.ρ 11)) (h12 : S.ρ 12 = .c (.own (202, 0) (textsD all)))
    (p0 : S.ρ 0 = .c (.d (.sl (opsD ops)))) (p2 : S.ρ 2 = .c (.d (.sl (bools keep)))) (p7 : S.ρ 7 = .c (.ptr 200 0)) (p9 : S.ρ 9 = .c (.ptr 201 0)) (p13 : S.ρ 13 = pD (.lit (.int .i64 i'))) :
    ∃ j : {y : SSt // SV y}, Weak noH noA S (FrS ops keep j.1) ∧ 40 - j.1.i < 40 - i := by
  obtain ⟨hw, hy⟩ := h
  subst hS; subst hA
  have hi2 := hy.hi
  refine ⟨⟨_, hy⟩, Weak_gen hw (fun j hj => ?_) (fun _ _ => rfl) (fun _ h => .inl h) ?_, by show 40 - i' < 40 - i; simp only at hi2; omega⟩
  · have hj' : upd S.H 14 none j ≠ none := hj
    have e : j ≠ 14 := fun e => hj' (by rw [e]; exact upd_same _ _ _)
    show S.H j = upd S.H 14 none j
    rw [upd_other _ _ e]
  · have w1 : upd S.H 14 none 200 ≠ none := by have := hy.L.dk.h; simp only at this; rw [this]; simp
    have w2 : upd S.H 14 none 201 ≠ none := by have := hy.g.h; simp only at this; rw [this]; simp
    have w3 : S.A (202, 0) ≠ none := by have := hy.a; simp only at this; rw [this]; simp
    refine ⟨?_, ?_, ?_, ?_, h11, ?_, ?_, True.intro⟩
    · rw [p0, wkP_d]; exact True.intro
    · rw [p2, wkP_d]; exact True.intro
    · rw [p7]; exact wkP_ptr w1
    · rw [p9]; exact wkP_ptr w2
    · rw [h12]; exact wkP_own w3 rfl
    · rw [p13]; unfold pD; rw [wkP_d]; exact True.intro
end sv
end Go.Proofs
