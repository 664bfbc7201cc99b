import Derived.Test.YtcdiifnnnnnceaaQ29

/-
  Versions: plain laws. Vacuum, Coalesce, Between.
-/

namespace Go.Proofs
open Go.PW

theorem vacuum_eq {l : List Ver} (h : vRight l = true) (n : Int) : vacuum l n = l.filter fun v => decide (n < v.sh) := by rw [vacuum, if_pos h]
theorem vacuum_right {l : List Ver} (h : vRight l = true) (n : Int) : vRight (vacuum l n) = true := by
  rw [vacuum_eq h]
  exact vRight_sublist List.filter_sublist h
theorem vacuum_at {l : List Ver} (h : vRight l = true) {n t : Int} (ht : n ≤ t) : vAt (vacuum l n) t = vAt l t := by
  refine vAt_ext (vacuum_right h n) h fun x => ?_
  rw [vacuum_eq h]
  constructor
  · rintro ⟨v, hv, k⟩
    exact ⟨v, (List.mem_filter.1 hv).1, k⟩
  · rintro ⟨v, hv, k⟩
    exact ⟨v, List.mem_filter.2 ⟨hv, by simp; omega⟩, k⟩
theorem vacuum_mem {l : List Ver} (h : vRight l = true) {n : Int} {v : Ver} (hv : v ∈ vacuum l n) : n < v.sh := by
  rw [vacuum_eq h] at hv
  simpa using (List.mem_filter.1 hv).2

/-! Coalesce. -/
def J (v w : Ver) : Prop := w.sh = v.sl ∧ w.p = v.p
theorem joins_iff {v w : Ver} : joins v w = true ↔ J v w := by
  unfold joins J
  rw [Bool.and_eq_true, beq_iff_eq, samePiece_iff]
theorem join_cases : ∀ (out : List Ver) (v : Ver), (join out v = none ∧ ∀ w ∈ out, ¬ J v w) ∨ ∃ a w b, out = a ++ w :: b ∧ J v w ∧ join out v = some (a ++ { w with sh := v.sh } :: b)
  | [], v => .inl ⟨rfl, fun w hw => by (cases hw)⟩
  | w :: r, v => by
    by_cases h : joins v w = true
    · exact .inr ⟨[], w, r, rfl, joins_iff.1 h, by rw [join, if_pos h]; rfl⟩
    · rcases join_cases r v with ⟨h1, h2⟩ | ⟨a, u, b, h1, h2, h3⟩
      · refine .inl ⟨by rw [join, if_neg h, h1]; rfl, fun u hu => ?_⟩
        rcases List.mem_cons.1 hu with rfl | hu
        · exact fun k => h (joins_iff.2 k)
        · exact h2 u hu
      · exact .inr ⟨w :: a, u, b, by rw [h1]; rfl, h2, by rw [join, if_neg h, h3]; rfl⟩
/-- No two that join. -/
def NJ (l : List Ver) : Prop := ∀ u ∈ l, ∀ w ∈ l, ¬ (u.sh = w.sl ∧ u.p = w.p)
def live (l : List Ver) (t : Int) (x : Piece) : Prop := ∃ v ∈ l, (v.sl ≤ t ∧ t < v.sh) ∧ x = v.p

theorem joinStep_keeps {out rest : List Ver} {v : Ver} (h : vRight (out ++ v :: rest) = true) (hj : NJ out) : vRight (joinStep out v ++ rest) = true ∧ (∀ t x, live (joinStep out v ++ rest) t x ↔ live (out ++ v :: rest) t x) ∧ NJ (joinStep out v) := by
  have hr := vRight_iff.1 h
  have hv := hr.1 v (by simp)
  have hov : ∀ u ∈ out, Apart2 u v ∧ Le u v := fun u hu => (List.pairwise_append.1 hr.2).2.2 u hu v List.mem_cons_self
  have hvr : ∀ u ∈ rest, Apart2 v u ∧ Le v u := fun u hu => (List.pairwise_cons.1 (List.pairwise_append.1 hr.2).2.1).1 u hu
  obtain ⟨hv0, hv1, hv2⟩ := hv.1
  simp only at hv0 hv1 hv2
  rcases join_cases out v with ⟨h1, h2⟩ | ⟨a, w, b, h1, h2, h3⟩
  · have e : joinStep out v = out ++ [v] := by unfold joinStep; rw [h1]; rfl
    rw [e]
    refine ⟨by rw [List.append_assoc]; exact h, fun t x => by rw [List.append_assoc]; exact Iff.rfl, fun u hu w hw k => ?_⟩
    rcases List.mem_append.1 hu with hu | hu
    · rcases List.mem_append.1 hw with hw | hw
      · exact hj u hu w hw k
      · rw [List.mem_singleton.1 hw] at k
        exact h2 u hu k
    · rw [List.mem_singleton.1 hu] at k
      rcases List.mem_append.1 hw with hw | hw
      · have := (hov w hw).2
        unfold Le at this
        omega
      · rw [List.mem_singleton.1 hw] at k
        omega
  · have e : joinStep out v = a ++ { w with sh := v.sh } :: b := by unfold joinStep joined; rw [h3]; rfl
    have hwo : w ∈ out := by rw [h1]; simp
    have hwk := hr.1 w (by rw [List.mem_append]; exact .inl hwo)
    obtain ⟨hw0, hw1, hw2⟩ := hwk.1
    simp only at hw0 hw1 hw2
    obtain ⟨j1, j2⟩ := h2
    rw [e]
    subst h1
    have hsub : (a ++ w :: (b ++ rest)).Sublist (a ++ w :: b ++ v :: rest) := by
      rw [List.append_assoc]
      refine List.Sublist.append_left ?_ a
      rw [List.cons_append]
      exact ((List.sublist_cons_self v rest).append_left b).cons_cons w
    have hp := hr.2.sublist hsub
    obtain ⟨p1, p2, p3⟩ := List.pairwise_append.1 hp
    obtain ⟨p4, p5⟩ := List.pairwise_cons.1 p2
    have hok : ∀ u ∈ a ++ w :: (b ++ rest), okP u := fun u hu => hr.1 u (hsub.subset hu)
    have hap : ∀ u, okP u → Apart2 u w → Apart2 u v → Apart2 u { w with sh := v.sh } := fun u hu k1 k2 => by
      obtain ⟨_, hu1, _⟩ := hu.1
      simp only at hu1
      unfold Apart2 at k1 k2 ⊢
      simp only
      rw [← j2] at k2
      omega
    have hbrv : ∀ y ∈ b ++ rest, Apart2 y v := fun y hy => by
      rcases List.mem_append.1 hy with hy | hy
      · exact (hov y (by simp [hy])).1
      · exact (hvr y hy).1.symm
    refine ⟨?_, fun t x => ?_, fun u hu z hz k => ?_⟩
    · rw [List.append_assoc, List.cons_append, vRight_iff]
      refine ⟨fun u hu => ?_, List.pairwise_append.2 ⟨p1, List.pairwise_cons.2 ⟨fun y hy => ?_, p5⟩, fun x hx y hy => ?_⟩⟩
      · rcases List.mem_append.1 hu with hu | hu
        · exact hok u (by simp [hu])
        · rcases List.mem_cons.1 hu with rfl | hu
          · exact ⟨⟨hw0, by show w.sl < v.sh; omega, hv2⟩, hwk.2⟩
          · exact hok u (by rw [List.mem_append, List.mem_cons]; exact .inr (.inr hu))
      · have hyo := hok y (by rw [List.mem_append, List.mem_cons]; exact .inr (.inr hy))
        exact ⟨(hap y hyo (p4 y hy).1.symm (hbrv y hy)).symm, (p4 y hy).2⟩
      · rcases List.mem_cons.1 hy with rfl | hy
        · have hxo := hok x (by simp [hx])
          have hxw := p3 x hx w List.mem_cons_self
          exact ⟨hap x hxo hxw.1 (hov x (by simp [hx])).1, hxw.2⟩
        · exact p3 x hx y (List.mem_cons_of_mem _ hy)
    · unfold live
      constructor
      · rintro ⟨u, hu, hh, rfl⟩
        rw [List.append_assoc, List.cons_append, List.mem_append, List.mem_cons, List.mem_append] at hu
        rcases hu with hu | rfl | hu | hu
        · exact ⟨u, by simp [hu], hh, rfl⟩
        · obtain ⟨k1, k2⟩ := hh
          simp only at k1 k2
          rcases Int.lt_or_le t w.sh with k | k
          · exact ⟨w, by simp, ⟨k1, k⟩, rfl⟩
          · exact ⟨v, by simp, ⟨by omega, k2⟩, j2⟩
        · exact ⟨u, by simp [hu], hh, rfl⟩
        · exact ⟨u, by simp [hu], hh, rfl⟩
      · rintro ⟨u, hu, hh, rfl⟩
        simp only [List.append_assoc, List.cons_append, List.mem_append, List.mem_cons] at hu
        rcases hu with hu | rfl | hu | rfl | hu
        · exact ⟨u, by simp [hu], hh, rfl⟩
        · exact ⟨{ u with sh := v.sh }, by simp, ⟨hh.1, by show t < v.sh; omega⟩, rfl⟩
        · exact ⟨u, by simp [hu], hh, rfl⟩
        · exact ⟨{ w with sh := u.sh }, by simp, ⟨by show w.sl ≤ t; omega, hh.2⟩, j2.symm⟩
        · exact ⟨u, by simp [hu], hh, rfl⟩
    · have hin : ∀ y, y ∈ a ++ { w with sh := v.sh } :: b → y = { w with sh := v.sh } ∨ y ∈ a ++ w :: b := fun y hy => by
        simp only [List.mem_append, List.mem_cons] at hy ⊢
        rcases hy with hy | hy | hy
        · exact .inr (.inl hy)
        · exact .inl hy
        · exact .inr (.inr (.inr hy))
      rcases hin u hu with rfl | hu'
      · rcases hin z hz with rfl | hz'
        · simp only at k; omega
        · have := (hov z hz').2
          unfold Le at this
          simp only at k
          omega
      · rcases hin z hz with rfl | hz'
        · exact hj u hu' w hwo k
        · exact hj u hu' z hz' k
theorem vCo_keeps : ∀ (rest out : List Ver), vRight (out ++ rest) = true → NJ out → vRight (rest.foldl joinStep out) = true ∧ (∀ t x, live (rest.foldl joinStep out) t x ↔ live (out ++ rest) t x) ∧ NJ (rest.foldl joinStep out)
  | [], out, h, hj => ⟨by rw [List.append_nil] at h; exact h, fun t x => by rw [List.append_nil]; exact Iff.rfl, hj⟩
  | v :: rest, out, h, hj => by
    obtain ⟨h1, h2, h3⟩ := joinStep_keeps h hj
    obtain ⟨k1, k2, k3⟩ := vCo_keeps rest (joinStep out v) h1 h3
    exact ⟨k1, fun t x => (k2 t x).trans (h2 t x), k3⟩
theorem vCoalesce_spec {l : List Ver} (h : vRight l = true) : vRight (vCoalesce l) = true ∧ (∀ t, vAt (vCoalesce l) t = vAt l t) ∧ NJ (vCoalesce l) := by
  rw [vCoalesce, if_pos h]
  obtain ⟨k1, k2, k3⟩ := vCo_keeps l [] h (fun u hu => by cases hu)
  exact ⟨k1, fun t => vAt_ext k1 h (k2 t), k3⟩
theorem joinStep_len (out : List Ver) (v : Ver) : (joinStep out v).length ≤ out.length + 1 := by
  unfold joinStep
  split
  · rw [(joined_length out v).1]; omega
  · simp
theorem vCo_len : ∀ (l out : List Ver), (l.foldl joinStep out).length ≤ out.length + l.length
  | [], out => by simp
  | v :: l, out => by
    have h1 := joinStep_len out v
    have h2 := vCo_len l (joinStep out v)
    rw [List.foldl_cons, List.length_cons]
    omega
theorem vCoalesce_length (l : List Ver) : (vCoalesce l).length ≤ l.length := by
  unfold vCoalesce
  split
  · have := vCo_len l []
    simpa [vCo] using this
  · exact Nat.le_refl _

/-! Between. -/
theorem vAt_const {l : List Ver} (h : vRight l = true) {t hi u : Int} (ht : t < hi) (h1 : t ≤ u) (h2 : u < vNext l t hi) : vAt l u = vAt l t := by
  obtain ⟨_, _, _, k⟩ := vNext_spec l ht
  refine vAt_ext h h fun x => ?_
  constructor
  · rintro ⟨v, hv, hh, rfl⟩
    obtain ⟨k1, k2⟩ := k v hv
    refine ⟨v, hv, ⟨?_, by omega⟩, rfl⟩
    rcases Int.lt_or_le t v.sl with hl | hl
    · have := k1 hl; omega
    · exact hl
  · rintro ⟨v, hv, hh, rfl⟩
    obtain ⟨k1, k2⟩ := k v hv
    refine ⟨v, hv, ⟨by omega, ?_⟩, rfl⟩
    have := k2 hh.2
    omega
structure BI (l : List Ver) (lo t : Int) (out : List TSt) : Prop where
  ok : ∀ w ∈ out, lo ≤ w.sl ∧ w.sl < w.sh ∧ w.sh ≤ t ∧ w.ps ≠ [] ∧ ∀ u, w.sl ≤ u → u < w.sh → coalesce (vAt l u) = w.ps
  cov : ∀ u, lo ≤ u → u < t → (∃ w ∈ out, w.sl ≤ u ∧ u < w.sh) ∨ coalesce (vAt l u) = []
  con : ∀ (i : Nat) (a b : TSt), out[i]? = some a → out[i + 1]? = some b → a.sh ≤ b.sl ∧ ¬ (a.sh = b.sl ∧ a.ps = b.ps)
theorem BI_step {l : List Ver} {lo t hi : Int} {out : List TSt} (hl : vRight l = true) (ht : t < hi) (h0 : lo ≤ t) (h : BI l lo t out) : BI l lo (vNext l t hi) (betwStep l t (vNext l t hi) out) := by
  obtain ⟨n1, _, _, _⟩ := vNext_spec l ht
  have hc : ∀ u, t ≤ u → u < vNext l t hi → coalesce (vAt l u) = coalesce (vAt l t) := fun u h1 h2 => by rw [vAt_const hl ht h1 h2]
  generalize vNext l t hi = n at *
  unfold betwStep
  generalize coalesce (vAt l t) = p at *
  split
  · rename_i hp
    have hp : p = [] := List.eq_nil_of_length_eq_zero hp
    refine ⟨fun w hw => ?_, fun u h1 h2 => ?_, h.con⟩
    · obtain ⟨a, b, c, d⟩ := h.ok w hw
      exact ⟨a, b, by omega, d⟩
    · rcases Int.lt_or_le u t with k | k
      · exact h.cov u h1 k
      · exact .inr (by rw [hc u k h2, hp])
  · rename_i hp
    have hp : p ≠ [] := fun e => hp (by rw [e]; rfl)
    split
    · rename_i hg
      unfold goesOn at hg
      cases hw : out[out.length - 1]? with
      | none => rw [hw] at hg; cases hg
      | some w =>
        rw [hw] at hg
        simp only [Bool.and_eq_true, beq_iff_eq, samePieces_iff] at hg
        obtain ⟨g1, g2⟩ := hg
        rw [lastTo_some hw]
        have hwm := List.mem_of_getElem? hw
        obtain ⟨a, b, c, d, e⟩ := h.ok w hwm
        have hpos : out.length - 1 < out.length := by
          rcases Nat.lt_or_ge (out.length - 1) out.length with k | k
          · exact k
          · rw [List.getElem?_eq_none k] at hw; cases hw
        refine ⟨fun z hz => ?_, fun u h1 h2 => ?_, fun i x y hx hy => ?_⟩
        · rcases List.mem_or_eq_of_mem_set hz with hz | rfl
          · obtain ⟨a, b, c, d⟩ := h.ok z hz
            exact ⟨a, b, by omega, d⟩
          · refine ⟨a, by show w.sl < n; omega, Int.le_refl _, d, fun u h1 h2 => ?_⟩
            simp only at h1 h2
            rcases Int.lt_or_le u w.sh with k | k
            · exact e u h1 k
            · rw [hc u (by omega) h2]; exact g2.symm
        · have hself : { w with sh := n } ∈ out.set (out.length - 1) { w with sh := n } := List.mem_set hpos _
          rcases Int.lt_or_le u t with k | k
          · rcases h.cov u h1 k with ⟨z, hz, hz1, hz2⟩ | k
            · obtain ⟨i, hi⟩ := List.getElem?_of_mem hz
              by_cases hil : i = out.length - 1
              · rw [hil, hw] at hi
                cases hi
                exact .inl ⟨_, hself, hz1, by show u < n; omega⟩
              · exact .inl ⟨z, List.mem_of_getElem? (i := i) (by rw [List.getElem?_set_ne (Ne.symm hil)]; exact hi), hz1, hz2⟩
            · exact .inr k
          · exact .inl ⟨_, hself, by show w.sl ≤ u; omega, h2⟩
        · have hi1 : i + 1 < out.length := by
            have := (List.getElem?_eq_some_iff.1 hy).1
            simpa using this
          rw [List.getElem?_set_ne (by omega)] at hx
          by_cases hil : i + 1 = out.length - 1
          · rw [hil, List.getElem?_set_self hpos] at hy
            cases hy
            exact h.con i x w hx (by rw [hil]; exact hw)
          · rw [List.getElem?_set_ne (by omega)] at hy
            exact h.con i x y hx hy
    · rename_i hg
      refine ⟨fun z hz => ?_, fun u h1 h2 => ?_, fun i x y hx hy => ?_⟩
      · rcases List.mem_append.1 hz with hz | hz
        · obtain ⟨a, b, c, d⟩ := h.ok z hz
          exact ⟨a, b, by omega, d⟩
        · rw [List.mem_singleton.1 hz]
          exact ⟨h0, n1, Int.le_refl _, hp, fun u h1 h2 => hc u h1 h2⟩
      · rcases Int.lt_or_le u t with k | k
        · rcases h.cov u h1 k with ⟨z, hz, hz1, hz2⟩ | k
          · exact .inl ⟨z, by simp [hz], hz1, hz2⟩
          · exact .inr k
        · exact .inl ⟨⟨t, n, p⟩, by simp, k, h2⟩
      · have hi1 : i + 1 < out.length + 1 := by
          have := (List.getElem?_eq_some_iff.1 hy).1
          simpa using this
        rw [List.getElem?_append_left (by omega)] at hx
        by_cases hil : i + 1 = out.length
        · rw [hil, List.getElem?_append_right (Nat.le_refl _), Nat.sub_self] at hy
          cases hy
          have hxm := h.ok x (List.mem_of_getElem? hx)
          refine ⟨by show x.sh ≤ t; exact hxm.2.2.1, fun k => hg ?_⟩
          rw [goesOn_some (w := x) (by rw [show out.length - 1 = i by omega]; exact hx), Bool.and_eq_true, beq_iff_eq, samePieces_iff]
          exact k
        · rw [List.getElem?_append_left (by omega)] at hy
          exact h.con i x y hx hy
theorem betw_spec {l : List Ver} {lo hi : Int} (hl : vRight l = true) : ∀ (n : Nat) (t : Int) (out : List TSt), left l hi t ≤ n → lo ≤ t → t ≤ hi → BI l lo t out → BI l lo hi (betw l hi t out)
  | n, t, out, hn, h0, ht, h => by
    by_cases hlt : t < hi
    · have hll := left_lt (l := l) hlt
      obtain ⟨n1, n2, _, _⟩ := vNext_spec l hlt
      cases n with
      | zero => omega
      | succ n =>
        rw [betw_go hlt]
        exact betw_spec hl n (vNext l t hi) _ (by omega) (by omega) n2 (BI_step hl hlt h0 h)
    · rw [betw_end hlt, show hi = t by omega]
      exact h
theorem vBetween_spec {l : List Ver} {lo hi : Int} (hl : vRight l = true) (hs : Span.right lo hi = true) : BI l lo hi (vBetween l lo hi) := by
  rw [vBetween, if_pos hl, if_pos hs]
  rw [spanRight_iff] at hs
  exact betw_spec hl _ lo [] (Nat.le_refl _) (Int.le_refl _) (by omega) ⟨fun w hw => (by cases hw), fun u h1 h2 => by omega, fun i a b h => by simp at h⟩
end Go.Proofs
