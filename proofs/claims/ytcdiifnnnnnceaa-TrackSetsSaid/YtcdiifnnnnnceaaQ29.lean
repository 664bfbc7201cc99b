import Derived.Test.YtcdiifnnnnnceaaQ28
import Derived.Test.YtcdiifnnnnnceaaQ16

/-
  Versions: plain laws. What right versions are; what the key had.
-/


namespace Go.Proofs
open Go.PW

def okP (v : Ver) : Prop := SpOK (v.sl, v.sh) ∧ OK v.p
/-- Not at once. -/
def Apart2 (v w : Ver) : Prop := (v.sh ≤ w.sl ∨ w.sh ≤ v.sl) ∨ (v.p.hi ≤ w.p.lo ∨ w.p.hi ≤ v.p.lo)
theorem Apart2.symm {v w : Ver} (h : Apart2 v w) : Apart2 w v := by unfold Apart2 at h ⊢; omega
/-- In order. -/
def Le (v w : Ver) : Prop := v.sl < w.sl ∨ (v.sl = w.sl ∧ v.p.lo ≤ w.p.lo)
theorem Le.trans {u v w : Ver} (h : Le u v) (h' : Le v w) : Le u w := by unfold Le at *; omega
theorem ahead_iff {v w : Ver} : ahead' v w = true ↔ ¬ Le w v := by
  unfold ahead' Le
  split
  · rename_i h
    have h : v.sl = w.sl := by simpa using h
    rw [decide_eq_true_eq]
    omega
  · rename_i h
    have h : v.sl ≠ w.sl := by simpa using h
    rw [decide_eq_true_eq]
    omega
theorem not_ahead {v w : Ver} : ahead' v w = false ↔ Le w v := by
  rw [← Bool.not_eq_true, ahead_iff, Classical.not_not]

theorem right_one {p : Piece} : right [p] = true ↔ OK p := by
  rw [right_iff]
  simp
theorem okV_iff {v : Ver} : okV v = true ↔ okP v := by
  unfold okV okP
  rw [Bool.and_eq_true, spanRight_iff, right_one]
  exact Iff.rfl
theorem meet_isSome {a b : Sp} (ha : SpOK a) (hb : SpOK b) : (meet a b).isSome = true ↔ a.1 < b.2 ∧ b.1 < a.2 := by
  obtain ⟨h1, h2, h3⟩ := ha
  obtain ⟨k1, k2, k3⟩ := hb
  unfold meet
  rw [spanRight_iff.2 ⟨h1, h2, h3⟩, spanRight_iff.2 ⟨k1, k2, k3⟩]
  simp only [Bool.true_and]
  cases e : Span.right (iMax a.1 b.1) (iMin a.2 b.2) with
  | true =>
    rw [spanRight_iff] at e
    unfold iMax iMin at e
    simp only [if_true, Option.isSome_some, true_iff]
    split at e <;> split at e <;> omega
  | false =>
    simp only [Bool.false_eq_true, if_false, Option.isSome_none, false_iff]
    intro h
    have : Span.right (iMax a.1 b.1) (iMin a.2 b.2) = true := by
      rw [spanRight_iff]
      unfold iMax iMin
      split <;> split <;> omega
    rw [this] at e
    cases e
theorem clash_iff {v w : Ver} (hv : okP v) (hw : okP w) : clash v w = false ↔ Apart2 v w := by
  have h1 := meet_isSome hv.1 hw.1
  have h2 := meet_isSome (a := (v.p.lo, v.p.hi)) (b := (w.p.lo, w.p.hi)) hv.2.1 hw.2.1
  rw [← Bool.not_eq_true, clash, Bool.and_eq_true, h1, h2]
  unfold Apart2
  simp only
  omega

theorem vRightFrom_iff : ∀ {l prev : List Ver}, (∀ w ∈ prev, okP w) → (vRightFrom prev l = true ↔ (∀ v ∈ l, okP v) ∧ (∀ w ∈ prev, ∀ v ∈ l, Apart2 w v) ∧ (∀ w, prev.getLast? = some w → ∀ v ∈ l, Le w v) ∧ l.Pairwise fun v w => Apart2 v w ∧ Le v w)
  | [], prev, _ => by simp [vRightFrom]
  | v :: r, prev, hp => by
    rw [vRightFrom, Bool.and_eq_true, vStep, Bool.and_eq_true, Bool.and_eq_true, okV_iff, List.all_eq_true, List.pairwise_cons]
    have hna : notAhead prev v = true ↔ ∀ w, prev.getLast? = some w → Le w v := by
      unfold notAhead
      cases prev.getLast? with
      | none => simp
      | some w => simp [not_ahead]
    rw [hna]
    constructor
    · rintro ⟨⟨⟨h1, h2⟩, h3⟩, h4⟩
      have hp' : ∀ w ∈ prev ++ [v], okP w := fun w hw => by
        rcases List.mem_append.1 hw with hw | hw
        · exact hp w hw
        · rw [List.mem_singleton.1 hw]; exact h1
      obtain ⟨k1, k2, k3, k4⟩ := (vRightFrom_iff hp').1 h4
      have hap : ∀ w ∈ prev, Apart2 w v := fun w hw => ((clash_iff h1 (hp w hw)).1 (by simpa using h3 w hw)).symm
      have hle : ∀ u ∈ r, Le v u := fun u hu => k3 v (by simp) u hu
      refine ⟨fun u hu => ?_, fun w hw u hu => ?_, fun w hw u hu => ?_, fun u hu => ⟨k2 v (by simp) u hu, hle u hu⟩, k4⟩
      · rcases List.mem_cons.1 hu with rfl | hu
        · exact h1
        · exact k1 u hu
      · rcases List.mem_cons.1 hu with rfl | hu
        · exact hap w hw
        · exact k2 w (by simp [hw]) u hu
      · rcases List.mem_cons.1 hu with rfl | hu
        · exact h2 w hw
        · exact (h2 w hw).trans (hle u hu)
    · rintro ⟨h1, h2, h3, h4, h5⟩
      have hv := h1 v List.mem_cons_self
      have hp' : ∀ w ∈ prev ++ [v], okP w := fun w hw => by
        rcases List.mem_append.1 hw with hw | hw
        · exact hp w hw
        · rw [List.mem_singleton.1 hw]; exact hv
      refine ⟨⟨⟨hv, fun w hw => h3 w hw v List.mem_cons_self⟩, fun w hw => ?_⟩, (vRightFrom_iff hp').2 ⟨fun u hu => h1 u (List.mem_cons_of_mem _ hu), fun w hw u hu => ?_, fun w hw u hu => ?_, h5⟩⟩
      · rw [(clash_iff hv (hp w hw)).2 (h2 w hw v List.mem_cons_self).symm]; rfl
      · rcases List.mem_append.1 hw with hw | hw
        · exact h2 w hw u (List.mem_cons_of_mem _ hu)
        · rw [List.mem_singleton.1 hw]; exact (h4 u hu).1
      · rw [List.getLast?_append] at hw
        simp at hw
        rw [← hw]
        exact (h4 u hu).2
theorem vRight_iff {l : List Ver} : vRight l = true ↔ (∀ v ∈ l, okP v) ∧ l.Pairwise fun v w => Apart2 v w ∧ Le v w := by
  rw [vRight, vRightFrom_iff (fun w hw => by cases hw)]
  constructor
  · rintro ⟨h1, _, _, h4⟩
    exact ⟨h1, h4⟩
  · rintro ⟨h1, h4⟩
    exact ⟨h1, fun w hw => (by cases hw), fun w hw => (by cases hw), h4⟩
theorem vRight_sublist {l m : List Ver} (h : m.Sublist l) (hr : vRight l = true) : vRight m = true := by
  rw [vRight_iff] at hr ⊢
  exact ⟨fun v hv => hr.1 v (h.subset hv), hr.2.sublist h⟩
theorem Ver.ext' {v w : Ver} (h1 : v.sl = w.sl) (h2 : v.sh = w.sh) (h3 : v.p = w.p) : v = w := by
  cases v; cases w; simp at h1 h2 h3; rw [h1, h2, h3]
/-- Two that are apart are not one. -/
theorem Apart2.ne {v w : Ver} (hv : okP v) (h : Apart2 v w) : v ≠ w := fun e => by
  subst e
  obtain ⟨⟨_, h2, _⟩, ⟨_, h5, _⟩, _⟩ := hv
  simp only at h2
  unfold Apart2 at h
  omega
theorem vRight_ext : ∀ {a b : List Ver}, vRight a = true → vRight b = true → (∀ x, x ∈ a ↔ x ∈ b) → a = b
  | [], [], _, _, _ => rfl
  | [], y :: _, _, _, h => absurd ((h y).2 List.mem_cons_self) (by simp)
  | x :: _, [], _, _, h => absurd ((h x).1 List.mem_cons_self) (by simp)
  | x :: a, y :: b, ha, hb, h => by
    obtain ⟨a1, a2⟩ := vRight_iff.1 ha
    obtain ⟨b1, b2⟩ := vRight_iff.1 hb
    have a3 := List.pairwise_cons.1 a2
    have b3 := List.pairwise_cons.1 b2
    have hxy : x = y := by
      rcases List.mem_cons.1 ((h x).1 List.mem_cons_self) with e | hx
      · exact e
      rcases List.mem_cons.1 ((h y).2 List.mem_cons_self) with e | hy
      · exact e.symm
      have k1 := (b3.1 x hx)
      have k2 := (a3.1 y hy)
      exfalso
      obtain ⟨⟨_, hx2, _⟩, ⟨_, hx5, _⟩, _⟩ := a1 x List.mem_cons_self
      obtain ⟨⟨_, hy2, _⟩, ⟨_, hy5, _⟩, _⟩ := b1 y List.mem_cons_self
      simp only at hx2 hy2
      unfold Apart2 Le at k1 k2
      omega
    subst hxy
    congr 1
    refine vRight_ext (vRight_sublist (List.sublist_cons_self _ _) ha) (vRight_sublist (List.sublist_cons_self _ _) hb) fun z => ?_
    constructor
    · intro hz
      rcases List.mem_cons.1 ((h z).1 (List.mem_cons_of_mem _ hz)) with e | hz'
      · exact absurd e.symm ((a3.1 z hz).1.ne (a1 x List.mem_cons_self))
      · exact hz'
    · intro hz
      rcases List.mem_cons.1 ((h z).2 (List.mem_cons_of_mem _ hz)) with e | hz'
      · exact absurd e.symm ((b3.1 z hz).1.ne (b1 x List.mem_cons_self))
      · exact hz'

/-! What the key had. -/
theorem has_spOK {a b t : Int} (h : SpOK (a, b)) : Span.has a b t = true ↔ a ≤ t ∧ t < b := by
  unfold Span.has
  rw [spanRight_iff.2 h]
  simp
theorem take_while {α : Type} (f : α → Bool) (l : List α) : l.take (l.takeWhile f).length = l.takeWhile f ∧ l.drop (l.takeWhile f).length = l.dropWhile f := by
  have e := List.takeWhile_append_dropWhile (p := f) (l := l)
  constructor
  · conv => lhs; rw [← e]
    rw [List.takeWhile_append_dropWhile]
    exact (by
      have : ∀ (a b : List α), (a ++ b).take a.length = a := fun a b => List.take_left
      have h := this (l.takeWhile f) (l.dropWhile f)
      rwa [e] at h)
  · have : ∀ (a b : List α), (a ++ b).drop a.length = b := fun a b => List.drop_left
    have h := this (l.takeWhile f) (l.dropWhile f)
    rwa [e] at h

theorem tw_mem {α : Type} {f : α → Bool} : ∀ {l : List α} {x : α}, x ∈ l.takeWhile f → f x = true
  | a :: l, x, h => by
    rw [List.takeWhile_cons] at h
    split at h
    · rename_i ha
      rcases List.mem_cons.1 h with rfl | h
      · exact ha
      · exact tw_mem h
    · cases h
def putV (out : List Piece) (v : Ver) : List Piece := putP out (v.p.lo, v.p.hi) v.p.row
/-- All apart from one. -/
def Off (out : List Piece) (p : Piece) : Prop := ∀ x ∈ out, x.hi ≤ p.lo ∨ p.hi ≤ x.lo
theorem insP_eq {out : List Piece} {v : Ver} (h : right out = true) (hv : OK v.p) (ha : Off out v.p) : insP out v = putV out v := by
  have hp : puts (v.p.lo, v.p.hi) v.p.row = true := by unfold puts; rw [spanRight_iff.2 hv.1, hv.2]; rfl
  obtain ⟨h1, h2⟩ := right_iff.1 h
  have hs := rests_same (s := (v.p.lo, v.p.hi)) hv.1 (q := out) (fun x hx => ⟨h1 x hx, ha x hx⟩)
  have hs : rests (v.p.lo, v.p.hi) out = out := hs
  rw [putV, putP_yes h hp, hs, insert']
  obtain ⟨e1, e2⟩ := take_while (Go.Proofs.ahead (v.p.lo, v.p.hi)) out
  rw [← e1, ← e2]
  have hbad : ∀ x ∈ out.takeWhile (Go.Proofs.ahead (v.p.lo, v.p.hi)), x.lo < v.p.lo := fun x hx => by
    have := tw_mem hx
    simpa [Go.Proofs.ahead] using this
  have hgood : ∀ x ∈ out.dropWhile (Go.Proofs.ahead (v.p.lo, v.p.hi)), v.p.lo < x.lo := by
    have hsub : (out.dropWhile (Go.Proofs.ahead (v.p.lo, v.p.hi))).Sublist out := List.dropWhile_sublist _
    have hpw := h2.sublist hsub
    have hmem : ∀ x ∈ out.dropWhile (Go.Proofs.ahead (v.p.lo, v.p.hi)), x ∈ out := fun x hx => hsub.subset hx
    cases hd : out.dropWhile (Go.Proofs.ahead (v.p.lo, v.p.hi)) with
    | nil => intro x hx; cases hx
    | cons y r =>
      rw [hd] at hpw hmem
      have hy : ¬ y.lo < v.p.lo := by
        have := List.head_dropWhile_not (Go.Proofs.ahead (v.p.lo, v.p.hi)) (l := out) (by rw [hd]; simp)
        simp only [hd, List.head_cons] at this
        simpa [Go.Proofs.ahead] using this
      have hyo := h1 y (hmem y List.mem_cons_self)
      have hya := ha y (hmem y List.mem_cons_self)
      obtain ⟨⟨_, hv2, _⟩, _⟩ := hv
      obtain ⟨⟨_, hy2, _⟩, _⟩ := hyo
      intro x hx
      rcases List.mem_cons.1 hx with rfl | hx
      · omega
      · have hle := (List.pairwise_cons.1 hpw).1 x hx
        omega
  generalize hn : (out.takeWhile (Go.Proofs.ahead (v.p.lo, v.p.hi))).length = n at *
  have hnl : n ≤ out.length := by rw [← hn]; exact (List.takeWhile_sublist _).length_le
  refine back_stop hnl ?_ ?_
  · rw [e2, List.all_eq_true]
    intro x hx
    have := hgood x hx
    simpa [gtP] using this
  · intro y h0 hy
    have : y ∈ out.takeWhile (Go.Proofs.ahead (v.p.lo, v.p.hi)) := by
      rw [← e1]
      exact List.mem_of_getElem? (i := n - 1) (by rw [List.getElem?_take, if_pos (by omega)]; exact hy)
    have := hbad y this
    simp [gtP]
    omega
theorem putV_right {out : List Piece} {v : Ver} (h : right out = true) : right (putV out v) = true := putP_right h
theorem insP_mem1 {out : List Piece} {v : Ver} {x : Piece} : x ∈ insP out v ↔ x = v.p ∨ x ∈ out := mem_insBack

/-- Those that are at a time are apart. -/
theorem live_apart {l : List Ver} {t : Int} (h : vRight l = true) : (l.filter fun v => Span.has v.sl v.sh t).Pairwise fun v w => v.p.hi ≤ w.p.lo ∨ w.p.hi ≤ v.p.lo := by
  obtain ⟨h1, h2⟩ := vRight_iff.1 h
  have hp := h2.sublist (List.filter_sublist (p := fun v => Span.has v.sl v.sh t))
  refine hp.imp_of_mem fun {v w} hv hw k => ?_
  obtain ⟨hv1, hv2⟩ := List.mem_filter.1 hv
  obtain ⟨hw1, hw2⟩ := List.mem_filter.1 hw
  rw [has_spOK (h1 v hv1).1] at hv2
  rw [has_spOK (h1 w hw1).1] at hw2
  rcases k.1 with k | k
  · omega
  · exact k

theorem insP_fold : ∀ (m : List Ver) (out : List Piece), (∀ v ∈ m, OK v.p) → m.Pairwise (fun v w => v.p.hi ≤ w.p.lo ∨ w.p.hi ≤ v.p.lo) → right out = true → (∀ v ∈ m, Off out v.p) →
    m.foldl insP out = m.foldl putV out ∧ right (m.foldl insP out) = true ∧ ∀ x, x ∈ m.foldl insP out ↔ x ∈ out ∨ ∃ v ∈ m, x = v.p
  | [], out, _, _, hr, _ => ⟨rfl, hr, fun x => by simp⟩
  | v :: m, out, ho, hp, hr, ha => by
    have hv := ho v List.mem_cons_self
    have e := insP_eq hr hv (ha v List.mem_cons_self)
    have hp' := List.pairwise_cons.1 hp
    obtain ⟨k1, k2, k3⟩ := insP_fold m (insP out v) (fun w hw => ho w (List.mem_cons_of_mem _ hw)) hp'.2 (by rw [e]; exact putV_right hr) (fun w hw x hx => by
      rcases insP_mem1.1 hx with rfl | hx
      · exact hp'.1 w hw
      · exact ha w (List.mem_cons_of_mem _ hw) x hx)
    refine ⟨by rw [List.foldl_cons, List.foldl_cons, k1, e], k2, fun x => ?_⟩
    rw [List.foldl_cons, k3 x, insP_mem1]
    constructor
    · rintro ((h | h) | ⟨w, hw, h⟩)
      · exact .inr ⟨v, List.mem_cons_self, h⟩
      · exact .inl h
      · exact .inr ⟨w, List.mem_cons_of_mem _ hw, h⟩
    · rintro (h | ⟨w, hw, h⟩)
      · exact .inl (.inr h)
      · rcases List.mem_cons.1 hw with rfl | hw
        · exact .inl (.inl h)
        · exact .inr ⟨w, hw, h⟩

theorem vAt_spec {l : List Ver} (h : vRight l = true) (t : Int) : vAt l t = (l.filter fun v => Span.has v.sl v.sh t).foldl putV [] ∧ right (vAt l t) = true ∧ ∀ x, x ∈ vAt l t ↔ ∃ v ∈ l, (v.sl ≤ t ∧ t < v.sh) ∧ x = v.p := by
  obtain ⟨h1, _⟩ := vRight_iff.1 h
  obtain ⟨k1, k2, k3⟩ := insP_fold (l.filter fun v => Span.has v.sl v.sh t) [] (fun v hv => (h1 v (List.mem_filter.1 hv).1).2) (live_apart h) rfl (fun v _ x hx => by cases hx)
  have e : vAt l t = (l.filter fun v => Span.has v.sl v.sh t).foldl insP [] := by rw [vAt, if_pos h]
  rw [e]
  refine ⟨k1, k2, fun x => ?_⟩
  rw [k3 x]
  constructor
  · rintro (h | ⟨v, hv, rfl⟩)
    · cases h
    · obtain ⟨hv1, hv2⟩ := List.mem_filter.1 hv
      exact ⟨v, hv1, (has_spOK (h1 v hv1).1).1 hv2, rfl⟩
  · rintro ⟨v, hv, hh, rfl⟩
    exact .inr ⟨v, List.mem_filter.2 ⟨hv, (has_spOK (h1 v hv).1).2 hh⟩, rfl⟩
theorem vAt_right (l : List Ver) (t : Int) : right (vAt l t) = true := by
  cases h : vRight l with
  | true => exact (vAt_spec h t).2.1
  | false => rw [vAt, h]; rfl
theorem vAt_ext {l m : List Ver} {t u : Int} (hl : vRight l = true) (hm : vRight m = true) (h : ∀ x, (∃ v ∈ l, (v.sl ≤ t ∧ t < v.sh) ∧ x = v.p) ↔ ∃ v ∈ m, (v.sl ≤ u ∧ u < v.sh) ∧ x = v.p) : vAt l t = vAt m u :=
  right_ext (vAt_right l t) (vAt_right m u) fun x => by rw [(vAt_spec hl t).2.2, (vAt_spec hm u).2.2]; exact h x
end Go.Proofs

/-
  Versions: plain laws. What comes of Set.
-/

namespace Go.Proofs
open Go.PW

theorem insBack_perm {α : Type} (gt : α → Bool) (l : List α) (x : α) : (insBack gt l x).Perm (x :: l) := by
  have e := List.takeWhile_append_dropWhile (p := gt) (l := l.reverse)
  have e2 : l = (l.reverse.dropWhile gt).reverse ++ (l.reverse.takeWhile gt).reverse := by
    rw [← List.reverse_append, e, List.reverse_reverse]
  unfold insBack
  conv => rhs; rw [e2]
  exact List.perm_middle
theorem rise1_sorted {l : List Ver} {v : Ver} (h : l.Pairwise Le) : (rise1 l v).Pairwise Le := by
  have e := List.takeWhile_append_dropWhile (p := ahead' v) (l := l.reverse)
  have e2 : l = (l.reverse.dropWhile (ahead' v)).reverse ++ (l.reverse.takeWhile (ahead' v)).reverse := by
    rw [← List.reverse_append, e, List.reverse_reverse]
  have hb : ∀ y ∈ (l.reverse.takeWhile (ahead' v)).reverse, Le v y := fun y hy => by
    have := tw_mem (List.mem_reverse.1 hy)
    rw [ahead_iff] at this
    unfold Le at this ⊢
    omega
  rw [e2] at h
  obtain ⟨h1, h2, h3⟩ := List.pairwise_append.1 h
  have ha : ∀ y ∈ (l.reverse.dropWhile (ahead' v)).reverse, Le y v := by
    cases hd : l.reverse.dropWhile (ahead' v) with
    | nil => intro y hy; cases hy
    | cons z r =>
      have hz : ahead' v z = false := by
        have := List.head_dropWhile_not (ahead' v) (l := l.reverse) (by rw [hd]; simp)
        simpa only [hd, List.head_cons] using this
      rw [not_ahead] at hz
      rw [hd, List.reverse_cons] at h1
      have k := (List.pairwise_append.1 h1).2.2
      intro y hy
      rw [List.reverse_cons] at hy
      rcases List.mem_append.1 hy with hy | hy
      · exact (k y hy z (by simp)).trans hz
      · rw [List.mem_singleton.1 hy]; exact hz
  show (insBack (fun y => ahead' v y) l v).Pairwise Le
  unfold insBack
  refine List.pairwise_append.2 ⟨h1, List.pairwise_cons.2 ⟨hb, h2⟩, fun a ha' b hb' => ?_⟩
  rcases List.mem_cons.1 hb' with rfl | hb'
  · exact ha a ha'
  · exact (ha a ha').trans (hb b hb')
theorem rise_fold : ∀ (l out : List Ver), out.Pairwise Le → (l.foldl rise1 out).Perm (out ++ l) ∧ (l.foldl rise1 out).Pairwise Le
  | [], out, h => ⟨by rw [List.append_nil]; exact List.Perm.refl _, h⟩
  | v :: l, out, h => by
    obtain ⟨k1, k2⟩ := rise_fold l (rise1 out v) (rise1_sorted h)
    refine ⟨k1.trans ?_, k2⟩
    refine ((insBack_perm _ out v).append_right l).trans ?_
    rw [List.cons_append]
    exact List.perm_middle.symm
theorem rise_spec (l : List Ver) : (rise l).Perm l ∧ (rise l).Pairwise Le := rise_fold l [] List.Pairwise.nil
theorem rise_right {l : List Ver} (h1 : ∀ v ∈ l, okP v) (h2 : l.Pairwise Apart2) : vRight (rise l) = true := by
  obtain ⟨k1, k2⟩ := rise_spec l
  rw [vRight_iff]
  exact ⟨fun v hv => h1 v (k1.mem_iff.1 hv), ((k1.pairwise_iff (fun h => h.symm)).2 h2).and k2⟩
theorem rise_mem {l : List Ver} {x : Ver} : x ∈ rise l ↔ x ∈ l := (rise_spec l).1.mem_iff

/-! The last change. -/
theorem iMax_eq (a b : Int) : iMax a b = max a b := by unfold iMax; split <;> omega
theorem last_fold : ∀ (l : List Ver) (t : Int), t ≤ l.foldl lastStep t ∧ (∀ v ∈ l, v.sl ≤ l.foldl lastStep t ∧ (v.sh ≠ 1099511627776 → v.sh ≤ l.foldl lastStep t)) ∧ (l.foldl lastStep t = t ∨ ∃ v ∈ l, l.foldl lastStep t = v.sl ∨ (v.sh ≠ 1099511627776 ∧ l.foldl lastStep t = v.sh))
  | [], t => ⟨Int.le_refl _, fun v hv => by (cases hv), .inl rfl⟩
  | v :: l, t => by
    obtain ⟨k1, k2, k3⟩ := last_fold l (lastStep t v)
    rw [List.foldl_cons]
    have hs : lastStep t v = if v.sh = 1099511627776 then max t v.sl else max (max t v.sl) v.sh := by
      unfold lastStep Ver.open'
      by_cases h : v.sh = 1099511627776 <;> simp [h, iMax_eq]
    generalize l.foldl lastStep (lastStep t v) = n at *
    refine ⟨?_, fun w hw => ?_, ?_⟩
    · rw [hs] at k1; split at k1 <;> omega
    · rcases List.mem_cons.1 hw with rfl | hw
      · rw [hs] at k1; split at k1 <;> omega
      · exact k2 w hw
    · rcases k3 with k3 | ⟨w, hw, k3⟩
      · rw [hs] at k3
        split at k3
        · rcases Int.le_total t v.sl with h | h
          · exact .inr ⟨v, List.mem_cons_self, .inl (by omega)⟩
          · exact .inl (by omega)
        · rename_i hne
          rcases Int.le_total (max t v.sl) v.sh with h | h
          · exact .inr ⟨v, List.mem_cons_self, .inr ⟨hne, by omega⟩⟩
          · rcases Int.le_total t v.sl with h | h
            · exact .inr ⟨v, List.mem_cons_self, .inl (by omega)⟩
            · exact .inl (by omega)
      · exact .inr ⟨w, List.mem_cons_of_mem _ hw, k3⟩
theorem vLast_spec {l : List Ver} (h : vRight l = true) : 0 ≤ vLast l ∧ (∀ v ∈ l, v.sl ≤ vLast l ∧ (v.sh ≠ 1099511627776 → v.sh ≤ vLast l)) ∧ (vLast l = 0 ∨ ∃ v ∈ l, vLast l = v.sl ∨ (v.sh ≠ 1099511627776 ∧ vLast l = v.sh)) := by
  rw [vLast, if_pos h]
  exact last_fold l 0

/-! Set. -/
theorem old_iff {l : List Ver} (h : vRight l = true) {x : Piece} : x ∈ vAt l 1099511627775 ↔ ∃ v ∈ l, v.sh = 1099511627776 ∧ x = v.p := by
  rw [(vAt_spec h _).2.2]
  have hs := fun v hv => ((vRight_iff.1 h).1 v hv).1
  constructor
  · rintro ⟨v, hv, hh, e⟩
    obtain ⟨_, _, h3⟩ := hs v hv
    simp only at h3
    exact ⟨v, hv, by omega, e⟩
  · rintro ⟨v, hv, hh, e⟩
    obtain ⟨_, h2, h3⟩ := hs v hv
    simp only at h2 h3
    exact ⟨v, hv, by omega, e⟩
theorem diff_eq {a b : List Piece} (ha : right a = true) (hb : right b = true) : diff a b = (without a b, without b a) := by
  unfold diff; rw [ha, hb]; rfl
theorem ends_iff {l : List Ver} (h : vRight l = true) {p : List Piece} {v : Ver} (hv : v ∈ l) : vEnds (without (vAt l 1099511627775) p) v = true ↔ v.sh = 1099511627776 ∧ v.p ∉ p := by
  unfold vEnds Ver.open'
  rw [Bool.and_eq_true, isIn_iff, without_mem, beq_iff_eq, old_iff h]
  constructor
  · rintro ⟨h1, _, h3⟩; exact ⟨h1, h3⟩
  · rintro ⟨h1, h3⟩; exact ⟨h1, ⟨v, hv, h1, rfl⟩, h3⟩

theorem pairwise_two {α : Type} {R : α → α → Prop} : ∀ {l : List α} {x y : α}, l.Pairwise R → x ∈ l → y ∈ l → x ≠ y → R x y ∨ R y x
  | a :: l, x, y, h, hx, hy, hne => by
    obtain ⟨h1, h2⟩ := List.pairwise_cons.1 h
    rcases List.mem_cons.1 hx with e | hx'
    · rcases List.mem_cons.1 hy with e' | hy'
      · exact absurd (e.trans e'.symm) hne
      · rw [e]; exact .inl (h1 y hy')
    · rcases List.mem_cons.1 hy with e' | hy'
      · rw [e']; exact .inr (h1 x hx')
      · exact pairwise_two h2 hx' hy' hne

structure Sets (l : List Ver) (t : Int) (p : List Piece) : Prop where
  hl : vRight l = true
  hp : right p = true
  ht : vLast l ≤ t
  hm : t < 1099511627776
theorem sets_iff {l : List Ver} {t : Int} {p : List Piece} : vSetOK l t p = true ↔ Sets l t p := by
  unfold vSetOK
  constructor
  · intro h
    simp only [Bool.and_eq_true, Bool.not_eq_true', decide_eq_false_iff_not] at h
    exact ⟨h.1.1.1, h.1.1.2, by omega, by omega⟩
  · rintro ⟨h1, h2, h3, h4⟩
    simp only [Bool.and_eq_true, Bool.not_eq_true', decide_eq_false_iff_not]
    exact ⟨⟨⟨h1, h2⟩, by omega⟩, by omega⟩

def gone (l : List Ver) (p : List Piece) : List Piece := without (vAt l 1099511627775) p
def come (l : List Ver) (p : List Piece) : List Piece := without p (vAt l 1099511627775)
def midOf (l : List Ver) (t : Int) (p : List Piece) : List Ver := vMid (gone l p) t (vKept l (gone l p) t) (come l p)
theorem vSetOf_eq {l : List Ver} {t : Int} {p : List Piece} (h : Sets l t p) : vSetOf l t p = rise (midOf l t p) := by
  unfold vSetOf
  rw [diff_eq (vAt_right _ _) h.hp]
  rfl
theorem vCut_keep {q : List Piece} {t : Int} {v : Ver} : (vCut q t v).sl = v.sl ∧ (vCut q t v).p = v.p := by
  unfold vCut; split <;> exact ⟨rfl, rfl⟩
theorem mid_iff {l : List Ver} {t : Int} {p : List Piece} (h : Sets l t p) {x : Ver} : x ∈ midOf l t p ↔
    (∃ v ∈ l, ¬ (v.sh = 1099511627776 ∧ v.p ∉ p) ∧ x = v) ∨ (∃ v ∈ l, (v.sh = 1099511627776 ∧ v.p ∉ p) ∧ v.sl < t ∧ x = { v with sh := t }) ∨ ∃ c ∈ p, c ∉ vAt l 1099511627775 ∧ x = ⟨t, 1099511627776, c⟩ := by
  unfold midOf vMid
  rw [List.mem_append, List.mem_map, List.mem_map]
  constructor
  · rintro (⟨v, hv, rfl⟩ | ⟨c, hc, rfl⟩)
    · obtain ⟨hv1, hv2⟩ := List.mem_filter.1 hv
      cases he : vEnds (gone l p) v with
      | true =>
        have hi := (ends_iff h.hl hv1).1 he
        rw [he] at hv2
        simp at hv2
        refine .inr (.inl ⟨v, hv1, hi, hv2, ?_⟩)
        unfold vCut; rw [if_pos he]
      | false =>
        have hi := (not_congr (ends_iff (p := p) h.hl hv1)).1 (by rw [show without (vAt l 1099511627775) p = gone l p from rfl, he]; simp)
        refine .inl ⟨v, hv1, hi, ?_⟩
        unfold vCut; rw [if_neg (by rw [he]; simp)]
    · obtain ⟨h1, h2⟩ := without_mem.1 hc
      exact .inr (.inr ⟨c, h1, h2, rfl⟩)
  · rintro (⟨v, hv, hi, rfl⟩ | ⟨v, hv, hi, ht, rfl⟩ | ⟨c, h1, h2, rfl⟩)
    · have he : vEnds (gone l p) x = false := by
        rw [← Bool.not_eq_true]; exact (not_congr (ends_iff (p := p) h.hl hv)).2 hi
      refine .inl ⟨x, List.mem_filter.2 ⟨hv, by rw [he]; rfl⟩, ?_⟩
      unfold vCut; rw [if_neg (by rw [he]; simp)]
    · have he : vEnds (gone l p) v = true := (ends_iff h.hl hv).2 hi
      refine .inl ⟨v, List.mem_filter.2 ⟨hv, by simp [ht]⟩, ?_⟩
      unfold vCut; rw [if_pos he]
    · exact .inr ⟨c, without_mem.2 ⟨h1, h2⟩, rfl⟩
theorem mid_ok {l : List Ver} {t : Int} {p : List Piece} (h : Sets l t p) : (∀ v ∈ midOf l t p, okP v) ∧ (midOf l t p).Pairwise Apart2 := by
  have hr := vRight_iff.1 h.hl
  have hL := vLast_spec h.hl
  have ht := h.ht
  have hm := h.hm
  have hp := right_iff.1 h.hp
  constructor
  · intro x hx
    rcases (mid_iff h).1 hx with ⟨v, hv, _, rfl⟩ | ⟨v, hv, _, hlt, rfl⟩ | ⟨c, hc, _, rfl⟩
    · exact hr.1 x hv
    · obtain ⟨⟨a, b, c⟩, d⟩ := hr.1 v hv
      simp only at a b c
      exact ⟨⟨a, hlt, by show t ≤ _; omega⟩, d⟩
    · exact ⟨⟨by show 0 ≤ t; omega, hm, Int.le_refl _⟩, hp.1 c hc⟩
  · unfold midOf vMid
    refine List.pairwise_append.2 ⟨?_, ?_, ?_⟩
    · refine List.pairwise_map.2 ?_
      have hl : l.Pairwise Apart2 := hr.2.imp fun h => h.1
      refine (hl.sublist List.filter_sublist).imp_of_mem fun {v w} hv hw k => ?_
      have hle : ∀ v ∈ vKept l (gone l p) t, (vCut (gone l p) t v).sh ≤ v.sh := fun v hv => by
        unfold vCut
        split
        · rename_i he
          have := (ends_iff h.hl (List.mem_filter.1 hv).1).1 he
          show t ≤ v.sh
          omega
        · exact Int.le_refl _
      have h1 := hle v hv
      have h2 := hle w hw
      unfold Apart2 at k ⊢
      rw [vCut_keep.1, vCut_keep.1, vCut_keep.2, vCut_keep.2]
      omega
    · refine List.pairwise_map.2 ?_
      have := (right_iff.1 (without_right (q := vAt l 1099511627775) h.hp)).2
      exact this.imp fun h => .inr (.inl h)
    · intro a ha b hb
      obtain ⟨v, hv, rfl⟩ := List.mem_map.1 ha
      obtain ⟨c, hc, rfl⟩ := List.mem_map.1 hb
      obtain ⟨hv1, hv2⟩ := List.mem_filter.1 hv
      obtain ⟨hc1, hc2⟩ := without_mem.1 hc
      cases he : vEnds (gone l p) v with
      | true =>
        unfold vCut; rw [if_pos he]
        exact .inl (.inl (Int.le_refl _))
      | false =>
        have hi := (not_congr (ends_iff (p := p) h.hl hv1)).1 (by rw [show without (vAt l 1099511627775) p = gone l p from rfl, he]; simp)
        unfold vCut; rw [if_neg (by rw [he]; simp)]
        by_cases ho : v.sh = 1099511627776
        · have hvp : v.p ∈ p := Classical.byContradiction fun hn => hi ⟨ho, hn⟩
          have hne : v.p ≠ c := fun e => hc2 ((old_iff h.hl).2 ⟨v, hv1, ho, e.symm⟩)
          rcases pairwise_two hp.2 hvp hc1 hne with k | k
          · exact .inr (.inl k)
          · exact .inr (.inr k)
        · have := (hL.2.1 v hv1).2 ho
          exact .inl (.inl (by show v.sh ≤ t; omega))
theorem vSetOf_right {l : List Ver} {t : Int} {p : List Piece} (h : Sets l t p) : vRight (vSetOf l t p) = true := by
  rw [vSetOf_eq h]
  exact rise_right (mid_ok h).1 (mid_ok h).2
theorem vSetOf_mem {l : List Ver} {t : Int} {p : List Piece} (h : Sets l t p) {x : Ver} : x ∈ vSetOf l t p ↔
    (∃ v ∈ l, ¬ (v.sh = 1099511627776 ∧ v.p ∉ p) ∧ x = v) ∨ (∃ v ∈ l, (v.sh = 1099511627776 ∧ v.p ∉ p) ∧ v.sl < t ∧ x = { v with sh := t }) ∨ ∃ c ∈ p, c ∉ vAt l 1099511627775 ∧ x = ⟨t, 1099511627776, c⟩ := by
  rw [vSetOf_eq h, rise_mem]
  exact mid_iff h
theorem vSet_after {l : List Ver} {t u : Int} {p : List Piece} (h : Sets l t p) (h1 : t ≤ u) (h2 : u < 1099511627776) : vAt (vSetOf l t p) u = p := by
  have hL := vLast_spec h.hl
  have ht := h.ht
  refine right_ext (vAt_right _ _) h.hp fun x => ?_
  rw [(vAt_spec (vSetOf_right h) u).2.2]
  constructor
  · rintro ⟨v, hv, hh, rfl⟩
    rcases (vSetOf_mem h).1 hv with ⟨w, hw, hi, rfl⟩ | ⟨w, hw, _, _, rfl⟩ | ⟨c, hc, _, rfl⟩
    · by_cases ho : v.sh = 1099511627776
      · exact Classical.byContradiction fun hn => hi ⟨ho, hn⟩
      · have := (hL.2.1 v hw).2 ho
        omega
    · exact absurd hh.2 (by show ¬ u < t; omega)
    · exact hc
  · intro hx
    by_cases ho : x ∈ vAt l 1099511627775
    · obtain ⟨v, hv, hvo, rfl⟩ := (old_iff h.hl).1 ho
      have := (hL.2.1 v hv).1
      exact ⟨v, (vSetOf_mem h).2 (.inl ⟨v, hv, fun k => k.2 hx, rfl⟩), by omega, rfl⟩
    · exact ⟨⟨t, 1099511627776, x⟩, (vSetOf_mem h).2 (.inr (.inr ⟨x, hx, ho, rfl⟩)), ⟨h1, h2⟩, rfl⟩
theorem vSet_before {l : List Ver} {t u : Int} {p : List Piece} (h : Sets l t p) (h1 : u < t) : vAt (vSetOf l t p) u = vAt l u := by
  have hm := h.hm
  refine vAt_ext (vSetOf_right h) h.hl fun x => ?_
  constructor
  · rintro ⟨v, hv, hh, rfl⟩
    rcases (vSetOf_mem h).1 hv with ⟨w, hw, hi, rfl⟩ | ⟨w, hw, hi, hlt, rfl⟩ | ⟨c, hc, _, rfl⟩
    · exact ⟨v, hw, hh, rfl⟩
    · obtain ⟨ha, hb⟩ := hh
      exact ⟨w, hw, ⟨ha, by omega⟩, rfl⟩
    · exact absurd hh.1 (by show ¬ t ≤ u; omega)
  · rintro ⟨v, hv, hh, rfl⟩
    by_cases hi : v.sh = 1099511627776 ∧ v.p ∉ p
    · exact ⟨{ v with sh := t }, (vSetOf_mem h).2 (.inr (.inl ⟨v, hv, hi, by omega, rfl⟩)), ⟨hh.1, h1⟩, rfl⟩
    · exact ⟨v, (vSetOf_mem h).2 (.inl ⟨v, hv, hi, rfl⟩), hh, rfl⟩
theorem vSet_same {l : List Ver} {t : Int} (h : Sets l t (vAt l 1099511627775)) : vSetOf l t (vAt l 1099511627775) = l := by
  refine vRight_ext (vSetOf_right h) h.hl fun x => ?_
  rw [vSetOf_mem h]
  constructor
  · rintro (⟨w, hw, hi, rfl⟩ | ⟨w, hw, hi, hlt, rfl⟩ | ⟨c, hc, hn, rfl⟩)
    · exact hw
    · exact absurd ((old_iff h.hl).2 ⟨w, hw, hi.1, rfl⟩) hi.2
    · exact absurd hc hn
  · intro hx
    exact .inl ⟨x, hx, fun k => k.2 ((old_iff h.hl).2 ⟨x, hx, k.1, rfl⟩), rfl⟩
theorem vSet_last {l : List Ver} {t : Int} {p : List Piece} (h : Sets l t p) (hlt : vLast l < t) (hne : p ≠ vAt l 1099511627775) : vLast (vSetOf l t p) = t := by
  have hL := vLast_spec h.hl
  have hS := vLast_spec (vSetOf_right h)
  have hm := h.hm
  have hex : ∃ x ∈ vSetOf l t p, x.sl = t ∨ (x.sh ≠ 1099511627776 ∧ x.sh = t) := by
    refine Classical.byContradiction fun hn => hne (right_ext h.hp (vAt_right _ _) fun c => ⟨fun hc => ?_, fun hc => ?_⟩)
    · refine Classical.byContradiction fun hco => hn ⟨⟨t, 1099511627776, c⟩, (vSetOf_mem h).2 (.inr (.inr ⟨c, hc, hco, rfl⟩)), .inl rfl⟩
    · obtain ⟨v, hv, ho, rfl⟩ := (old_iff h.hl).1 hc
      refine Classical.byContradiction fun hcp => hn ⟨{ v with sh := t }, (vSetOf_mem h).2 (.inr (.inl ⟨v, hv, ⟨ho, hcp⟩, by have := (hL.2.1 v hv).1; omega, rfl⟩)), .inr ⟨by show t ≠ _; omega, rfl⟩⟩
  have hle : vLast (vSetOf l t p) ≤ t := by
    have h0 : 0 ≤ t := by omega
    rcases hS.2.2 with k | ⟨x, hx, k⟩
    · omega
    · rcases (vSetOf_mem h).1 hx with ⟨w, hw, hi, rfl⟩ | ⟨w, hw, hi, hlt, rfl⟩ | ⟨c, hc, hn, rfl⟩
      · have := hL.2.1 x hw
        rcases k with k | ⟨k1, k2⟩
        · omega
        · have := this.2 k1; omega
      · have := hL.2.1 w hw
        rcases k with k | ⟨k1, k2⟩
        · simp only at k; omega
        · simp only at k2; omega
      · rcases k with k | ⟨k1, k2⟩
        · simp only at k; omega
        · exact absurd rfl k1
  obtain ⟨x, hx, k⟩ := hex
  have := hS.2.1 x hx
  rcases k with k | ⟨k1, k2⟩
  · omega
  · have := this.2 k1; omega
end Go.Proofs
