import Derived.Test.YtcdiifnnnnnceaaQ29

/-
  Versions: plain laws. Vacuum, Coalesce, Between.
-/

namespace Go.Proofs
open Go.PW

theorem vacuum_eq {l : List Ver} (h : vRight l = true) (n : Int) : vacuum l n = l.filter fun v => decide (n < v.sh) := by rw [vacuum, if_pos h]
theorem vacuum_right {l : List Ver} (h : vRight l = true) (n : Int) : vRight (vacuum l n) = true := by
  rw [vacuum_eq h]
  exact vRight_sublist List.filter_sublist h
theorem vacuum_at {l : List Ver} (h : vRight l = true) {n t : Int} (ht : n ≤ t) : vAt (vacuum l n) t = vAt l t := by
  refine vAt_ext (vacuum_right h n) h fun x => ?_
  rw [vacuum_eq h]
  constructor
  · rintro ⟨v, hv, k⟩
    exact ⟨v, (List.mem_filter.1 hv).1, k⟩
  · rintro ⟨v, hv, k⟩
    exact ⟨v, List.mem_filter.2 ⟨hv, by simp; omega⟩, k⟩
theorem vacuum_mem {l : List Ver} (h : vRight l = true) {n : Int} {v : Ver} (hv : v ∈ vacuum l n) : n < v.sh := by
  rw [vacuum_eq h] at hv
  simpa using (List.mem_filter.1 hv).2

/-! Coalesce. -/
def J (v w : Ver) : Prop := w.sh = v.sl ∧ w.p = v.p
theorem joins_iff {v w : Ver} : joins v w = true ↔ J v w := by
  unfold joins J
  rw [Bool.and_eq_true, beq_iff_eq, samePiece_iff]
theorem join_cases : ∀ (out : List Ver) (v : Ver), (join out v = none ∧ ∀ w ∈ out, ¬ J v w) ∨ ∃ a w b, out = a ++ w :: b ∧ J v w ∧ join out v = some (a ++ { w with sh := v.sh } :: b)
  | [], v => .inl ⟨rfl, fun w hw => by (cases hw)⟩
  | w :: r, v => by
    by_cases h : joins v w = true
    · exact .inr ⟨[], w, r, rfl, joins_iff.1 h, by rw [join, if_pos h]; rfl⟩
    · rcases join_cases r v with ⟨h1, h2⟩ | ⟨a, u, b, h1, h2, h3⟩
      · refine .inl ⟨by rw [join, if_neg h, h1]; rfl, fun u hu => ?_⟩
        rcases List.mem_cons.1 hu with rfl | hu
        · exact fun k => h (joins_iff.2 k)
        · exact h2 u hu
      · exact .inr ⟨w :: a, u, b, by rw [h1]; rfl, h2, by rw [join, if_neg h, h3]; rfl⟩
/-- No two that join. -/
def NJ (l : List Ver) : Prop := ∀ u ∈ l, ∀ w ∈ l, ¬ (u.sh = w.sl ∧ u.p = w.p)
def live (l : List Ver) (t : Int) (x : Piece) : Prop := ∃ v ∈ l, (v.sl ≤ t ∧ t < v.sh) ∧ x = v.p

theorem joinStep_keeps {out rest : List Ver} {v : Ver} (h : vRight (out ++ v :: rest) = true) (hj : NJ out) : vRight (joinStep out v ++ rest) = true ∧ (∀ t x, live (joinStep out v ++ rest) t x ↔ live (out ++ v :: rest) t x) ∧ NJ (joinStep out v) := by
  have hr := vRight_iff.1 h
  have hv := hr.1 v (by simp)
  have hov : ∀ u ∈ out, Apart2 u v ∧ Le u v := fun u hu => (List.pairwise_append.1 hr.2).2.2 u hu v List.mem_cons_self
  have hvr : ∀ u ∈ rest, Apart2 v u ∧ Le v u := fun u hu => (List.pairwise_cons.1 (List.pairwise_append.1 hr.2).2.1).1 u hu
  obtain ⟨hv0, hv1, hv2⟩ := hv.1
  simp only at hv0 hv1 hv2
  rcases join_cases out v with ⟨h1, h2⟩ | ⟨a, w, b, h1, h2, h3⟩
  · have e : joinStep out v = out ++ [v] := by unfold joinStep; rw [h1]; rfl
    rw [e]
    refine ⟨by rw [List.append_assoc]; exact h, fun t x => by rw [List.append_assoc]; exact Iff.rfl, fun u hu w hw k => ?_⟩
    rcases List.mem_append.1 hu with hu | hu
    · rcases List.mem_append.1 hw with hw | hw
      · exact hj u hu w hw k
      · rw [List.mem_singleton.1 hw] at k
        exact h2 u hu k
    · rw [List.mem_singleton.1 hu] at k
      rcases List.mem_append.1 hw with hw | hw
      · have := (hov w hw).2
        unfold Le at this
        omega
      · rw [List.mem_singleton.1 hw] at k
        omega
  · have e : joinStep out v = a ++ { w with sh := v.sh } :: b := by unfold joinStep joined; rw [h3]; rfl
    have hwo : w ∈ out := by rw [h1]; simp
    have hwk := hr.1 w (by rw [List.mem_append]; exact .inl hwo)
    obtain ⟨hw0, hw1, hw2⟩ := hwk.1
    simp only at hw0 hw1 hw2
    obtain ⟨j1, j2⟩ := h2
    rw [e]
    subst h1
    have hsub : (a ++ w :: (b ++ rest)).Sublist (a ++ w :: b ++ v :: rest) := by
      rw [List.append_assoc]
      refine List.Sublist.append_left ?_ a
      rw [List.cons_append]
      exact ((List.sublist_cons_self v rest).append_left b).cons_cons w
    have hp := hr.2.sublist hsub
    obtain ⟨p1, p2, p3⟩ := List.pairwise_append.1 hp
    obtain ⟨p4, p5⟩ := List.pairwise_cons.1 p2
    have hok : ∀ u ∈ a ++ w :: (b ++ rest), okP u := fun u hu => hr.1 u (hsub.subset hu)
    have hap : ∀ u, okP u → Apart2 u w → Apart2 u v → Apart2 u { w with sh := v.sh } := fun u hu k1 k2 => by
      obtain ⟨_, hu1, _⟩ := hu.1
      simp only at hu1
      unfold Apart2 at k1 k2 ⊢
      simp only
      rw [← j2] at k2
      omega
    have hbrv : ∀ y ∈ b ++ rest, Apart2 y v := fun y hy => by
      rcases List.mem_append.1 hy with hy | hy
      · exact (hov y (by simp [hy])).1
      · exact (hvr y hy).1.symm
    refine ⟨?_, fun t x => ?_, fun u hu z hz k => ?_⟩
    · rw [List.append_assoc, List.cons_append, vRight_iff]
      refine ⟨fun u hu => ?_, List.pairwise_append.2 ⟨p1, List.pairwise_cons.2 ⟨fun y hy => ?_, p5⟩, fun x hx y hy => ?_⟩⟩
      · rcases List.mem_append.1 hu with hu | hu
        · exact hok u (by simp [hu])
        · rcases List.mem_cons.1 hu with rfl | hu
          · exact ⟨⟨hw0, by show w.sl < v.sh; omega, hv2⟩, hwk.2⟩
          · exact hok u (by rw [List.mem_append, List.mem_cons]; exact .inr (.inr hu))
      · have hyo := hok y (by rw [List.mem_append, List.mem_cons]; exact .inr (.inr hy))
        exact ⟨(hap y hyo (p4 y hy).1.symm (hbrv y hy)).symm, (p4 y hy).2⟩
      · rcases List.mem_cons.1 hy with rfl | hy
        · have hxo := hok x (by simp [hx])
          have hxw := p3 x hx w List.mem_cons_self
          exact ⟨hap x hxo hxw.1 (hov x (by simp [hx])).1, hxw.2⟩
        · exact p3 x hx y (List.mem_cons_of_mem _ hy)
    · unfold live
      constructor
      · rintro ⟨u, hu, hh, rfl⟩
        rw [List.append_assoc, List.cons_append, List.mem_append, List.mem_cons, List.mem_append] at hu
        rcases hu with hu | rfl | hu | hu
        · exact ⟨u, by simp [hu], hh, rfl⟩
        · obtain ⟨k1, k2⟩ := hh
          simp only at k1 k2
          rcases Int.lt_or_le t w.sh with k | k
          · exact ⟨w, by simp, ⟨k1, k⟩, rfl⟩
          · exact ⟨v, by simp, ⟨by omega, k2⟩, j2⟩
        · exact ⟨u, by simp [hu], hh, rfl⟩
        · exact ⟨u, by simp [hu], hh, rfl⟩
      · rintro ⟨u, hu, hh, rfl⟩
        simp only [List.append_assoc, List.cons_append, List.mem_append, List.mem_cons] at hu
        rcases hu with hu | rfl | hu | rfl | hu
        · exact ⟨u, by simp [hu], hh, rfl⟩
        · exact ⟨{ u with sh := v.sh }, by simp, ⟨hh.1, by show t < v.sh; omega⟩, rfl⟩
        · exact ⟨u, by simp [hu], hh, rfl⟩
        · exact ⟨{ w with sh := u.sh }, by simp, ⟨by show w.sl ≤ t; omega, hh.2⟩, j2.symm⟩
        · exact ⟨u, by simp [hu], hh, rfl⟩
    · have hin : ∀ y, y ∈ a ++ { w with sh := v.sh } :: b → y = { w with sh := v.sh } ∨ y ∈ a ++ w :: b := fun y hy => by
        simp only [List.mem_append, List.mem_cons] at hy ⊢
        rcases hy with hy | hy | hy
        · exact .inr (.inl hy)
        · exact .inl hy
        · exact .inr (.inr (.inr hy))
      rcases hin u hu with rfl | hu'
      · rcases hin z hz with rfl | hz'
        · simp only at k; omega
        · have := (hov z hz').2
          unfold Le at this
          simp only at k
          omega
      · rcases hin z hz with rfl | hz'
        · exact hj u hu' w hwo k
        · exact hj u hu' z hz' k
theorem vCo_keeps : ∀ (rest out : List Ver), vRight (out ++ rest) = true → NJ out → vRight (rest.foldl joinStep out) = true ∧ (∀ t x, live (rest.foldl joinStep out) t x ↔ live (out ++ rest) t x) ∧ NJ (rest.foldl joinStep out)
  | [], out, h, hj => ⟨by rw [List.append_nil] at h; exact h, fun t x => by rw [List.append_nil]; exact Iff.rfl, hj⟩
  | v :: rest, out, h, hj => by
    obtain ⟨h1, h2, h3⟩ := joinStep_keeps h hj
    obtain ⟨k1, k2, k3⟩ := vCo_keeps rest (joinStep out v) h1 h3
    exact ⟨k1, fun t x => (k2 t x).trans (h2 t x), k3⟩
theorem vCoalesce_spec {l : List Ver} (h : vRight l = true) : vRight (vCoalesce l) = true ∧ (∀ t, vAt (vCoalesce l) t = vAt l t) ∧ NJ (vCoalesce l) := by
  rw [vCoalesce, if_pos h]
  obtain ⟨k1, k2, k3⟩ := vCo_keeps l [] h (fun u hu => by cases hu)
  exact ⟨k1, fun t => vAt_ext k1 h (k2 t), k3⟩
theorem joinStep_len (out : List Ver) (v : Ver) : (joinStep out v).length ≤ out.length + 1 := by
  unfold joinStep
  split
  · rw [(joined_length out v).1]; omega
  · simp
theorem vCo_len : ∀ (l out : List Ver), (l.foldl joinStep out).length ≤ out.length + l.length
  | [], out => by simp
  | v :: l, out => by
    have h1 := joinStep_len out v
    have h2 := vCo_len l (joinStep out v)
    rw [List.foldl_cons, List.length_cons]
    omega
theorem vCoalesce_length (l : List Ver) : (vCoalesce l).length ≤ l.length := by
  unfold vCoalesce
  split
  · have := vCo_len l []
    simpa [vCo] using this
  · exact Nat.le_refl _

/-! Between. -/
theorem vAt_const {l : List Ver} (h : vRight l = true) {t hi u : Int} (ht : t < hi) (h1 : t ≤ u) (h2 : u < vNext l t hi) : vAt l u = vAt l t := by
  obtain ⟨_, _, _, k⟩ := vNext_spec l ht
  refine vAt_ext h h fun x => ?_
  constructor
  · rintro ⟨v, hv, hh, rfl⟩
    obtain ⟨k1, k2⟩ := k v hv
    refine ⟨v, hv, ⟨?_, by omega⟩, rfl⟩
    rcases Int.lt_or_le t v.sl with hl | hl
    · have := k1 hl; omega
    · exact hl
  · rintro ⟨v, hv, hh, rfl⟩
    obtain ⟨k1, k2⟩ := k v hv
    refine ⟨v, hv, ⟨by omega, ?_⟩, rfl⟩
    have := k2 hh.2
    omega
structure BI (l : List Ver) (lo t : Int) (out : List TSt) : Prop where
  ok : ∀ w ∈ out, lo ≤ w.sl ∧ w.sl < w.sh ∧ w.sh ≤ t ∧ w.ps ≠ [] ∧ ∀ u, w.sl ≤ u → u < w.sh → coalesce (vAt l u) = w.ps
  cov : ∀ u, lo ≤ u → u < t → (∃ w ∈ out, w.sl ≤ u ∧ u < w.sh) ∨ coalesce (vAt l u) = []
  con : ∀ (i : Nat) (a b : TSt), out[i]? = some a → out[i + 1]? = some b → a.sh ≤ b.sl ∧ ¬ (a.sh = b.sl ∧ a.ps = b.ps)
theorem BI_step {l : List Ver} {lo t hi : Int} {out : List TSt} (hl : vRight l = true) (ht : t < hi) (h0 : lo ≤ t) (h : BI l lo t out) : BI l lo (vNext l t hi) (betwStep l t (vNext l t hi) out) := by
  obtain ⟨n1, _, _, _⟩ := vNext_spec l ht
  have hc : ∀ u, t ≤ u → u < vNext l t hi → coalesce (vAt l u) = coalesce (vAt l t) := fun u h1 h2 => by rw [vAt_const hl ht h1 h2]
  generalize vNext l t hi = n at *
  unfold betwStep
  generalize coalesce (vAt l t) = p at *
  split
  · rename_i hp
    have hp : p = [] := List.eq_nil_of_length_eq_zero hp
    refine ⟨fun w hw => ?_, fun u h1 h2 => ?_, h.con⟩
    · obtain ⟨a, b, c, d⟩ := h.ok w hw
      exact ⟨a, b, by omega, d⟩
    · rcases Int.lt_or_le u t with k | k
      · exact h.cov u h1 k
      · exact .inr (by rw [hc u k h2, hp])
  · rename_i hp
    have hp : p ≠ [] := fun e => hp (by rw [e]; rfl)
    split
    · rename_i hg
      unfold goesOn at hg
      cases hw : out[out.length - 1]? with
      | none => rw [hw] at hg; cases hg
      | some w =>
        rw [hw] at hg
        simp only [Bool.and_eq_true, beq_iff_eq, samePieces_iff] at hg
        obtain ⟨g1, g2⟩ := hg
        rw [lastTo_some hw]
        have hwm := List.mem_of_getElem? hw
        obtain ⟨a, b, c, d, e⟩ := h.ok w hwm
        have hpos : out.length - 1 < out.length := by
          rcases Nat.lt_or_ge (out.length - 1) out.length with k | k
          · exact k
          · rw [List.getElem?_eq_none k] at hw; cases hw
        refine ⟨fun z hz => ?_, fun u h1 h2 => ?_, fun i x y hx hy => ?_⟩
        · rcases List.mem_or_eq_of_mem_set hz with hz | rfl
          · obtain ⟨a, b, c, d⟩ := h.ok z hz
            exact ⟨a, b, by omega, d⟩
          · refine ⟨a, by show w.sl < n; omega, Int.le_refl _, d, fun u h1 h2 => ?_⟩
            simp only at h1 h2
            rcases Int.lt_or_le u w.sh with k | k
            · exact e u h1 k
            · rw [hc u (by omega) h2]; exact g2.symm
        · have hself : { w with sh := n } ∈ out.set (out.length - 1) { w with sh := n } := List.mem_set hpos _
          rcases Int.lt_or_le u t with k | k
          · rcases h.cov u h1 k with ⟨z, hz, hz1, hz2⟩ | k
            · obtain ⟨i, hi⟩ := List.getElem?_of_mem hz
              by_cases hil : i = out.length - 1
              · rw [hil, hw] at hi
                cases hi
                exact .inl ⟨_, hself, hz1, by show u < n; omega⟩
              · exact .inl ⟨z, List.mem_of_getElem? (i := i) (by rw [List.getElem?_set_ne (Ne.symm hil)]; exact hi), hz1, hz2⟩
            · exact .inr k
          · exact .inl ⟨_, hself, by show w.sl ≤ u; omega, h2⟩
        · have hi1 : i + 1 < out.length := by
            have := (List.getElem?_eq_some_iff.1 hy).1
            simpa using this
          rw [List.getElem?_set_ne (by omega)] at hx
          by_cases hil : i + 1 = out.length - 1
          · rw [hil, List.getElem?_set_self hpos] at hy
            cases hy
            exact h.con i x w hx (by rw [hil]; exact hw)
          · rw [List.getElem?_set_ne (by omega)] at hy
            exact h.con i x y hx hy
    · rename_i hg
      refine ⟨fun z hz => ?_, fun u h1 h2 => ?_, fun i x y hx hy => ?_⟩
      · rcases List.mem_append.1 hz with hz | hz
        · obtain ⟨a, b, c, d⟩ := h.ok z hz
          exact ⟨a, b, by omega, d⟩
        · rw [List.mem_singleton.1 hz]
          exact ⟨h0, n1, Int.le_refl _, hp, fun u h1 h2 => hc u h1 h2⟩
      · rcases Int.lt_or_le u t with k | k
        · rcases h.cov u h1 k with ⟨z, hz, hz1, hz2⟩ | k
          · exact .inl ⟨z, by simp [hz], hz1, hz2⟩
          · exact .inr k
        · exact .inl ⟨⟨t, n, p⟩, by simp, k, h2⟩
      · have hi1 : i + 1 < out.length + 1 := by
          have := (List.getElem?_eq_some_iff.1 hy).1
          simpa using this
        rw [List.getElem?_append_left (by omega)] at hx
        by_cases hil : i + 1 = out.length
        · rw [hil, List.getElem?_append_right (Nat.le_refl _), Nat.sub_self] at hy
          cases hy
          have hxm := h.ok x (List.mem_of_getElem? hx)
          refine ⟨by show x.sh ≤ t; exact hxm.2.2.1, fun k => hg ?_⟩
          rw [goesOn_some (w := x) (by rw [show out.length - 1 = i by omega]; exact hx), Bool.and_eq_true, beq_iff_eq, samePieces_iff]
          exact k
        · rw [List.getElem?_append_left (by omega)] at hy
          exact h.con i x y hx hy
theorem betw_spec {l : List Ver} {lo hi : Int} (hl : vRight l = true) : ∀ (n : Nat) (t : Int) (out : List TSt), left l hi t ≤ n → lo ≤ t → t ≤ hi → BI l lo t out → BI l lo hi (betw l hi t out)
  | n, t, out, hn, h0, ht, h => by
    by_cases hlt : t < hi
    · have hll := left_lt (l := l) hlt
      obtain ⟨n1, n2, _, _⟩ := vNext_spec l hlt
      cases n with
      | zero => omega
      | succ n =>
        rw [betw_go hlt]
        exact betw_spec hl n (vNext l t hi) _ (by omega) (by omega) n2 (BI_step hl hlt h0 h)
    · rw [betw_end hlt, show hi = t by omega]
      exact h
theorem vBetween_spec {l : List Ver} {lo hi : Int} (hl : vRight l = true) (hs : Span.right lo hi = true) : BI l lo hi (vBetween l lo hi) := by
  rw [vBetween, if_pos hl, if_pos hs]
  rw [spanRight_iff] at hs
  exact betw_spec hl _ lo [] (Nat.le_refl _) (Int.le_refl _) (by omega) ⟨fun w hw => (by cases hw), fun u h1 h2 => by omega, fun i a b h => by simp at h⟩
end Go.Proofs

/-
  What comes of setting, one behind the other: build.
-/

namespace Go.PW
@[go_sem] theorem B_rem {P : Program} {T : TypeId} {m n : Int} (h : n ≠ 0) : binS P .rem T (.c (.d (.lit (.int .i64 m)))) (.c (.d (.lit (.int .i64 n)))) = some (lit (.int .i64 (m.tmod n))) := by
  show (semOf (Go.Op.intDiv .rem .i64 m n)).map lit = _
  unfold Go.Op.intDiv
  rw [if_neg h]
  rfl
end Go.PW
namespace Go.Proofs
open Go.PW

structure OpT where
  lt : Int
  dr : Bool
  s : Sp
  row : Row
def OpT.enc (o : OpT) : List D := [.lit (.int .u8 o.lt), .lit (.bool o.dr), .lit (.int .i64 o.s.1), .lit (.int .i64 o.s.2), encRow o.row]
def encOpsT (l : List OpT) : D := .sl (l.map OpT.enc)
attribute [go_sem] OpT.enc encOpsT
/-- A byte. -/
def OpT.byte (o : OpT) : Prop := 0 ≤ o.lt ∧ o.lt < 256

structure TB where
  l : List Ver
  out : List TSt
  t : Int
  p : List Piece
def nextT (t : Int) (o : OpT) : Int := t + o.lt.tmod 8
def nextP (p : List Piece) (o : OpT) : List Piece := if o.dr = true then drop p o.s else putP p o.s o.row
def stepT (σ : TB) (o : OpT) : TB := if 20 < o.row.length then σ else
  ⟨vSetOf σ.l (nextT σ.t o) (nextP σ.p o), σ.out ++ [⟨nextT σ.t o, 1099511627776, nextP σ.p o⟩], nextT σ.t o, nextP σ.p o⟩
def opsT (s : List OpT) : TB := s.foldl stepT ⟨[], [], 0, []⟩
def buildT (s : List OpT) : TB := opsT (s.take 20)
/-- What was set last at a time or ahead of it. -/
def wantT (out : List TSt) (u : Int) : List Piece := out.foldl (fun a w => if Span.has w.sl w.sh u = true then w.ps else a) []

structure TI (n : Nat) (σ : TB) : Prop where
  p : right σ.p = true
  pl : σ.p.length ≤ 2 * n
  pr : ∀ x ∈ σ.p, x.row.length ≤ 20
  v : vRight σ.l = true
  vl : σ.l.length ≤ 40 * n
  vr : ∀ v ∈ σ.l, v.p.row.length ≤ 20
  t0 : 0 ≤ σ.t
  t1 : σ.t ≤ 7 * n
  la : vLast σ.l ≤ σ.t
  ol : σ.out.length ≤ n
  os : ∀ w ∈ σ.out, w.ps.length ≤ 40 ∧ ∀ x ∈ w.ps, x.row.length ≤ 20
  sem : ∀ u, vAt σ.l u = wantT σ.out u

theorem vMid_le (q : List Piece) (t : Int) (l : List Ver) (c : List Piece) : (vMid q t (vKept l q t) c).length ≤ l.length + c.length := by
  rw [vMid_length]
  have := List.length_filter_le (fun v => !vEnds q v || decide (v.sl < t)) l
  unfold vKept
  omega
theorem vSetOf_length (l : List Ver) (t : Int) (p : List Piece) : (vSetOf l t p).length ≤ l.length + p.length := by
  unfold vSetOf
  rw [(rise_spec _).1.length_eq]
  have h1 := vMid_le (diff (vAt l 1099511627775) p).1 t l (diff (vAt l 1099511627775) p).2
  have h2 := (diff_sub (vAt l 1099511627775) p).2.1
  omega
theorem vSetOf_rows {l : List Ver} {t : Int} {p : List Piece} {n : Nat} (h : Sets l t p) (hl : ∀ v ∈ l, v.p.row.length ≤ n) (hp : ∀ x ∈ p, x.row.length ≤ n) : ∀ v ∈ vSetOf l t p, v.p.row.length ≤ n := fun v hv => by
  rcases (vSetOf_mem h).1 hv with ⟨w, hw, _, rfl⟩ | ⟨w, hw, _, _, rfl⟩ | ⟨c, hc, _, rfl⟩
  · exact hl v hw
  · exact hl w hw
  · exact hp c hc
theorem vSet_le {l : List Ver} {t : Int} {p : List Piece} (h : Sets l t p) : vLast (vSetOf l t p) ≤ t := by
  have hL := vLast_spec h.hl
  have hS := vLast_spec (vSetOf_right h)
  have ht := h.ht
  rcases hS.2.2 with k | ⟨x, hx, k⟩
  · omega
  · rcases (vSetOf_mem h).1 hx with ⟨w, hw, hi, rfl⟩ | ⟨w, hw, hi, hlt, rfl⟩ | ⟨c, hc, hn, rfl⟩
    · have := hL.2.1 x hw
      rcases k with k | ⟨k1, k2⟩
      · omega
      · have := this.2 k1; omega
    · have := hL.2.1 w hw
      rcases k with k | ⟨k1, k2⟩
      · simp only at k; omega
      · simp only at k2; omega
    · rcases k with k | ⟨k1, k2⟩
      · simp only at k; omega
      · exact absurd rfl k1
theorem vAt_late {l : List Ver} (h : vRight l = true) {u : Int} (hu : 1099511627776 ≤ u ∨ u < 0) : vAt l u = [] := by
  refine right_ext (vAt_right l u) rfl fun x => ?_
  rw [(vAt_spec h u).2.2]
  constructor
  · rintro ⟨v, hv, hh, _⟩
    obtain ⟨a, _, c⟩ := ((vRight_iff.1 h).1 v hv).1
    simp only at a c
    omega
  · intro h; cases h
theorem nextP_ok {p : List Piece} {o : OpT} {n : Nat} (h : right p = true) (hl : p.length ≤ 2 * n) (hr : ∀ x ∈ p, x.row.length ≤ 20) (ho : o.row.length ≤ 20) : right (nextP p o) = true ∧ (nextP p o).length ≤ 2 * (n + 1) ∧ ∀ x ∈ nextP p o, x.row.length ≤ 20 := by
  unfold nextP
  split
  · exact ⟨drop_right h, by have := drop_len (s := o.s) h; omega, drop_row hr⟩
  · exact ⟨putP_right h, by have := putP_len (s := o.s) (r := o.row) h; omega, putP_row hr ho⟩
theorem nextT_ok {t : Int} {o : OpT} (h : o.byte) : t ≤ nextT t o ∧ nextT t o ≤ t + 7 := by
  unfold nextT
  have h1 := Int.tmod_nonneg 8 h.1
  have h2 := Int.tmod_lt_of_pos o.lt (show (0 : Int) < 8 by decide)
  omega
theorem TI_sets {n : Nat} {σ : TB} {o : OpT} (h : TI n σ) (hb : o.byte) (hn : n < 20) (ho : o.row.length ≤ 20) : Sets σ.l (nextT σ.t o) (nextP σ.p o) := by
  have h1 := nextT_ok (t := σ.t) hb
  have h2 := h.t1
  have h3 := h.la
  exact ⟨h.v, (nextP_ok h.p h.pl h.pr ho).1, by omega, by omega⟩
theorem TI_step {n : Nat} {σ : TB} {o : OpT} (h : TI n σ) (hb : o.byte) (hn : n < 20) : TI (n + 1) (stepT σ o) := by
  unfold stepT
  split
  · exact ⟨h.p, by have := h.pl; omega, h.pr, h.v, by have := h.vl; omega, h.vr, h.t0, by have := h.t1; omega, h.la, by have := h.ol; omega, h.os, h.sem⟩
  · rename_i ho
    have ho : o.row.length ≤ 20 := by omega
    have hs := TI_sets h hb hn ho
    obtain ⟨p1, p2, p3⟩ := nextP_ok h.p h.pl h.pr ho
    have h1 := nextT_ok (t := σ.t) hb
    have ht0 := h.t0
    generalize nextP σ.p o = p at *
    generalize nextT σ.t o = t at *
    refine ⟨p1, p2, p3, vSetOf_right hs, ?_, vSetOf_rows hs h.vr p3, by show 0 ≤ t; omega, ?_, vSet_le hs, ?_, fun w hw => ?_, fun u => ?_⟩
    · have := vSetOf_length σ.l t p
      have := h.vl
      show (vSetOf σ.l t p).length ≤ _
      omega
    · have := h.t1
      show t ≤ _
      omega
    · have := h.ol
      simp; omega
    · rcases List.mem_append.1 hw with hw | hw
      · exact h.os w hw
      · rw [List.mem_singleton.1 hw]; exact ⟨by show p.length ≤ 40; omega, p3⟩
    · show vAt (vSetOf σ.l t p) u = wantT (σ.out ++ [⟨t, 1099511627776, p⟩]) u
      have e : wantT (σ.out ++ [⟨t, 1099511627776, p⟩]) u = if Span.has t 1099511627776 u = true then p else wantT σ.out u := by
        unfold wantT; rw [List.foldl_append]; rfl
      have hh := has_spOK (t := u) (a := t) (b := 1099511627776) ⟨by show 0 ≤ t; omega, hs.hm, Int.le_refl _⟩
      rw [e]
      split
      · rename_i k
        obtain ⟨k1, k2⟩ := hh.1 k
        exact vSet_after hs k1 k2
      · rename_i k
        rcases Int.lt_or_le u t with k1 | k1
        · rw [vSet_before hs k1]; exact h.sem u
        · have k2 : 1099511627776 ≤ u := Int.not_lt.1 fun k2 => k (hh.2 ⟨k1, k2⟩)
          rw [vAt_late (vSetOf_right hs) (.inl k2), ← h.sem u, vAt_late h.v (.inl k2)]
theorem TI_nil : TI 0 ⟨[], [], 0, []⟩ := ⟨rfl, by simp, fun x hx => by (cases hx), rfl, by simp, fun x hx => by (cases hx), Int.le_refl _, by simp, Int.le_refl _, by simp, fun x hx => by (cases hx), fun u => rfl⟩
theorem TI_ops : ∀ (s : List OpT) (n : Nat) (σ : TB), TI n σ → (∀ o ∈ s, o.byte) → n + s.length ≤ 20 → TI (n + s.length) (s.foldl stepT σ)
  | [], n, σ, h, _, _ => h
  | o :: s, n, σ, h, hb, hn => by
    have hl : n + (o :: s).length = n + 1 + s.length := by rw [List.length_cons]; omega
    rw [hl] at hn ⊢
    exact TI_ops s (n + 1) (stepT σ o) (TI_step h (hb o List.mem_cons_self) (by omega)) (fun o ho => hb o (List.mem_cons_of_mem _ ho)) (by omega)
theorem TI_take {s : List OpT} (hb : ∀ o ∈ s, o.byte) {i : Nat} (hi : i ≤ 20) : TI i (opsT (s.take i)) := by
  have h := TI_ops (s.take i) 0 _ TI_nil (fun o ho => hb o (List.mem_of_mem_take ho)) (by rw [List.length_take]; omega)
  have hle : 0 + (s.take i).length ≤ i := by rw [List.length_take]; omega
  exact ⟨h.p, by have := h.pl; unfold opsT; omega, h.pr, h.v, by have := h.vl; unfold opsT; omega, h.vr, h.t0, by have := h.t1; unfold opsT; omega, h.la, by have := h.ol; unfold opsT; omega, h.os, h.sem⟩
theorem buildT_ok {s : List OpT} (hb : ∀ o ∈ s, o.byte) : TI 20 (buildT s) := TI_take hb (Nat.le_refl 20)
theorem opsT_next {s : List OpT} {i : Nat} {o : OpT} (h : s[i]? = some o) : opsT (s.take (i + 1)) = stepT (opsT (s.take i)) o := foldl_next h

set_option maxRecDepth 8000 in
set_option maxHeartbeats 8000000 in
theorem Try.kBuildT (s : List OpT) (hb : ∀ o ∈ s, o.byte) : PureOK Try.prog 32 [pD (encOpsT s)] (.tup [.d (encVers (buildT s).l), .d (encSts (buildT s).out)]) := by
  refine Try.pure (md := []) Try.func32 rfl Try.call32 (by kernel_rfl) (by rfl) (by exact Nat.le_of_ble_eq_true rfl) ?_
  repeat' (first
    | with_reducible refine VC_seq fun K hK => ?_
    | with_reducible refine W_region ?_
    | with_reducible refine VC_block ?_
    | with_reducible refine VC_scope ?_
    | with_reducible refine VC_if ?_
    | with_reducible refine VC_skip ?_
    | with_reducible refine VC_exit ?_
    | with_reducible refine VC_ret ?_
    | (with_reducible refine G_not (fun h => ?_) (fun h => ?_) <;> (try simp only [h]))
    | (with_reducible refine G_cases (fun h => ?_) (fun h => ?_) <;> (try simp only [h]))
    | (with_reducible refine hK _ ?_; clear hK K)
    | (clear hK K; with_reducible refine hK _ ?_; clear hK K)
    | (clear hK K; clear hK K; with_reducible refine hK _ ?_; clear hK K)
    | (clear hK K; clear hK K; clear hK K; with_reducible refine hK _ ?_; clear hK K)
    | (with_reducible refine todo ?_; simp +decide only [go_sem]))
  have hmin : (s.take 20).length ≤ 20 ∧ (s.take 20).length ≤ s.length := by rw [List.length_take]; omega
  refine VC_range (s.take 20).length (fun _ => True) (fun i => frame [(0, pD (encOpsT s)), (4, pD (encVers (opsT (s.take i)).l)), (5, .c (.own (64, 0) ((opsT (s.take i)).out.map TSt.enc))), (6, pD (.lit (.int .i64 (opsT (s.take i)).t))), (7, pD (encPieces (opsT (s.take i)).p)), (8, pD (.lit (.int .i64 i)))] [] [((64, 0), .co 3 (opsT (s.take i)).out.length)]) True.intro ?_ ?_
  · refine Weak_frame ?_ ?_ ?_ <;> simp +decide only [go_sem, opsT, List.foldl_nil]
    exact wkP_new rfl rfl
  · intro i hi hI
    have hi20 : i ≤ 20 := by omega
    rcases Nat.lt_or_ge i (s.take 20).length with hlt | hge
    · have hlt' : i < s.length := by omega
      have h20 : i < 20 := by omega
      have hg := List.getElem?_eq_getElem hlt'
      have hd := int_lt_true hlt'
      have hd3 : ((i : Int) < 20) = True := eq_true (by omega)
      have hw := int_next h20 (by decide)
      generalize s[i] = x at hg
      have hx := hb x (List.mem_of_getElem? hg)
      have hT := TI_take hb hi20
      have hT2 := TI_step hT hx h20
      have hnx := opsT_next hg
      generalize opsT (s.take i) = σ at *
      have kD := Try.kDrop σ.p x.s (by have := hT.pl; omega) (fun p hp => Nat.le_trans (hT.pr p hp) (by decide))
      rcases Nat.lt_or_ge 20 x.row.length with hlong | hshort
      · have h20 : ((20 : Int) < (x.row.length : Int)) = True := eq_true (by omega)
        have hst : stepT σ x = σ := by unfold stepT; rw [if_pos hlong]
        rw [hst] at hnx
        repeat' (first
          | with_reducible refine VC_seq fun K hK => ?_
          | with_reducible refine W_region ?_
          | with_reducible refine VC_block ?_
          | with_reducible refine VC_scope ?_
          | with_reducible refine VC_if ?_
          | with_reducible refine VC_skip ?_
          | with_reducible refine VC_exit ?_
          | with_reducible refine VC_ret ?_
          | (with_reducible refine G_not (fun h => ?_) (fun h => ?_) <;> (try simp only [h]))
          | (with_reducible refine G_cases (fun h => ?_) (fun h => ?_) <;> (try simp only [h]))
          | (with_reducible refine hK _ ?_; clear hK K)
          | (clear hK K; with_reducible refine hK _ ?_; clear hK K)
          | (clear hK K; clear hK K; with_reducible refine hK _ ?_; clear hK K)
          | (clear hK K; clear hK K; clear hK K; with_reducible refine hK _ ?_; clear hK K)
          | (with_reducible refine todo ?_; simp +decide only [go_sem, hg, hd, hd3, hw, h20]))
        refine Next_of hlt True.intro (Weak_frame ?_ ?_ ?_) <;> simp +decide only [go_sem, hnx]
        exact wkP_own (by simp [aOf]) (by simp [aOf])
      · have hl20 : ((20 : Int) < (x.row.length : Int)) = False := eq_false (by omega)
        have kP := Try.kPut σ.p x.s x.row (by have := hT.pl; omega) (fun p hp => Nat.le_trans (hT.pr p hp) (by decide)) (by omega)
        have hsets := TI_sets hT hx h20 hshort
        obtain ⟨p1, p2, p3⟩ := nextP_ok hT.p hT.pl hT.pr hshort
        have ht := nextT_ok (t := σ.t) hx
        have ht0 := hT.t0
        have ht1 := hT.t1
        have hw1 : IntKind.i64.wrap x.lt = x.lt := Go.IntWalk.i64_in _ (by have := hx.1; have := hx.2; omega)
        have hw2 : IntKind.i64.wrap (σ.t + x.lt.tmod 8) = nextT σ.t x := Go.IntWalk.i64_in _ (by unfold nextT at ht; omega)
        have kS := Try.kSet σ.l (nextT σ.t x) (nextP σ.p x) (by have := hT.vl; omega) (fun v hv => Nat.le_trans (hT.vr v hv) (by decide)) (by omega) (fun v hv => Nat.le_trans (p3 v hv) (by decide))
        have hok := sets_iff.2 hsets
        rw [if_pos hok, vSet, if_pos hok] at kS
        have hst : stepT σ x = ⟨vSetOf σ.l (nextT σ.t x) (nextP σ.p x), σ.out ++ [⟨nextT σ.t x, 1099511627776, nextP σ.p x⟩], nextT σ.t x, nextP σ.p x⟩ := by unfold stepT; rw [if_neg (by omega)]
        rw [hst] at hnx
        have hol := hT.ol
        have hnp : nextP σ.p x = if x.dr = true then drop σ.p x.s else putP σ.p x.s x.row := rfl
        cases hdr : x.dr with
        | true =>
          rw [hdr, if_pos rfl] at hnp
          rw [← hnp] at kD
          generalize nextP σ.p x = np at *
          generalize nextT σ.t x = nt at *
          repeat' (first
            | with_reducible refine VC_seq fun K hK => ?_
            | with_reducible refine W_region ?_
            | with_reducible refine VC_block ?_
            | with_reducible refine VC_scope ?_
            | with_reducible refine VC_if ?_
            | with_reducible refine VC_skip ?_
            | with_reducible refine VC_exit ?_
            | with_reducible refine VC_ret ?_
            | (with_reducible refine G_not (fun h => ?_) (fun h => ?_) <;> (try simp only [h]))
            | (with_reducible refine G_cases (fun h => ?_) (fun h => ?_) <;> (try simp only [h]))
            | refine C_pure kD rfl rfl (fun _ => rfl) ?_
            | refine C_pure kS rfl rfl (fun _ => rfl) ?_
            | (refine W_own Try.appSts rfl (szSts _) (szOne rfl) (by simp; omega) (by simp; rfl) ?_)
            | (with_reducible refine hK _ ?_; clear hK K)
            | (clear hK K; with_reducible refine hK _ ?_; clear hK K)
            | (clear hK K; clear hK K; with_reducible refine hK _ ?_; clear hK K)
            | (clear hK K; clear hK K; clear hK K; with_reducible refine hK _ ?_; clear hK K)
            | (with_reducible refine todo ?_; simp +decide only [go_sem, hg, hd, hd3, hw, hl20, hdr, hw1, hw2]))
          refine Next_of hlt True.intro (Weak_frame ?_ ?_ ?_) <;> simp +decide only [go_sem, hnx]
          exact wkP_own (by simp [aOf]) (by simp [aOf, upd])
        | false =>
          rw [hdr, if_neg (by decide)] at hnp
          rw [← hnp] at kP
          generalize nextP σ.p x = np at *
          generalize nextT σ.t x = nt at *
          repeat' (first
            | with_reducible refine VC_seq fun K hK => ?_
            | with_reducible refine W_region ?_
            | with_reducible refine VC_block ?_
            | with_reducible refine VC_scope ?_
            | with_reducible refine VC_if ?_
            | with_reducible refine VC_skip ?_
            | with_reducible refine VC_exit ?_
            | with_reducible refine VC_ret ?_
            | (with_reducible refine G_not (fun h => ?_) (fun h => ?_) <;> (try simp only [h]))
            | (with_reducible refine G_cases (fun h => ?_) (fun h => ?_) <;> (try simp only [h]))
            | refine C_pure kP rfl rfl (fun _ => rfl) ?_
            | refine C_pure kS rfl rfl (fun _ => rfl) ?_
            | (refine W_own Try.appSts rfl (szSts _) (szOne rfl) (by simp; omega) (by simp; rfl) ?_)
            | (with_reducible refine hK _ ?_; clear hK K)
            | (clear hK K; with_reducible refine hK _ ?_; clear hK K)
            | (clear hK K; clear hK K; with_reducible refine hK _ ?_; clear hK K)
            | (clear hK K; clear hK K; clear hK K; with_reducible refine hK _ ?_; clear hK K)
            | (with_reducible refine todo ?_; simp +decide only [go_sem, hg, hd, hd3, hw, hl20, hdr, hw1, hw2]))
          refine Next_of hlt True.intro (Weak_frame ?_ ?_ ?_) <;> simp +decide only [go_sem, hnx]
          exact wkP_own (by simp [aOf]) (by simp [aOf, upd])
    · have hB : opsT (s.take i) = buildT s := by
        unfold buildT
        have : i = (s.take 20).length := by omega
        rw [this, List.length_take, List.take_eq_take_min (l := s) (i := 20)]
      rw [hB]
      rcases Nat.lt_or_ge i s.length with hlt' | hge'
      · have hd := int_lt_true hlt'
        have h20 : ((i : Int) < 20) = False := by
          rw [List.length_take] at hge
          exact eq_false (by omega)
        repeat' (first
          | with_reducible refine VC_seq fun K hK => ?_
          | with_reducible refine W_region ?_
          | with_reducible refine VC_block ?_
          | with_reducible refine VC_scope ?_
          | with_reducible refine VC_if ?_
          | with_reducible refine VC_skip ?_
          | with_reducible refine VC_exit ?_
          | with_reducible refine VC_ret ?_
          | (with_reducible refine G_not (fun h => ?_) (fun h => ?_) <;> (try simp only [h]))
          | (with_reducible refine G_cases (fun h => ?_) (fun h => ?_) <;> (try simp only [h]))
          | (with_reducible refine hK _ ?_; clear hK K)
          | (clear hK K; with_reducible refine hK _ ?_; clear hK K)
          | (clear hK K; clear hK K; with_reducible refine hK _ ?_; clear hK K)
          | (clear hK K; clear hK K; clear hK K; with_reducible refine hK _ ?_; clear hK K)
          | (with_reducible refine todo ?_; simp +decide only [go_sem, hd, h20]))
        exact Ret_two none rfl (.inl rfl) (.inl rfl)
      · have hd := int_lt_false hge'
        repeat' (first
          | with_reducible refine VC_seq fun K hK => ?_
          | with_reducible refine W_region ?_
          | with_reducible refine VC_block ?_
          | with_reducible refine VC_scope ?_
          | with_reducible refine VC_if ?_
          | with_reducible refine VC_skip ?_
          | with_reducible refine VC_exit ?_
          | with_reducible refine VC_ret ?_
          | (with_reducible refine G_not (fun h => ?_) (fun h => ?_) <;> (try simp only [h]))
          | (with_reducible refine G_cases (fun h => ?_) (fun h => ?_) <;> (try simp only [h]))
          | (with_reducible refine hK _ ?_; clear hK K)
          | (clear hK K; with_reducible refine hK _ ?_; clear hK K)
          | (clear hK K; clear hK K; with_reducible refine hK _ ?_; clear hK K)
          | (clear hK K; clear hK K; clear hK K; with_reducible refine hK _ ?_; clear hK K)
          | (with_reducible refine todo ?_; simp +decide only [go_sem, hd]))
        exact Ret_two none rfl (.inl rfl) (.inl rfl)
end Go.Proofs

/-
  What must come of fixed calls.
-/

namespace Go.Proofs
open Go.PW

section long
variable {E : Env} {fb : Option (List Nat)} {ops : Array Oper} {o : Oper} {r r' : List Oper} {S : St} {K : St → Prop}
@[go_sem] theorem RunV_app : RunV E fb ops (List.append (o :: r) r') S K = RunV E fb ops (o :: List.append r r') S K := rfl
@[go_sem] theorem RunV_app0 : RunV E fb ops (List.append [] r') S K = RunV E fb ops r' S K := rfl
end long
attribute [go_sem] List.append_eq

def vA : Val := ⟨2, 1, 0, ⟨#[]⟩⟩
def vB : Val := ⟨2, 2, 0, ⟨#[]⟩⟩
def pA' : Piece := ⟨1, 9, [vA]⟩
def pB' : Piece := ⟨1, 9, [vB]⟩
def kL : List Ver := [⟨5, 1099511627776, pA'⟩]
def kM : List Ver := [⟨5, 9, pA'⟩, ⟨9, 1099511627776, pB'⟩]
def kN : List Ver := [⟨5, 9, pA'⟩, ⟨9, 1099511627776, pA'⟩]
def kC : List Ver := [⟨5, 1099511627776, pA'⟩]
def kV : List Ver := [⟨9, 1099511627776, pB'⟩]
def kZ : List Ver := [⟨0, 0, ⟨0, 0, []⟩⟩]
def kS : List TSt := [⟨5, 9, [pA']⟩, ⟨9, 20, [pB']⟩]
theorem o1 : vSetOK [] 5 [pA'] = true := by kernel_rfl
theorem o2 : vSetOK kL 9 [pB'] = true := by kernel_rfl
theorem o3 : vSetOK kM 8 [pA'] = false := by kernel_rfl
theorem o4 : vSetOK kM 9 [pA'] = true := by kernel_rfl
theorem e1 : vSetOf [] 5 [pA'] = kL := by kernel_rfl
theorem e2 : vSetOf kL 9 [pB'] = kM := by kernel_rfl
theorem e4 : vSetOf kM 9 [pA'] = kN := by kernel_rfl
theorem e6 : vRight kM = true := by kernel_rfl
theorem e5 : vBetween kM 0 20 = kS := by
  rw [vBetween, if_pos e6, if_pos (by decide)]
  have n1 : vNext kM 0 20 = 5 := by kernel_rfl
  have n2 : vNext kM 5 20 = 9 := by kernel_rfl
  have n3 : vNext kM 9 20 = 20 := by kernel_rfl
  have s1 : betwStep kM 0 5 [] = [] := by kernel_rfl
  have s2 : betwStep kM 5 9 [] = [⟨5, 9, [pA']⟩] := by kernel_rfl
  have s3 : betwStep kM 9 20 [⟨5, 9, [pA']⟩] = kS := by kernel_rfl
  rw [betw_go (by decide), n1, s1, betw_go (by decide), n2, s2, betw_go (by decide), n3, s3, betw_end (by decide)]
theorem e7 : vacuum kM 9 = kV := by kernel_rfl
theorem e8 : vCoalesce kN = kC := by kernel_rfl
theorem e9 : vAt kM 8 = [pA'] := by kernel_rfl
theorem e10 : vAt kM 9 = [pB'] := by kernel_rfl
theorem e11 : vAt kM 4 = [] := by kernel_rfl
theorem e12 : vLast kM = 9 := by kernel_rfl
theorem e13 : vRight kZ = false := by kernel_rfl
theorem e14 : sameVers kM kM = true := by kernel_rfl
theorem e15 : sameVers kM kL = false := by kernel_rfl
theorem e16 : samePieces [pA'] [pA'] = true := samePieces_iff.2 rfl
theorem e17 : samePieces [pB'] [pB'] = true := samePieces_iff.2 rfl

set_option maxRecDepth 8000 in
set_option maxHeartbeats 16000000 in
theorem Try.kKnown : PureOK Try.prog 10 [] (.one (dB true)) := by
  have k1 := Try.kSet [] 5 [pA'] (by decide) (by decide) (by decide) (by decide)
  have k2 := Try.kSet kL 9 [pB'] (by decide) (by decide) (by decide) (by decide)
  have k3 := Try.kSet kM 8 [pA'] (by decide) (by decide) (by decide) (by decide)
  have k4 := Try.kSet kM 9 [pA'] (by decide) (by decide) (by decide) (by decide)
  have k5 := Try.kBetween kM 0 20 (by decide) (by decide)
  have k6 := Try.kRightV kM (by decide) (by decide)
  have k7 := Try.kVacuum kM 9 (by decide) (by decide)
  have k8 := Try.kCoalesceV kN (by decide) (by decide)
  have k9 := Try.kAtV kM 8 (by decide) (by decide)
  have k10 := Try.kAtV kM 9 (by decide) (by decide)
  have k11 := Try.kAtV kM 4 (by decide) (by decide)
  have k12 := Try.kLast kM (by decide) (by decide)
  have k13 := Try.kRightV kZ (by decide) (by decide)
  have k14 := Try.kSameV kM kM (by decide) (by decide)
  have k15 := Try.kSameV kM kL (by decide) (by decide)
  have k16 := Try.rSame [pA'] [pA'] (by decide) (by decide)
  have k17 := Try.rSame [pB'] [pB'] (by decide) (by decide)
  have k18 := Try.kPieces [pA'] (by decide)
  have k19 := Try.kPieces [pB'] (by decide)
  rw [if_pos o1, vSet, if_pos o1, e1] at k1
  rw [if_pos o2, vSet, if_pos o2, e2] at k2
  rw [if_neg (by rw [o3]; decide), vSet, if_neg (by rw [o3]; decide)] at k3
  rw [if_pos o4, vSet, if_pos o4, e4] at k4
  rw [e5] at k5
  rw [e6] at k6
  rw [e7] at k7
  rw [e8] at k8
  rw [e9] at k9
  rw [e10] at k10
  rw [e11] at k11
  rw [e12] at k12
  rw [e13] at k13
  rw [e14] at k14
  rw [e15] at k15
  rw [e16] at k16
  rw [e17] at k17
  have m1 : (((1 : Nat) : Int) == 1) = true := by decide
  have m2 : (((1 + 1 : Nat) : Int) == 2) = true := by decide
  have t0 : Int.toNat 0 = 0 := rfl
  have t1 : Int.toNat 1 = 1 := rfl
  refine Try.pure (md := []) Try.func10 rfl Try.call10 (by kernel_rfl) (by rfl) (by exact Nat.le_of_ble_eq_true rfl) ?_
  repeat' (first
    | with_reducible refine VC_seq fun K hK => ?_
    | with_reducible refine W_region ?_
    | with_reducible refine VC_block ?_
    | with_reducible refine VC_scope ?_
    | with_reducible refine VC_if ?_
    | with_reducible refine VC_skip ?_
    | with_reducible refine VC_exit ?_
    | with_reducible refine VC_ret ?_
    | (with_reducible refine G_not (fun h => ?_) (fun h => ?_) <;> (try simp only [h]))
    | (with_reducible refine G_cases (fun h => ?_) (fun h => ?_) <;> (try simp only [h]))
    | refine C_pure k1 rfl rfl (fun _ => rfl) ?_
    | refine C_pure k2 rfl rfl (fun _ => rfl) ?_
    | refine C_pure k3 rfl rfl (fun _ => rfl) ?_
    | refine C_pure k4 rfl rfl (fun _ => rfl) ?_
    | refine C_pure k5 rfl rfl (fun _ => rfl) ?_
    | refine C_pure k6 rfl rfl (fun _ => rfl) ?_
    | refine C_pure k7 rfl rfl (fun _ => rfl) ?_
    | refine C_pure k8 rfl rfl (fun _ => rfl) ?_
    | refine C_pure k9 rfl rfl (fun _ => rfl) ?_
    | refine C_pure k10 rfl rfl (fun _ => rfl) ?_
    | refine C_pure k11 rfl rfl (fun _ => rfl) ?_
    | refine C_pure k12 rfl rfl (fun _ => rfl) ?_
    | refine C_pure k13 rfl rfl (fun _ => rfl) ?_
    | refine C_pure k14 rfl rfl (fun _ => rfl) ?_
    | refine C_pure k15 rfl rfl (fun _ => rfl) ?_
    | refine C_pure k16 rfl rfl (fun _ => rfl) ?_
    | refine C_pure k17 rfl rfl (fun _ => rfl) ?_
    | refine C_pure k18 rfl rfl (fun _ => rfl) ?_
    | refine C_pure k19 rfl rfl (fun _ => rfl) ?_
    | (with_reducible refine hK _ ?_; clear hK K)
    | (clear hK K; with_reducible refine hK _ ?_; clear hK K)
    | (clear hK K; clear hK K; with_reducible refine hK _ ?_; clear hK K)
    | (clear hK K; clear hK K; clear hK K; with_reducible refine hK _ ?_; clear hK K)
    | (with_reducible refine todo ?_; simp +decide only [go_sem, m1, m2, t0, t1, kL, kM, kN, kC, kV, kS, pA', pB', vA, vB]))
  exact Ret_d rfl rfl
end Go.Proofs
