/-
  Parts of the proof, laid together: PwBl.
-/
import Derived.Test.YtemecklglapleaaGreatQ31

namespace Go.Proofs
open Go.PW
theorem y5y {α : Type} {P : Nat → α → Prop} {R : Nat → α → α → Prop} {x0 : α} (h0 : P 0 x0) (n : Nat) (step : ∀ i x, i < n → P i x → ∃ y, P (i + 1) y ∧ R i x y) :
 ∃ f : Nat → α, f 0 = x0 ∧ (∀ i, i ≤ n → P i (f i)) ∧ ∀ i, i < n → R i (f i) (f (i + 1)) := by
 classical
 let g : Nat → α := fun i => Nat.rec x0 (fun i x => if h : i < n ∧ P i x then Classical.choose (step i x h.1 h.2) else x) i
 have gs : ∀ i, g (i + 1) = if h : i < n ∧ P i (g i) then Classical.choose (step i (g i) h.1 h.2) else g i := fun i => rfl
 have gp : ∀ i, i ≤ n → P i (g i) := by
  intro i
  induction i with
  | zero => exact fun _ => h0
  | succ i ih =>
    intro hi
    have hc : i < n ∧ P i (g i) := ⟨by omega, ih (by omega)⟩
    rw [gs, dif_pos hc]
    exact (Classical.choose_spec (step i (g i) hc.1 hc.2)).1
 refine ⟨g, rfl, gp, fun i hi => ?_⟩
 have hc : i < n ∧ P i (g i) := ⟨hi, gp i (by omega)⟩
 rw [gs, dif_pos hc]
 exact (Classical.choose_spec (step i (g i) hc.1 hc.2)).2
def zvb (A : AMap) (c : Nat) (l : List En) : AMap := match l.length with
 | 0 => A
 | n + 1 => upd (upd A (0, c + n) (some (.pr (c + n) (.mu 4 (l.map En.enc))))) (0, 0) (some (.cnt (c + n + 1)))
def z5x (c n : Nat) : Option Nat := match n with
 | 0 => none
 | n + 1 => some (c + n)
def slP (q : Option Nat) (sz n : Nat) : PV := match q with
 | none => .c (.full [])
 | some q => .c (.d (.sa q sz n))
theorem yxs {A : AMap} {c : Nat} {l : List En} (h : l.length = 0) : zvb A c l = A := by unfold zvb; rw [h]
theorem z1s {A : AMap} {c n : Nat} {l : List En} (h : l.length = n + 1) : zvb A c l = upd (upd A (0, c + n) (some (.pr (c + n) (.mu 4 (l.map En.enc))))) (0, 0) (some (.cnt (c + n + 1))) := by unfold zvb; rw [h]
theorem z1t {A : AMap} {c : Nat} {l : List En} {κ : Tok} (h0 : κ ≠ (0, 0)) (h1 : ∀ j, c ≤ j → κ ≠ (0, j)) : zvb A c l κ = A κ := by
 cases h : l.length with
 | zero => rw [yxs h]
 | succ n => rw [z1s h, zza _ _ h0, zza _ _ (h1 _ (by omega))]
theorem ykb {A : AMap} {c : Nat} {l : List En} : ∀ κ, A κ ≠ none → zvb A c l κ ≠ none := fun κ hκ => by
 cases h : l.length with
 | zero => rw [yxs h]; exact hκ
 | succ n =>
   rw [z1s h]
   unfold upd
   repeat' split
   all_goals first
    | exact hκ
    | simp
theorem yka {A : AMap} {c : Nat} {l : List En} (h : Cn A c) : Cn (zvb A c l) (c + l.length) := by
 have h1 := h.2.1
 cases hl : l.length with
 | zero => rw [yxs hl]; exact h
 | succ n =>
   rw [z1s hl]
   refine ⟨by rw [zzc]; rfl, by omega, fun j hj => ?_⟩
   rw [zza _ _ (by simp; omega), zza _ _ (by simp; omega)]
   exact h.2.2 j (by omega)
theorem z2l {A B : AMap} {c m : Nat} {l : List En} (hc : Cn A c) (hl : l.length = m + 1) (b0 : B (0, 0) = some (.cnt (c + m + 1))) (b1 : B (0, c + m) = some (.pr (c + m) (.mu 4 (l.map En.enc))))
 (b2 : ∀ κ, κ ≠ (0, 0) → κ ≠ (0, c + m) → (∀ j, m = j + 1 → κ ≠ (0, c + j)) → B κ = A κ) : ∀ κ, zvb A c l κ = none ∨ zvb A c l κ = B κ := fun κ => by
 have h1 := hc.2.1
 rw [z1s hl]
 by_cases e0 : κ = (0, 0)
 · subst e0; right; rw [zzc, b0]
 rw [zza _ _ e0]
 by_cases e1 : κ = (0, c + m)
 · subst e1; right; rw [zzc, b1]
 rw [zza _ _ e1]
 by_cases e2 : ∃ j, m = j + 1 ∧ κ = (0, c + j)
 · obtain ⟨j, _, rfl⟩ := e2
   exact .inl (hc.2.2 _ (by omega))
 · exact .inr (b2 κ e0 e1 (fun j h1 h2 => e2 ⟨j, h1, h2⟩)).symm
def finT (time : Int) (c : Nat) (t : Tb) : Tb := { t with q := z5x c (t.fin time).keys.length, keys := (t.fin time).keys }
def finA (time : Int) (A : AMap) (c : Nat) (t : Tb) : AMap := upd (zvb A c (t.fin time).keys) (0, t.p) (some (.pr t.p (.ob (finT time c t).cells)))
def finN (time : Int) (s : AMap × Bs × Nat) (i : Nat) : AMap × Bs × Nat := match s.2.1.tabs[i]? with
 | some t => (finA time s.1 s.2.2 t, { s.2.1 with tabs := s.2.1.tabs.set i (finT time s.2.2 t) }, s.2.2 + (t.fin time).keys.length)
 | none => s
def finI (time : Int) (L : List Tb) (i : Nat) : List Tb := (L.take i).map (Tb.fin time) ++ L.drop i
theorem z8y {time : Int} {L : List Tb} {i : Nat} : (finI time L i)[i]? = L[i]? := by
 unfold finI
 rcases Zlg i L.length with h | h
 · rw [List.getElem?_append_right (by simp; omega)]
   simp [Nat.min_eq_left (Nat.le_of_lt h)]
 · rw [List.getElem?_eq_none h, List.getElem?_eq_none (by simp; omega)]
theorem y0y {time : Int} {L : List Tb} {i : Nat} {t : Tb} (h : L[i]? = some t) : finI time L (i + 1) = (finI time L i).set i (t.fin time) := by
 obtain ⟨hi, e⟩ := List.getElem?_eq_some_iff.1 h
 unfold finI
 rw [zzw h, List.set_append_right _ _ (by simp; omega)]
 have e1 : L.drop i = t :: L.drop (i + 1) := by rw [← e, List.getElem_cons_drop]
 rw [e1]
 simp [Nat.min_eq_left (Nat.le_of_lt hi)]
structure ApI (A : AMap) (c : Nat) (L : List Tb) (s : AMap × Bs × Nat) : Prop where
 w : BW s.1 s.2.1 c s.2.2
 gt : c ≤ s.2.2
 low : Low c A s.1
 kA : ∀ κ, A κ ≠ none → s.1 κ ≠ none
 abs : s.2.1.abs = L
 p : s.2.1.p = c
theorem z5w {A : AMap} {c m : Nat} {l : List En} (h : l.length = m + 1) (hc : c + m ≠ 0) : zvb A c l (0, c + m) = some (.pr (c + m) (.mu 4 (l.map En.enc))) := by
 rw [z1s h, zza _ _ (by simp; omega), zzc]
theorem y0z {A : AMap} {c : Nat} {L : List Tb} {s : AMap × Bs × Nat} {i : Nat} {time : Int} (h : ApI A c (finI time L i) s) (hi : i < L.length) : ApI A c (finI time L (i + 1)) (finN time s i) := by
 obtain ⟨A', b', n⟩ := s
 have hw := h.w
 have habs := h.abs
 have hgt := h.gt
 simp only at hw habs hgt
 have hL := Zge hi
 obtain ⟨t, ht⟩ : ∃ t, b'.tabs[i]? = some t := by
  have h1 := z8y (time := time) (L := L) (i := i)
  rw [← habs, hL] at h1
  unfold Bs.abs at h1
  rw [List.getElem?_map] at h1
  cases e : b'.tabs[i]? with
  | none => rw [e] at h1; cases h1
  | some t => exact ⟨t, rfl⟩
 have eL : L[i] = t.abs := by
  have h1 := z8y (time := time) (L := L) (i := i)
  rw [← habs, hL] at h1
  unfold Bs.abs at h1
  rw [List.getElem?_map, ht] at h1
  exact (Option.some.inj h1).symm
 have htm := Zme ht
 have hT := hw.ba.2.2 t htm
 have htp := hw.cn.ne hT.1
 have es : finN time (A', b', n) i = (finA time A' n t, { b' with tabs := b'.tabs.set i (finT time n t) }, n + (t.fin time).keys.length) := by unfold finN; rw [ht]
 rw [es]
 have c0 : ∀ κ, κ ≠ (0, t.p) → finA time A' n t κ = zvb A' n (t.fin time).keys κ := fun κ hκ => by unfold finA; exact zza _ _ hκ
 have hcn := yka (l := (t.fin time).keys) hw.cn
 refine ⟨hw.tab ht rfl (fun q e => ?_) ⟨?_, hcn.2.1, fun j hj => ?_⟩ ⟨?_, ?_⟩ (fun κ h1 h2 h3 _ => ?_), by show c ≤ n + _; omega, h.low.trans (fun κ h1 h2 => ?_), fun κ hκ => ?_, ?_, h.p⟩
 · right
   have e' : z5x n (t.fin time).keys.length = some q := e
   unfold z5x at e'
   split at e'
   · cases e'
   · cases e'; omega
 · show finA time A' n t (0, 0) = _
   rw [c0 _ (by simp; omega)]; exact hcn.1
 · have hj' : n + (t.fin time).keys.length ≤ j := hj
   show finA time A' n t (0, j) = _
   rw [c0 _ (by simp; omega)]; exact hcn.2.2 j hj
 · show finA time A' n t (0, t.p) = _
   unfold finA; rw [zzc]; rfl
 · show ArAt _ (z5x n (t.fin time).keys.length) 4 ((t.fin time).keys.map En.enc)
   cases hl : (t.fin time).keys.length with
   | zero =>
     have : (t.fin time).keys = [] := List.eq_nil_of_length_eq_zero hl
     rw [this]; rfl
   | succ m =>
     show finA time A' n t (0, n + m) = _
     rw [c0 _ (by simp; omega), z5w hl (by omega)]
 · show finA time A' n t κ = _
   rw [c0 _ h3, z1t h2 (fun j hj e => by subst e; exact h1 (hw.cn.2.2 j hj))]
 · show finA time A' n t κ = _
   have hk := (hw.lt t htm).1
   rw [c0 _ (by rintro rfl; simp at h2; omega), z1t h1 (fun j hj e => by subst e; simp at h2; omega)]
 · show finA time A' n t κ ≠ none
   unfold finA upd
   split
   · simp
   · exact ykb κ (h.kA κ hκ)
 · show (b'.tabs.set i (finT time n t)).map Tb.abs = _
   rw [List.map_set, y0y hL, eL, ← habs]
   rfl
end Go.Proofs
