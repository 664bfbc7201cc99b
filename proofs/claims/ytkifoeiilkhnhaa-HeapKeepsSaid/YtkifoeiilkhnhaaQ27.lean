import Derived.Test.YtkifoeiilkhnhaaQ26

/-
  The search in plain Lean: records that lie one behind the other are found; what was left over from older turns is not.
-/

namespace Go.Proofs
open Go.PW
/-- The places of a record's parts. -/
def pcK (t : Nat) (sm : List UInt8) : List (List UInt8) → List Pc
  | [] => []
  | [p] => [⟨t, sm, p, false⟩]
  | p :: q :: r => ⟨t, sm, p, true⟩ :: pcK t sm (q :: r)
def pcsR (t : Nat) (s : List UInt8) : List Pc := pcK t (sum4 s) (partsL s)
/-- The places of records, each with the turn in which it was written. -/
def pcs : List (Nat × List UInt8) → List Pc
  | [] => []
  | r :: l => pcsR r.1 r.2 ++ pcs l
theorem pcK_len (t : Nat) (sm : List UInt8) : ∀ l, (pcK t sm l).length = l.length
  | [] => rfl
  | [_] => rfl
  | _ :: q :: r => by
    show (pcK t sm (q :: r)).length + 1 = (q :: r).length + 1
    rw [pcK_len t sm (q :: r)]
theorem pcK_turn (t : Nat) (sm : List UInt8) : ∀ l, ∀ p ∈ pcK t sm l, p.t = t
  | [], _, h => by cases h
  | [_], p, h => by rw [List.mem_singleton.1 h]
  | _ :: q :: r, p, h => by
    rcases List.mem_cons.1 h with e | h
    · rw [e]
    · exact pcK_turn t sm (q :: r) p h
theorem partsK_cat : ∀ (k : Nat) (s : List UInt8), s.length ≤ k → (partsK k s).flatten = s
  | 0, s, h => by
    have : s = [] := List.length_eq_zero_iff.1 (by omega)
    rw [this]; rfl
  | k + 1, s, h => by
    unfold partsK
    by_cases hs : 100 < s.length
    · rw [if_pos hs, List.flatten_cons, partsK_cat k (s.drop 100) (by rw [List.length_drop]; omega), List.take_append_drop]
    · rw [if_neg hs]; simp
theorem partsL_cat (s : List UInt8) : (partsL s).flatten = s := partsK_cat _ s (Nat.le_refl _)
theorem partsK_ne : ∀ (k : Nat) (s : List UInt8), partsK k s ≠ []
  | 0, s => by simp [partsK]
  | k + 1, s => by unfold partsK; split <;> simp
/-- Of a record's parts, behind the first, none is empty. -/
theorem partsK_tail : ∀ (k : Nat) (s : List UInt8), s.length ≤ k → ∀ p ∈ (partsK k s).tail, p ≠ []
  | 0, s, h, p, hp => by simp [partsK] at hp
  | k + 1, s, h, p, hp => by
    unfold partsK at hp
    by_cases hs : 100 < s.length
    · rw [if_pos hs, List.tail_cons] at hp
      cases hk : partsK k (s.drop 100) with
      | nil => exact (partsK_ne _ _ hk).elim
      | cons q r =>
        rw [hk] at hp
        rcases List.mem_cons.1 hp with e | hp
        · have hc := partsK_cat k (s.drop 100) (by rw [List.length_drop]; omega)
          intro e2
          rw [hk] at hc
          have hq : q = [] := by rw [← e]; exact e2
          cases k with
          | zero => simp at h; omega
          | succ k =>
            unfold partsK at hk
            split at hk
            · rename_i h3
              have : q = (s.drop 100).take 100 := (List.cons.inj hk).1.symm
              rw [hq] at this
              have := congrArg List.length this
              rw [List.length_take] at this
              simp at this
              simp at h3
              omega
            · have : q = s.drop 100 := (List.cons.inj hk).1.symm
              rw [hq] at this
              have := congrArg List.length this
              rw [List.length_drop] at this
              simp at this
              omega
        · exact partsK_tail k (s.drop 100) (by rw [List.length_drop]; omega) p (by rw [hk]; exact hp)
    · rw [if_neg hs] at hp
      cases hp
theorem partsL_ne (s : List UInt8) : partsL s ≠ [] := partsK_ne _ s
theorem partsL_tail (s : List UInt8) : ∀ p ∈ (partsL s).tail, p ≠ [] := partsK_tail _ s (Nat.le_refl _)

/-! The search. -/
section scan
variable {R S : Nat → Option Pc} {τ : Nat}
theorem scan_mono (R : Nat → Option Pc) (τ : Nat) : ∀ (k i : Nat) (x : Sc), x.recs.length ≤ (scanK R τ k i x).recs.length
  | 0, _, _ => Nat.le_refl _
  | k + 1, i, x => by
    unfold scanK
    cases R i with
    | none => exact Nat.le_refl _
    | some p =>
      simp only
      cases hs : scStep τ i x p with
      | none => exact Nat.le_refl _
      | some x' =>
        simp only
        refine Nat.le_trans ?_ (scan_mono R τ k (i + 1) x')
        unfold scStep at hs
        split at hs
        · cases hs
        · split at hs
          · cases hs
          · split at hs
            · cases hs; exact Nat.le_refl _
            · split at hs
              · cases hs
              · cases hs; simp
/-- A step: none; or on, within a record; or on, behind one. -/
theorem scStep_cases (τ i : Nat) (x : Sc) (p : Pc) : scStep τ i x p = none ∨ (p.more = true ∧ scStep τ i x p = some { x with s := x.s ++ p.pt, want := p.sm, now := p.t }) ∨
    (p.more = false ∧ scStep τ i x p = some ⟨[], p.sm, i + 1, p.t, x.recs ++ [x.s ++ p.pt], i + 1⟩) := by
  unfold scStep
  split
  · exact .inl rfl
  · split
    · exact .inl rfl
    · split
      · rename_i h; exact .inr (.inl ⟨h, rfl⟩)
      · rename_i h
        split
        · exact .inl rfl
        · exact .inr (.inr ⟨by simpa using h, rfl⟩)
theorem scStep_now {i : Nat} {x : Sc} {p : Pc} (h1 : i ≠ x.first) (h2 : p.t ≠ x.now) : scStep τ i x p = none := by
  unfold scStep
  split
  · rfl
  · rw [if_pos ⟨h1, .inl h2⟩]
theorem scStep_old {i : Nat} {x : Sc} {p : Pc} (h : p.t < x.now) : scStep τ i x p = none := by
  unfold scStep; rw [if_pos (.inl h)]
/-- From here the search finds no record. -/
def Dead (R : Nat → Option Pc) (τ k i : Nat) (x : Sc) : Prop := (scanK R τ k i x).recs.length = x.recs.length
theorem Dead_used : ∀ (k i : Nat) (x : Sc), Dead R τ k i x → (scanK R τ k i x).recs = x.recs ∧ (scanK R τ k i x).used = x.used
  | 0, _, _, _ => ⟨rfl, rfl⟩
  | k + 1, i, x, h => by
    unfold Dead at h
    unfold scanK at h ⊢
    cases hR : R i with
    | none => exact ⟨rfl, rfl⟩
    | some p =>
      rw [hR] at h
      simp only at h ⊢
      rcases scStep_cases τ i x p with e | ⟨_, e⟩ | ⟨_, e⟩
      · rw [e]; exact ⟨rfl, rfl⟩
      · rw [e] at h ⊢
        exact Dead_used k (i + 1) _ h
      · rw [e] at h
        have := scan_mono R τ k (i + 1) ⟨[], p.sm, i + 1, p.t, x.recs ++ [x.s ++ p.pt], i + 1⟩
        simp only [List.length_append, List.length_singleton] at this h
        omega
/-- What lies over it, of a later turn, does not bring to life a record that was dead: within a record. -/
theorem dead_mid {T : Nat} : ∀ (k i : Nat) (x : Sc), x.now < T → i ≠ x.first → (∀ j, i ≤ j → R j = S j ∨ ∃ p, R j = some p ∧ p.t = T) → x.first ≤ i → Dead S τ k i x → Dead R τ k i x
  | 0, _, _, _, _, _, _, _ => rfl
  | k + 1, i, x, h1, h2, hR, hf, h => by
    unfold Dead at h ⊢
    rcases hR i (Nat.le_refl i) with e | ⟨p, e, ht⟩
    · unfold scanK at h ⊢
      rw [e]
      cases hS : S i with
      | none => rfl
      | some p =>
        rw [hS] at h
        simp only at h ⊢
        rcases scStep_cases τ i x p with e2 | ⟨_, e2⟩ | ⟨_, e2⟩
        · rw [e2]
        · rw [e2] at h ⊢
          have hnow : p.t = x.now := Classical.byContradiction fun hn => by rw [scStep_now h2 hn] at e2; cases e2
          exact dead_mid k (i + 1) _ (by show p.t < T; omega) (by show i + 1 ≠ x.first; omega) (fun j hj => hR j (by omega)) (by show x.first ≤ i + 1; omega) h
        · rw [e2] at h
          have := scan_mono S τ k (i + 1) ⟨[], p.sm, i + 1, p.t, x.recs ++ [x.s ++ p.pt], i + 1⟩
          simp only [List.length_append, List.length_singleton] at this h
          omega
    · unfold scanK
      rw [e]
      simp only
      rw [scStep_now h2 (by omega)]
/-- Likewise at a record's beginning, if that is as it was. -/
theorem dead_first {T : Nat} (k i : Nat) (x : Sc) (hR : ∀ j, i ≤ j → R j = S j ∨ ∃ p, R j = some p ∧ p.t = T) (hi : R i = S i) (hS : ∀ p, S i = some p → p.t < T) (hf : x.first = i) (h : Dead S τ k i x) : Dead R τ k i x := by
  cases k with
  | zero => exact rfl
  | succ k =>
    unfold Dead at h ⊢
    unfold scanK at h ⊢
    rw [hi]
    cases hSi : S i with
    | none => rfl
    | some p =>
      rw [hSi] at h
      simp only at h ⊢
      rcases scStep_cases τ i x p with e2 | ⟨_, e2⟩ | ⟨_, e2⟩
      · rw [e2]
      · rw [e2] at h ⊢
        exact dead_mid k (i + 1) _ (hS p hSi) (by show i + 1 ≠ x.first; omega) (fun j hj => hR j (by omega)) (by show x.first ≤ i + 1; omega) h
      · rw [e2] at h
        have := scan_mono S τ k (i + 1) ⟨[], p.sm, i + 1, p.t, x.recs ++ [x.s ++ p.pt], i + 1⟩
        simp only [List.length_append, List.length_singleton] at this h
        omega
/-- The search goes on over a record's parts, as far as they are there. -/
theorem scan_parts {t : Nat} {sm : List UInt8} (ht : t ≤ τ) : ∀ (cut : List (List UInt8)) (k i : Nat) (x : Sc), cut ≠ [] → x.now ≤ t → (i = x.first ∨ (x.now = t ∧ x.want = sm ∧ ∀ p ∈ cut, p ≠ [])) → x.first ≤ i → (∀ p ∈ cut.tail, p ≠ []) → sum4 (x.s ++ cut.flatten) = sm →
    (∀ j p, (pcK t sm cut)[j]? = some p → R (i + j) = some p) → scanK R τ (k + cut.length) i x = scanK R τ k (i + cut.length) ⟨[], sm, i + cut.length, t, x.recs ++ [x.s ++ cut.flatten], i + cut.length⟩
  | [], _, _, _, h, _, _, _, _, _, _ => (h rfl).elim
  | [q], k, i, x, _, h1, h2, hf, _, hs, hR => by
    have e := hR 0 ⟨t, sm, q, false⟩ rfl
    show scanK R τ (k + 1) i x = _
    rw [Nat.add_zero] at e
    have hst : scStep τ i x ⟨t, sm, q, false⟩ = some ⟨[], sm, i + 1, t, x.recs ++ [x.s ++ q], i + 1⟩ := by
      unfold scStep
      rw [if_neg (by show ¬ (t < x.now ∨ τ < t); omega), if_neg, if_neg (by simp), if_neg]
      · simpa using hs
      · rintro ⟨h3, h4⟩
        rcases h2 with h2 | ⟨h2, h5, h6⟩
        · exact h3 h2
        · rcases h4 with h4 | h4 | h4
          · exact h4 h2.symm
          · exact h4 h5.symm
          · exact h6 q List.mem_cons_self h4
    rw [scanK_go e hst]
    simp
  | q :: q' :: r, k, i, x, _, h1, h2, hf, ht', hs, hR => by
    have e := hR 0 ⟨t, sm, q, true⟩ rfl
    rw [Nat.add_zero] at e
    have hst : scStep τ i x ⟨t, sm, q, true⟩ = some { x with s := x.s ++ q, want := sm, now := t } := by
      unfold scStep
      rw [if_neg (by show ¬ (t < x.now ∨ τ < t); omega), if_neg, if_pos rfl]
      rintro ⟨h3, h4⟩
      rcases h2 with h2 | ⟨h2, h5, h6⟩
      · exact h3 h2
      · rcases h4 with h4 | h4 | h4
        · exact h4 h2.symm
        · exact h4 h5.symm
        · exact h6 q List.mem_cons_self h4
    show scanK R τ ((k + (q' :: r).length) + 1) i x = _
    rw [scanK_go e hst]
    have ih := scan_parts ht (q' :: r) k (i + 1) { x with s := x.s ++ q, want := sm, now := t } (by simp) (Nat.le_refl _) (.inr ⟨rfl, rfl, fun p hp => ht' p hp⟩) (by show x.first ≤ i + 1; omega) (fun p hp => ht' p (List.mem_cons_of_mem _ hp))
      (by show sum4 ((x.s ++ q) ++ _) = sm; rw [List.append_assoc, ← List.flatten_cons]; exact hs) (fun j p hj => by
        have := hR (j + 1) p hj
        rw [show i + 1 + j = i + (j + 1) by omega]; exact this)
    rw [ih]
    have e1 : i + 1 + (q' :: r).length = i + (q :: q' :: r).length := by simp only [List.length_cons]; omega
    have e2 : (x.s ++ q) ++ (q' :: r).flatten = x.s ++ (q :: q' :: r).flatten := by rw [List.append_assoc, ← List.flatten_cons]
    rw [e1]
    show scanK R τ k _ ⟨[], sm, _, t, x.recs ++ [(x.s ++ q) ++ (q' :: r).flatten], _⟩ = _
    rw [e2]
theorem scan_rec {t : Nat} {s : List UInt8} (ht : t ≤ τ) (k i : Nat) (x : Sc) (h1 : x.now ≤ t) (h2 : i = x.first) (h3 : x.s = []) (hR : ∀ j p, (pcsR t s)[j]? = some p → R (i + j) = some p) :
    scanK R τ (k + (pcsR t s).length) i x = scanK R τ k (i + (pcsR t s).length) ⟨[], sum4 s, i + (pcsR t s).length, t, x.recs ++ [s], i + (pcsR t s).length⟩ := by
  have hc := partsL_cat s
  have := scan_parts (R := R) (sm := sum4 s) ht (partsL s) k i x (partsL_ne s) h1 (.inl h2) (by omega) (partsL_tail s) (by rw [h3, hc]; rfl) hR
  rw [h3, hc] at this
  unfold pcsR
  rw [pcK_len]
  exact this
end scan
end Go.Proofs

/-
  The search in plain Lean: rows of records; what a crash leaves of them.
-/

namespace Go.Proofs
open Go.PW
/-- The last record's turn. -/
def lastT : Nat → List (Nat × List UInt8) → Nat
  | b, [] => b
  | _, r :: l => lastT r.1 l
/-- Turns do not fall. -/
def riseT (τ : Nat) : Nat → List (Nat × List UInt8) → Prop
  | b, [] => b ≤ τ
  | b, r :: l => b ≤ r.1 ∧ riseT τ r.1 l
theorem riseT_le {τ : Nat} : ∀ {b : Nat} {l : List (Nat × List UInt8)}, riseT τ b l → b ≤ τ
  | _, [], h => h
  | _, _ :: _, h => Nat.le_trans h.1 (riseT_le h.2)
theorem riseT_last {τ : Nat} : ∀ {b : Nat} {l : List (Nat × List UInt8)}, riseT τ b l → lastT b l ≤ τ
  | _, [], h => h
  | _, r :: l, h => riseT_last (b := r.1) (l := l) h.2
theorem riseT_mono {τ τ' : Nat} (hτ : τ ≤ τ') : ∀ {b : Nat} {l : List (Nat × List UInt8)}, riseT τ b l → riseT τ' b l
  | _, [], h => Nat.le_trans h hτ
  | _, _ :: _, h => ⟨h.1, riseT_mono hτ h.2⟩
theorem riseT_app {τ : Nat} : ∀ {b : Nat} {l l' : List (Nat × List UInt8)}, riseT τ b l → riseT τ (lastT b l) l' → riseT τ b (l ++ l')
  | _, [], _, _, h' => h'
  | _, _ :: _, _, h, h' => ⟨h.1, riseT_app h.2 h'⟩
theorem lastT_app : ∀ (b : Nat) (l l' : List (Nat × List UInt8)), lastT b (l ++ l') = lastT (lastT b l) l'
  | _, [], _ => rfl
  | _, _ :: l, l' => lastT_app _ l l'
theorem lastT_const {T : Nat} : ∀ (b : Nat) (l : List (Nat × List UInt8)), (∀ r ∈ l, r.1 = T) → l ≠ [] → lastT b l = T
  | _, [], _, h => (h rfl).elim
  | _, [r], h, _ => h r List.mem_cons_self
  | _, r :: q :: l, h, _ => lastT_const r.1 (q :: l) (fun x hx => h x (List.mem_cons_of_mem _ hx)) (by simp)
theorem riseT_const {T τ b : Nat} (hb : b ≤ T) (hT : T ≤ τ) : ∀ (l : List (Nat × List UInt8)), (∀ r ∈ l, r.1 = T) → riseT τ b l
  | [], _ => Nat.le_trans hb hT
  | r :: l, h => by
    have e := h r List.mem_cons_self
    refine ⟨by rw [e]; exact hb, ?_⟩
    rw [e]
    exact riseT_const (Nat.le_refl T) hT l (fun x hx => h x (List.mem_cons_of_mem _ hx))
theorem pcs_app : ∀ (l l' : List (Nat × List UInt8)), pcs (l ++ l') = pcs l ++ pcs l'
  | [], _ => rfl
  | r :: l, l' => by
    show pcsR r.1 r.2 ++ pcs (l ++ l') = (pcsR r.1 r.2 ++ pcs l) ++ pcs l'
    rw [pcs_app l l', List.append_assoc]
theorem pcs_turn {T : Nat} : ∀ (l : List (Nat × List UInt8)), (∀ r ∈ l, r.1 = T) → ∀ p ∈ pcs l, p.t = T
  | [], _, _, h => by cases h
  | r :: l, hl, p, h => by
    rcases List.mem_append.1 h with h | h
    · rw [pcK_turn _ _ _ p h]; exact hl r List.mem_cons_self
    · exact pcs_turn l (fun x hx => hl x (List.mem_cons_of_mem _ hx)) p h
theorem pcsR_ne (t : Nat) (s : List UInt8) : 0 < (pcsR t s).length := by
  unfold pcsR
  rw [pcK_len]
  exact List.length_pos_iff.2 (partsL_ne s)
theorem app_left {α : Type} {a b : List α} {j : Nat} {p : α} (h : a[j]? = some p) : (a ++ b)[j]? = some p := by
  rw [List.getElem?_append_left (List.getElem?_eq_some_iff.1 h).1]; exact h
theorem app_right {α : Type} {a b : List α} {j : Nat} {p : α} (h : b[j]? = some p) : (a ++ b)[a.length + j]? = some p := by
  rw [List.getElem?_append_right (by omega), show a.length + j - a.length = j by omega]; exact h
section scan
variable {R S : Nat → Option Pc} {τ T : Nat}
theorem scan_tau {τ' : Nat} : ∀ (k i : Nat) (x : Sc), (∀ j, i ≤ j → ∀ p, R j = some p → p.t ≤ τ ∧ p.t ≤ τ') → scanK R τ k i x = scanK R τ' k i x
  | 0, _, _, _ => rfl
  | k + 1, i, x, h => by
    unfold scanK
    cases hR : R i with
    | none => rfl
    | some p =>
      obtain ⟨h1, h2⟩ := h i (Nat.le_refl i) p hR
      have e : scStep τ i x p = scStep τ' i x p := by
        unfold scStep
        by_cases hp : p.t < x.now
        · rw [if_pos (.inl hp), if_pos (.inl hp)]
        · have c1 : ¬ (p.t < x.now ∨ τ < p.t) := by omega
          have c2 : ¬ (p.t < x.now ∨ τ' < p.t) := by omega
          rw [if_neg c1, if_neg c2]
      simp only
      rw [e]
      cases scStep τ' i x p with
      | none => rfl
      | some x' => exact scan_tau k (i + 1) x' (fun j hj => h j (by omega))
/-- What is found from here on does not depend on what was found before. -/
theorem scan_rel : ∀ (k i : Nat) (x y : Sc), x.s = y.s → x.first = y.first → x.now = y.now → (x.want = y.want ∨ i = x.first) → (scanK R τ k i x).recs.length + y.recs.length = (scanK R τ k i y).recs.length + x.recs.length
  | 0, _, x, y, _, _, _, _ => Nat.add_comm _ _
  | k + 1, i, x, y, h1, h2, h3, h4 => by
    unfold scanK
    cases hR : R i with
    | none => exact Nat.add_comm _ _
    | some p =>
      simp only
      have e : scStep τ i x p = none ∧ scStep τ i y p = none ∨ (scStep τ i x p = some { x with s := x.s ++ p.pt, want := p.sm, now := p.t } ∧ scStep τ i y p = some { y with s := y.s ++ p.pt, want := p.sm, now := p.t }) ∨
          (scStep τ i x p = some ⟨[], p.sm, i + 1, p.t, x.recs ++ [x.s ++ p.pt], i + 1⟩ ∧ scStep τ i y p = some ⟨[], p.sm, i + 1, p.t, y.recs ++ [y.s ++ p.pt], i + 1⟩) := by
        unfold scStep
        rw [h1, h2, h3]
        by_cases c1 : p.t < y.now ∨ τ < p.t
        · rw [if_pos c1, if_pos c1]; exact .inl ⟨rfl, rfl⟩
        · rw [if_neg c1, if_neg c1]
          have c2 : (i ≠ y.first ∧ (p.t ≠ y.now ∨ p.sm ≠ x.want ∨ p.pt = [])) ↔ (i ≠ y.first ∧ (p.t ≠ y.now ∨ p.sm ≠ y.want ∨ p.pt = [])) := by
            rcases h4 with h4 | h4
            · rw [h4]
            · rw [h2] at h4
              constructor <;> (rintro ⟨a, _⟩; exact (a h4).elim)
          by_cases c3 : i ≠ y.first ∧ (p.t ≠ y.now ∨ p.sm ≠ y.want ∨ p.pt = [])
          · rw [if_pos (c2.2 c3), if_pos c3]; exact .inl ⟨rfl, rfl⟩
          · rw [if_neg (fun h => c3 (c2.1 h)), if_neg c3]
            by_cases c4 : p.more = true
            · rw [if_pos c4, if_pos c4]; exact .inr (.inl ⟨rfl, rfl⟩)
            · rw [if_neg c4, if_neg c4]
              by_cases c5 : sum4 (y.s ++ p.pt) ≠ p.sm
              · rw [if_pos c5, if_pos c5]; exact .inl ⟨rfl, rfl⟩
              · rw [if_neg c5, if_neg c5]; exact .inr (.inr ⟨rfl, rfl⟩)
      rcases e with ⟨e1, e2⟩ | ⟨e1, e2⟩ | ⟨e1, e2⟩ <;> rw [e1, e2]
      · exact Nat.add_comm _ _
      · exact scan_rel k (i + 1) { x with s := x.s ++ p.pt, want := p.sm, now := p.t } { y with s := y.s ++ p.pt, want := p.sm, now := p.t } (by show x.s ++ p.pt = y.s ++ p.pt; rw [h1]) h2 rfl (.inl rfl)
      · have := scan_rel k (i + 1) ⟨[], p.sm, i + 1, p.t, x.recs ++ [x.s ++ p.pt], i + 1⟩ ⟨[], p.sm, i + 1, p.t, y.recs ++ [y.s ++ p.pt], i + 1⟩ rfl rfl rfl (.inl rfl)
        simp only [List.length_append, List.length_singleton] at this
        simp only
        omega
theorem dead_any {k i now : Nat} {w w' : List UInt8} {rs rs' : List (List UInt8)} {u u' : Nat} (h : Dead R τ k i ⟨[], w, i, now, rs, u⟩) : Dead R τ k i ⟨[], w', i, now, rs', u'⟩ := by
  unfold Dead at h ⊢
  have := scan_rel (R := R) (τ := τ) k i ⟨[], w, i, now, rs, u⟩ ⟨[], w', i, now, rs', u'⟩ rfl rfl rfl (.inr rfl)
  simp only at this h ⊢
  omega
/-- Records that lie one behind the other are found. -/
theorem scan_list : ∀ (l : List (Nat × List UInt8)) (k i : Nat) (x : Sc), riseT τ x.now l → i = x.first → x.s = [] → x.used = x.first → (∀ j p, (pcs l)[j]? = some p → R (i + j) = some p) →
    ∃ w, scanK R τ (k + (pcs l).length) i x = scanK R τ k (i + (pcs l).length) ⟨[], w, i + (pcs l).length, lastT x.now l, x.recs ++ l.map (·.2), i + (pcs l).length⟩
  | [], k, i, ⟨s, w, fi, now, rs, u⟩, _, h1, h2, h3, _ => by
    simp only at h1 h2 h3
    subst h1; subst h2; subst h3
    refine ⟨w, ?_⟩
    show scanK R τ k u _ = scanK R τ k u ⟨[], w, u, now, rs ++ [], u⟩
    rw [List.append_nil]
  | r :: l, k, i, x, hr, h1, h2, h3, hR => by
    have hl : (pcs (r :: l)).length = (pcsR r.1 r.2).length + (pcs l).length := List.length_append
    have e := scan_rec (R := R) (τ := τ) (t := r.1) (s := r.2) (riseT_le hr.2) (k + (pcs l).length) i x hr.1 h1 h2 (fun j p hj => hR j p (app_left hj))
    obtain ⟨w, ih⟩ := scan_list l k (i + (pcsR r.1 r.2).length) ⟨[], sum4 r.2, i + (pcsR r.1 r.2).length, r.1, x.recs ++ [r.2], i + (pcsR r.1 r.2).length⟩ hr.2 rfl rfl rfl (fun j p hj => by
      rw [Nat.add_assoc]; exact hR _ p (app_right hj))
    refine ⟨w, ?_⟩
    rw [hl, show k + ((pcsR r.1 r.2).length + (pcs l).length) = k + (pcs l).length + (pcsR r.1 r.2).length by omega, e, ih, show i + ((pcsR r.1 r.2).length + (pcs l).length) = i + (pcsR r.1 r.2).length + (pcs l).length by omega]
    simp only [List.append_assoc]
    rfl
/-- A record of which a part is not there is not found: within it. -/
theorem dead_part {sm : List UInt8} : ∀ (cut : List (List UInt8)) (k i : Nat) (x : Sc), x.now = T → (∀ j p, (pcK T sm cut)[j]? = some p → R (i + j) = some p ∨ R (i + j) = none ∨ ∃ q, R (i + j) = some q ∧ q.t < T) →
    (∃ j p, (pcK T sm cut)[j]? = some p ∧ R (i + j) ≠ some p) → Dead R τ k i x
  | [], _, _, _, _, _, ⟨j, p, h, _⟩ => by simp [pcK] at h
  | q :: r, k, i, x, hn, hR, ⟨j, p, hj, hne⟩ => by
    cases k with
    | zero => exact rfl
    | succ k =>
      have hd : ∃ m, (pcK T sm (q :: r))[0]? = some ⟨T, sm, q, m⟩ ∧ (m = false → r = []) := by
        cases r with
        | nil => exact ⟨false, rfl, fun _ => rfl⟩
        | cons q' r => exact ⟨true, rfl, fun h => by cases h⟩
      obtain ⟨m, hm, hmr⟩ := hd
      unfold Dead
      unfold scanK
      rcases hR 0 _ hm with h | h | ⟨q', h, hq⟩ <;> rw [Nat.add_zero] at h <;> rw [h]
      · simp only
        rcases scStep_cases τ i x ⟨T, sm, q, m⟩ with e | ⟨_, e⟩ | ⟨hm2, _⟩
        · rw [e]
        · rw [e]
          cases r with
          | nil =>
            have : j = 0 := by
              have := (List.getElem?_eq_some_iff.1 hj).1
              simp [pcK] at this
              exact this
            subst this
            rw [hj] at hm
            cases hm
            exact (hne h).elim
          | cons q2 r2 =>
            have hj0 : j ≠ 0 := fun e => by
              subst e
              rw [hj] at hm
              cases hm
              exact hne h
            obtain ⟨j', rfl⟩ : ∃ j', j = j' + 1 := ⟨j - 1, by omega⟩
            exact dead_part (q2 :: r2) k (i + 1) _ rfl (fun a b hab => by rw [show i + 1 + a = i + (a + 1) by omega]; exact hR (a + 1) b hab) ⟨j', p, hj, by rw [show i + 1 + j' = i + (j' + 1) by omega]; exact hne⟩
        · have hr := hmr hm2
          subst hr
          have : j = 0 := by
            have := (List.getElem?_eq_some_iff.1 hj).1
            simp [pcK] at this
            exact this
          subst this
          rw [hj] at hm
          cases hm
          exact (hne h).elim
      · simp only
        rw [scStep_old (by omega)]
/-- What a crash leaves is read as the first ones of the records that were new. -/
theorem scan_new (hS : ∀ j p, S j = some p → p.t < T) : ∀ (l : List (Nat × List UInt8)) (k D now : Nat) (w : List UInt8) (rs : List (List UInt8)), (∀ r ∈ l, r.1 = T) → now ≤ T → T ≤ τ → (pcs l).length ≤ k →
    (∀ j, D ≤ j → R j = S j ∨ ∃ m p, j = D + m ∧ (pcs l)[m]? = some p ∧ R j = some p) → (now = T ∨ Dead S τ k D ⟨[], w, D, now, rs, D⟩) →
    ∃ m w', m ≤ l.length ∧ (∀ j p, (pcs (l.take m))[j]? = some p → R (D + j) = some p) ∧ (scanK R τ k D ⟨[], w, D, now, rs, D⟩).recs = rs ++ (l.take m).map (·.2) ∧ (scanK R τ k D ⟨[], w, D, now, rs, D⟩).used = D + (pcs (l.take m)).length ∧
      Dead R τ (k - (pcs (l.take m)).length) (D + (pcs (l.take m)).length) ⟨[], w', D + (pcs (l.take m)).length, lastT now (l.take m), rs ++ (l.take m).map (·.2), D + (pcs (l.take m)).length⟩ := by
  have stop : ∀ (l : List (Nat × List UInt8)) (k D now : Nat) (w : List UInt8) (rs : List (List UInt8)), Dead R τ k D ⟨[], w, D, now, rs, D⟩ →
      ∃ m w', m ≤ l.length ∧ (∀ j p, (pcs (l.take m))[j]? = some p → R (D + j) = some p) ∧ (scanK R τ k D ⟨[], w, D, now, rs, D⟩).recs = rs ++ (l.take m).map (·.2) ∧ (scanK R τ k D ⟨[], w, D, now, rs, D⟩).used = D + (pcs (l.take m)).length ∧
        Dead R τ (k - (pcs (l.take m)).length) (D + (pcs (l.take m)).length) ⟨[], w', D + (pcs (l.take m)).length, lastT now (l.take m), rs ++ (l.take m).map (·.2), D + (pcs (l.take m)).length⟩ := fun l k D now w rs hd => by
    obtain ⟨e1, e2⟩ := Dead_used _ _ _ hd
    refine ⟨0, w, Nat.zero_le _, fun j p h => by simp [pcs] at h, by rw [e1]; simp, by rw [e2]; rfl, ?_⟩
    show Dead R τ k D ⟨[], w, D, now, rs ++ [], D⟩
    rw [List.append_nil]; exact hd
  have deadS : ∀ (k D now : Nat) (w : List UInt8) (rs : List (List UInt8)), R D = S D → (∀ j, D ≤ j → R j = S j ∨ ∃ p, R j = some p ∧ p.t = T) → (now = T ∨ Dead S τ k D ⟨[], w, D, now, rs, D⟩) → Dead R τ k D ⟨[], w, D, now, rs, D⟩ := fun k D now w rs hD hR hd => by
    rcases hd with rfl | hd
    · cases k with
      | zero => exact rfl
      | succ k =>
        unfold Dead scanK
        rw [hD]
        cases h : S D with
        | none => rfl
        | some p =>
          simp only
          rw [scStep_old (hS D p h)]
    · exact dead_first (T := T) k D _ hR hD (fun p h => hS D p h) rfl hd
  intro l
  induction l with
  | nil =>
    intro k D now w rs _ hn hτ _ hR hd
    have hRS : ∀ j, D ≤ j → R j = S j := fun j hj => (hR j hj).elim id fun ⟨m, p, _, h, _⟩ => by simp [pcs] at h
    exact stop [] k D now w rs (deadS k D now w rs (hRS D (Nat.le_refl D)) (fun j hj => .inl (hRS j hj)) hd)
  | cons r l ih =>
    intro k D now w rs hT hn hτ hk hR hd
    have hr1 := hT r List.mem_cons_self
    have hl : (pcs (r :: l)).length = (pcsR r.1 r.2).length + (pcs l).length := List.length_append
    have hpos := pcsR_ne r.1 r.2
    have hRT : ∀ j, D ≤ j → R j = S j ∨ ∃ p, R j = some p ∧ p.t = T := fun j hj => (hR j hj).elim .inl fun ⟨m, p, _, h, e⟩ => .inr ⟨p, e, pcs_turn _ hT p (List.mem_of_getElem? h)⟩
    by_cases hall : ∀ j p, (pcsR r.1 r.2)[j]? = some p → R (D + j) = some p
    · have e := scan_rec (R := R) (τ := τ) (t := r.1) (s := r.2) (by omega) (k - (pcsR r.1 r.2).length) D ⟨[], w, D, now, rs, D⟩ (by show now ≤ r.1; omega) rfl rfl hall
      rw [show k - (pcsR r.1 r.2).length + (pcsR r.1 r.2).length = k by omega] at e
      obtain ⟨m, w', i1, i2, i3, i4, i5⟩ := ih (k - (pcsR r.1 r.2).length) (D + (pcsR r.1 r.2).length) r.1 (sum4 r.2) (rs ++ [r.2]) (fun x hx => hT x (List.mem_cons_of_mem _ hx)) (by omega) hτ (by omega) (fun j hj => by
        rcases hR j (by omega) with h | ⟨m, p, h1, h2, h3⟩
        · exact .inl h
        · refine .inr ⟨j - (D + (pcsR r.1 r.2).length), p, by omega, ?_, h3⟩
          have h2' : (pcsR r.1 r.2 ++ pcs l)[m]? = some p := h2
          rw [List.getElem?_append_right (by omega)] at h2'
          rw [show j - (D + (pcsR r.1 r.2).length) = m - (pcsR r.1 r.2).length by omega]
          exact h2') (.inl hr1)
      have hlm : (pcs ((r :: l).take (m + 1))).length = (pcsR r.1 r.2).length + (pcs (l.take m)).length := List.length_append
      refine ⟨m + 1, w', by simp only [List.length_cons]; omega, fun j p hj => ?_, ?_, ?_, ?_⟩
      · have hj' : (pcsR r.1 r.2 ++ pcs (l.take m))[j]? = some p := hj
        rcases Nat.lt_or_ge j (pcsR r.1 r.2).length with hlt | hge
        · rw [List.getElem?_append_left hlt] at hj'
          exact hall j p hj'
        · rw [List.getElem?_append_right hge] at hj'
          have := i2 _ p hj'
          rw [show D + (pcsR r.1 r.2).length + (j - (pcsR r.1 r.2).length) = D + j by omega] at this
          exact this
      · rw [e]
        simp only at i3 ⊢
        rw [i3, List.append_assoc]; rfl
      · rw [e]
        simp only at i4 ⊢
        rw [i4, hlm]; omega
      · rw [hlm, show D + ((pcsR r.1 r.2).length + (pcs (l.take m)).length) = D + (pcsR r.1 r.2).length + (pcs (l.take m)).length by omega, show k - ((pcsR r.1 r.2).length + (pcs (l.take m)).length) = k - (pcsR r.1 r.2).length - (pcs (l.take m)).length by omega]
        rw [List.append_assoc] at i5
        exact i5
    · refine stop (r :: l) k D now w rs ?_
      have hno : ∃ j p, (pcsR r.1 r.2)[j]? = some p ∧ R (D + j) ≠ some p := by
        refine Classical.byContradiction fun h => hall fun j p hj => Classical.byContradiction fun h2 => h ⟨j, p, hj, h2⟩
      have hpart : ∀ j p, (pcsR r.1 r.2)[j]? = some p → R (D + j) = some p ∨ R (D + j) = none ∨ ∃ q, R (D + j) = some q ∧ q.t < T := fun j p hj => by
        rcases hR (D + j) (by omega) with h | ⟨m, q, h1, h2, h3⟩
        · rw [h]
          cases hs : S (D + j) with
          | none => exact .inr (.inl rfl)
          | some q => exact .inr (.inr ⟨q, rfl, hS _ q hs⟩)
        · have : m = j := by omega
          subst this
          have h2' : (pcsR r.1 r.2 ++ pcs l)[m]? = some q := h2
          rw [app_left hj] at h2'
          cases h2'
          exact .inl h3
      by_cases h0 : ∃ p, (pcsR r.1 r.2)[0]? = some p ∧ R D = some p
      · -- the first part is there
        obtain ⟨p0, hp0, hRD⟩ := h0
        obtain ⟨j, p, hj, hne⟩ := hno
        have hj0 : j ≠ 0 := fun e => by subst e; rw [hj] at hp0; cases hp0; exact hne hRD
        obtain ⟨j', rfl⟩ : ∃ j', j = j' + 1 := ⟨j - 1, by omega⟩
        cases k with
        | zero => exact rfl
        | succ k =>
          unfold Dead scanK
          rw [hRD]
          simp only
          have hcut : ∃ q q2 r2, partsL r.2 = q :: q2 :: r2 := by
            have := (List.getElem?_eq_some_iff.1 hj).1
            unfold pcsR at this
            rw [pcK_len] at this
            cases hc : partsL r.2 with
            | nil => rw [hc] at this; simp at this
            | cons q t => cases t with
              | nil => rw [hc] at this; simp at this
              | cons q2 r2 => exact ⟨q, q2, r2, rfl⟩
          obtain ⟨q, q2, r2, hc⟩ := hcut
          have hpk : pcsR r.1 r.2 = ⟨r.1, sum4 r.2, q, true⟩ :: pcK r.1 (sum4 r.2) (q2 :: r2) := by unfold pcsR; rw [hc]; rfl
          rw [hpk] at hp0 hj hpart
          have hp0' : p0 = ⟨r.1, sum4 r.2, q, true⟩ := (Option.some.inj hp0).symm
          subst hp0'
          rcases scStep_cases τ D ⟨[], w, D, now, rs, D⟩ ⟨r.1, sum4 r.2, q, true⟩ with e | ⟨_, e⟩ | ⟨hm2, _⟩
          · rw [e]
          · rw [e]
            simp only
            rw [hr1] at hj hpart ⊢
            exact dead_part (T := T) (q2 :: r2) k (D + 1) _ rfl (fun a b hab => by rw [show D + 1 + a = D + (a + 1) by omega]; exact hpart (a + 1) b hab) ⟨j', p, hj, by rw [show D + 1 + j' = D + (j' + 1) by omega]; exact hne⟩
          · cases hm2
      · have hD : R D = S D := by
          rcases hR D (Nat.le_refl D) with h | ⟨m, q, h1, h2, h3⟩
          · exact h
          · have : m = 0 := by omega
            subst this
            have h2' : (pcsR r.1 r.2 ++ pcs l)[0]? = some q := h2
            rw [List.getElem?_append_left hpos] at h2'
            exact (h0 ⟨q, h2', h3⟩).elim
        exact deadS k D now w rs hD hRT hd
end scan
end Go.Proofs
