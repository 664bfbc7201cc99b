/-
  Parts of the proof, laid together: PwHt, PwHu.
-/
import Derived.Test.YtghlemfokpfngaaQ26

namespace Go.Proofs
open Go.PW
def lastT : Nat → List (Nat × List UInt8) → Nat
  | b, [] => b
  | _, r :: l => lastT r.1 l
def riseT (τ : Nat) : Nat → List (Nat × List UInt8) → Prop
  | b, [] => b ≤ τ
  | b, r :: l => b ≤ r.1 ∧ riseT τ r.1 l
theorem riseT_le {τ : Nat} : ∀ {b : Nat} {l : List (Nat × List UInt8)}, riseT τ b l → b ≤ τ
  | _, [], h => h
  | _, _ :: _, h => Nat.le_trans h.1 (riseT_le h.2)
theorem riseT_last {τ : Nat} : ∀ {b : Nat} {l : List (Nat × List UInt8)}, riseT τ b l → lastT b l ≤ τ
  | _, [], h => h
  | _, r :: l, h => riseT_last (b := r.1) (l := l) h.2
theorem riseT_mono {τ τ' : Nat} (hτ : τ ≤ τ') : ∀ {b : Nat} {l : List (Nat × List UInt8)}, riseT τ b l → riseT τ' b l
  | _, [], h => Nat.le_trans h hτ
  | _, _ :: _, h => ⟨h.1, riseT_mono hτ h.2⟩
theorem riseT_app {τ : Nat} : ∀ {b : Nat} {l l' : List (Nat × List UInt8)}, riseT τ b l → riseT τ (lastT b l) l' → riseT τ b (l ++ l')
  | _, [], _, _, h' => h'
  | _, _ :: _, _, h, h' => ⟨h.1, riseT_app h.2 h'⟩
theorem lastT_app : ∀ (b : Nat) (l l' : List (Nat × List UInt8)), lastT b (l ++ l') = lastT (lastT b l) l'
  | _, [], _ => rfl
  | _, _ :: l, l' => lastT_app _ l l'
theorem lastT_const {T : Nat} : ∀ (b : Nat) (l : List (Nat × List UInt8)), (∀ r ∈ l, r.1 = T) → l ≠ [] → lastT b l = T
  | _, [], _, h => (h rfl).elim
  | _, [r], h, _ => h r List.mem_cons_self
  | _, r :: q :: l, h, _ => lastT_const r.1 (q :: l) (fun x hx => h x (List.mem_cons_of_mem _ hx)) (by simp)
theorem riseT_const {T τ b : Nat} (hb : b ≤ T) (hT : T ≤ τ) : ∀ (l : List (Nat × List UInt8)), (∀ r ∈ l, r.1 = T) → riseT τ b l
  | [], _ => Nat.le_trans hb hT
  | r :: l, h => by
    have e := h r List.mem_cons_self
    refine ⟨by rw [e]; exact hb, ?_⟩
    rw [e]
    exact riseT_const (Nat.le_refl T) hT l (fun x hx => h x (List.mem_cons_of_mem _ hx))
theorem pcs_app : ∀ (l l' : List (Nat × List UInt8)), pcs (l ++ l') = pcs l ++ pcs l'
  | [], _ => rfl
  | r :: l, l' => by
    show pcsR r.1 r.2 ++ pcs (l ++ l') = (pcsR r.1 r.2 ++ pcs l) ++ pcs l'
    rw [pcs_app l l', List.append_assoc]
theorem pcs_turn {T : Nat} : ∀ (l : List (Nat × List UInt8)), (∀ r ∈ l, r.1 = T) → ∀ p ∈ pcs l, p.t = T
  | [], _, _, h => by cases h
  | r :: l, hl, p, h => by
    rcases List.mem_append.1 h with h | h
    · rw [pcK_turn _ _ _ p h]; exact hl r List.mem_cons_self
    · exact pcs_turn l (fun x hx => hl x (List.mem_cons_of_mem _ hx)) p h
theorem pcsR_ne (t : Nat) (s : List UInt8) : 0 < (pcsR t s).length := by
  unfold pcsR
  rw [pcK_len]
  exact List.length_pos_iff.2 (partsL_ne s)
theorem app_left {α : Type} {a b : List α} {j : Nat} {p : α} (h : a[j]? = some p) : (a ++ b)[j]? = some p := by
  rw [List.getElem?_append_left (List.getElem?_eq_some_iff.1 h).1]; exact h
theorem app_right {α : Type} {a b : List α} {j : Nat} {p : α} (h : b[j]? = some p) : (a ++ b)[a.length + j]? = some p := by
  rw [List.getElem?_append_right (by omega), show a.length + j - a.length = j by omega]; exact h
section scan
variable {R S : Nat → Option Pc} {τ T : Nat}
theorem scan_tau {τ' : Nat} : ∀ (k i : Nat) (x : Sc), (∀ j, i ≤ j → ∀ p, R j = some p → p.t ≤ τ ∧ p.t ≤ τ') → scanK R τ k i x = scanK R τ' k i x
  | 0, _, _, _ => rfl
  | k + 1, i, x, h => by
    unfold scanK
    cases hR : R i with
    | none => rfl
    | some p =>
      obtain ⟨h1, h2⟩ := h i (Nat.le_refl i) p hR
      have e : scStep τ i x p = scStep τ' i x p := by
        unfold scStep
        by_cases hp : p.t < x.now
        · rw [if_pos (.inl hp), if_pos (.inl hp)]
        · have c1 : ¬ (p.t < x.now ∨ τ < p.t) := by omega
          have c2 : ¬ (p.t < x.now ∨ τ' < p.t) := by omega
          rw [if_neg c1, if_neg c2]
      simp only
      rw [e]
      cases scStep τ' i x p with
      | none => rfl
      | some x' => exact scan_tau k (i + 1) x' (fun j hj => h j (by omega))
theorem scan_rel : ∀ (k i : Nat) (x y : Sc), x.s = y.s → x.first = y.first → x.now = y.now → (x.want = y.want ∨ i = x.first) → (scanK R τ k i x).recs.length + y.recs.length = (scanK R τ k i y).recs.length + x.recs.length
  | 0, _, x, y, _, _, _, _ => Nat.add_comm _ _
  | k + 1, i, x, y, h1, h2, h3, h4 => by
    unfold scanK
    cases hR : R i with
    | none => exact Nat.add_comm _ _
    | some p =>
      simp only
      have e : scStep τ i x p = none ∧ scStep τ i y p = none ∨ (scStep τ i x p = some { x with s := x.s ++ p.pt, want := p.sm, now := p.t } ∧ scStep τ i y p = some { y with s := y.s ++ p.pt, want := p.sm, now := p.t }) ∨
          (scStep τ i x p = some ⟨[], p.sm, i + 1, p.t, x.recs ++ [x.s ++ p.pt], i + 1⟩ ∧ scStep τ i y p = some ⟨[], p.sm, i + 1, p.t, y.recs ++ [y.s ++ p.pt], i + 1⟩) := by
        unfold scStep
        rw [h1, h2, h3]
        by_cases c1 : p.t < y.now ∨ τ < p.t
        · rw [if_pos c1, if_pos c1]; exact .inl ⟨rfl, rfl⟩
        · rw [if_neg c1, if_neg c1]
          have c2 : (i ≠ y.first ∧ (p.t ≠ y.now ∨ p.sm ≠ x.want ∨ p.pt = [])) ↔ (i ≠ y.first ∧ (p.t ≠ y.now ∨ p.sm ≠ y.want ∨ p.pt = [])) := by
            rcases h4 with h4 | h4
            · rw [h4]
            · rw [h2] at h4
              constructor <;> (rintro ⟨a, _⟩; exact (a h4).elim)
          by_cases c3 : i ≠ y.first ∧ (p.t ≠ y.now ∨ p.sm ≠ y.want ∨ p.pt = [])
          · rw [if_pos (c2.2 c3), if_pos c3]; exact .inl ⟨rfl, rfl⟩
          · rw [if_neg (fun h => c3 (c2.1 h)), if_neg c3]
            by_cases c4 : p.more = true
            · rw [if_pos c4, if_pos c4]; exact .inr (.inl ⟨rfl, rfl⟩)
            · rw [if_neg c4, if_neg c4]
              by_cases c5 : sum4 (y.s ++ p.pt) ≠ p.sm
              · rw [if_pos c5, if_pos c5]; exact .inl ⟨rfl, rfl⟩
              · rw [if_neg c5, if_neg c5]; exact .inr (.inr ⟨rfl, rfl⟩)
      rcases e with ⟨e1, e2⟩ | ⟨e1, e2⟩ | ⟨e1, e2⟩ <;> rw [e1, e2]
      · exact Nat.add_comm _ _
      · exact scan_rel k (i + 1) { x with s := x.s ++ p.pt, want := p.sm, now := p.t } { y with s := y.s ++ p.pt, want := p.sm, now := p.t } (by show x.s ++ p.pt = y.s ++ p.pt; rw [h1]) h2 rfl (.inl rfl)
      · have := scan_rel k (i + 1) ⟨[], p.sm, i + 1, p.t, x.recs ++ [x.s ++ p.pt], i + 1⟩ ⟨[], p.sm, i + 1, p.t, y.recs ++ [y.s ++ p.pt], i + 1⟩ rfl rfl rfl (.inl rfl)
        simp only [List.length_append, List.length_singleton] at this
        simp only
        omega
theorem dead_any {k i now : Nat} {w w' : List UInt8} {rs rs' : List (List UInt8)} {u u' : Nat} (h : Dead R τ k i ⟨[], w, i, now, rs, u⟩) : Dead R τ k i ⟨[], w', i, now, rs', u'⟩ := by
  unfold Dead at h ⊢
  have := scan_rel (R := R) (τ := τ) k i ⟨[], w, i, now, rs, u⟩ ⟨[], w', i, now, rs', u'⟩ rfl rfl rfl (.inr rfl)
  simp only at this h ⊢
  omega
theorem scan_list : ∀ (l : List (Nat × List UInt8)) (k i : Nat) (x : Sc), riseT τ x.now l → i = x.first → x.s = [] → x.used = x.first → (∀ j p, (pcs l)[j]? = some p → R (i + j) = some p) →
    ∃ w, scanK R τ (k + (pcs l).length) i x = scanK R τ k (i + (pcs l).length) ⟨[], w, i + (pcs l).length, lastT x.now l, x.recs ++ l.map (·.2), i + (pcs l).length⟩
  | [], k, i, ⟨s, w, fi, now, rs, u⟩, _, h1, h2, h3, _ => by
    simp only at h1 h2 h3
    subst h1; subst h2; subst h3
    refine ⟨w, ?_⟩
    show scanK R τ k u _ = scanK R τ k u ⟨[], w, u, now, rs ++ [], u⟩
    rw [List.append_nil]
  | r :: l, k, i, x, hr, h1, h2, h3, hR => by
    have hl : (pcs (r :: l)).length = (pcsR r.1 r.2).length + (pcs l).length := List.length_append
    have e := scan_rec (R := R) (τ := τ) (t := r.1) (s := r.2) (riseT_le hr.2) (k + (pcs l).length) i x hr.1 h1 h2 (fun j p hj => hR j p (app_left hj))
    obtain ⟨w, ih⟩ := scan_list l k (i + (pcsR r.1 r.2).length) ⟨[], sum4 r.2, i + (pcsR r.1 r.2).length, r.1, x.recs ++ [r.2], i + (pcsR r.1 r.2).length⟩ hr.2 rfl rfl rfl (fun j p hj => by
      rw [Nat.add_assoc]; exact hR _ p (app_right hj))
    refine ⟨w, ?_⟩
    rw [hl, show k + ((pcsR r.1 r.2).length + (pcs l).length) = k + (pcs l).length + (pcsR r.1 r.2).length by omega, e, ih, show i + ((pcsR r.1 r.2).length + (pcs l).length) = i + (pcsR r.1 r.2).length + (pcs l).length by omega]
    simp only [List.append_assoc]
    rfl
theorem dead_part {sm : List UInt8} : ∀ (cut : List (List UInt8)) (k i : Nat) (x : Sc), x.now = T → (∀ j p, (pcK T sm cut)[j]? = some p → R (i + j) = some p ∨ R (i + j) = none ∨ ∃ q, R (i + j) = some q ∧ q.t < T) →
    (∃ j p, (pcK T sm cut)[j]? = some p ∧ R (i + j) ≠ some p) → Dead R τ k i x
  | [], _, _, _, _, _, ⟨j, p, h, _⟩ => by simp [pcK] at h
  | q :: r, k, i, x, hn, hR, ⟨j, p, hj, hne⟩ => by
    cases k with
    | zero => exact rfl
    | succ k =>
      have hd : ∃ m, (pcK T sm (q :: r))[0]? = some ⟨T, sm, q, m⟩ ∧ (m = false → r = []) := by
        cases r with
        | nil => exact ⟨false, rfl, fun _ => rfl⟩
        | cons q' r => exact ⟨true, rfl, fun h => by cases h⟩
      obtain ⟨m, hm, hmr⟩ := hd
      unfold Dead
      unfold scanK
      rcases hR 0 _ hm with h | h | ⟨q', h, hq⟩ <;> rw [Nat.add_zero] at h <;> rw [h]
      · simp only
        rcases scStep_cases τ i x ⟨T, sm, q, m⟩ with e | ⟨_, e⟩ | ⟨hm2, _⟩
        · rw [e]
        · rw [e]
          cases r with
          | nil =>
            have : j = 0 := by
              have := (List.getElem?_eq_some_iff.1 hj).1
              simp [pcK] at this
              exact this
            subst this
            rw [hj] at hm
            cases hm
            exact (hne h).elim
          | cons q2 r2 =>
            have hj0 : j ≠ 0 := fun e => by
              subst e
              rw [hj] at hm
              cases hm
              exact hne h
            obtain ⟨j', rfl⟩ : ∃ j', j = j' + 1 := ⟨j - 1, by omega⟩
            exact dead_part (q2 :: r2) k (i + 1) _ rfl (fun a b hab => by rw [show i + 1 + a = i + (a + 1) by omega]; exact hR (a + 1) b hab) ⟨j', p, hj, by rw [show i + 1 + j' = i + (j' + 1) by omega]; exact hne⟩
        · have hr := hmr hm2
          subst hr
          have : j = 0 := by
            have := (List.getElem?_eq_some_iff.1 hj).1
            simp [pcK] at this
            exact this
          subst this
          rw [hj] at hm
          cases hm
          exact (hne h).elim
      · simp only
        rw [scStep_old (by omega)]
theorem scan_new (hS : ∀ j p, S j = some p → p.t < T) : ∀ (l : List (Nat × List UInt8)) (k D now : Nat) (w : List UInt8) (rs : List (List UInt8)), (∀ r ∈ l, r.1 = T) → now ≤ T → T ≤ τ → (pcs l).length ≤ k →
    (∀ j, D ≤ j → R j = S j ∨ ∃ m p, j = D + m ∧ (pcs l)[m]? = some p ∧ R j = some p) → (now = T ∨ Dead S τ k D ⟨[], w, D, now, rs, D⟩) →
    ∃ m w', m ≤ l.length ∧ (∀ j p, (pcs (l.take m))[j]? = some p → R (D + j) = some p) ∧ (scanK R τ k D ⟨[], w, D, now, rs, D⟩).recs = rs ++ (l.take m).map (·.2) ∧ (scanK R τ k D ⟨[], w, D, now, rs, D⟩).used = D + (pcs (l.take m)).length ∧
      Dead R τ (k - (pcs (l.take m)).length) (D + (pcs (l.take m)).length) ⟨[], w', D + (pcs (l.take m)).length, lastT now (l.take m), rs ++ (l.take m).map (·.2), D + (pcs (l.take m)).length⟩ := by
  have stop : ∀ (l : List (Nat × List UInt8)) (k D now : Nat) (w : List UInt8) (rs : List (List UInt8)), Dead R τ k D ⟨[], w, D, now, rs, D⟩ →
      ∃ m w', m ≤ l.length ∧ (∀ j p, (pcs (l.take m))[j]? = some p → R (D + j) = some p) ∧ (scanK R τ k D ⟨[], w, D, now, rs, D⟩).recs = rs ++ (l.take m).map (·.2) ∧ (scanK R τ k D ⟨[], w, D, now, rs, D⟩).used = D + (pcs (l.take m)).length ∧
        Dead R τ (k - (pcs (l.take m)).length) (D + (pcs (l.take m)).length) ⟨[], w', D + (pcs (l.take m)).length, lastT now (l.take m), rs ++ (l.take m).map (·.2), D + (pcs (l.take m)).length⟩ := fun l k D now w rs hd => by
    obtain ⟨e1, e2⟩ := Dead_used _ _ _ hd
    refine ⟨0, w, Nat.zero_le _, fun j p h => by simp [pcs] at h, by rw [e1]; simp, by rw [e2]; rfl, ?_⟩
    show Dead R τ k D ⟨[], w, D, now, rs ++ [], D⟩
    rw [List.append_nil]; exact hd
  have deadS : ∀ (k D now : Nat) (w : List UInt8) (rs : List (List UInt8)), R D = S D → (∀ j, D ≤ j → R j = S j ∨ ∃ p, R j = some p ∧ p.t = T) → (now = T ∨ Dead S τ k D ⟨[], w, D, now, rs, D⟩) → Dead R τ k D ⟨[], w, D, now, rs, D⟩ := fun k D now w rs hD hR hd => by
    rcases hd with rfl | hd
    · cases k with
      | zero => exact rfl
      | succ k =>
        unfold Dead scanK
        rw [hD]
        cases h : S D with
        | none => rfl
        | some p =>
          simp only
          rw [scStep_old (hS D p h)]
    · exact dead_first (T := T) k D _ hR hD (fun p h => hS D p h) rfl hd
  intro l
  induction l with
  | nil =>
    intro k D now w rs _ hn hτ _ hR hd
    have hRS : ∀ j, D ≤ j → R j = S j := fun j hj => (hR j hj).elim id fun ⟨m, p, _, h, _⟩ => by simp [pcs] at h
    exact stop [] k D now w rs (deadS k D now w rs (hRS D (Nat.le_refl D)) (fun j hj => .inl (hRS j hj)) hd)
  | cons r l ih =>
    intro k D now w rs hT hn hτ hk hR hd
    have hr1 := hT r List.mem_cons_self
    have hl : (pcs (r :: l)).length = (pcsR r.1 r.2).length + (pcs l).length := List.length_append
    have hpos := pcsR_ne r.1 r.2
    have hRT : ∀ j, D ≤ j → R j = S j ∨ ∃ p, R j = some p ∧ p.t = T := fun j hj => (hR j hj).elim .inl fun ⟨m, p, _, h, e⟩ => .inr ⟨p, e, pcs_turn _ hT p (List.mem_of_getElem? h)⟩
    by_cases hall : ∀ j p, (pcsR r.1 r.2)[j]? = some p → R (D + j) = some p
    · have e := scan_rec (R := R) (τ := τ) (t := r.1) (s := r.2) (by omega) (k - (pcsR r.1 r.2).length) D ⟨[], w, D, now, rs, D⟩ (by show now ≤ r.1; omega) rfl rfl hall
      rw [show k - (pcsR r.1 r.2).length + (pcsR r.1 r.2).length = k by omega] at e
      obtain ⟨m, w', i1, i2, i3, i4, i5⟩ := ih (k - (pcsR r.1 r.2).length) (D + (pcsR r.1 r.2).length) r.1 (sum4 r.2) (rs ++ [r.2]) (fun x hx => hT x (List.mem_cons_of_mem _ hx)) (by omega) hτ (by omega) (fun j hj => by
        rcases hR j (by omega) with h | ⟨m, p, h1, h2, h3⟩
        · exact .inl h
        · refine .inr ⟨j - (D + (pcsR r.1 r.2).length), p, by omega, ?_, h3⟩
          have h2' : (pcsR r.1 r.2 ++ pcs l)[m]? = some p := h2
          rw [List.getElem?_append_right (by omega)] at h2'
          rw [show j - (D + (pcsR r.1 r.2).length) = m - (pcsR r.1 r.2).length by omega]
          exact h2') (.inl hr1)
      have hlm : (pcs ((r :: l).take (m + 1))).length = (pcsR r.1 r.2).length + (pcs (l.take m)).length := List.length_append
      refine ⟨m + 1, w', by simp only [List.length_cons]; omega, fun j p hj => ?_, ?_, ?_, ?_⟩
      · have hj' : (pcsR r.1 r.2 ++ pcs (l.take m))[j]? = some p := hj
        rcases Nat.lt_or_ge j (pcsR r.1 r.2).length with hlt | hge
        · rw [List.getElem?_append_left hlt] at hj'
          exact hall j p hj'
        · rw [List.getElem?_append_right hge] at hj'
          have := i2 _ p hj'
          rw [show D + (pcsR r.1 r.2).length + (j - (pcsR r.1 r.2).length) = D + j by omega] at this
          exact this
      · rw [e]
        simp only at i3 ⊢
        rw [i3, List.append_assoc]; rfl
      · rw [e]
        simp only at i4 ⊢
        rw [i4, hlm]; omega
      · rw [hlm, show D + ((pcsR r.1 r.2).length + (pcs (l.take m)).length) = D + (pcsR r.1 r.2).length + (pcs (l.take m)).length by omega, show k - ((pcsR r.1 r.2).length + (pcs (l.take m)).length) = k - (pcsR r.1 r.2).length - (pcs (l.take m)).length by omega]
        rw [List.append_assoc] at i5
        exact i5
    · refine stop (r :: l) k D now w rs ?_
      have hno : ∃ j p, (pcsR r.1 r.2)[j]? = some p ∧ R (D + j) ≠ some p := by
        refine Classical.byContradiction fun h => hall fun j p hj => Classical.byContradiction fun h2 => h ⟨j, p, hj, h2⟩
      have hpart : ∀ j p, (pcsR r.1 r.2)[j]? = some p → R (D + j) = some p ∨ R (D + j) = none ∨ ∃ q, R (D + j) = some q ∧ q.t < T := fun j p hj => by
        rcases hR (D + j) (by omega) with h | ⟨m, q, h1, h2, h3⟩
        · rw [h]
          cases hs : S (D + j) with
          | none => exact .inr (.inl rfl)
          | some q => exact .inr (.inr ⟨q, rfl, hS _ q hs⟩)
        · have : m = j := by omega
          subst this
          have h2' : (pcsR r.1 r.2 ++ pcs l)[m]? = some q := h2
          rw [app_left hj] at h2'
          cases h2'
          exact .inl h3
      by_cases h0 : ∃ p, (pcsR r.1 r.2)[0]? = some p ∧ R D = some p
      · -- the first part is there
        obtain ⟨p0, hp0, hRD⟩ := h0
        obtain ⟨j, p, hj, hne⟩ := hno
        have hj0 : j ≠ 0 := fun e => by subst e; rw [hj] at hp0; cases hp0; exact hne hRD
        obtain ⟨j', rfl⟩ : ∃ j', j = j' + 1 := ⟨j - 1, by omega⟩
        cases k with
        | zero => exact rfl
        | succ k =>
          unfold Dead scanK
          rw [hRD]
          simp only
          have hcut : ∃ q q2 r2, partsL r.2 = q :: q2 :: r2 := by
            have := (List.getElem?_eq_some_iff.1 hj).1
            unfold pcsR at this
            rw [pcK_len] at this
            cases hc : partsL r.2 with
            | nil => rw [hc] at this; simp at this
            | cons q t => cases t with
              | nil => rw [hc] at this; simp at this
              | cons q2 r2 => exact ⟨q, q2, r2, rfl⟩
          obtain ⟨q, q2, r2, hc⟩ := hcut
          have hpk : pcsR r.1 r.2 = ⟨r.1, sum4 r.2, q, true⟩ :: pcK r.1 (sum4 r.2) (q2 :: r2) := by unfold pcsR; rw [hc]; rfl
          rw [hpk] at hp0 hj hpart
          have hp0' : p0 = ⟨r.1, sum4 r.2, q, true⟩ := (Option.some.inj hp0).symm
          subst hp0'
          rcases scStep_cases τ D ⟨[], w, D, now, rs, D⟩ ⟨r.1, sum4 r.2, q, true⟩ with e | ⟨_, e⟩ | ⟨hm2, _⟩
          · rw [e]
          · rw [e]
            simp only
            rw [hr1] at hj hpart ⊢
            exact dead_part (T := T) (q2 :: r2) k (D + 1) _ rfl (fun a b hab => by rw [show D + 1 + a = D + (a + 1) by omega]; exact hpart (a + 1) b hab) ⟨j', p, hj, by rw [show D + 1 + j' = D + (j' + 1) by omega]; exact hne⟩
          · cases hm2
      · have hD : R D = S D := by
          rcases hR D (Nat.le_refl D) with h | ⟨m, q, h1, h2, h3⟩
          · exact h
          · have : m = 0 := by omega
            subst this
            have h2' : (pcsR r.1 r.2 ++ pcs l)[0]? = some q := h2
            rw [List.getElem?_append_left hpos] at h2'
            exact (h0 ⟨q, h2', h3⟩).elim
        exact deadS k D now w rs hD hRT hd
end scan
end Go.Proofs

namespace Go.Proofs
open Go.PW
theorem scan_congr {R S : Nat → Option Pc} {τ : Nat} : ∀ (k i : Nat) (x : Sc), (∀ j, i ≤ j → R j = S j) → scanK R τ k i x = scanK S τ k i x
  | 0, _, _, _ => rfl
  | k + 1, i, x, h => by
    unfold scanK
    rw [h i (Nat.le_refl i)]
    cases S i with
    | none => rfl
    | some p =>
      simp only
      cases scStep τ i x p with
      | none => rfl
      | some x' => exact scan_congr k (i + 1) x' (fun j hj => h j (by omega))
theorem pcs_le {τ : Nat} : ∀ {b : Nat} {l : List (Nat × List UInt8)}, riseT τ b l → ∀ p ∈ pcs l, p.t ≤ τ
  | _, [], _, _, h => by cases h
  | b, r :: l, h, p, hp => by
    rcases List.mem_append.1 hp with hp | hp
    · rw [pcK_turn _ _ _ p hp]; exact riseT_le h.2
    · exact pcs_le (b := r.1) (l := l) h.2 p hp
theorem pcs_take (l : List (Nat × List UInt8)) (m : Nat) : (pcs (l.take m)).length ≤ (pcs l).length := by
  have h : pcs l = pcs (l.take m) ++ pcs (l.drop m) := by rw [← pcs_app, List.take_append_drop]
  rw [h, List.length_append]; omega
theorem lastW_mem {j : Int} {s : List UInt8} : ∀ {l : List (Int × List UInt8)}, lastW j l = some s → (j, s) ∈ l
  | [], h => by cases h
  | w :: l, h => by
    unfold lastW at h
    cases hl : lastW j l with
    | some s' =>
      rw [hl] at h
      cases h
      exact List.mem_cons_of_mem _ (lastW_mem hl)
    | none =>
      rw [hl] at h
      simp only at h
      split at h
      · rename_i e
        cases h
        rw [← e]
        exact List.mem_cons_self
      · cases h
theorem lastW_some {j : Int} {s : List UInt8} : ∀ {l : List (Int × List UInt8)}, (j, s) ∈ l → lastW j l ≠ none
  | w :: l, h => by
    unfold lastW
    cases hl : lastW j l with
    | some s' => simp
    | none =>
      rcases List.mem_cons.1 h with e | h
      · rw [← e]; simp
      · exact (lastW_some h hl).elim
theorem kept_mem {l : List (Int × List UInt8)} {keep : List Bool} : ∀ x ∈ keptL l keep, x ∈ l := fun x hx => by
  unfold keptL at hx
  obtain ⟨y, hy, rfl⟩ := List.mem_map.1 hx
  exact (List.of_mem_zip (List.mem_filter.1 hy).1).1
structure PI (d : Dk) (f n N T B : Nat) (old new : List (Nat × List UInt8)) (S : Nat → Option Pc) : Prop where
  g : DkG d
  dn : d.n = N
  n1 : 4 ≤ n
  n2 : n ≤ 1000
  hin : f + n ≤ N
  hN : N ≤ 4096
  len : ∀ j, (lkR j d.stays).length ≤ 128
  at_ : ∀ i, i < n - 2 → AtOK (lkR ((f + 2 + i : Nat) : Int) d.stays) i (S i)
  out : ∀ i, n - 2 ≤ i → S i = none
  laid : ∀ k p, (pcs old)[k]? = some p → S k = some p
  rise : riseT T B old
  newT : ∀ r ∈ new, r.1 = T
  fit : (pcs old).length + (pcs new).length ≤ n - 2
  low : ∀ i, (pcs old).length ≤ i → ∀ p, S i = some p → p.t < T
  dead : lastT B old = T ∨ ∀ w rs u, Dead S T (n - 2 - (pcs old).length) (pcs old).length ⟨[], w, (pcs old).length, lastT B old, rs, u⟩
  hT : T ≤ 1000000
  s0 : TellCase (lkR ((f + T % 2 : Nat) : Int) d.stays) T B
  s1 : ∃ t b, t < T ∧ TellCase (lkR ((f + (T + 1) % 2 : Nat) : Int) d.stays) t b
  cache : ∀ k w, d.cache[k]? = some w → w.1 = ((f + 2 + ((pcs old).length + k) : Nat) : Int) ∧ w.2.length ≤ 128 ∧ ∃ p, (pcs new)[k]? = some p ∧ AtOK w.2 ((pcs old).length + k) (some p)
section pi
variable {d : Dk} {f n N T B : Nat} {old new : List (Nat × List UInt8)} {S : Nat → Option Pc}
theorem PI.mix (h : PI d f n N T B old new S) (c : List (Int × List UInt8)) (hc : ∀ x ∈ c, x ∈ d.cache) : ∃ R : Nat → Option Pc,
    (∀ i, i < n - 2 → AtOK ((lastW ((f + 2 + i : Nat) : Int) c).getD (lkR ((f + 2 + i : Nat) : Int) d.stays)) i (R i)) ∧
    (∀ j, R j = S j ∨ ∃ m p, j = (pcs old).length + m ∧ (pcs new)[m]? = some p ∧ R j = some p) ∧ (∀ j, n - 2 ≤ j → R j = none) ∧
    (∀ a, a < 2 → lastW ((f + a : Nat) : Int) c = none) ∧ (∀ j, ((lastW j c).getD (lkR j d.stays)).length ≤ 128) ∧
    (∀ m p s, (pcs new)[m]? = some p → (((f + 2 + ((pcs old).length + m) : Nat) : Int), s) ∈ c → R ((pcs old).length + m) = some p) := by
  have key : ∀ j s, lastW j c = some s → ∃ k p, j = ((f + 2 + ((pcs old).length + k) : Nat) : Int) ∧ s.length ≤ 128 ∧ (pcs new)[k]? = some p ∧ AtOK s ((pcs old).length + k) (some p) := fun j s hs => by
    obtain ⟨k, hk, e⟩ := List.getElem_of_mem (hc _ (lastW_mem hs))
    obtain ⟨h1, h2, p, h3, h4⟩ := h.cache k (j, s) (by rw [List.getElem?_eq_getElem hk, e])
    exact ⟨k, p, h1, h2, h3, h4⟩
  have kl : ∀ (k : Nat) (p : Pc), (pcs new)[k]? = some p → k < (pcs new).length := fun k p hk => (List.getElem?_eq_some_iff.1 hk).1
  have hfit := h.fit
  refine ⟨fun i => match lastW ((f + 2 + i : Nat) : Int) c with
    | some _ => (pcs new)[i - (pcs old).length]?
    | none => S i, fun i hi => ?_, fun j => ?_, fun j hj => ?_, fun a ha => ?_, fun j => ?_, fun m p s h1 h2 => ?_⟩
  · simp only
    cases hl : lastW ((f + 2 + i : Nat) : Int) c with
    | none => exact h.at_ i hi
    | some s =>
      obtain ⟨k, p, e, _, h3, h4⟩ := key _ s hl
      have e2 : (pcs old).length + k = i := by omega
      have e3 : i - (pcs old).length = k := by omega
      simp only [Option.getD_some]
      rw [e3, h3, ← e2]
      exact h4
  · simp only
    cases hl : lastW ((f + 2 + j : Nat) : Int) c with
    | none => exact .inl rfl
    | some s =>
      obtain ⟨k, p, e, _, h3, _⟩ := key _ s hl
      have e3 : j - (pcs old).length = k := by omega
      exact .inr ⟨k, p, by omega, h3, by simp only; rw [e3]; exact h3⟩
  · simp only
    cases hl : lastW ((f + 2 + j : Nat) : Int) c with
    | none => exact h.out j hj
    | some s =>
      obtain ⟨k, p, e, _, h3, _⟩ := key _ s hl
      have := kl k p h3
      omega
  · cases hl : lastW ((f + a : Nat) : Int) c with
    | none => rfl
    | some s =>
      obtain ⟨k, p, e, _, _, _⟩ := key _ s hl
      omega
  · cases hl : lastW j c with
    | none => exact h.len j
    | some s =>
      obtain ⟨k, p, _, h2, _, _⟩ := key _ s hl
      exact h2
  · simp only
    cases hl : lastW ((f + 2 + ((pcs old).length + m) : Nat) : Int) c with
    | none => exact (lastW_some h2 hl).elim
    | some s' =>
      simp only
      rw [show (pcs old).length + m - (pcs old).length = m by omega]
      exact h1
theorem PI.oldle (h : PI d f n N T B old new S) : ∀ j p, S j = some p → p.t ≤ T := fun j p hj => by
  rcases Nat.lt_or_ge j (pcs old).length with hlt | hge
  · have h1 : (pcs old)[j]? = some (pcs old)[j] := List.getElem?_eq_getElem hlt
    have h2 := h.laid j _ h1
    rw [hj] at h2
    cases h2
    exact pcs_le h.rise _ (List.mem_of_getElem? h1)
  · exact Nat.le_of_lt (h.low j hge p hj)
theorem PI.mixle (h : PI d f n N T B old new S) {R : Nat → Option Pc} (hR : ∀ j, R j = S j ∨ ∃ m p, j = (pcs old).length + m ∧ (pcs new)[m]? = some p ∧ R j = some p) : ∀ j p, R j = some p → p.t ≤ T := fun j p hj => by
  rcases hR j with e | ⟨m, q, _, h2, h3⟩
  · exact h.oldle j p (by rw [← e]; exact hj)
  · rw [hj] at h3
    cases h3
    rw [pcs_turn new h.newT p (List.mem_of_getElem? h2)]
    exact Nat.le_refl _
theorem lk_next {d : Dk} (hg : DkG d) (f t b : Nat) (j : Int) : lkR j (nextD d f t b).stays = if ((f + t % 2 : Nat) : Int) = j then pad (turnB t b) else rd d j := by
  have h : rd (nextD d f t b) j = lkR j (nextD d f t b).stays := by rw [rd_eq]; rfl
  rw [← h]
  unfold nextD
  rw [rd_fl (hg.wr _ _), rd_wr]
theorem lk_fl {d : Dk} (hg : DkG d) (j : Int) : lkR j (flD d).stays = rd d j := by
  have h : rd (flD d) j = lkR j (flD d).stays := by rw [rd_eq]; rfl
  rw [← h, rd_fl hg]
theorem tell_slots {X : Nat → List UInt8} {t b : Nat} (h0 : TellCase (X (T % 2)) T B) (ht : t < T) (h1 : TellCase (X ((T + 1) % 2)) t b) : ∃ t0 b0 t1 b1, TellCase (X 0) t0 b0 ∧ TellCase (X 1) t1 b1 ∧ opT t0 t1 = T ∧ opB t0 b0 t1 b1 = B := by
  rcases Nat.mod_two_eq_zero_or_one T with e | e
  · rw [e] at h0
    rw [show (T + 1) % 2 = 1 by omega] at h1
    exact ⟨T, B, t, b, h0, h1, by unfold opT; rw [if_neg (by omega)], by unfold opB; rw [if_neg (by omega)]⟩
  · rw [e] at h0
    rw [show (T + 1) % 2 = 0 by omega] at h1
    exact ⟨t, b, T, B, h1, h0, by unfold opT; rw [if_pos ht], by unfold opB; rw [if_pos ht]⟩
theorem PI.crash (h : PI d f n N T B old new S) (hT : T < 1000000) (keep : List Bool) : ∃ t0 b0 t1 b1 R m, OpAt (crD d keep) f n t0 b0 t1 b1 R ∧ opT t0 t1 = T ∧ opB t0 b0 t1 b1 = B ∧ m ≤ new.length ∧
    opL f n t0 b0 t1 b1 R = ⟨f, n - 2, T + 1, B, (pcs (old ++ new.take m)).length, (old ++ new.take m).map (·.2), false⟩ ∧ PI (nextD (crD d keep) f (T + 1) B) f n N (T + 1) B (old ++ new.take m) [] R := by
  obtain ⟨R, r1, r2, r3, r4, r5, _⟩ := h.mix (keptL d.cache keep) kept_mem
  have hrd : ∀ j, rd (crD d keep) j = (lastW j (keptL d.cache keep)).getD (lkR j d.stays) := fun j => rd_cr h.g keep j
  have hslot : ∀ a, a < 2 → rd (crD d keep) ((f + a : Nat) : Int) = lkR ((f + a : Nat) : Int) d.stays := fun a ha => by rw [hrd, r4 a ha]; rfl
  obtain ⟨t, b, ht, hs1⟩ := h.s1
  obtain ⟨t0, b0, t1, b1, c0, c1, eT, eB⟩ := tell_slots (X := fun a => rd (crD d keep) ((f + a : Nat) : Int)) (by rw [hslot _ (by omega)]; exact h.s0) ht (by rw [hslot _ (by omega)]; exact hs1)
  have hD : (pcs old).length ≤ n - 2 := by have := h.fit; omega
  have hle := h.mixle r2
  -- the search
  obtain ⟨w, e1⟩ := scan_list (R := R) (τ := T) old (n - 2 - (pcs old).length) 0 ⟨[], [], 0, B, [], 0⟩ h.rise rfl rfl rfl (fun j p hj => by
    rw [Nat.zero_add]
    rcases r2 j with e | ⟨m, q, e, _, _⟩
    · rw [e]; exact h.laid j p hj
    · have := (List.getElem?_eq_some_iff.1 hj).1
      omega)
  rw [show n - 2 - (pcs old).length + (pcs old).length = n - 2 by omega, Nat.zero_add] at e1
  simp only [List.nil_append] at e1
  have hlast : lastT B old ≤ T := riseT_last h.rise
  have hS' : ∀ j p, (fun j => if j < (pcs old).length then none else S j) j = some p → p.t < T := fun j p hj => by
    have hj' : (if j < (pcs old).length then none else S j) = some p := hj
    split at hj'
    · cases hj'
    · exact h.low j (by omega) p hj'
  obtain ⟨m, w', m1, m2, m3, m4, m5⟩ := scan_new (R := R) (τ := T) hS' new (n - 2 - (pcs old).length) (pcs old).length (lastT B old) w (old.map (·.2)) h.newT hlast (Nat.le_refl T) (by have := h.fit; omega) (fun j hj => by
      rcases r2 j with e | e
      · exact .inl (by rw [e]; show S j = if j < (pcs old).length then none else S j; rw [if_neg (by omega)])
      · exact .inr e) (by
      rcases h.dead with e | e
      · exact .inl e
      · refine .inr ?_
        have := e w (old.map (·.2)) (pcs old).length
        unfold Dead at this ⊢
        rw [scan_congr (S := S) _ _ _ (fun j hj => by show (if j < (pcs old).length then none else S j) = S j; rw [if_neg (by omega)])]
        exact this)
  have hpl : (pcs (old ++ new.take m)).length = (pcs old).length + (pcs (new.take m)).length := by rw [pcs_app, List.length_append]
  have htk := pcs_take new m
  have hfit := h.fit
  have hx : opX R n T B = scanK R T (n - 2 - (pcs old).length) (pcs old).length ⟨[], w, (pcs old).length, lastT B old, old.map (·.2), (pcs old).length⟩ := e1
  refine ⟨t0, b0, t1, b1, R, m, ⟨h.n1, h.n2, ?_, ?_, ?_, fun i _ => ?_, c0, c1, fun i hi => ?_⟩, eT, eB, m1, ?_, ?_⟩
  · show f + n ≤ d.n; rw [h.dn]; exact h.hin
  · show d.n ≤ 4096; rw [h.dn]; exact h.hN
  · show 0 + 1 ≤ 1000000; omega
  · rw [hrd]; exact r5 _
  · rw [hrd]; exact r1 i hi
  · unfold opL
    rw [eT, eB, hx, m3, m4, hpl, List.map_append]
  · have hlk : ∀ j, lkR j (nextD (crD d keep) f (T + 1) B).stays = if ((f + (T + 1) % 2 : Nat) : Int) = j then pad (turnB (T + 1) B) else rd (crD d keep) j := fun j => lk_next (h.g.cr keep) f (T + 1) B j
    have hBT : B ≤ T := riseT_le h.rise
    refine ⟨((h.g.cr keep).wr _ _).fl, h.dn, h.n1, h.n2, h.hin, h.hN, fun j => ?_, fun i hi => ?_, r3, fun k p hk => ?_, ?_, (fun r hr => by cases hr), ?_, fun i hi p hp => ?_, .inr fun w2 rs u => ?_, by omega, ?_, ⟨T, B, by omega, ?_⟩, fun k w hk => by cases hk⟩
    · rw [hlk]
      split
      · unfold turnB; exact pad_seal_len _
      · rw [hrd]; exact r5 j
    · rw [hlk, if_neg (by omega), hrd]; exact r1 i hi
    · rw [pcs_app] at hk
      rcases Nat.lt_or_ge k (pcs old).length with hlt | hge
      · rw [List.getElem?_append_left hlt] at hk
        rcases r2 k with e | ⟨m, q, e, _, _⟩
        · rw [e]; exact h.laid k p hk
        · omega
      · rw [List.getElem?_append_right hge] at hk
        have := m2 _ p hk
        rw [show (pcs old).length + (k - (pcs old).length) = k by omega] at this
        exact this
    · exact riseT_app (riseT_mono (by omega) h.rise) (riseT_const (T := T) hlast (by omega) _ (fun r hr => h.newT r (List.mem_of_mem_take hr)))
    · rw [hpl]; show _ + 0 ≤ _; omega
    · have := hle i p hp; omega
    · rw [hpl, lastT_app]
      have m5' : Dead R T (n - 2 - ((pcs old).length + (pcs (new.take m)).length)) ((pcs old).length + (pcs (new.take m)).length) ⟨[], w', (pcs old).length + (pcs (new.take m)).length, lastT (lastT B old) (new.take m), old.map (·.2) ++ (new.take m).map (·.2), (pcs old).length + (pcs (new.take m)).length⟩ := by
        rw [show n - 2 - ((pcs old).length + (pcs (new.take m)).length) = n - 2 - (pcs old).length - (pcs (new.take m)).length by omega]; exact m5
      have m6 := dead_any (w' := w2) (rs' := rs) (u' := u) m5'
      unfold Dead at m6 ⊢
      rw [scan_tau (τ' := T) _ _ _ (fun j _ p hp => ⟨by have := hle j p hp; omega, hle j p hp⟩)]
      exact m6
    · rw [hlk, if_pos rfl]; exact tell_turn (by omega) (by omega)
    · rw [show (T + 1 + 1) % 2 = T % 2 by omega, hlk, if_neg (by omega), hslot _ (by omega)]; exact h.s0
end pi
end Go.Proofs
