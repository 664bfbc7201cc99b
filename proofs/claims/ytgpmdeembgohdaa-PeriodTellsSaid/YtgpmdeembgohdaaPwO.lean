/-
  The abstract machine: states that say less; code.
-/
import Derived.Test.YtgpmdeembgohdaaPwN
namespace Go.PW
variable {g : Gh} {H : HMap} {A : AMap} {w : World}

theorem weak_mem {H0 : HMap} {A0 : AMap} {g0 : Gh} {w0 : World} (hd0 : DomOK g0 H0) {S S' : St} (hw : Weak H0 A0 S S') (hm : MRel g S.H S.A w) (he : Evol g0 A0 w0 g S.A w) :
    ∃ g', MRel g' S'.H S'.A w ∧ DomOK g' S'.H ∧ Evol g0 A0 w0 g' S'.A w ∧ ∀ t v, PRep g S.A (S.ρ t) v → PRep g' S'.A (S'.ρ t) v := by
  let g' : Gh := { C := g.C, β := fun id => match S'.H id with
                    | none => none
                    | some _ => g.β id,
                   τ := fun κ => match S.A κ with
                    | none => .slice none 0 0
                    | some _ => g.τ κ,
                   O := fun b => match g.O b with
                    | none => none
                    | some (.var id) => (match S'.H id with
                      | none => none
                      | some _ => some (.var id))
                    | some (.tok κ) => (match S'.A κ with
                      | none => none
                      | some _ => some (.tok κ)) }
  have hβ : ∀ id, S'.H id ≠ none → g'.β id = g.β id := fun id h => by
    simp only [g']
    cases hh : S'.H id with
    | none => exact (h hh).elim
    | some _ => rfl
  have hβ' : ∀ id b, g'.β id = some b → S'.H id ≠ none ∧ g.β id = some b := fun id b h => by
    simp only [g'] at h
    cases hh : S'.H id with
    | none => rw [hh] at h; cases h
    | some _ => rw [hh] at h; exact ⟨by simp, h⟩
  have hτ : ∀ κ ar, S.A κ = some ar → g'.τ κ = g.τ κ := fun κ ar h => by simp only [g', h]
  have hτ0 : ∀ κ, S.A κ = none → g'.τ κ = .slice none 0 0 := fun κ h => by simp only [g', h]
  have hOv : ∀ b id, g.O b = some (.var id) → S'.H id ≠ none → g'.O b = some (.var id) := fun b id h h' => by
    simp only [g', h]
    cases hh : S'.H id with
    | none => exact (h' hh).elim
    | some _ => rfl
  have hOt : ∀ b κ, g.O b = some (.tok κ) → S'.A κ ≠ none → g'.O b = some (.tok κ) := fun b κ h h' => by
    simp only [g', h]
    cases hh : S'.A κ with
    | none => exact (h' hh).elim
    | some _ => rfl
  have hOn : ∀ b, g.O b = none → g'.O b = none := fun b h => by simp only [g', h]
  have hc : ∀ (new old : CV) (v : Value), CV.wk S'.H S.A S'.A new old → CRep g S.A old v → CRep g' S'.A new v := by
    intro new old v h hr
    rcases h with rfl | ⟨rfl, hok⟩ | ⟨els, rfl, h⟩ | ⟨rfl, κ, sz, rfl, h1, h2⟩ | ⟨rfl, κ, sz, rfl, h1, h2⟩
    · trivial
    · cases new with
      | any => trivial
      | skip => exact hr
      | d x => exact hr
      | full els => exact hr
      | own κ els =>
        obtain ⟨hd, sz, n, hA, hl, ht⟩ := hr
        exact ⟨hd, sz, n, by rw [hok.2]; exact hA, hl, fun e => by rw [hτ κ _ hA]; exact ht e⟩
      | mt κ sz n =>
        obtain ⟨a, cap, els, h1, h2, hA, h4, h5⟩ := hr
        exact ⟨a, cap, els, h1, h2, by rw [hok.2]; exact hA, h4, fun e => by rw [hτ κ _ hA]; exact h5 e⟩
      | ptr id off =>
        obtain ⟨b, hb, e⟩ := hr
        exact ⟨b, by rw [hβ id hok]; exact hb, e⟩
      | eptr e off => exact hr
      | mptr κ sz n i off =>
        obtain ⟨b, els, h1, hA, h4, h5⟩ := hr
        exact ⟨b, els, h1, by rw [hok.2]; exact hA, h4, fun e => by rw [hτ κ _ hA]; exact h5 e⟩
      | fn f caps =>
        obtain ⟨vs, h1, h2, h3⟩ := hr
        refine ⟨vs, h1, h2, fun k p hk => ?_⟩
        obtain ⟨b, hb, e⟩ := h3 k p hk
        exact ⟨b, by rw [hβ _ (hok p (List.mem_of_getElem? hk))]; exact hb, e⟩
    · rcases h with rfl | ⟨κ, rfl⟩
      · exact hr.1
      · exact hr.1
    · obtain ⟨hd, hf⟩ := hr
      obtain ⟨a, cap, rfl, _⟩ := DRep_len hd
      simp only [capFull] at hf
      subst hf
      exact ⟨hd, sz, 0, h2, Nat.le_refl _, fun _ => .inr ⟨a, rfl⟩⟩
    · obtain ⟨hd, hf⟩ := hr
      obtain ⟨a, cap, rfl, _⟩ := DRep_len hd
      simp only [capFull] at hf
      subst hf
      exact ⟨a, 0, [], rfl, by simp, h2, Nat.le_refl _, fun _ => .inr ⟨a, rfl⟩⟩
  have hcs : ∀ (cs ds : List CV) (vs : List Value), cs.length = ds.length → (∀ (k : Nat) (c d : CV), cs[k]? = some c → ds[k]? = some d → CV.wk S'.H S.A S'.A c d) → CsRep g S.A ds vs → CsRep g' S'.A cs vs := by
    intro cs ds vs hl h hr
    refine ⟨by rw [hr.1, hl], fun k c hk => ?_⟩
    have hlt := (List.getElem?_eq_some_iff.1 hk).1
    obtain ⟨v, hv, hrv⟩ := hr.2 k ds[k] (List.getElem?_eq_getElem (by omega))
    exact ⟨v, hv, hc c ds[k] v (h k c ds[k] hk (List.getElem?_eq_getElem (by omega))) hrv⟩
  refine ⟨g', ⟨hm.com, ?_, ?_, ?_⟩, ?_, ⟨⟨he.mono.C, ?_, ?_⟩, he.frame, fun b hb ho => hOn b (he.own b hb ho), he.old, he.size, he.os, he.tape, he.output⟩, ?_⟩
  · intro id b hb
    obtain ⟨hne, hb⟩ := hβ' id b hb
    obtain ⟨ho, hC, ds, vs, e, fz, hH, hh, hu, hr⟩ := hm.var id b hb
    rcases hw.H id with h | ⟨cs, ds', h1, h2, h3, h4⟩
    · exact (hne h).elim
    · rw [hH] at h2
      cases h2
      exact ⟨hOv b id ho hne, hC, cs, vs, e, fz, h1, hh, hu, hcs cs ds _ h3 h4 hr⟩
  · intro κ ar hA
    rcases hw.A κ with h | h | ⟨h, sz, h1 | h1⟩
    · rw [h] at hA; cases hA
    · rw [h] at hA
      refine (hm.tok κ ar hA).frame (hτ κ ar hA) (fun _ _ _ h => h) (fun b ho => ⟨hOt b κ ho (by rw [h, hA]; simp), rfl, fun _ => rfl⟩)
    · rw [h1] at hA
      cases hA
      exact ⟨none, 0, hτ0 κ h, Nat.le_refl _, .inl rfl⟩
    · rw [h1] at hA
      cases hA
      exact ⟨by simp [Szd], none, 0, hτ0 κ h, Nat.le_refl _, .inl rfl⟩
  · intro b o ho
    cases hb : g.O b with
    | none => rw [hOn b hb] at ho; cases ho
    | some o' => exact hm.own b o' hb
  · intro id hid
    cases hb : g'.β id with
    | none => rfl
    | some b => exact ((hβ' id b hb).1 hid).elim
  · intro id b hb
    have h1 := he.mono.β id b hb
    rw [hβ id (hw.kH id (fun h0 => by rw [hd0 id h0] at hb; cases hb))]
    exact h1
  · intro κ ar hA
    obtain ⟨ar', hA', hle⟩ := he.mono.τ κ ar hA
    have hk := hw.kA κ (by rw [hA]; simp)
    rcases hw.A κ with h | h | ⟨h, _⟩
    · exact (hk h).elim
    · exact ⟨ar', by rw [h]; exact hA', by rw [hτ κ ar' hA']; exact hle⟩
    · rw [hA'] at h; cases h
  · intro t v hv
    have h := hw.ρ t
    generalize S'.ρ t = new at *
    generalize S.ρ t = old at *
    unfold PV.wk at h
    split at h
    · trivial
    · exact hc _ _ v h hv
    · obtain ⟨arr, e, hr⟩ := hv
      exact ⟨arr, e, hcs _ _ _ h.1 h.2 hr⟩
    · exact h.elim

theorem RS.weak {n : Nat} {g0 : Gh} {H0 : HMap} {A0 : AMap} {w0 : World} (hd0 : DomOK g0 H0) {S S' : St} {a : Act} (hw : Weak H0 A0 S S') (h : RS n g0 A0 w0 S a w) : RS n g0 A0 w0 S' a w := by
  obtain ⟨g, hm, hd, hf, he, hn, hdf⟩ := h
  obtain ⟨g', h1, h2, h3, h4⟩ := weak_mem hd0 hw hm he
  exact ⟨g', h1, h2, fun t => h4 t _ (hf t), h3, hn, hdf⟩

def postX (n : Nat) (g0 : Gh) (A0 : AMap) (w0 : World) (Q : Post) : Exit → Act → World → Prop
  | .normal, a, w => ∃ S, RS n g0 A0 w0 S a w ∧ Q.nrm S
  | .ret, a, w => ∃ S, RS n g0 A0 w0 S a w ∧ Q.ret S
  | .exit id, a, w => ∃ S, RS n g0 A0 w0 S a w ∧ Q.ext id S
  | _, _, _ => False

theorem code_ok {E : Env} (hE : EnvOK E) {n : Nat} {g0 : Gh} {H0 : HMap} {A0 : AMap} {w0 : World} (hd0 : DomOK g0 H0) :
    ∀ (c : Code), codeOK E n c = true → ∀ (Q : Post) (S : St) (a : Act) (w : World), VC E H0 A0 c Q S → RS n g0 A0 w0 S a w → c.wp E.P (postX n g0 A0 w0 Q) a w
  | .skip, _, Q, S, a, w, h, hr => wp_skip ⟨S, hr, h⟩
  | .region id ops draw, hc, Q, S, a, w, h, hr => region_real hE hc h hr (fun S a w hr h => ⟨S, hr, h⟩)
  | .seq x y, hc, Q, S, a, w, h, hr => by
    simp only [codeOK, Bool.and_eq_true] at hc
    refine wp_seq (wp_mono (code_ok hE hd0 x hc.1 _ S a w h hr) (fun e a' w' hq => ?_))
    cases e with
    | normal =>
      obtain ⟨S', hr', h'⟩ := hq
      exact code_ok hE hd0 y hc.2 Q S' a' w' h' hr'
    | ret => exact hq
    | exit id => exact hq
    | _ => exact hq.elim
  | .cond c x y, hc, Q, S, a, w, h, hr => by
    simp only [codeOK, Bool.and_eq_true] at hc
    obtain ⟨b, hb, ht, hff⟩ := Opt.iff.1 h
    obtain ⟨g, hm, hd, hf, he, hn, hdf⟩ := id hr
    have hv := boolOf_rep (PRep_ev hf c) hb
    refine wp_cond_split hv (fun e => ?_) (fun e => ?_)
    · exact code_ok hE hd0 x hc.1 Q S a w (ht e) hr
    · exact code_ok hE hd0 y hc.2 Q S a w (hff e) hr
  | .block id c, hc, Q, S, a, w, h, hr => by
    refine wp_block (wp_mono (code_ok hE hd0 c hc _ S a w h hr) (fun e a' w' hq => ?_))
    cases e with
    | normal => exact hq
    | ret => exact hq
    | exit j =>
      obtain ⟨S', hr', h'⟩ := hq
      simp only at h'
      show (if j = id then postX n g0 A0 w0 Q .normal a' w' else postX n g0 A0 w0 Q (.exit j) a' w')
      split at h'
      · rename_i e
        rw [if_pos e]
        exact ⟨S', hr', h'⟩
      · rename_i e
        rw [if_neg e]
        exact ⟨S', hr', h'⟩
    | _ => exact hq.elim
  | .loop c, hc, Q, S, a, w, h, hr => by
    obtain ⟨ι, F, μ, ⟨i0, hw0⟩, hround⟩ := h
    refine wp_loop_ghost (fun k a w => ∃ i, μ i = k ∧ RS n g0 A0 w0 (F i) a w) (μ i0) ⟨i0, rfl, hr.weak hd0 hw0⟩ ?_
    rintro _ a w ⟨i, rfl, hi⟩
    refine wp_mono (code_ok hE hd0 c hc _ (F i) a w (hround i) hi) (fun e a' w' hq => ?_)
    cases e with
    | normal =>
      obtain ⟨S', hr', j, hwj, hlt⟩ := hq
      exact ⟨μ j, hlt, j, rfl, hr'.weak hd0 hwj⟩
    | ret => exact hq
    | exit id => exact hq
    | _ => exact hq.elim
  | .exit id, _, Q, S, a, w, h, hr => wp_exit ⟨S, hr, h⟩
  | .label l, _, Q, S, a, w, h, hr => wp_label ⟨S, hr, h⟩
  | .scope c, hc, Q, S, a, w, h, hr => by
    refine wp_scope_straight (wp_mono (code_ok hE hd0 c hc Q S a w h hr) (fun e a' w' hq => ?_))
    cases e with
    | goto l => exact hq.elim
    | _ => exact hq
  | .ret, _, Q, S, a, w, h, hr => wp_ret ⟨S, hr, h⟩
  | .rangeFunc .., _, _, _, _, _, h, _ => h.elim
  | .goto _, _, _, _, _, _, h, _ => h.elim
  | .refuse _, _, _, _, _, _, h, _ => h.elim

end Go.PW
