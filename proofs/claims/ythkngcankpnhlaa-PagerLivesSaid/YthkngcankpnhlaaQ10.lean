/-
  Parts of the proof, laid together: PwN, PwO, PwP.
-/
import Derived.Test.YthkngcankpnhlaaQ09
import Derived.Deep.LoopGhost

namespace Go.PW
variable {P : Program} {g : Gh} {H : HMap} {A : AMap} {w : World} {D : List Deferred}
def RS (D : List Deferred) (n : Nat) (g0 : Gh) (A0 : AMap) (w0 : World) (S : St) (a : Act) (w : World) : Prop :=
  ∃ g, MRel g S.H S.A w ∧ DomOK g S.H ∧ FRep g S.A S.ρ a ∧ Evol g0 A0 w0 g S.A w ∧ a.tmps.size = n ∧ a.defers = D
theorem FRep_put {g' : Gh} {A' : AMap} {ρ : Nat → PV} {a : Act} (hf : FRep g A ρ a) (hM : Mono g A g' A') {dst : Option Nat} {v : PV} {u : Value} (hv : PRep g' A' v u) (hd : ∀ d, dst = some d → d < a.tmps.size) : FRep g' A' (put ρ dst v) (a.put dst u) := by
  intro t
  cases dst with
  | none => exact PRep.mono hM (hf t)
  | some d =>
    have hlt := hd d rfl
    by_cases ht : t = d
    · subst ht
      rw [show put ρ (some t) v t = v from upd_same _ _ _]
      simp only [Act.put, Array.getD_eq_getD_getElem?]
      rw [Array.getElem?_setIfInBounds_self_of_lt hlt]
      exact hv
    · rw [show put ρ (some d) v t = ρ t from upd_other _ _ ht]
      simp only [Act.put, Array.getD_eq_getD_getElem?]
      rw [Array.getElem?_setIfInBounds_ne (Ne.symm ht)]
      have := PRep.mono hM (hf t)
      simpa [Array.getD_eq_getD_getElem?] using this
theorem put_size (a : Act) (dst : Option Nat) (u : Value) : (a.put dst u).tmps.size = a.tmps.size := by cases dst <;> simp [Act.put]
theorem put_defers (a : Act) (dst : Option Nat) (u : Value) : (a.put dst u).defers = a.defers := by cases dst <;> rfl
theorem RS.step {n : Nat} {g0 : Gh} {A0 : AMap} {w0 : World} {S : St} {a : Act} {w' : World} {g' : Gh} {H' : HMap} {A' : AMap} {dst : Option Nat} {v : PV} {u : Value}
    (hm : MRel g' H' A' w') (hd : DomOK g' H') (hf : FRep g S.A S.ρ a) (h0 : Evol g0 A0 w0 g S.A w) (he : Evol g S.A w g' A' w') (hn : a.tmps.size = n) (hdf : a.defers = D) (hv : PRep g' A' v u) (hdst : ∀ d, dst = some d → d < n) :
    RS D n g0 A0 w0 ⟨put S.ρ dst v, H', A'⟩ (a.put dst u) w' :=
  ⟨g', hm, hd, FRep_put hf he.mono hv (fun d h => by rw [hn]; exact hdst d h), h0.trans he, by rw [put_size]; exact hn, by rw [put_defers]; exact hdf⟩
theorem guard_real {ops : Array Oper} {ρ : Nat → PV} {a : Act} (hf : FRep g A ρ a) {o : Oper} {b : Bool} (h : guardA ops ρ o.guard = some b) : Region.wanted o (yielded ops a.tmps) = b := by
  unfold guardA at h
  unfold Region.wanted
  cases hg : o.guard with
  | none => rw [hg] at h; cases h; rfl
  | some p =>
    obtain ⟨j, want⟩ := p
    rw [hg] at h
    simp only at h ⊢
    unfold yielded
    cases ht : (ops[j]?).bind (·.dst) with
    | none => rw [ht] at h; cases h; rfl
    | some t =>
      rw [ht] at h
      simp only at h
      have hr := hf t
      unfold gOf at h
      split at h
      · rename_i b' e
        cases h
        rw [e] at hr
        have hu := PRep_lit_inv hr
        simp only [Option.bind_some]
        cases hx : a.tmps[t]? with
        | none => simp [Array.getD_eq_getD_getElem?, hx, undef] at hu
        | some x =>
          simp only [Array.getD_eq_getD_getElem?, hx, Option.getD_some] at hu
          subst hu
          cases b' <;> cases want <;> rfl
      · rename_i e
        cases h
        rw [e] at hr
        have hu : a.tmps.getD t undef = undef := hr
        simp only [Option.bind_some]
        cases hx : a.tmps[t]? with
        | none => rfl
        | some x =>
          simp only [Array.getD_eq_getD_getElem?, hx, Option.getD_some] at hu
          subst hu
          rfl
      · cases h
theorem op_real {E : Env} (hE : EnvOK E) {n : Nat} {g0 : Gh} {A0 : AMap} {w0 : World} {fb : Option (List Nat)} {ops : Array Oper} {o : Oper} {S : St} {a : Act} {v : PV} {H' : HMap} {A' : AMap} (hdst : ∀ d, o.dst = some d → d < n)
    (hy : Yld E fb ops o S v H' A') (hr : RS D n g0 A0 w0 S a w) {KK : Act → World → Prop} {Q : Exit → Act → World → Prop} (hK : ∀ a' w', RS D n g0 A0 w0 ⟨put S.ρ o.dst v, H', A'⟩ a' w' → KK a' w') :
    if Region.wanted o (yielded ops a.tmps) then o.wp E.P a w KK Q ∨ (o.asks E.P a w ∧ LetsOut Q) else KK (a.put o.dst undef) w := by
  obtain ⟨g, hm, hd, hf, he, hn, hdf⟩ := hr
  rcases hy with ⟨hg, hs⟩ | ⟨hg, rfl, rfl, rfl⟩
  · rw [guard_real hf hg, if_pos rfl]
    exact .inl (step_ok hE hm hd hf o hs (fun u w' g' h1 h2 h3 h4 => hK _ _ (.step h2 h4 hf he h3 hn hdf h1 hdst)))
  · rw [guard_real hf hg, if_neg (by simp)]
    exact hK _ _ (.step hm hd hf he (.refl _ _ _) hn hdf rfl hdst)
theorem any_real {E : Env} (hE : EnvOK E) {n : Nat} {g0 : Gh} {A0 : AMap} {w0 : World} {fb : Option (List Nat)} {ops : Array Oper} (hdst : ∀ (i : Nat) (o : Oper), ops[i]? = some o → ∀ d, o.dst = some d → d < n) {K : St → Prop} {Q : Exit → Act → World → Prop}
    (hQ : ∀ S a w, RS D n g0 A0 w0 S a w → K S → Q .normal a w) :
    ∀ (fuel : Nat) (listed : Array Bool) (S : St) (a : Act) (w : World), anyA E fb ops K fuel listed S → RS D n g0 A0 w0 S a w → wpAny E.P .any ops Q fuel listed a w
  | 0, _, S, a, w, h, hr => ⟨h.1, hQ S a w hr h.2⟩
  | fuel + 1, listed, S, a, w, h, hr => ⟨fun h0 => hQ S a w hr (h.1 h0), fun i hi => by
      have h1 := h.2 i hi
      unfold AOp at h1
      unfold wpOp
      cases ho : ops[i]? with
      | none => simp only [ho] at h1 ⊢; exact any_real hE hdst hQ fuel _ S a w h1 hr
      | some o =>
        simp only [ho] at h1 ⊢
        obtain ⟨v, H', A', hy, hK⟩ := h1
        exact op_real hE (hdst i o ho) hy hr (fun a' w' hr' => any_real hE hdst hQ fuel _ _ a' w' hK hr')⟩
theorem list_real {E : Env} (hE : EnvOK E) {n : Nat} {g0 : Gh} {A0 : AMap} {w0 : World} {fb : Option (List Nat)} {ops : Array Oper} {K : St → Prop} {Q : Exit → Act → World → Prop}
    (hQ : ∀ S a w, RS D n g0 A0 w0 S a w → K S → Q .normal a w) :
    ∀ (l : List Oper) (S : St) (a : Act) (w : World), (∀ o ∈ l, ∀ d, o.dst = some d → d < n) → RunV E fb ops l S K → RS D n g0 A0 w0 S a w → wpList E.P ops Q l a w
  | [], S, a, w, _, h, hr => hQ S a w hr h
  | o :: l, S, a, w, hd, h, hr => by
    obtain ⟨v, H', A', hy, hK⟩ := RunV_head h
    exact op_real hE (hd o (by simp)) hy hr (fun a' w' hr' => list_real hE hQ l _ a' w' (fun o ho => hd o (by simp [ho])) hK hr')
def dstsOK (n : Nat) (ops : Array Oper) : Bool := ops.toList.all fun o => match o.dst with
  | some d => decide (d < n)
  | none => true
def codeOK (E : Env) (n : Nat) : Code → Bool
  | .region id ops draw => dstsOK n ops && (!draw || (Region.noSelect ops && lexB (!E.st.contains id, !E.st.contains id && lwE id E.st) (ops.toList.map (smOf E.effs ops)) [] 0 && dstsOK 1000 ops))
  | .seq a b => codeOK E n a && codeOK E n b
  | .cond _ a b => codeOK E n a && codeOK E n b
  | .block _ c => codeOK E n c
  | .loop c => codeOK E n c
  | .scope c => codeOK E n c
  | _ => true
theorem dstsOK_spec {n : Nat} {ops : Array Oper} (h : dstsOK n ops = true) : ∀ o ∈ ops.toList, ∀ d, o.dst = some d → d < n := by
  intro o ho d hd
  have := List.all_eq_true.1 h o ho
  rw [hd] at this
  simpa using this
theorem RS.drew {n : Nat} {g0 : Gh} {A0 : AMap} {w0 : World} {S : St} {a : Act} (h : RS D n g0 A0 w0 S a w) : RS D n g0 A0 w0 S a { w with drawn := w.drawn + 1 } := by
  obtain ⟨g, hm, hd, hf, he, hn, hdf⟩ := h
  exact ⟨g, hm.same rfl, hd, hf, he.trans (.same rfl rfl rfl rfl), hn, hdf⟩
theorem region_real {E : Env} (hE : EnvOK E) {n : Nat} {g0 : Gh} {A0 : AMap} {w0 : World} {id : Nat} {ops : Array Oper} {draw : Bool} (hc : codeOK E n (.region id ops draw) = true) {S : St} {a : Act} {K : St → Prop} {Q : Exit → Act → World → Prop}
    (h : RunV E (fbOf E id ops draw) ops ops.toList S K) (hr : RS D n g0 A0 w0 S a w) (hQ : ∀ S a w, RS D n g0 A0 w0 S a w → K S → Q .normal a w) : (Code.region id ops draw).wp E.P Q a w := by
  simp only [codeOK, Bool.and_eq_true] at hc
  obtain ⟨h1, h2⟩ := hc
  have hd := dstsOK_spec h1
  cases draw with
  | false => exact wp_region_list (list_real hE hQ ops.toList S a w hd h hr)
  | true =>
    simp only [Bool.not_true, Bool.false_or, Bool.and_eq_true] at h2
    obtain ⟨⟨h2, h3⟩, h4⟩ := h2
    have hlt := dstsOK_spec h4
    have hmem : ∀ (i : Nat) (o : Oper), ops[i]? = some o → o ∈ ops.toList := fun i o ho => by
      rw [← Array.getElem?_toList] at ho
      exact List.mem_of_getElem? ho
    have hfb : modeOf (fbOf E id ops true) = (!E.st.contains id, !E.st.contains id && lwE id E.st) := by
      unfold fbOf modeOf
      cases E.st.contains id
      · simp only [lwOf_mkM]; rfl
      · rfl
    have hnew : ∀ (j : Nat) (o : Oper), ops[j]? = some o → newOK E (fbOf E id ops true) o := by
      intro j o ho l hl hk d' hd'
      unfold fbOf at hl
      simp only at hl
      split at hl
      · cases hl
      · rename_i hst
        rw [show fbOf E id ops true = some (mkM (lwE id E.st) :: (lwIds E.off id E.st ++ ops.toList.filterMap (newId E.off))) by unfold fbOf; simp only; rw [hst]]
        show (lwIds E.off id E.st ++ ops.toList.filterMap (newId E.off)).contains _ = true ∧ _
        refine ⟨?_, hlt o (hmem j o ho) d' hd'⟩
        rw [List.contains_iff_mem, List.mem_append, List.mem_filterMap]
        refine .inr ⟨o, hmem j o ho, ?_⟩
        unfold newId
        rw [hd']
        cases hop : o.op <;> rw [hop] at hk <;> first | rfl | (cases hk; done) | (rename_i s dt x; rcases kindV_or E.effs s dt with ⟨e, _⟩ | ⟨e, _⟩ | ⟨e, _⟩ <;> (rw [show kind E.effs (.convert s dt x) = kindV E.effs s dt from rfl, e] at hk; cases hk); done) | (rename_i T l c; rcases kindK_or E.effs T with ⟨e, _⟩ | ⟨e, _⟩ <;> (rw [show kind E.effs (.makeSlice T l c) = kindK E.effs T from rfl, e] at hk; cases hk); done) | (rename_i T m ps; rcases kindB_or E.effs T with ⟨e, _⟩ | ⟨e, _⟩ <;> (rw [show kind E.effs (.buildSlice T m ps) = kindB E.effs T from rfl, e] at hk; cases hk); done) | (rename_i T r; cases r <;> cases hk; done) | (rename_i c; obtain ⟨callee, args, ats⟩ := c; cases callee with
          | value x => cases x with
            | func f => rcases kindF_or E.effs f with e | ⟨e, _⟩ | ⟨e, _⟩ | ⟨e, _⟩ <;> (rw [show kind E.effs (.call ⟨.value (.func f), args, ats⟩) = kindF E.effs f from rfl, e] at hk; cases hk)
            | _ => cases hk
          | invoke r m => cases hk
          | builtin b => cases b <;> first | (cases hk; done) | (rcases kindL_or E.effs ats.toList with ⟨e, _⟩ | ⟨e, _⟩ <;> (rw [show kind E.effs (.call ⟨.builtin .len, args, ats⟩) = kindL E.effs ats.toList from rfl, e] at hk; cases hk)))
    refine wp_region_any hE.mixed (any_real (fb := fbOf E id ops true) hE (fun i o ho => hd o (hmem i o ho)) hQ _ _ S a _ ?_ hr.drew)
    rw [← hfb] at h3
    obtain ⟨full, g, hfull⟩ := lexB_spec _ [] h3 Good_nil
    have hD0 : Done ops.size 0 (Array.replicate ops.size false) := fun j => by
      rw [Array.getD_eq_getD_getElem?, Array.getElem?_replicate]
      by_cases hj : j < ops.size
      · simp [hj]
      · simp [hj]; omega
    have := anyA_lex (E := E) (fb := fbOf E id ops true) (ops := ops) (K := K) (Region.noSelect_spec h2) hnew g (by simpa using hfull) ops.toList 0 (Array.replicate ops.size false) S (by simp) (by simp) (by simp) hD0 h
    simpa using this
end Go.PW

namespace Go.PW
variable {g : Gh} {H : HMap} {A : AMap} {w : World} {D : List Deferred}
theorem weak_mem {H0 : HMap} {A0 : AMap} {g0 : Gh} {w0 : World} (hd0 : DomOK g0 H0) {S S' : St} (hw : Weak H0 A0 S S') (hm : MRel g S.H S.A w) (he : Evol g0 A0 w0 g S.A w) :
    ∃ g', MRel g' S'.H S'.A w ∧ DomOK g' S'.H ∧ Evol g0 A0 w0 g' S'.A w ∧ ∀ t v, PRep g S.A (S.ρ t) v → PRep g' S'.A (S'.ρ t) v := by
  let g' : Gh := { C := g.C, β := fun id => match S'.H id with
                    | none => none
                    | some _ => g.β id,
                   τ := fun κ => match S.A κ with
                    | none => .slice none 0 0
                    | some _ => g.τ κ,
                   O := fun b => match g.O b with
                    | none => none
                    | some (.var id) => (match S'.H id with
                      | none => none
                      | some _ => some (.var id))
                    | some (.tok κ) => (match S'.A κ with
                      | none => none
                      | some _ => some (.tok κ)) }
  have hβ : ∀ id, S'.H id ≠ none → g'.β id = g.β id := fun id h => by
    simp only [g']
    cases hh : S'.H id with
    | none => exact (h hh).elim
    | some _ => rfl
  have hβ' : ∀ id b, g'.β id = some b → S'.H id ≠ none ∧ g.β id = some b := fun id b h => by
    simp only [g'] at h
    cases hh : S'.H id with
    | none => rw [hh] at h; cases h
    | some _ => rw [hh] at h; exact ⟨by simp, h⟩
  have hτ : ∀ κ ar, S.A κ = some ar → g'.τ κ = g.τ κ := fun κ ar h => by simp only [g', h]
  have hτ0 : ∀ κ, S.A κ = none → g'.τ κ = .slice none 0 0 := fun κ h => by simp only [g', h]
  have hOv : ∀ b id, g.O b = some (.var id) → S'.H id ≠ none → g'.O b = some (.var id) := fun b id h h' => by
    simp only [g', h]
    cases hh : S'.H id with
    | none => exact (h' hh).elim
    | some _ => rfl
  have hOt : ∀ b κ, g.O b = some (.tok κ) → S'.A κ ≠ none → g'.O b = some (.tok κ) := fun b κ h h' => by
    simp only [g', h]
    cases hh : S'.A κ with
    | none => exact (h' hh).elim
    | some _ => rfl
  have hOn : ∀ b, g.O b = none → g'.O b = none := fun b h => by simp only [g', h]
  have hc : ∀ (new old : CV) (v : Value), CV.wk S'.H S.A S'.A new old → CRep g S.A old v → CRep g' S'.A new v := by
    intro new old v h hr
    rcases h with rfl | ⟨rfl, hok⟩ | ⟨els, rfl, h⟩ | ⟨rfl, κ, sz, rfl, h1, h2⟩ | ⟨rfl, κ, sz, rfl | rfl, h1, h2⟩
    · trivial
    · cases new with
      | any => trivial
      | skip => exact hr
      | d x => exact hr
      | full els => exact hr
      | own κ els =>
        obtain ⟨hd, sz, n, hA, hl, ht⟩ := hr
        exact ⟨hd, sz, n, by rw [hok.2]; exact hA, hl, fun e => by rw [hτ κ _ hA]; exact ht e⟩
      | mt κ sz n =>
        obtain ⟨a, cap, els, h1, h2, hA, h4, h5⟩ := hr
        exact ⟨a, cap, els, h1, h2, by rw [hok.2]; exact hA, h4, fun e => by rw [hτ κ _ hA]; exact h5 e⟩
      | tv κ sz n L =>
        obtain ⟨a, cap, els, h1, h2, hA, h4, h5⟩ := hr
        exact ⟨a, cap, els, h1, h2, by rw [hok.2]; exact hA, h4, fun e => by rw [hτ κ _ hA]; exact h5 e⟩
      | ptr id off =>
        obtain ⟨b, hb, e⟩ := hr
        exact ⟨b, by rw [hβ id hok]; exact hb, e⟩
      | eptr e off => exact hr
      | mptr κ sz n i off =>
        obtain ⟨b, els, h1, hA, h4, h5⟩ := hr
        exact ⟨b, els, h1, by rw [hok.2]; exact hA, h4, fun e => by rw [hτ κ _ hA]; exact h5 e⟩
      | fn f caps =>
        obtain ⟨vs, h1, h2, h3⟩ := hr
        refine ⟨vs, h1, h2, fun k p hk => ?_⟩
        obtain ⟨b, hb, e⟩ := h3 k p hk
        exact ⟨b, by rw [hβ _ (hok p (List.mem_of_getElem? hk))]; exact hb, e⟩
      | mpr κ =>
        obtain ⟨hb, hv, m, hA⟩ := hr
        exact ⟨hb, by rw [hτ κ _ hA]; exact hv, m, by rw [hok.2]; exact hA⟩
      | vsl id n =>
        obtain ⟨b, hb, e⟩ := hr
        exact ⟨b, by rw [hβ id hok]; exact hb, e⟩
      | bfn f fst caps =>
        obtain ⟨us, vs, e, h1, h2⟩ := hr
        exact ⟨us, vs, e, h1.mono (fun p hp b hb => by rw [hβ _ (hok.1 p hp)]; exact hb), h2.mono (fun p hp b hb => by rw [hβ _ (hok.2 p hp)]; exact hb)⟩
    · rcases h with rfl | ⟨κ, rfl⟩
      · exact hr.1
      · exact hr.1
    · obtain ⟨hd, hf⟩ := hr
      obtain ⟨a, cap, rfl, _⟩ := DRep_len hd
      simp only [capFull] at hf
      subst hf
      exact ⟨hd, sz, 0, h2, Nat.le_refl _, fun _ => .inr ⟨a, rfl⟩⟩
    · obtain ⟨hd, hf⟩ := hr
      obtain ⟨a, cap, rfl, _⟩ := DRep_len hd
      simp only [capFull] at hf
      subst hf
      exact ⟨a, 0, [], rfl, by simp, h2, Nat.le_refl _, fun _ => .inr ⟨a, rfl⟩⟩
    · obtain ⟨hd, hf⟩ := hr
      obtain ⟨a, cap, rfl, _⟩ := DRep_len hd
      simp only [capFull] at hf
      subst hf
      exact ⟨a, 0, [], rfl, by simp, h2, ⟨Nat.le_refl _, Nat.le_refl _, Nat.le_refl _⟩, fun _ => .inr ⟨rfl, a, rfl⟩⟩
  have hcs : ∀ (cs ds : List CV) (vs : List Value), cs.length = ds.length → (∀ (k : Nat) (c d : CV), cs[k]? = some c → ds[k]? = some d → CV.wk S'.H S.A S'.A c d) → CsRep g S.A ds vs → CsRep g' S'.A cs vs := by
    intro cs ds vs hl h hr
    refine ⟨by rw [hr.1, hl], fun k c hk => ?_⟩
    have hlt := (List.getElem?_eq_some_iff.1 hk).1
    obtain ⟨v, hv, hrv⟩ := hr.2 k ds[k] (List.getElem?_eq_getElem (by omega))
    exact ⟨v, hv, hc c ds[k] v (h k c ds[k] hk (List.getElem?_eq_getElem (by omega))) hrv⟩
  refine ⟨g', ⟨hm.com, ?_, ?_, ?_⟩, ?_, ⟨⟨he.mono.C, ?_, ?_⟩, he.frame, fun b hb ho => hOn b (he.own b hb ho), he.old, he.size, he.os, he.tape, he.output⟩, ?_⟩
  · intro id b hb
    obtain ⟨hne, hb⟩ := hβ' id b hb
    obtain ⟨ho, hC, ds, vs, e, fz, hH, hh, hu, hr⟩ := hm.var id b hb
    rcases hw.H id with h | ⟨cs, ds', h1, h2, h3, h4⟩
    · exact (hne h).elim
    · rw [hH] at h2
      cases h2
      exact ⟨hOv b id ho hne, hC, cs, vs, e, fz, h1, hh, hu, hcs cs ds _ h3 h4 hr⟩
  · intro κ ar hA
    rcases hw.A κ with h | h | ⟨h, sz, h1 | h1⟩
    · rw [h] at hA; cases hA
    · rw [h] at hA
      refine (hm.tok κ ar hA).frame (hτ κ ar hA) (fun _ _ _ h => h) (fun b ho => ⟨hOt b κ ho (by rw [h, hA]; simp), rfl, fun _ => rfl⟩)
    · rw [h1] at hA
      cases hA
      exact ⟨none, 0, hτ0 κ h, Nat.le_refl _, .inl rfl⟩
    · rw [h1] at hA
      cases hA
      exact ⟨by simp [Szd], none, 0, hτ0 κ h, Nat.le_refl _, .inl rfl⟩
  · intro b o ho
    cases hb : g.O b with
    | none => rw [hOn b hb] at ho; cases ho
    | some o' => exact hm.own b o' hb
  · intro id hid
    cases hb : g'.β id with
    | none => rfl
    | some b => exact ((hβ' id b hb).1 hid).elim
  · intro id b hb
    have h1 := he.mono.β id b hb
    rw [hβ id (hw.kH id (fun h0 => by rw [hd0 id h0] at hb; cases hb))]
    exact h1
  · intro κ ar hA
    obtain ⟨ar', hA', hle⟩ := he.mono.τ κ ar hA
    have hk := hw.kA κ (by rw [hA]; simp)
    rcases hw.A κ with h | h | ⟨h, _⟩
    · exact (hk h).elim
    · exact ⟨ar', by rw [h]; exact hA', by rw [hτ κ ar' hA']; exact hle⟩
    · rw [hA'] at h; cases h
  · intro t v hv
    have h := hw.ρ t
    generalize S'.ρ t = new at *
    generalize S.ρ t = old at *
    unfold PV.wk at h
    split at h
    · trivial
    · exact hc _ _ v h hv
    · obtain ⟨arr, e, hr⟩ := hv
      exact ⟨arr, e, hcs _ _ _ h.1 h.2 hr⟩
    · rename_i xs ys
      obtain ⟨arr, e, hs, hr⟩ := hv
      refine ⟨arr, e, by rw [hs, h.1], fun k x hk => ?_⟩
      have hlt := (List.getElem?_eq_some_iff.1 hk).1
      have hy : ys[k]? = some (ys[k]'(by rw [← h.1]; exact hlt)) := List.getElem?_eq_getElem _
      obtain ⟨u, hu, ht⟩ := hr k _ hy
      have hw := h.2 k x _ hk hy
      generalize ys[k]'(by rw [← h.1]; exact hlt) = y at ht hw
      refine ⟨u, hu, ?_⟩
      cases x with
      | c x =>
        cases y with
        | c y => exact hc x y u hw ht
        | agg ds => exact hw.elim
      | agg cs =>
        cases y with
        | c y => exact hw.elim
        | agg ds => obtain ⟨arr', e', hr'⟩ := ht; exact ⟨arr', e', hcs _ _ _ hw.1 hw.2 hr'⟩
    · exact h.elim
theorem RS.weak {n : Nat} {g0 : Gh} {H0 : HMap} {A0 : AMap} {w0 : World} (hd0 : DomOK g0 H0) {S S' : St} {a : Act} (hw : Weak H0 A0 S S') (h : RS D n g0 A0 w0 S a w) : RS D n g0 A0 w0 S' a w := by
  obtain ⟨g, hm, hd, hf, he, hn, hdf⟩ := h
  obtain ⟨g', h1, h2, h3, h4⟩ := weak_mem hd0 hw hm he
  exact ⟨g', h1, h2, fun t => h4 t _ (hf t), h3, hn, hdf⟩
def postX (D : List Deferred) (n : Nat) (g0 : Gh) (A0 : AMap) (w0 : World) (Q : Post) : Exit → Act → World → Prop
  | .normal, a, w => ∃ S, RS D n g0 A0 w0 S a w ∧ Q.nrm S
  | .ret, a, w => ∃ S, RS D n g0 A0 w0 S a w ∧ Q.ret S
  | .exit id, a, w => ∃ S, RS D n g0 A0 w0 S a w ∧ Q.ext id S
  | _, _, _ => False
theorem code_ok {E : Env} (hE : EnvOK E) {n : Nat} {g0 : Gh} {H0 : HMap} {A0 : AMap} {w0 : World} (hd0 : DomOK g0 H0) :
    ∀ (c : Code), codeOK E n c = true → ∀ (Q : Post) (S : St) (a : Act) (w : World), VC E H0 A0 c Q S → RS D n g0 A0 w0 S a w → c.wp E.P (postX D n g0 A0 w0 Q) a w
  | .skip, _, Q, S, a, w, h, hr => wp_skip ⟨S, hr, h⟩
  | .region id ops draw, hc, Q, S, a, w, h, hr => region_real hE hc h hr (fun S a w hr h => ⟨S, hr, h⟩)
  | .seq x y, hc, Q, S, a, w, h, hr => by
    simp only [codeOK, Bool.and_eq_true] at hc
    refine wp_seq (wp_mono (code_ok hE hd0 x hc.1 _ S a w h hr) (fun e a' w' hq => ?_))
    cases e with
    | normal =>
      obtain ⟨S', hr', h'⟩ := hq
      exact code_ok hE hd0 y hc.2 Q S' a' w' h' hr'
    | ret => exact hq
    | exit id => exact hq
    | _ => exact hq.elim
  | .cond c x y, hc, Q, S, a, w, h, hr => by
    simp only [codeOK, Bool.and_eq_true] at hc
    obtain ⟨b, hb, ht, hff⟩ := Opt.iff.1 h
    obtain ⟨g, hm, hd, hf, he, hn, hdf⟩ := id hr
    have hv := boolOf_rep (PRep_ev hf c) hb
    refine wp_cond_split hv (fun e => ?_) (fun e => ?_)
    · exact code_ok hE hd0 x hc.1 Q S a w (ht e) hr
    · exact code_ok hE hd0 y hc.2 Q S a w (hff e) hr
  | .block id c, hc, Q, S, a, w, h, hr => by
    refine wp_block (wp_mono (code_ok hE hd0 c hc _ S a w h hr) (fun e a' w' hq => ?_))
    cases e with
    | normal => exact hq
    | ret => exact hq
    | exit j =>
      obtain ⟨S', hr', h'⟩ := hq
      simp only at h'
      show (if j = id then postX D n g0 A0 w0 Q .normal a' w' else postX D n g0 A0 w0 Q (.exit j) a' w')
      split at h'
      · rename_i e
        rw [if_pos e]
        exact ⟨S', hr', h'⟩
      · rename_i e
        rw [if_neg e]
        exact ⟨S', hr', h'⟩
    | _ => exact hq.elim
  | .loop c, hc, Q, S, a, w, h, hr => by
    obtain ⟨ι, F, μ, ⟨i0, hw0⟩, hround⟩ := h
    refine wp_loop_ghost (fun k a w => ∃ i, μ i = k ∧ RS D n g0 A0 w0 (F i) a w) (μ i0) ⟨i0, rfl, hr.weak hd0 hw0⟩ ?_
    rintro _ a w ⟨i, rfl, hi⟩
    refine wp_mono (code_ok hE hd0 c hc _ (F i) a w (hround i) hi) (fun e a' w' hq => ?_)
    cases e with
    | normal =>
      obtain ⟨S', hr', j, hwj, hlt⟩ := hq
      exact ⟨μ j, hlt, j, rfl, hr'.weak hd0 hwj⟩
    | ret => exact hq
    | exit id => exact hq
    | _ => exact hq.elim
  | .exit id, _, Q, S, a, w, h, hr => wp_exit ⟨S, hr, h⟩
  | .label l, _, Q, S, a, w, h, hr => wp_label ⟨S, hr, h⟩
  | .scope c, hc, Q, S, a, w, h, hr => by
    refine wp_scope_straight (wp_mono (code_ok hE hd0 c hc Q S a w h hr) (fun e a' w' hq => ?_))
    cases e with
    | goto l => exact hq.elim
    | _ => exact hq
  | .ret, _, Q, S, a, w, h, hr => wp_ret ⟨S, hr, h⟩
  | .rangeFunc .., _, _, _, _, _, h, _ => h.elim
  | .goto _, _, _, _, _, _, h, _ => h.elim
  | .refuse _, _, _, _, _, _, h, _ => h.elim
end Go.PW

namespace Go.PW
variable {P : Program} {g : Gh} {H : HMap} {A : AMap} {w : World}
def entry (args : List PV) : Nat → PV := fun t => (args[t]?).getD (.c .any)
def resOne (P : Program) (S : St) : ResultVar → Option PV
  | .tmp t => some (S.ρ t)
  | .cell t T => loadS P none S.H S.A T (S.ρ t)
def RetT (A : AMap) (k : Option Tok) (r : RT) (p : PV) : Prop :=
  match r with
  | .d x => p.frz = .c (.d x) ∨ ∃ κ sz els, k = some κ ∧ x = .sl els ∧ p = .c (.mt κ sz els.length) ∧ A κ = some (.mu sz els)
  | .agg cs => p.frz = .agg (cs.map .d)
  | .own sz els => (∃ κ, k = some κ ∧ p = .c (.own κ els) ∧ A κ = some (.co sz els.length)) ∨ p = .c (.full els)
  | .mu sz els => (∃ κ, k = some κ ∧ p = .c (.mt κ sz els.length) ∧ A κ = some (.mu sz els)) ∨ (p = .c (.full []) ∧ els = [])
def RetL (P : Program) (S : St) (ks : List (Option Tok)) : List ResultVar → List RT → Prop
  | [], [] => ks = []
  | v :: vs, r :: rs => ∃ p, resOne P S v = some p ∧ RetT S.A ks.head?.join r p ∧ RetL P S ks.tail vs rs
  | _, _ => False
def Apart (ks : List (Option Tok)) : Prop := ∀ (i j : Nat) (κ : Tok), ks[i]? = some (some κ) → ks[j]? = some (some κ) → i = j
def Ret (P : Program) (fn : Func) (r : RV) (S : St) : Prop :=
  (match r with | .one _ => True | .tup rs => rs.length ≠ 1) ∧ ∃ ks, Apart ks ∧ RetL P S ks fn.results.toList r.list
def OneR (g : Gh) (A : AMap) (w : World) (k : Option Tok) (r : RT) (u : Value) : Prop :=
  match r with
  | .d x => DRep g.C x u ∨ ∃ κ sz els, k = some κ ∧ x = .sl els ∧ TokRep g w κ (.mu sz els) ∧ (g.τ κ = u ∨ (els = [] ∧ ∃ a, u = .slice a 0 0))
  | .agg cs => ∃ arr : Array Value, u = .agg arr ∧ CsRep g A (cs.map .d) arr.toList
  | .own sz els => DRep g.C (.sl els) u ∧ ((∃ κ, k = some κ ∧ g.τ κ = u ∧ TokRep g w κ (.co sz els.length)) ∨ capFull u)
  | .mu sz els => (∃ κ a cap, k = some κ ∧ g.τ κ = u ∧ TokRep g w κ (.mu sz els) ∧ u = .slice a els.length cap ∧ (0 < els.length → ∃ b, a = some ⟨b, 0, none⟩)) ∨ (els = [] ∧ ∃ a, u = .slice a 0 0)
theorem oneR_of (hm : MRel g H A w) {k : Option Tok} {r : RT} {p : PV} {u : Value} (h : RetT A k r p) (hp : PRep g A p u) : OneR g A w k r u := by
  cases r with
  | d x =>
    rcases h with h | ⟨κ, sz, els, hk, hx, rfl, hA⟩
    · have := PRep_frz hp
      rw [show p.frz = .c (.d x) from h] at this
      exact .inl this
    · obtain ⟨a, cap, els', e, ha, hA', hl, ht⟩ := hp
      rw [hA] at hA'
      cases hA'
      rcases ht rfl with ht | ⟨a', e'⟩
      · exact .inr ⟨κ, sz, els, hk, hx, hm.tok κ _ hA, .inl ht⟩
      · rw [e'] at e
        injection e with _ e1 e2
        exact .inr ⟨κ, sz, els, hk, hx, hm.tok κ _ hA, .inr ⟨List.length_eq_zero_iff.1 e1.symm, a', e'⟩⟩
  | agg cs =>
    have := PRep_frz hp
    rw [show p.frz = .agg (cs.map .d) from h] at this
    exact this
  | own sz els =>
    rcases h with ⟨κ, hk, rfl, hA⟩ | rfl
    · obtain ⟨hd, sz', n, hA', hl, ht⟩ := hp
      rw [hA] at hA'
      cases hA'
      refine ⟨hd, ?_⟩
      rcases ht rfl with ht | ⟨a, e⟩
      · exact .inl ⟨κ, hk, ht, hm.tok κ _ hA⟩
      · exact .inr (by rw [e]; rfl)
    · exact ⟨hp.1, .inr hp.2⟩
  | mu sz els =>
    rcases h with ⟨κ, hk, rfl, hA⟩ | ⟨rfl, rfl⟩
    · obtain ⟨a, cap, els', e, ha, hA', hl, ht⟩ := hp
      rw [hA] at hA'
      cases hA'
      rcases ht rfl with ht | ⟨a', e'⟩
      · exact .inl ⟨κ, a, cap, hk, ht, hm.tok κ _ hA, e, ha⟩
      · rw [e'] at e
        injection e with _ e1 e2
        exact .inr ⟨List.length_eq_zero_iff.1 e1.symm, a', e'⟩
    · obtain ⟨hd, hf⟩ := hp
      obtain ⟨a, cap, rfl, _⟩ := DRep_len hd
      simp only [capFull] at hf
      subst hf
      exact .inr ⟨rfl, a, rfl⟩
theorem inst_get : ∀ (rs : List RT) (k : Nat) (κ : Tok) (ar : Arr), RT.install 0 noA k rs κ = some ar → ∃ j r, κ = (0, k + j) ∧ rs[j]? = some r ∧ r.ar = some ar
  | [], _, _, _, h => by cases h
  | r :: rs, k, κ, ar, h => by
    unfold RT.install at h
    have rest : RT.install 0 noA (k + 1) rs κ = some ar → ∃ j r', κ = (0, k + j) ∧ (r :: rs)[j]? = some r' ∧ r'.ar = some ar := fun h => by
      obtain ⟨j, r', h1, h2, h3⟩ := inst_get rs (k + 1) κ ar h
      exact ⟨j + 1, r', by rw [h1]; congr 1; omega, by simpa using h2, h3⟩
    cases hr : r.ar with
    | none => rw [hr] at h; exact rest h
    | some ar' =>
      rw [hr] at h
      simp only at h
      by_cases hk : κ = (0, k)
      · subst hk
        rw [upd_same] at h
        cases h
        exact ⟨0, r, rfl, rfl, hr⟩
      · rw [upd_other _ _ hk] at h
        exact rest h
theorem inst_at : ∀ (rs : List RT) (k j : Nat) (r : RT) (ar : Arr), rs[j]? = some r → r.ar = some ar → RT.install 0 noA k rs (0, k + j) = some ar
  | [], _, _, _, _, h, _ => by simp at h
  | r :: rs, k, 0, r', ar, h, hr => by
    simp at h
    subst h
    unfold RT.install
    rw [hr]
    exact upd_same _ _ _
  | r :: rs, k, j + 1, r', ar, h, hr => by
    have ih := inst_at rs (k + 1) j r' ar (by simpa using h) hr
    rw [show k + 1 + j = k + (j + 1) by omega] at ih
    unfold RT.install
    cases r.ar with
    | none => exact ih
    | some ar' =>
      simp only
      rw [upd_other _ _ (by simp)]
      exact ih
open Classical in
theorem ret_ok {C : Nat → Nat → Option Value} {w0 : World} (hm : MRel g H A w) (he : Evol (gOnly C) noA w0 g A w) (rs : List RT) (ks : List (Option Tok)) (us : List Value) (hap : Apart ks) (hl : us.length = rs.length)
    (h : ∀ (k : Nat) (r : RT) (u : Value), rs[k]? = some r → us[k]? = some u → OneR g A w (ks[k]?).join r u) :
    ∃ g', MRel g' noH (RT.install 0 noA 0 rs) w ∧ Evol (gOnly C) noA w0 g' (RT.install 0 noA 0 rs) w ∧ ∀ (k : Nat) (r : RT) (u : Value), rs[k]? = some r → us[k]? = some u → TRep g' (RT.install 0 noA 0 rs) (r.tv (0, k)) u := by
  let G : Nat → Prop := fun b => ∃ (k : Nat) (κ : Tok) (x : D), rs[k]? = some (.d x) ∧ ks[k]? = some (some κ) ∧ g.O b = some (.tok κ)
  let g' : Gh := { C := fun b o => if G b then w.cell? ⟨b, o, none⟩ else g.C b o, β := fun _ => none, τ := fun κ => us.getD κ.2 undef, O := fun b => if h : ∃ (k : Nat) (κ : Tok), ks[k]? = some (some κ) ∧ g.O b = some (.tok κ) then some (.tok (0, Classical.choose h)) else none }
  have hO : ∀ (b k : Nat) (κ : Tok), ks[k]? = some (some κ) → g.O b = some (.tok κ) → g'.O b = some (.tok (0, k)) := by
    intro b k κ h1 h2
    have hex : ∃ (k : Nat) (κ : Tok), ks[k]? = some (some κ) ∧ g.O b = some (.tok κ) := ⟨k, κ, h1, h2⟩
    simp only [g', dif_pos hex]
    obtain ⟨κ', h3, h4⟩ := Classical.choose_spec hex
    rw [h2] at h4
    cases h4
    rw [hap _ _ _ h3 h1]
  have hOn : ∀ b, g.O b = none → g'.O b = none := by
    intro b hb
    have : ¬ ∃ (k : Nat) (κ : Tok), ks[k]? = some (some κ) ∧ g.O b = some (.tok κ) := by rintro ⟨k, κ, _, h⟩; rw [hb] at h; cases h
    simp only [g', dif_neg this]
  have hCm : ∀ b o v, g.C b o = some v → g'.C b o = some v := by
    intro b o v e
    simp only [g']
    split
    · exact hm.com b o v e
    · exact e
  have hCn : ∀ b o, ¬ G b → g'.C b o = g.C b o := by
    intro b o e
    simp only [g', if_neg e]
  have hCg : ∀ b o, G b → g'.C b o = w.cell? ⟨b, o, none⟩ := by
    intro b o e
    simp only [g', if_pos e]
  have hGt : ∀ (b j : Nat) (κ : Tok) (r : RT), rs[j]? = some r → (∀ x, r ≠ .d x) → ks[j]? = some (some κ) → g.O b = some (.tok κ) → ¬ G b := by
    rintro b j κ r h1 h2 h3 h4 ⟨k', κ', x, h5, h6, h7⟩
    rw [h4] at h7
    cases h7
    have := hap _ _ _ h3 h6
    subst this
    rw [h1] at h5
    exact h2 x (Option.some.inj h5)
  have hτ : ∀ k u, us[k]? = some u → g'.τ (0, k) = u := fun k u hu => by simp [g', List.getD_eq_getElem?_getD, hu]
  have hk : ∀ (k : Nat) (κ : Tok), (ks[k]?).join = some κ → ks[k]? = some (some κ) := fun k κ h => by
    cases hh : ks[k]? with
    | none => rw [hh] at h; cases h
    | some x => rw [hh] at h; simp at h; rw [h]
  refine ⟨g', ⟨?_, fun id b hb => (by cases hb), ?_, ?_⟩, ⟨⟨fun b o v e => hCm b o v (he.mono.C b o v e), fun id b hb => (by cases hb), fun κ ar hA => (by cases hA)⟩, he.frame, fun b hb ho => hOn b (he.own b hb ho), fun b hb ho o => (hCn b o (by rintro ⟨k', κ', x, _, _, h7⟩; rw [he.own b hb ho] at h7; cases h7)).trans (he.old b hb ho o), he.size, he.os, he.tape, he.output⟩, ?_⟩
  · intro b o v e
    by_cases hG : G b
    · rw [← hCg b o hG]; exact e
    · rw [hCn b o hG] at e; exact hm.com b o v e
  · intro κ ar hA
    obtain ⟨j, r, rfl, hr, har⟩ := inst_get rs 0 κ ar hA
    rw [Nat.zero_add]
    have hlt := (List.getElem?_eq_some_iff.1 hr).1
    have hu : us[j]? = some us[j] := List.getElem?_eq_getElem (by omega)
    have h1 := h j r us[j] hr hu
    have ht := hτ j us[j] hu
    generalize us[j] = u at *
    cases r with
    | d x => cases har
    | agg cs => cases har
    | own sz els =>
      cases har
      obtain ⟨hd, h2⟩ := h1
      rcases h2 with ⟨κ, hkk, hτκ, htr⟩ | hf
      · obtain ⟨a, cap, e1, e2, e3⟩ := htr
        refine ⟨a, cap, by rw [ht, ← hτκ]; exact e1, e2, e3.imp id ?_⟩
        rintro ⟨b, rfl, ho, hC, rest⟩
        exact ⟨b, rfl, hO b j κ (hk j κ hkk) ho, fun o h => (hCn b o (hGt b j κ _ hr (fun x e => by cases e) (hk j κ hkk) ho)).trans (hC o h), rest⟩
      · obtain ⟨a, cap, rfl, hle, _⟩ := DRep_len hd
        simp only [capFull] at hf
        exact ⟨a, cap, ht, hle, .inl hf⟩
    | mu sz els =>
      cases har
      rcases h1 with ⟨κ, a', cap', hkk, hτκ, htr, _, _⟩ | ⟨rfl, a, rfl⟩
      · obtain ⟨hs, a, cap, e1, e2, e3⟩ := htr
        refine ⟨hs, a, cap, by rw [ht, ← hτκ]; exact e1, e2, e3.imp id ?_⟩
        rintro ⟨b, rfl, ho, hC, vs, e, fz, q1, q2, q3, q4⟩
        refine ⟨b, rfl, hO b j κ (hk j κ hkk) ho, fun o => (hCn b o (hGt b j κ _ hr (fun x e => by cases e) (hk j κ hkk) ho)).trans (hC o), vs, e, fz, q1, q2, q3, fun i k e' x h1 h2 => ?_⟩
        obtain ⟨u, hu, hd⟩ := q4 i k e' x h1 h2
        exact ⟨u, hu, DRep.mono hCm hd⟩
      · exact ⟨by simp [Szd], a, 0, ht, Nat.le_refl _, .inl rfl⟩
  · intro b o ho
    cases hb : g.O b with
    | none => rw [hOn b hb] at ho; cases ho
    | some o' => exact hm.own b o' hb
  · intro k r u hr hu
    have h1 := h k r u hr hu
    have hat := fun ar har => inst_at rs 0 k r ar hr har
    rw [Nat.zero_add] at hat
    cases r with
    | d x =>
      rcases h1 with h1 | ⟨κ, sz, els, hkk, rfl, htr, hu⟩
      · exact DRep.mono hCm h1
      · rcases hu with hτκ | ⟨rfl, a, rfl⟩
        · obtain ⟨hs, a, cap', e1, e2, e3⟩ := htr
          rw [e1] at hτκ
          subst hτκ
          rcases e3 with e3 | ⟨b, rfl, ho, hC, vs, e, fz, q1, q2, q3, q4⟩
          · subst e3
            obtain rfl : els = [] := List.length_eq_zero_iff.1 (by omega)
            exact .nil a
          · have hG : G b := ⟨k, κ, _, hr, hk k κ hkk, ho⟩
            refine .sl els b 0 cap' sz els.length (fun i k => (vs[i * sz + k]?).getD undef) rfl e2 hs (fun i k' hi hk' => ?_) (fun i k' e' x h1 h2 => ?_)
            · obtain ⟨u, hu, _⟩ := q4 i k' els[i] (els[i][k']'(by rw [hs _ (List.getElem_mem hi)]; exact hk')) (List.getElem?_eq_getElem hi) (List.getElem?_eq_getElem _)
              rw [hCg b _ hG, Nat.zero_add]
              show _ = some ((vs[i * sz + k']?).getD undef)
              rw [hu]
              exact cell_of_heap q1 hu
            · obtain ⟨u, hu, hd⟩ := q4 i k' e' x h1 h2
              show DRep g'.C x ((vs[i * sz + k']?).getD undef)
              rw [hu]
              exact DRep.mono hCm hd
        · exact .nil a
    | agg cs =>
      obtain ⟨arr, e, h2, h3⟩ := h1
      refine ⟨arr, e, h2, fun k c hk => ?_⟩
      obtain ⟨v, hv, hr⟩ := h3 k c hk
      refine ⟨v, hv, ?_⟩
      simp only [List.getElem?_map, Option.map_eq_some_iff] at hk
      obtain ⟨x, _, rfl⟩ := hk
      exact DRep.mono hCm hr
    | own sz els => exact ⟨DRep.mono hCm h1.1, sz, _, hat _ rfl, Nat.le_refl _, fun _ => .inl (hτ k u hu)⟩
    | mu sz els =>
      rcases h1 with ⟨κ, a, cap, hkk, hτκ, htr, e, ha⟩ | ⟨rfl, a, rfl⟩
      · exact ⟨a, cap, els, e, ha, hat _ rfl, Nat.le_refl _, fun _ => .inl (hτ k u hu)⟩
      · exact ⟨a, 0, [], rfl, by simp, hat _ rfl, Nat.le_refl _, fun _ => .inr ⟨a, rfl⟩⟩
def resV1 (tmps : Array Value) : ResultVar → Sem Value
  | .tmp t => pure (tmps.getD t undef)
  | .cell t T => do loadVar T (← asAddr (tmps.getD t undef))
theorem results_ok (hm : MRel g H A w) {S : St} (hS : S.H = H ∧ S.A = A) {a : Act} (hf : FRep g A S.ρ a) : ∀ (vs : List ResultVar) (rs : List RT) (ks : List (Option Tok)), RetL P S ks vs rs →
    ∃ us : List Value, (vs.mapM (resV1 a.tmps)).run P w = .ok us w ∧ us.length = rs.length ∧
      ∀ (k : Nat) (r : RT) (u : Value), rs[k]? = some r → us[k]? = some u → OneR g A w (ks[k]?).join r u
  | [], [], ks, h => ⟨[], by simp, rfl, by simp⟩
  | v :: vs, r :: rs, ks, h => by
    obtain ⟨p, hp, hrt, h⟩ := h
    obtain ⟨us, h1, h2, h3⟩ := results_ok hm hS hf vs rs ks.tail h
    obtain ⟨hSH, hSA⟩ := hS
    have hone : ∃ u, ((resV1 a.tmps) v).run P w = .ok u w ∧ PRep g A p u := by
      cases v with
      | tmp t =>
        cases hp
        exact ⟨_, rfl, hf t⟩
      | cell t T =>
        unfold resOne at hp
        simp only at hp
        rw [hSH, hSA] at hp
        obtain ⟨X, hX, hpr⟩ := load_ok (P := P) hm (hf t) hp
        refine ⟨X, ?_, hpr⟩
        show (do loadVar T (← asAddr (a.tmps.getD t undef)) : Sem Value).run P w = _
        unfold Instr.loadAt at hX
        simp only [Sem.run_bind] at hX ⊢
        generalize a.tmps.getD t undef = x at *
        cases x <;> first | (simp [Instr.sureAddr] at hX; done) | skip
        rename_i ad
        cases ad with
        | none => simp [Instr.sureAddr] at hX
        | some ad => exact hX
    obtain ⟨u, hu, hpr⟩ := hone
    refine ⟨u :: us, ?_, by simp [h2], fun k r' u' hr' hu' => ?_⟩
    · rw [List.mapM_cons, Sem.run_bind, hu, Result.andThen_ok, Sem.run_bind, h1]
      rfl
    · cases k with
      | zero =>
        simp at hr' hu'
        subst hr' hu'
        have := oneR_of hm (by rw [← hSA]; exact hrt) hpr
        rwa [List.head?_eq_getElem?] at this
      | succ k =>
        have := h3 k r' u' (by simpa using hr') (by simpa using hu')
        rwa [List.getElem?_tail] at this
  | [], _ :: _, _, h => h.elim
  | _ :: _, [], _, h => h.elim
def joinV : List Value → Value
  | [u] => u
  | us => .tuple us.toArray
theorem run_results (fn : Func) (tmps : Array Value) {us : List Value} (h : (fn.results.toList.mapM (resV1 tmps)).run P w = .ok us w) :
    (results fn tmps).run P w = .ok (joinV us) w := by
  show ((fn.results.mapM (resV1 tmps) >>= fun vs => pure (if h : vs.size = 1 then vs[0] else .tuple vs)) : Sem Value).run P w = _
  rw [Array.mapM_eq_mapM_toList, Sem.run_bind, Sem.run_map, h]
  simp only [Result.andThen_ok, Sem.run_pure]
  congr 1
  match us with
  | [] => rfl
  | [u] => rfl
  | _ :: _ :: _ => rfl
theorem pure_ok {E : Env} (hE : EnvOK E) {f : FuncId} {fn : Func} {c : Code} (hf : E.P.funcs[f]? = some fn) (hb : fn.body = some c) (hext : ∀ (args : Array Value) (w : World), (callFunc f args).run E.P w = .ok (.enter f args) w)
    (hc : codeOK E fn.ntmps c = true) {args : List PV} (hcl : args.all PV.closed = true) (hn : args.length ≤ fn.ntmps) {r : RV}
    (h : VC E noH noA c ⟨Ret E.P fn r, Ret E.P fn r, fun _ _ => False⟩ ⟨entry args, noH, noA⟩) : PureOK E.P f args r := by
  refine ⟨hcl, fun C w vals hC har => .inl ⟨hext vals w, ?_⟩⟩
  refine calls_of_wp hf hb ?_
  have hvl : vals.size = args.length := by rw [← Array.length_toList]; exact har.1
  have hrs : RS [] fn.ntmps (gOnly C) noA w ⟨entry args, noH, noA⟩ { tmps := vals ++ Array.replicate (fn.ntmps - vals.size) undef, defers := [] } w := by
    refine ⟨gOnly C, ⟨hC, fun id b hb => (by cases hb), fun κ ar hA => (by cases hA), fun b o ho => (by cases ho)⟩, fun _ _ => rfl, fun t => ?_, .refl _ _ _, by simp; omega, rfl⟩
    show PRep (gOnly C) noA ((args[t]?).getD (.c .any)) _
    cases ht : args[t]? with
    | none => exact True.intro
    | some x =>
      obtain ⟨v, hv, hp⟩ := har.2 t x ht
      have hlt := (List.getElem?_eq_some_iff.1 ht).1
      rw [Array.getD_eq_getD_getElem?, Array.getElem?_append, if_pos (by omega)]
      rw [Array.getElem?_toList] at hv
      rw [hv]
      exact hp
  refine wp_mono (code_ok hE (fun _ _ => rfl) c hc _ _ _ w h hrs) (fun e a' w' hq => ?_)
  have fin : (∃ S, RS [] fn.ntmps (gOnly C) noA w S a' w' ∧ Ret E.P fn r S) → a'.defers = [] ∧ ∃ v, (results fn a'.tmps).run E.P w' = .ok v w' ∧
      ∃ v_1, Ending.returned v = .returned v_1 ∧ ∃ g', PRep g' r.am (r.pv 0) v_1 ∧ MRel g' noH r.am w' ∧ Evol (gOnly C) noA w g' r.am w' := by
    rintro ⟨S, ⟨g, hm, hd, hfr, he, hnn, hdf⟩, hlen, ks, hap, hret⟩
    obtain ⟨us, h1, h2, h3⟩ := results_ok hm ⟨rfl, rfl⟩ hfr _ _ ks hret
    obtain ⟨g', m1, m2, m3⟩ := ret_ok hm he r.list ks us hap h2 h3
    refine ⟨hdf, _, run_results fn a'.tmps h1, _, rfl, g', ?_, m1, m2⟩
    cases r with
    | one r =>
      match us, h2 with
      | [u], _ => exact PRep_pv.2 (m3 0 r u rfl rfl)
    | tup rs =>
      have hne : us.length ≠ 1 := by rw [h2]; exact hlen
      have hval : joinV us = .tuple us.toArray := by
        match us, hne with
        | [], _ => rfl
        | _ :: _ :: _, _ => rfl
      rw [hval]
      refine ⟨us.toArray, rfl, by rw [length_tvs, List.size_toArray]; exact h2, fun k x hk => ?_⟩
      rw [getElem?_tvs] at hk
      obtain ⟨r, hr, rfl⟩ := Option.map_eq_some_iff.1 hk
      have hlt := (List.getElem?_eq_some_iff.1 hr).1
      have hl2 : us.length = rs.length := h2
      rw [Nat.zero_add]
      exact ⟨us[k], by simp, m3 k r us[k] hr (List.getElem?_eq_getElem (by omega))⟩
  cases e with
  | normal => exact fin hq
  | ret => exact fin hq
  | exit id => obtain ⟨S, _, hq⟩ := hq; exact hq.elim
  | _ => exact hq.elim
end Go.PW
