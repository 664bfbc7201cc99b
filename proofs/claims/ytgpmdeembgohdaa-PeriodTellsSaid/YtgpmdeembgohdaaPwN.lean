/-
  The abstract machine: code. What was shown of a body on values ('VC') holds of its runs.
-/
import Derived.Test.YtgpmdeembgohdaaPwM
import Derived.Deep.LoopGhost
namespace Go.PW
variable {P : Program} {g : Gh} {H : HMap} {A : AMap} {w : World}

def RS (n : Nat) (g0 : Gh) (A0 : AMap) (w0 : World) (S : St) (a : Act) (w : World) : Prop :=
  ∃ g, MRel g S.H S.A w ∧ DomOK g S.H ∧ FRep g S.A S.ρ a ∧ Evol g0 A0 w0 g S.A w ∧ a.tmps.size = n ∧ a.defers = []

theorem FRep_put {g' : Gh} {A' : AMap} {ρ : Nat → PV} {a : Act} (hf : FRep g A ρ a) (hM : Mono g A g' A') {dst : Option Nat} {v : PV} {u : Value} (hv : PRep g' A' v u) (hd : ∀ d, dst = some d → d < a.tmps.size) : FRep g' A' (put ρ dst v) (a.put dst u) := by
  intro t
  cases dst with
  | none => exact PRep.mono hM (hf t)
  | some d =>
    have hlt := hd d rfl
    by_cases ht : t = d
    · subst ht
      rw [show put ρ (some t) v t = v from upd_same _ _ _]
      simp only [Act.put, Array.getD_eq_getD_getElem?]
      rw [Array.getElem?_setIfInBounds_self_of_lt hlt]
      exact hv
    · rw [show put ρ (some d) v t = ρ t from upd_other _ _ ht]
      simp only [Act.put, Array.getD_eq_getD_getElem?]
      rw [Array.getElem?_setIfInBounds_ne (Ne.symm ht)]
      have := PRep.mono hM (hf t)
      simpa [Array.getD_eq_getD_getElem?] using this

theorem put_size (a : Act) (dst : Option Nat) (u : Value) : (a.put dst u).tmps.size = a.tmps.size := by cases dst <;> simp [Act.put]
theorem put_defers (a : Act) (dst : Option Nat) (u : Value) : (a.put dst u).defers = a.defers := by cases dst <;> rfl

theorem RS.step {n : Nat} {g0 : Gh} {A0 : AMap} {w0 : World} {S : St} {a : Act} {w' : World} {g' : Gh} {H' : HMap} {A' : AMap} {dst : Option Nat} {v : PV} {u : Value}
    (hm : MRel g' H' A' w') (hd : DomOK g' H') (hf : FRep g S.A S.ρ a) (h0 : Evol g0 A0 w0 g S.A w) (he : Evol g S.A w g' A' w') (hn : a.tmps.size = n) (hdf : a.defers = []) (hv : PRep g' A' v u) (hdst : ∀ d, dst = some d → d < n) :
    RS n g0 A0 w0 ⟨put S.ρ dst v, H', A'⟩ (a.put dst u) w' :=
  ⟨g', hm, hd, FRep_put hf he.mono hv (fun d h => by rw [hn]; exact hdst d h), h0.trans he, by rw [put_size]; exact hn, by rw [put_defers]; exact hdf⟩

theorem guard_real {ops : Array Oper} {ρ : Nat → PV} {a : Act} (hf : FRep g A ρ a) {o : Oper} {b : Bool} (h : guardA ops ρ o.guard = some b) : Region.wanted o (yielded ops a.tmps) = b := by
  unfold guardA at h
  unfold Region.wanted
  cases hg : o.guard with
  | none => rw [hg] at h; cases h; rfl
  | some p =>
    obtain ⟨j, want⟩ := p
    rw [hg] at h
    simp only at h ⊢
    unfold yielded
    cases ht : (ops[j]?).bind (·.dst) with
    | none => rw [ht] at h; cases h; rfl
    | some t =>
      rw [ht] at h
      simp only at h
      have hr := hf t
      unfold gOf at h
      split at h
      · rename_i b' e
        cases h
        rw [e] at hr
        have hu := PRep_lit_inv hr
        simp only [Option.bind_some]
        cases hx : a.tmps[t]? with
        | none => simp [Array.getD_eq_getD_getElem?, hx, undef] at hu
        | some x =>
          simp only [Array.getD_eq_getD_getElem?, hx, Option.getD_some] at hu
          subst hu
          cases b' <;> cases want <;> rfl
      · rename_i e
        cases h
        rw [e] at hr
        have hu : a.tmps.getD t undef = undef := hr
        simp only [Option.bind_some]
        cases hx : a.tmps[t]? with
        | none => rfl
        | some x =>
          simp only [Array.getD_eq_getD_getElem?, hx, Option.getD_some] at hu
          subst hu
          rfl
      · cases h

theorem op_real {E : Env} (hE : EnvOK E) {n : Nat} {g0 : Gh} {A0 : AMap} {w0 : World} {fb : Option (List Nat)} {ops : Array Oper} {o : Oper} {S : St} {a : Act} {v : PV} {H' : HMap} {A' : AMap} (hdst : ∀ d, o.dst = some d → d < n)
    (hy : Yld E fb ops o S v H' A') (hr : RS n g0 A0 w0 S a w) {KK : Act → World → Prop} {Q : Exit → Act → World → Prop} (hK : ∀ a' w', RS n g0 A0 w0 ⟨put S.ρ o.dst v, H', A'⟩ a' w' → KK a' w') :
    if Region.wanted o (yielded ops a.tmps) then o.wp E.P a w KK Q ∨ (o.asks E.P a w ∧ LetsOut Q) else KK (a.put o.dst undef) w := by
  obtain ⟨g, hm, hd, hf, he, hn, hdf⟩ := hr
  rcases hy with ⟨hg, hs⟩ | ⟨hg, rfl, rfl, rfl⟩
  · rw [guard_real hf hg, if_pos rfl]
    exact .inl (step_ok hE hm hd hf o hs (fun u w' g' h1 h2 h3 h4 => hK _ _ (.step h2 h4 hf he h3 hn hdf h1 hdst)))
  · rw [guard_real hf hg, if_neg (by simp)]
    exact hK _ _ (.step hm hd hf he (.refl _ _ _) hn hdf rfl hdst)

theorem any_real {E : Env} (hE : EnvOK E) {n : Nat} {g0 : Gh} {A0 : AMap} {w0 : World} {fb : Option (List Nat)} {ops : Array Oper} (hdst : ∀ (i : Nat) (o : Oper), ops[i]? = some o → ∀ d, o.dst = some d → d < n) {K : St → Prop} {Q : Exit → Act → World → Prop}
    (hQ : ∀ S a w, RS n g0 A0 w0 S a w → K S → Q .normal a w) :
    ∀ (fuel : Nat) (listed : Array Bool) (S : St) (a : Act) (w : World), anyA E fb ops K fuel listed S → RS n g0 A0 w0 S a w → wpAny E.P .any ops Q fuel listed a w
  | 0, _, S, a, w, h, hr => ⟨h.1, hQ S a w hr h.2⟩
  | fuel + 1, listed, S, a, w, h, hr => ⟨fun h0 => hQ S a w hr (h.1 h0), fun i hi => by
      have h1 := h.2 i hi
      unfold AOp at h1
      unfold wpOp
      cases ho : ops[i]? with
      | none => simp only [ho] at h1 ⊢; exact any_real hE hdst hQ fuel _ S a w h1 hr
      | some o =>
        simp only [ho] at h1 ⊢
        obtain ⟨v, H', A', hy, hK⟩ := h1
        exact op_real hE (hdst i o ho) hy hr (fun a' w' hr' => any_real hE hdst hQ fuel _ _ a' w' hK hr')⟩

theorem list_real {E : Env} (hE : EnvOK E) {n : Nat} {g0 : Gh} {A0 : AMap} {w0 : World} {fb : Option (List Nat)} {ops : Array Oper} {K : St → Prop} {Q : Exit → Act → World → Prop}
    (hQ : ∀ S a w, RS n g0 A0 w0 S a w → K S → Q .normal a w) :
    ∀ (l : List Oper) (S : St) (a : Act) (w : World), (∀ o ∈ l, ∀ d, o.dst = some d → d < n) → RunV E fb ops l S K → RS n g0 A0 w0 S a w → wpList E.P ops Q l a w
  | [], S, a, w, _, h, hr => hQ S a w hr h
  | o :: l, S, a, w, hd, h, hr => by
    obtain ⟨v, H', A', hy, hK⟩ := RunV_head h
    exact op_real hE (hd o (by simp)) hy hr (fun a' w' hr' => list_real hE hQ l _ a' w' (fun o ho => hd o (by simp [ho])) hK hr')

/-! What is asked of a body's text. -/
def dstsOK (n : Nat) (ops : Array Oper) : Bool := ops.toList.all fun o => match o.dst with
  | some d => decide (d < n)
  | none => true

def codeOK (E : Env) (n : Nat) : Code → Bool
  | .region id ops draw => dstsOK n ops && (!draw || (Region.noSelect ops && lexB (!E.st.contains id) (ops.toList.map (smOf E.effs ops)) [] 0))
  | .seq a b => codeOK E n a && codeOK E n b
  | .cond _ a b => codeOK E n a && codeOK E n b
  | .block _ c => codeOK E n c
  | .loop c => codeOK E n c
  | .scope c => codeOK E n c
  | _ => true

theorem dstsOK_spec {n : Nat} {ops : Array Oper} (h : dstsOK n ops = true) : ∀ o ∈ ops.toList, ∀ d, o.dst = some d → d < n := by
  intro o ho d hd
  have := List.all_eq_true.1 h o ho
  rw [hd] at this
  simpa using this

theorem RS.drew {n : Nat} {g0 : Gh} {A0 : AMap} {w0 : World} {S : St} {a : Act} (h : RS n g0 A0 w0 S a w) : RS n g0 A0 w0 S a { w with drawn := w.drawn + 1 } := by
  obtain ⟨g, hm, hd, hf, he, hn, hdf⟩ := h
  exact ⟨g, hm.same rfl, hd, hf, he.trans (.same rfl rfl rfl rfl), hn, hdf⟩

theorem region_real {E : Env} (hE : EnvOK E) {n : Nat} {g0 : Gh} {A0 : AMap} {w0 : World} {id : Nat} {ops : Array Oper} {draw : Bool} (hc : codeOK E n (.region id ops draw) = true) {S : St} {a : Act} {K : St → Prop} {Q : Exit → Act → World → Prop}
    (h : RunV E (fbOf E id ops draw) ops ops.toList S K) (hr : RS n g0 A0 w0 S a w) (hQ : ∀ S a w, RS n g0 A0 w0 S a w → K S → Q .normal a w) : (Code.region id ops draw).wp E.P Q a w := by
  simp only [codeOK, Bool.and_eq_true] at hc
  obtain ⟨h1, h2⟩ := hc
  have hd := dstsOK_spec h1
  cases draw with
  | false => exact wp_region_list (list_real hE hQ ops.toList S a w hd h hr)
  | true =>
    simp only [Bool.not_true, Bool.false_or, Bool.and_eq_true] at h2
    obtain ⟨h2, h3⟩ := h2
    have hmem : ∀ (i : Nat) (o : Oper), ops[i]? = some o → o ∈ ops.toList := fun i o ho => by
      rw [← Array.getElem?_toList] at ho
      exact List.mem_of_getElem? ho
    have hfb : (fbOf E id ops true).isSome = !E.st.contains id := by
      unfold fbOf
      cases E.st.contains id <;> rfl
    have hnew : ∀ (j : Nat) (o : Oper), ops[j]? = some o → newOK E (fbOf E id ops true) o := by
      intro j o ho l hl hk d' hd'
      unfold fbOf at hl
      simp only at hl
      split at hl
      · cases hl
      · cases hl
        rw [List.contains_iff_mem, List.mem_filterMap]
        refine ⟨o, hmem j o ho, ?_⟩
        unfold newId
        rw [hd']
        cases hop : o.op <;> rw [hop] at hk <;> first | rfl | (cases hk; done) | (rename_i c; obtain ⟨callee, args, ats⟩ := c; cases callee with
          | value x => cases x with
            | func f => rcases kindF_or E.effs f with e | ⟨e, _⟩ <;> (rw [show kind E.effs (.call ⟨.value (.func f), args, ats⟩) = kindF E.effs f from rfl, e] at hk; cases hk)
            | _ => cases hk
          | invoke r m => cases hk
          | builtin b => cases b <;> cases hk)
    refine wp_region_any hE.mixed (any_real (fb := fbOf E id ops true) hE (fun i o ho => hd o (hmem i o ho)) hQ _ _ S a _ ?_ hr.drew)
    rw [← hfb] at h3
    obtain ⟨full, g, hfull⟩ := lexB_spec _ [] h3 Good_nil
    have hD0 : Done ops.size 0 (Array.replicate ops.size false) := fun j => by
      rw [Array.getD_eq_getD_getElem?, Array.getElem?_replicate]
      by_cases hj : j < ops.size
      · simp [hj]
      · simp [hj]; omega
    have := anyA_lex (E := E) (fb := fbOf E id ops true) (ops := ops) (K := K) (Region.noSelect_spec h2) hnew g (by simpa using hfull) ops.toList 0 (Array.replicate ops.size false) S (by simp) (by simp) (by simp) hD0 h
    simpa using this

end Go.PW
