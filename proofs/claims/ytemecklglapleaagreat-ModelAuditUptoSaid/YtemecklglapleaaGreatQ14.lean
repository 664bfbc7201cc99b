/-
  Parts of the proof, laid together: PwN, PwO.
-/
import Derived.Test.YtemecklglapleaaGreatQ13
import Derived.Deep.LoopGhost

namespace Go.PW
variable {P : Program} {g : Gh} {H : HMap} {A : AMap} {w : World} {D : List Deferred}
def RS (D : List Deferred) (n : Nat) (g0 : Gh) (A0 : AMap) (w0 : World) (S : St) (a : Act) (w : World) : Prop :=
 ∃ g, MRel g S.H S.A w ∧ zjk g S.H ∧ FRep g S.A S.ρ a ∧ Evol g0 A0 w0 g S.A w ∧ a.tmps.size = n ∧ a.defers = D
theorem y2w {g' : Gh} {A' : AMap} {ρ : Nat → PV} {a : Act} (hf : FRep g A ρ a) (hM : Mono g A g' A') {dst : Option Nat} {v : PV} {u : Value} (hv : PRep g' A' v u) (hd : ∀ d, dst = some d → d < a.tmps.size) : FRep g' A' (put ρ dst v) (a.put dst u) := by
 intro t
 cases dst with
 | none => exact PRep.mono hM (hf t)
 | some d =>
   have hlt := hd d rfl
   by_cases ht : t = d
   · subst ht
     rw [show put ρ (some t) v t = v from zzc _ _ _]
     simp only [Act.put, Array.getD_eq_getD_getElem?]
     rw [Array.getElem?_setIfInBounds_self_of_lt hlt]
     exact hv
   · rw [show put ρ (some d) v t = ρ t from zza _ _ ht]
     simp only [Act.put, Array.getD_eq_getD_getElem?]
     rw [Array.getElem?_setIfInBounds_ne (Ne.symm ht)]
     have := PRep.mono hM (hf t)
     simpa [Array.getD_eq_getD_getElem?] using this
theorem y4o (a : Act) (dst : Option Nat) (u : Value) : (a.put dst u).tmps.size = a.tmps.size := by cases dst <;> simp [Act.put]
theorem yv4 (a : Act) (dst : Option Nat) (u : Value) : (a.put dst u).defers = a.defers := by cases dst <;> rfl
theorem RS.step {n : Nat} {g0 : Gh} {A0 : AMap} {w0 : World} {S : St} {a : Act} {w' : World} {g' : Gh} {H' : HMap} {A' : AMap} {dst : Option Nat} {v : PV} {u : Value}
 (hm : MRel g' H' A' w') (hd : zjk g' H') (hf : FRep g S.A S.ρ a) (h0 : Evol g0 A0 w0 g S.A w) (he : Evol g S.A w g' A' w') (hn : a.tmps.size = n) (hdf : a.defers = D) (hv : PRep g' A' v u) (hdst : ∀ d, dst = some d → d < n) :
 RS D n g0 A0 w0 ⟨put S.ρ dst v, H', A'⟩ (a.put dst u) w' :=
 ⟨g', hm, hd, y2w hf he.mono hv (fun d h => by rw [hn]; exact hdst d h), h0.trans he, by rw [y4o]; exact hn, by rw [yv4]; exact hdf⟩
theorem z0w {ops : Array Oper} {ρ : Nat → PV} {a : Act} (hf : FRep g A ρ a) {o : Oper} {b : Bool} (h : zww ops ρ o.guard = some b) : Region.wanted o (yielded ops a.tmps) = b := by
 unfold zww at h
 unfold Region.wanted
 cases hg : o.guard with
 | none => rw [hg] at h; cases h; rfl
 | some p =>
   obtain ⟨j, want⟩ := p
   rw [hg] at h
   simp only at h ⊢
   unfold yielded
   cases ht : (ops[j]?).bind (·.dst) with
   | none => rw [ht] at h; cases h; rfl
   | some t =>
     rw [ht] at h
     simp only at h
     have hr := hf t
     unfold gOf at h
     split at h
     · rename_i b' e
       cases h
       rw [e] at hr
       have hu := zzv hr
       simp only [Option.bind_some]
       cases hx : a.tmps[t]? with
       | none => simp [Array.getD_eq_getD_getElem?, hx, undef] at hu
       | some x =>
         simp only [Array.getD_eq_getD_getElem?, hx, Option.getD_some] at hu
         subst hu
         cases b' <;> cases want <;> rfl
     · rename_i e
       cases h
       rw [e] at hr
       have hu : a.tmps.getD t undef = undef := hr
       simp only [Option.bind_some]
       cases hx : a.tmps[t]? with
       | none => rfl
       | some x =>
         simp only [Array.getD_eq_getD_getElem?, hx, Option.getD_some] at hu
         subst hu
         rfl
     · cases h
theorem y1z {E : Env} (hE : EnvOK E) {n : Nat} {g0 : Gh} {A0 : AMap} {w0 : World} {fb : Option (List Nat)} {ops : Array Oper} {o : Oper} {S : St} {a : Act} {v : PV} {H' : HMap} {A' : AMap} (hdst : ∀ d, o.dst = some d → d < n)
 (hy : Yld E fb ops o S v H' A') (hr : RS D n g0 A0 w0 S a w) {KK : Act → World → Prop} {Q : Exit → Act → World → Prop} (hK : ∀ a' w', RS D n g0 A0 w0 ⟨put S.ρ o.dst v, H', A'⟩ a' w' → KK a' w') :
 if Region.wanted o (yielded ops a.tmps) then o.wp E.P a w KK Q ∨ (o.asks E.P a w ∧ LetsOut Q) else KK (a.put o.dst undef) w := by
 obtain ⟨g, hm, hd, hf, he, hn, hdf⟩ := hr
 rcases hy with ⟨hg, hs⟩ | ⟨hg, rfl, rfl, rfl⟩
 · rw [z0w hf hg, if_pos rfl]
   exact .inl (y8b hE hm hd hf o hs (fun u w' g' h1 h2 h3 h4 => hK _ _ (.step h2 h4 hf he h3 hn hdf h1 hdst)))
 · rw [z0w hf hg, if_neg (by simp)]
   exact hK _ _ (.step hm hd hf he (.refl _ _ _) hn hdf rfl hdst)
theorem z8k {E : Env} (hE : EnvOK E) {n : Nat} {g0 : Gh} {A0 : AMap} {w0 : World} {fb : Option (List Nat)} {ops : Array Oper} (hdst : ∀ (i : Nat) (o : Oper), ops[i]? = some o → ∀ d, o.dst = some d → d < n) {K : St → Prop} {Q : Exit → Act → World → Prop}
 (hQ : ∀ S a w, RS D n g0 A0 w0 S a w → K S → Q .normal a w) :
 ∀ (fuel : Nat) (listed : Array Bool) (S : St) (a : Act) (w : World), anyA E fb ops K fuel listed S → RS D n g0 A0 w0 S a w → wpAny E.P .any ops Q fuel listed a w
 | 0, _, S, a, w, h, hr => ⟨h.1, hQ S a w hr h.2⟩
 | fuel + 1, listed, S, a, w, h, hr => ⟨fun h0 => hQ S a w hr (h.1 h0), fun i hi => by
    have h1 := h.2 i hi
    unfold AOp at h1
    unfold wpOp
    cases ho : ops[i]? with
    | none => simp only [ho] at h1 ⊢; exact z8k hE hdst hQ fuel _ S a w h1 hr
    | some o =>
      simp only [ho] at h1 ⊢
      obtain ⟨v, H', A', hy, hK⟩ := h1
      exact y1z hE (hdst i o ho) hy hr (fun a' w' hr' => z8k hE hdst hQ fuel _ _ a' w' hK hr')⟩
theorem y06 {E : Env} (hE : EnvOK E) {n : Nat} {g0 : Gh} {A0 : AMap} {w0 : World} {fb : Option (List Nat)} {ops : Array Oper} {o : Oper} {r : List Oper} {S : St} {a : Act} {K : St → Prop} (hdst : ∀ d, o.dst = some d → d < n)
 (h : RunV E fb ops (o :: r) S K) (hr : RS D n g0 A0 w0 S a w) {KK : Act → World → Prop} {Q : Exit → Act → World → Prop} (hK : ∀ S' a' w', RunV E fb ops r S' K → RS D n g0 A0 w0 S' a' w' → KK a' w') :
 if Region.wanted o (yielded ops a.tmps) then o.wp E.P a w KK Q ∨ (o.asks E.P a w ∧ LetsOut Q) else KK (a.put o.dst undef) w := by
 cases hdm : yvy E.effs o.op with
 | false =>
   obtain ⟨v, H', A', hy, hk⟩ := z91 hdm h
   exact y1z hE hdst hy hr (fun a' w' hr' => hK _ a' w' hk hr')
 | true =>
   obtain ⟨b, hg, ht, hff⟩ := Opt.iff.1 h
   obtain ⟨g, hm, hd, hf, he, hn, hdf⟩ := hr
   cases b with
   | true =>
     rw [z0w hf hg, if_pos rfl]
     exact .inl (z9s hE hm hd hf o hdm (ht rfl) (fun v H' A' u w' g' hk h1 h2 h3 h4 => hK _ _ _ hk (.step h2 h4 hf he h3 hn hdf h1 hdst)))
   | false =>
     rw [z0w hf hg, if_neg (by simp)]
     exact hK _ _ _ (hff rfl) (.step hm hd hf he (.refl _ _ _) hn hdf rfl hdst)
theorem yz9 {E : Env} (hE : EnvOK E) {n : Nat} {g0 : Gh} {A0 : AMap} {w0 : World} {fb : Option (List Nat)} {ops : Array Oper} {K : St → Prop} {Q : Exit → Act → World → Prop}
 (hQ : ∀ S a w, RS D n g0 A0 w0 S a w → K S → Q .normal a w) :
 ∀ (l : List Oper) (S : St) (a : Act) (w : World), (∀ o ∈ l, ∀ d, o.dst = some d → d < n) → RunV E fb ops l S K → RS D n g0 A0 w0 S a w → wpList E.P ops Q l a w
 | [], S, a, w, _, h, hr => hQ S a w hr h
 | o :: l, S, a, w, hd, h, hr => by
   exact y06 hE (hd o (by simp)) h hr (fun S' a' w' hK hr' => yz9 hE hQ l S' a' w' (fun o ho => hd o (by simp [ho])) hK hr')
def y0q (n : Nat) (ops : Array Oper) : Bool := ops.toList.all fun o => match o.dst with
 | some d => decide (d < n)
 | none => true
def y5u (l : List Nat) (ops : Array Oper) : Bool := ops.toList.all fun o => match o.dst with
 | some d => !l.contains d
 | none => true
theorem yxr {l : List Nat} {ops : Array Oper} (h : y5u l ops = true) : ∀ o ∈ ops.toList, ∀ d, o.dst = some d → l.contains d = false := by
 intro o ho d hd
 have := List.all_eq_true.1 h o ho
 rw [hd] at this
 simpa using this
def xxp (effs : List FuncId) (ops : Array Oper) : Bool := ops.toList.all fun o => !yvy effs o.op
def zkh (E : Env) (n : Nat) : Code → Bool
 | .region id ops draw => y0q n ops && (!draw || (Region.noSelect ops && lexB (!E.st.contains id, !E.st.contains id && (!kpE id E.st && lwE id E.st), !E.st.contains id && kpE id E.st) (ops.toList.map (smOf E.effs ops)) [] 0 && y0q 1000 ops && (!kpE id E.st || y5u (kpSl id E.st) ops) && xxp E.effs ops))
 | .seq a b => zkh E n a && zkh E n b
 | .cond _ a b => zkh E n a && zkh E n b
 | .block _ c => zkh E n c
 | .loop c => zkh E n c
 | .scope c => zkh E n c
 | _ => true
theorem z5o {n : Nat} {ops : Array Oper} (h : y0q n ops = true) : ∀ o ∈ ops.toList, ∀ d, o.dst = some d → d < n := by
 intro o ho d hd
 have := List.all_eq_true.1 h o ho
 rw [hd] at this
 simpa using this
theorem RS.drew {n : Nat} {g0 : Gh} {A0 : AMap} {w0 : World} {S : St} {a : Act} (h : RS D n g0 A0 w0 S a w) : RS D n g0 A0 w0 S a { w with drawn := w.drawn + 1 } := by
 obtain ⟨g, hm, hd, hf, he, hn, hdf⟩ := h
 exact ⟨g, hm.same rfl, hd, hf, he.trans (.same rfl rfl rfl rfl), hn, hdf⟩
theorem yx7 {E : Env} (hE : EnvOK E) {n : Nat} {g0 : Gh} {A0 : AMap} {w0 : World} {id : Nat} {ops : Array Oper} {draw : Bool} (hc : zkh E n (.region id ops draw) = true) {S : St} {a : Act} {K : St → Prop} {Q : Exit → Act → World → Prop}
 (h : RunV E (fbOf E id ops draw) ops ops.toList S K) (hr : RS D n g0 A0 w0 S a w) (hQ : ∀ S a w, RS D n g0 A0 w0 S a w → K S → Q .normal a w) : (Code.region id ops draw).wp E.P Q a w := by
 simp only [zkh, Bool.and_eq_true] at hc
 obtain ⟨h1, h2⟩ := hc
 have hd := z5o h1
 cases draw with
 | false => exact wp_region_list (yz9 hE hQ ops.toList S a w hd h hr)
 | true =>
   simp only [Bool.not_true, Bool.false_or, Bool.and_eq_true] at h2
   obtain ⟨⟨⟨⟨h2, h3⟩, h4⟩, h5⟩, h6⟩ := h2
   have hlt := z5o h4
   have hmem : ∀ (i : Nat) (o : Oper), ops[i]? = some o → o ∈ ops.toList := fun i o ho => by
    rw [← Array.getElem?_toList] at ho
    exact Zme ho
   have hfb : z31 (fbOf E id ops true) = (!E.st.contains id, !E.st.contains id && (!kpE id E.st && lwE id E.st), !E.st.contains id && kpE id E.st) := by
    unfold fbOf z31
    cases E.st.contains id
    · cases kpE id E.st
      · simp only [y4c, yvj]; rfl
      · rfl
    · rfl
   have hnew : ∀ (j : Nat) (o : Oper), ops[j]? = some o → y1t E (fbOf E id ops true) o := by
    intro j o ho l hl hk d' hd'
    unfold fbOf at hl
    simp only at hl
    split at hl
    · cases hl
    · rename_i hst
      cases hkp : kpE id E.st with
      | true =>
        rw [show fbOf E id ops true = some (2 :: (kpSl id E.st).map fun s => E.off + s) by unfold fbOf; simp only; rw [hst, hkp]]
        rw [hkp] at h5
        have h6 := yxr (by simpa using h5) o (hmem j o ho) d' hd'
        refine ⟨?_, hlt o (hmem j o ho) d' hd'⟩
        show (!((kpSl id E.st).map fun s => E.off + s).contains (E.off + d')) = true
        rw [Bool.not_eq_true', ← Bool.not_eq_true, List.contains_iff_mem, Zmm]
        rintro ⟨s, hs, e⟩
        rw [show s = d' by omega] at hs
        rw [List.contains_iff_mem.2 hs] at h6
        cases h6
      | false =>
      rw [show fbOf E id ops true = some (mkM (lwE id E.st) :: (y1m E.off id E.st ++ ops.toList.filterMap (yxy E.off))) by unfold fbOf; simp only; rw [hst, hkp]]
      refine ⟨?_, hlt o (hmem j o ho) d' hd'⟩
      rw [yxe]
      rw [List.contains_iff_mem, Zma, List.mem_filterMap]
      refine .inr ⟨o, hmem j o ho, ?_⟩
      unfold yxy
      rw [hd']
      cases hop : o.op <;> rw [hop] at hk <;> first | rfl | (cases hk; done) | (rename_i s dt x; rcases zke E.effs s dt with ⟨e, _⟩ | ⟨e, _⟩ | ⟨e, _⟩ <;> (rw [show kind E.effs (.convert s dt x) = zwk E.effs s dt from rfl, e] at hk; cases hk); done) | (rename_i T l c; rcases zkc E.effs T with ⟨e, _⟩ | ⟨e, _⟩ <;> (rw [show kind E.effs (.makeSlice T l c) = z1v E.effs T from rfl, e] at hk; cases hk); done) | (rename_i T m ps; rcases zkb E.effs T with ⟨e, _⟩ | ⟨e, _⟩ <;> (rw [show kind E.effs (.buildSlice T m ps) = z1u E.effs T from rfl, e] at hk; cases hk); done) | (rename_i T r; cases r <;> cases hk; done) | (rename_i c; obtain ⟨callee, args, ats⟩ := c; cases callee with
       | value x => cases x with
         | func f => rcases zkx E.effs f with e | ⟨e, _⟩ | ⟨e, _⟩ | ⟨e, _⟩ | ⟨e, _⟩ | ⟨e, _⟩ <;> (rw [show kind E.effs (.call ⟨.value (.func f), args, ats⟩) = zjq E.effs f from rfl, e] at hk; cases hk)
         | _ => cases hk
       | invoke r m => cases hk
       | builtin b => cases b <;> first | (cases hk; done) | (rcases zjp hk with h | h <;> cases h; done) | (rcases zkd E.effs ats.toList with ⟨e, _⟩ | ⟨e, _⟩ <;> (rw [show kind E.effs (.call ⟨.builtin .len, args, ats⟩) = z1w E.effs ats.toList from rfl, e] at hk; cases hk)))
   refine wp_region_any hE.mixed (z8k (fb := fbOf E id ops true) hE (fun i o ho => hd o (hmem i o ho)) hQ _ _ S a _ ?_ hr.drew)
   rw [← hfb] at h3
   obtain ⟨full, g, hfull⟩ := yz8 _ [] h3 y2x
   have hD0 : Done ops.size 0 (Array.replicate ops.size false) := fun j => by
    rw [Array.getD_eq_getD_getElem?, Array.getElem?_replicate]
    by_cases hj : j < ops.size
    · simp [hj]
    · simp [hj]; omega
   have := yjr (E := E) (fb := fbOf E id ops true) (ops := ops) (K := K) (fun j o ho => by simpa using List.all_eq_true.1 h6 o (hmem j o ho)) (Region.noSelect_spec h2) hnew g (by simpa using hfull) ops.toList 0 (Array.replicate ops.size false) S (by simp) (by simp) (by simp) hD0 h
   simpa using this
end Go.PW
namespace Go.PW
variable {g : Gh} {H : HMap} {A : AMap} {w : World} {D : List Deferred}
theorem z9w {H0 : HMap} {A0 : AMap} {g0 : Gh} {w0 : World} (hd0 : zjk g0 H0) {S S' : St} (hw : Weak H0 A0 S S') (hm : MRel g S.H S.A w) (he : Evol g0 A0 w0 g S.A w) :
 ∃ g', MRel g' S'.H S'.A w ∧ zjk g' S'.H ∧ Evol g0 A0 w0 g' S'.A w ∧ ∀ t v, PRep g S.A (S.ρ t) v → PRep g' S'.A (S'.ρ t) v := by
 let g' : Gh := { C := g.C, π := g.π, β := fun id => match S'.H id with
  | none => none
  | some _ => g.β id,
                  τ := fun κ => match S.A κ with
                   | none => .slice none 0 0
                   | some _ => g.τ κ,
                  O := fun b => match g.O b with
                   | none => none
                   | some (.var id) => (match S'.H id with
                     | none => none
                     | some _ => some (.var id))
                   | some (.tok κ) => (match S'.A κ with
                     | none => none
                     | some _ => some (.tok κ)) }
 have hβ : ∀ id, S'.H id ≠ none → g'.β id = g.β id := fun id h => by
  simp only [g']
  cases hh : S'.H id with
  | none => exact (h hh).elim
  | some _ => rfl
 have hβ' : ∀ id b, g'.β id = some b → S'.H id ≠ none ∧ g.β id = some b := fun id b h => by
  simp only [g'] at h
  cases hh : S'.H id with
  | none => rw [hh] at h; cases h
  | some _ => rw [hh] at h; exact ⟨by simp, h⟩
 have hτ : ∀ κ ar, S.A κ = some ar → g'.τ κ = g.τ κ := fun κ ar h => by simp only [g', h]
 have hτ0 : ∀ κ, S.A κ = none → g'.τ κ = .slice none 0 0 := fun κ h => by simp only [g', h]
 have hOv : ∀ b id, g.O b = some (.var id) → S'.H id ≠ none → g'.O b = some (.var id) := fun b id h h' => by
  simp only [g', h]
  cases hh : S'.H id with
  | none => exact (h' hh).elim
  | some _ => rfl
 have hOt : ∀ b κ, g.O b = some (.tok κ) → S'.A κ ≠ none → g'.O b = some (.tok κ) := fun b κ h h' => by
  simp only [g', h]
  cases hh : S'.A κ with
  | none => exact (h' hh).elim
  | some _ => rfl
 have hOn : ∀ b, g.O b = none → g'.O b = none := fun b h => by simp only [g', h]
 have hc : ∀ (new old : CV) (v : Value), CV.wk S'.H S.A S'.A new old → CRep g S.A old v → CRep g' S'.A new v := by
  intro new old v h hr
  rcases h with rfl | ⟨rfl, hok⟩ | ⟨els, rfl, h⟩ | ⟨rfl, κ, sz, rfl, h1, h2⟩ | ⟨rfl, κ, sz, rfl | rfl, h1, h2⟩ | ⟨κ, rfl, rfl, hpa⟩
  · trivial
  · cases new with
    | any => trivial
    | skip => exact hr
    | d x => exact hr
    | full els => exact hr
    | own κ els =>
      obtain ⟨hd, sz, n, hA, hl, ht⟩ := hr
      exact ⟨hd, sz, n, by rw [hok.2]; exact hA, hl, fun e => by rw [hτ κ _ hA]; exact ht e⟩
    | mt κ sz n =>
      obtain ⟨a, cap, els, h1, h2, hA, h4, h5⟩ := hr
      exact ⟨a, cap, els, h1, h2, by rw [hok.2]; exact hA, h4, fun e => by rw [hτ κ _ hA]; exact h5 e⟩
    | tv κ sz n L =>
      obtain ⟨a, cap, els, h1, h2, hA, h4, h5⟩ := hr
      exact ⟨a, cap, els, h1, h2, by rw [hok.2]; exact hA, h4, fun e => by rw [hτ κ _ hA]; exact h5 e⟩
    | ptr id off =>
      obtain ⟨b, hb, e⟩ := hr
      exact ⟨b, by rw [hβ id hok]; exact hb, e⟩
    | eptr e off => exact hr
    | mptr κ sz n i off =>
      obtain ⟨b, els, h1, hA, h4, h5⟩ := hr
      exact ⟨b, els, h1, by rw [hok.2]; exact hA, h4, fun e => by rw [hτ κ _ hA]; exact h5 e⟩
    | fn f caps =>
      obtain ⟨vs, h1, h2, h3⟩ := hr
      refine ⟨vs, h1, h2, fun k p hk => ?_⟩
      obtain ⟨b, hb, e⟩ := h3 k p hk
      exact ⟨b, by rw [hβ _ (hok p (Zme hk))]; exact hb, e⟩
    | mpr κ =>
      obtain ⟨hb, hv, m, hA, hmp⟩ := hr
      exact ⟨hb, by rw [hτ κ _ hA]; exact hv, m, by rw [hok.2]; exact hA, hmp⟩
    | itr κ bi => exact hr
    | sit κ =>
      obtain ⟨hb, hv, s, pos, hA⟩ := hr
      exact ⟨hb, by rw [hτ κ _ hA]; exact hv, s, pos, by rw [hok.2]; exact hA⟩
    | vsl id n =>
      obtain ⟨b, hb, e⟩ := hr
      exact ⟨b, by rw [hβ id hok]; exact hb, e⟩
    | bfn f fst caps =>
      obtain ⟨us, vs, e, h1, h2⟩ := hr
      exact ⟨us, vs, e, h1.mono (fun p hp b hb => by rw [hβ _ (hok.1 p hp)]; exact hb), h2.mono (fun p hp b hb => by rw [hβ _ (hok.2 p hp)]; exact hb)⟩
  · rcases h with rfl | ⟨κ, rfl⟩
    · exact hr.1
    · exact hr.1
  · obtain ⟨hd, hf⟩ := hr
    obtain ⟨a, cap, rfl, _⟩ := z0q hd
    simp only [z0b] at hf
    subst hf
    exact ⟨hd, sz, 0, h2, Zlr _, fun _ => .inr ⟨a, rfl⟩⟩
  · obtain ⟨hd, hf⟩ := hr
    obtain ⟨a, cap, rfl, _⟩ := z0q hd
    simp only [z0b] at hf
    subst hf
    exact ⟨a, 0, [], rfl, by simp, h2, Zlr _, fun _ => .inr ⟨a, rfl⟩⟩
  · obtain ⟨hd, hf⟩ := hr
    obtain ⟨a, cap, rfl, _⟩ := z0q hd
    simp only [z0b] at hf
    subst hf
    exact ⟨a, 0, [], rfl, by simp, h2, ⟨Zlr _, Zlr _, Zlr _⟩, fun _ => .inr ⟨rfl, a, rfl⟩⟩
  · obtain ⟨hb, hv, ar, hA, hmp⟩ := hr
    rcases hpa with ⟨m, m', h1, h2, h3⟩ | ⟨p, m, m', h1, h2, h3⟩ | ⟨n, m, h1, h2, h3⟩ | ⟨p, a2, h1, h2⟩
    · exact ⟨hb, by rw [hτ κ _ hA]; exact hv, _, h1, rfl⟩
    · rcases h3 with h3 | ⟨c, l, i, h3⟩ <;> rw [hA] at h3 <;> cases h3 <;> cases hmp
    · rw [hA] at h1; cases h1; cases hmp
    · rw [hA] at h1; cases h1; cases hmp
 have hcs : ∀ (cs ds : List CV) (vs : List Value), cs.length = ds.length → (∀ (k : Nat) (c d : CV), cs[k]? = some c → ds[k]? = some d → CV.wk S'.H S.A S'.A c d) → zq8 g S.A ds vs → zq8 g' S'.A cs vs := by
  intro cs ds vs hl h hr
  refine ⟨by rw [hr.1, hl], fun k c hk => ?_⟩
  have hlt := (List.getElem?_eq_some_iff.1 hk).1
  obtain ⟨v, hv, hrv⟩ := hr.2 k ds[k] (Zge (by omega))
  exact ⟨v, hv, hc c ds[k] v (h k c ds[k] hk (Zge (by omega))) hrv⟩
 refine ⟨g', ⟨hm.com, ?_, ?_, ?_⟩, ?_, ⟨⟨he.mono.C, ?_, ?_, he.mono.π⟩, he.frame, fun b hb ho => hOn b (he.own b hb ho), he.old, he.size, he.os, he.tape, he.output, fun hn => ⟨(he.np hn).1, fun κ n e => ?_⟩⟩, ?_⟩
 · intro id b hb
   obtain ⟨hne, hb⟩ := hβ' id b hb
   obtain ⟨ho, hC, ds, vs, e, fz, hH, hh, hu, hr⟩ := hm.var id b hb
   rcases hw.H id with h | ⟨cs, ds', h1, h2, h3, h4⟩
   · exact (hne h).elim
   · rw [hH] at h2
     cases h2
     exact ⟨hOv b id ho hne, hC, cs, vs, e, fz, h1, hh, hu, hcs cs ds _ h3 h4 hr⟩
 · intro κ ar hA
   rcases hw.A κ with h | h | ⟨h, sz, h1 | h1⟩ | ⟨m, m', h1, h2, h3⟩ | ⟨p, m, m', h1, h2, h3⟩ | ⟨n, m, h1, h2, h3⟩ | ⟨p, a2, h1, h2⟩
   · rw [h] at hA; cases hA
   · rw [h] at hA
     refine (hm.tok κ ar hA).frame (hτ κ ar hA) (fun _ _ _ h => h) rfl (fun b ho => ⟨hOt b κ ho (by rw [h, hA]; simp), rfl, fun _ => rfl⟩)
   · rw [h1] at hA
     cases hA
     exact ⟨none, 0, hτ0 κ h, Zlr _, .inl rfl⟩
   · rw [h1] at hA
     cases hA
     exact ⟨by simp [Szd], none, 0, hτ0 κ h, Zlr _, .inl rfl⟩
   · have h1' := h1
     rw [h1] at hA
     cases hA
     have hne : S'.A κ ≠ none := by rw [h1']; simp
     rcases h3 with h3 | ⟨c, l, i, h3⟩
     · obtain ⟨b, es, clock, m0, q1, q2, q3, q4, q5, q6⟩ := hm.tok κ _ h3
       obtain ⟨m1, r1, r2⟩ := q6.perm h2
       exact ⟨b, es, clock, m1, by rw [hτ κ _ h3]; exact q1, hOt b κ q2 hne, q3, q4, q5.of_perm r1, r2⟩
     · obtain ⟨b, es, clock, m0, q1, q2, q3, q4, q5, q6, _⟩ := hm.tok κ _ h3
       obtain ⟨m1, r1, r2⟩ := q6.perm h2
       exact ⟨b, es, clock, m1, by rw [hτ κ _ h3]; exact q1, hOt b κ q2 hne, q3, q4, q5.of_perm r1, r2⟩
   · have h1' := h1
     rw [h1] at hA
     cases hA
     have hne : S'.A κ ≠ none := by rw [h1']; simp
     rcases h3 with h3 | ⟨c, l, i, h3⟩
     · obtain ⟨⟨b, es, clock, m0, q1, q2, q3, q4, q5, q6⟩, q7⟩ := hm.tok κ _ h3
       obtain ⟨m1, r1, r2⟩ := q6.perm h2
       exact ⟨⟨b, es, clock, m1, by rw [hτ κ _ h3]; exact q1, hOt b κ q2 hne, q3, q4, q5.of_perm r1, r2⟩, by rw [hτ κ _ h3]; exact q7.1, rfl⟩
     · obtain ⟨⟨b, es, clock, m0, q1, q2, q3, q4, q5, q6, _⟩, q7⟩ := hm.tok κ _ h3
       obtain ⟨m1, r1, r2⟩ := q6.perm h2
       exact ⟨⟨b, es, clock, m1, by rw [hτ κ _ h3]; exact q1, hOt b κ q2 hne, q3, q4, q5.of_perm r1, r2⟩, by rw [hτ κ _ h3]; exact q7.1, rfl⟩
   · rw [h2] at hA
     cases hA
     obtain ⟨q1, q2⟩ := hm.tok κ _ h1
     exact ⟨q1, fun p hp => q2 p (Nat.le_trans h3 hp)⟩
   · rw [h2] at hA
     cases hA
     trivial
 · intro b o ho
   cases hb : g.O b with
   | none => rw [hOn b hb] at ho; cases ho
   | some o' => exact hm.own b o' hb
 · intro id hid
   cases hb : g'.β id with
   | none => rfl
   | some b => exact ((hβ' id b hb).1 hid).elim
 · intro id b hb
   have h1 := he.mono.β id b hb
   rw [hβ id (hw.kH id (fun h0 => by rw [hd0 id h0] at hb; cases hb))]
   exact h1
 · intro κ ar hA
   obtain ⟨ar', hA', hle⟩ := he.mono.τ κ ar hA
   have hk := hw.kA κ (by rw [hA]; simp)
   rcases hw.A κ with h | h | ⟨h, _⟩ | ⟨m, m', h1, h2, h3⟩ | ⟨p, m, m', h1, h2, h3⟩ | ⟨n, m, h1, h2, h3⟩ | ⟨p, a2, h1, h2⟩
   · exact (hk h).elim
   · exact ⟨ar', by rw [h]; exact hA', by rw [hτ κ ar' hA']; exact hle⟩
   · rw [hA'] at h; cases h
   · refine ⟨_, h1, ?_⟩
     rw [hτ κ ar' hA']
     rcases h3 with h3 | ⟨c, l, i, h3⟩ <;> rw [hA'] at h3 <;> cases h3 <;> cases ar <;> first | exact hle | exact hle.elim
   · refine ⟨_, h1, ?_⟩
     rw [hτ κ ar' hA']
     rcases h3 with h3 | ⟨c, l, i, h3⟩ <;> rw [hA'] at h3 <;> cases h3 <;> cases ar <;> first | exact hle | exact hle.elim
   · refine ⟨_, h2, ?_⟩
     rw [hA'] at h1
     cases h1
     cases ar <;> first | exact Nat.le_trans hle h3 | exact hle.elim
   · refine ⟨_, h2, ?_⟩
     rw [hA'] at h1
     cases h1
     cases ar <;> first | exact Zti | exact hle.elim
 · rcases hw.A κ with h | h | ⟨h, sz, h1 | h1⟩ | ⟨m, m', h1, h2, h3⟩ | ⟨p, m, m', h1, h2, h3⟩ | ⟨n', m, h1, h2, h3⟩ | ⟨p, a2, h1, h2⟩
   · rw [h] at e; cases e
   · rw [h] at e; exact (he.np hn).2 κ n e
   · rw [h1] at e; cases e
   · rw [h1] at e; cases e
   · rw [h1] at e; cases e
   · rw [h1] at e; cases e
   · exact (he.np hn).2 κ n' h1
   · rw [h2] at e; cases e
 · intro t v hv
   have h := hw.ρ t
   generalize S'.ρ t = new at *
   generalize S.ρ t = old at *
   unfold PV.wk at h
   split at h
   · trivial
   · exact hc _ _ v h hv
   · obtain ⟨arr, e, hr⟩ := hv
     exact ⟨arr, e, hcs _ _ _ h.1 h.2 hr⟩
   · rename_i xs ys
     obtain ⟨arr, e, hs, hr⟩ := hv
     refine ⟨arr, e, by rw [hs, h.1], fun k x hk => ?_⟩
     have hlt := (List.getElem?_eq_some_iff.1 hk).1
     have hy : ys[k]? = some (ys[k]'(by rw [← h.1]; exact hlt)) := Zge _
     obtain ⟨u, hu, ht⟩ := hr k _ hy
     have hw := h.2 k x _ hk hy
     generalize ys[k]'(by rw [← h.1]; exact hlt) = y at ht hw
     refine ⟨u, hu, ?_⟩
     cases x with
     | c x =>
       cases y with
       | c y => exact hc x y u hw ht
       | agg ds => exact hw.elim
     | agg cs =>
       cases y with
       | c y => exact hw.elim
       | agg ds => obtain ⟨arr', e', hr'⟩ := ht; exact ⟨arr', e', hcs _ _ _ hw.1 hw.2 hr'⟩
   · exact h.elim
theorem RS.weak {n : Nat} {g0 : Gh} {H0 : HMap} {A0 : AMap} {w0 : World} (hd0 : zjk g0 H0) {S S' : St} {a : Act} (hw : Weak H0 A0 S S') (h : RS D n g0 A0 w0 S a w) : RS D n g0 A0 w0 S' a w := by
 obtain ⟨g, hm, hd, hf, he, hn, hdf⟩ := h
 obtain ⟨g', h1, h2, h3, h4⟩ := z9w hd0 hw hm he
 exact ⟨g', h1, h2, fun t => h4 t _ (hf t), h3, hn, hdf⟩
def y7x (D : List Deferred) (n : Nat) (g0 : Gh) (A0 : AMap) (w0 : World) (Q : Post) : Exit → Act → World → Prop
 | .normal, a, w => ∃ S, RS D n g0 A0 w0 S a w ∧ Q.nrm S
 | .ret, a, w => ∃ S, RS D n g0 A0 w0 S a w ∧ Q.ret S
 | .exit id, a, w => ∃ S, RS D n g0 A0 w0 S a w ∧ Q.ext id S
 | _, _, _ => False
theorem zk7 {E : Env} (hE : EnvOK E) {n : Nat} {g0 : Gh} {H0 : HMap} {A0 : AMap} {w0 : World} (hd0 : zjk g0 H0) :
 ∀ (c : Code), zkh E n c = true → ∀ (Q : Post) (S : St) (a : Act) (w : World), VC E H0 A0 c Q S → RS D n g0 A0 w0 S a w → c.wp E.P (y7x D n g0 A0 w0 Q) a w
 | .skip, _, Q, S, a, w, h, hr => wp_skip ⟨S, hr, h⟩
 | .region id ops draw, hc, Q, S, a, w, h, hr => yx7 hE hc h hr (fun S a w hr h => ⟨S, hr, h⟩)
 | .seq x y, hc, Q, S, a, w, h, hr => by
   simp only [zkh, Bool.and_eq_true] at hc
   refine wp_seq (wp_mono (zk7 hE hd0 x hc.1 _ S a w h hr) (fun e a' w' hq => ?_))
   cases e with
   | normal =>
     obtain ⟨S', hr', h'⟩ := hq
     exact zk7 hE hd0 y hc.2 Q S' a' w' h' hr'
   | ret => exact hq
   | exit id => exact hq
   | _ => exact hq.elim
 | .cond c x y, hc, Q, S, a, w, h, hr => by
   simp only [zkh, Bool.and_eq_true] at hc
   obtain ⟨b, hb, ht, hff⟩ := Opt.iff.1 h
   obtain ⟨g, hm, hd, hf, he, hn, hdf⟩ := id hr
   have hv := z7l (zz3 hf c) hb
   refine wp_cond_split hv (fun e => ?_) (fun e => ?_)
   · exact zk7 hE hd0 x hc.1 Q S a w (ht e) hr
   · exact zk7 hE hd0 y hc.2 Q S a w (hff e) hr
 | .block id c, hc, Q, S, a, w, h, hr => by
   refine wp_block (wp_mono (zk7 hE hd0 c hc _ S a w h hr) (fun e a' w' hq => ?_))
   cases e with
   | normal => exact hq
   | ret => exact hq
   | exit j =>
     obtain ⟨S', hr', h'⟩ := hq
     simp only at h'
     show (if j = id then y7x D n g0 A0 w0 Q .normal a' w' else y7x D n g0 A0 w0 Q (.exit j) a' w')
     split at h'
     · rename_i e
       rw [if_pos e]
       exact ⟨S', hr', h'⟩
     · rename_i e
       rw [if_neg e]
       exact ⟨S', hr', h'⟩
   | _ => exact hq.elim
 | .loop c, hc, Q, S, a, w, h, hr => by
   obtain ⟨ι, F, μ, ⟨i0, hw0⟩, hround⟩ := h
   refine wp_loop_ghost (fun k a w => ∃ i, μ i = k ∧ RS D n g0 A0 w0 (F i) a w) (μ i0) ⟨i0, rfl, hr.weak hd0 hw0⟩ ?_
   rintro _ a w ⟨i, rfl, hi⟩
   refine wp_mono (zk7 hE hd0 c hc _ (F i) a w (hround i) hi) (fun e a' w' hq => ?_)
   cases e with
   | normal =>
     obtain ⟨S', hr', j, hwj, hlt⟩ := hq
     exact ⟨μ j, hlt, j, rfl, hr'.weak hd0 hwj⟩
   | ret => exact hq
   | exit id => exact hq
   | _ => exact hq.elim
 | .exit id, _, Q, S, a, w, h, hr => wp_exit ⟨S, hr, h⟩
 | .label l, _, Q, S, a, w, h, hr => wp_label ⟨S, hr, h⟩
 | .scope c, hc, Q, S, a, w, h, hr => by
   refine wp_scope_straight (wp_mono (zk7 hE hd0 c hc Q S a w h hr) (fun e a' w' hq => ?_))
   cases e with
   | goto l => exact hq.elim
   | _ => exact hq
 | .ret, _, Q, S, a, w, h, hr => wp_ret ⟨S, hr, h⟩
 | .rangeFunc .., _, _, _, _, _, h, _ => h.elim
 | .goto _, _, _, _, _, _, h, _ => h.elim
 | .refuse _, _, _, _, _, _, h, _ => h.elim
end Go.PW
