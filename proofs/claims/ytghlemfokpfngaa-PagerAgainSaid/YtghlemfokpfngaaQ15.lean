/-
  Parts of the proof, laid together: PwWb.
-/
import Derived.Test.YtghlemfokpfngaaQ14

namespace Go.PW
variable {P : Program} {g g' : Gh} {H H' : HMap} {A A' : AMap} {w : World}
theorem PtsRep.re {β β' : Nat → Option Nat} {l : List (Nat × Nat)} {vs : Array Value} {hk : Nat → Prop} (hβ : ∀ i, hk i → β' i = β i) (hl : ∀ p ∈ l, hk p.1) (h : PtsRep β l vs) : PtsRep β' l vs :=
  h.mono fun p hp b hb => by rw [hβ _ (hl p hp)]; exact hb
theorem CRep.re {hk : Nat → Prop} {tk : Tok → Prop} (hC : g'.C = g.C) (hβ : ∀ i, hk i → g'.β i = g.β i) (hτ : ∀ κ, tk κ → g'.τ κ = g.τ κ ∧ A' κ = A κ) {c : CV} {v : Value} (hok : c.ok hk tk) (hr : CRep g A c v) : CRep g' A' c v := by
  cases c with
  | any => trivial
  | skip => exact hr
  | d x => show DRep g'.C x v; rw [hC]; exact hr
  | full els => exact ⟨by rw [hC]; exact hr.1, hr.2⟩
  | own κ els =>
    obtain ⟨h1, h2⟩ := hτ κ hok
    obtain ⟨hd, sz, n, hA, hl, ht⟩ := hr
    exact ⟨by rw [hC]; exact hd, sz, n, by rw [h2]; exact hA, hl, by rw [h1]; exact ht⟩
  | mt κ sz n =>
    obtain ⟨h1, h2⟩ := hτ κ hok
    obtain ⟨a, cap, els, q1, q2, hA, q4, q5⟩ := hr
    exact ⟨a, cap, els, q1, q2, by rw [h2]; exact hA, q4, by rw [h1]; exact q5⟩
  | tv κ sz n L =>
    obtain ⟨h1, h2⟩ := hτ κ hok
    obtain ⟨a, cap, els, q1, q2, hA, q4, q5⟩ := hr
    exact ⟨a, cap, els, q1, q2, by rw [h2]; exact hA, q4, by rw [h1]; exact q5⟩
  | ptr id off =>
    obtain ⟨b, hb, e⟩ := hr
    exact ⟨b, by rw [hβ id hok]; exact hb, e⟩
  | eptr e off =>
    obtain ⟨b, o, hv, hc⟩ := hr
    exact ⟨b, o, hv, by rw [hC]; exact hc⟩
  | mptr κ sz n i off =>
    obtain ⟨h1, h2⟩ := hτ κ hok
    obtain ⟨b, els, q1, hA, q4, q5⟩ := hr
    exact ⟨b, els, q1, by rw [h2]; exact hA, q4, by rw [h1]; exact q5⟩
  | fn f caps =>
    obtain ⟨vs, h1, h2, h3⟩ := hr
    refine ⟨vs, h1, h2, fun k p hk => ?_⟩
    obtain ⟨b, hb, e⟩ := h3 k p hk
    exact ⟨b, by rw [hβ _ (hok p (List.mem_of_getElem? hk))]; exact hb, e⟩
  | mpr κ =>
    obtain ⟨h1, h2⟩ := hτ κ hok
    obtain ⟨hb, hv, m, hA, hmp⟩ := hr
    exact ⟨hb, by rw [h1]; exact hv, m, by rw [h2]; exact hA, hmp⟩
  | itr κ bi => exact hr
  | sit κ =>
    obtain ⟨h1, h2⟩ := hτ κ hok
    obtain ⟨hb, hv, s, pos, hA⟩ := hr
    exact ⟨hb, by rw [h1]; exact hv, s, pos, by rw [h2]; exact hA⟩
  | vsl id n =>
    obtain ⟨b, hb, e⟩ := hr
    exact ⟨b, by rw [hβ id hok]; exact hb, e⟩
  | bfn f fst caps =>
    obtain ⟨us, vs, e, h1, h2⟩ := hr
    exact ⟨us, vs, e, h1.re hβ hok.1, h2.re hβ hok.2⟩
theorem CsRep.re {hk : Nat → Prop} {tk : Tok → Prop} (hC : g'.C = g.C) (hβ : ∀ i, hk i → g'.β i = g.β i) (hτ : ∀ κ, tk κ → g'.τ κ = g.τ κ ∧ A' κ = A κ) {cs : List CV} {vs : List Value} (hok : ∀ c ∈ cs, c.ok hk tk) (hr : CsRep g A cs vs) : CsRep g' A' cs vs :=
  ⟨hr.1, fun k c hk => let ⟨v, hv, r⟩ := hr.2 k c hk; ⟨v, hv, CRep.re hC hβ hτ (hok c (List.mem_of_getElem? hk)) r⟩⟩
theorem PRep.re {hk : Nat → Prop} {tk : Tok → Prop} (hC : g'.C = g.C) (hβ : ∀ i, hk i → g'.β i = g.β i) (hτ : ∀ κ, tk κ → g'.τ κ = g.τ κ ∧ A' κ = A κ) {p : PV} {v : Value} (hok : p.oks hk tk) (hr : PRep g A p v) : PRep g' A' p v := by
  have tv : ∀ (x : TV) (u : Value), x.oks hk tk → TRep g A x u → TRep g' A' x u := fun x u hx hu => by
    cases x with
    | c x => exact CRep.re hC hβ hτ hx hu
    | agg cs => obtain ⟨arr, e, r⟩ := hu; exact ⟨arr, e, CsRep.re hC hβ hτ hx r⟩
  cases p with
  | c x => exact CRep.re hC hβ hτ hok hr
  | agg cs => obtain ⟨arr, e, r⟩ := hr; exact ⟨arr, e, CsRep.re hC hβ hτ hok r⟩
  | tup xs => obtain ⟨arr, e, hs, r⟩ := hr; exact ⟨arr, e, hs, fun k x hk => let ⟨u, hu, t⟩ := r k x hk; ⟨u, hu, tv x u (hok x (List.mem_of_getElem? hk)) t⟩⟩
theorem CallTo.mono {f : FuncId} {args : Array Value} {R R' : Value → World → Prop} (h : CallTo P f args w R) (hR : ∀ v w', R v w' → R' v w') : CallTo P f args w R' := by
  rcases h with ⟨h1, h2⟩ | ⟨v, w', h1, h2⟩
  · refine .inl ⟨h1, Calls.mono h2 (fun e w' he => ?_)⟩
    obtain ⟨v, hv, hr⟩ := he
    exact ⟨v, hv, hR v w' hr⟩
  · exact .inr ⟨v, w', h1, hR v w' h2⟩
def own0 (H : HMap) : Option Own → Option Own
  | some (.var i) => (match H i with
    | none => none
    | some _ => some (.var i))
  | o => o
def own2 (H : HMap) (x y : Option Own) : Option Own :=
  match x with
  | some (.var i) => (match H i with
    | none => some (.var i)
    | some _ => y)
  | _ => y
theorem eff_ext {f : FuncId} {n : Nat} {args : List PV} {v : PV} (h : EffOK P f n H A args v H' A') (hw : Wf H A) (hargs : ∀ x ∈ args, x.oks (fun i => H i ≠ none) (fun κ => A κ ≠ none)) {H2 H2' : HMap} (ext : ∀ id, H id ≠ none → H2 id = H id)
    (e1 : ∀ id, H id = none → H2 id ≠ none → H2' id = H2 id ∧ H' id = none) (e2 : ∀ id, H id ≠ none ∨ H2 id = none → H2' id = H' id) : EffOK P f n H2 A args v H2' A' := by
  intro g w vals hm hd hab har
  have habH : Above n H A := fun i hi => by
    obtain ⟨x1, x2⟩ := hab i hi
    refine ⟨?_, x2⟩
    cases hh : H i with
    | none => rfl
    | some cs => rw [ext i (by rw [hh]; simp), hh] at x1; cases x1
  let g0 : Gh := { g with β := fun i => (match H i with | none => none | some _ => g.β i), O := fun b => own0 H (g.O b) }
  have hk : ∀ i, H i ≠ none → g0.β i = g.β i := fun i hi => by
    show (match H i with | none => none | some _ => g.β i) = _
    cases hh : H i with
    | none => exact (hi hh).elim
    | some _ => rfl
  have hk0 : ∀ i, H i = none → g0.β i = none := fun i hi => by
    show (match H i with | none => none | some _ => g.β i) = _
    rw [hi]
  have ov : ∀ b i, g.O b = some (.var i) → H i ≠ none → g0.O b = some (.var i) := fun b i ho hi => by
    show own0 H (g.O b) = _
    rw [ho]
    cases hh : H i with
    | none => exact (hi hh).elim
    | some _ => simp only [own0, hh]
  have ol : ∀ b i, g.O b = some (.var i) → H i = none → g0.O b = none := fun b i ho hi => by
    show own0 H (g.O b) = _
    rw [ho]
    simp only [own0, hi]
  have ot : ∀ b κ, g.O b = some (.tok κ) → g0.O b = some (.tok κ) := fun b κ ho => by
    show own0 H (g.O b) = _
    rw [ho]; rfl
  have on : ∀ b, g.O b = none → g0.O b = none := fun b ho => by
    show own0 H (g.O b) = _
    rw [ho]; rfl
  have os : ∀ b o, g0.O b = some o → g.O b = some o := fun b o ho => by
    cases hb : g.O b with
    | none => rw [on b hb] at ho; cases ho
    | some o' =>
      cases o' with
      | tok κ => rw [ot b κ hb] at ho; exact ho
      | var i =>
        by_cases hi : H i = none
        · rw [ol b i hb hi] at ho; cases ho
        · rw [ov b i hb hi] at ho; exact ho
  have hmH : MRel g0 H A w := by
    refine ⟨hm.com, fun i b' hi => ?_, fun κ ar hA => (hm.tok κ ar hA).frame rfl (fun _ _ _ h => h) (fun b' ho => ⟨ot b' κ ho, rfl, fun _ => rfl⟩), fun b' o ho => hm.own b' o (os b' o ho)⟩
    have hne : H i ≠ none := fun e => by rw [hk0 i e] at hi; cases hi
    rw [hk i hne] at hi
    obtain ⟨ho, hC, cs', vs, e, fz, hH, hh, hu, hr⟩ := hm.var i b' hi
    rw [ext i hne] at hH
    exact ⟨ov b' i ho hne, hC, cs', vs, e, fz, hH, hh, hu, CsRep.re (g := g) (g' := g0) (hk := fun i => H i ≠ none) (tk := fun _ => True) rfl hk (fun _ _ => ⟨rfl, rfl⟩) (fun c hc => ok_mono (fun _ h => h) (fun _ _ => True.intro) (hw i cs' c hH hc)) hr⟩
  have hdH : DomOK g0 H := hk0
  have harH : ArgsRep g0 A args vals.toList := ⟨har.1, fun k x hx => by
    obtain ⟨u, hu, hr⟩ := har.2 k x hx
    exact ⟨u, hu, PRep.re (g := g) (g' := g0) (hk := fun i => H i ≠ none) (tk := fun κ => A κ ≠ none) rfl hk (fun _ _ => ⟨rfl, rfl⟩) (hargs x (List.mem_of_getElem? hx)) hr⟩⟩
  refine CallTo.mono (h g0 w vals hmH hdH habH harH) fun u w' ⟨g', r1, r2, r3, r4⟩ => ?_
  let g2 : Gh := { g' with β := fun i => (match H i with | none => (match g.β i with | some b => some b | none => g'.β i) | some _ => g'.β i), O := fun b => own2 H (g.O b) (g'.O b) }
  have bs : ∀ i, H i ≠ none → g2.β i = g'.β i := fun i hi => by
    show (match H i with | none => (match g.β i with | some b => some b | none => g'.β i) | some _ => g'.β i) = _
    cases hh : H i with
    | none => exact (hi hh).elim
    | some _ => rfl
  have bl : ∀ i b, H i = none → g.β i = some b → g2.β i = some b := fun i b hi hb => by
    show (match H i with | none => (match g.β i with | some b => some b | none => g'.β i) | some _ => g'.β i) = _
    rw [hi, hb]
  have bn : ∀ i, H i = none → g.β i = none → g2.β i = g'.β i := fun i hi hb => by
    show (match H i with | none => (match g.β i with | some b => some b | none => g'.β i) | some _ => g'.β i) = _
    rw [hi, hb]
  have loc : ∀ i b, H i = none → g.β i = some b → H2 i ≠ none ∧ H2' i = H2 i ∧ H' i = none ∧ g'.β i = none := fun i b hi hb => by
    have h2 : H2 i ≠ none := fun e => by rw [hd i e] at hb; cases hb
    obtain ⟨x1, x2⟩ := e1 i hi h2
    exact ⟨h2, x1, x2, r4 i x2⟩
  have pl : ∀ b i, g.O b = some (.var i) → H i = none → g2.O b = some (.var i) ∧ g'.O b = none ∧ b < w.heap.size := fun b i ho hi => by
    have hlt := hm.own b _ ho
    refine ⟨?_, r3.own b hlt (ol b i ho hi), hlt⟩
    show own2 H (g.O b) (g'.O b) = _
    rw [ho]
    simp only [own2, hi]
  have pn : ∀ b, (∀ i, g.O b = some (.var i) → H i ≠ none) → g2.O b = g'.O b := fun b hb => by
    show own2 H (g.O b) (g'.O b) = _
    cases ho : g.O b with
    | none => rfl
    | some o =>
      cases o with
      | tok κ => rfl
      | var i =>
        cases hh : H i with
        | none => exact (hb i ho hh).elim
        | some _ => simp only [own2, hh]
  have ps : ∀ b o, g'.O b = some o → g2.O b = some o := fun b o ho => by
    rw [pn b (fun i h1 h2 => by rw [(pl b i h1 h2).2.1] at ho; cases ho)]
    exact ho
  have hM' : Mono g' A' g2 A' := ⟨fun _ _ _ h => h, fun i b' hi => by
    cases hh : H i with
    | none =>
      cases hb : g.β i with
      | none => rw [bn i hh hb]; exact hi
      | some b => rw [(loc i b hh hb).2.2.2] at hi; cases hi
    | some _ => rw [bs i (by rw [hh]; simp)]; exact hi, fun κ ar h => ⟨ar, h, TokLe.refl _ _⟩⟩
  have hM : Mono g A g2 A' := ⟨fun b' o v hc => r3.mono.C b' o v hc, fun i b' hi => by
    cases hh : H i with
    | none => exact bl i b' hh hi
    | some _ => exact hM'.β i b' (r3.mono.β i b' (by rw [hk i (by rw [hh]; simp)]; exact hi)), r3.mono.τ⟩
  refine ⟨g2, PRep.mono hM' r1, ⟨r2.com, fun i b' hi => ?_, fun κ ar hA => (r2.tok κ ar hA).frame rfl (fun _ _ _ h => h) (fun b' ho => ⟨ps b' _ ho, rfl, fun _ => rfl⟩), fun b' o ho => ?_⟩,
    ⟨hM, fun b' hb' ho => r3.frame b' hb' (on b' ho), fun b' hb' ho => ?_, fun b' hb' ho o => r3.old b' hb' (on b' ho) o, r3.size, r3.os, r3.tape, r3.output⟩, fun i hi => ?_⟩
  · have rest : g'.β i = some b' → (H i ≠ none ∨ g.β i = none) → g2.O b' = some (.var i) ∧ (∀ o, g2.C b' o = none) ∧ ∃ cs vs e fz, H2' i = some cs ∧ w'.heap[b']? = some (.cells vs e fz) ∧ Unfz vs.size fz ∧ CsRep g2 A' cs vs.toList := fun hi' hor => by
      obtain ⟨ho, hC, cs', vs, e', fz, hH, hh, hu, hr⟩ := r2.var i b' hi'
      refine ⟨ps b' _ ho, hC, cs', vs, e', fz, ?_, hh, hu, hr.mono hM'⟩
      rw [e2 i ?_]
      · exact hH
      · rcases hor with hor | hor
        · exact .inl hor
        · by_cases x : H i = none
          · right
            cases x2 : H2 i with
            | none => rfl
            | some _ => rw [(e1 i x (by rw [x2]; simp)).2] at hH; cases hH
          · exact .inl x
    cases hh : H i with
    | none =>
      cases hb : g.β i with
      | none => exact rest (by rw [← bn i hh hb]; exact hi) (.inr hb)
      | some b =>
        rw [bl i b hh hb] at hi
        have eb : b = b' := Option.some.inj hi
        subst eb
        obtain ⟨x1, x2, x3, x4⟩ := loc i b hh hb
        obtain ⟨hob, hCb, cs, vs0, e0, fz0, hH0, hh0, hu0, hr0⟩ := hm.var i b hb
        obtain ⟨y1, y2, y3⟩ := pl b i hob hh
        have y4 := ol b i hob hh
        exact ⟨y1, fun o => by
          show g'.C b o = none
          rw [r3.old b y3 y4 o]; exact hCb o, cs, vs0, e0, fz0, by rw [x2]; exact hH0, by rw [r3.frame b y3 y4]; exact hh0, hu0, hr0.mono hM⟩
    | some _ => exact rest (by rw [← bs i (by rw [hh]; simp)]; exact hi) (.inl (by rw [hh]; simp))
  · cases ho' : g'.O b' with
    | some o' => exact r2.own b' o' ho'
    | none =>
      cases hb : g.O b' with
      | some o' => exact Nat.lt_of_lt_of_le (hm.own b' o' hb) r3.size
      | none =>
        rw [pn b' (fun i h1 => by rw [hb] at h1; cases h1), ho'] at ho
        cases ho
  · rw [pn b' (fun i h1 => by rw [ho] at h1; cases h1)]
    exact r3.own b' hb' (on b' ho)
  · cases hh : H i with
    | none =>
      cases hb : g.β i with
      | some b =>
        obtain ⟨x1, x2, _⟩ := loc i b hh hb
        rw [x2] at hi
        exact (x1 hi).elim
      | none =>
        rw [bn i hh hb]
        cases x2 : H2 i with
        | some _ => rw [(e1 i hh (by rw [x2]; simp)).1, x2] at hi; cases hi
        | none => exact r4 i (by rw [← e2 i (.inr x2)]; exact hi)
    | some _ =>
      rw [bs i (by rw [hh]; simp)]
      exact r4 i (by rw [← e2 i (.inl (by rw [hh]; simp))]; exact hi)
theorem eff_frame {f : FuncId} {n : Nat} {args : List PV} {v : PV} (h : EffOK P f n H A args v H' A') (hw : Wf H A) (hargs : ∀ x ∈ args, x.oks (fun i => H i ≠ none) (fun κ => A κ ≠ none)) {id : Nat} {cs : List CV} (h0 : H id = none) (h1 : H' id = none) :
    EffOK P f n (upd H id (some cs)) A args v (upd H' id (some cs)) A' := by
  refine eff_ext h hw hargs (fun i hi => upd_other _ _ fun e => hi (by rw [e]; exact h0)) (fun i hi h2 => ?_) (fun i hi => ?_)
  · by_cases e : i = id
    · subst e
      exact ⟨by rw [upd_same, upd_same], h1⟩
    · rw [upd_other _ _ e] at h2
      exact (h2 hi).elim
  · refine upd_other _ _ fun e => ?_
    subst e
    rw [upd_same] at hi
    rcases hi with hi | hi
    · exact hi h0
    · cases hi
theorem eff_more {f : FuncId} {n : Nat} {args : List PV} {v : PV} (h : EffOK P f n H A args v H A) (hw : Wf H A) (hargs : ∀ x ∈ args, x.oks (fun i => H i ≠ none) (fun κ => A κ ≠ none)) {H2 : HMap} (ext : ∀ id, H id ≠ none → H2 id = H id) : EffOK P f n H2 A args v H2 A :=
  eff_ext h hw hargs ext (fun _ hi _ => ⟨rfl, hi⟩) (fun i hi => by
    rcases hi with hi | hi
    · exact ext i hi
    · cases hh : H i with
      | none => exact hi
      | some _ => rw [← hh, ext i (by rw [hh]; simp)])
theorem C_rmore {effs : List FuncId} {off : Nat} {md st : List Nat} {n : Nat} {f : FuncId} {args args' : List PV} {v : PV} {KK : PV → HMap → AMap → Prop} (he : (effs.contains f || effs.contains (2000000 + f)) = false) (hq : effs.contains (7000000 + f) = true)
    (h : EffOK P f (off + 1000) H A args' v H A) (hw : Wf H A) (hargs : ∀ x ∈ args', x.oks (fun i => H i ≠ none) (fun κ => A κ ≠ none)) (ha : args.map PV.frz = args')
    (hb : Above (off + 1000) H A) (hK : Todo (KK v H A)) : callV (envOf P effs off md st) n f H A args KK := C_rquiet he hq (fun _ k _ => eff_more h hw hargs k) ha hb hK
def ownA0 (A : AMap) : Option Own → Option Own
  | some (.tok κ) => (match A κ with
    | none => none
    | some _ => some (.tok κ))
  | o => o
def ownA2 (A : AMap) (x y : Option Own) : Option Own :=
  match x with
  | some (.tok κ) => (match A κ with
    | none => some (.tok κ)
    | some _ => y)
  | _ => y
open Classical in
theorem eff_extA {f : FuncId} {n : Nat} {args : List PV} {v : PV} (h : EffOK P f n H A args v H' A') (hw : Wf H A) (hargs : ∀ x ∈ args, x.oks (fun i => H i ≠ none) (fun κ => A κ ≠ none)) {A2 A2' : AMap} (ext : ∀ κ, A κ ≠ none → A2 κ = A κ)
    (e1 : ∀ κ, A κ = none → A2 κ ≠ none → A2' κ = A2 κ ∧ A' κ = none) (e2 : ∀ κ, A κ ≠ none ∨ A2 κ = none → A2' κ = A' κ) : EffOK P f n H A2 args v H' A2' := by
  intro g w vals hm hd hab har
  have habA : Above n H A := fun i hi => by
    obtain ⟨x1, x2⟩ := hab i hi
    refine ⟨x1, fun k => ?_⟩
    cases hh : A (i, k) with
    | none => rfl
    | some ar => have := x2 k; rw [ext (i, k) (by rw [hh]; simp), hh] at this; cases this
  let g0 : Gh := { g with O := fun b => ownA0 A (g.O b) }
  have ov : ∀ b i, g.O b = some (.var i) → g0.O b = some (.var i) := fun b i ho => by
    show ownA0 A (g.O b) = _
    rw [ho]; rfl
  have ot : ∀ b κ, g.O b = some (.tok κ) → A κ ≠ none → g0.O b = some (.tok κ) := fun b κ ho hi => by
    show ownA0 A (g.O b) = _
    rw [ho]
    cases hh : A κ with
    | none => exact (hi hh).elim
    | some _ => simp only [ownA0, hh]
  have ol : ∀ b κ, g.O b = some (.tok κ) → A κ = none → g0.O b = none := fun b κ ho hi => by
    show ownA0 A (g.O b) = _
    rw [ho]
    simp only [ownA0, hi]
  have on : ∀ b, g.O b = none → g0.O b = none := fun b ho => by
    show ownA0 A (g.O b) = _
    rw [ho]; rfl
  have os : ∀ b o, g0.O b = some o → g.O b = some o := fun b o ho => by
    cases hb : g.O b with
    | none => rw [on b hb] at ho; cases ho
    | some o' =>
      cases o' with
      | var i => rw [ov b i hb] at ho; exact ho
      | tok κ =>
        by_cases hi : A κ = none
        · rw [ol b κ hb hi] at ho; cases ho
        · rw [ot b κ hb hi] at ho; exact ho
  have re : ∀ κ, A κ ≠ none → g0.τ κ = g.τ κ ∧ A κ = A2 κ := fun κ hk => ⟨rfl, (ext κ hk).symm⟩
  have hmH : MRel g0 H A w := by
    refine ⟨hm.com, fun i b' hi => ?_, fun κ ar hA => ?_, fun b' o ho => hm.own b' o (os b' o ho)⟩
    · obtain ⟨ho, hC, cs', vs, e, fz, hH, hh, hu, hr⟩ := hm.var i b' hi
      exact ⟨ov b' i ho, hC, cs', vs, e, fz, hH, hh, hu, CsRep.re (g := g) (g' := g0) (hk := fun _ => True) (tk := fun κ => A κ ≠ none) rfl (fun _ _ => rfl) re (fun c hc => ok_mono (fun _ _ => True.intro) (fun _ h => h) (hw i cs' c hH hc)) hr⟩
    · have hne : A κ ≠ none := by rw [hA]; simp
      exact (hm.tok κ ar (by rw [ext κ hne]; exact hA)).frame rfl (fun _ _ _ h => h) (fun b' ho => ⟨ot b' κ ho hne, rfl, fun _ => rfl⟩)
  have harH : ArgsRep g0 A args vals.toList := ⟨har.1, fun k x hx => by
    obtain ⟨u, hu, hr⟩ := har.2 k x hx
    exact ⟨u, hu, PRep.re (g := g) (g' := g0) (hk := fun i => H i ≠ none) (tk := fun κ => A κ ≠ none) rfl (fun _ _ => rfl) re (hargs x (List.mem_of_getElem? hx)) hr⟩⟩
  refine CallTo.mono (h g0 w vals hmH hd habA harH) fun u w' ⟨g', r1, r2, r3, r4⟩ => ?_
  let g2 : Gh := { g' with τ := fun κ => if A κ = none ∧ A2 κ ≠ none then g.τ κ else g'.τ κ, O := fun b => ownA2 A (g.O b) (g'.O b) }
  have tl : ∀ κ, A κ = none → A2 κ ≠ none → g2.τ κ = g.τ κ := fun κ h1 h2 => if_pos ⟨h1, h2⟩
  have ts : ∀ κ, (A κ ≠ none ∨ A2 κ = none) → g2.τ κ = g'.τ κ := fun κ h => if_neg fun ⟨h1, h2⟩ => h.elim (fun x => x h1) (fun x => h2 x)
  have loc : ∀ κ, A κ = none → A2 κ ≠ none → A2' κ = A2 κ ∧ A' κ = none := e1
  have pl : ∀ b κ, g.O b = some (.tok κ) → A κ = none → g2.O b = some (.tok κ) ∧ g'.O b = none ∧ b < w.heap.size := fun b κ ho hi => by
    have hlt := hm.own b _ ho
    refine ⟨?_, r3.own b hlt (ol b κ ho hi), hlt⟩
    show ownA2 A (g.O b) (g'.O b) = _
    rw [ho]
    simp only [ownA2, hi]
  have pn : ∀ b, (∀ κ, g.O b = some (.tok κ) → A κ ≠ none) → g2.O b = g'.O b := fun b hb => by
    show ownA2 A (g.O b) (g'.O b) = _
    cases ho : g.O b with
    | none => rfl
    | some o =>
      cases o with
      | var i => rfl
      | tok κ =>
        cases hh : A κ with
        | none => exact (hb κ ho hh).elim
        | some _ => simp only [ownA2, hh]
  have ps : ∀ b o, g'.O b = some o → g2.O b = some o := fun b o ho => by
    rw [pn b (fun i h1 h2 => by rw [(pl b i h1 h2).2.1] at ho; cases ho)]
    exact ho
  have dec : ∀ κ, (A κ = none ∧ A2 κ ≠ none) ∨ (A κ ≠ none ∨ A2 κ = none) := fun κ => by
    by_cases h1 : A κ = none
    · by_cases h2 : A2 κ = none
      · exact .inr (.inr h2)
      · exact .inl ⟨h1, h2⟩
    · exact .inr (.inl h1)
  have hM' : Mono g' A' g2 A2' := ⟨fun _ _ _ h => h, fun _ _ h => h, fun κ ar hA => by
    rcases dec κ with ⟨h1, h2⟩ | hor
    · rw [(loc κ h1 h2).2] at hA; cases hA
    · exact ⟨ar, by rw [e2 κ hor]; exact hA, by rw [ts κ hor]; exact TokLe.refl _ _⟩⟩
  have hM : Mono g A2 g2 A2' := ⟨fun b' o v hc => r3.mono.C b' o v hc, fun i b' hi => r3.mono.β i b' hi, fun κ ar hA => by
    rcases dec κ with ⟨h1, h2⟩ | hor
    · exact ⟨ar, by rw [(loc κ h1 h2).1]; exact hA, by rw [tl κ h1 h2]; exact TokLe.refl _ _⟩
    · rcases hor with hor | hor
      · obtain ⟨ar', q1, q2⟩ := r3.mono.τ κ ar (by rw [← ext κ hor]; exact hA)
        exact ⟨ar', by rw [e2 κ (.inl hor)]; exact q1, by rw [ts κ (.inl hor)]; exact q2⟩
      · rw [hor] at hA; cases hA⟩
  refine ⟨g2, PRep.mono hM' r1, ⟨r2.com, fun i b' hi => ?_, fun κ ar hA => ?_, fun b' o ho => ?_⟩,
    ⟨hM, fun b' hb' ho => r3.frame b' hb' (on b' ho), fun b' hb' ho => ?_, fun b' hb' ho o => r3.old b' hb' (on b' ho) o, r3.size, r3.os, r3.tape, r3.output⟩, r4⟩
  · obtain ⟨ho, hC, cs', vs, e', fz, hH, hh, hu, hr⟩ := r2.var i b' hi
    exact ⟨ps b' _ ho, hC, cs', vs, e', fz, hH, hh, hu, hr.mono hM'⟩
  · rcases dec κ with ⟨h1, h2⟩ | hor
    · rw [(loc κ h1 h2).1] at hA
      exact (hm.tok κ ar hA).frame (tl κ h1 h2) (fun b o v hc => r3.mono.C b o v hc) (fun b ho => by
        obtain ⟨y1, y2, y3⟩ := pl b κ ho h1
        have y4 := ol b κ ho h1
        exact ⟨y1, r3.frame b y3 y4, fun o => r3.old b y3 y4 o⟩)
    · rw [e2 κ hor] at hA
      exact (r2.tok κ ar hA).frame (ts κ hor) (fun _ _ _ h => h) (fun b ho => ⟨ps b _ ho, rfl, fun _ => rfl⟩)
  · cases ho' : g'.O b' with
    | some o' => exact r2.own b' o' ho'
    | none =>
      cases hb : g.O b' with
      | some o' => exact Nat.lt_of_lt_of_le (hm.own b' o' hb) r3.size
      | none =>
        rw [pn b' (fun i h1 => by rw [hb] at h1; cases h1), ho'] at ho
        cases ho
  · rw [pn b' (fun i h1 => by rw [ho] at h1; cases h1)]
    exact r3.own b' hb' (on b' ho)
theorem eff_frameA {f : FuncId} {n : Nat} {args : List PV} {v : PV} (h : EffOK P f n H A args v H' A') (hw : Wf H A) (hargs : ∀ x ∈ args, x.oks (fun i => H i ≠ none) (fun κ => A κ ≠ none)) {κ : Tok} {ar : Arr} (h0 : A κ = none) (h1 : A' κ = none) :
    EffOK P f n H (upd A κ (some ar)) args v H' (upd A' κ (some ar)) := by
  refine eff_extA h hw hargs (fun i hi => upd_other _ _ fun e => hi (by rw [e]; exact h0)) (fun i hi h2 => ?_) (fun i hi => ?_)
  · by_cases e : i = κ
    · subst e
      exact ⟨by rw [upd_same, upd_same], h1⟩
    · rw [upd_other _ _ e] at h2
      exact (h2 hi).elim
  · refine upd_other _ _ fun e => ?_
    subst e
    rw [upd_same] at hi
    rcases hi with hi | hi
    · exact hi h0
    · cases hi
theorem RunV_app {E : Env} {fb : Option (List Nat)} {l1 l2 L : List Oper} {S : St} {K : St → Prop} (hL : l1 ++ l2 = L) (h : Todo (RunV E fb L.toArray L S K)) : RunV E fb (List.append l1 l2).toArray (List.append l1 l2) S K := by
  subst hL; exact h
end Go.PW
