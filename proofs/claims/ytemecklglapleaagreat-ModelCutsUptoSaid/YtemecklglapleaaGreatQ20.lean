/-
  Parts of the proof, laid together: PwWb, PwV, PwFa, PwX, PwFc, PwFb, PwFd.
-/
import Derived.Test.YtemecklglapleaaGreatQ18
import Derived.Test.YtemecklglapleaaGreatQ19

set_option maxRecDepth 30000
set_option maxHeartbeats 16000000
namespace Go.PW
variable {P : Program} {g g' : Gh} {H H' : HMap} {A A' : AMap} {w : World}
theorem zwu.re {β β' : Nat → Option Nat} {l : List (Nat × Nat)} {vs : Array Value} {hk : Nat → Prop} (hβ : ∀ i, hk i → β' i = β i) (hl : ∀ p ∈ l, hk p.1) (h : zwu β l vs) : zwu β' l vs :=
 h.mono fun p hp b hb => by rw [hβ _ (hl p hp)]; exact hb
theorem CRep.re {hk : Nat → Prop} {tk : Tok → Prop} (hC : g'.C = g.C) (hπ : g'.π = g.π) (hβ : ∀ i, hk i → g'.β i = g.β i) (hτ : ∀ κ, tk κ → g'.τ κ = g.τ κ ∧ A' κ = A κ) {c : CV} {v : Value} (hok : c.ok hk tk) (hr : CRep g A c v) : CRep g' A' c v := by
 cases c with
 | any => trivial
 | skip => exact hr
 | d x => show DRep g'.C g'.π x v; rw [hC, hπ]; exact hr
 | full els => exact ⟨by rw [hC, hπ]; exact hr.1, hr.2⟩
 | own κ els =>
   obtain ⟨h1, h2⟩ := hτ κ hok
   obtain ⟨hd, sz, n, hA, hl, ht⟩ := hr
   exact ⟨by rw [hC, hπ]; exact hd, sz, n, by rw [h2]; exact hA, hl, by rw [h1]; exact ht⟩
 | mt κ sz n =>
   obtain ⟨h1, h2⟩ := hτ κ hok
   obtain ⟨a, cap, els, q1, q2, hA, q4, q5⟩ := hr
   exact ⟨a, cap, els, q1, q2, by rw [h2]; exact hA, q4, by rw [h1]; exact q5⟩
 | tv κ sz n L =>
   obtain ⟨h1, h2⟩ := hτ κ hok
   obtain ⟨a, cap, els, q1, q2, hA, q4, q5⟩ := hr
   exact ⟨a, cap, els, q1, q2, by rw [h2]; exact hA, q4, by rw [h1]; exact q5⟩
 | ptr id off =>
   obtain ⟨b, hb, e⟩ := hr
   exact ⟨b, by rw [hβ id hok]; exact hb, e⟩
 | eptr e off =>
   obtain ⟨b, o, hv, hc⟩ := hr
   exact ⟨b, o, hv, by rw [hC, hπ]; exact hc⟩
 | mptr κ sz n i off =>
   obtain ⟨h1, h2⟩ := hτ κ hok
   obtain ⟨b, els, q1, hA, q4, q5⟩ := hr
   exact ⟨b, els, q1, by rw [h2]; exact hA, q4, by rw [h1]; exact q5⟩
 | fn f caps =>
   obtain ⟨vs, h1, h2, h3⟩ := hr
   refine ⟨vs, h1, h2, fun k p hk => ?_⟩
   obtain ⟨b, hb, e⟩ := h3 k p hk
   exact ⟨b, by rw [hβ _ (hok p (Zme hk))]; exact hb, e⟩
 | mpr κ =>
   obtain ⟨h1, h2⟩ := hτ κ hok
   obtain ⟨hb, hv, m, hA, hmp⟩ := hr
   exact ⟨hb, by rw [h1]; exact hv, m, by rw [h2]; exact hA, hmp⟩
 | itr κ bi => exact hr
 | sit κ =>
   obtain ⟨h1, h2⟩ := hτ κ hok
   obtain ⟨hb, hv, s, pos, hA⟩ := hr
   exact ⟨hb, by rw [h1]; exact hv, s, pos, by rw [h2]; exact hA⟩
 | vsl id n =>
   obtain ⟨b, hb, e⟩ := hr
   exact ⟨b, by rw [hβ id hok]; exact hb, e⟩
 | bfn f fst caps =>
   obtain ⟨us, vs, e, h1, h2⟩ := hr
   exact ⟨us, vs, e, h1.re hβ hok.1, h2.re hβ hok.2⟩
theorem zq8.re {hk : Nat → Prop} {tk : Tok → Prop} (hC : g'.C = g.C) (hπ : g'.π = g.π) (hβ : ∀ i, hk i → g'.β i = g.β i) (hτ : ∀ κ, tk κ → g'.τ κ = g.τ κ ∧ A' κ = A κ) {cs : List CV} {vs : List Value} (hok : ∀ c ∈ cs, c.ok hk tk) (hr : zq8 g A cs vs) : zq8 g' A' cs vs :=
 ⟨hr.1, fun k c hk => let ⟨v, hv, r⟩ := hr.2 k c hk; ⟨v, hv, CRep.re hC hπ hβ hτ (hok c (Zme hk)) r⟩⟩
theorem PRep.re {hk : Nat → Prop} {tk : Tok → Prop} (hC : g'.C = g.C) (hπ : g'.π = g.π) (hβ : ∀ i, hk i → g'.β i = g.β i) (hτ : ∀ κ, tk κ → g'.τ κ = g.τ κ ∧ A' κ = A κ) {p : PV} {v : Value} (hok : p.oks hk tk) (hr : PRep g A p v) : PRep g' A' p v := by
 have tv : ∀ (x : TV) (u : Value), x.oks hk tk → TRep g A x u → TRep g' A' x u := fun x u hx hu => by
  cases x with
  | c x => exact CRep.re hC hπ hβ hτ hx hu
  | agg cs => obtain ⟨arr, e, r⟩ := hu; exact ⟨arr, e, zq8.re hC hπ hβ hτ hx r⟩
 cases p with
 | c x => exact CRep.re hC hπ hβ hτ hok hr
 | agg cs => obtain ⟨arr, e, r⟩ := hr; exact ⟨arr, e, zq8.re hC hπ hβ hτ hok r⟩
 | tup xs => obtain ⟨arr, e, hs, r⟩ := hr; exact ⟨arr, e, hs, fun k x hk => let ⟨u, hu, t⟩ := r k x hk; ⟨u, hu, tv x u (hok x (Zme hk)) t⟩⟩
def own0 (H : HMap) : Option Own → Option Own
 | some (.var i) => (match H i with
   | none => none
   | some _ => some (.var i))
 | o => o
def own2 (H : HMap) (x y : Option Own) : Option Own :=
 match x with
 | some (.var i) => (match H i with
   | none => some (.var i)
   | some _ => y)
 | _ => y
theorem y0t {f : FuncId} {n : Nat} {args : List PV} {v : PV} (h : zqf P f n H A args v H' A') (hw : Wf H A) (hargs : ∀ x ∈ args, x.oks (fun i => H i ≠ none) (fun κ => A κ ≠ none)) {H2 H2' : HMap} (ext : ∀ id, H id ≠ none → H2 id = H id)
 (e1 : ∀ id, H id = none → H2 id ≠ none → H2' id = H2 id ∧ H' id = none) (e2 : ∀ id, H id ≠ none ∨ H2 id = none → H2' id = H' id) : zqf P f n H2 A args v H2' A' := by
 intro g w vals hm hd hab har
 have habH : Above n H A := fun i hi => by
  obtain ⟨x1, x2⟩ := hab i hi
  refine ⟨?_, x2⟩
  cases hh : H i with
  | none => rfl
  | some cs => rw [ext i (by rw [hh]; simp), hh] at x1; cases x1
 let g0 : Gh := { g with β := fun i => (match H i with | none => none | some _ => g.β i), O := fun b => own0 H (g.O b) }
 have hk : ∀ i, H i ≠ none → g0.β i = g.β i := fun i hi => by
  show (match H i with | none => none | some _ => g.β i) = _
  cases hh : H i with
  | none => exact (hi hh).elim
  | some _ => rfl
 have hk0 : ∀ i, H i = none → g0.β i = none := fun i hi => by
  show (match H i with | none => none | some _ => g.β i) = _
  rw [hi]
 have ov : ∀ b i, g.O b = some (.var i) → H i ≠ none → g0.O b = some (.var i) := fun b i ho hi => by
  show own0 H (g.O b) = _
  rw [ho]
  cases hh : H i with
  | none => exact (hi hh).elim
  | some _ => simp only [own0, hh]
 have ol : ∀ b i, g.O b = some (.var i) → H i = none → g0.O b = none := fun b i ho hi => by
  show own0 H (g.O b) = _
  rw [ho]
  simp only [own0, hi]
 have ot : ∀ b κ, g.O b = some (.tok κ) → g0.O b = some (.tok κ) := fun b κ ho => by
  show own0 H (g.O b) = _
  rw [ho]; rfl
 have on : ∀ b, g.O b = none → g0.O b = none := fun b ho => by
  show own0 H (g.O b) = _
  rw [ho]; rfl
 have os : ∀ b o, g0.O b = some o → g.O b = some o := fun b o ho => by
  cases hb : g.O b with
  | none => rw [on b hb] at ho; cases ho
  | some o' =>
    cases o' with
    | tok κ => rw [ot b κ hb] at ho; exact ho
    | var i =>
      by_cases hi : H i = none
      · rw [ol b i hb hi] at ho; cases ho
      · rw [ov b i hb hi] at ho; exact ho
 have hmH : MRel g0 H A w := by
  refine ⟨hm.com, fun i b' hi => ?_, fun κ ar hA => (hm.tok κ ar hA).frame rfl (fun _ _ _ h => h) rfl (fun b' ho => ⟨ot b' κ ho, rfl, fun _ => rfl⟩), fun b' o ho => hm.own b' o (os b' o ho)⟩
  have hne : H i ≠ none := fun e => by rw [hk0 i e] at hi; cases hi
  rw [hk i hne] at hi
  obtain ⟨ho, hC, cs', vs, e, fz, hH, hh, hu, hr⟩ := hm.var i b' hi
  rw [ext i hne] at hH
  exact ⟨ov b' i ho hne, hC, cs', vs, e, fz, hH, hh, hu, zq8.re (g := g) (g' := g0) (hk := fun i => H i ≠ none) (tk := fun _ => True) rfl rfl hk (fun _ _ => ⟨rfl, rfl⟩) (fun c hc => zwl (fun _ h => h) (fun _ _ => Zti) (hw i cs' c hH hc)) hr⟩
 have hdH : zjk g0 H := hk0
 have harH : zjm g0 A args vals.toList := ⟨har.1, fun k x hx => by
  obtain ⟨u, hu, hr⟩ := har.2 k x hx
  exact ⟨u, hu, PRep.re (g := g) (g' := g0) (hk := fun i => H i ≠ none) (tk := fun κ => A κ ≠ none) rfl rfl hk (fun _ _ => ⟨rfl, rfl⟩) (hargs x (Zme hx)) hr⟩⟩
 refine z14.mono (h g0 w vals hmH hdH habH harH) fun u w' ⟨g', r1, r2, r3, r4⟩ => ?_
 let g2 : Gh := { g' with β := fun i => (match H i with | none => (match g.β i with | some b => some b | none => g'.β i) | some _ => g'.β i), O := fun b => own2 H (g.O b) (g'.O b) }
 have bs : ∀ i, H i ≠ none → g2.β i = g'.β i := fun i hi => by
  show (match H i with | none => (match g.β i with | some b => some b | none => g'.β i) | some _ => g'.β i) = _
  cases hh : H i with
  | none => exact (hi hh).elim
  | some _ => rfl
 have bl : ∀ i b, H i = none → g.β i = some b → g2.β i = some b := fun i b hi hb => by
  show (match H i with | none => (match g.β i with | some b => some b | none => g'.β i) | some _ => g'.β i) = _
  rw [hi, hb]
 have bn : ∀ i, H i = none → g.β i = none → g2.β i = g'.β i := fun i hi hb => by
  show (match H i with | none => (match g.β i with | some b => some b | none => g'.β i) | some _ => g'.β i) = _
  rw [hi, hb]
 have loc : ∀ i b, H i = none → g.β i = some b → H2 i ≠ none ∧ H2' i = H2 i ∧ H' i = none ∧ g'.β i = none := fun i b hi hb => by
  have h2 : H2 i ≠ none := fun e => by rw [hd i e] at hb; cases hb
  obtain ⟨x1, x2⟩ := e1 i hi h2
  exact ⟨h2, x1, x2, r4 i x2⟩
 have pl : ∀ b i, g.O b = some (.var i) → H i = none → g2.O b = some (.var i) ∧ g'.O b = none ∧ b < w.heap.size := fun b i ho hi => by
  have hlt := hm.own b _ ho
  refine ⟨?_, r3.own b hlt (ol b i ho hi), hlt⟩
  show own2 H (g.O b) (g'.O b) = _
  rw [ho]
  simp only [own2, hi]
 have pn : ∀ b, (∀ i, g.O b = some (.var i) → H i ≠ none) → g2.O b = g'.O b := fun b hb => by
  show own2 H (g.O b) (g'.O b) = _
  cases ho : g.O b with
  | none => rfl
  | some o =>
    cases o with
    | tok κ => rfl
    | var i =>
      cases hh : H i with
      | none => exact (hb i ho hh).elim
      | some _ => simp only [own2, hh]
 have ps : ∀ b o, g'.O b = some o → g2.O b = some o := fun b o ho => by
  rw [pn b (fun i h1 h2 => by rw [(pl b i h1 h2).2.1] at ho; cases ho)]
  exact ho
 have hM' : Mono g' A' g2 A' := ⟨fun _ _ _ h => h, fun i b' hi => by
  cases hh : H i with
  | none =>
    cases hb : g.β i with
    | none => rw [bn i hh hb]; exact hi
    | some b => rw [(loc i b hh hb).2.2.2] at hi; cases hi
  | some _ => rw [bs i (by rw [hh]; simp)]; exact hi, fun κ ar h => ⟨ar, h, zkg.refl _ _⟩, fun _ _ h => h⟩
 have hM : Mono g A g2 A' := ⟨fun b' o v hc => r3.mono.C b' o v hc, fun i b' hi => by
  cases hh : H i with
  | none => exact bl i b' hh hi
  | some _ => exact hM'.β i b' (r3.mono.β i b' (by rw [hk i (by rw [hh]; simp)]; exact hi)), r3.mono.τ, r3.mono.π⟩
 refine ⟨g2, PRep.mono hM' r1, ⟨r2.com, fun i b' hi => ?_, fun κ ar hA => (r2.tok κ ar hA).frame rfl (fun _ _ _ h => h) rfl (fun b' ho => ⟨ps b' _ ho, rfl, fun _ => rfl⟩), fun b' o ho => ?_⟩,
  ⟨hM, fun b' hb' ho => r3.frame b' hb' (on b' ho), fun b' hb' ho => ?_, fun b' hb' ho o => r3.old b' hb' (on b' ho) o, r3.size, r3.os, r3.tape, r3.output, r3.np⟩, fun i hi => ?_⟩
 · have rest : g'.β i = some b' → (H i ≠ none ∨ g.β i = none) → g2.O b' = some (.var i) ∧ (∀ o, g2.C b' o = none) ∧ ∃ cs vs e fz, H2' i = some cs ∧ w'.heap[b']? = some (.cells vs e fz) ∧ Unfz vs.size fz ∧ zq8 g2 A' cs vs.toList := fun hi' hor => by
    obtain ⟨ho, hC, cs', vs, e', fz, hH, hh, hu, hr⟩ := r2.var i b' hi'
    refine ⟨ps b' _ ho, hC, cs', vs, e', fz, ?_, hh, hu, hr.mono hM'⟩
    rw [e2 i ?_]
    · exact hH
    · rcases hor with hor | hor
      · exact .inl hor
      · by_cases x : H i = none
        · right
          cases x2 : H2 i with
          | none => rfl
          | some _ => rw [(e1 i x (by rw [x2]; simp)).2] at hH; cases hH
        · exact .inl x
   cases hh : H i with
   | none =>
     cases hb : g.β i with
     | none => exact rest (by rw [← bn i hh hb]; exact hi) (.inr hb)
     | some b =>
       rw [bl i b hh hb] at hi
       have eb : b = b' := Option.some.inj hi
       subst eb
       obtain ⟨x1, x2, x3, x4⟩ := loc i b hh hb
       obtain ⟨hob, hCb, cs, vs0, e0, fz0, hH0, hh0, hu0, hr0⟩ := hm.var i b hb
       obtain ⟨y1, y2, y3⟩ := pl b i hob hh
       have y4 := ol b i hob hh
       exact ⟨y1, fun o => by
        show g'.C b o = none
        rw [r3.old b y3 y4 o]; exact hCb o, cs, vs0, e0, fz0, by rw [x2]; exact hH0, by rw [r3.frame b y3 y4]; exact hh0, hu0, hr0.mono hM⟩
   | some _ => exact rest (by rw [← bs i (by rw [hh]; simp)]; exact hi) (.inl (by rw [hh]; simp))
 · cases ho' : g'.O b' with
   | some o' => exact r2.own b' o' ho'
   | none =>
     cases hb : g.O b' with
     | some o' => exact Nat.lt_of_lt_of_le (hm.own b' o' hb) r3.size
     | none =>
       rw [pn b' (fun i h1 => by rw [hb] at h1; cases h1), ho'] at ho
       cases ho
 · rw [pn b' (fun i h1 => by rw [ho] at h1; cases h1)]
   exact r3.own b' hb' (on b' ho)
 · cases hh : H i with
   | none =>
     cases hb : g.β i with
     | some b =>
       obtain ⟨x1, x2, _⟩ := loc i b hh hb
       rw [x2] at hi
       exact (x1 hi).elim
     | none =>
       rw [bn i hh hb]
       cases x2 : H2 i with
       | some _ => rw [(e1 i hh (by rw [x2]; simp)).1, x2] at hi; cases hi
       | none => exact r4 i (by rw [← e2 i (.inr x2)]; exact hi)
   | some _ =>
     rw [bs i (by rw [hh]; simp)]
     exact r4 i (by rw [← e2 i (.inl (by rw [hh]; simp))]; exact hi)
def yx4 (A : AMap) : Option Own → Option Own
 | some (.tok κ) => (match A κ with
   | none => none
   | some _ => some (.tok κ))
 | o => o
def y10 (A : AMap) (x y : Option Own) : Option Own :=
 match x with
 | some (.tok κ) => (match A κ with
   | none => some (.tok κ)
   | some _ => y)
 | _ => y
open Classical in
theorem y3o {f : FuncId} {n : Nat} {args : List PV} {v : PV} (h : zqf P f n H A args v H' A') (hw : Wf H A) (hargs : ∀ x ∈ args, x.oks (fun i => H i ≠ none) (fun κ => A κ ≠ none)) {A2 A2' : AMap} (ext : ∀ κ, A κ ≠ none → A2 κ = A κ)
 (e1 : ∀ κ, A κ = none → A2 κ ≠ none → A2' κ = A2 κ ∧ A' κ = none) (e2 : ∀ κ, A κ ≠ none ∨ A2 κ = none → A2' κ = A' κ) : zqf P f n H A2 args v H' A2' := by
 intro g w vals hm hd hab har
 have habA : Above n H A := fun i hi => by
  obtain ⟨x1, x2⟩ := hab i hi
  refine ⟨x1, fun k => ?_⟩
  cases hh : A (i, k) with
  | none => rfl
  | some ar => have := x2 k; rw [ext (i, k) (by rw [hh]; simp), hh] at this; cases this
 let g0 : Gh := { g with O := fun b => yx4 A (g.O b) }
 have ov : ∀ b i, g.O b = some (.var i) → g0.O b = some (.var i) := fun b i ho => by
  show yx4 A (g.O b) = _
  rw [ho]; rfl
 have ot : ∀ b κ, g.O b = some (.tok κ) → A κ ≠ none → g0.O b = some (.tok κ) := fun b κ ho hi => by
  show yx4 A (g.O b) = _
  rw [ho]
  cases hh : A κ with
  | none => exact (hi hh).elim
  | some _ => simp only [yx4, hh]
 have ol : ∀ b κ, g.O b = some (.tok κ) → A κ = none → g0.O b = none := fun b κ ho hi => by
  show yx4 A (g.O b) = _
  rw [ho]
  simp only [yx4, hi]
 have on : ∀ b, g.O b = none → g0.O b = none := fun b ho => by
  show yx4 A (g.O b) = _
  rw [ho]; rfl
 have os : ∀ b o, g0.O b = some o → g.O b = some o := fun b o ho => by
  cases hb : g.O b with
  | none => rw [on b hb] at ho; cases ho
  | some o' =>
    cases o' with
    | var i => rw [ov b i hb] at ho; exact ho
    | tok κ =>
      by_cases hi : A κ = none
      · rw [ol b κ hb hi] at ho; cases ho
      · rw [ot b κ hb hi] at ho; exact ho
 have re : ∀ κ, A κ ≠ none → g0.τ κ = g.τ κ ∧ A κ = A2 κ := fun κ hk => ⟨rfl, (ext κ hk).symm⟩
 have hmH : MRel g0 H A w := by
  refine ⟨hm.com, fun i b' hi => ?_, fun κ ar hA => ?_, fun b' o ho => hm.own b' o (os b' o ho)⟩
  · obtain ⟨ho, hC, cs', vs, e, fz, hH, hh, hu, hr⟩ := hm.var i b' hi
    exact ⟨ov b' i ho, hC, cs', vs, e, fz, hH, hh, hu, zq8.re (g := g) (g' := g0) (hk := fun _ => True) (tk := fun κ => A κ ≠ none) rfl rfl (fun _ _ => rfl) re (fun c hc => zwl (fun _ _ => Zti) (fun _ h => h) (hw i cs' c hH hc)) hr⟩
  · have hne : A κ ≠ none := by rw [hA]; simp
    exact (hm.tok κ ar (by rw [ext κ hne]; exact hA)).frame rfl (fun _ _ _ h => h) rfl (fun b' ho => ⟨ot b' κ ho hne, rfl, fun _ => rfl⟩)
 have harH : zjm g0 A args vals.toList := ⟨har.1, fun k x hx => by
  obtain ⟨u, hu, hr⟩ := har.2 k x hx
  exact ⟨u, hu, PRep.re (g := g) (g' := g0) (hk := fun i => H i ≠ none) (tk := fun κ => A κ ≠ none) rfl rfl (fun _ _ => rfl) re (hargs x (Zme hx)) hr⟩⟩
 refine z14.mono (h g0 w vals hmH hd habA harH) fun u w' ⟨g', r1, r2, r3, r4⟩ => ?_
 let g2 : Gh := { g' with τ := fun κ => if A κ = none ∧ A2 κ ≠ none then g.τ κ else g'.τ κ, O := fun b => y10 A (g.O b) (g'.O b) }
 have tl : ∀ κ, A κ = none → A2 κ ≠ none → g2.τ κ = g.τ κ := fun κ h1 h2 => if_pos ⟨h1, h2⟩
 have ts : ∀ κ, (A κ ≠ none ∨ A2 κ = none) → g2.τ κ = g'.τ κ := fun κ h => if_neg fun ⟨h1, h2⟩ => h.elim (fun x => x h1) (fun x => h2 x)
 have loc : ∀ κ, A κ = none → A2 κ ≠ none → A2' κ = A2 κ ∧ A' κ = none := e1
 have pl : ∀ b κ, g.O b = some (.tok κ) → A κ = none → g2.O b = some (.tok κ) ∧ g'.O b = none ∧ b < w.heap.size := fun b κ ho hi => by
  have hlt := hm.own b _ ho
  refine ⟨?_, r3.own b hlt (ol b κ ho hi), hlt⟩
  show y10 A (g.O b) (g'.O b) = _
  rw [ho]
  simp only [y10, hi]
 have pn : ∀ b, (∀ κ, g.O b = some (.tok κ) → A κ ≠ none) → g2.O b = g'.O b := fun b hb => by
  show y10 A (g.O b) (g'.O b) = _
  cases ho : g.O b with
  | none => rfl
  | some o =>
    cases o with
    | var i => rfl
    | tok κ =>
      cases hh : A κ with
      | none => exact (hb κ ho hh).elim
      | some _ => simp only [y10, hh]
 have ps : ∀ b o, g'.O b = some o → g2.O b = some o := fun b o ho => by
  rw [pn b (fun i h1 h2 => by rw [(pl b i h1 h2).2.1] at ho; cases ho)]
  exact ho
 have dec : ∀ κ, (A κ = none ∧ A2 κ ≠ none) ∨ (A κ ≠ none ∨ A2 κ = none) := fun κ => by
  by_cases h1 : A κ = none
  · by_cases h2 : A2 κ = none
    · exact .inr (.inr h2)
    · exact .inl ⟨h1, h2⟩
  · exact .inr (.inl h1)
 have hloc : ∀ κ, A κ = none → g'.π = g.π ∨ κ ≠ (0, 0) := fun κ hk => by
  by_cases hn : z15 A
  · exact .inl (r3.np hn).1
  · refine .inr fun e => ?_
    subst e
    refine hn fun κ0 n0 e0 => ?_
    have := (hmH.tok κ0 _ e0).1
    rw [this, hk] at e0
    cases e0
 have hM' : Mono g' A' g2 A2' := ⟨fun _ _ _ h => h, fun _ _ h => h, fun κ ar hA => by
  rcases dec κ with ⟨h1, h2⟩ | hor
  · rw [(loc κ h1 h2).2] at hA; cases hA
  · exact ⟨ar, by rw [e2 κ hor]; exact hA, by rw [ts κ hor]; exact zkg.refl _ _⟩, fun _ _ h => h⟩
 have hMτ : ∀ κ ar, A2 κ = some ar → ∃ ar', A2' κ = some ar' ∧ zkg ar (g.τ κ) ar' (g2.τ κ) := fun κ ar hA => by
  rcases dec κ with ⟨h1, h2⟩ | hor
  · exact ⟨ar, by rw [(loc κ h1 h2).1]; exact hA, by rw [tl κ h1 h2]; exact zkg.refl _ _⟩
  · rcases hor with hor | hor
    · obtain ⟨ar', q1, q2⟩ := r3.mono.τ κ ar (by rw [← ext κ hor]; exact hA)
      exact ⟨ar', by rw [e2 κ (.inl hor)]; exact q1, by rw [ts κ (.inl hor)]; exact q2⟩
    · rw [hor] at hA; cases hA
 have hM : Mono g A2 g2 A2' := ⟨fun b' o v hc => r3.mono.C b' o v hc, fun i b' hi => r3.mono.β i b' hi, hMτ, r3.mono.π⟩
 refine ⟨g2, PRep.mono hM' r1, ⟨r2.com, fun i b' hi => ?_, fun κ ar hA => ?_, fun b' o ho => ?_⟩,
  ⟨hM, fun b' hb' ho => r3.frame b' hb' (on b' ho), fun b' hb' ho => ?_, fun b' hb' ho o => r3.old b' hb' (on b' ho) o, r3.size, r3.os, r3.tape, r3.output, fun hn => by
    have hnA : z15 A := fun κ n e => hn κ n (by rw [ext κ (by rw [e]; simp)]; exact e)
    refine ⟨(r3.np hnA).1, fun κ n e => ?_⟩
    rcases dec κ with ⟨h1, h2⟩ | hor
    · rw [(loc κ h1 h2).1] at e; exact hn κ n e
    · rw [e2 κ hor] at e; exact (r3.np hnA).2 κ n e⟩, r4⟩
 · obtain ⟨ho, hC, cs', vs, e', fz, hH, hh, hu, hr⟩ := r2.var i b' hi
   exact ⟨ps b' _ ho, hC, cs', vs, e', fz, hH, hh, hu, hr.mono hM'⟩
 · rcases dec κ with ⟨h1, h2⟩ | hor
   · rw [(loc κ h1 h2).1] at hA
     exact zqa.frameP (tl κ h1 h2) (fun b o v hc => r3.mono.C b o v hc) r3.mono.π (hloc κ h1) (fun b ho => by
      obtain ⟨y1, y2, y3⟩ := pl b κ ho h1
      have y4 := ol b κ ho h1
      exact ⟨y1, r3.frame b y3 y4, fun o => r3.old b y3 y4 o⟩) (hm.tok κ ar hA)
   · rw [e2 κ hor] at hA
     exact (r2.tok κ ar hA).frame (ts κ hor) (fun _ _ _ h => h) rfl (fun b ho => ⟨ps b _ ho, rfl, fun _ => rfl⟩)
 · cases ho' : g'.O b' with
   | some o' => exact r2.own b' o' ho'
   | none =>
     cases hb : g.O b' with
     | some o' => exact Nat.lt_of_lt_of_le (hm.own b' o' hb) r3.size
     | none =>
       rw [pn b' (fun i h1 => by rw [hb] at h1; cases h1), ho'] at ho
       cases ho
 · rw [pn b' (fun i h1 => by rw [ho] at h1; cases h1)]
   exact r3.own b' hb' (on b' ho)
theorem y21 {E : Env} {fb : Option (List Nat)} {l1 l2 L : List Oper} {S : St} {K : St → Prop} (hL : l1 ++ l2 = L) (h : Todo (RunV E fb L.toArray L S K)) : RunV E fb (List.append l1 l2).toArray (List.append l1 l2) S K := by
 subst hL; exact h
end Go.PW
namespace Go.Proofs
open Go.PW
structure Val where
 kind : Int
 num : Int
 bits : Int
 str : ByteArray
abbrev Row := List Val
structure Piece where
 lo : Int
 hi : Int
 row : Row
def Val.enc (v : Val) : List D := [.lit (.int .i64 v.kind), .lit (.int .i64 v.num), .lit (.int .u64 v.bits), .lit (.string v.str)]
def zz4 (r : Row) : D := .sl (r.map Val.enc)
def Piece.enc (p : Piece) : List D := [.lit (.int .i64 p.lo), .lit (.int .i64 p.hi), zz4 p.row]
def zzk (ps : List Piece) : D := .sl (ps.map Piece.enc)
def zqj (a b : Int) : List D := [.lit (.int .i64 a), .lit (.int .i64 b)]
attribute [go_sem] Val.enc zz4 Piece.enc zzk zqj
def dB (b : Bool) : RT := .d (.lit (.bool b))
def pA (x : List D) : PV := .agg (x.map .d)
def pD (x : D) : PV := .c (.d x)
@[go_sem] theorem xvg (x : List D) : pA x = .agg (x.map .d) := rfl
@[go_sem] theorem xvh (x : D) : pD x = .c (.d x) := rfl
@[go_sem] theorem xk4 (b : Bool) : dB b = .d (.lit (.bool b)) := rfl
def dS (l : List UInt8) : D := .lit (.string ⟨l.toArray⟩)
def dI (n : Int) : D := .lit (.int .i64 n)
@[go_sem] theorem xk6 (l : List UInt8) : dS l = .lit (.string ⟨l.toArray⟩) := rfl
@[go_sem] theorem xk5 (n : Int) : dI n = .lit (.int .i64 n) := rfl
section eqs
variable {a b c a' b' c' : Int} {s s' : ByteArray}
@[go_sem] theorem Tryz.eqVal : binS Tryz.prog .eql 28 (.agg [.d (.lit (.int .i64 a)), .d (.lit (.int .i64 b)), .d (.lit (.int .u64 c)), .d (.lit (.string s))]) (.agg [.d (.lit (.int .i64 a')), .d (.lit (.int .i64 b')), .d (.lit (.int .u64 c')), .d (.lit (.string s'))]) =
 some (lit (.bool ((a == a') && ((b == b') && ((c == c') && ((s.toList == s'.toList) && true)))))) := by kernel_rfl
@[go_sem] theorem Tryz.neVal : binS Tryz.prog .neq 28 (.agg [.d (.lit (.int .i64 a)), .d (.lit (.int .i64 b)), .d (.lit (.int .u64 c)), .d (.lit (.string s))]) (.agg [.d (.lit (.int .i64 a')), .d (.lit (.int .i64 b')), .d (.lit (.int .u64 c')), .d (.lit (.string s'))]) =
 some (lit (.bool (!((a == a') && ((b == b') && ((c == c') && ((s.toList == s'.toList) && true))))))) := by kernel_rfl
@[go_sem] theorem Tryz.eqSpan : binS Tryz.prog .eql 37 (.agg [.d (.lit (.int .i64 a)), .d (.lit (.int .i64 b))]) (.agg [.d (.lit (.int .i64 a')), .d (.lit (.int .i64 b'))]) =
 some (lit (.bool ((a == a') && ((b == b') && true)))) := by kernel_rfl
@[go_sem] theorem Tryz.neSpan : binS Tryz.prog .neq 37 (.agg [.d (.lit (.int .i64 a)), .d (.lit (.int .i64 b))]) (.agg [.d (.lit (.int .i64 a')), .d (.lit (.int .i64 b'))]) =
 some (lit (.bool (!((a == a') && ((b == b') && true))))) := by kernel_rfl
end eqs
theorem Tryz.appVals : AppT Tryz.prog 29 28 4 40 := ⟨Tryz.underlying29, Tryz.cl28, Tryz.by28, Tryz.zo28, by decide, by decide⟩
theorem Tryz.appPieces : AppT Tryz.prog 30 62 3 40 := ⟨Tryz.underlying30, Tryz.cl62, Tryz.by62, Tryz.zo62, by decide, by decide⟩
theorem Tryz.appSpans : AppT Tryz.prog 82 37 2 16 := ⟨Tryz.underlying82, Tryz.cl37, Tryz.by37, Tryz.zo37, by decide, by decide⟩
theorem zqm (ps : List Piece) : Szd 3 (ps.map Piece.enc) := fun e he => by
 obtain ⟨p, _, rfl⟩ := List.mem_map.1 he
 rfl
theorem yq3 (r : Row) : Szd 4 (r.map Val.enc) := fun e he => by
 obtain ⟨p, _, rfl⟩ := List.mem_map.1 he
 rfl
theorem zzw {α : Type} {l : List α} {i : Nat} {x : α} (h : l[i]? = some x) : l.take (i + 1) = l.take i ++ [x] := by rw [List.take_add_one, h]; rfl
theorem Tryz.mixed : Tryz.prog.follows .mixedOrders = true := by kernel_rfl
theorem Tryz.pure {f : FuncId} {fn : Func} {c : Code} {md : List Nat} (hf : Tryz.prog.funcs[f]? = some fn) (hb : fn.body = some c) (hext : ∀ (args : Array Value) (w : World), (callFunc f args).run Tryz.prog w = .ok (.enter f args) w)
 (hc : zkh (envOf Tryz.prog [] 0 md []) fn.ntmps c = true) {args : List PV} (hcl : args.all PV.closed = true) (hn : args.length ≤ fn.ntmps) {r : RV}
 (h : VC (envOf Tryz.prog [] 0 md []) noH noA c ⟨Ret Tryz.prog fn r, Ret Tryz.prog fn r, fun _ _ => False⟩ ⟨entry args, noH, noA⟩) : zzr Tryz.prog f args r :=
 zvs (zzx Tryz.mixed) hf hb hext hc hcl hn h
end Go.Proofs
namespace Go.Proofs
open Go.PW
def Span.right (a b : Int) : Bool := decide (0 ≤ a) && decide (a < b) && decide (b ≤ 1099511627776)
def Span.has (a b n : Int) : Bool := Span.right a b && decide (a ≤ n) && decide (n < b)
set_option maxRecDepth 8000 in
theorem Tryz.spanRight (a b : Int) : zzr Tryz.prog 31 [pA (zqj a b)] (.one (dB (Span.right a b))) := by
 refine Tryz.pure (md := []) Tryz.func31 rfl Tryz.call31 (by kernel_rfl) (by rfl) (by exact Zle rfl) ?_
 refine vSq fun K hK => z0a ?_
 simp only [go_sem]
 refine hK _ ?_; clear hK K
 refine vSq fun K hK => z0a ?_
 simp +decide only [go_sem]
 repeat' (refine zw7 (fun h => ?_) (fun h => ?_) <;> simp +decide only [go_sem, h])
 all_goals (refine hK _ ?_; clear hK K; refine zzs rfl ?_; simp +decide only [go_sem, Span.right, *])
set_option maxRecDepth 8000 in
theorem Tryz.spanHas (a b n : Int) : zzr Tryz.prog 84 [pA (zqj a b), pD (.lit (.int .i64 n))] (.one (dB (Span.has a b n))) := by
 refine Tryz.pure (md := []) Tryz.func84 rfl Tryz.call84 (by kernel_rfl) (by rfl) (by exact Zle rfl) ?_
 refine vSq fun K hK => z0a ?_
 simp +decide only [go_sem]
 refine hK _ ?_; clear hK K
 refine vSq fun K hK => z0a ?_
 simp +decide only [go_sem]
 refine yzb (Tryz.spanRight a b) rfl rfl (fun _ => rfl) ?_
 simp +decide only [go_sem]
 repeat' (refine zw7 (fun h => ?_) (fun h => ?_) <;> simp +decide only [go_sem, h])
 all_goals (refine hK _ ?_; clear hK K; refine zzs rfl ?_; simp +decide only [go_sem, Span.has, *])
theorem y75 {P : Program} {f : FuncId} {fn : Func} {e : Array Value → Sem Value} (hf : P.funcs[f]? = some fn) (hb : fn.body = none) (hn : (fn.name == "runtime.NumGoroutine") = false) (h0 : Extern.findNext fn = none) (h1 : Extern.find fn = some e)
 (vals : Array Value) {v : Value} (hv : e vals = .pure v) (w : World) : ∃ w', (callFunc f vals).run P w = .ok (.value v) w' ∧ w'.heap = w.heap ∧ w'.os = w.os ∧ w'.tape = w.tape ∧ w'.output = w.output := by
 unfold callFunc
 simp only [Sem.run_bind, run_program, Result.andThen_ok, hf, hn, hb, h0, h1, Option.isNone_none, if_true, Bool.false_eq_true, if_false, hv]
 exact ⟨_, rfl, rfl, rfl, rfl, rfl⟩
theorem yjz {P : Program} {f : FuncId} {fn : Func} {e : Array Value → Sem Value} (hf : P.funcs[f]? = some fn) (hb : fn.body = none) (hn : (fn.name == "runtime.NumGoroutine") = false) (h0 : Extern.findNext fn = none) (h1 : Extern.find fn = some e)
 {x v : Value} (hv : e #[x] = .pure v) (hv1 : v.oneCell' = true) : zzr P f [pD (.lit x)] (.one (.d (.lit v))) := by
 refine ⟨rfl, fun C π w vals hC har => .inr ?_⟩
 obtain ⟨hl, hr⟩ := har
 obtain ⟨u, hu, hp⟩ := hr 0 _ rfl
 have hp : DRep C π (.lit x) u := hp
 cases hp
 have hvals : vals = #[x] := by
  apply Array.ext'
  match h : vals.toList, hl with
  | [a], _ => rw [h] at hu; simp at hu; rw [hu]
 subst hvals
 obtain ⟨w', h1, h2, h3, h4, h5⟩ := y75 hf hb hn h0 h1 _ hv w
 refine ⟨v, w', h1, zko C π, ?_, ?_, .same h2 h3 h4 h5⟩
 · exact DRep.lit v hv1
 · exact MRel.same ⟨hC, fun id b hb => (by cases hb), fun κ ar hA => (by cases hA), fun b o ho => (by cases ho)⟩ h2
theorem Tryz.kFrombits (n : Int) : zzr Tryz.prog 78 [pD (.lit (.int .u64 n))] (.one (.d (.lit (.float .f64 n.toNat)))) :=
 yjz Tryz.func78 rfl (by kernel_rfl) (by kernel_rfl) (e := Extern.MathFloatBits.float64frombits) (by kernel_rfl) rfl rfl
theorem Tryz.kBits (n : Nat) : zzr Tryz.prog 106 [pD (.lit (.float .f64 n))] (.one (.d (.lit (.int .u64 n)))) :=
 yjz Tryz.func106 rfl (by kernel_rfl) (by kernel_rfl) (e := Extern.MathFloatBits.float64bits) (by kernel_rfl) rfl rfl
def y30 (b : Nat) : Bool := FloatKind.f64.format.order b b != some .eq
def yzc (b : Nat) : Int := if y30 b then 9221120237041090560 else if FloatKind.f64.format.order b 0 == some .eq then 0 else b
theorem Tryz.kIsNaN (b : Nat) : zzr Tryz.prog 105 [pD (.lit (.float .f64 b))] (.one (dB (y30 b))) := by
 refine Tryz.pure (md := []) Tryz.func105 rfl Tryz.call105 (by kernel_rfl) (by rfl) (by exact Zle rfl) ?_
 repeat' (first|(with_reducible first|refine vSq fun K hK=>?_|apply vRg|apply vBl|apply vSc|apply vIf|apply vSk|apply vEx|apply vRt|((first|refine gNt ?_ ?_|refine gCs ?_ ?_)<;>(intro h;try simp only[h]))|((first|refine hK _ ?_|(clear hK K;first|refine hK _ ?_|(clear hK K;first|refine hK _ ?_|(clear hK K;refine hK _ ?_))));clear hK K)|(refine todo ?_;simp +decide only[go_sem])))
 refine zzs rfl ?_
 simp +decide only [go_sem, y30]
theorem Tryz.kCanonical (b : Nat) : zzr Tryz.prog 77 [pD (.lit (.float .f64 b))] (.one (.d (.lit (.int .u64 (yzc b))))) := by
 refine Tryz.pure (md := []) Tryz.func77 rfl Tryz.call77 (by kernel_rfl) (by rfl) (by exact Zle rfl) ?_
 repeat' (first|(with_reducible first|refine vSq fun K hK=>?_|apply vRg|apply vBl|apply vSc|apply vIf|apply vSk|apply vEx|apply vRt|((first|refine gNt ?_ ?_|refine gCs ?_ ?_)<;>(intro h;try simp only[h]))|((first|refine hK _ ?_|(clear hK K;first|refine hK _ ?_|(clear hK K;first|refine hK _ ?_|(clear hK K;refine hK _ ?_))));clear hK K)|(refine todo ?_;simp +decide only[go_sem]))|refine zzd (Tryz.kIsNaN b) rfl rfl (fun _ => rfl) ?_|refine zzd (Tryz.kBits b) rfl rfl (fun _ => rfl) ?_)
 all_goals (refine zzs rfl ?_; simp +decide only [go_sem, yzc, *])
def Val.same (v w : Val) : Bool := (v.kind == w.kind) && ((v.num == w.num) && ((v.bits == w.bits) && (v.str.toList == w.str.toList)))
def Val.canon (v : Val) : Option Val :=
 if (v.kind == 0) = true then some ⟨v.kind, 0, 0, ⟨#[]⟩⟩
 else if (v.kind == 1) = true then some ⟨v.kind, iAnd .i64 v.num 1, 0, ⟨#[]⟩⟩
 else if (v.kind == 2) = true then some ⟨v.kind, v.num, 0, ⟨#[]⟩⟩
 else if (v.kind == 3) = true then some ⟨v.kind, 0, yzc v.bits.toNat, ⟨#[]⟩⟩
 else if (v.kind == 4) = true then some ⟨v.kind, 0, 0, v.str⟩
 else if (v.kind == 5) = true then some ⟨v.kind, 0, 0, v.str⟩
 else none
def Val.right (v : Val) : Bool :=
 match v.canon with
 | some w => v.same w && decide ((v.str.size : Int) ≤ 4096)
 | none => false
theorem Tryz.kValue (v : Val) : zzr Tryz.prog 46 [pA v.enc] (.one (dB v.right)) := by
 refine Tryz.pure (md := []) Tryz.func46 rfl Tryz.call46 (by kernel_rfl) (by rfl) (by exact Zle rfl) ?_
 repeat' (first|(with_reducible first|refine vSq fun K hK=>?_|apply vRg|apply vBl|apply vSc|apply vIf|apply vSk|apply vEx|apply vRt|((first|refine gNt ?_ ?_|refine gCs ?_ ?_)<;>(intro h;try simp only[h]))|((first|refine hK _ ?_|(clear hK K;first|refine hK _ ?_|(clear hK K;first|refine hK _ ?_|(clear hK K;refine hK _ ?_))));clear hK K)|(refine todo ?_;simp +decide only[go_sem]))|refine zzd (Tryz.kFrombits v.bits) rfl rfl (fun _ => rfl) ?_|refine zzd (Tryz.kCanonical v.bits.toNat) rfl rfl (fun _ => rfl) ?_)
 all_goals (refine zzs rfl ?_; simp +decide only [go_sem, Val.right, Val.canon, Val.same, *])
def zqi (r : Row) : Bool := r.all Val.right
theorem zz8 {α : Type} {f : α → Bool} {l : List α} {i : Nat} {x : α} (h : (l.take i).all f = true) (hx : l[i]? = some x) (hf : f x = true) : (l.take (i + 1)).all f = true := by
 rw [List.take_add_one, hx, List.all_append, h]
 simp [hf]
theorem zqr {α : Type} {f : α → Bool} {l : List α} {i : Nat} {x : α} (hx : l[i]? = some x) (hf : f x = false) : l.all f = false := by
 rw [List.all_eq_false]
 exact ⟨x, Zme hx, by simp [hf]⟩
theorem Tryz.kRow (r : Row) (hr : r.length ≤ 4294967296) : zzr Tryz.prog 32 [pD (zz4 r)] (.one (dB (zqi r))) := by
 refine Tryz.pure (md := []) Tryz.func32 rfl Tryz.call32 (by kernel_rfl) (by rfl) (by exact Zle rfl) ?_
 repeat' (first|(with_reducible first|refine vSq fun K hK=>?_|apply vRg|apply vBl|apply vSc|apply vIf|apply vSk|apply vEx|apply vRt|((first|refine gNt ?_ ?_|refine gCs ?_ ?_)<;>(intro h;try simp only[h]))|((first|refine hK _ ?_|(clear hK K;first|refine hK _ ?_|(clear hK K;first|refine hK _ ?_|(clear hK K;refine hK _ ?_))));clear hK K)|(refine todo ?_;simp +decide only[go_sem])))
 refine zzj r.length (fun i => zqi (r.take i) = true) (fun i => frame [(5, pD (zz4 r)), (6, pD (.lit (.int .i64 r.length))), (7, pD (.lit (.int .i64 i)))] [] []) rfl ?_ ?_
 · exact zzb (by simp +decide only [go_sem]) Zti Zti
 · intro i hi hI
   rcases Nat.lt_or_ge i r.length with hlt | hge
   · have hg := Zge hlt
     have hd := zze hlt
     have hw := zzl hlt hr
     generalize r[i] = v at hg
     repeat' (first|(with_reducible first|refine vSq fun K hK=>?_|apply vRg|apply vBl|apply vSc|apply vIf|apply vSk|apply vEx|apply vRt|((first|refine gNt ?_ ?_|refine gCs ?_ ?_)<;>(intro h;try simp only[h]))|((first|refine hK _ ?_|(clear hK K;first|refine hK _ ?_|(clear hK K;first|refine hK _ ?_|(clear hK K;refine hK _ ?_))));clear hK K)|(refine todo ?_;simp +decide only[go_sem, hg, hd, hw]))|refine zzd (Tryz.kValue v) rfl rfl (fun _ => rfl) ?_)
     · refine zzi hlt (zz8 hI hg h) (zzb ?_ ?_ ?_) <;> simp +decide only [go_sem]
     · refine zzs rfl ?_
       simp +decide only [go_sem, zqr hg h, zqi]
   · have hd := zzf hge
     rw [Ztl hge] at hI
     repeat' (first|(with_reducible first|refine vSq fun K hK=>?_|apply vRg|apply vBl|apply vSc|apply vIf|apply vSk|apply vEx|apply vRt|((first|refine gNt ?_ ?_|refine gCs ?_ ?_)<;>(intro h;try simp only[h]))|((first|refine hK _ ?_|(clear hK K;first|refine hK _ ?_|(clear hK K;first|refine hK _ ?_|(clear hK K;refine hK _ ?_))));clear hK K)|(refine todo ?_;simp +decide only[go_sem, hd])))
     refine zzs rfl ?_
     simp +decide only [go_sem, hI]
def zx6 (a b : Row) : Bool := a.length == b.length && (List.zipWith Val.same a b).all id
theorem yqy {a b : Row} {i : Nat} {x y : Val} (h : (List.zipWith Val.same (a.take i) (b.take i)).all id = true) (hx : a[i]? = some x) (hy : b[i]? = some y) (hf : Val.same x y = true) : (List.zipWith Val.same (a.take (i + 1)) (b.take (i + 1))).all id = true := by
 rw [← List.take_zipWith] at h ⊢
 refine zz8 (x := true) h ?_ rfl
 rw [List.getElem?_zipWith, hx, hy]
 simp [hf]
theorem yks {a b : Row} {i : Nat} {x y : Val} (hx : a[i]? = some x) (hy : b[i]? = some y) (hf : Val.same x y = false) : (List.zipWith Val.same a b).all id = false := by
 refine zqr (i := i) (x := false) ?_ rfl
 rw [List.getElem?_zipWith, hx, hy]
 simp [hf]
theorem Tryz.kSame (a b : Row) (hr : a.length ≤ 4294967296) : zzr Tryz.prog 35 [pD (zz4 a), pD (zz4 b)] (.one (dB (zx6 a b))) := by
 refine Tryz.pure (md := []) Tryz.func35 rfl Tryz.call35 (by kernel_rfl) (by rfl) (by exact Zle rfl) ?_
 repeat' (first|(with_reducible first|refine vSq fun K hK=>?_|apply vRg|apply vBl|apply vSc|apply vIf|apply vSk|apply vEx|apply vRt|((first|refine gNt ?_ ?_|refine gCs ?_ ?_)<;>(intro h;try simp only[h]))|((first|refine hK _ ?_|(clear hK K;first|refine hK _ ?_|(clear hK K;first|refine hK _ ?_|(clear hK K;refine hK _ ?_))));clear hK K)|(refine todo ?_;simp +decide only[go_sem])))
 · refine zzs rfl ?_
   have hne : (a.length == b.length) = false := by
    rw [beq_eq_false_iff_ne]; intro e; rw [e] at h; simp at h
   simp +decide only [go_sem, zx6, hne]
 · have hlen : a.length = b.length := by
    have e : ((a.length : Int) == (b.length : Int)) = true := by simpa [bne] using h
    exact Int.ofNat_inj.1 (by simpa using e)
   refine zzj a.length (fun i => (List.zipWith Val.same (a.take i) (b.take i)).all id = true) (fun i => frame [(0, pD (zz4 a)), (1, pD (zz4 b)), (12, pD (.lit (.int .i64 a.length))), (13, pD (.lit (.int .i64 i)))] [] []) rfl ?_ ?_
   · refine zzb ?_ ?_ ?_ <;> simp +decide only [go_sem]
   · intro i hi hI
     rcases Nat.lt_or_ge i a.length with hlt | hge
     · have hg := Zge hlt
       have hg' := Zge (show i < b.length by omega)
       have hd := zze hlt
       have hw := zzl hlt hr
       generalize a[i] = x at hg
       generalize b[i] = y at hg'
       repeat' (first|(with_reducible first|refine vSq fun K hK=>?_|apply vRg|apply vBl|apply vSc|apply vIf|apply vSk|apply vEx|apply vRt|((first|refine gNt ?_ ?_|refine gCs ?_ ?_)<;>(intro h;try simp only[h]))|((first|refine hK _ ?_|(clear hK K;first|refine hK _ ?_|(clear hK K;first|refine hK _ ?_|(clear hK K;refine hK _ ?_))));clear hK K)|(refine todo ?_;simp +decide only[go_sem, hg, hg', hd, hw])))
       · refine zzi hlt (yqy hI hg hg' h) (zzb ?_ ?_ ?_) <;> simp +decide only [go_sem]
       · refine zzs rfl ?_
         simp +decide only [go_sem, zx6, yks hg hg' h]
     · have hd := zzf hge
       rw [Ztl hge, Ztl (show b.length ≤ i by omega)] at hI
       repeat' (first|(with_reducible first|refine vSq fun K hK=>?_|apply vRg|apply vBl|apply vSc|apply vIf|apply vSk|apply vEx|apply vRt|((first|refine gNt ?_ ?_|refine gCs ?_ ?_)<;>(intro h;try simp only[h]))|((first|refine hK _ ?_|(clear hK K;first|refine hK _ ?_|(clear hK K;first|refine hK _ ?_|(clear hK K;refine hK _ ?_))));clear hK K)|(refine todo ?_;simp +decide only[go_sem, hd])))
       refine zzs rfl ?_
       simp +decide only [go_sem, zx6, hI, hlen]
theorem Tryz.kOwn (ps : List Piece) (hn : ps.length ≤ 1048576) (hr : ∀ p ∈ ps, p.row.length ≤ 1048576) : zzr Tryz.prog 33 [pD (zzk ps)] (.one (.own 3 (ps.map Piece.enc))) := by
 refine Tryz.pure (md := []) Tryz.func33 rfl Tryz.call33 (by kernel_rfl) (by rfl) (by exact Zle rfl) ?_
 repeat' (first|(with_reducible first|refine vSq fun K hK=>?_|apply vRg|apply vBl|apply vSc|apply vIf|apply vSk|apply vEx|apply vRt|((first|refine gNt ?_ ?_|refine gCs ?_ ?_)<;>(intro h;try simp only[h]))|((first|refine hK _ ?_|(clear hK K;first|refine hK _ ?_|(clear hK K;first|refine hK _ ?_|(clear hK K;refine hK _ ?_))));clear hK K)|(refine todo ?_;simp +decide only[go_sem])))
 refine zzj ps.length (fun _ => True) (fun i => frame [(6, pD (zzk ps)), (7, pD (.lit (.int .i64 ps.length))), (8, pD (.lit (.int .i64 i))), (3, .c (.own (3, 0) ((ps.take i).map Piece.enc)))] [] [((3, 0), .co 3 (ps.take i).length)]) Zti ?_ ?_
 · refine zzb ?_ ?_ ?_ <;> simp +decide only [go_sem]
   exact zju rfl rfl
 · intro i hi hI
   rcases Nat.lt_or_ge i ps.length with hlt | hge
   · have hg := Zge hlt
     have hd := zze hlt
     have hw := zzl hlt (show ps.length ≤ 4294967296 by omega)
     generalize ps[i] = x at hg
     have hx := hr x (Zme hg)
     have htk := zzw hg
     have hl : (ps.take i).length = i := by rw [List.length_take]; omega
     repeat' (first|(with_reducible first|refine vSq fun K hK=>?_|apply vRg|apply vBl|apply vSc|apply vIf|apply vSk|apply vEx|apply vRt|((first|refine gNt ?_ ?_|refine gCs ?_ ?_)<;>(intro h;try simp only[h]))|((first|refine hK _ ?_|(clear hK K;first|refine hK _ ?_|(clear hK K;first|refine hK _ ?_|(clear hK K;refine hK _ ?_))));clear hK K)|(refine todo ?_;simp +decide only[go_sem, hg, hd, hw]))|(refine zx2 Tryz.appVals rfl rfl zvw (yq3 _) (by simp; omega) rfl ?_)|(refine zx1 Tryz.appPieces rfl (zqm _) (zqk rfl) (by simp; omega) (by simp; rfl) ?_))
     refine zzi hlt Zti (zzb ?_ ?_ ?_) <;> simp +decide only [go_sem, htk]
     exact zqb (by simp [aOf]) rfl
   · have hd := zzf hge
     rw [Ztl hge]
     repeat' (first|(with_reducible first|refine vSq fun K hK=>?_|apply vRg|apply vBl|apply vSc|apply vIf|apply vSk|apply vEx|apply vRt|((first|refine gNt ?_ ?_|refine gCs ?_ ?_)<;>(intro h;try simp only[h]))|((first|refine hK _ ?_|(clear hK K;first|refine hK _ ?_|(clear hK K;first|refine hK _ ?_|(clear hK K;refine hK _ ?_))));clear hK K)|(refine todo ?_;simp +decide only[go_sem, hd])))
     exact zwe (3, 0) rfl rfl (by simp; rfl)
end Go.Proofs
