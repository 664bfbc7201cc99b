/-
  Parts of the proof, laid together: PwQa, PwSa.
-/
import Derived.Test.YtemecklglapleaaGreatQ15
import Derived.Test.YtemecklglapleaaGreatQ16

namespace Go.PW
variable {P : Program} {g : Gh} {H : HMap} {A : AMap} {w : World}
def CV.im (f : Nat → Nat) (h : Tok → Tok) : CV → CV
 | .own κ els => .own (h κ) els
 | .mt κ sz n => .mt (h κ) sz n
 | .tv κ sz n L => .tv (h κ) sz n L
 | .ptr id off => .ptr (f id) off
 | .mptr κ sz n i off => .mptr (h κ) sz n i off
 | .fn k caps => .fn k (caps.map fun p => (f p.1, p.2))
 | .mpr κ => .mpr (h κ)
 | .itr κ bi => .itr (h κ) bi
 | .sit κ => .sit (h κ)
 | .vsl id n => .vsl (f id) n
 | .bfn k fst caps => .bfn k (fst.map fun p => (f p.1, p.2)) (caps.map fun p => (f p.1, p.2))
 | c => c
def TV.im (f : Nat → Nat) (h : Tok → Tok) : TV → TV
 | .c x => .c (x.im f h)
 | .agg cs => .agg (cs.map (CV.im f h))
def PV.im (f : Nat → Nat) (h : Tok → Tok) : PV → PV
 | .c x => .c (x.im f h)
 | .agg cs => .agg (cs.map (CV.im f h))
 | .tup xs => .tup (xs.map (TV.im f h))
def TV.oks (hk : Nat → Prop) (tk : Tok → Prop) : TV → Prop
 | .c x => x.ok hk tk
 | .agg cs => ∀ c ∈ cs, c.ok hk tk
def PV.oks (hk : Nat → Prop) (tk : Tok → Prop) : PV → Prop
 | .c x => x.ok hk tk
 | .agg cs => ∀ c ∈ cs, c.ok hk tk
 | .tup xs => ∀ x ∈ xs, x.oks hk tk
structure Ren (H0 : HMap) (A0 : AMap) (H : HMap) (A : AMap) (H' : HMap) (A' : AMap) (f : Nat → Nat) (h : Tok → Tok) : Prop where
 kH : ∀ id, H0 id ≠ none → f id = id ∧ H' id ≠ none
 kA : ∀ κ, A0 κ ≠ none → h κ = κ ∧ A' κ ≠ none
 iH : ∀ i j, H' i ≠ none → H' j ≠ none → f i = f j → i = j
 iA : ∀ i j, A' i ≠ none → A' j ≠ none → h i = h j → i = j
 H : ∀ id cs, H' id = some cs → H (f id) = some (cs.map (CV.im f h)) ∧ ∀ c ∈ cs, c.ok (fun i => H' i ≠ none) (fun κ => A' κ ≠ none)
 A : ∀ κ ar, A' κ = some ar → A (h κ) = some ar
open Classical in
noncomputable def Gh.ren (g : Gh) (H' : HMap) (A' : AMap) (f : Nat → Nat) (h : Tok → Tok) : Gh where
 C := g.C
 π := g.π
 β := fun id => match H' id with
   | none => none
   | some _ => g.β (f id)
 τ := fun κ => g.τ (h κ)
 O := fun b => match g.O b with
   | none => none
   | some (.var i) => if hx : ∃ id, H' id ≠ none ∧ f id = i then some (.var hx.choose) else none
   | some (.tok κ) => if hx : ∃ k, A' k ≠ none ∧ h k = κ then some (.tok hx.choose) else none
theorem y7z {H0 : HMap} {A0 : AMap} {g0 : Gh} {w0 : World} (hd0 : zjk g0 H0) {H' : HMap} {A' : AMap} {f : Nat → Nat} {h : Tok → Tok} (hr : Ren H0 A0 H A H' A' f h) (hm : MRel g H A w) (he : Evol g0 A0 w0 g A w) :
 ∃ g', MRel g' H' A' w ∧ zjk g' H' ∧ Evol g0 A0 w0 g' A' w ∧ ∀ (p : PV) (v : Value), p.oks (fun i => H' i ≠ none) (fun κ => A' κ ≠ none) → PRep g A (p.im f h) v → PRep g' A' p v := by
 refine ⟨g.ren H' A' f h, ?_⟩
 generalize hg' : g.ren H' A' f h = g'
 have hC : g'.C = g.C := by rw [← hg']; rfl
 have hP : g'.π = g.π := by rw [← hg']; rfl
 have hτ : ∀ κ, g'.τ κ = g.τ (h κ) := fun κ => by rw [← hg']; rfl
 have hβ : ∀ id, H' id ≠ none → g'.β id = g.β (f id) := fun id hid => by
  rw [← hg']
  show (match H' id with | none => none | some _ => g.β (f id)) = _
  cases hh : H' id with
  | none => exact (hid hh).elim
  | some _ => rfl
 have hβ0 : ∀ id, H' id = none → g'.β id = none := fun id hid => by
  rw [← hg']
  show (match H' id with | none => none | some _ => g.β (f id)) = _
  rw [hid]
 have hOv : ∀ b id, g.O b = some (.var (f id)) → H' id ≠ none → g'.O b = some (.var id) := fun b id ho hid => by
  rw [← hg']
  show (match g.O b with | none => none | some (.var i) => _ | some (.tok κ) => _) = _
  rw [ho]
  have hx : ∃ i, H' i ≠ none ∧ f i = f id := ⟨id, hid, rfl⟩
  simp only
  rw [dif_pos hx]
  rw [hr.iH _ _ hx.choose_spec.1 hid hx.choose_spec.2]
 have hOt : ∀ b κ, g.O b = some (.tok (h κ)) → A' κ ≠ none → g'.O b = some (.tok κ) := fun b κ ho hid => by
  rw [← hg']
  show (match g.O b with | none => none | some (.var i) => _ | some (.tok κ) => _) = _
  rw [ho]
  have hx : ∃ i, A' i ≠ none ∧ h i = h κ := ⟨κ, hid, rfl⟩
  simp only
  rw [dif_pos hx]
  rw [hr.iA _ _ hx.choose_spec.1 hid hx.choose_spec.2]
 have hOn : ∀ b, g.O b = none → g'.O b = none := fun b ho => by
  rw [← hg']
  show (match g.O b with | none => none | some (.var i) => _ | some (.tok κ) => _) = _
  rw [ho]
 clear hg'
 have some_of : ∀ κ, A' κ ≠ none → ∃ ar, A' κ = some ar ∧ A (h κ) = some ar := fun κ hk => by
  cases hA : A' κ with
  | none => exact (hk hA).elim
  | some ar => exact ⟨ar, rfl, hr.A κ ar hA⟩
 have hc : ∀ (c : CV) (v : Value), c.ok (fun i => H' i ≠ none) (fun κ => A' κ ≠ none) → CRep g A (c.im f h) v → CRep g' A' c v := by
  intro c v hok hrep
  have hdm : ∀ x u, DRep g.C g.π x u → DRep g'.C g'.π x u := fun x u hd => by rw [hC, hP]; exact hd
  cases c with
  | any => trivial
  | skip => exact hrep
  | d x => exact hdm _ _ hrep
  | full els => exact ⟨hdm _ _ hrep.1, hrep.2⟩
  | own κ els =>
    obtain ⟨hd, sz, n, hA, hl, ht⟩ := hrep
    obtain ⟨ar, e1, e2⟩ := some_of κ hok
    rw [hA] at e2
    cases e2
    exact ⟨hdm _ _ hd, sz, n, e1, hl, fun e => by rw [hτ]; exact ht e⟩
  | mt κ sz n =>
    obtain ⟨a, cap, els, h1, h2, hA, h4, h5⟩ := hrep
    obtain ⟨ar, e1, e2⟩ := some_of κ hok
    rw [hA] at e2
    cases e2
    exact ⟨a, cap, els, h1, h2, e1, h4, fun e => by rw [hτ]; exact h5 e⟩
  | tv κ sz n L =>
    obtain ⟨a, cap, els, h1, h2, hA, h4, h5⟩ := hrep
    obtain ⟨ar, e1, e2⟩ := some_of κ hok
    rw [hA] at e2
    cases e2
    exact ⟨a, cap, els, h1, h2, e1, h4, fun e => by rw [hτ]; exact h5 e⟩
  | ptr id off =>
    obtain ⟨b, hb, e⟩ := hrep
    exact ⟨b, by rw [hβ id hok]; exact hb, e⟩
  | eptr e off =>
    obtain ⟨b, o, hv, hcc⟩ := hrep
    exact ⟨b, o, hv, fun k x hk => by rw [hC, hP]; exact hcc k x hk⟩
  | mptr κ sz n i off =>
    obtain ⟨b, els, h1, hA, h4, h5⟩ := hrep
    obtain ⟨ar, e1, e2⟩ := some_of κ hok
    rw [hA] at e2
    cases e2
    exact ⟨b, els, h1, e1, h4, fun e => by rw [hτ]; exact h5 e⟩
  | fn k caps =>
    obtain ⟨vs, h1, h2, h3⟩ := hrep
    refine ⟨vs, h1, by simpa using h2, fun j p hk => ?_⟩
    obtain ⟨b, hb, e⟩ := h3 j (f p.1, p.2) (by simp [hk])
    exact ⟨b, by rw [hβ _ (hok p (Zme hk))]; exact hb, e⟩
  | mpr κ =>
    obtain ⟨hb, hv, m, hA, hmp⟩ := hrep
    obtain ⟨ar, e1, e2⟩ := some_of κ hok
    rw [hA] at e2
    cases e2
    exact ⟨hb, by rw [hτ]; exact hv, m, e1, hmp⟩
  | itr κ bi => exact hrep
  | sit κ =>
    obtain ⟨hb, hv, s, pos, hA⟩ := hrep
    obtain ⟨ar, e1, e2⟩ := some_of κ hok
    rw [hA] at e2
    cases e2
    exact ⟨hb, by rw [hτ]; exact hv, s, pos, e1⟩
  | vsl id n =>
    obtain ⟨b, hb, e⟩ := hrep
    exact ⟨b, by rw [hβ id hok]; exact hb, e⟩
  | bfn k fst caps =>
    obtain ⟨us, vs, e, h1, h2⟩ := hrep
    have back : ∀ (l : List (Nat × Nat)) (vs : Array Value), (∀ p ∈ l, H' p.1 ≠ none) → zwu g.β (l.map fun p => (f p.1, p.2)) vs → zwu g'.β l vs := fun l vs hl hp => by
     refine ⟨by simpa using hp.1, fun j p hk => ?_⟩
     obtain ⟨b, hb, e⟩ := hp.2 j (f p.1, p.2) (by simp [hk])
     exact ⟨b, by rw [hβ _ (hl p (Zme hk))]; exact hb, e⟩
    exact ⟨us, vs, e, back _ _ hok.1 h1, back _ _ hok.2 h2⟩
 have hcs : ∀ (cs : List CV) (vs : List Value), (∀ c ∈ cs, c.ok (fun i => H' i ≠ none) (fun κ => A' κ ≠ none)) → zq8 g A (cs.map (CV.im f h)) vs → zq8 g' A' cs vs := fun cs vs hok hrep => by
  refine ⟨by simpa using hrep.1, fun k c hk => ?_⟩
  obtain ⟨v, hv, hrv⟩ := hrep.2 k (c.im f h) (by simp [hk])
  exact ⟨v, hv, hc c v (hok c (Zme hk)) hrv⟩
 refine ⟨⟨by rw [hC]; exact hm.com, ?_, ?_, ?_⟩, hβ0, ⟨⟨?_, ?_, ?_, by rw [hP]; exact he.mono.π⟩, he.frame, fun b hb ho => hOn b (he.own b hb ho), fun b hb ho o => by rw [hC]; exact he.old b hb ho o, he.size, he.os, he.tape, he.output, fun hn => ⟨hP.trans (he.np hn).1, fun κ n e => (he.np hn).2 _ _ (hr.A κ _ e)⟩⟩, ?_⟩
 · intro id b hb
   have hne : H' id ≠ none := fun e => by rw [hβ0 id e] at hb; cases hb
   rw [hβ id hne] at hb
   obtain ⟨ho, hCb, ds, vs, e, fz, hH, hh, hu, hrep⟩ := hm.var _ b hb
   cases hh' : H' id with
   | none => exact (hne hh').elim
   | some cs =>
     obtain ⟨q1, q2⟩ := hr.H id cs hh'
     rw [q1] at hH
     cases hH
     exact ⟨hOv b id ho hne, fun o => by rw [hC]; exact hCb o, cs, vs, e, fz, rfl, hh, hu, hcs cs _ q2 hrep⟩
 · intro κ ar hA
   have hA0 := hr.A κ ar hA
   have hne : A' κ ≠ none := by rw [hA]; simp
   have ht := hm.tok (h κ) ar hA0
   have mv : ∀ ar, ar.isPr = false → zqa g w (h κ) ar → zqa g' w κ ar := fun ar hp ht => ht.move hp (hτ κ) hC (fun p v e => by rw [hP]; exact e) (fun b ho => hOt b κ ho hne)
   cases ar with
   | pr p ar => exact ⟨mv ar ht.2.2 ht.1, by rw [hP, hτ]; exact ht.2.1, ht.2.2⟩
   | cnt n =>
     refine ⟨?_, fun p hp => by rw [hP]; exact ht.2 p hp⟩
     by_cases hn : z15 A0
     · exact ((he.np hn).2 _ _ hA0).elim
     · have hex : ∃ κ0 n0, A0 κ0 = some (.cnt n0) := by
        refine Classical.byContradiction fun hc => hn fun κ0 n0 e => hc ⟨κ0, n0, e⟩
       obtain ⟨κ0, n0, e0⟩ := hex
       obtain ⟨ar1, e1, e2⟩ := he.mono.τ κ0 _ e0
       cases ar1 <;> first | (exact e2.elim) | skip
       have e3 := (hm.tok κ0 _ e1).1
       subst e3
       obtain ⟨f1, f2⟩ := hr.kA (0, 0) (by rw [e0]; simp)
       exact hr.iA κ (0, 0) hne f2 (ht.1.trans f1.symm)
   | _ => exact mv _ rfl ht
 · intro b o ho
   cases hb : g.O b with
   | none => rw [hOn b hb] at ho; cases ho
   | some o' => exact hm.own b o' hb
 · rw [hC]; exact he.mono.C
 · intro id b hb
   have h1 := he.mono.β id b hb
   obtain ⟨e1, e2⟩ := hr.kH id (fun h0 => by rw [hd0 id h0] at hb; cases hb)
   rw [hβ id e2, e1]
   exact h1
 · intro κ ar hA
   obtain ⟨ar', hA', hle⟩ := he.mono.τ κ ar hA
   obtain ⟨e1, e2⟩ := hr.kA κ (by rw [hA]; simp)
   obtain ⟨ar2, q1, q2⟩ := some_of κ e2
   rw [e1, hA'] at q2
   cases q2
   exact ⟨ar', q1, by rw [hτ, e1]; exact hle⟩
 · have htv : ∀ (x : TV) (u : Value), x.oks (fun i => H' i ≠ none) (fun κ => A' κ ≠ none) → TRep g A (x.im f h) u → TRep g' A' x u := fun x u hok hrep => by
    cases x with
    | c x => exact hc x u hok hrep
    | agg cs => obtain ⟨arr, e, hrr⟩ := hrep; exact ⟨arr, e, hcs cs _ hok hrr⟩
   intro p v hok hrep
   cases p with
   | c x => exact hc x v hok hrep
   | agg cs => obtain ⟨arr, e, hrr⟩ := hrep; exact ⟨arr, e, hcs cs _ hok hrr⟩
   | tup xs =>
     obtain ⟨arr, e, hs, hrr⟩ := hrep
     refine ⟨arr, e, by simpa using hs, fun k x hk => ?_⟩
     obtain ⟨u, hu, ht⟩ := hrr k (x.im f h) (by simp [hk])
     exact ⟨u, hu, htv x u (hok x (Zme hk)) ht⟩
def PV.tv : PV → Option TV
 | .c x => some (.c x)
 | .agg cs => some (.agg cs)
 | .tup _ => none
def y2n : List PV → Option (List TV)
 | [] => some []
 | p :: r => (p.tv).bind fun x => (y2n r).map (x :: ·)
def ywa (P : Program) (S : St) : List ResultVar → Option (List PV)
 | [] => some []
 | v :: r => (zzn P S v).bind fun p => (ywa P S r).map (p :: ·)
def xzc : List PV → Option PV
 | [] => some (.c .any)
 | [p] => some p
 | ps => (y2n ps).map .tup
def zve (P : Program) (S : St) (vs : List ResultVar) : Option PV := (ywa P S vs).bind xzc
theorem ykp (hm : MRel g H A w) {S : St} (hS : S.H = H ∧ S.A = A) {a : Act} (hf : FRep g A S.ρ a) : ∀ {vs : List ResultVar} {ps : List PV}, ywa P S vs = some ps →
 ∃ us, (vs.mapM (z67 a.tmps)).run P w = .ok us w ∧ us.length = ps.length ∧ ∀ (k : Nat) (p : PV) (u : Value), ps[k]? = some p → us[k]? = some u → PRep g A p u
 | [], ps, h => by cases h; exact ⟨[], rfl, rfl, by simp⟩
 | v :: vs, ps, h => by
   obtain ⟨p, hp, h⟩ := Option.bind_eq_some_iff.1 h
   obtain ⟨ps', hps, rfl⟩ := Option.map_eq_some_iff.1 h
   obtain ⟨us, h1, h2, h3⟩ := ykp hm hS hf hps
   obtain ⟨us1, q1, q2⟩ := yko (P := P) hm hS hf (vs := [v]) (p := p) (by show zzn P S v = some p; exact hp)
   have hone : ∃ u, us1 = [u] ∧ (z67 a.tmps v).run P w = .ok u w := by
    rw [List.mapM_cons, Sem.run_bind] at q1
    cases hv : (z67 a.tmps v).run P w with
    | ok u w' =>
      rw [hv] at q1
      simp only [Result.andThen_ok, List.mapM_nil, Sem.run_bind, Sem.run_pure] at q1
      cases q1
      exact ⟨u, rfl, rfl⟩
    | halt e w' => rw [hv] at q1; cases q1
   obtain ⟨u, rfl, hu⟩ := hone
   refine ⟨u :: us, ?_, by simp [h2], fun k p' u' hk hu' => ?_⟩
   · rw [List.mapM_cons, Sem.run_bind, hu, Result.andThen_ok, Sem.run_bind, h1]
     rfl
   · cases k with
     | zero => simp at hk hu'; subst hk hu'; exact q2
     | succ k => exact h3 k p' u' (by simpa using hk) (by simpa using hu')
theorem z8c : ∀ {ps : List PV} {xs : List TV}, y2n ps = some xs → xs.length = ps.length ∧ ∀ (k : Nat) (x : TV), xs[k]? = some x → ps[k]? = some x.pv
 | [], xs, h => by cases h; simp
 | p :: r, xs, h => by
   obtain ⟨x, hx, h⟩ := Option.bind_eq_some_iff.1 h
   obtain ⟨xs', hxs, rfl⟩ := Option.map_eq_some_iff.1 h
   obtain ⟨h1, h2⟩ := z8c hxs
   refine ⟨by simp [h1], fun k y hk => ?_⟩
   cases k with
   | zero =>
     simp at hk
     subst hk
     cases p <;> simp [PV.tv] at hx <;> subst hx <;> rfl
   | succ k => simpa using h2 k y (by simpa using hk)
theorem yqi (hm : MRel g H A w) {S : St} (hS : S.H = H ∧ S.A = A) {a : Act} (hf : FRep g A S.ρ a) {vs : List ResultVar} {p : PV} (h : zve P S vs = some p) :
 ∃ us, (vs.mapM (z67 a.tmps)).run P w = .ok us w ∧ PRep g A p (y1c us) := by
 obtain ⟨ps, hps, h⟩ := Option.bind_eq_some_iff.1 h
 obtain ⟨us, h1, h2, h3⟩ := ykp hm hS hf hps
 refine ⟨us, h1, ?_⟩
 unfold xzc at h
 split at h
 · cases h; trivial
 · cases h
   match us, h2 with
   | [u], _ => exact h3 0 _ u rfl rfl
 · rename_i hn0 hn1
   obtain ⟨xs, hxs, rfl⟩ := Option.map_eq_some_iff.1 h
   obtain ⟨q1, q2⟩ := z8c hxs
   have hj : y1c us = .tuple us.toArray := by
    match us, h2 with
    | [], h2 => exact absurd (List.length_eq_zero_iff.1 h2.symm) hn0
    | [u], h2 =>
      match ps, h2 with
      | [q], _ => exact absurd rfl (hn1 q)
    | _ :: _ :: _, _ => rfl
   rw [hj]
   refine ⟨us.toArray, rfl, by rw [List.size_toArray, h2, q1], fun k x hk => ?_⟩
   have hlt := (List.getElem?_eq_some_iff.1 hk).1
   have hu : us[k]? = some us[k] := Zge (by omega)
   exact ⟨us[k], by simp, zw8.1 (h3 k _ _ (q2 k x hk) hu)⟩
def RetR (P : Program) (fn : Func) (H : HMap) (A : AMap) (v : PV) (H' : HMap) (A' : AMap) (S : St) : Prop :=
 ∃ p S' f h, zve P S fn.results.toList = some p ∧ Weak H A ⟨fun _ => p, S.H, S.A⟩ S' ∧ S'.ρ 0 = v.im f h ∧ v.oks (fun i => H' i ≠ none) (fun κ => A' κ ≠ none) ∧ Ren H A S'.H S'.A H' A' f h
theorem zqh {E : Env} (hE : EnvOK E) {f : FuncId} {fn : Func} {c : Code} (hf : E.P.funcs[f]? = some fn) (hb : fn.body = some c) (hext : ∀ (args : Array Value) (w : World), (callFunc f args).run E.P w = .ok (.enter f args) w)
 (hc : zkh E fn.ntmps c = true) {args : List PV} (hn : args.length ≤ fn.ntmps) {off : Nat} {v : PV} {H' : HMap} {A' : AMap}
 (h : Above off H A → VC E H A c ⟨RetR E.P fn H A v H' A', RetR E.P fn H A v H' A', fun _ _ => False⟩ ⟨entry args, H, A⟩) : zqf E.P f off H A args v H' A' := by
 intro g w vals hm hd hab har
 refine .inl ⟨hext vals w, ?_⟩
 refine calls_of_wp hf hb ?_
 have hvl : vals.size = args.length := by rw [← Array.length_toList]; exact har.1
 have hrs : RS [] fn.ntmps g A w ⟨entry args, H, A⟩ { tmps := vals ++ Array.replicate (fn.ntmps - vals.size) undef, defers := [] } w := by
  refine ⟨g, hm, hd, fun t => ?_, .refl _ _ _, by simp; omega, rfl⟩
  show PRep g A ((args[t]?).getD (.c .any)) _
  cases ht : args[t]? with
  | none => exact Zti
  | some x =>
    obtain ⟨v, hv, hp⟩ := har.2 t x ht
    have hlt := (List.getElem?_eq_some_iff.1 ht).1
    rw [Array.getD_eq_getD_getElem?, Array.getElem?_append, if_pos (by omega)]
    rw [Array.getElem?_toList] at hv
    rw [hv]
    exact hp
 refine wp_mono (zk7 hE hd c hc _ _ _ w (h hab) hrs) (fun e a' w' hq => ?_)
 have fin : (∃ S, RS [] fn.ntmps g A w S a' w' ∧ RetR E.P fn H A v H' A' S) → a'.defers = [] ∧ ∃ u, (results fn a'.tmps).run E.P w' = .ok u w' ∧
  ∃ u_1, Ending.returned u = .returned u_1 ∧ ∃ g', PRep g' A' v u_1 ∧ MRel g' H' A' w' ∧ Evol g A w g' A' w' ∧ zjk g' H' := by
  rintro ⟨S, ⟨g1, hm1, hd1, hfr, he, hnn, hdf⟩, p, S', fr, hr, hp, hw, hv, hok, hren⟩
  obtain ⟨us, h1, h2⟩ := yqi hm1 ⟨rfl, rfl⟩ hfr hp
  obtain ⟨g2, m1, m2, m3, m4⟩ := z9w (S := ⟨fun _ => p, S.H, S.A⟩) hd hw hm1 he
  obtain ⟨g3, n1, n2, n3, n4⟩ := y7z hd hren m1 m3
  exact ⟨hdf, _, zwp fn a'.tmps h1, _, rfl, g3, n4 v _ hok (by rw [← hv]; exact m4 0 _ h2), n1, n3, n2⟩
 cases e with
 | normal => exact fin hq
 | ret => exact fin hq
 | exit id => obtain ⟨S, _, hq⟩ := hq; exact hq.elim
 | _ => exact hq.elim
theorem z14.mono {f : FuncId} {args : Array Value} {R R' : Value → World → Prop} (h : z14 P f args w R) (hR : ∀ v w', R v w' → R' v w') : z14 P f args w R' := by
 rcases h with ⟨h1, h2⟩ | ⟨v, w', h1, h2⟩
 · refine .inl ⟨h1, Calls.mono h2 (fun e w' he => ?_)⟩
   obtain ⟨v, hv, hr⟩ := he
   exact ⟨v, hv, hR v w' hr⟩
 · exact .inr ⟨v, w', h1, hR v w' h2⟩
def RetB (P : Program) (fn : Func) (S : St) : Prop := zve P S fn.results.toList = some (.c (.d (.lit (.bool true))))
def cnt1 : AMap := upd noA (0, 0) (some (.cnt 1))
theorem xzn {E : Env} (hE : EnvOK E) {f : FuncId} {fn : Func} {c : Code} (hf : E.P.funcs[f]? = some fn) (hb : fn.body = some c) (hext : ∀ (args : Array Value) (w : World), (callFunc f args).run E.P w = .ok (.enter f args) w)
 (hc : zkh E fn.ntmps c = true) {args : List PV} (hn : args.length ≤ fn.ntmps)
 (h : VC E noH cnt1 c ⟨RetB E.P fn, RetB E.P fn, fun _ _ => False⟩ ⟨entry args, noH, cnt1⟩) : y6b E.P f args := by
 intro C w vals hC har
 refine .inl ⟨hext vals w, ?_⟩
 refine calls_of_wp hf hb ?_
 have hvl : vals.size = args.length := by rw [← Array.length_toList]; exact har.1
 have ht : ∀ κ ar, cnt1 κ = some ar → zqa (zko C noπ) w κ ar := fun κ ar hA => by
  by_cases hk : κ = (0, 0)
  · subst hk
    cases (show some (Arr.cnt 1) = some ar from (zzc _ _ _).symm.trans hA)
    exact ⟨rfl, fun _ _ => rfl⟩
  · cases (show noA κ = some ar from (zza _ _ hk).symm.trans hA)
 have hm : MRel (zko C noπ) noH cnt1 w := ⟨hC, fun id b hb => (by cases hb), ht, fun b o ho => (by cases ho)⟩
 have hrs : RS [] fn.ntmps (zko C noπ) cnt1 w ⟨entry args, noH, cnt1⟩ { tmps := vals ++ Array.replicate (fn.ntmps - vals.size) undef, defers := [] } w := by
  refine ⟨zko C noπ, hm, fun _ _ => rfl, fun t => ?_, .refl _ _ _, by simp; omega, rfl⟩
  show PRep (zko C noπ) cnt1 ((args[t]?).getD (.c .any)) _
  cases ht : args[t]? with
  | none => exact Zti
  | some x =>
    obtain ⟨v, hv, hp⟩ := har.2 t x ht
    have hlt := (List.getElem?_eq_some_iff.1 ht).1
    rw [Array.getD_eq_getD_getElem?, Array.getElem?_append, if_pos (by omega)]
    rw [Array.getElem?_toList] at hv
    rw [hv]
    exact PRep.mono (g := zko C noπ) (A := noA) ⟨fun _ _ _ h => h, fun _ _ h => h, fun κ ar h => (by cases h), fun _ _ h => h⟩ hp
 refine wp_mono (zk7 hE (fun _ _ => rfl) c hc _ _ _ w h hrs) (fun e a' w' hq => ?_)
 have fin : (∃ S, RS [] fn.ntmps (zko C noπ) cnt1 w S a' w' ∧ RetB E.P fn S) → a'.defers = [] ∧ ∃ u, (results fn a'.tmps).run E.P w' = .ok u w' ∧
  ∃ u_1, Ending.returned u = .returned u_1 ∧ (u_1 = .bool true ∧ w'.os = w.os ∧ w'.tape = w.tape ∧ w'.output = w.output ∧ w.heap.size ≤ w'.heap.size ∧ ∀ b, b < w.heap.size → w'.heap[b]? = w.heap[b]?) := by
  rintro ⟨S, ⟨g1, hm1, hd1, hfr, he, hnn, hdf⟩, hr⟩
  obtain ⟨us, h1, h2⟩ := yqi hm1 ⟨rfl, rfl⟩ hfr hr
  exact ⟨hdf, _, zwp fn a'.tmps h1, _, rfl, DRep.lit_eq h2, he.os, he.tape, he.output, he.size, fun b hb => he.frame b hb rfl⟩
 cases e with
 | normal => exact fin hq
 | ret => exact fin hq
 | exit id => obtain ⟨S, _, hq⟩ := hq; exact hq.elim
 | _ => exact hq.elim
end Go.PW
namespace Go.PW
section
variable {P : Program} {T : TypeId} {k : IntKind} {m n : Int} {a b : List UInt8}
theorem zk3 (l : List UInt8) : (ByteArray.mk l.toArray).toList = l := by
 have key : ∀ (s : ByteArray) (n i : Nat) (r : List UInt8), s.size - i = n → ByteArray.toList.loop s i r = r.reverse ++ s.data.toList.drop i := by
  intro s n
  induction n with
  | zero =>
    intro i r h
    unfold ByteArray.toList.loop
    rw [if_neg (by omega), List.drop_of_length_le (by rw [Array.length_toList]; show s.size ≤ i; omega), List.append_nil]
  | succ n ih =>
    intro i r h
    unfold ByteArray.toList.loop
    have hi : i < s.data.toList.length := by rw [Array.length_toList]; show i < s.size; omega
    rw [if_pos (by omega), ih (i + 1) _ (by omega), List.drop_eq_getElem_cons hi]
    have e : s.get! i = s.data.toList[i] := by
     show s.data[i]! = _
     have hi' : i < s.data.size := by simpa using hi
     rw [getElem!_pos s.data i hi']
     simp
    rw [e]
    simp
 have := key ⟨l.toArray⟩ _ 0 [] rfl
 unfold ByteArray.toList
 rw [this]
 simp
theorem ywl (a b : List UInt8) : (ByteArray.mk a.toArray) ++ (ByteArray.mk b.toArray) = ByteArray.mk (a ++ b).toArray := by
 apply ByteArray.ext
 simp
@[go_sem] theorem zwr (l : List UInt8) : (ByteArray.mk l.toArray).size = l.length := by simp [ByteArray.size]
@[go_sem] theorem xx9 : binS P .add T (.c (.d (.lit (.string ⟨a.toArray⟩)))) (.c (.d (.lit (.string ⟨b.toArray⟩)))) = if a.length + b.length ≤ 9223372036854775807 then some (lit (.string ⟨(a ++ b).toArray⟩)) else none := by
  show (zks (Op.stringOp .add ⟨a.toArray⟩ ⟨b.toArray⟩)).map lit = _
  unfold Op.stringOp
  simp only [zwr, ywl]
  have hmax : IntKind.i64.max = 9223372036854775807 := by decide
  rw [hmax]
  by_cases h : a.length + b.length ≤ 9223372036854775807
  · rw [if_neg (by omega), if_pos h]; rfl
  · rw [if_pos (by omega), if_neg h]; rfl
@[go_sem] theorem y87 : binS P .eql T (.c (.d (.lit (.string ⟨a.toArray⟩)))) (.c (.d (.lit (.string ⟨b.toArray⟩)))) = some (lit (.bool (a == b))) := by
  show (zks (Op.stringOp .eql ⟨a.toArray⟩ ⟨b.toArray⟩)).map lit = _
  unfold Op.stringOp
  simp only [zk3]
  rfl
@[go_sem] theorem y88 : binS P .neq T (.c (.d (.lit (.string ⟨a.toArray⟩)))) (.c (.d (.lit (.string ⟨b.toArray⟩)))) = some (lit (.bool (!(a == b)))) := by
  show (zks (Op.stringOp .neq ⟨a.toArray⟩ ⟨b.toArray⟩)).map lit = _
  unfold Op.stringOp
  simp only [zk3]
  rfl
@[go_sem] theorem xxi (a : List UInt8) (i : Nat) : (ByteArray.mk a.toArray)[i]? = a[i]? := by
  by_cases h : i < a.length
  · rw [getElem?_pos _ i (by rw [zwr]; exact h), Zge h]
    rfl
  · rw [getElem?_neg _ i (by rw [zwr]; exact h), List.getElem?_eq_none (by omega)]
theorem yxm (l : List UInt8) (i j : Nat) : (ByteArray.mk l.toArray).extract i j = ByteArray.mk ((l.drop i).take (j - i)).toArray := by
 apply ByteArray.ext
 rw [ByteArray.data_extract]
 simp [List.extract_eq_take_drop]
def iOr (k : IntKind) (m n : Int) : Int := k.wrap (BitVec.ofInt k.bits m ||| BitVec.ofInt k.bits n).toNat
def iXor (k : IntKind) (m n : Int) : Int := k.wrap (BitVec.ofInt k.bits m ^^^ BitVec.ofInt k.bits n).toNat
def iNot (k : IntKind) (n : Int) : Int := iXor k (if k.signed then -1 else k.max) n
def iShr (k : IntKind) (m : Int) (n : Nat) : Int := m.fdiv (2 ^ min n k.bits)
def iShl (k : IntKind) (m : Int) (n : Nat) : Int := k.wrap (m * 2 ^ min n k.bits)
@[go_sem] theorem B_or : binS P .or T (.c (.d (.lit (.int k m)))) (.c (.d (.lit (.int k n)))) = some (lit (.int k (iOr k m n))) := by cases k <;> rfl
@[go_sem] theorem xka : binS P .xor T (.c (.d (.lit (.int k m)))) (.c (.d (.lit (.int k n)))) = some (lit (.int k (iXor k m n))) := by cases k <;> rfl
@[go_sem] theorem xkv : zks (Op.unary .xor (.int k n)) = some (.int k (iNot k n)) := by cases k <;> rfl
@[go_sem] theorem xj8 {k' : IntKind} : binS P .shr T (.c (.d (.lit (.int k m)))) (.c (.d (.lit (.int k' n)))) = if 0 ≤ n then some (lit (.int k (iShr k m n.toNat))) else none := by
  show (zks (Op.shift .shr k m k' n)).map lit = _
  unfold Op.shift
  by_cases h : 0 ≤ n
  · rw [if_neg (by omega), if_pos h]; rfl
  · rw [if_pos (by omega), if_neg h]; rfl
@[go_sem] theorem xj7 {k' : IntKind} : binS P .shl T (.c (.d (.lit (.int k m)))) (.c (.d (.lit (.int k' n)))) = if 0 ≤ n then some (lit (.int k (iShl k m n.toNat))) else none := by
  show (zks (Op.shift .shl k m k' n)).map lit = _
  unfold Op.shift
  by_cases h : 0 ≤ n
  · rw [if_neg (by omega), if_pos h]; rfl
  · rw [if_pos (by omega), if_neg h]; rfl
theorem y86 : binS P .rem T (.c (.d (.lit (.int k m)))) (.c (.d (.lit (.int k n)))) = if n = 0 then none else some (lit (.int k (m.tmod n))) := by
 have h : binOp .rem T (.int k m) (.int k n) = Op.intDiv .rem k m n := by unfold binOp; simp
 show (zks (binOp .rem T (.int k m) (.int k n))).map lit = _
 rw [h]
 unfold Op.intDiv
 by_cases h0 : n = 0
 · rw [if_pos h0, if_pos h0]; rfl
 · rw [if_neg h0, if_neg h0]; rfl
theorem y85 : binS P .quo T (.c (.d (.lit (.int k m)))) (.c (.d (.lit (.int k n)))) = if n = 0 then none else some (lit (.int k (k.wrap (m.tdiv n)))) := by
 have h : binOp .quo T (.int k m) (.int k n) = Op.intDiv .quo k m n := by unfold binOp; simp
 show (zks (binOp .quo T (.int k m) (.int k n))).map lit = _
 rw [h]
 unfold Op.intDiv
 by_cases h0 : n = 0
 · rw [if_pos h0, if_pos h0]; rfl
 · rw [if_neg h0, if_neg h0]; rfl
attribute [go_sem] y86 y85
end
@[go_sem] theorem xxx : Int.toNat 0 = 0 := rfl
@[go_sem] theorem xxy : Int.toNat 1 = 1 := rfl
@[go_sem] theorem xxz : Int.toNat 2 = 2 := rfl
@[go_sem] theorem xx0 : Int.toNat 4 = 4 := rfl
@[go_sem] theorem xx1 : Int.toNat 7 = 7 := rfl
@[go_sem] theorem xx2 : Int.toNat 8 = 8 := rfl
@[go_sem] theorem xz4 : Int.toNat 100 = 100 := rfl
theorem zka : ∀ (l : List UInt8), zvk (zzg l) = some l
 | [] => rfl
 | b :: l => by
   have ih := zka l
   show (if ((b.toNat : Nat) : Int) = ((UInt8.ofNat ((b.toNat : Int)).toNat).toNat : Int) then (zvk (zzg l)).map (UInt8.ofNat ((b.toNat : Int)).toNat :: ·) else none) = _
   have e : UInt8.ofNat ((b.toNat : Int)).toNat = b := by simp
   rw [ih, e, if_pos rfl]
   rfl
theorem zk6 (a b : List UInt8) : zzg a ++ zzg b = zzg (a ++ b) := by simp [zzg]
theorem zqz (a : List UInt8) : (zzg a).length = a.length := by simp [zzg]
theorem yza (n : Int) (h0 : 0 ≤ n) (h1 : n < 256) : [[D.lit (.int .u8 n)]] = zzg [UInt8.ofNat n.toNat] := by
 have : ((UInt8.ofNat n.toNat).toNat : Int) = n := by
  rw [UInt8.toNat_ofNat', Nat.mod_eq_of_lt (by omega)]
  omega
 show _ = [[D.lit (.int .u8 ((UInt8.ofNat n.toNat).toNat : Int))]]
 rw [this]
@[go_sem] theorem y9y {P : Program} {s : TypeId} {κ : Tok} {l : List UInt8} (hs : zj1 P s = true) : yva P s (.c (.own κ (zzg l))) = some (.c (.d (.lit (.string ⟨l.toArray⟩)))) := by
  simp only [yva, hs, if_true, zqc, Option.bind_some, zka, Option.map_some]; rfl
@[go_sem] theorem z0t {P : Program} {s : TypeId} {l : List UInt8} (hs : zj1 P s = true) : yva P s (.c (.full (zzg l))) = some (.c (.d (.lit (.string ⟨l.toArray⟩)))) := by
  simp only [yva, hs, if_true, zqc, Option.bind_some, zka, Option.map_some]; rfl
@[go_sem] theorem xqq {v : Value} : litV (.c (.d (.lit v))) = some v := rfl
theorem xqr {A : AMap} {p : Nat} {m : List (Value × MV)} (h : A (0, p) = some (.pr p (.mp m))) : z88 A (.c (.d (.mr p))) = some m := by show (match A (0, p) with | some (.pr q (.mp m)) => if q = p then some m else none | _ => none) = _; rw [h]; exact if_pos rfl
theorem y1n {A : AMap} {κ : Tok} {m : List (Value × MV)} (h : A κ = some (.mp m)) : z88 A (.c (.mpr κ)) = some m := by show (match A κ with | some (.mp m) => some m | _ => none) = _; rw [h]
@[go_sem] theorem xqs {k k' : IntKind} {n : Int} : zku (.int k) (.int k' n) = true := rfl
@[go_sem] theorem xqt {s : ByteArray} : zku .string (.string s) = true := rfl
attribute [go_sem] y1l y7j gotV y4j mupS upM xzm y1o delM y99 setM
end Go.PW
