/-
  Parts of the proof, laid together: PwQ, PwQa, PwR.
-/
import Derived.Test.YthkngcankpnhlaaQ10
import Derived.IntWalk

namespace Go.PW
variable {P : Program} {g : Gh} {H : HMap} {A : AMap} {w : World}
def resPV (P : Program) (S : St) : List ResultVar → Option PV
  | [] => some (.c .any)
  | [v] => resOne P S v
  | _ => none
theorem resPV_ok (hm : MRel g H A w) {S : St} (hS : S.H = H ∧ S.A = A) {a : Act} (hf : FRep g A S.ρ a) {vs : List ResultVar} {p : PV} (h : resPV P S vs = some p) :
    ∃ us, (vs.mapM (resV1 a.tmps)).run P w = .ok us w ∧ PRep g A p (joinV us) := by
  obtain ⟨hSH, hSA⟩ := hS
  match vs, h with
  | [], h => cases h; exact ⟨[], rfl, True.intro⟩
  | [.tmp t], h =>
    cases h
    exact ⟨[a.tmps.getD t undef], rfl, hf t⟩
  | [.cell t T], h =>
    have h : loadS P none S.H S.A T (S.ρ t) = some p := h
    rw [hSH, hSA] at h
    obtain ⟨X, hX, hpr⟩ := load_ok (P := P) hm (hf t) h
    refine ⟨[X], ?_, hpr⟩
    have h1 : (resV1 a.tmps (.cell t T)).run P w = .ok X w := by
      show (do loadVar T (← asAddr (a.tmps.getD t undef)) : Sem Value).run P w = _
      unfold Instr.loadAt at hX
      simp only [Sem.run_bind] at hX ⊢
      generalize a.tmps.getD t undef = x at *
      cases x <;> first | (simp [Instr.sureAddr] at hX; done) | skip
      rename_i ad
      cases ad with
      | none => simp [Instr.sureAddr] at hX
      | some ad => exact hX
    rw [List.mapM_cons, Sem.run_bind, h1]
    rfl
theorem Above_updH {n id : Nat} {cs : List CV} (h : Above n H A) (hid : id < n) : Above n (upd H id (some cs)) A := fun i hi => ⟨by rw [upd_other _ _ (by omega)]; exact (h i hi).1, (h i hi).2⟩
theorem Above_updA {n : Nat} {κ : Tok} {ar : Arr} (h : Above n H A) (hid : κ.1 < n) : Above n H (upd A κ (some ar)) := fun i hi => ⟨(h i hi).1, fun k => by rw [upd_other _ _ (by intro e; rw [← e] at hid; simp at hid; omega)]; exact (h i hi).2 k⟩
theorem Above_mono {n m : Nat} (h : Above n H A) (hm : n ≤ m) : Above m H A := fun i hi => h i (by omega)
theorem vSq {E : Env} {H0 : HMap} {A0 : AMap} {a b : Code} {Q : Post} {S : St} (h : ∀ K : St → Prop, (∀ S, VC E H0 A0 b Q S → K S) → VC E H0 A0 a ⟨K, Q.ret, Q.ext⟩ S) : VC E H0 A0 (.seq a b) Q S := h _ fun _ h => h
theorem VC_region {E : Env} {H0 : HMap} {A0 : AMap} {id : Nat} {l : List Oper} {draw : Bool} {Q : Post} {S : St} (h : RunV E (fbOf E id l.toArray draw) l.toArray l S Q.nrm) : VC E H0 A0 (.region id l.toArray draw) Q S := by
  show RunV E _ _ l.toArray.toList S Q.nrm
  rw [List.toList_toArray]
  exact h
theorem VC_cond {E : Env} {H0 : HMap} {A0 : AMap} {c : Operand} {x y : Code} {Q : Post} {S : St} (b : Bool) (hb : boolOf? (ev S.ρ c) = some b) (ht : b = true → VC E H0 A0 x Q S) (hf : b = false → VC E H0 A0 y Q S) : VC E H0 A0 (.cond c x y) Q S :=
  Opt.iff.2 ⟨b, hb, ht, hf⟩
theorem vBl {E : Env} {H0 : HMap} {A0 : AMap} {id : Nat} {c : Code} {Q : Post} {S : St} (h : VC E H0 A0 c ⟨Q.nrm, Q.ret, fun j S' => if j = id then Q.nrm S' else Q.ext j S'⟩ S) : VC E H0 A0 (.block id c) Q S := h
end Go.PW

namespace Go.PW
variable {P : Program} {g : Gh} {H : HMap} {A : AMap} {w : World}
def CV.im (f : Nat → Nat) (h : Tok → Tok) : CV → CV
  | .own κ els => .own (h κ) els
  | .mt κ sz n => .mt (h κ) sz n
  | .tv κ sz n L => .tv (h κ) sz n L
  | .ptr id off => .ptr (f id) off
  | .mptr κ sz n i off => .mptr (h κ) sz n i off
  | .fn k caps => .fn k (caps.map fun p => (f p.1, p.2))
  | .mpr κ => .mpr (h κ)
  | .vsl id n => .vsl (f id) n
  | .bfn k fst caps => .bfn k (fst.map fun p => (f p.1, p.2)) (caps.map fun p => (f p.1, p.2))
  | c => c
def TV.im (f : Nat → Nat) (h : Tok → Tok) : TV → TV
  | .c x => .c (x.im f h)
  | .agg cs => .agg (cs.map (CV.im f h))
def PV.im (f : Nat → Nat) (h : Tok → Tok) : PV → PV
  | .c x => .c (x.im f h)
  | .agg cs => .agg (cs.map (CV.im f h))
  | .tup xs => .tup (xs.map (TV.im f h))
def TV.oks (hk : Nat → Prop) (tk : Tok → Prop) : TV → Prop
  | .c x => x.ok hk tk
  | .agg cs => ∀ c ∈ cs, c.ok hk tk
def PV.oks (hk : Nat → Prop) (tk : Tok → Prop) : PV → Prop
  | .c x => x.ok hk tk
  | .agg cs => ∀ c ∈ cs, c.ok hk tk
  | .tup xs => ∀ x ∈ xs, x.oks hk tk
structure Ren (H0 : HMap) (A0 : AMap) (H : HMap) (A : AMap) (H' : HMap) (A' : AMap) (f : Nat → Nat) (h : Tok → Tok) : Prop where
  kH : ∀ id, H0 id ≠ none → f id = id ∧ H' id ≠ none
  kA : ∀ κ, A0 κ ≠ none → h κ = κ ∧ A' κ ≠ none
  iH : ∀ i j, H' i ≠ none → H' j ≠ none → f i = f j → i = j
  iA : ∀ i j, A' i ≠ none → A' j ≠ none → h i = h j → i = j
  H : ∀ id cs, H' id = some cs → H (f id) = some (cs.map (CV.im f h)) ∧ ∀ c ∈ cs, c.ok (fun i => H' i ≠ none) (fun κ => A' κ ≠ none)
  A : ∀ κ ar, A' κ = some ar → A (h κ) = some ar
open Classical in
noncomputable def Gh.ren (g : Gh) (H' : HMap) (A' : AMap) (f : Nat → Nat) (h : Tok → Tok) : Gh where
  C := g.C
  β := fun id => match H' id with
    | none => none
    | some _ => g.β (f id)
  τ := fun κ => g.τ (h κ)
  O := fun b => match g.O b with
    | none => none
    | some (.var i) => if hx : ∃ id, H' id ≠ none ∧ f id = i then some (.var hx.choose) else none
    | some (.tok κ) => if hx : ∃ k, A' k ≠ none ∧ h k = κ then some (.tok hx.choose) else none
theorem ren_mem {H0 : HMap} {A0 : AMap} {g0 : Gh} {w0 : World} (hd0 : DomOK g0 H0) {H' : HMap} {A' : AMap} {f : Nat → Nat} {h : Tok → Tok} (hr : Ren H0 A0 H A H' A' f h) (hm : MRel g H A w) (he : Evol g0 A0 w0 g A w) :
    ∃ g', MRel g' H' A' w ∧ DomOK g' H' ∧ Evol g0 A0 w0 g' A' w ∧ ∀ (p : PV) (v : Value), p.oks (fun i => H' i ≠ none) (fun κ => A' κ ≠ none) → PRep g A (p.im f h) v → PRep g' A' p v := by
  refine ⟨g.ren H' A' f h, ?_⟩
  generalize hg' : g.ren H' A' f h = g'
  have hC : g'.C = g.C := by rw [← hg']; rfl
  have hτ : ∀ κ, g'.τ κ = g.τ (h κ) := fun κ => by rw [← hg']; rfl
  have hβ : ∀ id, H' id ≠ none → g'.β id = g.β (f id) := fun id hid => by
    rw [← hg']
    show (match H' id with | none => none | some _ => g.β (f id)) = _
    cases hh : H' id with
    | none => exact (hid hh).elim
    | some _ => rfl
  have hβ0 : ∀ id, H' id = none → g'.β id = none := fun id hid => by
    rw [← hg']
    show (match H' id with | none => none | some _ => g.β (f id)) = _
    rw [hid]
  have hOv : ∀ b id, g.O b = some (.var (f id)) → H' id ≠ none → g'.O b = some (.var id) := fun b id ho hid => by
    rw [← hg']
    show (match g.O b with | none => none | some (.var i) => _ | some (.tok κ) => _) = _
    rw [ho]
    have hx : ∃ i, H' i ≠ none ∧ f i = f id := ⟨id, hid, rfl⟩
    simp only
    rw [dif_pos hx]
    rw [hr.iH _ _ hx.choose_spec.1 hid hx.choose_spec.2]
  have hOt : ∀ b κ, g.O b = some (.tok (h κ)) → A' κ ≠ none → g'.O b = some (.tok κ) := fun b κ ho hid => by
    rw [← hg']
    show (match g.O b with | none => none | some (.var i) => _ | some (.tok κ) => _) = _
    rw [ho]
    have hx : ∃ i, A' i ≠ none ∧ h i = h κ := ⟨κ, hid, rfl⟩
    simp only
    rw [dif_pos hx]
    rw [hr.iA _ _ hx.choose_spec.1 hid hx.choose_spec.2]
  have hOn : ∀ b, g.O b = none → g'.O b = none := fun b ho => by
    rw [← hg']
    show (match g.O b with | none => none | some (.var i) => _ | some (.tok κ) => _) = _
    rw [ho]
  clear hg'
  have some_of : ∀ κ, A' κ ≠ none → ∃ ar, A' κ = some ar ∧ A (h κ) = some ar := fun κ hk => by
    cases hA : A' κ with
    | none => exact (hk hA).elim
    | some ar => exact ⟨ar, rfl, hr.A κ ar hA⟩
  have hc : ∀ (c : CV) (v : Value), c.ok (fun i => H' i ≠ none) (fun κ => A' κ ≠ none) → CRep g A (c.im f h) v → CRep g' A' c v := by
    intro c v hok hrep
    have hdm : ∀ x u, DRep g.C x u → DRep g'.C x u := fun x u hd => by rw [hC]; exact hd
    cases c with
    | any => trivial
    | skip => exact hrep
    | d x => exact hdm _ _ hrep
    | full els => exact ⟨hdm _ _ hrep.1, hrep.2⟩
    | own κ els =>
      obtain ⟨hd, sz, n, hA, hl, ht⟩ := hrep
      obtain ⟨ar, e1, e2⟩ := some_of κ hok
      rw [hA] at e2
      cases e2
      exact ⟨hdm _ _ hd, sz, n, e1, hl, fun e => by rw [hτ]; exact ht e⟩
    | mt κ sz n =>
      obtain ⟨a, cap, els, h1, h2, hA, h4, h5⟩ := hrep
      obtain ⟨ar, e1, e2⟩ := some_of κ hok
      rw [hA] at e2
      cases e2
      exact ⟨a, cap, els, h1, h2, e1, h4, fun e => by rw [hτ]; exact h5 e⟩
    | tv κ sz n L =>
      obtain ⟨a, cap, els, h1, h2, hA, h4, h5⟩ := hrep
      obtain ⟨ar, e1, e2⟩ := some_of κ hok
      rw [hA] at e2
      cases e2
      exact ⟨a, cap, els, h1, h2, e1, h4, fun e => by rw [hτ]; exact h5 e⟩
    | ptr id off =>
      obtain ⟨b, hb, e⟩ := hrep
      exact ⟨b, by rw [hβ id hok]; exact hb, e⟩
    | eptr e off =>
      obtain ⟨b, o, hv, hcc⟩ := hrep
      exact ⟨b, o, hv, fun k x hk => by rw [hC]; exact hcc k x hk⟩
    | mptr κ sz n i off =>
      obtain ⟨b, els, h1, hA, h4, h5⟩ := hrep
      obtain ⟨ar, e1, e2⟩ := some_of κ hok
      rw [hA] at e2
      cases e2
      exact ⟨b, els, h1, e1, h4, fun e => by rw [hτ]; exact h5 e⟩
    | fn k caps =>
      obtain ⟨vs, h1, h2, h3⟩ := hrep
      refine ⟨vs, h1, by simpa using h2, fun j p hk => ?_⟩
      obtain ⟨b, hb, e⟩ := h3 j (f p.1, p.2) (by simp [hk])
      exact ⟨b, by rw [hβ _ (hok p (List.mem_of_getElem? hk))]; exact hb, e⟩
    | mpr κ =>
      obtain ⟨hb, hv, m, hA⟩ := hrep
      obtain ⟨ar, e1, e2⟩ := some_of κ hok
      rw [hA] at e2
      cases e2
      exact ⟨hb, by rw [hτ]; exact hv, m, e1⟩
    | vsl id n =>
      obtain ⟨b, hb, e⟩ := hrep
      exact ⟨b, by rw [hβ id hok]; exact hb, e⟩
    | bfn k fst caps =>
      obtain ⟨us, vs, e, h1, h2⟩ := hrep
      have back : ∀ (l : List (Nat × Nat)) (vs : Array Value), (∀ p ∈ l, H' p.1 ≠ none) → PtsRep g.β (l.map fun p => (f p.1, p.2)) vs → PtsRep g'.β l vs := fun l vs hl hp => by
        refine ⟨by simpa using hp.1, fun j p hk => ?_⟩
        obtain ⟨b, hb, e⟩ := hp.2 j (f p.1, p.2) (by simp [hk])
        exact ⟨b, by rw [hβ _ (hl p (List.mem_of_getElem? hk))]; exact hb, e⟩
      exact ⟨us, vs, e, back _ _ hok.1 h1, back _ _ hok.2 h2⟩
  have hcs : ∀ (cs : List CV) (vs : List Value), (∀ c ∈ cs, c.ok (fun i => H' i ≠ none) (fun κ => A' κ ≠ none)) → CsRep g A (cs.map (CV.im f h)) vs → CsRep g' A' cs vs := fun cs vs hok hrep => by
    refine ⟨by simpa using hrep.1, fun k c hk => ?_⟩
    obtain ⟨v, hv, hrv⟩ := hrep.2 k (c.im f h) (by simp [hk])
    exact ⟨v, hv, hc c v (hok c (List.mem_of_getElem? hk)) hrv⟩
  refine ⟨⟨by rw [hC]; exact hm.com, ?_, ?_, ?_⟩, hβ0, ⟨⟨?_, ?_, ?_⟩, he.frame, fun b hb ho => hOn b (he.own b hb ho), fun b hb ho o => by rw [hC]; exact he.old b hb ho o, he.size, he.os, he.tape, he.output⟩, ?_⟩
  · intro id b hb
    have hne : H' id ≠ none := fun e => by rw [hβ0 id e] at hb; cases hb
    rw [hβ id hne] at hb
    obtain ⟨ho, hCb, ds, vs, e, fz, hH, hh, hu, hrep⟩ := hm.var _ b hb
    cases hh' : H' id with
    | none => exact (hne hh').elim
    | some cs =>
      obtain ⟨q1, q2⟩ := hr.H id cs hh'
      rw [q1] at hH
      cases hH
      exact ⟨hOv b id ho hne, fun o => by rw [hC]; exact hCb o, cs, vs, e, fz, rfl, hh, hu, hcs cs _ q2 hrep⟩
  · intro κ ar hA
    have hA0 := hr.A κ ar hA
    have hne : A' κ ≠ none := by rw [hA]; simp
    have ht := hm.tok (h κ) ar hA0
    cases ar with
    | co sz n =>
      obtain ⟨a, cap, h1, h2, h3⟩ := ht
      refine ⟨a, cap, (hτ κ).trans h1, h2, h3.imp id ?_⟩
      rintro ⟨b, e, ho, hCb, rest⟩
      exact ⟨b, e, hOt b κ ho hne, fun j hj => by rw [hC]; exact hCb j hj, rest⟩
    | mu sz els =>
      obtain ⟨hs, a, cap, h1, h2, h3⟩ := ht
      refine ⟨hs, a, cap, (hτ κ).trans h1, h2, h3.imp id ?_⟩
      rintro ⟨b, e, ho, hCb, vs, e', fz, q1, q2, q3, q4⟩
      exact ⟨b, e, hOt b κ ho hne, fun j => by rw [hC]; exact hCb j, vs, e', fz, q1, q2, q3, by rw [hC]; exact q4⟩
    | mp m =>
      obtain ⟨b, es, clock, h1, ho, hCb, rest⟩ := ht
      exact ⟨b, es, clock, (hτ κ).trans h1, hOt b κ ho hne, fun j => by rw [hC]; exact hCb j, rest⟩
  · intro b o ho
    cases hb : g.O b with
    | none => rw [hOn b hb] at ho; cases ho
    | some o' => exact hm.own b o' hb
  · rw [hC]; exact he.mono.C
  · intro id b hb
    have h1 := he.mono.β id b hb
    obtain ⟨e1, e2⟩ := hr.kH id (fun h0 => by rw [hd0 id h0] at hb; cases hb)
    rw [hβ id e2, e1]
    exact h1
  · intro κ ar hA
    obtain ⟨ar', hA', hle⟩ := he.mono.τ κ ar hA
    obtain ⟨e1, e2⟩ := hr.kA κ (by rw [hA]; simp)
    obtain ⟨ar2, q1, q2⟩ := some_of κ e2
    rw [e1, hA'] at q2
    cases q2
    exact ⟨ar', q1, by rw [hτ, e1]; exact hle⟩
  · have htv : ∀ (x : TV) (u : Value), x.oks (fun i => H' i ≠ none) (fun κ => A' κ ≠ none) → TRep g A (x.im f h) u → TRep g' A' x u := fun x u hok hrep => by
      cases x with
      | c x => exact hc x u hok hrep
      | agg cs => obtain ⟨arr, e, hrr⟩ := hrep; exact ⟨arr, e, hcs cs _ hok hrr⟩
    intro p v hok hrep
    cases p with
    | c x => exact hc x v hok hrep
    | agg cs => obtain ⟨arr, e, hrr⟩ := hrep; exact ⟨arr, e, hcs cs _ hok hrr⟩
    | tup xs =>
      obtain ⟨arr, e, hs, hrr⟩ := hrep
      refine ⟨arr, e, by simpa using hs, fun k x hk => ?_⟩
      obtain ⟨u, hu, ht⟩ := hrr k (x.im f h) (by simp [hk])
      exact ⟨u, hu, htv x u (hok x (List.mem_of_getElem? hk)) ht⟩
def PV.tv : PV → Option TV
  | .c x => some (.c x)
  | .agg cs => some (.agg cs)
  | .tup _ => none
def toTVs : List PV → Option (List TV)
  | [] => some []
  | p :: r => (p.tv).bind fun x => (toTVs r).map (x :: ·)
def resPs (P : Program) (S : St) : List ResultVar → Option (List PV)
  | [] => some []
  | v :: r => (resOne P S v).bind fun p => (resPs P S r).map (p :: ·)
def joinP : List PV → Option PV
  | [] => some (.c .any)
  | [p] => some p
  | ps => (toTVs ps).map .tup
def resPVs (P : Program) (S : St) (vs : List ResultVar) : Option PV := (resPs P S vs).bind joinP
theorem resPs_ok (hm : MRel g H A w) {S : St} (hS : S.H = H ∧ S.A = A) {a : Act} (hf : FRep g A S.ρ a) : ∀ {vs : List ResultVar} {ps : List PV}, resPs P S vs = some ps →
    ∃ us, (vs.mapM (resV1 a.tmps)).run P w = .ok us w ∧ us.length = ps.length ∧ ∀ (k : Nat) (p : PV) (u : Value), ps[k]? = some p → us[k]? = some u → PRep g A p u
  | [], ps, h => by cases h; exact ⟨[], rfl, rfl, by simp⟩
  | v :: vs, ps, h => by
    obtain ⟨p, hp, h⟩ := Option.bind_eq_some_iff.1 h
    obtain ⟨ps', hps, rfl⟩ := Option.map_eq_some_iff.1 h
    obtain ⟨us, h1, h2, h3⟩ := resPs_ok hm hS hf hps
    obtain ⟨us1, q1, q2⟩ := resPV_ok (P := P) hm hS hf (vs := [v]) (p := p) (by show resOne P S v = some p; exact hp)
    have hone : ∃ u, us1 = [u] ∧ (resV1 a.tmps v).run P w = .ok u w := by
      rw [List.mapM_cons, Sem.run_bind] at q1
      cases hv : (resV1 a.tmps v).run P w with
      | ok u w' =>
        rw [hv] at q1
        simp only [Result.andThen_ok, List.mapM_nil, Sem.run_bind, Sem.run_pure] at q1
        cases q1
        exact ⟨u, rfl, rfl⟩
      | halt e w' => rw [hv] at q1; cases q1
    obtain ⟨u, rfl, hu⟩ := hone
    refine ⟨u :: us, ?_, by simp [h2], fun k p' u' hk hu' => ?_⟩
    · rw [List.mapM_cons, Sem.run_bind, hu, Result.andThen_ok, Sem.run_bind, h1]
      rfl
    · cases k with
      | zero => simp at hk hu'; subst hk hu'; exact q2
      | succ k => exact h3 k p' u' (by simpa using hk) (by simpa using hu')
theorem toTVs_spec : ∀ {ps : List PV} {xs : List TV}, toTVs ps = some xs → xs.length = ps.length ∧ ∀ (k : Nat) (x : TV), xs[k]? = some x → ps[k]? = some x.pv
  | [], xs, h => by cases h; simp
  | p :: r, xs, h => by
    obtain ⟨x, hx, h⟩ := Option.bind_eq_some_iff.1 h
    obtain ⟨xs', hxs, rfl⟩ := Option.map_eq_some_iff.1 h
    obtain ⟨h1, h2⟩ := toTVs_spec hxs
    refine ⟨by simp [h1], fun k y hk => ?_⟩
    cases k with
    | zero =>
      simp at hk
      subst hk
      cases p <;> simp [PV.tv] at hx <;> subst hx <;> rfl
    | succ k => simpa using h2 k y (by simpa using hk)
theorem resPVs_ok (hm : MRel g H A w) {S : St} (hS : S.H = H ∧ S.A = A) {a : Act} (hf : FRep g A S.ρ a) {vs : List ResultVar} {p : PV} (h : resPVs P S vs = some p) :
    ∃ us, (vs.mapM (resV1 a.tmps)).run P w = .ok us w ∧ PRep g A p (joinV us) := by
  obtain ⟨ps, hps, h⟩ := Option.bind_eq_some_iff.1 h
  obtain ⟨us, h1, h2, h3⟩ := resPs_ok hm hS hf hps
  refine ⟨us, h1, ?_⟩
  unfold joinP at h
  split at h
  · cases h; trivial
  · cases h
    match us, h2 with
    | [u], _ => exact h3 0 _ u rfl rfl
  · rename_i hn0 hn1
    obtain ⟨xs, hxs, rfl⟩ := Option.map_eq_some_iff.1 h
    obtain ⟨q1, q2⟩ := toTVs_spec hxs
    have hj : joinV us = .tuple us.toArray := by
      match us, h2 with
      | [], h2 => exact absurd (List.length_eq_zero_iff.1 h2.symm) hn0
      | [u], h2 =>
        match ps, h2 with
        | [q], _ => exact absurd rfl (hn1 q)
      | _ :: _ :: _, _ => rfl
    rw [hj]
    refine ⟨us.toArray, rfl, by rw [List.size_toArray, h2, q1], fun k x hk => ?_⟩
    have hlt := (List.getElem?_eq_some_iff.1 hk).1
    have hu : us[k]? = some us[k] := List.getElem?_eq_getElem (by omega)
    exact ⟨us[k], by simp, PRep_pv.1 (h3 k _ _ (q2 k x hk) hu)⟩
def RetR (P : Program) (fn : Func) (H : HMap) (A : AMap) (v : PV) (H' : HMap) (A' : AMap) (S : St) : Prop :=
  ∃ p S' f h, resPVs P S fn.results.toList = some p ∧ Weak H A ⟨fun _ => p, S.H, S.A⟩ S' ∧ S'.ρ 0 = v.im f h ∧ v.oks (fun i => H' i ≠ none) (fun κ => A' κ ≠ none) ∧ Ren H A S'.H S'.A H' A' f h
theorem effr_ok {E : Env} (hE : EnvOK E) {f : FuncId} {fn : Func} {c : Code} (hf : E.P.funcs[f]? = some fn) (hb : fn.body = some c) (hext : ∀ (args : Array Value) (w : World), (callFunc f args).run E.P w = .ok (.enter f args) w)
    (hc : codeOK E fn.ntmps c = true) {args : List PV} (hn : args.length ≤ fn.ntmps) {off : Nat} {v : PV} {H' : HMap} {A' : AMap}
    (h : Above off H A → VC E H A c ⟨RetR E.P fn H A v H' A', RetR E.P fn H A v H' A', fun _ _ => False⟩ ⟨entry args, H, A⟩) : EffOK E.P f off H A args v H' A' := by
  intro g w vals hm hd hab har
  refine .inl ⟨hext vals w, ?_⟩
  refine calls_of_wp hf hb ?_
  have hvl : vals.size = args.length := by rw [← Array.length_toList]; exact har.1
  have hrs : RS [] fn.ntmps g A w ⟨entry args, H, A⟩ { tmps := vals ++ Array.replicate (fn.ntmps - vals.size) undef, defers := [] } w := by
    refine ⟨g, hm, hd, fun t => ?_, .refl _ _ _, by simp; omega, rfl⟩
    show PRep g A ((args[t]?).getD (.c .any)) _
    cases ht : args[t]? with
    | none => exact True.intro
    | some x =>
      obtain ⟨v, hv, hp⟩ := har.2 t x ht
      have hlt := (List.getElem?_eq_some_iff.1 ht).1
      rw [Array.getD_eq_getD_getElem?, Array.getElem?_append, if_pos (by omega)]
      rw [Array.getElem?_toList] at hv
      rw [hv]
      exact hp
  refine wp_mono (code_ok hE hd c hc _ _ _ w (h hab) hrs) (fun e a' w' hq => ?_)
  have fin : (∃ S, RS [] fn.ntmps g A w S a' w' ∧ RetR E.P fn H A v H' A' S) → a'.defers = [] ∧ ∃ u, (results fn a'.tmps).run E.P w' = .ok u w' ∧
      ∃ u_1, Ending.returned u = .returned u_1 ∧ ∃ g', PRep g' A' v u_1 ∧ MRel g' H' A' w' ∧ Evol g A w g' A' w' ∧ DomOK g' H' := by
    rintro ⟨S, ⟨g1, hm1, hd1, hfr, he, hnn, hdf⟩, p, S', fr, hr, hp, hw, hv, hok, hren⟩
    obtain ⟨us, h1, h2⟩ := resPVs_ok hm1 ⟨rfl, rfl⟩ hfr hp
    obtain ⟨g2, m1, m2, m3, m4⟩ := weak_mem (S := ⟨fun _ => p, S.H, S.A⟩) hd hw hm1 he
    obtain ⟨g3, n1, n2, n3, n4⟩ := ren_mem hd hren m1 m3
    exact ⟨hdf, _, run_results fn a'.tmps h1, _, rfl, g3, n4 v _ hok (by rw [← hv]; exact m4 0 _ h2), n1, n3, n2⟩
  cases e with
  | normal => exact fin hq
  | ret => exact fin hq
  | exit id => obtain ⟨S, _, hq⟩ := hq; exact hq.elim
  | _ => exact hq.elim
end Go.PW

namespace Go.PW
def idd {α : Type} (x : α) : α := x
@[go_sem] theorem idd_eq {α : Type} (x : α) : idd x = x := Or.elim (Or.inl (b := True) rfl) id (fun _ => rfl)
@[congr] theorem Opt_congr {α : Type} {x y : Option α} {K : α → Prop} (h : idd x = y) : Opt x K = Opt y K := by rw [← h]; rfl
def GuardP (g : Option Bool) (X Y : Prop) : Prop :=
  match g with
  | some true => X
  | some false => Y
  | none => False
@[congr] theorem GuardP_congr {g h : Option Bool} {X Y : Prop} (e : idd g = h) : GuardP g X Y = GuardP h X Y := by rw [← e]; rfl
@[go_sem] theorem GuardP_true {X Y : Prop} : GuardP (some true) X Y = X := rfl
@[go_sem] theorem GuardP_false {X Y : Prop} : GuardP (some false) X Y = Y := rfl
theorem GuardP_cases {b : Bool} {X Y : Prop} (h : b = true → X) (h' : b = false → Y) : GuardP (some b) X Y := by cases b with | true => exact h rfl | false => exact h' rfl
def dstAt (ops : Array Oper) (j : Nat) : Option Nat := (ops[j]?).bind (·.dst)
@[congr] theorem dstAt_congr {ops : Array Oper} {i j : Nat} (h : idd i = j) : dstAt ops i = dstAt ops j := by rw [← h]; rfl
@[go_sem] theorem dstAt_zero {d : Option Nat} {T : TypeId} {op : Op} {p : String} {af : Array Edge} {g : Option (Nat × Bool)} {r : List Oper} : dstAt ({ dst := d, op := op, type := T, pos := p, after := af, guard := g } :: r).toArray 0 = d := by
  simp [dstAt]
@[go_sem] theorem dstAt_succ {o : Oper} {r : List Oper} {j : Nat} : dstAt (o :: r).toArray (j + 1) = dstAt r.toArray j := by
  simp [dstAt]
def guardV (want : Bool) (ρ : Nat → PV) (t : Option Nat) : Option Bool :=
  match t with
  | none => some false
  | some t => gOf want (ρ t)
@[go_sem] theorem guardV_some {want : Bool} {ρ : Nat → PV} {t : Nat} : guardV want ρ (some t) = gOf want (ρ t) := rfl
@[congr] theorem guardV_congr {want : Bool} {ρ : Nat → PV} {t u : Option Nat} (h : idd t = u) : guardV want ρ t = guardV want ρ u := by rw [← h]; rfl
variable {E : Env} {fb : Option (List Nat)} {ops : Array Oper} {ρ : Nat → PV} {H : HMap} {A : AMap} {r : List Oper} {K : St → Prop} {d : Option Nat} {T : TypeId} {op : Op} {p : String} {af : Array Edge}
@[congr] theorem RunV_congr {fb' : Option (List Nat)} {l : List Oper} {S : St} (h : idd fb = fb') : RunV E fb ops l S K = RunV E fb' ops l S K := by rw [← h]; rfl
@[go_sem] theorem RunV_nil {S : St} : RunV E fb ops [] S K = K S := rfl
@[go_sem] theorem RunV_none : RunV E fb ops ({ dst := d, op := op, type := T, pos := p, after := af, guard := none } :: r) ⟨ρ, H, A⟩ K =
    StepV E fb d (res (ev ρ) T op) H A fun v H A => RunV E fb ops r ⟨put ρ d v, H, A⟩ K :=
  propext ⟨fun h => (Opt.iff.1 h).elim fun b hb => by cases hb.1; exact hb.2.1 rfl, fun h => Opt.iff.2 ⟨true, rfl, fun _ => h, fun e => by cases e⟩⟩
@[go_sem] theorem RunV_some {j : Nat} {want : Bool} : RunV E fb ops ({ dst := d, op := op, type := T, pos := p, after := af, guard := some (j, want) } :: r) ⟨ρ, H, A⟩ K =
    GuardP (guardV want ρ (dstAt ops j)) (StepV E fb d (res (ev ρ) T op) H A fun v H A => RunV E fb ops r ⟨put ρ d v, H, A⟩ K) (RunV E fb ops r ⟨put ρ d (.c .skip), H, A⟩ K) := by
  show Opt (guardV want ρ (dstAt ops j)) _ = _
  generalize guardV want ρ (dstAt ops j) = g
  match g with
  | none => rfl
  | some true => exact propext ⟨fun h => h.1 rfl, fun h => ⟨fun _ => h, fun e => by cases e⟩⟩
  | some false => exact propext ⟨fun h => h.2 rfl, fun h => ⟨(fun e => by cases e), fun _ => h⟩⟩
@[congr] theorem StepV_congr {x y : ROp} {K : PV → HMap → AMap → Prop} (h : idd x = y) : StepV E fb d x H A K = StepV E fb d y H A K := by rw [← h]; rfl
@[go_sem] theorem put_some {t u : Nat} {v : PV} : put ρ (some t) v u = if u = t then v else ρ u := rfl
@[go_sem] theorem put_none {v : PV} : put ρ none v = ρ := rfl
@[go_sem] theorem Opt_some {α : Type} {x : α} {K : α → Prop} : Opt (some x) K = K x := rfl
@[go_sem] theorem Opt_none {α : Type} {K : α → Prop} : Opt none K = False := rfl
theorem upd_apply' {β : Type} (f : Nat → β) (a x : Nat) (b : β) : upd f a b x = if x = a then b else f x := rfl
theorem entry_nil (t : Nat) : entry [] t = .c .any := rfl
theorem entry_zero (x : PV) (xs : List PV) : entry (x :: xs) 0 = x := rfl
theorem entry_succ (x : PV) (xs : List PV) (t : Nat) : entry (x :: xs) (t + 1) = entry xs t := rfl
@[go_sem] theorem cst_int {k : IntKind} {n : Int} : cst (.int k n) = .c (.d (.lit (.int k n))) := rfl
@[go_sem] theorem cst_bool {b : Bool} : cst (.bool b) = .c (.d (.lit (.bool b))) := rfl
@[go_sem] theorem cst_string {b : ByteArray} : cst (.string b) = .c (.d (.lit (.string b))) := rfl
@[go_sem] theorem cst_float {k : FloatKind} {n : _} : cst (.float k n) = .c (.d (.lit (.float k n))) := rfl
@[go_sem] theorem cst_nil : cst (.slice none 0 0) = .c (.full []) := rfl
@[go_sem] theorem cst_pnil : cst (.pointer none) = .c (.d (.lit (.pointer none))) := rfl
@[go_sem] theorem ev_tmp {t : Nat} : ev ρ (.tmp t) = ρ t := rfl
@[go_sem] theorem ev_const {v : Value} : ev ρ (.const v) = cst v := rfl
@[go_sem] theorem ev_func {f : FuncId} : ev ρ (.func f) = .c (.fn f []) := rfl
@[go_sem] theorem resV_func {e : Operand → PV} {f : FuncId} {args : List PV} : resV e (.func f) args = .call f args := rfl
@[go_sem] theorem resV_tmp {e : Operand → PV} {t : Nat} {args : List PV} : resV e (.tmp t) args = .callv (e (.tmp t)) args := rfl
section steps
variable {KK : PV → HMap → AMap → Prop} {x y a b c : PV} {ps : List (Nat × PV)} {o : BinOp} {n t : Nat} {B : Builtin} {args caps : List PV} {f : FuncId} {ats : List TypeId}
@[go_sem] theorem S_mv : StepV E fb d (.mv x) H A KK = KK x H A := rfl
@[go_sem] theorem S_pick : StepV E fb d (.pick c a b) H A KK = Opt (boolOf? c) fun t => KK (if t then a else b) H A := by
  show Opt ((boolOf? c).map _) _ = _
  cases boolOf? c <;> rfl
@[go_sem] theorem S_build : StepV E fb d (.build T ps) H A KK = Opt (buildS E.P T ps) fun v => KK v H A := rfl
@[go_sem] theorem S_bsl : StepV E fb d (.bsl T n ps) H A KK = GuardP (some (decide (isRow E.effs T = true))) (bslV E d T n ps H fun v H' => KK v H' A) (Opt (bslS E.P T n ps) fun v => KK v H A) := by
  show (match isRow E.effs T with
    | true => bslV E d T n ps H fun v H' => KK v H' A
    | false => pureV E.P (.bsl T n ps) fun v => KK v H A) = _
  cases isRow E.effs T <;> rfl
@[go_sem] theorem bslV_some : bslV E (some t) T n ps H (fun v H' => KK v H' A) = Opt (bslC E.P T n ps) fun cs => H (E.off + t) = none ∧ KK (.c (.vsl (E.off + t) n)) (upd H (E.off + t) (some cs)) A := rfl
@[go_sem] theorem S_bin : StepV E fb d (.bin o T x y) H A KK = Opt (binS E.P o T x y) fun v => KK v H A := rfl
@[go_sem] theorem S_un {u : UnOp} : StepV E fb d (.un u x) H A KK = Opt ((litOf? x).bind fun v => (semOf (Op.unary u v)).map lit) fun v => KK v H A := rfl
@[go_sem] theorem S_conv {s : TypeId} : StepV E fb d (.conv s T x) H A KK = GuardP (some (decide (isFresh E.effs T = true))) (bytV E d s T x A fun v A' => KK v H A') (GuardP (some (decide (isQuiet E.effs s = true))) (Opt (convA E.P A s T x) fun v => KK v H A) (Opt (convS E.P s T x) fun v => KK v H A)) := by
  show (match isFresh E.effs T with
    | true => bytV E d s T x A fun v A' => KK v H A'
    | false => (match isQuiet E.effs s with
      | true => Opt (convA E.P A s T x) fun v => KK v H A
      | false => pureV E.P (.conv s T x) fun v => KK v H A)) = _
  cases isFresh E.effs T <;> cases isQuiet E.effs s <;> rfl
@[go_sem] theorem S_mks {l : PV} : StepV E fb d (.mks T l c) H A KK = GuardP (some (decide (isMut E.effs T = true))) (mksV E d T l c A fun v A' => KK v H A') (Opt (mksS E.P T l c) fun v => KK v H A) := by
  show (match isMut E.effs T with
    | true => mksV E d T l c A fun v A' => KK v H A'
    | false => pureV E.P (.mks T l c) fun v => KK v H A) = _
  cases isMut E.effs T <;> rfl
@[go_sem] theorem S_mkb {fst : List PV} : StepV E fb d (.mkb f fst caps) H A KK = Opt (capsOf fst) fun fs => Opt (capsOf caps) fun cs => KK (.c (.bfn f fs cs)) H A := by
  show Opt ((capsOf fst).bind fun fs => (capsOf caps).map _) _ = _
  cases capsOf fst <;> cases capsOf caps <;> rfl
@[go_sem] theorem S_mmk : StepV E fb (some t) (.mmk T) H A KK = (A (E.off + t, 0) = none ∧ KK (.c (.mpr (E.off + t, 0))) H (upd A (E.off + t, 0) (some (.mp [])))) := rfl
@[go_sem] theorem S_mlk {ok : Bool} : StepV E fb d (.mlk T x y ok) H A KK = Opt (lookS E.P A T x y ok) fun v => KK v H A := rfl
@[go_sem] theorem S_mup {k v : PV} : StepV E fb d (.mup T x k v) H A KK = Opt (mupS E.P A T x k v) fun A' => KK (.c .any) H A' := rfl
@[go_sem] theorem S_del {u : TypeId} {us : List TypeId} {k : PV} : StepV E fb d (.blt .delete (u :: us) T [x, k]) H A KK = Opt (mdelS E.P A u x k) fun A' => KK (.c .any) H A' := rfl
@[go_sem] theorem S_idxA : StepV E fb d (.idxA T x y) H A KK = Opt (idxAS E.P T x y) fun v => KK v H A := rfl
@[go_sem] theorem S_idx : StepV E fb d (.idx T x y) H A KK = Opt (idxS E.P T x y) fun v => KK v H A := rfl
@[go_sem] theorem S_fldA : StepV E fb d (.fldA T x n) H A KK = Opt (fldAS E.P T x n) fun v => KK v H A := rfl
@[go_sem] theorem S_fld : StepV E fb d (.fld T x n) H A KK = Opt (fldS E.P T x n) fun v => KK v H A := rfl
@[go_sem] theorem S_ext : StepV E fb d (.ext x n) H A KK = Opt (extS x n) fun v => KK v H A := rfl
@[go_sem] theorem S_len : StepV E fb d (.blt .len ats T args) H A KK = GuardP (some (decide (isCount E.effs ats = true))) (Opt (lenM E.P A ats args) fun v => KK v H A) (Opt (lenS E.P ats args) fun v => KK v H A) := by
  show (match isCount E.effs ats with
    | true => Opt (lenM E.P A ats args) fun v => KK v H A
    | false => pureV E.P (.blt .len ats T args) fun v => KK v H A) = _
  cases isCount E.effs ats <;> rfl
theorem S_min' : StepV E fb d (.blt .min ats T args) H A KK = Opt ((litsOf args).bind fun xs => (semOf (Builtin.min_ #[] T xs.toArray)).map lit) fun v => KK v H A := rfl
@[go_sem] theorem S_min2 {k k' : IntKind} {m l : Int} : StepV E fb d (.blt .min ats T [.c (.d (.lit (.int k m))), .c (.d (.lit (.int k' l)))]) H A KK = KK (lit (.int k (if l < m then l else m))) H A := by
  rw [S_min']
  simp only [litsOf, Option.map_some, Option.bind_some, Builtin.min_, List.foldlM, Builtin.min2]
  rfl
theorem S_max' : StepV E fb d (.blt .max ats T args) H A KK = Opt ((litsOf args).bind fun xs => (semOf (Builtin.max_ #[] T xs.toArray)).map lit) fun v => KK v H A := rfl
@[go_sem] theorem S_max2 {k k' : IntKind} {m l : Int} : StepV E fb d (.blt .max ats T [.c (.d (.lit (.int k m))), .c (.d (.lit (.int k' l)))]) H A KK = KK (lit (.int k (if l > m then l else m))) H A := by
  rw [S_max']
  simp only [litsOf, Option.map_some, Option.bind_some, Builtin.max_, List.foldlM, Builtin.max2]
  rfl
@[go_sem] theorem S_mkf : StepV E fb d (.mkf f caps) H A KK = Opt (capsOf caps) fun cs => KK (.c (.fn f cs)) H A := by
  show Opt ((capsOf caps).map _) _ = _
  cases capsOf caps <;> rfl
@[go_sem] theorem S_nilc : StepV E fb d (.nilc x) H A KK = Opt (nilS x) fun v => KK v H A := rfl
@[go_sem] theorem S_slc {lo hi mx : Option PV} : StepV E fb d (.slc T x lo hi mx) H A KK = slcV E.P T x lo hi mx fun v => KK v H A := rfl
@[go_sem] theorem S_alloc : StepV E fb (some t) (.alloc T) H A KK = Opt (zeroOf E.P T) fun z => H (E.off + t) = none ∧ KK (.c (.ptr (E.off + t) 0)) (upd H (E.off + t) (some z)) A := rfl
@[go_sem] theorem S_box : StepV E fb (some t) (.box T x) H A KK = Opt (boxS x) fun z => H (E.off + t) = none ∧ KK (.c (.ptr (E.off + t) 0)) (upd H (E.off + t) (some z)) A := rfl
@[go_sem] theorem S_load : StepV E fb d (.load T a) H A KK = Opt (loadS E.P fb H A T a) fun v => KK v H A := rfl
@[go_sem] theorem S_store : StepV E fb d (.store T a x) H A KK = (0 < E.P.cellsOf T ∧ Opt (storeS E.P fb H A T a x) fun m => KK (.c .skip) m.1 m.2) := rfl
@[go_sem] theorem S_app : StepV E fb (some t) (.blt .append ats T [x, y]) H A KK = appV E.P E.md E.off t A ats x y fun v A' => KK v H A' := rfl
@[go_sem] theorem S_callv : StepV E fb d (.callv x args) H A KK = callvV E H A x args KK := rfl
@[congr] theorem callvV_congr {x' : PV} {args' : List PV} (hx : idd x = x') (h : idd args = args') : callvV E H A x args KK = callvV E H A x' args' KK := by rw [← hx, ← h]; rfl
@[congr] theorem callV_congr {args' : List PV} (h : idd args = args') : callV E n f H A args KK = callV E n f H A args' KK := by rw [← h]; rfl
@[go_sem] theorem S_call : StepV E fb d (.call f args) H A KK = callV E (d.getD 0) f H A args KK := rfl
theorem S_call' {rv : RV} (he : (E.effs.contains f || E.effs.contains (2000000 + f) || E.effs.contains (7000000 + f)) = false) (h : E.Γ f (args.map PV.frz) rv) (hA : ∀ k, A (E.off + n, k) = none) (hK : KK (rv.pv (E.off + n)) H (RT.install (E.off + n) A 0 rv.list)) : callV E n f H A args KK := by
  unfold callV
  rw [(Bool.or_eq_false_iff.1 (Bool.or_eq_false_iff.1 he).1).1, (Bool.or_eq_false_iff.1 (Bool.or_eq_false_iff.1 he).1).2, (Bool.or_eq_false_iff.1 he).2]
  exact ⟨rv, h, hA, hK⟩
theorem S_callq {v : PV} (he : E.effs.contains f = false) (hq : E.effs.contains (2000000 + f) = true) (h : E.Γe f (E.off + 1000) H A (args.map PV.frz) v H A) (ha : Above (E.off + 1000) H A) (hK : KK v H A) : callV E n f H A args KK := by
  unfold callV
  rw [he, hq]
  exact ⟨v, h, ha, hK⟩
theorem S_callr {v : PV} (he : (E.effs.contains f || E.effs.contains (2000000 + f)) = false) (hq : E.effs.contains (7000000 + f) = true) (h : ∀ H2 : HMap, (∀ id, H id ≠ none → H2 id = H id) → (∀ id, E.off + 1000 ≤ id → H2 id = none) → E.Γe f (E.off + 1000) H2 A (args.map PV.frz) v H2 A)
    (ha : Above (E.off + 1000) H A) (hK : KK v H A) : callV E n f H A args KK := by
  unfold callV
  rw [(Bool.or_eq_false_iff.1 he).1, (Bool.or_eq_false_iff.1 he).2, hq]
  exact ⟨v, h, ha, hK⟩
theorem S_calle {v : PV} {H' : HMap} {A' : AMap} (he : E.effs.contains f = true) (h : E.Γe f (E.off + 1000) H A (args.map PV.frz) v H' A') (ha : Above (E.off + 1000) H A) (hK : KK v H' A') : callV E n f H A args KK := by
  unfold callV
  rw [he]
  exact ⟨v, H', A', h, ha, hK⟩
end steps
section arith
variable {P : Program} {k : IntKind} {m n : Int}
@[go_sem] theorem B_add : binS P .add T (.c (.d (.lit (.int k m)))) (.c (.d (.lit (.int k n)))) = some (lit (.int k (k.wrap (m + n)))) := by cases k <;> rfl
@[go_sem] theorem B_sub : binS P .sub T (.c (.d (.lit (.int k m)))) (.c (.d (.lit (.int k n)))) = some (lit (.int k (k.wrap (m - n)))) := by cases k <;> rfl
@[go_sem] theorem B_mul : binS P .mul T (.c (.d (.lit (.int k m)))) (.c (.d (.lit (.int k n)))) = some (lit (.int k (k.wrap (m * n)))) := by cases k <;> rfl
@[go_sem] theorem B_lss : binS P .lss T (.c (.d (.lit (.int k m)))) (.c (.d (.lit (.int k n)))) = some (lit (.bool (decide (m < n)))) := by cases k <;> rfl
@[go_sem] theorem B_leq : binS P .leq T (.c (.d (.lit (.int k m)))) (.c (.d (.lit (.int k n)))) = some (lit (.bool (decide (m ≤ n)))) := by cases k <;> rfl
@[go_sem] theorem B_gtr : binS P .gtr T (.c (.d (.lit (.int k m)))) (.c (.d (.lit (.int k n)))) = some (lit (.bool (decide (n < m)))) := by cases k <;> rfl
@[go_sem] theorem B_geq : binS P .geq T (.c (.d (.lit (.int k m)))) (.c (.d (.lit (.int k n)))) = some (lit (.bool (decide (n ≤ m)))) := by cases k <;> rfl
@[go_sem] theorem B_eql : binS P .eql T (.c (.d (.lit (.int k m)))) (.c (.d (.lit (.int k n)))) = some (lit (.bool (m == n))) := by cases k <;> rfl
@[go_sem] theorem B_neq : binS P .neq T (.c (.d (.lit (.int k m)))) (.c (.d (.lit (.int k n)))) = some (lit (.bool (m != n))) := by cases k <;> rfl
def iAnd (k : IntKind) (m n : Int) : Int := k.wrap (BitVec.ofInt k.bits m &&& BitVec.ofInt k.bits n).toNat
@[go_sem] theorem B_and : binS P .and T (.c (.d (.lit (.int k m)))) (.c (.d (.lit (.int k n)))) = some (lit (.int k (iAnd k m n))) := by cases k <;> rfl
@[go_sem] theorem B_feql {k : FloatKind} {m n : Nat} : binS P .eql T (.c (.d (.lit (.float k m)))) (.c (.d (.lit (.float k n)))) = some (lit (.bool (k.format.order m n == some .eq))) := by cases k <;> rfl
@[go_sem] theorem B_fneq {k : FloatKind} {m n : Nat} : binS P .neq T (.c (.d (.lit (.float k m)))) (.c (.d (.lit (.float k n)))) = some (lit (.bool (k.format.order m n != some .eq))) := by cases k <;> rfl
end arith
@[go_sem] theorem lit_eq {v : Value} : lit v = .c (.d (.lit v)) := rfl
@[go_sem] theorem not_bool {b : Bool} : semOf (Op.unary .not (.bool b)) = some (.bool (!b)) := rfl
section app
variable {P : Program} {md : List Nat} {k : Nat} {t e : TypeId} {els ys : List (List D)} {x y : PV} {κ : Tok} {sz n : Nat} {q : Nat} {KK : PV → AMap → Prop}
@[congr] theorem appV_congr {x' y' : PV} (hx : idd x = x') (hy : idd y = y') {ats : List TypeId} : appV P md k q A ats x y KK = appV P md k q A ats x' y' KK := by rw [← hx, ← hy]; rfl
@[go_sem] theorem appV_full (h : P.underlying t = some (.slice e)) (hy : sliceEls y = some ys) (hm : md.contains q = false) : appV P md k q A [t, t] (.c (.full els)) y KK =
    (((0 < P.cellsOf e ∧ zeroOK P e = true ∧ 0 < P.bytesOf e) ∧ (Szd (P.cellsOf e) els ∧ Szd (P.cellsOf e) ys ∧ (els.length + ys.length) * P.bytesOf e ≤ 140737488355328 ∧ A (k + q, 0) = none)) ∧
      KK (.c (.own (k + q, 0) (els ++ ys))) (upd A (k + q, 0) (some (.co (P.cellsOf e) (els ++ ys).length)))) := by
  unfold appV
  simp only [h, hy, hm, true_and, and_assoc]
@[go_sem] theorem appV_own (h : P.underlying t = some (.slice e)) (hy : sliceEls y = some ys) : appV P md k q A [t, t] (.c (.own κ els)) y KK =
    (((0 < P.cellsOf e ∧ zeroOK P e = true ∧ 0 < P.bytesOf e) ∧ (Szd (P.cellsOf e) els ∧ Szd (P.cellsOf e) ys ∧ (els.length + ys.length) * P.bytesOf e ≤ 140737488355328 ∧ A κ = some (.co (P.cellsOf e) els.length))) ∧
      KK (.c (.own κ (els ++ ys))) (upd A κ (some (.co (P.cellsOf e) (els ++ ys).length)))) := by
  unfold appV
  simp only [h, hy, true_and, and_assoc]
end app
@[go_sem] theorem sE_d {els : List (List D)} : sliceEls (.c (.d (.sl els))) = some els := rfl
@[go_sem] theorem sE_full {els : List (List D)} : sliceEls (.c (.full els)) = some els := rfl
@[go_sem] theorem sE_own {κ : Tok} {els : List (List D)} : sliceEls (.c (.own κ els)) = some els := rfl
@[go_sem] theorem iE_d {P : Program} {e : TypeId} {n : Nat} {els : List (List D)} : idxE P e n (.c (.d (.sl els))) = (els[n]?).bind fun c => if c.length = P.cellsOf e then some (.c (.eptr c 0)) else none := rfl
@[go_sem] theorem iE_full {P : Program} {e : TypeId} {n : Nat} {els : List (List D)} : idxE P e n (.c (.full els)) = (els[n]?).bind fun c => if c.length = P.cellsOf e then some (.c (.eptr c 0)) else none := rfl
@[go_sem] theorem iE_own {P : Program} {e : TypeId} {n : Nat} {κ : Tok} {els : List (List D)} : idxE P e n (.c (.own κ els)) = (els[n]?).bind fun c => if c.length = P.cellsOf e then some (.c (.eptr c 0)) else none := rfl
@[go_sem] theorem lE_d {els : List (List D)} : lenE (.c (.d (.sl els))) = some (lit (.int .i64 els.length)) := rfl
@[go_sem] theorem lE_full {els : List (List D)} : lenE (.c (.full els)) = some (lit (.int .i64 els.length)) := rfl
@[go_sem] theorem lE_own {κ : Tok} {els : List (List D)} : lenE (.c (.own κ els)) = some (lit (.int .i64 els.length)) := rfl
@[go_sem] theorem lE_vsl {id n : Nat} : lenE (.c (.vsl id n)) = some (lit (.int .i64 n)) := rfl
@[go_sem] theorem iE_vsl {P : Program} {e : TypeId} {n id len : Nat} : idxE P e n (.c (.vsl id len)) = if n < len then some (.c (.ptr id (n * P.cellsOf e))) else none := rfl
@[go_sem] theorem known_vsl {id n : Nat} : CV.known (.vsl id n) = true := rfl
@[go_sem] theorem known_bfn {f : FuncId} {c c' : List (Nat × Nat)} : CV.known (.bfn f c c') = true := rfl
@[go_sem] theorem lE_tv {κ : Tok} {sz n L : Nat} : lenE (.c (.tv κ sz n L)) = some (lit (.int .i64 n)) := rfl
@[go_sem] theorem lE_mt {κ : Tok} {sz n : Nat} : lenE (.c (.mt κ sz n)) = some (lit (.int .i64 n)) := rfl
@[go_sem] theorem natOf_lit {k : IntKind} {n : Int} : natOf? (.c (.d (.lit (.int k n)))) = if 0 ≤ n then some n.toNat else none := rfl
@[go_sem] theorem known_d {x : D} : CV.known (.d x) = true := rfl
@[go_sem] theorem known_full {x : List (List D)} : CV.known (.full x) = true := rfl
@[go_sem] theorem known_own {κ : Tok} {x : List (List D)} : CV.known (.own κ x) = true := rfl
@[go_sem] theorem known_tv {κ : Tok} {s n L : Nat} : CV.known (.tv κ s n L) = true := rfl
@[go_sem] theorem known_mt {κ : Tok} {s n : Nat} : CV.known (.mt κ s n) = true := rfl
@[go_sem] theorem known_ptr {s n : Nat} : CV.known (.ptr s n) = true := rfl
@[go_sem] theorem known_fn {f : FuncId} {c : List (Nat × Nat)} : CV.known (.fn f c) = true := rfl
@[go_sem] theorem known_mpr {κ : Tok} : CV.known (.mpr κ) = true := rfl
@[go_sem] theorem known_any : CV.known .any = false := rfl
@[go_sem] theorem known_skip : CV.known .skip = false := rfl
@[go_sem] theorem boolOf_lit {b : Bool} : boolOf? (.c (.d (.lit (.bool b)))) = some b := rfl
@[go_sem] theorem gOf_lit {w b : Bool} : gOf w (.c (.d (.lit (.bool b)))) = some (b == w) := rfl
@[go_sem] theorem gOf_skip {w : Bool} : gOf w (.c .skip) = some false := rfl
attribute [go_sem] res resC resF put_some upd_apply' entry_nil entry_zero entry_succ litOf? intOf? eqS eqB eqI eqT eqCells convS convI convT idxAS idxS idxT partS fldAS fldS addO sub splice stoG strOf? optNat extS TV.pv lenS lenT litsOf capsOf nilS loadS storeS blocked mkPV oneP cellsP CV.toD toDs CV.frz TV.frz PV.frz buildS fillA bslS bslC chunk boxS RT.tv RT.ar RT.tvs RV.pv RV.list RT.install fbOf lwE lwIds mkM lwOf List.nil_append newId capPV resMk convT2 convT
end Go.PW
