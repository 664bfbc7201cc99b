/-
  Parts of the proof, laid together: PwK.
-/
import Derived.Test.YtghlemfokpfngaaQ07

namespace Go.PW
variable {P : Program} {g : Gh} {H : HMap} {A : AMap} {w : World}
def CallTo (P : Program) (f : FuncId) (args : Array Value) (w : World) (R : Value → World → Prop) : Prop :=
  ((callFunc f args).run P w = .ok (.enter f args) w ∧ Calls P f args w (fun e w' => ∃ v, e = .returned v ∧ R v w')) ∨ ∃ v w', (callFunc f args).run P w = .ok (.value v) w' ∧ R v w'
def ArgsRep (g : Gh) (A : AMap) (xs : List PV) (vs : List Value) : Prop := vs.length = xs.length ∧ ∀ (k : Nat) (x : PV), xs[k]? = some x → ∃ v, vs[k]? = some v ∧ PRep g A x v
def noH : HMap := fun _ => none
def noA : AMap := fun _ => none
def gOnly (C : Nat → Nat → Option Value) : Gh := ⟨C, fun _ => none, fun _ => undef, fun _ => none⟩
def RV.am (r : RV) : AMap := RT.install 0 noA 0 r.list
def CV.closed : CV → Bool
  | .any | .skip | .d _ | .full _ | .eptr _ _ => true
  | .fn _ caps => caps.isEmpty
  | _ => false
def PV.closed : PV → Bool
  | .c x => x.closed
  | .agg cs => cs.all CV.closed
  | .tup _ => false
def PureOK (P : Program) (f : FuncId) (args : List PV) (r : RV) : Prop :=
  args.all PV.closed = true ∧ ∀ (C : Nat → Nat → Option Value) (w : World) (vals : Array Value), (∀ b o v, C b o = some v → w.cell? ⟨b, o, none⟩ = some v) → ArgsRep (gOnly C) noA args vals.toList →
    CallTo P f vals w fun v w' => ∃ g', PRep g' r.am (r.pv 0) v ∧ MRel g' noH r.am w' ∧ Evol (gOnly C) noA w g' r.am w'
def EffOK (P : Program) (f : FuncId) (off : Nat) (H : HMap) (A : AMap) (args : List PV) (v : PV) (H' : HMap) (A' : AMap) : Prop :=
  ∀ (g : Gh) (w : World) (vals : Array Value), MRel g H A w → DomOK g H → Above off H A → ArgsRep g A args vals.toList →
    CallTo P f vals w fun u w' => ∃ g', PRep g' A' v u ∧ MRel g' H' A' w' ∧ Evol g A w g' A' w' ∧ DomOK g' H'
structure EnvOK (E : Env) : Prop where
  mixed : E.P.follows .mixedOrders = true
  pure : ∀ f args r, E.Γ f args r → PureOK E.P f args r
  eff : ∀ f off H A args v H' A', E.Γe f off H A args v H' A' → EffOK E.P f off H A args v H' A'
theorem inst_other {id : Nat} {A : AMap} : ∀ (rs : List RT) (k : Nat) (κ : Tok), κ.1 ≠ id → RT.install id A k rs κ = A κ
  | [], _, _, _ => rfl
  | r :: rs, k, κ, h => by
    unfold RT.install
    cases r.ar with
    | some ar =>
      simp only
      rw [upd_other _ _ (fun e => h (by rw [e]))]
      exact inst_other rs (k + 1) κ h
    | none => exact inst_other rs (k + 1) κ h
theorem inst_same {id : Nat} {A : AMap} : ∀ (rs : List RT) (k j : Nat), RT.install id A k rs (id, j) = (RT.install 0 noA k rs (0, j)).or (A (id, j))
  | [], _, _ => rfl
  | r :: rs, k, j => by
    unfold RT.install
    cases r.ar with
    | some ar =>
      simp only
      by_cases h : j = k
      · subst h
        rw [upd_same, upd_same]; rfl
      · rw [upd_other _ _ (by simp [h]), upd_other _ _ (by simp [h])]
        exact inst_same rs (k + 1) j
    | none => exact inst_same rs (k + 1) j
theorem merge (hm : MRel g H A w) {id : Nat} (hfresh : ∀ k, A (id, k) = none) {rs : List RT} {g' : Gh} {w' : World} (hm' : MRel g' noH (RT.install 0 noA 0 rs) w') (hev : Evol (gOnly g.C) noA w g' (RT.install 0 noA 0 rs) w') :
    ∃ g'', MRel g'' H (RT.install id A 0 rs) w' ∧ Evol g A w g'' (RT.install id A 0 rs) w' ∧ g''.β = g.β ∧ g''.C = g'.C ∧ (∀ k, g''.τ (id, k) = g'.τ (0, k)) := by
  let g'' : Gh := { C := g'.C, β := g.β, τ := fun κ => if κ.1 = id then g'.τ (0, κ.2) else g.τ κ, O := fun b => if b < w.heap.size then g.O b else match g'.O b with
    | some (.tok κ) => some (.tok (id, κ.2))
    | _ => none }
  have hC : ∀ b o v, g.C b o = some v → g''.C b o = some v := hev.mono.C
  have hinst : ∀ k, RT.install id A 0 rs (id, k) = RT.install 0 noA 0 rs (0, k) := fun k => by
    rw [inst_same, hfresh]
    cases RT.install 0 noA 0 rs (0, k) <;> rfl
  have hne : ∀ κ ar, A κ = some ar → κ.1 ≠ id := fun κ ar h e => by
    have := hfresh κ.2
    rw [← e] at this
    rw [show (κ.1, κ.2) = κ from rfl] at this
    rw [this] at h
    cases h
  have hM : Mono g A g'' (RT.install id A 0 rs) := ⟨hC, fun _ _ h => h, fun κ ar h => ⟨ar, by rw [inst_other rs 0 κ (hne κ ar h)]; exact h, by
    rw [show g''.τ κ = g.τ κ from if_neg (hne κ ar h)]; exact .refl _ _⟩⟩
  have hO : ∀ b, b < w.heap.size → g''.O b = g.O b := fun b hb => if_pos hb
  have hOn : ∀ b κ, g'.O b = some (.tok κ) → w.heap.size ≤ b := fun b κ h => by
    rcases Nat.lt_or_ge b w.heap.size with hb | hb
    · have := hev.own b hb rfl
      rw [this] at h
      cases h
    · exact hb
  refine ⟨g'', ⟨hm'.com, ?_, ?_, ?_⟩, ⟨hM, fun b hb _ => hev.frame b hb rfl, fun b hb ho => by rw [hO b hb]; exact ho, fun b hb _ o => hev.old b hb rfl o, hev.size, hev.os, hev.tape, hev.output⟩, rfl, rfl, fun k => if_pos rfl⟩
  · intro i b hb
    obtain ⟨ho, hc, cs, vs, e, fz, hH, hh, hu, hr⟩ := hm.var i b hb
    have hlt := heap_lt hh
    exact ⟨by rw [hO b hlt]; exact ho, fun o => by rw [show g''.C b o = g'.C b o from rfl, hev.old b hlt rfl o]; exact hc o, cs, vs, e, fz, hH, by rw [hev.frame b hlt rfl]; exact hh, hu, hr.mono hM⟩
  · intro κ ar hA
    by_cases hk : κ.1 = id
    · obtain ⟨κ1, k⟩ := κ
      simp only at hk
      subst hk
      rw [hinst] at hA
      have ht := hm'.tok (0, k) ar hA
      have hτ : g''.τ (κ1, k) = g'.τ (0, k) := if_pos rfl
      have hO' : ∀ b, g'.O b = some (.tok (0, k)) → g''.O b = some (.tok (κ1, k)) := fun b h => by
        have := hOn b _ h
        simp only [g'']
        rw [if_neg (by omega), h]
      cases ar with
      | co sz n =>
        obtain ⟨a, cap, h1, h2, h3⟩ := ht
        exact ⟨a, cap, hτ.trans h1, h2, h3.imp id fun ⟨b, e1, ho, hc, rest⟩ => ⟨b, e1, hO' b ho, hc, rest⟩⟩
      | mu sz els =>
        obtain ⟨hs, a, cap, h1, h2, h3⟩ := ht
        exact ⟨hs, a, cap, hτ.trans h1, h2, h3.imp id fun ⟨b, e1, ho, hc, rest⟩ => ⟨b, e1, hO' b ho, hc, rest⟩⟩
      | mp m =>
        obtain ⟨b, es, clock, h1, ho, rest⟩ := ht
        exact ⟨b, es, clock, hτ.trans h1, hO' b ho, rest⟩
      | mpi m cur left bi =>
        obtain ⟨b, es, clock, h1, ho, hc, hh, hr, seen, ho2, rest⟩ := ht
        exact ⟨b, es, clock, hτ.trans h1, hO' b ho, hc, hh, hr, seen, hO' bi ho2, rest⟩
      | si s pos =>
        obtain ⟨b, h1, ho, rest⟩ := ht
        exact ⟨b, hτ.trans h1, hO' b ho, rest⟩
    · rw [inst_other rs 0 κ hk] at hA
      refine (hm.tok κ ar hA).frame (if_neg hk) hC (fun b ho => ?_)
      have hlt := hm.own b _ ho
      exact ⟨by rw [hO b hlt]; exact ho, hev.frame b hlt rfl, fun o => hev.old b hlt rfl o⟩
  · intro b o ho
    by_cases hb : b < w.heap.size
    · exact Nat.lt_of_lt_of_le hb hev.size
    · simp only [g'', if_neg hb] at ho
      split at ho
      · rename_i κ h
        exact hm'.own b _ h
      · cases ho
theorem RT_tv_rep {g' g'' : Gh} {A' A'' : AMap} (hC : g''.C = g'.C) {id k : Nat} (hA : ∀ ar, A' (0, k) = some ar → A'' (id, k) = some ar) (hτ : g''.τ (id, k) = g'.τ (0, k)) {r : RT} {v : Value} (h : TRep g' A' (r.tv (0, k)) v) : TRep g'' A'' (r.tv (id, k)) v := by
  cases r with
  | d x => exact DRep.mono (fun b o v h => by rw [hC]; exact h) h
  | own sz els =>
    obtain ⟨h1, sz', n, h2, h3, h4⟩ := h
    exact ⟨DRep.mono (fun b o v h => by rw [hC]; exact h) h1, sz', n, hA _ h2, h3, fun e => (h4 e).imp (fun h => hτ.trans h) (fun h => h)⟩
  | mu sz els =>
    obtain ⟨a, cap, els', h1, h2, h3, h4, h5⟩ := h
    exact ⟨a, cap, els', h1, h2, hA _ h3, h4, fun e => (h5 e).imp (fun h => hτ.trans h) (fun h => h)⟩
  | agg cs =>
    obtain ⟨arr, e, h1, h2⟩ := h
    refine ⟨arr, e, h1, fun k c hk => ?_⟩
    obtain ⟨v, hv, hr⟩ := h2 k c hk
    refine ⟨v, hv, ?_⟩
    simp only [List.getElem?_map, Option.map_eq_some_iff] at hk
    obtain ⟨x, _, rfl⟩ := hk
    exact DRep.mono (fun b o v h => by rw [hC]; exact h) hr
theorem length_tvs (id : Nat) : ∀ (rs : List RT) (k : Nat), (RT.tvs id k rs).length = rs.length
  | [], _ => rfl
  | _ :: rs, k => by simp [RT.tvs, length_tvs id rs]
theorem getElem?_tvs (id : Nat) : ∀ (rs : List RT) (k j : Nat), (RT.tvs id k rs)[j]? = (rs[j]?).map fun r => r.tv (id, k + j)
  | [], _, _ => by simp [RT.tvs]
  | r :: rs, k, 0 => by simp [RT.tvs]
  | r :: rs, k, j + 1 => by simp only [RT.tvs, List.getElem?_cons_succ, getElem?_tvs id rs]; congr; funext r; congr 2; omega
theorem RV_pv_rep {g' g'' : Gh} {A' A'' : AMap} (hC : g''.C = g'.C) {id : Nat} (hA : ∀ k ar, A' (0, k) = some ar → A'' (id, k) = some ar) (hτ : ∀ k, g''.τ (id, k) = g'.τ (0, k)) {r : RV} {v : Value} (h : PRep g' A' (r.pv 0) v) : PRep g'' A'' (r.pv id) v := by
  cases r with
  | one r => exact PRep_pv.2 (RT_tv_rep hC (hA 0) (hτ 0) (PRep_pv.1 h))
  | tup rs =>
    obtain ⟨arr, e, hs, hr⟩ := h
    refine ⟨arr, e, by rw [hs, length_tvs, length_tvs], fun k x hk => ?_⟩
    rw [getElem?_tvs] at hk
    obtain ⟨r, hr', rfl⟩ := Option.map_eq_some_iff.1 hk
    obtain ⟨u, hu, ht⟩ := hr k (r.tv (0, 0 + k)) (by rw [getElem?_tvs, hr']; rfl)
    exact ⟨u, hu, RT_tv_rep hC (hA _) (hτ _) ht⟩
theorem CRep_frz {c : CV} {v : Value} (h : CRep g A c v) : CRep g A c.frz v := by
  cases c with
  | full els => exact h.1
  | own κ els => exact h.1
  | _ => exact h
theorem PRep_frz {x : PV} {v : Value} (h : PRep g A x v) : PRep g A x.frz v := by
  cases x with
  | c x => exact CRep_frz h
  | agg cs =>
    obtain ⟨arr, e, h1, h2⟩ := h
    refine ⟨arr, e, by simpa using h1, fun k c hk => ?_⟩
    simp only [List.getElem?_map, Option.map_eq_some_iff] at hk
    obtain ⟨c', hc', rfl⟩ := hk
    obtain ⟨v, hv, hr⟩ := h2 k c' hc'
    exact ⟨v, hv, CRep_frz hr⟩
  | tup xs => exact h
theorem CRep_closed {c : CV} {v : Value} (hc : c.closed = true) (h : CRep g A c v) : CRep (gOnly g.C) noA c v := by
  cases c with
  | any => trivial
  | skip => exact h
  | d x => exact h
  | full els => exact h
  | eptr e off => exact h
  | fn f caps =>
    obtain ⟨vs, e, h1, h2⟩ := h
    refine ⟨vs, e, h1, fun k p hk => ?_⟩
    have : caps = [] := by simpa [CV.closed] using hc
    subst this
    simp at hk
  | _ => cases hc
theorem PRep_closed {x : PV} {v : Value} (hc : x.closed = true) (h : PRep g A x v) : PRep (gOnly g.C) noA x v := by
  cases x with
  | c x => exact CRep_closed hc h
  | agg cs =>
    obtain ⟨arr, e, h1, h2⟩ := h
    refine ⟨arr, e, h1, fun k c hk => ?_⟩
    obtain ⟨v, hv, hr⟩ := h2 k c hk
    exact ⟨v, hv, CRep_closed (List.all_eq_true.1 hc c (List.mem_of_getElem? hk)) hr⟩
  | tup xs => cases hc
theorem ArgsRep_map {ρ : Nat → PV} {a : Act} (hf : FRep g A ρ a) (args : Array Operand) : ArgsRep g A ((args.toList.map (ev ρ)).map PV.frz) (args.map a.eval).toList := by
  refine ⟨by simp, fun k x hk => ?_⟩
  simp only [List.map_map, List.getElem?_map, Option.map_eq_some_iff] at hk
  obtain ⟨y, hy, rfl⟩ := hk
  exact ⟨a.eval y, by simp only [Array.getElem?_toList] at hy; simp [hy], PRep_frz (PRep_ev hf y)⟩
theorem wp_value {o : Oper} {a : Act} {K : Act → World → Prop} {Q : Exit → Act → World → Prop} {u : Value} {w' : World} (h : (execOp a.eval o).run P w = .ok (.value u) w') (hK : K (a.put o.dst u) w') : o.wp P a w K Q := by
  unfold Oper.wp
  rw [h]
  exact hK
theorem wp_callTo {o : Oper} {a : Act} {K : Act → World → Prop} {Q : Exit → Act → World → Prop} {f : FuncId} {args : Array Value} {R : Value → World → Prop} (h : (execOp a.eval o).run P w = (callFunc f args).run P w) (hc : CallTo P f args w R)
    (hK : ∀ v w', R v w' → K (a.put o.dst v) w') : o.wp P a w K Q := by
  unfold Oper.wp
  rw [h]
  rcases hc with ⟨h1, h2⟩ | ⟨v, w', h1, h2⟩
  · rw [h1]
    refine Calls.mono h2 (fun e w' he => ?_)
    obtain ⟨v, rfl, hr⟩ := he
    exact hK v w' hr
  · rw [h1]
    exact hK v w' h2
theorem finish {o : Oper} {a : Act} {K : Act → World → Prop} {Q : Exit → Act → World → Prop} {s : Sem Value} {v : PV} (hd : DomOK g H) (hp : POk P g H A w s v) (he : execOp a.eval o = (do pure (Next.value (← s))))
    (hK : ∀ u w' g', PRep g' A v u → MRel g' H A w' → Evol g A w g' A w' → DomOK g' H → K (a.put o.dst u) w') : o.wp P a w K Q := by
  obtain ⟨u, w', g', h1, h2, h3, h4, h5⟩ := hp
  refine wp_value (u := u) (w' := w') ?_ (hK u w' g' h2 h3 h4 (fun id hi => by rw [h5]; exact hd id hi))
  rw [he, Sem.run_bind, h1]
  rfl
end Go.PW
