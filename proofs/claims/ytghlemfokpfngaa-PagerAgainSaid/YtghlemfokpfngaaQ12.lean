/-
  Parts of the proof, laid together: PwP, PwQ, PwQa.
-/
import Derived.Test.YtghlemfokpfngaaQ11

namespace Go.PW
variable {P : Program} {g : Gh} {H : HMap} {A : AMap} {w : World}
def entry (args : List PV) : Nat → PV := fun t => (args[t]?).getD (.c .any)
def resOne (P : Program) (S : St) : ResultVar → Option PV
  | .tmp t => some (S.ρ t)
  | .cell t T => loadS P none S.H S.A T (S.ρ t)
def RetT (A : AMap) (k : Option Tok) (r : RT) (p : PV) : Prop :=
  match r with
  | .d x => p.frz = .c (.d x) ∨ ∃ κ sz els, k = some κ ∧ x = .sl els ∧ p = .c (.mt κ sz els.length) ∧ A κ = some (.mu sz els)
  | .agg cs => p.frz = .agg (cs.map .d)
  | .own sz els => (∃ κ, k = some κ ∧ p = .c (.own κ els) ∧ A κ = some (.co sz els.length)) ∨ p = .c (.full els)
  | .mu sz els => (∃ κ, k = some κ ∧ p = .c (.mt κ sz els.length) ∧ A κ = some (.mu sz els)) ∨ (p = .c (.full []) ∧ els = [])
def RetL (P : Program) (S : St) (ks : List (Option Tok)) : List ResultVar → List RT → Prop
  | [], [] => ks = []
  | v :: vs, r :: rs => ∃ p, resOne P S v = some p ∧ RetT S.A ks.head?.join r p ∧ RetL P S ks.tail vs rs
  | _, _ => False
def Apart (ks : List (Option Tok)) : Prop := ∀ (i j : Nat) (κ : Tok), ks[i]? = some (some κ) → ks[j]? = some (some κ) → i = j
def Ret (P : Program) (fn : Func) (r : RV) (S : St) : Prop :=
  (match r with | .one _ => True | .tup rs => rs.length ≠ 1) ∧ ∃ ks, Apart ks ∧ RetL P S ks fn.results.toList r.list
def OneR (g : Gh) (A : AMap) (w : World) (k : Option Tok) (r : RT) (u : Value) : Prop :=
  match r with
  | .d x => DRep g.C x u ∨ ∃ κ sz els, k = some κ ∧ x = .sl els ∧ TokRep g w κ (.mu sz els) ∧ (g.τ κ = u ∨ (els = [] ∧ ∃ a, u = .slice a 0 0))
  | .agg cs => ∃ arr : Array Value, u = .agg arr ∧ CsRep g A (cs.map .d) arr.toList
  | .own sz els => DRep g.C (.sl els) u ∧ ((∃ κ, k = some κ ∧ g.τ κ = u ∧ TokRep g w κ (.co sz els.length)) ∨ capFull u)
  | .mu sz els => (∃ κ a cap, k = some κ ∧ g.τ κ = u ∧ TokRep g w κ (.mu sz els) ∧ u = .slice a els.length cap ∧ (0 < els.length → ∃ b, a = some ⟨b, 0, none⟩)) ∨ (els = [] ∧ ∃ a, u = .slice a 0 0)
theorem oneR_of (hm : MRel g H A w) {k : Option Tok} {r : RT} {p : PV} {u : Value} (h : RetT A k r p) (hp : PRep g A p u) : OneR g A w k r u := by
  cases r with
  | d x =>
    rcases h with h | ⟨κ, sz, els, hk, hx, rfl, hA⟩
    · have := PRep_frz hp
      rw [show p.frz = .c (.d x) from h] at this
      exact .inl this
    · obtain ⟨a, cap, els', e, ha, hA', hl, ht⟩ := hp
      rw [hA] at hA'
      cases hA'
      rcases ht rfl with ht | ⟨a', e'⟩
      · exact .inr ⟨κ, sz, els, hk, hx, hm.tok κ _ hA, .inl ht⟩
      · rw [e'] at e
        injection e with _ e1 e2
        exact .inr ⟨κ, sz, els, hk, hx, hm.tok κ _ hA, .inr ⟨List.length_eq_zero_iff.1 e1.symm, a', e'⟩⟩
  | agg cs =>
    have := PRep_frz hp
    rw [show p.frz = .agg (cs.map .d) from h] at this
    exact this
  | own sz els =>
    rcases h with ⟨κ, hk, rfl, hA⟩ | rfl
    · obtain ⟨hd, sz', n, hA', hl, ht⟩ := hp
      rw [hA] at hA'
      cases hA'
      refine ⟨hd, ?_⟩
      rcases ht rfl with ht | ⟨a, e⟩
      · exact .inl ⟨κ, hk, ht, hm.tok κ _ hA⟩
      · exact .inr (by rw [e]; rfl)
    · exact ⟨hp.1, .inr hp.2⟩
  | mu sz els =>
    rcases h with ⟨κ, hk, rfl, hA⟩ | ⟨rfl, rfl⟩
    · obtain ⟨a, cap, els', e, ha, hA', hl, ht⟩ := hp
      rw [hA] at hA'
      cases hA'
      rcases ht rfl with ht | ⟨a', e'⟩
      · exact .inl ⟨κ, a, cap, hk, ht, hm.tok κ _ hA, e, ha⟩
      · rw [e'] at e
        injection e with _ e1 e2
        exact .inr ⟨List.length_eq_zero_iff.1 e1.symm, a', e'⟩
    · obtain ⟨hd, hf⟩ := hp
      obtain ⟨a, cap, rfl, _⟩ := DRep_len hd
      simp only [capFull] at hf
      subst hf
      exact .inr ⟨rfl, a, rfl⟩
theorem inst_get : ∀ (rs : List RT) (k : Nat) (κ : Tok) (ar : Arr), RT.install 0 noA k rs κ = some ar → ∃ j r, κ = (0, k + j) ∧ rs[j]? = some r ∧ r.ar = some ar
  | [], _, _, _, h => by cases h
  | r :: rs, k, κ, ar, h => by
    unfold RT.install at h
    have rest : RT.install 0 noA (k + 1) rs κ = some ar → ∃ j r', κ = (0, k + j) ∧ (r :: rs)[j]? = some r' ∧ r'.ar = some ar := fun h => by
      obtain ⟨j, r', h1, h2, h3⟩ := inst_get rs (k + 1) κ ar h
      exact ⟨j + 1, r', by rw [h1]; congr 1; omega, by simpa using h2, h3⟩
    cases hr : r.ar with
    | none => rw [hr] at h; exact rest h
    | some ar' =>
      rw [hr] at h
      simp only at h
      by_cases hk : κ = (0, k)
      · subst hk
        rw [upd_same] at h
        cases h
        exact ⟨0, r, rfl, rfl, hr⟩
      · rw [upd_other _ _ hk] at h
        exact rest h
theorem inst_at : ∀ (rs : List RT) (k j : Nat) (r : RT) (ar : Arr), rs[j]? = some r → r.ar = some ar → RT.install 0 noA k rs (0, k + j) = some ar
  | [], _, _, _, _, h, _ => by simp at h
  | r :: rs, k, 0, r', ar, h, hr => by
    simp at h
    subst h
    unfold RT.install
    rw [hr]
    exact upd_same _ _ _
  | r :: rs, k, j + 1, r', ar, h, hr => by
    have ih := inst_at rs (k + 1) j r' ar (by simpa using h) hr
    rw [show k + 1 + j = k + (j + 1) by omega] at ih
    unfold RT.install
    cases r.ar with
    | none => exact ih
    | some ar' =>
      simp only
      rw [upd_other _ _ (by simp)]
      exact ih
open Classical in
theorem ret_ok {C : Nat → Nat → Option Value} {w0 : World} (hm : MRel g H A w) (he : Evol (gOnly C) noA w0 g A w) (rs : List RT) (ks : List (Option Tok)) (us : List Value) (hap : Apart ks) (hl : us.length = rs.length)
    (h : ∀ (k : Nat) (r : RT) (u : Value), rs[k]? = some r → us[k]? = some u → OneR g A w (ks[k]?).join r u) :
    ∃ g', MRel g' noH (RT.install 0 noA 0 rs) w ∧ Evol (gOnly C) noA w0 g' (RT.install 0 noA 0 rs) w ∧ ∀ (k : Nat) (r : RT) (u : Value), rs[k]? = some r → us[k]? = some u → TRep g' (RT.install 0 noA 0 rs) (r.tv (0, k)) u := by
  let G : Nat → Prop := fun b => ∃ (k : Nat) (κ : Tok) (x : D), rs[k]? = some (.d x) ∧ ks[k]? = some (some κ) ∧ g.O b = some (.tok κ)
  let g' : Gh := { C := fun b o => if G b then w.cell? ⟨b, o, none⟩ else g.C b o, β := fun _ => none, τ := fun κ => us.getD κ.2 undef, O := fun b => if h : ∃ (k : Nat) (κ : Tok), ks[k]? = some (some κ) ∧ g.O b = some (.tok κ) then some (.tok (0, Classical.choose h)) else none }
  have hO : ∀ (b k : Nat) (κ : Tok), ks[k]? = some (some κ) → g.O b = some (.tok κ) → g'.O b = some (.tok (0, k)) := by
    intro b k κ h1 h2
    have hex : ∃ (k : Nat) (κ : Tok), ks[k]? = some (some κ) ∧ g.O b = some (.tok κ) := ⟨k, κ, h1, h2⟩
    simp only [g', dif_pos hex]
    obtain ⟨κ', h3, h4⟩ := Classical.choose_spec hex
    rw [h2] at h4
    cases h4
    rw [hap _ _ _ h3 h1]
  have hOn : ∀ b, g.O b = none → g'.O b = none := by
    intro b hb
    have : ¬ ∃ (k : Nat) (κ : Tok), ks[k]? = some (some κ) ∧ g.O b = some (.tok κ) := by rintro ⟨k, κ, _, h⟩; rw [hb] at h; cases h
    simp only [g', dif_neg this]
  have hCm : ∀ b o v, g.C b o = some v → g'.C b o = some v := by
    intro b o v e
    simp only [g']
    split
    · exact hm.com b o v e
    · exact e
  have hCn : ∀ b o, ¬ G b → g'.C b o = g.C b o := by
    intro b o e
    simp only [g', if_neg e]
  have hCg : ∀ b o, G b → g'.C b o = w.cell? ⟨b, o, none⟩ := by
    intro b o e
    simp only [g', if_pos e]
  have hGt : ∀ (b j : Nat) (κ : Tok) (r : RT), rs[j]? = some r → (∀ x, r ≠ .d x) → ks[j]? = some (some κ) → g.O b = some (.tok κ) → ¬ G b := by
    rintro b j κ r h1 h2 h3 h4 ⟨k', κ', x, h5, h6, h7⟩
    rw [h4] at h7
    cases h7
    have := hap _ _ _ h3 h6
    subst this
    rw [h1] at h5
    exact h2 x (Option.some.inj h5)
  have hτ : ∀ k u, us[k]? = some u → g'.τ (0, k) = u := fun k u hu => by simp [g', List.getD_eq_getElem?_getD, hu]
  have hk : ∀ (k : Nat) (κ : Tok), (ks[k]?).join = some κ → ks[k]? = some (some κ) := fun k κ h => by
    cases hh : ks[k]? with
    | none => rw [hh] at h; cases h
    | some x => rw [hh] at h; simp at h; rw [h]
  refine ⟨g', ⟨?_, fun id b hb => (by cases hb), ?_, ?_⟩, ⟨⟨fun b o v e => hCm b o v (he.mono.C b o v e), fun id b hb => (by cases hb), fun κ ar hA => (by cases hA)⟩, he.frame, fun b hb ho => hOn b (he.own b hb ho), fun b hb ho o => (hCn b o (by rintro ⟨k', κ', x, _, _, h7⟩; rw [he.own b hb ho] at h7; cases h7)).trans (he.old b hb ho o), he.size, he.os, he.tape, he.output⟩, ?_⟩
  · intro b o v e
    by_cases hG : G b
    · rw [← hCg b o hG]; exact e
    · rw [hCn b o hG] at e; exact hm.com b o v e
  · intro κ ar hA
    obtain ⟨j, r, rfl, hr, har⟩ := inst_get rs 0 κ ar hA
    rw [Nat.zero_add]
    have hlt := (List.getElem?_eq_some_iff.1 hr).1
    have hu : us[j]? = some us[j] := List.getElem?_eq_getElem (by omega)
    have h1 := h j r us[j] hr hu
    have ht := hτ j us[j] hu
    generalize us[j] = u at *
    cases r with
    | d x => cases har
    | agg cs => cases har
    | own sz els =>
      cases har
      obtain ⟨hd, h2⟩ := h1
      rcases h2 with ⟨κ, hkk, hτκ, htr⟩ | hf
      · obtain ⟨a, cap, e1, e2, e3⟩ := htr
        refine ⟨a, cap, by rw [ht, ← hτκ]; exact e1, e2, e3.imp id ?_⟩
        rintro ⟨b, rfl, ho, hC, rest⟩
        exact ⟨b, rfl, hO b j κ (hk j κ hkk) ho, fun o h => (hCn b o (hGt b j κ _ hr (fun x e => by cases e) (hk j κ hkk) ho)).trans (hC o h), rest⟩
      · obtain ⟨a, cap, rfl, hle, _⟩ := DRep_len hd
        simp only [capFull] at hf
        exact ⟨a, cap, ht, hle, .inl hf⟩
    | mu sz els =>
      cases har
      rcases h1 with ⟨κ, a', cap', hkk, hτκ, htr, _, _⟩ | ⟨rfl, a, rfl⟩
      · obtain ⟨hs, a, cap, e1, e2, e3⟩ := htr
        refine ⟨hs, a, cap, by rw [ht, ← hτκ]; exact e1, e2, e3.imp id ?_⟩
        rintro ⟨b, rfl, ho, hC, vs, e, fz, q1, q2, q3, q4⟩
        refine ⟨b, rfl, hO b j κ (hk j κ hkk) ho, fun o => (hCn b o (hGt b j κ _ hr (fun x e => by cases e) (hk j κ hkk) ho)).trans (hC o), vs, e, fz, q1, q2, q3, fun i k e' x h1 h2 => ?_⟩
        obtain ⟨u, hu, hd⟩ := q4 i k e' x h1 h2
        exact ⟨u, hu, DRep.mono hCm hd⟩
      · exact ⟨by simp [Szd], a, 0, ht, Nat.le_refl _, .inl rfl⟩
  · intro b o ho
    cases hb : g.O b with
    | none => rw [hOn b hb] at ho; cases ho
    | some o' => exact hm.own b o' hb
  · intro k r u hr hu
    have h1 := h k r u hr hu
    have hat := fun ar har => inst_at rs 0 k r ar hr har
    rw [Nat.zero_add] at hat
    cases r with
    | d x =>
      rcases h1 with h1 | ⟨κ, sz, els, hkk, rfl, htr, hu⟩
      · exact DRep.mono hCm h1
      · rcases hu with hτκ | ⟨rfl, a, rfl⟩
        · obtain ⟨hs, a, cap', e1, e2, e3⟩ := htr
          rw [e1] at hτκ
          subst hτκ
          rcases e3 with e3 | ⟨b, rfl, ho, hC, vs, e, fz, q1, q2, q3, q4⟩
          · subst e3
            obtain rfl : els = [] := List.length_eq_zero_iff.1 (by omega)
            exact .nil a
          · have hG : G b := ⟨k, κ, _, hr, hk k κ hkk, ho⟩
            refine .sl els b 0 cap' sz els.length (fun i k => (vs[i * sz + k]?).getD undef) rfl e2 hs (fun i k' hi hk' => ?_) (fun i k' e' x h1 h2 => ?_)
            · obtain ⟨u, hu, _⟩ := q4 i k' els[i] (els[i][k']'(by rw [hs _ (List.getElem_mem hi)]; exact hk')) (List.getElem?_eq_getElem hi) (List.getElem?_eq_getElem _)
              rw [hCg b _ hG, Nat.zero_add]
              show _ = some ((vs[i * sz + k']?).getD undef)
              rw [hu]
              exact cell_of_heap q1 hu
            · obtain ⟨u, hu, hd⟩ := q4 i k' e' x h1 h2
              show DRep g'.C x ((vs[i * sz + k']?).getD undef)
              rw [hu]
              exact DRep.mono hCm hd
        · exact .nil a
    | agg cs =>
      obtain ⟨arr, e, h2, h3⟩ := h1
      refine ⟨arr, e, h2, fun k c hk => ?_⟩
      obtain ⟨v, hv, hr⟩ := h3 k c hk
      refine ⟨v, hv, ?_⟩
      simp only [List.getElem?_map, Option.map_eq_some_iff] at hk
      obtain ⟨x, _, rfl⟩ := hk
      exact DRep.mono hCm hr
    | own sz els => exact ⟨DRep.mono hCm h1.1, sz, _, hat _ rfl, Nat.le_refl _, fun _ => .inl (hτ k u hu)⟩
    | mu sz els =>
      rcases h1 with ⟨κ, a, cap, hkk, hτκ, htr, e, ha⟩ | ⟨rfl, a, rfl⟩
      · exact ⟨a, cap, els, e, ha, hat _ rfl, Nat.le_refl _, fun _ => .inl (hτ k u hu)⟩
      · exact ⟨a, 0, [], rfl, by simp, hat _ rfl, Nat.le_refl _, fun _ => .inr ⟨a, rfl⟩⟩
def resV1 (tmps : Array Value) : ResultVar → Sem Value
  | .tmp t => pure (tmps.getD t undef)
  | .cell t T => do loadVar T (← asAddr (tmps.getD t undef))
theorem results_ok (hm : MRel g H A w) {S : St} (hS : S.H = H ∧ S.A = A) {a : Act} (hf : FRep g A S.ρ a) : ∀ (vs : List ResultVar) (rs : List RT) (ks : List (Option Tok)), RetL P S ks vs rs →
    ∃ us : List Value, (vs.mapM (resV1 a.tmps)).run P w = .ok us w ∧ us.length = rs.length ∧
      ∀ (k : Nat) (r : RT) (u : Value), rs[k]? = some r → us[k]? = some u → OneR g A w (ks[k]?).join r u
  | [], [], ks, h => ⟨[], by simp, rfl, by simp⟩
  | v :: vs, r :: rs, ks, h => by
    obtain ⟨p, hp, hrt, h⟩ := h
    obtain ⟨us, h1, h2, h3⟩ := results_ok hm hS hf vs rs ks.tail h
    obtain ⟨hSH, hSA⟩ := hS
    have hone : ∃ u, ((resV1 a.tmps) v).run P w = .ok u w ∧ PRep g A p u := by
      cases v with
      | tmp t =>
        cases hp
        exact ⟨_, rfl, hf t⟩
      | cell t T =>
        unfold resOne at hp
        simp only at hp
        rw [hSH, hSA] at hp
        obtain ⟨X, hX, hpr⟩ := load_ok (P := P) hm (hf t) hp
        refine ⟨X, ?_, hpr⟩
        show (do loadVar T (← asAddr (a.tmps.getD t undef)) : Sem Value).run P w = _
        unfold Instr.loadAt at hX
        simp only [Sem.run_bind] at hX ⊢
        generalize a.tmps.getD t undef = x at *
        cases x <;> first | (simp [Instr.sureAddr] at hX; done) | skip
        rename_i ad
        cases ad with
        | none => simp [Instr.sureAddr] at hX
        | some ad => exact hX
    obtain ⟨u, hu, hpr⟩ := hone
    refine ⟨u :: us, ?_, by simp [h2], fun k r' u' hr' hu' => ?_⟩
    · rw [List.mapM_cons, Sem.run_bind, hu, Result.andThen_ok, Sem.run_bind, h1]
      rfl
    · cases k with
      | zero =>
        simp at hr' hu'
        subst hr' hu'
        have := oneR_of hm (by rw [← hSA]; exact hrt) hpr
        rwa [List.head?_eq_getElem?] at this
      | succ k =>
        have := h3 k r' u' (by simpa using hr') (by simpa using hu')
        rwa [List.getElem?_tail] at this
  | [], _ :: _, _, h => h.elim
  | _ :: _, [], _, h => h.elim
def joinV : List Value → Value
  | [u] => u
  | us => .tuple us.toArray
theorem run_results (fn : Func) (tmps : Array Value) {us : List Value} (h : (fn.results.toList.mapM (resV1 tmps)).run P w = .ok us w) :
    (results fn tmps).run P w = .ok (joinV us) w := by
  show ((fn.results.mapM (resV1 tmps) >>= fun vs => pure (if h : vs.size = 1 then vs[0] else .tuple vs)) : Sem Value).run P w = _
  rw [Array.mapM_eq_mapM_toList, Sem.run_bind, Sem.run_map, h]
  simp only [Result.andThen_ok, Sem.run_pure]
  congr 1
  match us with
  | [] => rfl
  | [u] => rfl
  | _ :: _ :: _ => rfl
theorem pure_ok {E : Env} (hE : EnvOK E) {f : FuncId} {fn : Func} {c : Code} (hf : E.P.funcs[f]? = some fn) (hb : fn.body = some c) (hext : ∀ (args : Array Value) (w : World), (callFunc f args).run E.P w = .ok (.enter f args) w)
    (hc : codeOK E fn.ntmps c = true) {args : List PV} (hcl : args.all PV.closed = true) (hn : args.length ≤ fn.ntmps) {r : RV}
    (h : VC E noH noA c ⟨Ret E.P fn r, Ret E.P fn r, fun _ _ => False⟩ ⟨entry args, noH, noA⟩) : PureOK E.P f args r := by
  refine ⟨hcl, fun C w vals hC har => .inl ⟨hext vals w, ?_⟩⟩
  refine calls_of_wp hf hb ?_
  have hvl : vals.size = args.length := by rw [← Array.length_toList]; exact har.1
  have hrs : RS [] fn.ntmps (gOnly C) noA w ⟨entry args, noH, noA⟩ { tmps := vals ++ Array.replicate (fn.ntmps - vals.size) undef, defers := [] } w := by
    refine ⟨gOnly C, ⟨hC, fun id b hb => (by cases hb), fun κ ar hA => (by cases hA), fun b o ho => (by cases ho)⟩, fun _ _ => rfl, fun t => ?_, .refl _ _ _, by simp; omega, rfl⟩
    show PRep (gOnly C) noA ((args[t]?).getD (.c .any)) _
    cases ht : args[t]? with
    | none => exact True.intro
    | some x =>
      obtain ⟨v, hv, hp⟩ := har.2 t x ht
      have hlt := (List.getElem?_eq_some_iff.1 ht).1
      rw [Array.getD_eq_getD_getElem?, Array.getElem?_append, if_pos (by omega)]
      rw [Array.getElem?_toList] at hv
      rw [hv]
      exact hp
  refine wp_mono (code_ok hE (fun _ _ => rfl) c hc _ _ _ w h hrs) (fun e a' w' hq => ?_)
  have fin : (∃ S, RS [] fn.ntmps (gOnly C) noA w S a' w' ∧ Ret E.P fn r S) → a'.defers = [] ∧ ∃ v, (results fn a'.tmps).run E.P w' = .ok v w' ∧
      ∃ v_1, Ending.returned v = .returned v_1 ∧ ∃ g', PRep g' r.am (r.pv 0) v_1 ∧ MRel g' noH r.am w' ∧ Evol (gOnly C) noA w g' r.am w' := by
    rintro ⟨S, ⟨g, hm, hd, hfr, he, hnn, hdf⟩, hlen, ks, hap, hret⟩
    obtain ⟨us, h1, h2, h3⟩ := results_ok hm ⟨rfl, rfl⟩ hfr _ _ ks hret
    obtain ⟨g', m1, m2, m3⟩ := ret_ok hm he r.list ks us hap h2 h3
    refine ⟨hdf, _, run_results fn a'.tmps h1, _, rfl, g', ?_, m1, m2⟩
    cases r with
    | one r =>
      match us, h2 with
      | [u], _ => exact PRep_pv.2 (m3 0 r u rfl rfl)
    | tup rs =>
      have hne : us.length ≠ 1 := by rw [h2]; exact hlen
      have hval : joinV us = .tuple us.toArray := by
        match us, hne with
        | [], _ => rfl
        | _ :: _ :: _, _ => rfl
      rw [hval]
      refine ⟨us.toArray, rfl, by rw [length_tvs, List.size_toArray]; exact h2, fun k x hk => ?_⟩
      rw [getElem?_tvs] at hk
      obtain ⟨r, hr, rfl⟩ := Option.map_eq_some_iff.1 hk
      have hlt := (List.getElem?_eq_some_iff.1 hr).1
      have hl2 : us.length = rs.length := h2
      rw [Nat.zero_add]
      exact ⟨us[k], by simp, m3 k r us[k] hr (List.getElem?_eq_getElem (by omega))⟩
  cases e with
  | normal => exact fin hq
  | ret => exact fin hq
  | exit id => obtain ⟨S, _, hq⟩ := hq; exact hq.elim
  | _ => exact hq.elim
end Go.PW

namespace Go.PW
variable {P : Program} {g : Gh} {H : HMap} {A : AMap} {w : World}
def resPV (P : Program) (S : St) : List ResultVar → Option PV
  | [] => some (.c .any)
  | [v] => resOne P S v
  | _ => none
theorem resPV_ok (hm : MRel g H A w) {S : St} (hS : S.H = H ∧ S.A = A) {a : Act} (hf : FRep g A S.ρ a) {vs : List ResultVar} {p : PV} (h : resPV P S vs = some p) :
    ∃ us, (vs.mapM (resV1 a.tmps)).run P w = .ok us w ∧ PRep g A p (joinV us) := by
  obtain ⟨hSH, hSA⟩ := hS
  match vs, h with
  | [], h => cases h; exact ⟨[], rfl, True.intro⟩
  | [.tmp t], h =>
    cases h
    exact ⟨[a.tmps.getD t undef], rfl, hf t⟩
  | [.cell t T], h =>
    have h : loadS P none S.H S.A T (S.ρ t) = some p := h
    rw [hSH, hSA] at h
    obtain ⟨X, hX, hpr⟩ := load_ok (P := P) hm (hf t) h
    refine ⟨[X], ?_, hpr⟩
    have h1 : (resV1 a.tmps (.cell t T)).run P w = .ok X w := by
      show (do loadVar T (← asAddr (a.tmps.getD t undef)) : Sem Value).run P w = _
      unfold Instr.loadAt at hX
      simp only [Sem.run_bind] at hX ⊢
      generalize a.tmps.getD t undef = x at *
      cases x <;> first | (simp [Instr.sureAddr] at hX; done) | skip
      rename_i ad
      cases ad with
      | none => simp [Instr.sureAddr] at hX
      | some ad => exact hX
    rw [List.mapM_cons, Sem.run_bind, h1]
    rfl
theorem Above_updH {n id : Nat} {cs : List CV} (h : Above n H A) (hid : id < n) : Above n (upd H id (some cs)) A := fun i hi => ⟨by rw [upd_other _ _ (by omega)]; exact (h i hi).1, (h i hi).2⟩
theorem Above_updA {n : Nat} {κ : Tok} {ar : Arr} (h : Above n H A) (hid : κ.1 < n) : Above n H (upd A κ (some ar)) := fun i hi => ⟨(h i hi).1, fun k => by rw [upd_other _ _ (by intro e; rw [← e] at hid; simp at hid; omega)]; exact (h i hi).2 k⟩
theorem Above_mono {n m : Nat} (h : Above n H A) (hm : n ≤ m) : Above m H A := fun i hi => h i (by omega)
theorem vSq {E : Env} {H0 : HMap} {A0 : AMap} {a b : Code} {Q : Post} {S : St} (h : ∀ K : St → Prop, (∀ S, VC E H0 A0 b Q S → K S) → VC E H0 A0 a ⟨K, Q.ret, Q.ext⟩ S) : VC E H0 A0 (.seq a b) Q S := h _ fun _ h => h
theorem VC_region {E : Env} {H0 : HMap} {A0 : AMap} {id : Nat} {l : List Oper} {draw : Bool} {Q : Post} {S : St} (h : RunV E (fbOf E id l.toArray draw) l.toArray l S Q.nrm) : VC E H0 A0 (.region id l.toArray draw) Q S := by
  show RunV E _ _ l.toArray.toList S Q.nrm
  rw [List.toList_toArray]
  exact h
theorem VC_cond {E : Env} {H0 : HMap} {A0 : AMap} {c : Operand} {x y : Code} {Q : Post} {S : St} (b : Bool) (hb : boolOf? (ev S.ρ c) = some b) (ht : b = true → VC E H0 A0 x Q S) (hf : b = false → VC E H0 A0 y Q S) : VC E H0 A0 (.cond c x y) Q S :=
  Opt.iff.2 ⟨b, hb, ht, hf⟩
theorem vBl {E : Env} {H0 : HMap} {A0 : AMap} {id : Nat} {c : Code} {Q : Post} {S : St} (h : VC E H0 A0 c ⟨Q.nrm, Q.ret, fun j S' => if j = id then Q.nrm S' else Q.ext j S'⟩ S) : VC E H0 A0 (.block id c) Q S := h
end Go.PW

namespace Go.PW
variable {P : Program} {g : Gh} {H : HMap} {A : AMap} {w : World}
def CV.im (f : Nat → Nat) (h : Tok → Tok) : CV → CV
  | .own κ els => .own (h κ) els
  | .mt κ sz n => .mt (h κ) sz n
  | .tv κ sz n L => .tv (h κ) sz n L
  | .ptr id off => .ptr (f id) off
  | .mptr κ sz n i off => .mptr (h κ) sz n i off
  | .fn k caps => .fn k (caps.map fun p => (f p.1, p.2))
  | .mpr κ => .mpr (h κ)
  | .itr κ bi => .itr (h κ) bi
  | .sit κ => .sit (h κ)
  | .vsl id n => .vsl (f id) n
  | .bfn k fst caps => .bfn k (fst.map fun p => (f p.1, p.2)) (caps.map fun p => (f p.1, p.2))
  | c => c
def TV.im (f : Nat → Nat) (h : Tok → Tok) : TV → TV
  | .c x => .c (x.im f h)
  | .agg cs => .agg (cs.map (CV.im f h))
def PV.im (f : Nat → Nat) (h : Tok → Tok) : PV → PV
  | .c x => .c (x.im f h)
  | .agg cs => .agg (cs.map (CV.im f h))
  | .tup xs => .tup (xs.map (TV.im f h))
def TV.oks (hk : Nat → Prop) (tk : Tok → Prop) : TV → Prop
  | .c x => x.ok hk tk
  | .agg cs => ∀ c ∈ cs, c.ok hk tk
def PV.oks (hk : Nat → Prop) (tk : Tok → Prop) : PV → Prop
  | .c x => x.ok hk tk
  | .agg cs => ∀ c ∈ cs, c.ok hk tk
  | .tup xs => ∀ x ∈ xs, x.oks hk tk
structure Ren (H0 : HMap) (A0 : AMap) (H : HMap) (A : AMap) (H' : HMap) (A' : AMap) (f : Nat → Nat) (h : Tok → Tok) : Prop where
  kH : ∀ id, H0 id ≠ none → f id = id ∧ H' id ≠ none
  kA : ∀ κ, A0 κ ≠ none → h κ = κ ∧ A' κ ≠ none
  iH : ∀ i j, H' i ≠ none → H' j ≠ none → f i = f j → i = j
  iA : ∀ i j, A' i ≠ none → A' j ≠ none → h i = h j → i = j
  H : ∀ id cs, H' id = some cs → H (f id) = some (cs.map (CV.im f h)) ∧ ∀ c ∈ cs, c.ok (fun i => H' i ≠ none) (fun κ => A' κ ≠ none)
  A : ∀ κ ar, A' κ = some ar → A (h κ) = some ar
open Classical in
noncomputable def Gh.ren (g : Gh) (H' : HMap) (A' : AMap) (f : Nat → Nat) (h : Tok → Tok) : Gh where
  C := g.C
  β := fun id => match H' id with
    | none => none
    | some _ => g.β (f id)
  τ := fun κ => g.τ (h κ)
  O := fun b => match g.O b with
    | none => none
    | some (.var i) => if hx : ∃ id, H' id ≠ none ∧ f id = i then some (.var hx.choose) else none
    | some (.tok κ) => if hx : ∃ k, A' k ≠ none ∧ h k = κ then some (.tok hx.choose) else none
theorem ren_mem {H0 : HMap} {A0 : AMap} {g0 : Gh} {w0 : World} (hd0 : DomOK g0 H0) {H' : HMap} {A' : AMap} {f : Nat → Nat} {h : Tok → Tok} (hr : Ren H0 A0 H A H' A' f h) (hm : MRel g H A w) (he : Evol g0 A0 w0 g A w) :
    ∃ g', MRel g' H' A' w ∧ DomOK g' H' ∧ Evol g0 A0 w0 g' A' w ∧ ∀ (p : PV) (v : Value), p.oks (fun i => H' i ≠ none) (fun κ => A' κ ≠ none) → PRep g A (p.im f h) v → PRep g' A' p v := by
  refine ⟨g.ren H' A' f h, ?_⟩
  generalize hg' : g.ren H' A' f h = g'
  have hC : g'.C = g.C := by rw [← hg']; rfl
  have hτ : ∀ κ, g'.τ κ = g.τ (h κ) := fun κ => by rw [← hg']; rfl
  have hβ : ∀ id, H' id ≠ none → g'.β id = g.β (f id) := fun id hid => by
    rw [← hg']
    show (match H' id with | none => none | some _ => g.β (f id)) = _
    cases hh : H' id with
    | none => exact (hid hh).elim
    | some _ => rfl
  have hβ0 : ∀ id, H' id = none → g'.β id = none := fun id hid => by
    rw [← hg']
    show (match H' id with | none => none | some _ => g.β (f id)) = _
    rw [hid]
  have hOv : ∀ b id, g.O b = some (.var (f id)) → H' id ≠ none → g'.O b = some (.var id) := fun b id ho hid => by
    rw [← hg']
    show (match g.O b with | none => none | some (.var i) => _ | some (.tok κ) => _) = _
    rw [ho]
    have hx : ∃ i, H' i ≠ none ∧ f i = f id := ⟨id, hid, rfl⟩
    simp only
    rw [dif_pos hx]
    rw [hr.iH _ _ hx.choose_spec.1 hid hx.choose_spec.2]
  have hOt : ∀ b κ, g.O b = some (.tok (h κ)) → A' κ ≠ none → g'.O b = some (.tok κ) := fun b κ ho hid => by
    rw [← hg']
    show (match g.O b with | none => none | some (.var i) => _ | some (.tok κ) => _) = _
    rw [ho]
    have hx : ∃ i, A' i ≠ none ∧ h i = h κ := ⟨κ, hid, rfl⟩
    simp only
    rw [dif_pos hx]
    rw [hr.iA _ _ hx.choose_spec.1 hid hx.choose_spec.2]
  have hOn : ∀ b, g.O b = none → g'.O b = none := fun b ho => by
    rw [← hg']
    show (match g.O b with | none => none | some (.var i) => _ | some (.tok κ) => _) = _
    rw [ho]
  clear hg'
  have some_of : ∀ κ, A' κ ≠ none → ∃ ar, A' κ = some ar ∧ A (h κ) = some ar := fun κ hk => by
    cases hA : A' κ with
    | none => exact (hk hA).elim
    | some ar => exact ⟨ar, rfl, hr.A κ ar hA⟩
  have hc : ∀ (c : CV) (v : Value), c.ok (fun i => H' i ≠ none) (fun κ => A' κ ≠ none) → CRep g A (c.im f h) v → CRep g' A' c v := by
    intro c v hok hrep
    have hdm : ∀ x u, DRep g.C x u → DRep g'.C x u := fun x u hd => by rw [hC]; exact hd
    cases c with
    | any => trivial
    | skip => exact hrep
    | d x => exact hdm _ _ hrep
    | full els => exact ⟨hdm _ _ hrep.1, hrep.2⟩
    | own κ els =>
      obtain ⟨hd, sz, n, hA, hl, ht⟩ := hrep
      obtain ⟨ar, e1, e2⟩ := some_of κ hok
      rw [hA] at e2
      cases e2
      exact ⟨hdm _ _ hd, sz, n, e1, hl, fun e => by rw [hτ]; exact ht e⟩
    | mt κ sz n =>
      obtain ⟨a, cap, els, h1, h2, hA, h4, h5⟩ := hrep
      obtain ⟨ar, e1, e2⟩ := some_of κ hok
      rw [hA] at e2
      cases e2
      exact ⟨a, cap, els, h1, h2, e1, h4, fun e => by rw [hτ]; exact h5 e⟩
    | tv κ sz n L =>
      obtain ⟨a, cap, els, h1, h2, hA, h4, h5⟩ := hrep
      obtain ⟨ar, e1, e2⟩ := some_of κ hok
      rw [hA] at e2
      cases e2
      exact ⟨a, cap, els, h1, h2, e1, h4, fun e => by rw [hτ]; exact h5 e⟩
    | ptr id off =>
      obtain ⟨b, hb, e⟩ := hrep
      exact ⟨b, by rw [hβ id hok]; exact hb, e⟩
    | eptr e off =>
      obtain ⟨b, o, hv, hcc⟩ := hrep
      exact ⟨b, o, hv, fun k x hk => by rw [hC]; exact hcc k x hk⟩
    | mptr κ sz n i off =>
      obtain ⟨b, els, h1, hA, h4, h5⟩ := hrep
      obtain ⟨ar, e1, e2⟩ := some_of κ hok
      rw [hA] at e2
      cases e2
      exact ⟨b, els, h1, e1, h4, fun e => by rw [hτ]; exact h5 e⟩
    | fn k caps =>
      obtain ⟨vs, h1, h2, h3⟩ := hrep
      refine ⟨vs, h1, by simpa using h2, fun j p hk => ?_⟩
      obtain ⟨b, hb, e⟩ := h3 j (f p.1, p.2) (by simp [hk])
      exact ⟨b, by rw [hβ _ (hok p (List.mem_of_getElem? hk))]; exact hb, e⟩
    | mpr κ =>
      obtain ⟨hb, hv, m, hA, hmp⟩ := hrep
      obtain ⟨ar, e1, e2⟩ := some_of κ hok
      rw [hA] at e2
      cases e2
      exact ⟨hb, by rw [hτ]; exact hv, m, e1, hmp⟩
    | itr κ bi => exact hrep
    | sit κ =>
      obtain ⟨hb, hv, s, pos, hA⟩ := hrep
      obtain ⟨ar, e1, e2⟩ := some_of κ hok
      rw [hA] at e2
      cases e2
      exact ⟨hb, by rw [hτ]; exact hv, s, pos, e1⟩
    | vsl id n =>
      obtain ⟨b, hb, e⟩ := hrep
      exact ⟨b, by rw [hβ id hok]; exact hb, e⟩
    | bfn k fst caps =>
      obtain ⟨us, vs, e, h1, h2⟩ := hrep
      have back : ∀ (l : List (Nat × Nat)) (vs : Array Value), (∀ p ∈ l, H' p.1 ≠ none) → PtsRep g.β (l.map fun p => (f p.1, p.2)) vs → PtsRep g'.β l vs := fun l vs hl hp => by
        refine ⟨by simpa using hp.1, fun j p hk => ?_⟩
        obtain ⟨b, hb, e⟩ := hp.2 j (f p.1, p.2) (by simp [hk])
        exact ⟨b, by rw [hβ _ (hl p (List.mem_of_getElem? hk))]; exact hb, e⟩
      exact ⟨us, vs, e, back _ _ hok.1 h1, back _ _ hok.2 h2⟩
  have hcs : ∀ (cs : List CV) (vs : List Value), (∀ c ∈ cs, c.ok (fun i => H' i ≠ none) (fun κ => A' κ ≠ none)) → CsRep g A (cs.map (CV.im f h)) vs → CsRep g' A' cs vs := fun cs vs hok hrep => by
    refine ⟨by simpa using hrep.1, fun k c hk => ?_⟩
    obtain ⟨v, hv, hrv⟩ := hrep.2 k (c.im f h) (by simp [hk])
    exact ⟨v, hv, hc c v (hok c (List.mem_of_getElem? hk)) hrv⟩
  refine ⟨⟨by rw [hC]; exact hm.com, ?_, ?_, ?_⟩, hβ0, ⟨⟨?_, ?_, ?_⟩, he.frame, fun b hb ho => hOn b (he.own b hb ho), fun b hb ho o => by rw [hC]; exact he.old b hb ho o, he.size, he.os, he.tape, he.output⟩, ?_⟩
  · intro id b hb
    have hne : H' id ≠ none := fun e => by rw [hβ0 id e] at hb; cases hb
    rw [hβ id hne] at hb
    obtain ⟨ho, hCb, ds, vs, e, fz, hH, hh, hu, hrep⟩ := hm.var _ b hb
    cases hh' : H' id with
    | none => exact (hne hh').elim
    | some cs =>
      obtain ⟨q1, q2⟩ := hr.H id cs hh'
      rw [q1] at hH
      cases hH
      exact ⟨hOv b id ho hne, fun o => by rw [hC]; exact hCb o, cs, vs, e, fz, rfl, hh, hu, hcs cs _ q2 hrep⟩
  · intro κ ar hA
    have hA0 := hr.A κ ar hA
    have hne : A' κ ≠ none := by rw [hA]; simp
    have ht := hm.tok (h κ) ar hA0
    cases ar with
    | co sz n =>
      obtain ⟨a, cap, h1, h2, h3⟩ := ht
      refine ⟨a, cap, (hτ κ).trans h1, h2, h3.imp id ?_⟩
      rintro ⟨b, e, ho, hCb, rest⟩
      exact ⟨b, e, hOt b κ ho hne, fun j hj => by rw [hC]; exact hCb j hj, rest⟩
    | mu sz els =>
      obtain ⟨hs, a, cap, h1, h2, h3⟩ := ht
      refine ⟨hs, a, cap, (hτ κ).trans h1, h2, h3.imp id ?_⟩
      rintro ⟨b, e, ho, hCb, vs, e', fz, q1, q2, q3, q4⟩
      exact ⟨b, e, hOt b κ ho hne, fun j => by rw [hC]; exact hCb j, vs, e', fz, q1, q2, q3, by rw [hC]; exact q4⟩
    | mp m =>
      obtain ⟨b, es, clock, h1, ho, hCb, rest⟩ := ht
      exact ⟨b, es, clock, (hτ κ).trans h1, hOt b κ ho hne, fun j => by rw [hC]; exact hCb j, rest⟩
    | mpi m cur left bi =>
      obtain ⟨b, es, clock, h1, ho, hCb, hh, hr, seen, ho2, hC2, rest⟩ := ht
      exact ⟨b, es, clock, (hτ κ).trans h1, hOt b κ ho hne, fun j => by rw [hC]; exact hCb j, hh, hr, seen, hOt bi κ ho2 hne, fun j => by rw [hC]; exact hC2 j, rest⟩
    | si s pos =>
      obtain ⟨b, h1, ho, hCb, rest⟩ := ht
      exact ⟨b, (hτ κ).trans h1, hOt b κ ho hne, fun j => by rw [hC]; exact hCb j, rest⟩
  · intro b o ho
    cases hb : g.O b with
    | none => rw [hOn b hb] at ho; cases ho
    | some o' => exact hm.own b o' hb
  · rw [hC]; exact he.mono.C
  · intro id b hb
    have h1 := he.mono.β id b hb
    obtain ⟨e1, e2⟩ := hr.kH id (fun h0 => by rw [hd0 id h0] at hb; cases hb)
    rw [hβ id e2, e1]
    exact h1
  · intro κ ar hA
    obtain ⟨ar', hA', hle⟩ := he.mono.τ κ ar hA
    obtain ⟨e1, e2⟩ := hr.kA κ (by rw [hA]; simp)
    obtain ⟨ar2, q1, q2⟩ := some_of κ e2
    rw [e1, hA'] at q2
    cases q2
    exact ⟨ar', q1, by rw [hτ, e1]; exact hle⟩
  · have htv : ∀ (x : TV) (u : Value), x.oks (fun i => H' i ≠ none) (fun κ => A' κ ≠ none) → TRep g A (x.im f h) u → TRep g' A' x u := fun x u hok hrep => by
      cases x with
      | c x => exact hc x u hok hrep
      | agg cs => obtain ⟨arr, e, hrr⟩ := hrep; exact ⟨arr, e, hcs cs _ hok hrr⟩
    intro p v hok hrep
    cases p with
    | c x => exact hc x v hok hrep
    | agg cs => obtain ⟨arr, e, hrr⟩ := hrep; exact ⟨arr, e, hcs cs _ hok hrr⟩
    | tup xs =>
      obtain ⟨arr, e, hs, hrr⟩ := hrep
      refine ⟨arr, e, by simpa using hs, fun k x hk => ?_⟩
      obtain ⟨u, hu, ht⟩ := hrr k (x.im f h) (by simp [hk])
      exact ⟨u, hu, htv x u (hok x (List.mem_of_getElem? hk)) ht⟩
def PV.tv : PV → Option TV
  | .c x => some (.c x)
  | .agg cs => some (.agg cs)
  | .tup _ => none
def toTVs : List PV → Option (List TV)
  | [] => some []
  | p :: r => (p.tv).bind fun x => (toTVs r).map (x :: ·)
def resPs (P : Program) (S : St) : List ResultVar → Option (List PV)
  | [] => some []
  | v :: r => (resOne P S v).bind fun p => (resPs P S r).map (p :: ·)
def joinP : List PV → Option PV
  | [] => some (.c .any)
  | [p] => some p
  | ps => (toTVs ps).map .tup
def resPVs (P : Program) (S : St) (vs : List ResultVar) : Option PV := (resPs P S vs).bind joinP
theorem resPs_ok (hm : MRel g H A w) {S : St} (hS : S.H = H ∧ S.A = A) {a : Act} (hf : FRep g A S.ρ a) : ∀ {vs : List ResultVar} {ps : List PV}, resPs P S vs = some ps →
    ∃ us, (vs.mapM (resV1 a.tmps)).run P w = .ok us w ∧ us.length = ps.length ∧ ∀ (k : Nat) (p : PV) (u : Value), ps[k]? = some p → us[k]? = some u → PRep g A p u
  | [], ps, h => by cases h; exact ⟨[], rfl, rfl, by simp⟩
  | v :: vs, ps, h => by
    obtain ⟨p, hp, h⟩ := Option.bind_eq_some_iff.1 h
    obtain ⟨ps', hps, rfl⟩ := Option.map_eq_some_iff.1 h
    obtain ⟨us, h1, h2, h3⟩ := resPs_ok hm hS hf hps
    obtain ⟨us1, q1, q2⟩ := resPV_ok (P := P) hm hS hf (vs := [v]) (p := p) (by show resOne P S v = some p; exact hp)
    have hone : ∃ u, us1 = [u] ∧ (resV1 a.tmps v).run P w = .ok u w := by
      rw [List.mapM_cons, Sem.run_bind] at q1
      cases hv : (resV1 a.tmps v).run P w with
      | ok u w' =>
        rw [hv] at q1
        simp only [Result.andThen_ok, List.mapM_nil, Sem.run_bind, Sem.run_pure] at q1
        cases q1
        exact ⟨u, rfl, rfl⟩
      | halt e w' => rw [hv] at q1; cases q1
    obtain ⟨u, rfl, hu⟩ := hone
    refine ⟨u :: us, ?_, by simp [h2], fun k p' u' hk hu' => ?_⟩
    · rw [List.mapM_cons, Sem.run_bind, hu, Result.andThen_ok, Sem.run_bind, h1]
      rfl
    · cases k with
      | zero => simp at hk hu'; subst hk hu'; exact q2
      | succ k => exact h3 k p' u' (by simpa using hk) (by simpa using hu')
theorem toTVs_spec : ∀ {ps : List PV} {xs : List TV}, toTVs ps = some xs → xs.length = ps.length ∧ ∀ (k : Nat) (x : TV), xs[k]? = some x → ps[k]? = some x.pv
  | [], xs, h => by cases h; simp
  | p :: r, xs, h => by
    obtain ⟨x, hx, h⟩ := Option.bind_eq_some_iff.1 h
    obtain ⟨xs', hxs, rfl⟩ := Option.map_eq_some_iff.1 h
    obtain ⟨h1, h2⟩ := toTVs_spec hxs
    refine ⟨by simp [h1], fun k y hk => ?_⟩
    cases k with
    | zero =>
      simp at hk
      subst hk
      cases p <;> simp [PV.tv] at hx <;> subst hx <;> rfl
    | succ k => simpa using h2 k y (by simpa using hk)
theorem resPVs_ok (hm : MRel g H A w) {S : St} (hS : S.H = H ∧ S.A = A) {a : Act} (hf : FRep g A S.ρ a) {vs : List ResultVar} {p : PV} (h : resPVs P S vs = some p) :
    ∃ us, (vs.mapM (resV1 a.tmps)).run P w = .ok us w ∧ PRep g A p (joinV us) := by
  obtain ⟨ps, hps, h⟩ := Option.bind_eq_some_iff.1 h
  obtain ⟨us, h1, h2, h3⟩ := resPs_ok hm hS hf hps
  refine ⟨us, h1, ?_⟩
  unfold joinP at h
  split at h
  · cases h; trivial
  · cases h
    match us, h2 with
    | [u], _ => exact h3 0 _ u rfl rfl
  · rename_i hn0 hn1
    obtain ⟨xs, hxs, rfl⟩ := Option.map_eq_some_iff.1 h
    obtain ⟨q1, q2⟩ := toTVs_spec hxs
    have hj : joinV us = .tuple us.toArray := by
      match us, h2 with
      | [], h2 => exact absurd (List.length_eq_zero_iff.1 h2.symm) hn0
      | [u], h2 =>
        match ps, h2 with
        | [q], _ => exact absurd rfl (hn1 q)
      | _ :: _ :: _, _ => rfl
    rw [hj]
    refine ⟨us.toArray, rfl, by rw [List.size_toArray, h2, q1], fun k x hk => ?_⟩
    have hlt := (List.getElem?_eq_some_iff.1 hk).1
    have hu : us[k]? = some us[k] := List.getElem?_eq_getElem (by omega)
    exact ⟨us[k], by simp, PRep_pv.1 (h3 k _ _ (q2 k x hk) hu)⟩
def RetR (P : Program) (fn : Func) (H : HMap) (A : AMap) (v : PV) (H' : HMap) (A' : AMap) (S : St) : Prop :=
  ∃ p S' f h, resPVs P S fn.results.toList = some p ∧ Weak H A ⟨fun _ => p, S.H, S.A⟩ S' ∧ S'.ρ 0 = v.im f h ∧ v.oks (fun i => H' i ≠ none) (fun κ => A' κ ≠ none) ∧ Ren H A S'.H S'.A H' A' f h
theorem effr_ok {E : Env} (hE : EnvOK E) {f : FuncId} {fn : Func} {c : Code} (hf : E.P.funcs[f]? = some fn) (hb : fn.body = some c) (hext : ∀ (args : Array Value) (w : World), (callFunc f args).run E.P w = .ok (.enter f args) w)
    (hc : codeOK E fn.ntmps c = true) {args : List PV} (hn : args.length ≤ fn.ntmps) {off : Nat} {v : PV} {H' : HMap} {A' : AMap}
    (h : Above off H A → VC E H A c ⟨RetR E.P fn H A v H' A', RetR E.P fn H A v H' A', fun _ _ => False⟩ ⟨entry args, H, A⟩) : EffOK E.P f off H A args v H' A' := by
  intro g w vals hm hd hab har
  refine .inl ⟨hext vals w, ?_⟩
  refine calls_of_wp hf hb ?_
  have hvl : vals.size = args.length := by rw [← Array.length_toList]; exact har.1
  have hrs : RS [] fn.ntmps g A w ⟨entry args, H, A⟩ { tmps := vals ++ Array.replicate (fn.ntmps - vals.size) undef, defers := [] } w := by
    refine ⟨g, hm, hd, fun t => ?_, .refl _ _ _, by simp; omega, rfl⟩
    show PRep g A ((args[t]?).getD (.c .any)) _
    cases ht : args[t]? with
    | none => exact True.intro
    | some x =>
      obtain ⟨v, hv, hp⟩ := har.2 t x ht
      have hlt := (List.getElem?_eq_some_iff.1 ht).1
      rw [Array.getD_eq_getD_getElem?, Array.getElem?_append, if_pos (by omega)]
      rw [Array.getElem?_toList] at hv
      rw [hv]
      exact hp
  refine wp_mono (code_ok hE hd c hc _ _ _ w (h hab) hrs) (fun e a' w' hq => ?_)
  have fin : (∃ S, RS [] fn.ntmps g A w S a' w' ∧ RetR E.P fn H A v H' A' S) → a'.defers = [] ∧ ∃ u, (results fn a'.tmps).run E.P w' = .ok u w' ∧
      ∃ u_1, Ending.returned u = .returned u_1 ∧ ∃ g', PRep g' A' v u_1 ∧ MRel g' H' A' w' ∧ Evol g A w g' A' w' ∧ DomOK g' H' := by
    rintro ⟨S, ⟨g1, hm1, hd1, hfr, he, hnn, hdf⟩, p, S', fr, hr, hp, hw, hv, hok, hren⟩
    obtain ⟨us, h1, h2⟩ := resPVs_ok hm1 ⟨rfl, rfl⟩ hfr hp
    obtain ⟨g2, m1, m2, m3, m4⟩ := weak_mem (S := ⟨fun _ => p, S.H, S.A⟩) hd hw hm1 he
    obtain ⟨g3, n1, n2, n3, n4⟩ := ren_mem hd hren m1 m3
    exact ⟨hdf, _, run_results fn a'.tmps h1, _, rfl, g3, n4 v _ hok (by rw [← hv]; exact m4 0 _ h2), n1, n3, n2⟩
  cases e with
  | normal => exact fin hq
  | ret => exact fin hq
  | exit id => obtain ⟨S, _, hq⟩ := hq; exact hq.elim
  | _ => exact hq.elim
end Go.PW
