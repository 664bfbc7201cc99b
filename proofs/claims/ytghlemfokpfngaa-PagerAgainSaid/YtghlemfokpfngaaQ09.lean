/-
  Parts of the proof, laid together: PwL.
-/
import Derived.Test.YtghlemfokpfngaaQ08

namespace Go.PW
variable {g : Gh} {H : HMap} {A : AMap} {w : World}
theorem boolOf_rep {x : PV} {t : Bool} {u : Value} (hx : PRep g A x u) (h : boolOf? x = some t) : u = .bool t := by
  unfold boolOf? at h
  split at h
  · cases h; exact PRep_lit_inv hx
  · cases h
theorem litOf_rep {x : PV} {v u : Value} (hx : PRep g A x u) (h : litOf? x = some v) : u = v := by
  unfold litOf? at h
  split at h
  · cases h; exact PRep_lit_inv hx
  · cases h
theorem nil_ok {P : Program} {x v : PV} {a : Act} {xo : Operand} (hm : MRel g H A w) (hx : PRep g A x (a.eval xo)) (h : nilS x = some v) (dst : Option Tmp) (ty : TypeId) (pos : String) (after : Array Edge) (guard : Option (Nat × Bool)) :
    ∃ u, (execOp a.eval ⟨dst, .nilCheck xo, ty, pos, after, guard⟩).run P w = .ok (.value u) w ∧ PRep g A v u ∧ MRel g H A w := by
  unfold nilS at h
  split at h
  · cases h
    obtain ⟨b, hb, e⟩ := id hx
    exact ⟨_, by simp [execOp, e], hx, hm⟩
  · cases h
    obtain ⟨b, o, e, hc⟩ := id hx
    exact ⟨_, by simp [execOp, e], hx, hm⟩
  · cases h
    obtain ⟨b, els, e, r⟩ := id hx
    exact ⟨_, by simp [execOp, e], hx, hm⟩
  · cases h
    obtain ⟨vs, e, r⟩ := id hx
    exact ⟨_, by simp [execOp, e], hx, hm⟩
  · cases h
    obtain ⟨us, vs, e, r⟩ := id hx
    exact ⟨_, by simp [execOp, e], hx, hm⟩
  · cases h
theorem zip_ps {ρ : Nat → PV} {a : Act} (hf : FRep g A ρ a) (ps : Array (Nat × Operand)) :
    (ps.map fun (p : Nat × Operand) => (p.1, a.eval p.2)).size = (ps.toList.map fun (p : Nat × Operand) => (p.1, ev ρ p.2)).length ∧
    ∀ (k : Nat) (p : Nat × PV) (u : Nat × Value), (ps.toList.map fun (p : Nat × Operand) => (p.1, ev ρ p.2))[k]? = some p → (ps.map fun (p : Nat × Operand) => (p.1, a.eval p.2)).toList[k]? = some u → u.1 = p.1 ∧ PRep g A p.2 u.2 := by
  refine ⟨by simp, fun k p u h1 h2 => ?_⟩
  simp only [List.getElem?_map, Option.map_eq_some_iff, Array.toList_map] at h1 h2
  obtain ⟨q, hq, rfl⟩ := h1
  obtain ⟨q', hq', rfl⟩ := h2
  rw [hq] at hq'
  cases hq'
  exact ⟨rfl, PRep_ev hf q.2⟩
theorem opt_rep {ρ : Nat → PV} {a : Act} (hf : FRep g A ρ a) (x : Option Operand) : (∀ y, x.map (ev ρ) = some y → ∃ v, x.map a.eval = some v ∧ PRep g A y v) ∧ (x.map (ev ρ) = none → x.map a.eval = none) := by
  cases x with
  | none => simp
  | some x => exact ⟨fun y h => by cases h; exact ⟨_, rfl, PRep_ev hf x⟩, by simp⟩
theorem caps_rep {ρ : Nat → PV} {a : Act} (hf : FRep g A ρ a) {caps : Array Operand} {cs : List (Nat × Nat)} (h : capsOf (caps.toList.map (ev ρ)) = some cs) :
    ∀ f, CRep g A (.fn f cs) (.func (.func f) #[] (caps.map a.eval)) := by
  intro f
  obtain ⟨h1, h2⟩ := capsOf_rep (g := g) (A := A) h (caps.toList.map a.eval) (by simp) (fun k x u hx hu => by
    simp only [List.getElem?_map, Option.map_eq_some_iff] at hx hu
    obtain ⟨q, hq, rfl⟩ := hx
    obtain ⟨q', hq', rfl⟩ := hu
    rw [hq] at hq'
    cases hq'
    exact PRep_ev hf q)
  refine ⟨_, rfl, by simpa using h1, fun k p hk => ?_⟩
  obtain ⟨b, hb, e⟩ := h2 k p hk
  refine ⟨b, hb, ?_⟩
  simpa using e
theorem pts_rep {ρ : Nat → PV} {a : Act} (hf : FRep g A ρ a) {caps : Array Operand} {cs : List (Nat × Nat)} (h : capsOf (caps.toList.map (ev ρ)) = some cs) : PtsRep g.β cs (caps.map a.eval) := by
  obtain ⟨vs, e, h1, h2⟩ := caps_rep hf h 0
  cases e
  exact ⟨h1, h2⟩
theorem caps_args {l : List (Nat × Nat)} {vs : Array Value} (h : PtsRep g.β l vs) : ArgsRep g A (l.map capPV) vs.toList := by
  refine ⟨by simpa using h.1, fun k x hk => ?_⟩
  rw [List.getElem?_map] at hk
  obtain ⟨p, hp, rfl⟩ := Option.map_eq_some_iff.1 hk
  obtain ⟨b, hb, e⟩ := h.2 k p hp
  exact ⟨_, by simpa using e, b, hb, rfl⟩
theorem ArgsRep.append {xs ys : List PV} {us vs : List Value} (h : ArgsRep g A xs us) (k : ArgsRep g A ys vs) : ArgsRep g A (xs ++ ys) (us ++ vs) := by
  refine ⟨by simp [h.1, k.1], fun i x hi => ?_⟩
  rw [List.getElem?_append] at hi ⊢
  rw [h.1]
  split at hi
  · rename_i hlt; rw [if_pos hlt]; exact h.2 i x hi
  · rename_i hlt; rw [if_neg hlt]; exact k.2 _ x hi
theorem strOf_rep {x : PV} {s : ByteArray} {u : Value} (hx : PRep g A x u) (h : strOf? x = some s) : u = .string s := by
  unfold strOf? at h
  split at h
  · cases h; exact PRep_lit_inv hx
  · cases h
theorem PRep_tup2 {u v : Value} (hu : u.oneCell' = true) (hv : v.oneCell' = true) : PRep g A (.tup [.c (.d (.lit u)), .c (.d (.lit v))]) (.tuple #[u, v]) := by
  refine ⟨#[u, v], rfl, rfl, fun k x hk => ?_⟩
  match k with
  | 0 => simp at hk; subst hk; exact ⟨u, rfl, DRep.lit _ hu⟩
  | 1 => simp at hk; subst hk; exact ⟨v, rfl, DRep.lit _ hv⟩
  | k + 2 => simp at hk
theorem PRep_tup3 {t u v : Value} (ht : t.oneCell' = true) (hu : u.oneCell' = true) (hv : v.oneCell' = true) : PRep g A (.tup [.c (.d (.lit t)), .c (.d (.lit u)), .c (.d (.lit v))]) (.tuple #[t, u, v]) := by
  refine ⟨#[t, u, v], rfl, rfl, fun k x hk => ?_⟩
  match k with
  | 0 => simp at hk; subst hk; exact ⟨t, rfl, DRep.lit _ ht⟩
  | 1 => simp at hk; subst hk; exact ⟨u, rfl, DRep.lit _ hu⟩
  | 2 => simp at hk; subst hk; exact ⟨v, rfl, DRep.lit _ hv⟩
  | k + 3 => simp at hk
theorem PRep_tup1 {t : Value} (ht : t.oneCell' = true) : PRep g A (.tup [.c (.d (.lit t))]) (.tuple #[t]) := by
  refine ⟨#[t], rfl, rfl, fun k x hk => ?_⟩
  match k with
  | 0 => simp at hk; subst hk; exact ⟨t, rfl, DRep.lit _ ht⟩
  | k + 1 => simp at hk
theorem dom_same {g g' : Gh} {H : HMap} (hd : DomOK g H) (h : g'.β = g.β) : DomOK g' H := fun id hi => by rw [h]; exact hd id hi
theorem stepD_ok {E : Env} (hm : MRel g H A w) (hd : DomOK g H) {ρ : Nat → PV} {a : Act} (hf : FRep g A ρ a) (o : Oper) (hdm : opDem o.op = true) {fb : Option (List Nat)} {KV : PV → HMap → AMap → Prop}
    (h : StepV E fb o.dst (res (ev ρ) o.type o.op) H A KV) {K : Act → World → Prop} {Q : Exit → Act → World → Prop}
    (hK : ∀ v H' A' u w' g', KV v H' A' → PRep g' A' v u → MRel g' H' A' w' → Evol g A w g' A' w' → DomOK g' H' → K (a.put o.dst u) w') : o.wp E.P a w K Q := by
  obtain ⟨dst, op, ty, pos, after, guard⟩ := o
  simp only at h hK hdm
  cases op with
  | range T x =>
    change rngV E dst T (ev ρ x) A (fun v A' => KV v H A') at h
    have hx := PRep_ev (g := g) (A := A) hf x
    unfold rngV at h
    split at h
    · rename_i hT
      obtain ⟨d, hd', h1⟩ := Opt.iff.1 h
      clear h
      subst hd'
      obtain ⟨s, hs, hA, h⟩ := Opt.iff.1 h1
      have hu := strOf_rep hx hs
      obtain ⟨u', w', g', h1, h2, h3, h4, h5⟩ := rngS_ok (P := E.P) (s := s) hm hT hA
      exact wp_value (u := u') (w' := w') (by simp [execOp, hu, h1]) (hK _ _ _ u' w' g' h h2 h3 h4 (dom_same hd h5))
    · rename_i kt e hT
      split at h
      · rename_i κ hxe
        split at h
        · rename_i m hA
          rw [hxe] at hx
          obtain ⟨bi, u', w', g', h1, h2, h3, h4, h5⟩ := rngM_ok (P := E.P) hm hT hA hx
          exact wp_value (u := u') (w' := w') (by simp [execOp, h1]) (hK _ _ _ u' w' g' (h bi) h2 h3 h4 (dom_same hd h5))
        · exact h.elim
      · exact h.elim
    · exact h.elim
  | next x s =>
    change nxtV (ev ρ x) s A (fun v A' => KV v H A') at h
    have hx := PRep_ev (g := g) (A := A) hf x
    unfold nxtV at h
    split at h
    · split at h
      · rename_i κ hxe
        split at h
        · rename_i s pos hA
          rw [hxe] at hx
          obtain ⟨n1, n2⟩ := nxtS_ok (P := E.P) (ty := ty) hm hA hx
          split at h
          · rename_i hp
            obtain ⟨w', h1, h2, h3⟩ := n1 hp
            exact wp_value (u := _) (w' := w') (by simp [execOp, h1]) (hK _ _ _ _ w' g h (PRep_tup3 rfl rfl rfl) h2 h3 hd)
          · rename_i hp
            exact wp_value (u := _) (w' := w) (by simp [execOp, n2 hp]) (hK _ _ _ _ w g h (PRep_tup1 rfl) hm (.refl _ _ _) hd)
        · exact h.elim
      · exact h.elim
    · split at h
      · rename_i κ bi hxe
        split at h
        · rename_i m cur left bi' hA
          obtain ⟨rfl, k1, k2⟩ := h
          rw [hxe] at hx
          have hv : a.eval x = .pointer (some ⟨bi, 0, none⟩) := hx
          rcases nxtM_ok (P := E.P) (ty := ty) hm hA with ⟨h0, h1, h2, h3⟩ | ⟨i, e, w', hi, c1, c2, h1, h2, h3⟩
          · exact wp_value (u := _) (w' := w) (by simp [execOp, hv, h1]) (hK _ _ _ _ w g (k1 h0) (PRep_tup1 rfl) h2 h3 hd)
          · exact wp_value (u := _) (w' := w') (by simp [execOp, hv, h1]) (hK _ _ _ _ w' g (k2 i e hi) (PRep_tup3 rfl c1 c2) h2 h3 hd)
        · exact h.elim
      · exact h.elim
  | _ => cases hdm
theorem step_ok {E : Env} (hE : EnvOK E) (hm : MRel g H A w) (hd : DomOK g H) {ρ : Nat → PV} {a : Act} (hf : FRep g A ρ a) (o : Oper) {fb : Option (List Nat)} {v : PV} {H' : HMap} {A' : AMap}
    (h : StepR E fb o.dst (res (ev ρ) o.type o.op) H A v H' A') {K : Act → World → Prop} {Q : Exit → Act → World → Prop}
    (hK : ∀ u w' g', PRep g' A' v u → MRel g' H' A' w' → Evol g A w g' A' w' → DomOK g' H' → K (a.put o.dst u) w') : o.wp E.P a w K Q := by
  obtain ⟨dst, op, ty, pos, after, guard⟩ := o
  simp only at h hK
  have pr : ∀ rop, Opt (pureS E.P rop) (fun v' => v' = v ∧ H = H' ∧ A = A') → pureS E.P rop = some v ∧ H = H' ∧ A = A' := fun rop h => by
    obtain ⟨v', h1, rfl, h2, h3⟩ := Opt.iff.1 h
    exact ⟨h1, h2, h3⟩
  cases op with
  | move x =>
    obtain ⟨h1, rfl, rfl⟩ := pr (.mv (ev ρ x)) h
    cases h1
    exact finish hd (.here hm (s := .pure (a.eval x)) rfl (PRep_ev hf x)) rfl hK
  | assign x =>
    obtain ⟨h1, rfl, rfl⟩ := pr (.mv (ev ρ x)) h
    cases h1
    exact finish hd (.here hm (s := .pure (a.eval x)) rfl (PRep_ev hf x)) rfl hK
  | pick c x y =>
    obtain ⟨h1, rfl, rfl⟩ := pr (.pick (ev ρ c) (ev ρ x) (ev ρ y)) h
    obtain ⟨t, ht, rfl⟩ := Option.map_eq_some_iff.1 h1
    have hc := boolOf_rep (PRep_ev hf c) ht
    refine wp_value (u := if t then a.eval x else a.eval y) (w' := w) ?_ (hK _ w g ?_ hm (.refl _ _ _) hd)
    · simp [execOp, hc, asBool]
    · cases t
      · exact PRep_ev hf y
      · exact PRep_ev hf x
  | range T x => exact stepD_ok hm hd hf ⟨dst, .range T x, ty, pos, after, guard⟩ rfl h (fun v1 H1 A1 u w' g' e h1 h2 h3 h4 => by obtain ⟨rfl, rfl, rfl⟩ := e; exact hK u w' g' h1 h2 h3 h4)
  | next x s => exact stepD_ok hm hd hf ⟨dst, .next x s, ty, pos, after, guard⟩ rfl h (fun v1 H1 A1 u w' g' e h1 h2 h3 h4 => by obtain ⟨rfl, rfl, rfl⟩ := e; exact hK u w' g' h1 h2 h3 h4)
  | entry x =>
    change entV (ev ρ x) A (fun v' => v' = v ∧ H = H' ∧ A = A') at h
    have hx := PRep_ev (g := g) (A := A) hf x
    unfold entV at h
    split at h
    · rename_i κ bi hxe
      split at h
      · rename_i m p left bi' hA
        obtain ⟨rfl, rfl, rfl, rfl⟩ := h
        rw [hxe] at hx
        have hv : a.eval x = .pointer (some ⟨bi, 0, none⟩) := hx
        obtain ⟨h1, c1, c2⟩ := entM_ok (P := E.P) hm hA
        exact wp_value (u := _) (w' := w) (by simp [execOp, hv, h1]) (hK _ w g (PRep_tup2 c1 c2) hm (.refl _ _ _) hd)
      · exact h.elim
    · exact h.elim
  | alloc T =>
    obtain ⟨d, rfl, h⟩ := Opt.iff.1 h
    obtain ⟨z, hz, h0, rfl, rfl, rfl⟩ := Opt.iff.1 h
    obtain ⟨i, zv, hi, hzz, _, _, rfl, _⟩ := zeroOf_rep hz
    obtain ⟨g', m1, m2, m3, m4⟩ := newvar hm hd h0 (CsRep_cst (g := g) (A := A) zv.cells.toList) T
    refine wp_value (u := .pointer (some ⟨w.heap.size, 0, none⟩)) (w' := w.alloc (.cells zv.cells T)) ?_ (hK _ _ g' ⟨_, m4, rfl⟩ m1 m2 m3)
    simp [execOp, Instr.alloc, zeroValue, typeInfo, hi, hzz, newVar, newRow]
  | box T x =>
    obtain ⟨d, rfl, h⟩ := Opt.iff.1 h
    obtain ⟨z, hz, h0, rfl, rfl, rfl⟩ := Opt.iff.1 h
    unfold boxS at hz
    rw [Option.bind_eq_some_iff] at hz
    obtain ⟨cs, hcs, hz⟩ := hz
    split at hz
    · cases hz
      obtain ⟨g', m1, m2, m3, m4⟩ := newvar hm hd h0 (cellsP_rep (PRep_ev hf x) hcs) T
      refine wp_value (u := .pointer (some ⟨w.heap.size, 0, none⟩)) (w' := w.alloc (.cells (a.eval x).cells T)) ?_ (hK _ _ g' ⟨_, m4, rfl⟩ m1 m2 m3)
      simp [execOp, Instr.box, newVar, newRow]
    · cases hz
  | build T ps =>
    obtain ⟨h1, rfl, rfl⟩ := pr (.build T (ps.toList.map fun (p : Nat × Operand) => (p.1, ev ρ p.2))) h
    obtain ⟨z1, z2⟩ := zip_ps hf ps
    exact finish hd (build_ok hm z1 z2 h1) rfl hK
  | buildSlice T n ps =>
    change (match isRow E.effs T with
      | true => bslV E dst T n (ps.toList.map fun (p : Nat × Operand) => (p.1, ev ρ p.2)) H fun v' H'' => v' = v ∧ H'' = H' ∧ A = A'
      | false => pureV E.P (.bsl T n (ps.toList.map fun (p : Nat × Operand) => (p.1, ev ρ p.2))) fun v' => v' = v ∧ H = H' ∧ A = A') at h
    obtain ⟨z1, z2⟩ := zip_ps hf ps
    split at h
    · unfold bslV at h
      obtain ⟨d', rfl, h2⟩ := Opt.iff.1 h
      obtain ⟨cs, hcs, hH0, rfl, rfl, rfl⟩ := Opt.iff.1 h2
      obtain ⟨u, w', g', r1, r2, r3, r4, r5⟩ := bslN_ok (P := E.P) hm hd hH0 z1 z2 hcs
      refine wp_value (u := u) (w' := w') ?_ (hK u w' g' r2 r3 r4 r5)
      show (do pure (Next.value (← Instr.buildSlice T n (ps.map fun (p : Nat × Operand) => (p.1, a.eval p.2)))) : Sem Next).run E.P w = _
      rw [Sem.run_bind, r1]
      rfl
    · obtain ⟨h1, rfl, rfl⟩ := pr (.bsl T n (ps.toList.map fun (p : Nat × Operand) => (p.1, ev ρ p.2))) h
      exact finish hd (bsl_ok hm z1 z2 h1) rfl hK
  | load T x =>
    obtain ⟨v', h1, rfl, rfl, rfl⟩ := Opt.iff.1 h
    obtain ⟨X, hX, hp⟩ := load_ok (P := E.P) hm (PRep_ev hf x) h1
    exact finish hd (.here hm hX hp) rfl hK
  | store T x y =>
    obtain ⟨h0, h⟩ := h
    obtain ⟨⟨H1, A1⟩, h1, rfl, rfl, rfl⟩ := Opt.iff.1 h
    obtain ⟨w', hr, m1, m2, m3⟩ := store_ok hm hd (PRep_ev hf x) (PRep_ev hf y) (cellsOf_pos h0) h1
    unfold Oper.wp
    have e : (execOp a.eval ⟨dst, .store T x y, ty, pos, after, guard⟩).run E.P w = .ok .skip w' := by
      show (do Instr.storeAt T (a.eval x) (a.eval y); pure Next.skip : Sem Next).run E.P w = _
      rw [Sem.run_bind, hr]
      rfl
    rw [e]
    exact hK undef w' g rfl m1 m2 m3
  | nilCheck x =>
    obtain ⟨h1, rfl, rfl⟩ := pr (.nilc (ev ρ x)) h
    obtain ⟨u, hr, hp, _⟩ := nil_ok (P := E.P) hm (PRep_ev hf x) h1 dst ty pos after guard
    exact wp_value hr (hK u w g hp hm (.refl _ _ _) hd)
  | binOp op T x y yT =>
    obtain ⟨h1, rfl, rfl⟩ := pr (.bin op T (ev ρ x) (ev ρ y)) h
    exact finish hd (bin_ok hm x y (PRep_ev hf x) (PRep_ev hf y) h1) rfl hK
  | unOp op T x =>
    obtain ⟨h1, rfl, rfl⟩ := pr (.un op (ev ρ x)) h
    obtain ⟨u, hu, h1⟩ := Option.bind_eq_some_iff.1 h1
    obtain ⟨r, hr, rfl⟩ := Option.map_eq_some_iff.1 h1
    have e := litOf_rep (PRep_ev hf x) hu
    refine finish (s := Op.unary op (a.eval x)) hd (.here hm (u := r) ?_ (PRep_lit (semOf_some hr).2)) rfl hK
    rw [e]
    exact run_of_semOf hr
  | convert s d x =>
    change (match isFresh E.effs d with
      | true => bytV E dst s d (ev ρ x) A fun v' A'' => v' = v ∧ H = H' ∧ A'' = A'
      | false => (match isQuiet E.effs s with
        | true => Opt (convA E.P A s d (ev ρ x)) fun v' => v' = v ∧ H = H' ∧ A = A'
        | false => pureV E.P (.conv s d (ev ρ x)) fun v' => v' = v ∧ H = H' ∧ A = A')) at h
    split at h
    · unfold bytV at h
      obtain ⟨⟨b1, b2⟩, h⟩ := h
      obtain ⟨d', hd', h⟩ := Opt.iff.1 h
      obtain ⟨s', hs', hA0, h4⟩ := Opt.iff.1 h
      subst hd'
      have hx := PRep_ev hf x
      have hxe : a.eval x = .string s' := by
        unfold strOf? at hs'
        split at hs'
        · rename_i heq
          cases hs'
          rw [heq] at hx
          exact PRep_lit_inv hx
        · cases hs'
      split at h4
      · obtain ⟨h1, h2, h3⟩ := h4
        subst h1 h2 h3
        obtain ⟨u, w', g', r1, r2, r3, r4, r5⟩ := bytesm_ok (P := E.P) hm (s := s') hA0 b1 b2
        refine wp_value (u := u) (w' := w') ?_ (hK u w' g' r2 r3 r4 (fun id hi => by rw [r5]; exact hd id hi))
        show (do pure (Next.value (← convert s d (a.eval x))) : Sem Next).run E.P w = _
        rw [hxe, Sem.run_bind, r1]
        rfl
      · obtain ⟨h1, h2, h3⟩ := h4
        subst h1 h2 h3
        obtain ⟨u, w', g', r1, r2, r3, r4, r5⟩ := bytes_ok (P := E.P) hm (s := s') hA0 b1 b2
        refine wp_value (u := u) (w' := w') ?_ (hK u w' g' r2 r3 r4 (fun id hi => by rw [r5]; exact hd id hi))
        show (do pure (Next.value (← convert s d (a.eval x))) : Sem Next).run E.P w = _
        rw [hxe, Sem.run_bind, r1]
        rfl
    · split at h
      · obtain ⟨v', h1, rfl, rfl, rfl⟩ := Opt.iff.1 h
        obtain ⟨X, hX, hp⟩ := convA_ok (P := E.P) hm (PRep_ev hf x) h1
        exact finish hd (.here hm hX hp) rfl hK
      · obtain ⟨h1, rfl, rfl⟩ := pr (.conv s d (ev ρ x)) h
        exact finish hd (conv_ok hm (PRep_ev hf x) h1) rfl hK
  | makeMap T r =>
    cases r with
    | some r => exact (show False from h).elim
    | none =>
      obtain ⟨d', rfl, hA0, rfl, rfl, rfl⟩ := Opt.iff.1 h
      obtain ⟨u, w', g', r1, r2, r3, r4, r5⟩ := newmap_ok (P := E.P) hm hA0 T
      refine wp_value (u := u) (w' := w') ?_ (hK u w' g' r2 r3 r4 (fun id hi => by rw [r5]; exact hd id hi))
      show (do pure (Next.value (← Instr.makeMap T none)) : Sem Next).run E.P w = _
      rw [Sem.run_bind, r1]
      rfl
  | lookup T x i ok =>
    obtain ⟨v', h1, rfl, rfl, rfl⟩ := Opt.iff.1 h
    obtain ⟨X, hX, hp⟩ := look_ok (P := E.P) hm (PRep_ev hf x) (PRep_ev hf i) h1
    exact finish hd (.here hm hX hp) rfl hK
  | mapUpdate T m k x =>
    obtain ⟨A1, h1, rfl, rfl, rfl⟩ := Opt.iff.1 h
    obtain ⟨w', hr, m1, m2⟩ := mup_ok (P := E.P) hm (PRep_ev hf m) (PRep_ev hf k) (PRep_ev hf x) h1
    unfold Oper.wp
    have e : (execOp a.eval ⟨dst, .mapUpdate T m k x, ty, pos, after, guard⟩).run E.P w = .ok .skip w' := by
      show (do Instr.mapUpdate T (a.eval m) (a.eval k) (a.eval x); pure Next.skip : Sem Next).run E.P w = _
      rw [Sem.run_bind, hr]
      rfl
    rw [e]
    exact hK undef w' g True.intro m1 m2 hd
  | makeFunc fn first caps =>
    change StepR E fb dst (resF (ev ρ) fn first (caps.toList.map (ev ρ))) H A v H' A' at h
    unfold resF at h
    split at h
    · rename_i f
      split at h
      · rename_i h0
        obtain rfl : first = #[] := Array.eq_empty_of_size_eq_zero h0
        obtain ⟨h1, rfl, rfl⟩ := pr (.mkf f (caps.toList.map (ev ρ))) h
        obtain ⟨cs, hcs, rfl⟩ := Option.map_eq_some_iff.1 h1
        refine wp_value (u := .func (.func f) #[] (caps.map a.eval)) (w' := w) ?_ (hK _ w g (caps_rep hf hcs f) hm (.refl _ _ _) hd)
        simp [execOp, Instr.makeFunc]
      · obtain ⟨h1, rfl, rfl⟩ := pr (.mkb f (first.toList.map (ev ρ)) (caps.toList.map (ev ρ))) h
        obtain ⟨fs, hfs, h1⟩ := Option.bind_eq_some_iff.1 h1
        obtain ⟨cs, hcs, rfl⟩ := Option.map_eq_some_iff.1 h1
        refine wp_value (u := .func (.func f) (first.map a.eval) (caps.map a.eval)) (w' := w) ?_ (hK _ w g ⟨_, _, rfl, pts_rep hf hfs, pts_rep hf hcs⟩ hm (.refl _ _ _) hd)
        simp [execOp, Instr.makeFunc]
    · exact (show False from h).elim
  | slice T x lo hi mx =>
    have h' : slcV E.P T (ev ρ x) (lo.map (ev ρ)) (hi.map (ev ρ)) (mx.map (ev ρ)) (fun v' => v' = v ∧ H = H' ∧ A = A') := h
    obtain ⟨v', ⟨rfl, rfl, rfl⟩, hp⟩ := slc_ok hm (PRep_ev hf x) (opt_rep hf lo).1 (opt_rep hf lo).2 (opt_rep hf hi).1 (opt_rep hf hi).2 (opt_rep hf mx).1 (opt_rep hf mx).2 h'
    exact finish hd hp rfl hK
  | fieldAddr T x f =>
    obtain ⟨h1, rfl, rfl⟩ := pr (.fldA T (ev ρ x) f) h
    exact finish hd (fldA_ok hm (PRep_ev hf x) h1) rfl hK
  | field T x f =>
    obtain ⟨h1, rfl, rfl⟩ := pr (.fld T (ev ρ x) f) h
    exact finish hd (fld_ok hm (PRep_ev hf x) h1) rfl hK
  | indexAddr T x i =>
    obtain ⟨h1, rfl, rfl⟩ := pr (.idxA T (ev ρ x) (ev ρ i)) h
    exact finish hd (idxA_ok hm (PRep_ev hf x) (PRep_ev hf i) h1) rfl hK
  | index T x i =>
    obtain ⟨h1, rfl, rfl⟩ := pr (.idx T (ev ρ x) (ev ρ i)) h
    exact finish hd (idx_ok hm (PRep_ev hf x) (PRep_ev hf i) h1) rfl hK
  | extract x i =>
    obtain ⟨h1, rfl, rfl⟩ := pr (.ext (ev ρ x) i) h
    exact finish hd (ext_ok hm (PRep_ev hf x) h1) rfl hK
  | makeSlice T l c =>
    change (match isMut E.effs T with
      | true => mksV E dst T (ev ρ l) (ev ρ c) A fun v' A'' => v' = v ∧ H = H' ∧ A'' = A'
      | false => pureV E.P (.mks T (ev ρ l) (ev ρ c)) fun v' => v' = v ∧ H = H' ∧ A = A') at h
    split at h
    · unfold mksV at h
      obtain ⟨d', rfl, h2⟩ := Opt.iff.1 h
      obtain ⟨els, hels, hA0, rfl, rfl, rfl⟩ := Opt.iff.1 h2
      obtain ⟨u, w', g', r1, r2, r3, r4, r5⟩ := mksm_ok (P := E.P) hm hA0 (PRep_ev hf l) (PRep_ev hf c) hels
      refine wp_value (u := u) (w' := w') ?_ (hK u w' g' r2 r3 r4 (fun id hi => by rw [r5]; exact hd id hi))
      show (do pure (Next.value (← Instr.makeSlice T (a.eval l) (a.eval c))) : Sem Next).run E.P w = _
      rw [Sem.run_bind, r1]
      rfl
    · obtain ⟨h1, rfl, rfl⟩ := pr (.mks T (ev ρ l) (ev ρ c)) h
      exact finish hd (mks_ok hm (PRep_ev hf l) (PRep_ev hf c) h1) rfl hK
  | call c =>
    obtain ⟨callee, args, argTypes⟩ := c
    cases callee with
    | value x =>
      change StepR E fb dst (resV (ev ρ) x (args.toList.map (ev ρ))) H A v H' A' at h
      have callv : StepR E fb dst (.callv (ev ρ x) (args.toList.map (ev ρ))) H A v H' A' → Oper.wp E.P ⟨dst, .call ⟨.value x, args, argTypes⟩, ty, pos, after, guard⟩ a w K Q := by
        intro h
        change callvV E H A (ev ρ x) (args.toList.map (ev ρ)) (fun v' H'' A'' => v' = v ∧ H'' = H' ∧ A'' = A') at h
        unfold callvV at h
        split at h
        · rename_i f caps hx
          obtain ⟨v', H1, A1, hs, hab, rfl, rfl, rfl⟩ := h
          have hxr : PRep g A (.c (.fn f caps)) (a.eval x) := by rw [← hx]; exact PRep_ev hf x
          obtain ⟨vs, hv, hvs, hcaps⟩ := hxr
          have har := ArgsRep_map (g := g) (A := A) hf args
          refine wp_callTo (f := f) (args := args.map a.eval ++ vs) ?_ (hE.eff f _ H A _ _ _ _ hs g w (args.map a.eval ++ vs) hm hd hab ⟨?_, fun k y hk => ?_⟩) (fun u w' ⟨g', h1, h2, h3, h4⟩ => hK u w' g' h1 h2 h3 h4)
          · simp [execOp, resolve, Deferred.ofValue, invoke, hv]
          · simp [hvs]
          · rw [Array.toList_append]
            rw [List.getElem?_append] at hk ⊢
            simp only [List.length_map, Array.length_toList, Array.toList_map] at hk ⊢
            split at hk
            · rename_i hlt
              rw [if_pos hlt]
              obtain ⟨u, hu, hr⟩ := har.2 k y hk
              exact ⟨u, by simpa using hu, hr⟩
            · rename_i hlt
              rw [if_neg hlt]
              rw [List.getElem?_map] at hk
              obtain ⟨p, hp, rfl⟩ := Option.map_eq_some_iff.1 hk
              obtain ⟨b, hb, e⟩ := hcaps _ p hp
              exact ⟨_, by simpa using e, b, hb, rfl⟩
        · rename_i f fst caps hx
          obtain ⟨v', H1, A1, hs, hab, rfl, rfl, rfl⟩ := h
          have hxr : PRep g A (.c (.bfn f fst caps)) (a.eval x) := by rw [← hx]; exact PRep_ev hf x
          obtain ⟨us, vs, hv, hu, hcaps⟩ := hxr
          have har := ArgsRep_map (g := g) (A := A) hf args
          refine wp_callTo (f := f) (args := us ++ args.map a.eval ++ vs) ?_ (hE.eff f _ H A _ _ _ _ hs g w (us ++ args.map a.eval ++ vs) hm hd hab ?_) (fun u w' ⟨g', h1, h2, h3, h4⟩ => hK u w' g' h1 h2 h3 h4)
          · simp [execOp, resolve, Deferred.ofValue, invoke, hv]
          · rw [Array.toList_append, Array.toList_append, List.append_assoc]
            exact (caps_args hu).append (har.append (caps_args hcaps))
        · exact h.elim
      cases x with
      | tmp t => exact callv h
      | const c => exact callv h
      | global b => exact callv h
      | func f =>
        replace h := (step_call (show StepR E fb dst (.call f (args.toList.map (ev ρ))) H A v H' A' from h)).1
        have har := ArgsRep_map (g := g) (A := A) hf args
        have hrun : (execOp a.eval ⟨dst, .call ⟨.value (.func f), args, argTypes⟩, ty, pos, after, guard⟩).run E.P w = (callFunc f (args.map a.eval)).run E.P w := by
          simp [execOp, resolve, Deferred.ofValue, invoke, Act.eval]
        unfold callV at h
        split at h
        · obtain ⟨v', H1, A1, hs, hab, rfl, rfl, rfl⟩ := h
          exact wp_callTo hrun (hE.eff f _ H A _ _ _ _ hs g w _ hm hd hab har) (fun u w' ⟨g', h1, h2, h3, h4⟩ => hK u w' g' h1 h2 h3 h4)
        · split at h
          · obtain ⟨v', hs, hab, rfl, rfl, rfl⟩ := h
            exact wp_callTo hrun (hE.eff f _ _ _ _ _ _ _ hs g w _ hm hd hab har) (fun u w' ⟨g', h1, h2, h3, h4⟩ => hK u w' g' h1 h2 h3 h4)
          · split at h
            · obtain ⟨v', hs, hab, rfl, rfl, rfl⟩ := h
              exact wp_callTo hrun (hE.eff f _ _ _ _ _ _ _ (hs H (fun _ _ => rfl) (fun id hi => (hab id hi).1)) g w _ hm hd hab har) (fun u w' ⟨g', h1, h2, h3, h4⟩ => hK u w' g' h1 h2 h3 h4)
            · obtain ⟨r, hs, hfr, rfl, rfl, rfl⟩ := h
              obtain ⟨hcl, hok⟩ := hE.pure f _ r hs
              refine wp_callTo hrun (hok g.C w _ hm.com ⟨har.1, fun k x hk => ?_⟩) (fun u w' ⟨g', h1, h2, h3⟩ => ?_)
              · obtain ⟨u, hu, hr⟩ := har.2 k x hk
                exact ⟨u, hu, PRep_closed (List.all_eq_true.1 hcl x (List.mem_of_getElem? hk)) hr⟩
              · obtain ⟨g'', m1, m2, m3, m4, m5⟩ := merge hm hfr h2 h3
                refine hK u w' g'' (RV_pv_rep m4 (fun k ar hA => ?_) m5 h1) m1 m2 (fun id hi => by rw [m3]; exact hd id hi)
                rw [inst_same]
                rw [show RT.install 0 noA 0 r.list (0, k) = some ar from hA]
                rfl
    | invoke recv m => exact (show False from h).elim
    | builtin b =>
      have hargs : ArgsRep g A (args.toList.map (ev ρ)) (args.toList.map a.eval) := ⟨by simp, fun k x hk => by
        simp only [List.getElem?_map, Option.map_eq_some_iff] at hk ⊢
        obtain ⟨q, hq, rfl⟩ := hk
        exact ⟨_, ⟨q, hq, rfl⟩, PRep_ev hf q⟩⟩
      change StepR E fb dst (.blt b argTypes.toList ty (args.toList.map (ev ρ))) H A v H' A' at h
      have blt : pureS E.P (.blt b argTypes.toList ty (args.toList.map (ev ρ))) = some v ∧ H = H' ∧ A = A' → Oper.wp E.P ⟨dst, .call ⟨.builtin b, args, argTypes⟩, ty, pos, after, guard⟩ a w K Q := by
        rintro ⟨h1, rfl, rfl⟩
        change bltS E.P b argTypes.toList ty (args.toList.map (ev ρ)) = some v at h1
        generalize hxs : args.toList.map (ev ρ) = xs at h1 hargs
        generalize hvs : args.toList.map a.eval = vs at hargs
        have hvs' : args.map a.eval = vs.toArray := by rw [← hvs]; apply Array.ext'; simp
        unfold bltS at h1
        split at h1
        · unfold lenS at h1
          split at h1
          · rename_i t x hat
            obtain ⟨hl, hr⟩ := hargs
            match vs, hl with
            | [u], _ =>
              obtain ⟨u', hu', hxr⟩ := hr 0 x rfl
              cases hu'
              have hat' : argTypes = #[t] := by apply Array.ext'; simpa using hat
              subst hat'
              refine finish (s := Builtin.len_ #[t] ty #[u]) hd (len_ok hm hxr h1) ?_ hK
              simp only [execOp, resolve, hvs']
              rfl
          · cases h1
        · obtain ⟨ls, hls, h1⟩ := Option.bind_eq_some_iff.1 h1
          obtain ⟨r, hr, rfl⟩ := Option.map_eq_some_iff.1 h1
          have e := litsOf_rep (g := g) (A := A) hls vs hargs.1 (fun k x u h1 h2 => by
            obtain ⟨u', hu', hp⟩ := hargs.2 k x h1
            rw [h2] at hu'
            cases hu'
            exact hp)
          subst e
          refine finish (s := Builtin.min_ argTypes ty vs.toArray) hd (.here hm (u := r) (run_of_semOf (s := Builtin.min_ argTypes ty vs.toArray) hr) (PRep_lit (semOf_some hr).2)) ?_ hK
          simp only [execOp, resolve, hvs']
          rfl
        · obtain ⟨ls, hls, h1⟩ := Option.bind_eq_some_iff.1 h1
          obtain ⟨r, hr, rfl⟩ := Option.map_eq_some_iff.1 h1
          have e := litsOf_rep (g := g) (A := A) hls vs hargs.1 (fun k x u h1 h2 => by
            obtain ⟨u', hu', hp⟩ := hargs.2 k x h1
            rw [h2] at hu'
            cases hu'
            exact hp)
          subst e
          refine finish (s := Builtin.max_ argTypes ty vs.toArray) hd (.here hm (u := r) (run_of_semOf (s := Builtin.max_ argTypes ty vs.toArray) hr) (PRep_lit (semOf_some hr).2)) ?_ hK
          simp only [execOp, resolve, hvs']
          rfl
        · cases h1
      cases b with
      | append =>
        change appC E dst H A argTypes.toList (args.toList.map (ev ρ)) (fun v' H'' A'' => v' = v ∧ H'' = H' ∧ A'' = A') at h
        unfold appC at h
        generalize hxs : args.toList.map (ev ρ) = xs at h hargs
        generalize hvs : args.toList.map a.eval = vs at hargs
        have hvs' : args.map a.eval = vs.toArray := by rw [← hvs]; apply Array.ext'; simp
        split at h
        · rename_i x y
          obtain ⟨d, rfl, h2⟩ := Opt.iff.1 h
          obtain ⟨v1, A1, h1, rfl, rfl, rfl⟩ := appV_ex h2
          obtain ⟨hl, hr⟩ := hargs
          match vs, hl with
          | [ux, uy], _ =>
            obtain ⟨u1, hu1, hxr⟩ := hr 0 x rfl
            obtain ⟨u2, hu2, hyr⟩ := hr 1 y rfl
            cases hu1
            cases hu2
            obtain ⟨t, ht, u', w', g', r1, r2, r3, r4, r5⟩ := append_ok hm hxr hyr ty h1
            have hat' : argTypes = #[t, t] := by apply Array.ext'; simpa using ht
            subst hat'
            refine wp_value (u := u') (w' := w') ?_ (hK u' w' g' r2 r3 r4 (fun id hi => by rw [r5]; exact hd id hi))
            simp only [execOp, resolve, hvs']
            show (do Next.value <$> Builtin.append_ #[t, t] ty #[ux, uy] : Sem Next).run E.P w = _
            rw [Sem.run_map, r1]
            rfl
        · exact h.elim
      | delete =>
        change delC E H A argTypes.toList (args.toList.map (ev ρ)) (fun v' H'' A'' => v' = v ∧ H'' = H' ∧ A'' = A') at h
        unfold delC at h
        generalize hxs : args.toList.map (ev ρ) = xs at h hargs
        generalize hvs : args.toList.map a.eval = vs at hargs
        have hvs' : args.map a.eval = vs.toArray := by rw [← hvs]; apply Array.ext'; simp
        split at h
        · rename_i t ts x k hat
          obtain ⟨A1, h1, rfl, rfl, rfl⟩ := Opt.iff.1 h
          obtain ⟨hl, hr⟩ := hargs
          match vs, hl with
          | [ux, uy], _ =>
            obtain ⟨u1, hu1, hxr⟩ := hr 0 x rfl
            obtain ⟨u2, hu2, hyr⟩ := hr 1 k rfl
            cases hu1
            cases hu2
            have hat0 : argTypes[0]? = some t := by rw [← Array.getElem?_toList, hat]; rfl
            obtain ⟨w', r1, r2, r3⟩ := mdel_ok (P := E.P) (ty := ty) hm hxr hyr hat0 h1
            refine wp_value (u := .tuple #[]) (w' := w') ?_ (hK _ w' g True.intro r2 r3 hd)
            simp only [execOp, resolve, hvs']
            show (do Next.value <$> Builtin.delete_ argTypes ty #[ux, uy] : Sem Next).run E.P w = _
            rw [Sem.run_map, r1]
            rfl
        · exact h.elim
      | len =>
        change (match isCount E.effs argTypes.toList with
          | true => Opt (lenM E.P A argTypes.toList (args.toList.map (ev ρ))) fun v' => v' = v ∧ H = H' ∧ A = A'
          | false => pureV E.P (.blt .len argTypes.toList ty (args.toList.map (ev ρ))) fun v' => v' = v ∧ H = H' ∧ A = A') at h
        split at h
        · obtain ⟨v', h1, rfl, rfl, rfl⟩ := Opt.iff.1 h
          generalize hxs : args.toList.map (ev ρ) = xs at h1 hargs
          generalize hvs : args.toList.map a.eval = vs at hargs
          have hvs' : args.map a.eval = vs.toArray := by rw [← hvs]; apply Array.ext'; simp
          generalize hats : argTypes.toList = ats at h1
          have hlm : ∃ t x, ats = [t] ∧ xs = [x] := by
            unfold lenM at h1
            split at h1
            · exact ⟨_, _, rfl, rfl⟩
            · cases h1
          obtain ⟨t, x, rfl, rfl⟩ := hlm
          obtain ⟨hl, hr⟩ := hargs
          match vs, hl with
          | [u], _ =>
            obtain ⟨u', hu', hxr⟩ := hr 0 x rfl
            cases hu'
            have hat' : argTypes = #[t] := by apply Array.ext'; simpa using hats
            subst hat'
            obtain ⟨X, hX, hp⟩ := lenM_ok (P := E.P) (T := ty) hm hxr h1
            refine finish (s := Builtin.len_ #[t] ty #[u]) hd (.here hm hX hp) ?_ hK
            simp only [execOp, resolve, hvs']
            rfl
        · exact blt (pr _ h)
      | _ => exact blt (pr _ h)
  | _ => exact (show False from h).elim
end Go.PW
