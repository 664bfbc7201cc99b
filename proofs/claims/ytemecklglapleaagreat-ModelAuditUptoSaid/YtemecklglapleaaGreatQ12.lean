/-
  Parts of the proof, laid together: PwL.
-/
import Derived.Test.YtemecklglapleaaGreatQ11

namespace Go.PW
variable {g : Gh} {H : HMap} {A : AMap} {w : World}
theorem z7l {x : PV} {t : Bool} {u : Value} (hx : PRep g A x u) (h : boolOf? x = some t) : u = .bool t := by
 unfold boolOf? at h
 split at h
 · cases h; exact zzv hx
 · cases h
theorem y1k {x : PV} {v u : Value} (hx : PRep g A x u) (h : litOf? x = some v) : u = v := by
 unfold litOf? at h
 split at h
 · cases h; exact zzv hx
 · cases h
theorem xzt {P : Program} {x v : PV} {a : Act} {xo : Operand} (hm : MRel g H A w) (hx : PRep g A x (a.eval xo)) (h : nilS x = some v) (dst : Option Tmp) (ty : TypeId) (pos : String) (after : Array Edge) (guard : Option (Nat × Bool)) :
 ∃ u, (execOp a.eval ⟨dst, .nilCheck xo, ty, pos, after, guard⟩).run P w = .ok (.value u) w ∧ PRep g A v u ∧ MRel g H A w := by
 unfold nilS at h
 split at h
 · cases h
   obtain ⟨b, hb, e⟩ := id hx
   exact ⟨_, by simp [execOp, e], hx, hm⟩
 · cases h
   obtain ⟨b, o, e, hc⟩ := id hx
   exact ⟨_, by simp [execOp, e], hx, hm⟩
 · cases h
   obtain ⟨b, els, e, r⟩ := id hx
   exact ⟨_, by simp [execOp, e], hx, hm⟩
 · cases h
   obtain ⟨vs, e, r⟩ := id hx
   exact ⟨_, by simp [execOp, e], hx, hm⟩
 · cases h
   obtain ⟨us, vs, e, r⟩ := id hx
   exact ⟨_, by simp [execOp, e], hx, hm⟩
 · cases h
   generalize hv : a.eval xo = u at hx
   refine ⟨u, ?_, hx, hm⟩
   cases hx
   simp [execOp, hv]
 · cases h
   generalize hv : a.eval xo = u at hx
   refine ⟨u, ?_, hx, hm⟩
   cases hx
   simp [execOp, hv]
 · cases h
   generalize hv : a.eval xo = u at hx
   refine ⟨u, ?_, hx, hm⟩
   cases hx
   simp [execOp, hv]
 · cases h
theorem y59 {ρ : Nat → PV} {a : Act} (hf : FRep g A ρ a) (ps : Array (Nat × Operand)) :
 (ps.map fun (p : Nat × Operand) => (p.1, a.eval p.2)).size = (ps.toList.map fun (p : Nat × Operand) => (p.1, ev ρ p.2)).length ∧
 ∀ (k : Nat) (p : Nat × PV) (u : Nat × Value), (ps.toList.map fun (p : Nat × Operand) => (p.1, ev ρ p.2))[k]? = some p → (ps.map fun (p : Nat × Operand) => (p.1, a.eval p.2)).toList[k]? = some u → u.1 = p.1 ∧ PRep g A p.2 u.2 := by
 refine ⟨by simp, fun k p u h1 h2 => ?_⟩
 simp only [List.getElem?_map, Zms, Array.toList_map] at h1 h2
 obtain ⟨q, hq, rfl⟩ := h1
 obtain ⟨q', hq', rfl⟩ := h2
 rw [hq] at hq'
 cases hq'
 exact ⟨rfl, zz3 hf q.2⟩
theorem z3h {ρ : Nat → PV} {a : Act} (hf : FRep g A ρ a) (x : Option Operand) : (∀ y, x.map (ev ρ) = some y → ∃ v, x.map a.eval = some v ∧ PRep g A y v) ∧ (x.map (ev ρ) = none → x.map a.eval = none) := by
 cases x with
 | none => simp
 | some x => exact ⟨fun y h => by cases h; exact ⟨_, rfl, zz3 hf x⟩, by simp⟩
theorem yjv {ρ : Nat → PV} {a : Act} (hf : FRep g A ρ a) {caps : Array Operand} {cs : List (Nat × Nat)} (h : zjn (caps.toList.map (ev ρ)) = some cs) :
 ∀ f, CRep g A (.fn f cs) (.func (.func f) #[] (caps.map a.eval)) := by
 intro f
 obtain ⟨h1, h2⟩ := yk7 (g := g) (A := A) h (caps.toList.map a.eval) (by simp) (fun k x u hx hu => by
  simp only [List.getElem?_map, Zms] at hx hu
  obtain ⟨q, hq, rfl⟩ := hx
  obtain ⟨q', hq', rfl⟩ := hu
  rw [hq] at hq'
  cases hq'
  exact zz3 hf q)
 refine ⟨_, rfl, by simpa using h1, fun k p hk => ?_⟩
 obtain ⟨b, hb, e⟩ := h2 k p hk
 refine ⟨b, hb, ?_⟩
 simpa using e
theorem y12 {ρ : Nat → PV} {a : Act} (hf : FRep g A ρ a) {caps : Array Operand} {cs : List (Nat × Nat)} (h : zjn (caps.toList.map (ev ρ)) = some cs) : zwu g.β cs (caps.map a.eval) := by
 obtain ⟨vs, e, h1, h2⟩ := yjv hf h 0
 cases e
 exact ⟨h1, h2⟩
theorem yze {l : List (Nat × Nat)} {vs : Array Value} (h : zwu g.β l vs) : zjm g A (l.map z60) vs.toList := by
 refine ⟨by simpa using h.1, fun k x hk => ?_⟩
 rw [List.getElem?_map] at hk
 obtain ⟨p, hp, rfl⟩ := Option.map_eq_some_iff.1 hk
 obtain ⟨b, hb, e⟩ := h.2 k p hp
 exact ⟨_, by simpa using e, b, hb, rfl⟩
theorem zjm.append {xs ys : List PV} {us vs : List Value} (h : zjm g A xs us) (k : zjm g A ys vs) : zjm g A (xs ++ ys) (us ++ vs) := by
 refine ⟨by simp [h.1, k.1], fun i x hi => ?_⟩
 rw [List.getElem?_append] at hi ⊢
 rw [h.1]
 split at hi
 · rename_i hlt; rw [if_pos hlt]; exact h.2 i x hi
 · rename_i hlt; rw [if_neg hlt]; exact k.2 _ x hi
theorem y2k {x : PV} {s : ByteArray} {u : Value} (hx : PRep g A x u) (h : strOf? x = some s) : u = .string s := by
 unfold strOf? at h
 split at h
 · cases h; exact zzv hx
 · cases h
theorem yws {t u v : Value} (ht : t.oneCell' = true) (hu : u.oneCell' = true) (hv : v.oneCell' = true) : PRep g A (.tup [.c (.d (.lit t)), .c (.d (.lit u)), .c (.d (.lit v))]) (.tuple #[t, u, v]) := by
 refine ⟨#[t, u, v], rfl, rfl, fun k x hk => ?_⟩
 match k with
 | 0 => simp at hk; subst hk; exact ⟨t, rfl, DRep.lit _ ht⟩
 | 1 => simp at hk; subst hk; exact ⟨u, rfl, DRep.lit _ hu⟩
 | 2 => simp at hk; subst hk; exact ⟨v, rfl, DRep.lit _ hv⟩
 | k + 3 => simp at hk
theorem z7f {u v : Value} {m : MV} (hu : zxh u ≠ none) (hv : z1a g.C g.π m v) : PRep g A (.tup [xwz u, m.tv]) (.tuple #[u, v]) := by
 refine ⟨#[u, v], rfl, rfl, fun k x hk => ?_⟩
 match k with
 | 0 => simp at hk; subst hk; exact ⟨u, rfl, xw0 hu⟩
 | 1 => simp at hk; subst hk; exact ⟨v, rfl, hv.tv⟩
 | k + 2 => simp at hk
theorem z7g {t u v : Value} {m : MV} (ht : t.oneCell' = true) (hu : zxh u ≠ none) (hv : z1a g.C g.π m v) : PRep g A (.tup [.c (.d (.lit t)), xwz u, m.tv]) (.tuple #[t, u, v]) := by
 refine ⟨#[t, u, v], rfl, rfl, fun k x hk => ?_⟩
 match k with
 | 0 => simp at hk; subst hk; exact ⟨t, rfl, DRep.lit _ ht⟩
 | 1 => simp at hk; subst hk; exact ⟨u, rfl, xw0 hu⟩
 | 2 => simp at hk; subst hk; exact ⟨v, rfl, hv.tv⟩
 | k + 3 => simp at hk
theorem z5c {t : Value} (ht : t.oneCell' = true) : PRep g A (.tup [.c (.d (.lit t))]) (.tuple #[t]) := by
 refine ⟨#[t], rfl, rfl, fun k x hk => ?_⟩
 match k with
 | 0 => simp at hk; subst hk; exact ⟨t, rfl, DRep.lit _ ht⟩
 | k + 1 => simp at hk
theorem z2d {g g' : Gh} {H : HMap} (hd : zjk g H) (h : g'.β = g.β) : zjk g' H := fun id hi => by rw [h]; exact hd id hi
theorem z9s {E : Env} (hE : EnvOK E) (hm : MRel g H A w) (hd : zjk g H) {ρ : Nat → PV} {a : Act} (hf : FRep g A ρ a) (o : Oper) (hdm : yvy E.effs o.op = true) {fb : Option (List Nat)} {KV : PV → HMap → AMap → Prop}
 (h : zqv E fb o.dst (res (ev ρ) o.type o.op) H A KV) {K : Act → World → Prop} {Q : Exit → Act → World → Prop}
 (hK : ∀ v H' A' u w' g', KV v H' A' → PRep g' A' v u → MRel g' H' A' w' → Evol g A w g' A' w' → zjk g' H' → K (a.put o.dst u) w') : o.wp E.P a w K Q := by
 obtain ⟨dst, op, ty, pos, after, guard⟩ := o
 simp only at h hK hdm
 cases op with
 | call c =>
   obtain ⟨callee, args, argTypes⟩ := c
   cases callee with
   | value x =>
     cases x with
     | func f =>
       have hs : xwu E.effs f = true := hdm
       change zqv E fb dst (.call f (args.toList.map (ev ρ))) H A KV at h
       unfold zqv at h
       simp only [hs] at h
       obtain ⟨R, hR, hab, hK1⟩ := h
       have har := zwd (g := g) (A := A) hf args
       have hrun : (execOp a.eval ⟨dst, .call ⟨.value (.func f), args, argTypes⟩, ty, pos, after, guard⟩).run E.P w = (callFunc f (args.map a.eval)).run E.P w := by
        simp [execOp, resolve, Deferred.ofValue, invoke, Act.eval]
       exact zkn hrun (hE.sets f _ H A _ _ hR g w _ hm hd hab har) (fun u w' ⟨v, H', A', hv, g', h1, h2, h3, h4⟩ => hK v H' A' u w' g' (hK1 v H' A' hv) h1 h2 h3 h4)
     | _ => cases hdm
   | invoke r m => cases hdm
   | builtin b => cases hdm
 | range T x =>
   change rngV E dst T (ev ρ x) A (fun v A' => KV v H A') at h
   have hx := zz3 (g := g) (A := A) hf x
   unfold rngV at h
   split at h
   · rename_i hT
     obtain ⟨d, hd', h1⟩ := Opt.iff.1 h
     clear h
     subst hd'
     obtain ⟨s, hs, hA, h⟩ := Opt.iff.1 h1
     have hu := y2k hx hs
     obtain ⟨u', w', g', h1, h2, h3, h4, h5⟩ := y71 (P := E.P) (s := s) hm hT hA
     exact zz9 (u := u') (w' := w') (by simp [execOp, hu, h1]) (hK _ _ _ u' w' g' h h2 h3 h4 (z2d hd h5))
   · rename_i kt e hT
     split at h
     · rename_i κ hxe
       split at h
       · rename_i m hA
         rw [hxe] at hx
         obtain ⟨bi, u', w', g', h1, h2, h3, h4, h5⟩ := y2a (P := E.P) hm hT hA rfl hx.2.1
         exact zz9 (u := u') (w' := w') (by simp [execOp, h1]) (hK _ _ _ u' w' g' (h bi) h2 h3 h4 (z2d hd h5))
       · exact h.elim
     · rename_i p hxe
       split at h
       · rename_i q m hA
         obtain ⟨rfl, h⟩ := h
         rw [hxe] at hx
         have hu : a.eval x = g.τ (0, q) := by
          have hπ := (hm.tok _ _ hA).2.1
          generalize a.eval x = u at hx ⊢
          cases hx with
          | mr _ b hp => rw [hp] at hπ; exact Option.some.inj hπ
         obtain ⟨bi, u', w', g', h1, h2, h3, h4, h5⟩ := y2a (P := E.P) hm hT hA rfl hu
         exact zz9 (u := u') (w' := w') (by simp [execOp, h1]) (hK _ _ _ u' w' g' (h bi) h2 h3 h4 (z2d hd h5))
       · exact h.elim
     · exact h.elim
   · exact h.elim
 | next x s =>
   change nxtV (ev ρ x) s A (fun v A' => KV v H A') at h
   have hx := zz3 (g := g) (A := A) hf x
   unfold nxtV at h
   split at h
   · split at h
     · rename_i κ hxe
       split at h
       · rename_i s pos hA
         rw [hxe] at hx
         obtain ⟨n1, n2⟩ := y7u (P := E.P) (ty := ty) hm hA hx
         split at h
         · rename_i hp
           obtain ⟨w', h1, h2, h3⟩ := n1 hp
           exact zz9 (u := _) (w' := w') (by simp [execOp, h1]) (hK _ _ _ _ w' g h (yws rfl rfl rfl) h2 h3 hd)
         · rename_i hp
           exact zz9 (u := _) (w' := w) (by simp [execOp, n2 hp]) (hK _ _ _ _ w g h (z5c rfl) hm (.refl _ _ _) hd)
       · exact h.elim
     · exact h.elim
   · split at h
     · rename_i κ bi hxe
       split at h
       · rename_i m cur left bi' hA
         obtain ⟨rfl, k1, k2⟩ := h
         rw [hxe] at hx
         have hv : a.eval x = .pointer (some ⟨bi, 0, none⟩) := hx
         rcases y1v (P := E.P) (ty := ty) hm hA rfl with ⟨h0, h1, h2, h3⟩ | ⟨i, e, e2, w', hi, c1, c2, h1, h2, h3⟩
         · exact zz9 (u := _) (w' := w) (by simp [execOp, hv, h1]) (hK _ _ _ _ w g (k1 h0) (z5c rfl) h2 h3 hd)
         · exact zz9 (u := _) (w' := w') (by simp [execOp, hv, h1]) (hK _ _ _ _ w' g (k2 i e hi) (z7g rfl c1 c2) h2 h3 hd)
       · rename_i p m cur left bi' hA
         obtain ⟨rfl, k1, k2⟩ := h
         rw [hxe] at hx
         have hv : a.eval x = .pointer (some ⟨bi, 0, none⟩) := hx
         rcases y1v (P := E.P) (ty := ty) hm hA rfl with ⟨h0, h1, h2, h3⟩ | ⟨i, e, e2, w', hi, c1, c2, h1, h2, h3⟩
         · exact zz9 (u := _) (w' := w) (by simp [execOp, hv, h1]) (hK _ _ _ _ w g (k1 h0) (z5c rfl) h2 h3 hd)
         · exact zz9 (u := _) (w' := w') (by simp [execOp, hv, h1]) (hK _ _ _ _ w' g (k2 i e hi) (z7g rfl c1 c2) h2 h3 hd)
       · exact h.elim
     · exact h.elim
 | _ => cases hdm
theorem y8b {E : Env} (hE : EnvOK E) (hm : MRel g H A w) (hd : zjk g H) {ρ : Nat → PV} {a : Act} (hf : FRep g A ρ a) (o : Oper) {fb : Option (List Nat)} {v : PV} {H' : HMap} {A' : AMap}
 (h : zq9 E fb o.dst (res (ev ρ) o.type o.op) H A v H' A') {K : Act → World → Prop} {Q : Exit → Act → World → Prop}
 (hK : ∀ u w' g', PRep g' A' v u → MRel g' H' A' w' → Evol g A w g' A' w' → zjk g' H' → K (a.put o.dst u) w') : o.wp E.P a w K Q := by
 obtain ⟨dst, op, ty, pos, after, guard⟩ := o
 simp only at h hK
 have pr : ∀ rop, Opt (y4m E.P rop) (fun v' => v' = v ∧ H = H' ∧ A = A') → y4m E.P rop = some v ∧ H = H' ∧ A = A' := fun rop h => by
  obtain ⟨v', h1, rfl, h2, h3⟩ := Opt.iff.1 h
  exact ⟨h1, h2, h3⟩
 cases op with
 | move x =>
   obtain ⟨h1, rfl, rfl⟩ := pr (.mv (ev ρ x)) h
   cases h1
   exact finish hd (.here hm (s := .pure (a.eval x)) rfl (zz3 hf x)) rfl hK
 | assign x =>
   obtain ⟨h1, rfl, rfl⟩ := pr (.mv (ev ρ x)) h
   cases h1
   exact finish hd (.here hm (s := .pure (a.eval x)) rfl (zz3 hf x)) rfl hK
 | pick c x y =>
   obtain ⟨h1, rfl, rfl⟩ := pr (.pick (ev ρ c) (ev ρ x) (ev ρ y)) h
   obtain ⟨t, ht, rfl⟩ := Option.map_eq_some_iff.1 h1
   have hc := z7l (zz3 hf c) ht
   refine zz9 (u := if t then a.eval x else a.eval y) (w' := w) ?_ (hK _ w g ?_ hm (.refl _ _ _) hd)
   · simp [execOp, hc, asBool]
   · cases t
     · exact zz3 hf y
     · exact zz3 hf x
 | range T x => exact z9s hE hm hd hf ⟨dst, .range T x, ty, pos, after, guard⟩ rfl h (fun v1 H1 A1 u w' g' e h1 h2 h3 h4 => by obtain ⟨rfl, rfl, rfl⟩ := e; exact hK u w' g' h1 h2 h3 h4)
 | next x s => exact z9s hE hm hd hf ⟨dst, .next x s, ty, pos, after, guard⟩ rfl h (fun v1 H1 A1 u w' g' e h1 h2 h3 h4 => by obtain ⟨rfl, rfl, rfl⟩ := e; exact hK u w' g' h1 h2 h3 h4)
 | entry x =>
   change entV (ev ρ x) A (fun v' => v' = v ∧ H = H' ∧ A = A') at h
   have hx := zz3 (g := g) (A := A) hf x
   unfold entV at h
   split at h
   · rename_i κ bi hxe
     split at h
     · rename_i m p left bi' hA
       obtain ⟨rfl, rfl, rfl, rfl⟩ := h
       rw [hxe] at hx
       have hv : a.eval x = .pointer (some ⟨bi, 0, none⟩) := hx
       obtain ⟨pv, h1, c1, c2⟩ := y0u (P := E.P) hm hA rfl
       exact zz9 (u := _) (w' := w) (by simp [execOp, hv, h1]) (hK _ w g (z7f c1 c2) hm (.refl _ _ _) hd)
     · rename_i q m p left bi' hA
       obtain ⟨rfl, rfl, rfl, rfl⟩ := h
       rw [hxe] at hx
       have hv : a.eval x = .pointer (some ⟨bi, 0, none⟩) := hx
       obtain ⟨pv, h1, c1, c2⟩ := y0u (P := E.P) hm hA rfl
       exact zz9 (u := _) (w' := w) (by simp [execOp, hv, h1]) (hK _ w g (z7f c1 c2) hm (.refl _ _ _) hd)
     · exact h.elim
   · exact h.elim
 | alloc T =>
   change (match z1d E.effs T with
    | true => Opt (zzm E.P T) fun z => objV A z fun v' A'' => v' = v ∧ H = H' ∧ A'' = A'
    | false => Opt dst fun d => Opt (zzm E.P T) fun z => H (E.off + d) = none ∧ (PV.c (CV.ptr (E.off + d) 0) = v ∧ upd H (E.off + d) (some z) = H' ∧ A = A')) at h
   split at h
   · obtain ⟨z, hz, h⟩ := Opt.iff.1 h
     unfold objV at h
     obtain ⟨ds, hds, h⟩ := Opt.iff.1 h
     unfold newP at h
     split at h
     · rename_i c hc
       obtain ⟨hc0, rfl, rfl, rfl⟩ := h
       obtain ⟨i, zv, hi, hzz, _, _, rfl, _⟩ := zqy hz
       obtain ⟨g', m1, m2, m3, m4⟩ := newobj hm (zv0 (g := g) (A := A) zv.cells.toList) hds T hc hc0
       refine zz9 (u := .pointer (some ⟨w.heap.size, 0, none⟩)) (w' := w.alloc (.cells zv.cells T)) ?_ (hK _ _ g' (.rf c 0 _ m4) m1 m2 (z2d hd m3))
       simp [execOp, Instr.alloc, zeroValue, typeInfo, hi, hzz, newVar, newRow]
     · exact h.elim
   · obtain ⟨d, hd0, h2⟩ := Opt.iff.1 h
     obtain ⟨z, hz, h0, e1, e2, e3⟩ := Opt.iff.1 h2
     subst hd0 e1 e2 e3
     obtain ⟨i, zv, hi, hzz, _, _, rfl, _⟩ := zqy hz
     obtain ⟨g', m1, m2, m3, m4⟩ := newvar hm hd h0 (zv0 (g := g) (A := A) zv.cells.toList) T
     refine zz9 (u := .pointer (some ⟨w.heap.size, 0, none⟩)) (w' := w.alloc (.cells zv.cells T)) ?_ (hK _ _ g' ⟨_, m4, rfl⟩ m1 m2 m3)
     simp [execOp, Instr.alloc, zeroValue, typeInfo, hi, hzz, newVar, newRow]
 | box T x =>
   change (match z1d E.effs T with
    | true => Opt (boxS (ev ρ x)) fun z => objV A z fun v' A'' => v' = v ∧ H = H' ∧ A'' = A'
    | false => Opt dst fun d => Opt (boxS (ev ρ x)) fun z => H (E.off + d) = none ∧ (PV.c (CV.ptr (E.off + d) 0) = v ∧ upd H (E.off + d) (some z) = H' ∧ A = A')) at h
   split at h
   · obtain ⟨z, hz, h⟩ := Opt.iff.1 h
     unfold objV at h
     obtain ⟨ds, hds, h⟩ := Opt.iff.1 h
     unfold newP at h
     split at h
     · rename_i c hc
       obtain ⟨hc0, rfl, rfl, rfl⟩ := h
       unfold boxS at hz
       rw [Zbs] at hz
       obtain ⟨cs, hcs, hz⟩ := hz
       split at hz
       · cases hz
         obtain ⟨g', m1, m2, m3, m4⟩ := newobj hm (z0r (zz3 hf x) hcs) hds T hc hc0
         refine zz9 (u := .pointer (some ⟨w.heap.size, 0, none⟩)) (w' := w.alloc (.cells (a.eval x).cells T)) ?_ (hK _ _ g' (.rf c 0 _ m4) m1 m2 (z2d hd m3))
         simp [execOp, Instr.box, newVar, newRow]
       · cases hz
     · exact h.elim
   obtain ⟨d, hd0, h2⟩ := Opt.iff.1 h
   obtain ⟨z, hz, h0, e1, e2, e3⟩ := Opt.iff.1 h2
   subst hd0 e1 e2 e3
   unfold boxS at hz
   rw [Zbs] at hz
   obtain ⟨cs, hcs, hz⟩ := hz
   split at hz
   · cases hz
     obtain ⟨g', m1, m2, m3, m4⟩ := newvar hm hd h0 (z0r (zz3 hf x) hcs) T
     refine zz9 (u := .pointer (some ⟨w.heap.size, 0, none⟩)) (w' := w.alloc (.cells (a.eval x).cells T)) ?_ (hK _ _ g' ⟨_, m4, rfl⟩ m1 m2 m3)
     simp [execOp, Instr.box, newVar, newRow]
   · cases hz
 | build T ps =>
   obtain ⟨h1, rfl, rfl⟩ := pr (.build T (ps.toList.map fun (p : Nat × Operand) => (p.1, ev ρ p.2))) h
   obtain ⟨z1, z2⟩ := y59 hf ps
   exact finish hd (y25 hm z1 z2 h1) rfl hK
 | buildSlice T n ps =>
   change (match z64 E.effs T with
    | true => bslV E dst T n (ps.toList.map fun (p : Nat × Operand) => (p.1, ev ρ p.2)) H fun v' H'' => v' = v ∧ H'' = H' ∧ A = A'
    | false => zj5 E.P (.bsl T n (ps.toList.map fun (p : Nat × Operand) => (p.1, ev ρ p.2))) fun v' => v' = v ∧ H = H' ∧ A = A') at h
   obtain ⟨z1, z2⟩ := y59 hf ps
   split at h
   · unfold bslV at h
     obtain ⟨d', rfl, h2⟩ := Opt.iff.1 h
     obtain ⟨cs, hcs, hH0, rfl, rfl, rfl⟩ := Opt.iff.1 h2
     obtain ⟨u, w', g', r1, r2, r3, r4, r5⟩ := y6r (P := E.P) hm hd hH0 z1 z2 hcs
     refine zz9 (u := u) (w' := w') ?_ (hK u w' g' r2 r3 r4 r5)
     show (do pure (Next.value (← Instr.buildSlice T n (ps.map fun (p : Nat × Operand) => (p.1, a.eval p.2)))) : Sem Next).run E.P w = _
     rw [Sem.run_bind, r1]
     rfl
   · obtain ⟨h1, rfl, rfl⟩ := pr (.bsl T n (ps.toList.map fun (p : Nat × Operand) => (p.1, ev ρ p.2))) h
     exact finish hd (y9v hm z1 z2 h1) rfl hK
 | load T x =>
   obtain ⟨v', h1, rfl, rfl, rfl⟩ := Opt.iff.1 h
   obtain ⟨X, hX, hp⟩ := yxv (P := E.P) hm (zz3 hf x) h1
   exact finish hd (.here hm hX hp) rfl hK
 | store T x y =>
   obtain ⟨h0, h⟩ := h
   obtain ⟨⟨H1, A1⟩, h1, rfl, rfl, rfl⟩ := Opt.iff.1 h
   obtain ⟨w', hr, m1, m2, m3⟩ := y44 hm hd (zz3 hf x) (zz3 hf y) (z1l h0) h1
   unfold Oper.wp
   have e : (execOp a.eval ⟨dst, .store T x y, ty, pos, after, guard⟩).run E.P w = .ok .skip w' := by
    show (do Instr.storeAt T (a.eval x) (a.eval y); pure Next.skip : Sem Next).run E.P w = _
    rw [Sem.run_bind, hr]
    rfl
   rw [e]
   exact hK undef w' g rfl m1 m2 m3
 | nilCheck x =>
   obtain ⟨h1, rfl, rfl⟩ := pr (.nilc (ev ρ x)) h
   obtain ⟨u, hr, hp, _⟩ := xzt (P := E.P) hm (zz3 hf x) h1 dst ty pos after guard
   exact zz9 hr (hK u w g hp hm (.refl _ _ _) hd)
 | binOp op T x y yT =>
   obtain ⟨h1, rfl, rfl⟩ := pr (.bin op T (ev ρ x) (ev ρ y)) h
   exact finish hd (y9t hm x y (zz3 hf x) (zz3 hf y) h1) rfl hK
 | unOp op T x =>
   obtain ⟨h1, rfl, rfl⟩ := pr (.un op (ev ρ x)) h
   obtain ⟨u, hu, h1⟩ := Option.bind_eq_some_iff.1 h1
   obtain ⟨r, hr, rfl⟩ := Option.map_eq_some_iff.1 h1
   have e := y1k (zz3 hf x) hu
   refine finish (s := Op.unary op (a.eval x)) hd (.here hm (u := r) ?_ (zq2 (zj7 hr).2)) rfl hK
   rw [e]
   exact zjh hr
 | convert s d x =>
   change (match zj2 E.effs d with
    | true => bytV E dst s d (ev ρ x) A fun v' A'' => v' = v ∧ H = H' ∧ A'' = A'
    | false => (match zkr E.effs s with
      | true => Opt (z3a E.P A s d (ev ρ x)) fun v' => v' = v ∧ H = H' ∧ A = A'
      | false => zj5 E.P (.conv s d (ev ρ x)) fun v' => v' = v ∧ H = H' ∧ A = A')) at h
   split at h
   · unfold bytV at h
     obtain ⟨⟨b1, b2⟩, h⟩ := h
     obtain ⟨d', hd', h⟩ := Opt.iff.1 h
     obtain ⟨s', hs', hA0, h4⟩ := Opt.iff.1 h
     subst hd'
     have hx := zz3 hf x
     have hxe : a.eval x = .string s' := by
      unfold strOf? at hs'
      split at hs'
      · rename_i heq
        cases hs'
        rw [heq] at hx
        exact zzv hx
      · cases hs'
     split at h4
     · obtain ⟨h1, h2, h3⟩ := h4
       subst h1 h2 h3
       obtain ⟨u, w', g', r1, r2, r3, r4, r5⟩ := y0e (P := E.P) hm (s := s') hA0 b1 b2
       refine zz9 (u := u) (w' := w') ?_ (hK u w' g' r2 r3 r4 (fun id hi => by rw [r5]; exact hd id hi))
       show (do pure (Next.value (← convert s d (a.eval x))) : Sem Next).run E.P w = _
       rw [hxe, Sem.run_bind, r1]
       rfl
     · obtain ⟨h1, h2, h3⟩ := h4
       subst h1 h2 h3
       obtain ⟨u, w', g', r1, r2, r3, r4, r5⟩ := y28 (P := E.P) hm (s := s') hA0 b1 b2
       refine zz9 (u := u) (w' := w') ?_ (hK u w' g' r2 r3 r4 (fun id hi => by rw [r5]; exact hd id hi))
       show (do pure (Next.value (← convert s d (a.eval x))) : Sem Next).run E.P w = _
       rw [hxe, Sem.run_bind, r1]
       rfl
   · split at h
     · obtain ⟨v', h1, rfl, rfl, rfl⟩ := Opt.iff.1 h
       obtain ⟨X, hX, hp⟩ := y3c (P := E.P) hm (zz3 hf x) h1
       exact finish hd (.here hm hX hp) rfl hK
     · obtain ⟨h1, rfl, rfl⟩ := pr (.conv s d (ev ρ x)) h
       exact finish hd (y6z hm (zz3 hf x) h1) rfl hK
 | makeMap T r =>
   cases r with
   | some r => exact (show False from h).elim
   | none =>
     change (match yz2 E.effs T with
      | true => newP A (.mp []) fun c A'' => PV.c (.d (.mr c)) = v ∧ H = H' ∧ A'' = A'
      | false => Opt dst fun d => A (E.off + d, 0) = none ∧ (PV.c (.mpr (E.off + d, 0)) = v ∧ H = H' ∧ upd A (E.off + d, 0) (some (.mp [])) = A')) at h
     split at h
     · unfold newP at h
       split at h
       · rename_i c hc
         obtain ⟨hc0, rfl, rfl, rfl⟩ := h
         obtain ⟨u, w', g', r1, r2, r3, r4, r5⟩ := yvw (P := E.P) hm hc hc0 T
         refine zz9 (u := u) (w' := w') ?_ (hK u w' g' r2 r3 r4 (fun id hi => by rw [r5]; exact hd id hi))
         show (do pure (Next.value (← Instr.makeMap T none)) : Sem Next).run E.P w = _
         rw [Sem.run_bind, r1]
         rfl
       · exact h.elim
     obtain ⟨d', rfl, hA0, rfl, rfl, rfl⟩ := Opt.iff.1 h
     obtain ⟨u, w', g', r1, r2, r3, r4, r5⟩ := yqc (P := E.P) hm hA0 T
     refine zz9 (u := u) (w' := w') ?_ (hK u w' g' r2 r3 r4 (fun id hi => by rw [r5]; exact hd id hi))
     show (do pure (Next.value (← Instr.makeMap T none)) : Sem Next).run E.P w = _
     rw [Sem.run_bind, r1]
     rfl
 | lookup T x i ok =>
   obtain ⟨v', h1, rfl, rfl, rfl⟩ := Opt.iff.1 h
   obtain ⟨X, hX, hp⟩ := y7k (P := E.P) hm (zz3 hf x) (zz3 hf i) h1
   exact finish hd (.here hm hX hp) rfl hK
 | mapUpdate T m k x =>
   obtain ⟨A1, h1, rfl, rfl, rfl⟩ := Opt.iff.1 h
   obtain ⟨w', hr, m1, m2⟩ := xzr (P := E.P) hm (zz3 hf m) (zz3 hf k) (zz3 hf x) h1
   unfold Oper.wp
   have e : (execOp a.eval ⟨dst, .mapUpdate T m k x, ty, pos, after, guard⟩).run E.P w = .ok .skip w' := by
    show (do Instr.mapUpdate T (a.eval m) (a.eval k) (a.eval x); pure Next.skip : Sem Next).run E.P w = _
    rw [Sem.run_bind, hr]
    rfl
   rw [e]
   exact hK undef w' g Zti m1 m2 hd
 | makeFunc fn first caps =>
   change zq9 E fb dst (resF (ev ρ) fn first (caps.toList.map (ev ρ))) H A v H' A' at h
   unfold resF at h
   split at h
   · rename_i f
     split at h
     · rename_i h0
       obtain rfl : first = #[] := Array.eq_empty_of_size_eq_zero h0
       obtain ⟨h1, rfl, rfl⟩ := pr (.mkf f (caps.toList.map (ev ρ))) h
       obtain ⟨cs, hcs, rfl⟩ := Option.map_eq_some_iff.1 h1
       refine zz9 (u := .func (.func f) #[] (caps.map a.eval)) (w' := w) ?_ (hK _ w g (yjv hf hcs f) hm (.refl _ _ _) hd)
       simp [execOp, Instr.makeFunc]
     · obtain ⟨h1, rfl, rfl⟩ := pr (.mkb f (first.toList.map (ev ρ)) (caps.toList.map (ev ρ))) h
       obtain ⟨fs, hfs, h1⟩ := Option.bind_eq_some_iff.1 h1
       obtain ⟨cs, hcs, rfl⟩ := Option.map_eq_some_iff.1 h1
       refine zz9 (u := .func (.func f) (first.map a.eval) (caps.map a.eval)) (w' := w) ?_ (hK _ w g ⟨_, _, rfl, y12 hf hfs, y12 hf hcs⟩ hm (.refl _ _ _) hd)
       simp [execOp, Instr.makeFunc]
   · exact (show False from h).elim
 | slice T x lo hi mx =>
   have h' : slcV E.P T (ev ρ x) (lo.map (ev ρ)) (hi.map (ev ρ)) (mx.map (ev ρ)) (fun v' => v' = v ∧ H = H' ∧ A = A') := h
   obtain ⟨v', ⟨rfl, rfl, rfl⟩, hp⟩ := xz0 hm (zz3 hf x) (z3h hf lo).1 (z3h hf lo).2 (z3h hf hi).1 (z3h hf hi).2 (z3h hf mx).1 (z3h hf mx).2 h'
   exact finish hd hp rfl hK
 | fieldAddr T x f =>
   obtain ⟨h1, rfl, rfl⟩ := pr (.fldA T (ev ρ x) f) h
   exact finish hd (y7a hm (zz3 hf x) h1) rfl hK
 | field T x f =>
   obtain ⟨h1, rfl, rfl⟩ := pr (.fld T (ev ρ x) f) h
   exact finish hd (y98 hm (zz3 hf x) h1) rfl hK
 | indexAddr T x i =>
   obtain ⟨h1, rfl, rfl⟩ := pr (.idxA T (ev ρ x) (ev ρ i)) h
   exact finish hd (y7f hm (zz3 hf x) (zz3 hf i) h1) rfl hK
 | index T x i =>
   obtain ⟨h1, rfl, rfl⟩ := pr (.idx T (ev ρ x) (ev ρ i)) h
   exact finish hd (xzb hm (zz3 hf x) (zz3 hf i) h1) rfl hK
 | extract x i =>
   obtain ⟨h1, rfl, rfl⟩ := pr (.ext (ev ρ x) i) h
   exact finish hd (yjz hm (zz3 hf x) h1) rfl hK
 | makeSlice T l c =>
   change (match z5v E.effs T with
    | true => mksV E dst T (ev ρ l) (ev ρ c) A fun v' A'' => v' = v ∧ H = H' ∧ A'' = A'
    | false => zj5 E.P (.mks T (ev ρ l) (ev ρ c)) fun v' => v' = v ∧ H = H' ∧ A = A') at h
   split at h
   · unfold mksV at h
     obtain ⟨d', rfl, h2⟩ := Opt.iff.1 h
     obtain ⟨els, hels, hA0, rfl, rfl, rfl⟩ := Opt.iff.1 h2
     obtain ⟨u, w', g', r1, r2, r3, r4, r5⟩ := y7o (P := E.P) hm hA0 (zz3 hf l) (zz3 hf c) hels
     refine zz9 (u := u) (w' := w') ?_ (hK u w' g' r2 r3 r4 (fun id hi => by rw [r5]; exact hd id hi))
     show (do pure (Next.value (← Instr.makeSlice T (a.eval l) (a.eval c))) : Sem Next).run E.P w = _
     rw [Sem.run_bind, r1]
     rfl
   · obtain ⟨h1, rfl, rfl⟩ := pr (.mks T (ev ρ l) (ev ρ c)) h
     exact finish hd (xzq hm (zz3 hf l) (zz3 hf c) h1) rfl hK
 | call c =>
   obtain ⟨callee, args, argTypes⟩ := c
   cases callee with
   | value x =>
     change zq9 E fb dst (resV (ev ρ) x (args.toList.map (ev ρ))) H A v H' A' at h
     have callv : zq9 E fb dst (.callv (ev ρ x) (args.toList.map (ev ρ))) H A v H' A' → Oper.wp E.P ⟨dst, .call ⟨.value x, args, argTypes⟩, ty, pos, after, guard⟩ a w K Q := by
      intro h
      change z3w E H A (ev ρ x) (args.toList.map (ev ρ)) (fun v' H'' A'' => v' = v ∧ H'' = H' ∧ A'' = A') at h
      unfold z3w at h
      split at h
      · rename_i f caps hx
        obtain ⟨v', H1, A1, hs, hab, rfl, rfl, rfl⟩ := h
        have hxr : PRep g A (.c (.fn f caps)) (a.eval x) := by rw [← hx]; exact zz3 hf x
        obtain ⟨vs, hv, hvs, hcaps⟩ := hxr
        have har := zwd (g := g) (A := A) hf args
        refine zkn (f := f) (args := args.map a.eval ++ vs) ?_ (hE.eff f _ H A _ _ _ _ hs g w (args.map a.eval ++ vs) hm hd hab ⟨?_, fun k y hk => ?_⟩) (fun u w' ⟨g', h1, h2, h3, h4⟩ => hK u w' g' h1 h2 h3 h4)
        · simp [execOp, resolve, Deferred.ofValue, invoke, hv]
        · simp [hvs]
        · rw [Array.toList_append]
          rw [List.getElem?_append] at hk ⊢
          simp only [List.length_map, Array.length_toList, Array.toList_map] at hk ⊢
          split at hk
          · rename_i hlt
            rw [if_pos hlt]
            obtain ⟨u, hu, hr⟩ := har.2 k y hk
            exact ⟨u, by simpa using hu, hr⟩
          · rename_i hlt
            rw [if_neg hlt]
            rw [List.getElem?_map] at hk
            obtain ⟨p, hp, rfl⟩ := Option.map_eq_some_iff.1 hk
            obtain ⟨b, hb, e⟩ := hcaps _ p hp
            exact ⟨_, by simpa using e, b, hb, rfl⟩
      · rename_i f fst caps hx
        obtain ⟨v', H1, A1, hs, hab, rfl, rfl, rfl⟩ := h
        have hxr : PRep g A (.c (.bfn f fst caps)) (a.eval x) := by rw [← hx]; exact zz3 hf x
        obtain ⟨us, vs, hv, hu, hcaps⟩ := hxr
        have har := zwd (g := g) (A := A) hf args
        refine zkn (f := f) (args := us ++ args.map a.eval ++ vs) ?_ (hE.eff f _ H A _ _ _ _ hs g w (us ++ args.map a.eval ++ vs) hm hd hab ?_) (fun u w' ⟨g', h1, h2, h3, h4⟩ => hK u w' g' h1 h2 h3 h4)
        · simp [execOp, resolve, Deferred.ofValue, invoke, hv]
        · rw [Array.toList_append, Array.toList_append, List.append_assoc]
          exact (yze hu).append (har.append (yze hcaps))
      · rename_i f hx
        obtain ⟨v', H1, A1, hs, hab, rfl, rfl, rfl⟩ := h
        have hxr : PRep g A (.c (.d (.fn f))) (a.eval x) := by rw [← hx]; exact zz3 hf x
        have hv : a.eval x = .func (.func f) #[] #[] := by generalize a.eval x = u at hxr; cases hxr; rfl
        have har := zwd (g := g) (A := A) hf args
        refine zkn (f := f) (args := args.map a.eval) ?_ (hE.eff f _ H A _ _ _ _ hs g w (args.map a.eval) hm hd hab har) (fun u w' ⟨g', h1, h2, h3, h4⟩ => hK u w' g' h1 h2 h3 h4)
        simp [execOp, resolve, Deferred.ofValue, invoke, hv]
      · exact h.elim
     cases x with
     | tmp t => exact callv h
     | const c => exact callv h
     | global b => exact callv h
     | func f =>
       cases hset : xwu E.effs f with
       | true => exact z9s hE hm hd hf ⟨dst, .call ⟨.value (.func f), args, argTypes⟩, ty, pos, after, guard⟩ hset h (fun v1 H1 A1 u w' g' e h1 h2 h3 h4 => by obtain ⟨rfl, rfl, rfl⟩ := e; exact hK u w' g' h1 h2 h3 h4)
       | false =>
       replace h := (zwb hset (show zq9 E fb dst (.call f (args.toList.map (ev ρ))) H A v H' A' from h)).1
       have har := zwd (g := g) (A := A) hf args
       have hrun : (execOp a.eval ⟨dst, .call ⟨.value (.func f), args, argTypes⟩, ty, pos, after, guard⟩).run E.P w = (callFunc f (args.map a.eval)).run E.P w := by
        simp [execOp, resolve, Deferred.ofValue, invoke, Act.eval]
       unfold zxm at h
       split at h
       · obtain ⟨v', H1, A1, hs, hab, rfl, rfl, rfl⟩ := h
         exact zkn hrun (hE.eff f _ H A _ _ _ _ hs g w _ hm hd hab har) (fun u w' ⟨g', h1, h2, h3, h4⟩ => hK u w' g' h1 h2 h3 h4)
       · split at h
         · obtain ⟨v', hs, hab, rfl, rfl, rfl⟩ := h
           exact zkn hrun (hE.eff f _ _ _ _ _ _ _ hs g w _ hm hd hab har) (fun u w' ⟨g', h1, h2, h3, h4⟩ => hK u w' g' h1 h2 h3 h4)
         · split at h
           · obtain ⟨v', hs, hab, rfl, rfl, rfl⟩ := h
             exact zkn hrun (hE.eff f _ _ _ _ _ _ _ (hs H (fun _ _ => rfl) (fun id hi => (hab id hi).1)) g w _ hm hd hab har) (fun u w' ⟨g', h1, h2, h3, h4⟩ => hK u w' g' h1 h2 h3 h4)
           · split at h
             · obtain ⟨r, hs, hpl, rfl, rfl, rfl⟩ := h
               obtain ⟨hcl, hok⟩ := hE.pure f _ r hs
               refine zkn hrun (hok g.C g.π w _ hm.com ⟨har.1, fun k x hk => ?_⟩) (fun u w' ⟨g', h1, h2, h3⟩ => ?_)
               · obtain ⟨u, hu, hr⟩ := har.2 k x hk
                 exact ⟨u, hu, z5b (List.all_eq_true.1 hcl x (Zme hk)) hr⟩
               · have ham : r.am = noA := yv2 hpl
                 rw [ham] at h2 h3
                 obtain ⟨g'', m1, m2, m3, m4, m5⟩ := xzp hm h2 h3
                 refine hK u w' g'' (yxa m4 m5 hpl h1) m1 m2 (fun id hi => by rw [m3]; exact hd id hi)
             · obtain ⟨r, hs, hfr, rfl, rfl, rfl⟩ := h
               obtain ⟨hcl, hok⟩ := hE.pure f _ r hs
               refine zkn hrun (hok g.C g.π w _ hm.com ⟨har.1, fun k x hk => ?_⟩) (fun u w' ⟨g', h1, h2, h3⟩ => ?_)
               · obtain ⟨u, hu, hr⟩ := har.2 k x hk
                 exact ⟨u, hu, z5b (List.all_eq_true.1 hcl x (Zme hk)) hr⟩
               · obtain ⟨g'', m1, m2, m3, m4, m5, m6⟩ := merge hm hfr h2 h3
                 refine hK u w' g'' (ywt m4 m6 (fun k ar hA => ?_) m5 h1) m1 m2 (fun id hi => by rw [m3]; exact hd id hi)
                 rw [z2k]
                 rw [show RT.install 0 noA 0 r.list (0, k) = some ar from hA]
                 rfl
   | invoke recv m => exact (show False from h).elim
   | builtin b =>
     have hargs : zjm g A (args.toList.map (ev ρ)) (args.toList.map a.eval) := ⟨by simp, fun k x hk => by
      simp only [List.getElem?_map, Zms] at hk ⊢
      obtain ⟨q, hq, rfl⟩ := hk
      exact ⟨_, ⟨q, hq, rfl⟩, zz3 hf q⟩⟩
     change zq9 E fb dst (.blt b argTypes.toList ty (args.toList.map (ev ρ))) H A v H' A' at h
     have blt : y4m E.P (.blt b argTypes.toList ty (args.toList.map (ev ρ))) = some v ∧ H = H' ∧ A = A' → Oper.wp E.P ⟨dst, .call ⟨.builtin b, args, argTypes⟩, ty, pos, after, guard⟩ a w K Q := by
      rintro ⟨h1, rfl, rfl⟩
      change bltS E.P b argTypes.toList ty (args.toList.map (ev ρ)) = some v at h1
      generalize hxs : args.toList.map (ev ρ) = xs at h1 hargs
      generalize hvs : args.toList.map a.eval = vs at hargs
      have hvs' : args.map a.eval = vs.toArray := by rw [← hvs]; apply Array.ext'; simp
      unfold bltS at h1
      split at h1
      · unfold lenS at h1
        split at h1
        · rename_i t x hat
          obtain ⟨hl, hr⟩ := hargs
          match vs, hl with
          | [u], _ =>
            obtain ⟨u', hu', hxr⟩ := hr 0 x rfl
            cases hu'
            have hat' : argTypes = #[t] := by apply Array.ext'; simpa using hat
            subst hat'
            refine finish (s := Builtin.len_ #[t] ty #[u]) hd (xzo hm hxr h1) ?_ hK
            simp only [execOp, resolve, hvs']
            rfl
        · cases h1
      · obtain ⟨ls, hls, h1⟩ := Option.bind_eq_some_iff.1 h1
        obtain ⟨r, hr, rfl⟩ := Option.map_eq_some_iff.1 h1
        have e := z7z (g := g) (A := A) hls vs hargs.1 (fun k x u h1 h2 => by
         obtain ⟨u', hu', hp⟩ := hargs.2 k x h1
         rw [h2] at hu'
         cases hu'
         exact hp)
        subst e
        refine finish (s := Builtin.min_ argTypes ty vs.toArray) hd (.here hm (u := r) (zjh (s := Builtin.min_ argTypes ty vs.toArray) hr) (zq2 (zj7 hr).2)) ?_ hK
        simp only [execOp, resolve, hvs']
        rfl
      · obtain ⟨ls, hls, h1⟩ := Option.bind_eq_some_iff.1 h1
        obtain ⟨r, hr, rfl⟩ := Option.map_eq_some_iff.1 h1
        have e := z7z (g := g) (A := A) hls vs hargs.1 (fun k x u h1 h2 => by
         obtain ⟨u', hu', hp⟩ := hargs.2 k x h1
         rw [h2] at hu'
         cases hu'
         exact hp)
        subst e
        refine finish (s := Builtin.max_ argTypes ty vs.toArray) hd (.here hm (u := r) (zjh (s := Builtin.max_ argTypes ty vs.toArray) hr) (zq2 (zj7 hr).2)) ?_ hK
        simp only [execOp, resolve, hvs']
        rfl
      · cases h1
     cases b with
     | append =>
       change (match z1f E.effs argTypes.toList with
        | true => apdC E H A argTypes.toList (args.toList.map (ev ρ)) (fun v' H'' A'' => v' = v ∧ H'' = H' ∧ A'' = A')
        | false => appC E dst H A argTypes.toList (args.toList.map (ev ρ)) (fun v' H'' A'' => v' = v ∧ H'' = H' ∧ A'' = A')) at h
       generalize hxs : args.toList.map (ev ρ) = xs at h hargs
       generalize hvs : args.toList.map a.eval = vs at hargs
       have hvs' : args.map a.eval = vs.toArray := by rw [← hvs]; apply Array.ext'; simp
       split at h
       · unfold apdC at h
         split at h
         · rename_i x y
           obtain ⟨v1, A1, h1, rfl, rfl, rfl⟩ := yw0 h
           obtain ⟨hl, hr⟩ := hargs
           match vs, hl with
           | [ux, uy], _ =>
             obtain ⟨u1, hu1, hxr⟩ := hr 0 x rfl
             obtain ⟨u2, hu2, hyr⟩ := hr 1 y rfl
             cases hu1
             cases hu2
             obtain ⟨t, ht, u', w', g', r1, r2, r3, r4, r5⟩ := y9r hm hxr hyr ty h1
             have hat' : argTypes = #[t, t] := by apply Array.ext'; simpa using ht
             subst hat'
             refine zz9 (u := u') (w' := w') ?_ (hK u' w' g' r2 r3 r4 (fun id hi => by rw [r5]; exact hd id hi))
             simp only [execOp, resolve, hvs']
             show (do Next.value <$> Builtin.append_ #[t, t] ty #[ux, uy] : Sem Next).run E.P w = _
             rw [Sem.run_map, r1]
             rfl
         · exact h.elim
       unfold appC at h
       split at h
       · rename_i x y
         obtain ⟨d, rfl, h2⟩ := Opt.iff.1 h
         obtain ⟨v1, A1, h1, rfl, rfl, rfl⟩ := yxc h2
         obtain ⟨hl, hr⟩ := hargs
         match vs, hl with
         | [ux, uy], _ =>
           obtain ⟨u1, hu1, hxr⟩ := hr 0 x rfl
           obtain ⟨u2, hu2, hyr⟩ := hr 1 y rfl
           cases hu1
           cases hu2
           obtain ⟨t, tu, ht, u', w', g', r1, r2, r3, r4, r5⟩ := y6n hm hxr hyr ty h1
           have hat' : argTypes = #[t, tu] := by apply Array.ext'; simpa using ht
           subst hat'
           refine zz9 (u := u') (w' := w') ?_ (hK u' w' g' r2 r3 r4 (fun id hi => by rw [r5]; exact hd id hi))
           simp only [execOp, resolve, hvs']
           show (do Next.value <$> Builtin.append_ #[t, tu] ty #[ux, uy] : Sem Next).run E.P w = _
           rw [Sem.run_map, r1]
           rfl
       · exact h.elim
     | copy =>
       change cpyC E H A argTypes.toList (args.toList.map (ev ρ)) (fun v' H'' A'' => v' = v ∧ H'' = H' ∧ A'' = A') at h
       unfold cpyC at h
       generalize hxs : args.toList.map (ev ρ) = xs at h hargs
       generalize hvs : args.toList.map a.eval = vs at hargs
       have hvs' : args.map a.eval = vs.toArray := by rw [← hvs]; apply Array.ext'; simp
       split at h
       · rename_i x y
         obtain ⟨v1, A1, h1, rfl, rfl, rfl⟩ := y0l h
         obtain ⟨hl, hr⟩ := hargs
         match vs, hl with
         | [ux, uy], _ =>
           obtain ⟨u1, hu1, hxr⟩ := hr 0 x rfl
           obtain ⟨u2, hu2, hyr⟩ := hr 1 y rfl
           cases hu1
           cases hu2
           obtain ⟨u', w', g', r1, r2, r3, r4, r5⟩ := y60 hm hxr hyr ty h1
           refine zz9 (u := u') (w' := w') ?_ (hK u' w' g' r2 r3 r4 (fun id hi => by rw [r5]; exact hd id hi))
           simp only [execOp, resolve, hvs']
           show (do Next.value <$> Builtin.copy_ argTypes ty #[ux, uy] : Sem Next).run E.P w = _
           rw [Sem.run_map]
           have e1 : argTypes = argTypes.toList.toArray := by simp
           rw [e1, r1]
           rfl
       · exact h.elim
     | delete =>
       change delC E H A argTypes.toList (args.toList.map (ev ρ)) (fun v' H'' A'' => v' = v ∧ H'' = H' ∧ A'' = A') at h
       unfold delC at h
       generalize hxs : args.toList.map (ev ρ) = xs at h hargs
       generalize hvs : args.toList.map a.eval = vs at hargs
       have hvs' : args.map a.eval = vs.toArray := by rw [← hvs]; apply Array.ext'; simp
       split at h
       · rename_i t ts x k hat
         obtain ⟨A1, h1, rfl, rfl, rfl⟩ := Opt.iff.1 h
         obtain ⟨hl, hr⟩ := hargs
         match vs, hl with
         | [ux, uy], _ =>
           obtain ⟨u1, hu1, hxr⟩ := hr 0 x rfl
           obtain ⟨u2, hu2, hyr⟩ := hr 1 k rfl
           cases hu1
           cases hu2
           have hat0 : argTypes[0]? = some t := by rw [← Array.getElem?_toList, hat]; rfl
           obtain ⟨w', r1, r2, r3⟩ := y7m (P := E.P) (ty := ty) hm hxr hyr hat0 h1
           refine zz9 (u := .tuple #[]) (w' := w') ?_ (hK _ w' g Zti r2 r3 hd)
           simp only [execOp, resolve, hvs']
           show (do Next.value <$> Builtin.delete_ argTypes ty #[ux, uy] : Sem Next).run E.P w = _
           rw [Sem.run_map, r1]
           rfl
       · exact h.elim
     | len =>
       change (match zva E.effs argTypes.toList with
        | true => Opt (lenM E.P A argTypes.toList (args.toList.map (ev ρ))) fun v' => v' = v ∧ H = H' ∧ A = A'
        | false => zj5 E.P (.blt .len argTypes.toList ty (args.toList.map (ev ρ))) fun v' => v' = v ∧ H = H' ∧ A = A') at h
       split at h
       · obtain ⟨v', h1, rfl, rfl, rfl⟩ := Opt.iff.1 h
         generalize hxs : args.toList.map (ev ρ) = xs at h1 hargs
         generalize hvs : args.toList.map a.eval = vs at hargs
         have hvs' : args.map a.eval = vs.toArray := by rw [← hvs]; apply Array.ext'; simp
         generalize hats : argTypes.toList = ats at h1
         have hlm : ∃ t x, ats = [t] ∧ xs = [x] := by
          unfold lenM at h1
          split at h1
          · exact ⟨_, _, rfl, rfl⟩
          · cases h1
         obtain ⟨t, x, rfl, rfl⟩ := hlm
         obtain ⟨hl, hr⟩ := hargs
         match vs, hl with
         | [u], _ =>
           obtain ⟨u', hu', hxr⟩ := hr 0 x rfl
           cases hu'
           have hat' : argTypes = #[t] := by apply Array.ext'; simpa using hats
           subst hat'
           obtain ⟨X, hX, hp⟩ := y7i (P := E.P) (T := ty) hm hxr h1
           refine finish (s := Builtin.len_ #[t] ty #[u]) hd (.here hm hX hp) ?_ hK
           simp only [execOp, resolve, hvs']
           rfl
       · exact blt (pr _ h)
     | _ => exact blt (pr _ h)
 | _ => exact (show False from h).elim
end Go.PW
