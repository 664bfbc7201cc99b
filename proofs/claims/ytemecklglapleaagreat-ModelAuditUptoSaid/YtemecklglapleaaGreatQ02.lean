/-
  Parts of the proof, laid together: PwC.
-/
import Derived.Test.YtemecklglapleaaGreatQ01

namespace Go.PW
variable {P : Program} {g : Gh} {H : HMap} {A : AMap} {w : World}
theorem zj7 {s : Sem Value} {v : Value} (h : zks s = some v) : s = .pure v ∧ v.oneCell' = true := by
 cases s <;> simp only [zks] at h <;> try cases h
 split at h
 · rename_i hv
   cases h
   exact ⟨rfl, hv⟩
 · cases h
theorem z13 (v : Value) : CRep g A (cstC v) v := by
 unfold cstC
 split
 · exact ⟨.nil _, rfl⟩
 · trivial
 · trivial
 · rename_i h1 h2 h3
   refine DRep.lit _ ?_
   cases v <;> first | rfl | exact (h2 _ rfl).elim | exact (h3 _ rfl).elim
theorem zv0 (l : List Value) : zq8 g A (l.map cstC) l :=
 ⟨by simp, fun k c hk => by
   simp only [List.getElem?_map, Zms] at hk
   obtain ⟨v, hv, rfl⟩ := hk
   exact ⟨v, hv, z13 v⟩⟩
theorem y2z (v : Value) : PRep g A (cst v) v := by
 unfold cst
 split
 · exact ⟨_, rfl, zv0 _⟩
 · exact z13 v
def FRep (g : Gh) (A : AMap) (ρ : Nat → PV) (a : Act) : Prop := ∀ t, PRep g A (ρ t) (a.tmps.getD t undef)
theorem zz3 {ρ : Nat → PV} {a : Act} (hf : FRep g A ρ a) (x : Operand) : PRep g A (ev ρ x) (a.eval x) := by
 cases x with
 | tmp t => exact hf t
 | const v => exact y2z v
 | global b => trivial
 | func f => exact ⟨#[], rfl, rfl, fun k p hk => by simp at hk⟩
theorem zq2 {v : Value} (h : v.oneCell' = true) : PRep g A (lit v) v := DRep.lit v h
theorem zzv {v u : Value} (h : PRep g A (.c (.d (.lit v))) u) : u = v := DRep.lit_eq h
theorem z3s {c : CV} {v : Value} (h : CRep g A c v) (hk : c.known = true) : v.oneCell' = true := by
 cases c with
 | any => cases hk
 | skip => cases hk
 | d x => exact DRep.oneCell h
 | full els => exact DRep.oneCell h.1
 | own κ els => exact DRep.oneCell h.1
 | mt κ sz n => obtain ⟨a, cap, els, rfl, _⟩ := h; rfl
 | tv κ sz n L => obtain ⟨a, cap, els, rfl, _⟩ := h; rfl
 | ptr id off => obtain ⟨b, _, rfl⟩ := h; rfl
 | eptr e off => obtain ⟨b, o, rfl, _⟩ := h; rfl
 | mptr κ sz n i off => obtain ⟨b, els, rfl, _⟩ := h; rfl
 | fn f caps => obtain ⟨vs, rfl, _⟩ := h; rfl
 | mpr κ => obtain ⟨⟨b, rfl⟩, _⟩ := h; rfl
 | vsl id n => obtain ⟨b, _, rfl⟩ := h; rfl
 | bfn f fst caps => obtain ⟨us, vs, rfl, _⟩ := h; rfl
 | itr κ bi => rw [show v = _ from h]; rfl
 | sit κ => obtain ⟨⟨b, rfl⟩, _⟩ := h; rfl
theorem zq8.sub {cs : List CV} {vs : List Value} (h : zq8 g A cs vs) {off n : Nat} {r : List CV} (e : PW.sub cs off n = some r) :
 zq8 g A r ((vs.drop off).take n) ∧ off + n ≤ vs.length ∧ r.length = n := by
 unfold PW.sub at e
 split at e
 · rename_i hl
   cases e
   refine ⟨⟨by simp [h.1], fun k c hk => ?_⟩, by rw [h.1]; exact hl, by simp; omega⟩
   rw [List.getElem?_take] at hk ⊢
   split at hk
   · rename_i hkn
     simp only [hkn, if_true]
     rw [List.getElem?_drop] at hk ⊢
     exact h.2 _ _ hk
   · cases hk
 · cases e
theorem zq8.splice {cs ys : List CV} {vs us : List Value} (h : zq8 g A cs vs) (k : zq8 g A ys us) (off : Nat) (ho : off + ys.length ≤ cs.length) :
 zq8 g A (splice cs off ys) (PW.splice vs off us) := by
 have hl := k.1
 have hv := h.1
 refine ⟨by simp [PW.splice]; omega, fun i c hi => ?_⟩
 simp only [PW.splice, List.append_assoc] at hi ⊢
 rw [List.getElem?_append] at hi ⊢
 simp only [Zlt] at hi ⊢
 have e1 : min off cs.length = off := by omega
 have e2 : min off vs.length = off := by omega
 rw [e1] at hi
 rw [e2]
 by_cases h1 : i < off
 · simp only [h1, if_true] at hi ⊢
   rw [List.getElem?_take] at hi ⊢
   simp only [h1, if_true] at hi ⊢
   exact h.2 _ _ hi
 · simp only [h1, if_false] at hi ⊢
   rw [List.getElem?_append] at hi ⊢
   by_cases h2 : i - off < ys.length
   · have h2' : i - off < us.length := by omega
     simp only [h2, if_true] at hi
     simp only [h2', if_true]
     exact k.2 _ _ hi
   · have h2' : ¬ i - off < us.length := by omega
     simp only [h2, if_false] at hi
     simp only [h2', if_false]
     rw [List.getElem?_drop] at hi ⊢
     rw [hl]
     exact h.2 _ _ hi
theorem zwt {cs : List CV} {ds : List D} (e : toDs cs = some ds) : ds.length = cs.length ∧ ∀ (k : Nat) (x : D), ds[k]? = some x → ∃ c : CV, cs[k]? = some c ∧ ∀ v, CRep g A c v → DRep g.C g.π x v := by
 induction cs generalizing ds with
 | nil => simp [toDs] at e; subst e; simp
 | cons c r ih =>
   simp only [toDs, Zbs, Zms] at e
   obtain ⟨x, hx, xs, hxs, rfl⟩ := e
   obtain ⟨h1, h2⟩ := ih hxs
   refine ⟨by simp [h1], fun k y hk => ?_⟩
   cases k with
   | zero =>
     simp at hk
     subst hk
     refine ⟨c, rfl, fun v hv => ?_⟩
     unfold CV.toD at hx
     split at hx <;> cases hx
     · exact hv
     · exact hv.1
     · exact hv.1
     · obtain ⟨vs, rfl, hs, _⟩ := hv
       rw [Array.eq_empty_of_size_eq_zero hs]
       exact .fn _
   | succ k =>
     simp at hk
     obtain ⟨c', hc', hr⟩ := h2 k y hk
     exact ⟨c', by simpa using hc', hr⟩
theorem yq6 {cs : List CV} {ds : List D} (e : z7a cs = some ds) : ds.length = cs.length ∧ ∀ (k : Nat) (x : D), ds[k]? = some x → ∃ c : CV, cs[k]? = some c ∧ ∀ v, CRep g A c v → DRep g.C g.π x v := by
 induction cs generalizing ds with
 | nil => simp [z7a] at e; subst e; simp
 | cons c r ih =>
   simp only [z7a, Zbs, Zms] at e
   obtain ⟨x, hx, xs, hxs, rfl⟩ := e
   obtain ⟨h1, h2⟩ := ih hxs
   refine ⟨by simp [h1], fun k y hk => ?_⟩
   cases k with
   | zero =>
     simp at hk
     subst hk
     refine ⟨c, rfl, fun v hv => ?_⟩
     unfold CV.toDo at hx
     split at hx
     · cases hx
       obtain ⟨hd, hf⟩ := hv
       cases hd with
       | nil a => exact .nl a
       | sl els b o cap sz n val hn hcap hsz hC hd =>
         obtain rfl : n = 0 := hn
         obtain rfl : cap = 0 := hf
         exact .nl _
     · obtain ⟨_, hr⟩ := zwt (g := g) (A := A) (cs := [c]) (ds := [x]) (by simp [toDs, hx])
       obtain ⟨c', hc', hr⟩ := hr 0 x rfl
       cases hc'
       exact hr v hv
   | succ k =>
     simp at hk
     obtain ⟨c', hc', hr⟩ := h2 k y hk
     exact ⟨c', by simpa using hc', hr⟩
theorem y92 {x : D} {v : Value} (h : DRep g.C g.π x v) : CRep g A x.cv v := by
 unfold D.cv
 split
 · cases h with | nl a => exact ⟨.nil a, rfl⟩
 · exact h
def z1k (P : Program) (T : TypeId) (us : List Value) (X : Value) : Prop :=
 match P.underlying T with
 | some (.struct _) => X = .agg us.toArray
 | some (.array _ _) => X = .agg us.toArray
 | some _ => us = [X]
 | none => False
theorem z4z {T : TypeId} {cs : List CV} {v : PV} (e : mkPV P T cs = some v) {us : List Value} (h : zq8 g A cs us) : ∃ X, z1k P T us X ∧ PRep g A v X := by
 unfold mkPV at e
 unfold z1k
 cases hu : P.underlying T with
 | none => simp [hu] at e
 | some d =>
   have hag : some (PV.agg cs) = some v → ∃ X, X = Value.agg us.toArray ∧ PRep g A v X := by
    intro e
    cases e
    exact ⟨_, rfl, us.toArray, rfl, by simpa using h⟩
   have hone : oneP cs = some v → ∃ X, us = [X] ∧ PRep g A v X := by
    intro e
    unfold oneP at e
    split at e
    · cases e
      rename_i c
      obtain ⟨h1, h2⟩ := h
      obtain ⟨v, hv, hr⟩ := h2 0 c rfl
      match us, h1 with
      | [u], _ =>
        simp at hv
        subst hv
        exact ⟨u, rfl, hr⟩
    · cases e
   rw [hu] at e
   cases d <;> first | exact hag e | exact hone e
theorem yqv {T : TypeId} {d : TypeDesc} (h : P.underlying T = some d) : (isAgg T).run P w = .ok (match d with | .struct _ | .array _ _ => true | _ => false) w := by
 unfold isAgg
 simp only [Sem.run_bind, run_underlying h, Result.andThen_ok]
 cases d <;> rfl
theorem z1l {T : TypeId} (h : 0 < P.cellsOf T) : ∃ i, P.info? T = some i ∧ i.size = P.cellsOf T := by
 unfold Program.cellsOf at h ⊢
 cases hi : P.info? T with
 | none => simp [hi] at h
 | some i => exact ⟨i, rfl, rfl⟩
theorem zvl {T : TypeId} {d : TypeDesc} (h : P.underlying T = some d) : ∃ i, P.info? T = some i ∧ i.size = P.cellsOf T := by
 unfold Program.cellsOf
 unfold Program.underlying at h
 cases hi : P.info? T with
 | none => simp [hi] at h
 | some i => exact ⟨i, rfl, rfl⟩
theorem z6i {T : TypeId} {d : TypeDesc} (h : P.underlying T = some d) : (sizeOf T).run P w = .ok (P.cellsOf T) w := by
 obtain ⟨i, hi, hs⟩ := zvl h
 simp [sizeOf, typeInfo, hi, hs]
theorem zxc {T : TypeId} (h : 0 < P.cellsOf T) : (sizeOf T).run P w = .ok (P.cellsOf T) w := by
 obtain ⟨i, hi, hs⟩ := z1l h
 simp [sizeOf, typeInfo, hi, hs]
theorem z9n {T : TypeId} {us : List Value} {off : Nat} {X : Value} (_hl : off + P.cellsOf T ≤ us.length) (hX : z1k P T ((us.drop off).take (P.cellsOf T)) X) :
 (part T us.toArray off).run P w = .ok X w := by
 unfold part
 unfold z1k at hX
 cases hu : P.underlying T with
 | none => simp [hu] at hX
 | some d =>
   simp only [Sem.run_bind, yqv hu, Result.andThen_ok]
   simp only [hu] at hX
   have hag : ∀ (_ : X = .agg ((us.drop off).take (P.cellsOf T)).toArray), (Result.ok (Value.agg (us.toArray.extract off (off + P.cellsOf T))) w) = Result.ok X w := by
    intro hX
    subst hX
    congr 2
    apply Array.ext'
    simp [List.extract_eq_take_drop]
   have hone : ∀ (_ : (us.drop off).take (P.cellsOf T) = [X]), us[off]? = some X := by
    intro hX
    have := congrArg (·[0]?) hX
    simp only [List.getElem?_cons_zero] at this
    rw [List.getElem?_take, List.getElem?_drop] at this
    split at this
    · simpa using this
    · cases this
   cases d <;> first
    | (simp only [Bool.false_eq_true, if_false] at hX ⊢; have h0 := hone hX; simp [h0]; done)
    | (simp only [if_true, Sem.run_bind, z6i hu, Result.andThen_ok, Sem.run_pure] at hX ⊢; exact hag hX)
theorem zv1 {c : CV} {us : List Value} (h : zq8 g A [c] us) : ∃ u, us = [u] ∧ CRep g A c u := by
 obtain ⟨h1, h2⟩ := h
 obtain ⟨v, hv, hr⟩ := h2 0 c rfl
 match us, h1 with
 | [u], _ => simp at hv; subst hv; exact ⟨u, rfl, hr⟩
theorem zv2 {T : TypeId} {d : TypeDesc} (hu : P.underlying T = some d) (hd : (match d with | .struct _ | .array _ _ => true | _ => false) = false) {u X : Value} (h : z1k P T [u] X) : X = u := by
 unfold z1k at h
 rw [hu] at h
 cases d <;> simp at h hd <;> exact h.symm
theorem z5r {d : Nat} {T : TypeId} {a b : List CV} {r : Bool} (he : zwi P d T a b = some r) {zs : List Value} (hz : zs.length = a.length) : ∃ Z, z1k P T zs Z := by
 unfold z1k
 cases d with
 | zero => simp [zwi] at he
 | succ d =>
   rw [zwi] at he
   cases hu : P.underlying T with
   | none => simp [hu] at he
   | some td =>
     have hone : a.length = 1 → ∃ Z, zs = [Z] := fun h1 => by
      rw [h1] at hz
      exact match zs, hz with | [z], _ => ⟨z, rfl⟩
     rw [hu] at he
     cases td <;> simp only at he ⊢ <;> first
      | exact ⟨_, rfl⟩
      | (cases he; done)
      | (refine hone ?_; (first | unfold eqB at he | unfold eqI at he | unfold eqT at he); split at he <;> first | rfl | (cases he; done))
theorem z8w : ∀ (d : Nat) (T : TypeId) (xs ys : List CV) (r : Bool), zwi P d T xs ys = some r → ∀ (us vs : List Value), zq8 g A xs us → zq8 g A ys vs →
 ∀ (k : Nat) (X Y : Value), d ≤ k → z1k P T us X → z1k P T vs Y → (Op.equalIn k T X Y).run P w = .ok r w := by
 intro d
 induction d with
 | zero => intro T xs ys r h; simp [zwi] at h
 | succ d ih =>
   intro T xs ys r h us vs hx hy k X Y hk hX hY
   obtain ⟨k, rfl⟩ : ∃ k', k = k' + 1 := ⟨k - 1, by omega⟩
   rw [zwi] at h
   cases hu : P.underlying T with
   | none => simp [hu] at h
   | some td =>
     rw [hu] at h
     cases td <;> simp only at h <;> try (cases h; done)
     case bool =>
      unfold eqB at h
      split at h
      · cases h
        obtain ⟨u, rfl, h1⟩ := zv1 hx
        obtain ⟨v, rfl, h2⟩ := zv1 hy
        rw [zv2 hu rfl hX, zv2 hu rfl hY, DRep.lit_eq h1, DRep.lit_eq h2]
        exact run_equalIn_bool' w k T _ _ hu
      · cases h
     case int =>
      unfold eqI at h
      split at h
      · split at h
        · rename_i hkk
          cases h
          obtain ⟨u, rfl, h1⟩ := zv1 hx
          obtain ⟨v, rfl, h2⟩ := zv1 hy
          rw [zv2 hu rfl hX, zv2 hu rfl hY, DRep.lit_eq h1, DRep.lit_eq h2]
          subst hkk
          exact run_equalIn_int w k T _ _ _ _ hu
        · cases h
      · cases h
     case string =>
      unfold eqT at h
      split at h
      · cases h
        obtain ⟨u, rfl, h1⟩ := zv1 hx
        obtain ⟨v, rfl, h2⟩ := zv1 hy
        rw [zv2 hu rfl hX, zv2 hu rfl hY, DRep.lit_eq h1, DRep.lit_eq h2]
        exact run_equalIn_string w k T _ _ hu
      · cases h
     case struct fs =>
      split at h
      · rename_i hst
        have hfs : P.fieldsOf T = fs := by simp [Program.fieldsOf, hu]
        unfold z1k at hX hY
        rw [hu] at hX hY
        simp only at hX hY
        subst hX hY
        rw [run_equalIn_struct w k T _ _ (by rw [hfs]; exact hu) hst, hfs]
        generalize fs.toList = fl at h ⊢
        clear hfs hu hst
        induction fl generalizing r with
        | nil => simp at h; subst h; simp [Op.eqFields]
        | cons f fl ihf =>
          simp only [List.foldr_cons] at h
          simp only [Op.eqFields]
          by_cases hn : f.name = "_"
          · simp only [hn, if_true] at h
            simp only [hn, ne_eq, not_true_eq_false, if_false]
            exact ihf r h
          · simp only [hn, if_false, Zbs, Zms] at h
            obtain ⟨a, ha, b, hb, r1, hr1, s, hs, rfl⟩ := h
            obtain ⟨ca, la, na⟩ := hx.sub ha
            obtain ⟨cb, lb, nb⟩ := hy.sub hb
            obtain ⟨X1, hX1⟩ := z5r hr1 ca.1
            obtain ⟨Y1, hY1⟩ := z5r hr1 (zs := (vs.drop f.offset).take (P.cellsOf f.type)) (by rw [cb.1, nb, na])
            have e1 := ih f.type a b r1 hr1 _ _ ca cb k X1 Y1 (by omega) hX1 hY1
            simp only [ne_eq, hn, not_false_eq_true, if_true, Sem.run_bind, z9n la hX1, z9n lb hY1, Result.andThen_ok, e1]
            cases r1
            · simp
            · simp only [Bool.not_true, Bool.false_eq_true, if_false, Bool.true_and]
              exact ihf s hs
      · cases h
end Go.PW
