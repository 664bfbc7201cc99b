import Derived.Test.YtcdiifnnnnnceaaQ05

/-
  The abstract machine: append, as an operation; the operations that touch no memory that changes, all of them.
-/

namespace Go.PW
variable {P : Program} {g : Gh} {H : HMap} {A : AMap} {w : World}

/-- What an append needs of its source. -/
theorem source_of (hm : MRel g H A w) {ys : List (List D)} {uy : Value} {sz : Nat} (h : DRep g.C (.sl ys) uy) (hs : Szd sz ys) :
    ∃ (news : List Value) (a' : Option Addr) (c' : Nat), Flat g.C sz ys news ∧ uy = .slice a' ys.length c' ∧ ∀ w2 : World, w2.heap = w.heap → (Builtin.firstCells sz ys.length (.slice a' ys.length c')).run P w2 = .ok news.toArray w2 := by
  obtain ⟨us, a, cap, hf, hu, _, ha⟩ := flat_of h hs
  refine ⟨us, a, cap, hf, hu, fun w2 hw => run_first (w := w) hf.1 ?_ w2 hw⟩
  rcases ha with ⟨he, _⟩ | ⟨b, o, rfl, hc⟩
  · exact .inl (List.length_eq_zero_iff.1 (by rw [hf.1, he]; simp))
  · exact .inr ⟨b, o, rfl, fun j v hj => hm.com _ _ _ (hc j v hj)⟩

theorem run_append_same {t e ty : TypeId} {i : TypeInfo} (ht : P.underlying t = some (.slice e)) (hi : P.info? e = some i) {a a' : Option Addr} {n cap c' : Nat}
    (hf : ∀ w2 : World, w2.heap = w.heap → (Builtin.firstCells i.size 0 (.slice a' 0 c')).run P w2 = .ok #[] w2) (hroom : n ≤ cap) :
    (Builtin.append_ #[t, t] ty #[.slice a n cap, .slice a' 0 c']).run P w = .ok (.slice a n cap) w := by
  rw [run_append_room2 (news := []) ht hi (by simpa using hf) (by simpa using hroom)]
  cases a <;> rfl

theorem upd_eq {α β : Type} [DecidableEq α] {f : α → β} {a : α} {b : β} (h : f a = b) : upd f a b = f := by
  funext x
  unfold upd
  split
  · rename_i hx; subst hx; exact h.symm
  · rfl

theorem append_ok (hm : MRel g H A w) {md : List Nat} {k d : Nat} {ats : List TypeId} {x y v : PV} {A' : AMap} {ux uy : Value} (hx : PRep g A x ux) (hy : PRep g A y uy) (ty : TypeId)
    (h : appV P md k d A ats x y (fun v' A'' => v' = v ∧ A'' = A')) :
    ∃ t, ats = [t, t] ∧ ∃ u' w' g', (Builtin.append_ #[t, t] ty #[ux, uy]).run P w = .ok u' w' ∧ PRep g' A' v u' ∧ MRel g' H A' w' ∧ Evol g A w g' A' w' ∧ g'.β = g.β := by
  unfold appV at h
  split at h
  · rename_i t t'
    split at h
    · rename_i e ht
      obtain ⟨⟨rfl, hpos, hz, hbp⟩, h⟩ := h
      refine ⟨t, rfl, ?_⟩
      obtain ⟨zc, hzc⟩ := Option.isSome_iff_exists.1 hz
      obtain ⟨i, z, hi, hzz, hzs, hsz, _, _⟩ := zeroOf_rep hzc
      have hby : P.bytesOf e = i.bytes := by simp [Program.bytesOf, hi]
      split at h
      · rename_i ys hys
        have hyd := sliceEls_rep hy hys
        split at h
        · rename_i els
          obtain ⟨⟨hs1, hs2, hbnd, hA0⟩, h⟩ := h
          obtain ⟨hxd, hfull⟩ := hx
          obtain ⟨news, a', c', hfy, rfl, hsrc⟩ := source_of (P := P) hm hyd hs2
          obtain ⟨olds, a, cap, hfx, rfl, _, _⟩ := flat_of hxd hs1
          obtain ⟨olds', a2, cap2, hfx', e2, hsrc'⟩ := source_of (P := P) hm hxd hs1
          cases e2
          simp only [capFull] at hfull
          subst hfull
          rw [← hsz] at hsrc hsrc' hs1 hs2 hfy hfx'
          rw [hby] at hbnd hbp
          have h63 : ((els.length + ys.length : Nat) : Int) ≤ 9223372036854775807 := by
            have : els.length + ys.length ≤ (els.length + ys.length) * i.bytes := Nat.le_mul_of_pos_right _ hbp
            omega
          have hgrow := fun (hg : els.length < els.length + ys.length) => grown_ok (ty := ty) ht hi hzz hzs hfx'.1 hfy.1 hsrc' hsrc hg hbnd h63
          have hsz2 : Szd i.size (els ++ ys) := fun x hx => by
            rcases List.mem_append.1 hx with hx | hx
            · exact hs1 x hx
            · exact hs2 x hx
          split at h
          · obtain ⟨rfl, rfl, rfl⟩ := h
            by_cases hm0 : ys = []
            · subst hm0
              obtain rfl : news = [] := List.length_eq_zero_iff.1 (by rw [hfy.1]; simp)
              obtain ⟨g', m1, m2, m3, m4, m5⟩ := same_tok (κ := (k + d, 0)) (ar' := .mu (P.cellsOf e) []) (u := .slice a 0 0) hm (fun ar ha => by rw [hA0] at ha; cases ha) (fun g' hg' => ⟨by simp [Szd], a, 0, hg', Nat.le_refl _, .inl rfl⟩)
              refine ⟨_, w, g', run_append_same ht hi hsrc (Nat.le_refl _), ?_, m1, m2, m4⟩
              exact ⟨a, 0, [], rfl, by simp, upd_same _ _ _, Nat.le_refl _, fun _ => .inl m3⟩
            · have hpos' : 0 < ys.length := List.length_pos_iff.2 hm0
              obtain ⟨u', w', hr, hgr⟩ := hgrow (by omega)
              obtain ⟨g', m1, m2, m3, m4⟩ := grown_mu (κ := (k + d, 0)) hm hgr (hfx'.append hfy) hsz2 (by simp) (fun ar ha => by rw [hA0] at ha; cases ha)
              rw [hsz] at m1 m2 m3
              refine ⟨u', w', g', hr, ?_, m1, m2, m4⟩
              simpa using m3
          · obtain ⟨rfl, rfl⟩ := h
            by_cases hm0 : ys = []
            · subst hm0
              obtain rfl : news = [] := List.length_eq_zero_iff.1 (by rw [hfy.1]; simp)
              obtain ⟨g', m1, m2, m3, m4, m5⟩ := same_tok (κ := (k + d, 0)) (ar' := .co (P.cellsOf e) els.length) (u := .slice a els.length els.length) hm (fun ar ha => by rw [hA0] at ha; cases ha) (fun g' hg' => ⟨a, els.length, hg', Nat.le_refl _, .inl rfl⟩)
              simp only [List.append_nil]
              refine ⟨_, w, g', run_append_same ht hi hsrc (Nat.le_refl _), ?_, m1, m2, m4⟩
              exact ⟨by rw [m5]; exact hxd, _, _, upd_same _ _ _, Nat.le_refl _, fun _ => .inl m3⟩
            · have hpos' : 0 < ys.length := List.length_pos_iff.2 hm0
              obtain ⟨u', w', hr, hgr⟩ := hgrow (by omega)
              obtain ⟨g', m1, m2, m3, m4, m5⟩ := grown_co (κ := (k + d, 0)) hm hgr (hfx'.append hfy) hsz2 (by simp) (fun ar ha => by rw [hA0] at ha; cases ha)
              rw [hsz] at m1 m2
              simp only [List.length_append]
              exact ⟨u', w', g', hr, ⟨m3, _, _, upd_same _ _ _, by simp, fun _ => .inl m4⟩, m1, m2, m5⟩
        · rename_i κ els
          obtain ⟨⟨hs1, hs2, hbnd, hA0⟩, rfl, rfl⟩ := h
          obtain ⟨hxd, sz', n', hA1, hle, hτ⟩ := hx
          rw [hA0] at hA1
          cases hA1
          have hτ := hτ rfl
          obtain ⟨news, a', c', hfy, rfl, hsrc⟩ := source_of (P := P) hm hyd hs2
          obtain ⟨olds, a, cap, hfx, rfl, hcap, hwhere⟩ := flat_of hxd hs1
          obtain ⟨olds', a2, cap2, hfx', e2, hsrc'⟩ := source_of (P := P) hm hxd hs1
          cases e2
          rw [← hsz] at hsrc hsrc' hs1 hs2 hfy hfx' hfx hA0
          rw [hby] at hbnd hbp
          have h63 : ((els.length + ys.length : Nat) : Int) ≤ 9223372036854775807 := by
            have : els.length + ys.length ≤ (els.length + ys.length) * i.bytes := Nat.le_mul_of_pos_right _ hbp
            omega
          have hsz2 : Szd i.size (els ++ ys) := fun x hx => by
            rcases List.mem_append.1 hx with hx | hx
            · exact hs1 x hx
            · exact hs2 x hx
          simp only [List.length_append, ← hsz]
          by_cases hroom : els.length + ys.length ≤ cap
          · by_cases hm0 : ys = []
            · subst hm0
              obtain rfl : news = [] := List.length_eq_zero_iff.1 (by rw [hfy.1]; simp)
              simp only [List.append_nil, List.length_nil, Nat.add_zero]
              rw [upd_eq hA0]
              exact ⟨_, w, g, run_append_same ht hi hsrc hcap, ⟨hxd, _, _, hA0, Nat.le_refl _, fun _ => hτ⟩, hm, .refl _ _ _, rfl⟩
            · have hpos' : 0 < ys.length := List.length_pos_iff.2 hm0
              have hτ := hτ.resolve_right (fun ⟨a, e⟩ => by injection e with _ e1 e2; omega)
              obtain ⟨a3, cap3, e3, _, htail⟩ := hm.tok κ _ hA0
              rw [hτ] at e3
              cases e3
              rcases htail with htail | ⟨b, rfl, hO, hCn, vs, te, fz, hh, hu, hcp⟩
              · omega
              · obtain ⟨g', m1, m2, m3, m4, m5⟩ := room_co (κ := κ) hm hA0 hτ hO hCn hh hu hcp hfx hfy hs1 hs2 rfl rfl (fun j v hj => by
                  rcases hwhere with ⟨_, e⟩ | ⟨b', o', e, hc⟩
                  · omega
                  · cases e
                    have := hc j v hj
                    rwa [Nat.zero_add] at this) hroom
                have hfit : els.length * i.size + news.length ≤ vs.size := by
                  have h1 := Nat.mul_le_mul_right i.size hroom
                  rw [Nat.add_mul] at h1
                  rw [hfy.1]
                  omega
                refine ⟨_, _, g', ?_, ⟨m3, _, _, upd_same _ _ _, by simp, fun _ => .inl m4⟩, m1, m2, m5⟩
                rw [run_append_room2 ht hi hsrc hroom]
                simp only [Addr_add, Nat.zero_add]
                rw [run_storeCells' hh hu hfit hfy.2.1]
                rfl
          · obtain ⟨u', w', hr, hgr⟩ := grown_ok (ty := ty) ht hi hzz hzs hfx'.1 hfy.1 hsrc' hsrc (by omega) hbnd h63
            obtain ⟨g', m1, m2, m3, m4, m5⟩ := grown_co (κ := κ) hm hgr (hfx'.append hfy) hsz2 (by simp) (fun ar ha => by rw [hA0] at ha; cases ha; exact ⟨_, rfl, by omega⟩)
            exact ⟨u', w', g', hr, ⟨m3, _, _, upd_same _ _ _, by simp, fun _ => .inl m4⟩, m1, m2, m5⟩
        · rename_i κ sz n
          split at h
          · rename_i sz' els hA0
            obtain ⟨⟨e1, rfl, rfl, hs2, hbnd⟩, rfl, rfl⟩ := h
            obtain ⟨ax, capx, els', rfl, hax, hA1, hle, hτ⟩ := hx
            rw [hA0] at hA1
            cases hA1
            have hτ := hτ rfl
            obtain ⟨news, a', c', hfy, rfl, hsrc⟩ := source_of (P := P) hm hyd hs2
            have hs1 := (hm.tok κ _ hA0).1
            have htl : els.length ≤ capx ∧ (capx = 0 ∨ ∃ b, ax = some ⟨b, 0, none⟩ ∧ g.τ κ = .slice ax els.length capx ∧ g.O b = some (.tok κ) ∧ (∀ j, g.C b j = none) ∧ ∃ vs e fz, w.heap[b]? = some (.cells vs e fz) ∧ Unfz vs.size fz ∧ capx * sz' ≤ vs.size ∧
                ∀ i k e' x, els[i]? = some e' → e'[k]? = some x → ∃ u, vs[i * sz' + k]? = some u ∧ DRep g.C x u) := by
              rcases hτ with hτ | ⟨a0, e0⟩
              · obtain ⟨_, a3, cap3, e3, hcap, htail⟩ := hm.tok κ _ hA0
                rw [hτ] at e3
                cases e3
                exact ⟨hcap, htail.imp id fun ⟨b, h1, h2⟩ => ⟨b, h1, hτ, h2⟩⟩
              · injection e0 with _ e1 e2
                exact ⟨by omega, .inl e2⟩
            obtain ⟨hcap, htail⟩ := htl
            have e1' : sz' = i.size := by rw [e1, hsz]
            subst e1'
            rw [← hsz] at hsrc hs2 hfy
            rw [hby] at hbnd hbp
            have h63 : ((els.length + ys.length : Nat) : Int) ≤ 9223372036854775807 := by
              have : els.length + ys.length ≤ (els.length + ys.length) * i.bytes := Nat.le_mul_of_pos_right _ hbp
              omega
            have hsz2 : Szd i.size (els ++ ys) := fun x hx => by
              rcases List.mem_append.1 hx with hx | hx
              · exact hs1 x hx
              · exact hs2 x hx
            simp only [List.length_append]
            have hslice : ∃ olds : List Value, Flat g.C i.size els olds ∧ ∀ w2 : World, w2.heap = w.heap → (Builtin.firstCells i.size els.length (.slice ax els.length capx)).run P w2 = .ok olds.toArray w2 := by
              rcases htail with h0 | ⟨b, rfl, _, hO, hCn, vs, te, fz, hh, hu, hcp, hrep⟩
              · obtain rfl : els = [] := List.length_eq_zero_iff.1 (by omega)
                refine ⟨[], ⟨by simp, by simp, by simp⟩, fun w2 _ => ?_⟩
                cases ax with
                | none => exact run_firstCells_none w2 _ _ _ _
                | some b => exact run_firstCells_some w2 i.size 0 b 0 capx [] (by simp) (by simp)
              · have hle : els.length * i.size ≤ capx * i.size := Nat.mul_le_mul_right _ hcap
                have hl : (vs.toList.take (els.length * i.size)).length = els.length * i.size := by simp; omega
                have hget : ∀ (i' k : Nat) (e' : List D) (x : D), els[i']? = some e' → e'[k]? = some x → ∃ v, (vs.toList.take (els.length * i.size))[i' * i.size + k]? = some v ∧ DRep g.C x v := by
                  intro i' k e' x he hx
                  obtain ⟨v, hv, hd⟩ := hrep i' k e' x he hx
                  have hi' := (List.getElem?_eq_some_iff.1 he).1
                  have hk : k < i.size := by rw [← hs1 e' (List.mem_of_getElem? he)]; exact (List.getElem?_eq_some_iff.1 hx).1
                  have := Nat.mul_le_mul_right i.size (show i' + 1 ≤ els.length from hi')
                  rw [Nat.add_mul, Nat.one_mul] at this
                  refine ⟨v, ?_, hd⟩
                  rw [List.getElem?_take, if_pos (by omega)]
                  simpa using hv
                refine ⟨vs.toList.take (els.length * i.size), ⟨hl, fun v hv => ?_, hget⟩, fun w2 hw => run_first (w := w) hl (.inr ⟨b, 0, rfl, fun j v hj => ?_⟩) w2 hw⟩
                · obtain ⟨j, hj⟩ := List.mem_iff_getElem?.1 hv
                  have hjl := (List.getElem?_eq_some_iff.1 hj).1
                  rw [hl] at hjl
                  have hpos' : 0 < i.size := by omega
                  have h1 : j / i.size < els.length := Nat.div_lt_of_lt_mul (by rw [Nat.mul_comm]; exact hjl)
                  have h2 : j % i.size < i.size := Nat.mod_lt _ hpos'
                  have hel : (els[j / i.size]).length = i.size := hs1 _ (List.getElem_mem h1)
                  obtain ⟨v', hv', hd⟩ := hget (j / i.size) (j % i.size) _ _ (List.getElem?_eq_getElem h1) (List.getElem?_eq_getElem (by omega))
                  rw [show j / i.size * i.size + j % i.size = j by rw [Nat.mul_comm]; exact Nat.div_add_mod _ _, hj] at hv'
                  cases hv'
                  exact DRep.oneCell hd
                · rw [List.getElem?_take] at hj
                  split at hj
                  · rw [Nat.zero_add]
                    exact cell_of_heap hh (by simpa using hj)
                  · cases hj
            obtain ⟨olds, hfx, hsrc'⟩ := hslice
            by_cases hroom : els.length + ys.length ≤ capx
            · by_cases hm0 : ys = []
              · subst hm0
                obtain rfl : news = [] := List.length_eq_zero_iff.1 (by rw [hfy.1]; simp)
                simp only [List.append_nil, List.length_nil, Nat.add_zero]
                rw [upd_eq hA0]
                exact ⟨_, w, g, run_append_same ht hi hsrc hcap, ⟨_, _, els, rfl, hax, hA0, Nat.le_refl _, fun _ => hτ⟩, hm, .refl _ _ _, rfl⟩
              · have hpos' : 0 < ys.length := List.length_pos_iff.2 hm0
                rcases htail with htail | ⟨b, rfl, hτ', hO, hCn, vs, te, fz, hh, hu, hcp, hrep⟩
                · omega
                · obtain ⟨g', m1, m2, m3, m4⟩ := room_mu (κ := κ) hm hA0 hτ' hO hCn hh hu hcp hrep hfy hs1 hs2 rfl rfl hroom
                  have hfit : els.length * i.size + news.length ≤ vs.size := by
                    have h1 := Nat.mul_le_mul_right i.size hroom
                    rw [Nat.add_mul] at h1
                    rw [hfy.1]
                    omega
                  refine ⟨_, _, g', ?_, ⟨_, _, els ++ ys, rfl, fun _ => ⟨b, rfl⟩, upd_same _ _ _, by simp, fun _ => .inl m3⟩, m1, m2, m4⟩
                  rw [run_append_room2 ht hi hsrc hroom]
                  simp only [Addr_add, Nat.zero_add]
                  rw [run_storeCells' hh hu hfit hfy.2.1]
                  rfl
            · obtain ⟨u', w', hr, hgr⟩ := grown_ok (ty := ty) ht hi hzz hzs hfx.1 hfy.1 hsrc' hsrc (by omega) hbnd h63
              obtain ⟨g', m1, m2, m3, m4⟩ := grown_mu (κ := κ) hm hgr (hfx.append hfy) hsz2 (by simp) (fun ar ha => by rw [hA0] at ha; cases ha; exact ⟨_, rfl, by omega⟩)
              exact ⟨u', w', g', hr, m3, m1, m2, m4⟩
          · exact h.elim
        · exact h.elim
      · exact h.elim
    · exact h.elim
  · exact h.elim

end Go.PW

/-
  The abstract machine: calls; and a step, whatever it is, is carried out in memory.
-/

namespace Go.PW
variable {P : Program} {g : Gh} {H : HMap} {A : AMap} {w : World}

def CallTo (P : Program) (f : FuncId) (args : Array Value) (w : World) (R : Value → World → Prop) : Prop :=
  ((callFunc f args).run P w = .ok (.enter f args) w ∧ Calls P f args w (fun e w' => ∃ v, e = .returned v ∧ R v w')) ∨ ∃ v w', (callFunc f args).run P w = .ok (.value v) w' ∧ R v w'

def ArgsRep (g : Gh) (A : AMap) (xs : List PV) (vs : List Value) : Prop := vs.length = xs.length ∧ ∀ (k : Nat) (x : PV), xs[k]? = some x → ∃ v, vs[k]? = some v ∧ PRep g A x v

def noH : HMap := fun _ => none
def noA : AMap := fun _ => none

/-- Nothing is known but cells that stay. -/
def gOnly (C : Nat → Nat → Option Value) : Gh := ⟨C, fun _ => none, fun _ => undef, fun _ => none⟩

def RV.am (r : RV) : AMap := RT.install 0 noA 0 r.list

def CV.closed : CV → Bool
  | .any | .skip | .d _ | .full _ | .eptr _ _ => true
  | .fn _ caps => caps.isEmpty
  | _ => false

def PV.closed : PV → Bool
  | .c x => x.closed
  | .agg cs => cs.all CV.closed
  | .tup _ => false

def PureOK (P : Program) (f : FuncId) (args : List PV) (r : RV) : Prop :=
  args.all PV.closed = true ∧ ∀ (C : Nat → Nat → Option Value) (w : World) (vals : Array Value), (∀ b o v, C b o = some v → w.cell? ⟨b, o, none⟩ = some v) → ArgsRep (gOnly C) noA args vals.toList →
    CallTo P f vals w fun v w' => ∃ g', PRep g' r.am (r.pv 0) v ∧ MRel g' noH r.am w' ∧ Evol (gOnly C) noA w g' r.am w'

def EffOK (P : Program) (f : FuncId) (off : Nat) (H : HMap) (A : AMap) (args : List PV) (v : PV) (H' : HMap) (A' : AMap) : Prop :=
  ∀ (g : Gh) (w : World) (vals : Array Value), MRel g H A w → DomOK g H → Above off H A → ArgsRep g A args vals.toList →
    CallTo P f vals w fun u w' => ∃ g', PRep g' A' v u ∧ MRel g' H' A' w' ∧ Evol g A w g' A' w' ∧ DomOK g' H'

structure EnvOK (E : Env) : Prop where
  mixed : E.P.follows .mixedOrders = true
  pure : ∀ f args r, E.Γ f args r → PureOK E.P f args r
  eff : ∀ f off H A args v H' A', E.Γe f off H A args v H' A' → EffOK E.P f off H A args v H' A'

theorem inst_other {id : Nat} {A : AMap} : ∀ (rs : List RT) (k : Nat) (κ : Tok), κ.1 ≠ id → RT.install id A k rs κ = A κ
  | [], _, _, _ => rfl
  | r :: rs, k, κ, h => by
    unfold RT.install
    cases r.ar with
    | some ar =>
      simp only
      rw [upd_other _ _ (fun e => h (by rw [e]))]
      exact inst_other rs (k + 1) κ h
    | none => exact inst_other rs (k + 1) κ h

theorem inst_same {id : Nat} {A : AMap} : ∀ (rs : List RT) (k j : Nat), RT.install id A k rs (id, j) = (RT.install 0 noA k rs (0, j)).or (A (id, j))
  | [], _, _ => rfl
  | r :: rs, k, j => by
    unfold RT.install
    cases r.ar with
    | some ar =>
      simp only
      by_cases h : j = k
      · subst h
        rw [upd_same, upd_same]; rfl
      · rw [upd_other _ _ (by simp [h]), upd_other _ _ (by simp [h])]
        exact inst_same rs (k + 1) j
    | none => exact inst_same rs (k + 1) j

theorem merge (hm : MRel g H A w) {id : Nat} (hfresh : ∀ k, A (id, k) = none) {rs : List RT} {g' : Gh} {w' : World} (hm' : MRel g' noH (RT.install 0 noA 0 rs) w') (hev : Evol (gOnly g.C) noA w g' (RT.install 0 noA 0 rs) w') :
    ∃ g'', MRel g'' H (RT.install id A 0 rs) w' ∧ Evol g A w g'' (RT.install id A 0 rs) w' ∧ g''.β = g.β ∧ g''.C = g'.C ∧ (∀ k, g''.τ (id, k) = g'.τ (0, k)) := by
  let g'' : Gh := { C := g'.C, β := g.β, τ := fun κ => if κ.1 = id then g'.τ (0, κ.2) else g.τ κ, O := fun b => if b < w.heap.size then g.O b else match g'.O b with
    | some (.tok κ) => some (.tok (id, κ.2))
    | _ => none }
  have hC : ∀ b o v, g.C b o = some v → g''.C b o = some v := hev.mono.C
  have hinst : ∀ k, RT.install id A 0 rs (id, k) = RT.install 0 noA 0 rs (0, k) := fun k => by
    rw [inst_same, hfresh]
    cases RT.install 0 noA 0 rs (0, k) <;> rfl
  have hne : ∀ κ ar, A κ = some ar → κ.1 ≠ id := fun κ ar h e => by
    have := hfresh κ.2
    rw [← e] at this
    rw [show (κ.1, κ.2) = κ from rfl] at this
    rw [this] at h
    cases h
  have hM : Mono g A g'' (RT.install id A 0 rs) := ⟨hC, fun _ _ h => h, fun κ ar h => ⟨ar, by rw [inst_other rs 0 κ (hne κ ar h)]; exact h, by
    rw [show g''.τ κ = g.τ κ from if_neg (hne κ ar h)]; exact .refl _ _⟩⟩
  have hO : ∀ b, b < w.heap.size → g''.O b = g.O b := fun b hb => if_pos hb
  have hOn : ∀ b κ, g'.O b = some (.tok κ) → w.heap.size ≤ b := fun b κ h => by
    rcases Nat.lt_or_ge b w.heap.size with hb | hb
    · have := hev.own b hb rfl
      rw [this] at h
      cases h
    · exact hb
  refine ⟨g'', ⟨hm'.com, ?_, ?_, ?_⟩, ⟨hM, fun b hb _ => hev.frame b hb rfl, fun b hb ho => by rw [hO b hb]; exact ho, fun b hb _ o => hev.old b hb rfl o, hev.size, hev.os, hev.tape, hev.output⟩, rfl, rfl, fun k => if_pos rfl⟩
  · intro i b hb
    obtain ⟨ho, hc, cs, vs, e, fz, hH, hh, hu, hr⟩ := hm.var i b hb
    have hlt := heap_lt hh
    exact ⟨by rw [hO b hlt]; exact ho, fun o => by rw [show g''.C b o = g'.C b o from rfl, hev.old b hlt rfl o]; exact hc o, cs, vs, e, fz, hH, by rw [hev.frame b hlt rfl]; exact hh, hu, hr.mono hM⟩
  · intro κ ar hA
    by_cases hk : κ.1 = id
    · obtain ⟨κ1, k⟩ := κ
      simp only at hk
      subst hk
      rw [hinst] at hA
      have ht := hm'.tok (0, k) ar hA
      have hτ : g''.τ (κ1, k) = g'.τ (0, k) := if_pos rfl
      have hO' : ∀ b, g'.O b = some (.tok (0, k)) → g''.O b = some (.tok (κ1, k)) := fun b h => by
        have := hOn b _ h
        simp only [g'']
        rw [if_neg (by omega), h]
      cases ar with
      | co sz n =>
        obtain ⟨a, cap, h1, h2, h3⟩ := ht
        exact ⟨a, cap, hτ.trans h1, h2, h3.imp id fun ⟨b, e1, ho, hc, rest⟩ => ⟨b, e1, hO' b ho, hc, rest⟩⟩
      | mu sz els =>
        obtain ⟨hs, a, cap, h1, h2, h3⟩ := ht
        exact ⟨hs, a, cap, hτ.trans h1, h2, h3.imp id fun ⟨b, e1, ho, hc, rest⟩ => ⟨b, e1, hO' b ho, hc, rest⟩⟩
    · rw [inst_other rs 0 κ hk] at hA
      refine (hm.tok κ ar hA).frame (if_neg hk) hC (fun b ho => ?_)
      have hlt := hm.own b _ ho
      exact ⟨by rw [hO b hlt]; exact ho, hev.frame b hlt rfl, fun o => hev.old b hlt rfl o⟩
  · intro b o ho
    by_cases hb : b < w.heap.size
    · exact Nat.lt_of_lt_of_le hb hev.size
    · simp only [g'', if_neg hb] at ho
      split at ho
      · rename_i κ h
        exact hm'.own b _ h
      · cases ho

theorem RT_tv_rep {g' g'' : Gh} {A' A'' : AMap} (hC : g''.C = g'.C) {id k : Nat} (hA : ∀ ar, A' (0, k) = some ar → A'' (id, k) = some ar) (hτ : g''.τ (id, k) = g'.τ (0, k)) {r : RT} {v : Value} (h : TRep g' A' (r.tv (0, k)) v) : TRep g'' A'' (r.tv (id, k)) v := by
  cases r with
  | d x => exact DRep.mono (fun b o v h => by rw [hC]; exact h) h
  | own sz els =>
    obtain ⟨h1, sz', n, h2, h3, h4⟩ := h
    exact ⟨DRep.mono (fun b o v h => by rw [hC]; exact h) h1, sz', n, hA _ h2, h3, fun e => (h4 e).imp (fun h => hτ.trans h) (fun h => h)⟩
  | mu sz els =>
    obtain ⟨a, cap, els', h1, h2, h3, h4, h5⟩ := h
    exact ⟨a, cap, els', h1, h2, hA _ h3, h4, fun e => (h5 e).imp (fun h => hτ.trans h) (fun h => h)⟩
  | agg cs =>
    obtain ⟨arr, e, h1, h2⟩ := h
    refine ⟨arr, e, h1, fun k c hk => ?_⟩
    obtain ⟨v, hv, hr⟩ := h2 k c hk
    refine ⟨v, hv, ?_⟩
    simp only [List.getElem?_map, Option.map_eq_some_iff] at hk
    obtain ⟨x, _, rfl⟩ := hk
    exact DRep.mono (fun b o v h => by rw [hC]; exact h) hr

theorem length_tvs (id : Nat) : ∀ (rs : List RT) (k : Nat), (RT.tvs id k rs).length = rs.length
  | [], _ => rfl
  | _ :: rs, k => by simp [RT.tvs, length_tvs id rs]

theorem getElem?_tvs (id : Nat) : ∀ (rs : List RT) (k j : Nat), (RT.tvs id k rs)[j]? = (rs[j]?).map fun r => r.tv (id, k + j)
  | [], _, _ => by simp [RT.tvs]
  | r :: rs, k, 0 => by simp [RT.tvs]
  | r :: rs, k, j + 1 => by simp only [RT.tvs, List.getElem?_cons_succ, getElem?_tvs id rs]; congr; funext r; congr 2; omega

theorem RV_pv_rep {g' g'' : Gh} {A' A'' : AMap} (hC : g''.C = g'.C) {id : Nat} (hA : ∀ k ar, A' (0, k) = some ar → A'' (id, k) = some ar) (hτ : ∀ k, g''.τ (id, k) = g'.τ (0, k)) {r : RV} {v : Value} (h : PRep g' A' (r.pv 0) v) : PRep g'' A'' (r.pv id) v := by
  cases r with
  | one r => exact PRep_pv.2 (RT_tv_rep hC (hA 0) (hτ 0) (PRep_pv.1 h))
  | tup rs =>
    obtain ⟨arr, e, hs, hr⟩ := h
    refine ⟨arr, e, by rw [hs, length_tvs, length_tvs], fun k x hk => ?_⟩
    rw [getElem?_tvs] at hk
    obtain ⟨r, hr', rfl⟩ := Option.map_eq_some_iff.1 hk
    obtain ⟨u, hu, ht⟩ := hr k (r.tv (0, 0 + k)) (by rw [getElem?_tvs, hr']; rfl)
    exact ⟨u, hu, RT_tv_rep hC (hA _) (hτ _) ht⟩

theorem CRep_frz {c : CV} {v : Value} (h : CRep g A c v) : CRep g A c.frz v := by
  cases c with
  | full els => exact h.1
  | own κ els => exact h.1
  | _ => exact h

theorem PRep_frz {x : PV} {v : Value} (h : PRep g A x v) : PRep g A x.frz v := by
  cases x with
  | c x => exact CRep_frz h
  | agg cs =>
    obtain ⟨arr, e, h1, h2⟩ := h
    refine ⟨arr, e, by simpa using h1, fun k c hk => ?_⟩
    simp only [List.getElem?_map, Option.map_eq_some_iff] at hk
    obtain ⟨c', hc', rfl⟩ := hk
    obtain ⟨v, hv, hr⟩ := h2 k c' hc'
    exact ⟨v, hv, CRep_frz hr⟩
  | tup xs => exact h

theorem CRep_closed {c : CV} {v : Value} (hc : c.closed = true) (h : CRep g A c v) : CRep (gOnly g.C) noA c v := by
  cases c with
  | any => trivial
  | skip => exact h
  | d x => exact h
  | full els => exact h
  | eptr e off => exact h
  | fn f caps =>
    obtain ⟨vs, e, h1, h2⟩ := h
    refine ⟨vs, e, h1, fun k p hk => ?_⟩
    have : caps = [] := by simpa [CV.closed] using hc
    subst this
    simp at hk
  | _ => cases hc

theorem PRep_closed {x : PV} {v : Value} (hc : x.closed = true) (h : PRep g A x v) : PRep (gOnly g.C) noA x v := by
  cases x with
  | c x => exact CRep_closed hc h
  | agg cs =>
    obtain ⟨arr, e, h1, h2⟩ := h
    refine ⟨arr, e, h1, fun k c hk => ?_⟩
    obtain ⟨v, hv, hr⟩ := h2 k c hk
    exact ⟨v, hv, CRep_closed (List.all_eq_true.1 hc c (List.mem_of_getElem? hk)) hr⟩
  | tup xs => cases hc

theorem ArgsRep_map {ρ : Nat → PV} {a : Act} (hf : FRep g A ρ a) (args : Array Operand) : ArgsRep g A ((args.toList.map (ev ρ)).map PV.frz) (args.map a.eval).toList := by
  refine ⟨by simp, fun k x hk => ?_⟩
  simp only [List.map_map, List.getElem?_map, Option.map_eq_some_iff] at hk
  obtain ⟨y, hy, rfl⟩ := hk
  exact ⟨a.eval y, by simp only [Array.getElem?_toList] at hy; simp [hy], PRep_frz (PRep_ev hf y)⟩

theorem wp_value {o : Oper} {a : Act} {K : Act → World → Prop} {Q : Exit → Act → World → Prop} {u : Value} {w' : World} (h : (execOp a.eval o).run P w = .ok (.value u) w') (hK : K (a.put o.dst u) w') : o.wp P a w K Q := by
  unfold Oper.wp
  rw [h]
  exact hK

theorem wp_callTo {o : Oper} {a : Act} {K : Act → World → Prop} {Q : Exit → Act → World → Prop} {f : FuncId} {args : Array Value} {R : Value → World → Prop} (h : (execOp a.eval o).run P w = (callFunc f args).run P w) (hc : CallTo P f args w R)
    (hK : ∀ v w', R v w' → K (a.put o.dst v) w') : o.wp P a w K Q := by
  unfold Oper.wp
  rw [h]
  rcases hc with ⟨h1, h2⟩ | ⟨v, w', h1, h2⟩
  · rw [h1]
    refine Calls.mono h2 (fun e w' he => ?_)
    obtain ⟨v, rfl, hr⟩ := he
    exact hK v w' hr
  · rw [h1]
    exact hK v w' h2

theorem finish {o : Oper} {a : Act} {K : Act → World → Prop} {Q : Exit → Act → World → Prop} {s : Sem Value} {v : PV} (hd : DomOK g H) (hp : POk P g H A w s v) (he : execOp a.eval o = (do pure (Next.value (← s))))
    (hK : ∀ u w' g', PRep g' A v u → MRel g' H A w' → Evol g A w g' A w' → DomOK g' H → K (a.put o.dst u) w') : o.wp P a w K Q := by
  obtain ⟨u, w', g', h1, h2, h3, h4, h5⟩ := hp
  refine wp_value (u := u) (w' := w') ?_ (hK u w' g' h2 h3 h4 (fun id hi => by rw [h5]; exact hd id hi))
  rw [he, Sem.run_bind, h1]
  rfl

end Go.PW
