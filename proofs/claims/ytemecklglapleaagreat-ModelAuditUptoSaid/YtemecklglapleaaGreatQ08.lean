/-
  Parts of the proof, laid together: PwJ.
-/
import Derived.Test.YtemecklglapleaaGreatQ07

namespace Go.PW
variable {P : Program} {g : Gh} {H : HMap} {A : AMap} {w : World}
theorem zkl (hm : MRel g H A w) {ys : List (List D)} {uy : Value} {sz : Nat} (h : DRep g.C g.π (.sl ys) uy) (hs : Szd sz ys) :
 ∃ (news : List Value) (a' : Option Addr) (c' : Nat), Flat g.C g.π sz ys news ∧ uy = .slice a' ys.length c' ∧ ∀ w2 : World, w2.heap = w.heap → (Builtin.firstCells sz ys.length (.slice a' ys.length c')).run P w2 = .ok news.toArray w2 := by
 obtain ⟨us, a, cap, hf, hu, _, ha⟩ := yxo h hs
 refine ⟨us, a, cap, hf, hu, fun w2 hw => zvf (w := w) hf.1 ?_ w2 hw⟩
 rcases ha with ⟨he, _⟩ | ⟨b, o, rfl, hc⟩
 · exact .inl (List.length_eq_zero_iff.1 (by rw [hf.1, he]; simp))
 · exact .inr ⟨b, o, rfl, fun j v hj => hm.com _ _ _ (hc j v hj)⟩
theorem zxx {t e ty : TypeId} {i : TypeInfo} (ht : P.underlying t = some (.slice e)) (hi : P.info? e = some i) {a a' : Option Addr} {n cap c' : Nat}
 (hf : ∀ w2 : World, w2.heap = w.heap → (Builtin.firstCells i.size 0 (.slice a' 0 c')).run P w2 = .ok #[] w2) (hroom : n ≤ cap) :
 (Builtin.append_ #[t, t] ty #[.slice a n cap, .slice a' 0 c']).run P w = .ok (.slice a n cap) w := by
 rw [zja (news := []) ht hi (by simpa using hf) (by simpa using hroom)]
 cases a <;> rfl
theorem ykx {α β : Type} [DecidableEq α] {f : α → β} {a : α} {b : β} (h : f a = b) : upd f a b = f := by
 funext x
 unfold upd
 split
 · rename_i hx; subst hx; exact h.symm
 · rfl
theorem z9b {sz capx b : Nat} {els : List (List D)} {vs : Array Value} {te : TypeId} {fz : Nat × Nat} (hs1 : Szd sz els) (hcap : els.length ≤ capx) (hh : w.heap[b]? = some (.cells vs te fz)) (hcp : capx * sz ≤ vs.size)
 (hrep : ∀ (i k : Nat) (e' : List D) (x : D), els[i]? = some e' → e'[k]? = some x → ∃ u, vs[i * sz + k]? = some u ∧ DRep g.C g.π x u) :
 ∃ olds : List Value, Flat g.C g.π sz els olds ∧ ∀ (j : Nat) (v : Value), olds[j]? = some v → w.cell? ⟨b, j, none⟩ = some v := by
 have hle : els.length * sz ≤ capx * sz := Nat.mul_le_mul_right _ hcap
 have hl : (vs.toList.take (els.length * sz)).length = els.length * sz := by simp; omega
 have hget : ∀ (i' k : Nat) (e' : List D) (x : D), els[i']? = some e' → e'[k]? = some x → ∃ v, (vs.toList.take (els.length * sz))[i' * sz + k]? = some v ∧ DRep g.C g.π x v := by
  intro i' k e' x he hx
  obtain ⟨v, hv, hd⟩ := hrep i' k e' x he hx
  have hi' := (List.getElem?_eq_some_iff.1 he).1
  have hk : k < sz := by rw [← hs1 e' (Zme he)]; exact (List.getElem?_eq_some_iff.1 hx).1
  have := Nat.mul_le_mul_right sz (show i' + 1 ≤ els.length from hi')
  rw [Nat.add_mul, Nat.one_mul] at this
  refine ⟨v, ?_, hd⟩
  rw [List.getElem?_take, if_pos (by omega)]
  simpa using hv
 refine ⟨vs.toList.take (els.length * sz), ⟨hl, fun v hv => ?_, hget⟩, fun j v hj => ?_⟩
 · obtain ⟨j, hj⟩ := List.mem_iff_getElem?.1 hv
   have hjl := (List.getElem?_eq_some_iff.1 hj).1
   rw [hl] at hjl
   have hpos' : 0 < sz := Nat.pos_of_ne_zero (fun e => by rw [e] at hjl; simp at hjl)
   have h1 : j / sz < els.length := Nat.div_lt_of_lt_mul (by rw [Nat.mul_comm]; exact hjl)
   have h2 : j % sz < sz := Nat.mod_lt _ hpos'
   have hel : (els[j / sz]).length = sz := hs1 _ (List.getElem_mem h1)
   obtain ⟨v', hv', hd⟩ := hget (j / sz) (j % sz) _ _ (Zge h1) (Zge (by omega))
   rw [show j / sz * sz + j % sz = j by rw [Nat.mul_comm]; exact Nat.div_add_mod _ _, hj] at hv'
   cases hv'
   exact DRep.oneCell hd
 · rw [List.getElem?_take] at hj
   split at hj
   · exact zqs hh (by simpa using hj)
   · cases hj
theorem z95 (hm : MRel g H A w) {t e ty : TypeId} {i : TypeInfo} {z : Value} (ht : P.underlying t = some (.slice e)) (hi : P.info? e = some i) (hzz : i.zero = some z) (hzs : z.cells.size = i.size) {κ : Tok} {els ys : List (List D)} {news : List Value} {a' : Option Addr} {c' : Nat} {ux : Value}
 (hA0 : A κ = some (.mu i.size els)) (hx : PRep g A (.c (.mt κ i.size els.length)) ux) (hfy : Flat g.C g.π i.size ys news) (hsrc : ∀ w2 : World, w2.heap = w.heap → (Builtin.firstCells i.size ys.length (.slice a' ys.length c')).run P w2 = .ok news.toArray w2)
 (hs2 : Szd i.size ys) (hbnd : (els.length + ys.length) * i.bytes ≤ 140737488355328) (hbp : 0 < i.bytes) :
 ∃ u' w' g', (Builtin.append_ #[t, t] ty #[ux, .slice a' ys.length c']).run P w = .ok u' w' ∧ PRep g' (upd A κ (some (.mu i.size (els ++ ys)))) (.c (.mt κ i.size (els ++ ys).length)) u' ∧
   MRel g' H (upd A κ (some (.mu i.size (els ++ ys)))) w' ∧ Evol g A w g' (upd A κ (some (.mu i.size (els ++ ys)))) w' ∧ g'.β = g.β := by
 obtain ⟨ax, capx, els', rfl, hax, hA1, hle, hτ⟩ := hx
 rw [hA0] at hA1
 cases hA1
 have hτ := hτ rfl
 have hs1 := (hm.tok κ _ hA0).1
 have htl : els.length ≤ capx ∧ (capx = 0 ∨ ∃ b, ax = some ⟨b, 0, none⟩ ∧ g.τ κ = .slice ax els.length capx ∧ g.O b = some (.tok κ) ∧ (∀ j, g.C b j = none) ∧ ∃ vs e fz, w.heap[b]? = some (.cells vs e fz) ∧ Unfz vs.size fz ∧ capx * i.size ≤ vs.size ∧
  ∀ j k e' x, els[j]? = some e' → e'[k]? = some x → ∃ u, vs[j * i.size + k]? = some u ∧ DRep g.C g.π x u) := by
  rcases hτ with hτ | ⟨a0, e0⟩
  · obtain ⟨_, a3, cap3, e3, hcap, htail⟩ := hm.tok κ _ hA0
    rw [hτ] at e3
    cases e3
    exact ⟨hcap, htail.imp id fun ⟨b, h1, h2⟩ => ⟨b, h1, hτ, h2⟩⟩
  · injection e0 with _ e1 e2
    exact ⟨by omega, .inl e2⟩
 obtain ⟨hcap, htail⟩ := htl
 have h63 : ((els.length + ys.length : Nat) : Int) ≤ 9223372036854775807 := by
  have : els.length + ys.length ≤ (els.length + ys.length) * i.bytes := Nat.le_mul_of_pos_right _ hbp
  omega
 have hsz2 : Szd i.size (els ++ ys) := fun x hx => by
  rcases List.mem_append.1 hx with hx | hx
  · exact hs1 x hx
  · exact hs2 x hx
 simp only [Zla]
 have hslice : ∃ olds : List Value, Flat g.C g.π i.size els olds ∧ ∀ w2 : World, w2.heap = w.heap → (Builtin.firstCells i.size els.length (.slice ax els.length capx)).run P w2 = .ok olds.toArray w2 := by
  rcases htail with h0 | ⟨b, rfl, _, hO, hCn, vs, te, fz, hh, hu, hcp, hrep⟩
  · obtain rfl : els = [] := List.length_eq_zero_iff.1 (by omega)
    refine ⟨[], ⟨by simp, by simp, by simp⟩, fun w2 _ => ?_⟩
    cases ax with
    | none => exact run_firstCells_none w2 _ _ _ _
    | some b => exact run_firstCells_some w2 i.size 0 b 0 capx [] (by simp) (by simp)
  · obtain ⟨olds, q1, q2⟩ := z9b (g := g) hs1 hcap hh hcp hrep
    exact ⟨olds, q1, fun w2 hw => zvf (w := w) q1.1 (.inr ⟨b, 0, rfl, fun j v hj => by rw [Nat.zero_add]; exact q2 j v hj⟩) w2 hw⟩
 obtain ⟨olds, hfx, hsrc'⟩ := hslice
 by_cases hroom : els.length + ys.length ≤ capx
 · by_cases hm0 : ys = []
   · subst hm0
     obtain rfl : news = [] := List.length_eq_zero_iff.1 (by rw [hfy.1]; simp)
     simp only [List.append_nil, List.length_nil, Nat.add_zero]
     rw [ykx hA0]
     exact ⟨_, w, g, zxx ht hi hsrc hcap, ⟨_, _, els, rfl, hax, hA0, Zlr _, fun _ => hτ⟩, hm, .refl _ _ _, rfl⟩
   · have hpos' : 0 < ys.length := List.length_pos_iff.2 hm0
     rcases htail with htail | ⟨b, rfl, hτ', hO, hCn, vs, te, fz, hh, hu, hcp, hrep⟩
     · omega
     · obtain ⟨g', m1, m2, m3, m4⟩ := y2b (κ := κ) hm hA0 hτ' hO hCn hh hu hcp hrep hfy hs1 hs2 rfl rfl hroom
       have hfit : els.length * i.size + news.length ≤ vs.size := by
        have h1 := Nat.mul_le_mul_right i.size hroom
        rw [Nat.add_mul] at h1
        rw [hfy.1]
        omega
       refine ⟨_, _, g', ?_, ⟨_, _, els ++ ys, rfl, fun _ => ⟨b, rfl⟩, zzc _ _ _, by simp, fun _ => .inl m3⟩, m1, m2, m4⟩
       rw [zja ht hi hsrc hroom]
       simp only [zx0, Nat.zero_add]
       rw [zxi hh hu hfit hfy.2.1]
       rfl
 · obtain ⟨u', w', hr, hgr⟩ := z4t (ty := ty) ht hi hzz hzs hfx.1 hfy.1 hsrc' hsrc (by omega) hbnd h63
   obtain ⟨g', m1, m2, m3, m4⟩ := zwj (κ := κ) hm hgr (hfx.append hfy) hsz2 (by simp) (fun ar ha => by rw [hA0] at ha; cases ha; exact ⟨_, rfl, by omega⟩)
   exact ⟨u', w', g', hr, m3, m1, m2, m4⟩
theorem z7h (hm : MRel g H A w) {md : List Nat} {k d : Nat} {ats : List TypeId} {x y v : PV} {A' : AMap} {ux uy : Value} (hx : PRep g A x ux) (hy : PRep g A y uy) (ty : TypeId) (hne : ∀ κ sz n L, x ≠ .c (.tv κ sz n L))
 (h : appV P md k d A ats x y (fun v' A'' => v' = v ∧ A'' = A')) :
 ∃ t, ats = [t, t] ∧ ∃ u' w' g', (Builtin.append_ #[t, t] ty #[ux, uy]).run P w = .ok u' w' ∧ PRep g' A' v u' ∧ MRel g' H A' w' ∧ Evol g A w g' A' w' ∧ g'.β = g.β := by
 unfold appV at h
 split at h
 · rename_i t t'
   split at h
   · rename_i e ht
     obtain ⟨⟨rfl, hpos, hz, hbp⟩, h⟩ := h
     refine ⟨t, rfl, ?_⟩
     obtain ⟨zc, hzc⟩ := Option.isSome_iff_exists.1 hz
     obtain ⟨i, z, hi, hzz, hzs, hsz, _, _⟩ := zqy hzc
     have hby : P.bytesOf e = i.bytes := by simp [Program.bytesOf, hi]
     split at h
     · rename_i ys hys
       have hyd := zxj hy hys
       split at h
       · rename_i els
         obtain ⟨⟨hs1, hs2, hbnd, hA0⟩, h⟩ := h
         obtain ⟨hxd, hfull⟩ := hx
         obtain ⟨news, a', c', hfy, rfl, hsrc⟩ := zkl (P := P) hm hyd hs2
         obtain ⟨olds, a, cap, hfx, rfl, _, _⟩ := yxo hxd hs1
         obtain ⟨olds', a2, cap2, hfx', e2, hsrc'⟩ := zkl (P := P) hm hxd hs1
         cases e2
         simp only [z0b] at hfull
         subst hfull
         rw [← hsz] at hsrc hsrc' hs1 hs2 hfy hfx'
         rw [hby] at hbnd hbp
         have h63 : ((els.length + ys.length : Nat) : Int) ≤ 9223372036854775807 := by
          have : els.length + ys.length ≤ (els.length + ys.length) * i.bytes := Nat.le_mul_of_pos_right _ hbp
          omega
         have hgrow := fun (hg : els.length < els.length + ys.length) => z4t (ty := ty) ht hi hzz hzs hfx'.1 hfy.1 hsrc' hsrc hg hbnd h63
         have hsz2 : Szd i.size (els ++ ys) := fun x hx => by
          rcases List.mem_append.1 hx with hx | hx
          · exact hs1 x hx
          · exact hs2 x hx
         split at h
         · obtain ⟨rfl, rfl, rfl⟩ := h
           by_cases hm0 : ys = []
           · subst hm0
             obtain rfl : news = [] := List.length_eq_zero_iff.1 (by rw [hfy.1]; simp)
             obtain ⟨g', m1, m2, m3, m4, m5⟩ := z9o (κ := (k + d, 0)) (ar' := .mu (P.cellsOf e) []) (u := .slice a 0 0) hm (fun ar ha => by rw [hA0] at ha; cases ha) (fun g' hg' => ⟨by simp [Szd], a, 0, hg', Zlr _, .inl rfl⟩)
             refine ⟨_, w, g', zxx ht hi hsrc (Zlr _), ?_, m1, m2, m4⟩
             exact ⟨a, 0, [], rfl, by simp, zzc _ _ _, Zlr _, fun _ => .inl m3⟩
           · have hpos' : 0 < ys.length := List.length_pos_iff.2 hm0
             obtain ⟨u', w', hr, hgr⟩ := hgrow (by omega)
             obtain ⟨g', m1, m2, m3, m4⟩ := zwj (κ := (k + d, 0)) hm hgr (hfx'.append hfy) hsz2 (by simp) (fun ar ha => by rw [hA0] at ha; cases ha)
             rw [hsz] at m1 m2 m3
             refine ⟨u', w', g', hr, ?_, m1, m2, m4⟩
             simpa using m3
         · obtain ⟨rfl, rfl⟩ := h
           by_cases hm0 : ys = []
           · subst hm0
             obtain rfl : news = [] := List.length_eq_zero_iff.1 (by rw [hfy.1]; simp)
             obtain ⟨g', m1, m2, m3, m4, m5⟩ := z9o (κ := (k + d, 0)) (ar' := .co (P.cellsOf e) els.length) (u := .slice a els.length els.length) hm (fun ar ha => by rw [hA0] at ha; cases ha) (fun g' hg' => ⟨a, els.length, hg', Zlr _, .inl rfl⟩)
             simp only [List.append_nil]
             refine ⟨_, w, g', zxx ht hi hsrc (Zlr _), ?_, m1, m2, m4⟩
             exact ⟨hxd.mono m2.mono.C m2.mono.π, _, _, zzc _ _ _, Zlr _, fun _ => .inl m3⟩
           · have hpos' : 0 < ys.length := List.length_pos_iff.2 hm0
             obtain ⟨u', w', hr, hgr⟩ := hgrow (by omega)
             obtain ⟨g', m1, m2, m3, m4, m5⟩ := z80 (κ := (k + d, 0)) hm hgr (hfx'.append hfy) hsz2 (by simp) (fun ar ha => by rw [hA0] at ha; cases ha)
             rw [hsz] at m1 m2
             simp only [Zla]
             exact ⟨u', w', g', hr, ⟨m3, _, _, zzc _ _ _, by simp, fun _ => .inl m4⟩, m1, m2, m5⟩
       · rename_i κ els
         obtain ⟨⟨hs1, hs2, hbnd, hA0⟩, rfl, rfl⟩ := h
         obtain ⟨hxd, sz', n', hA1, hle, hτ⟩ := hx
         rw [hA0] at hA1
         cases hA1
         have hτ := hτ rfl
         obtain ⟨news, a', c', hfy, rfl, hsrc⟩ := zkl (P := P) hm hyd hs2
         obtain ⟨olds, a, cap, hfx, rfl, hcap, hwhere⟩ := yxo hxd hs1
         obtain ⟨olds', a2, cap2, hfx', e2, hsrc'⟩ := zkl (P := P) hm hxd hs1
         cases e2
         rw [← hsz] at hsrc hsrc' hs1 hs2 hfy hfx' hfx hA0
         rw [hby] at hbnd hbp
         have h63 : ((els.length + ys.length : Nat) : Int) ≤ 9223372036854775807 := by
          have : els.length + ys.length ≤ (els.length + ys.length) * i.bytes := Nat.le_mul_of_pos_right _ hbp
          omega
         have hsz2 : Szd i.size (els ++ ys) := fun x hx => by
          rcases List.mem_append.1 hx with hx | hx
          · exact hs1 x hx
          · exact hs2 x hx
         simp only [Zla, ← hsz]
         by_cases hroom : els.length + ys.length ≤ cap
         · by_cases hm0 : ys = []
           · subst hm0
             obtain rfl : news = [] := List.length_eq_zero_iff.1 (by rw [hfy.1]; simp)
             simp only [List.append_nil, List.length_nil, Nat.add_zero]
             rw [ykx hA0]
             exact ⟨_, w, g, zxx ht hi hsrc hcap, ⟨hxd, _, _, hA0, Zlr _, fun _ => hτ⟩, hm, .refl _ _ _, rfl⟩
           · have hpos' : 0 < ys.length := List.length_pos_iff.2 hm0
             have hτ := hτ.resolve_right (fun ⟨a, e⟩ => by injection e with _ e1 e2; omega)
             obtain ⟨a3, cap3, e3, _, htail⟩ := hm.tok κ _ hA0
             rw [hτ] at e3
             cases e3
             rcases htail with htail | ⟨b, rfl, hO, hCn, vs, te, fz, hh, hu, hcp⟩
             · omega
             · obtain ⟨g', m1, m2, m3, m4, m5⟩ := y72 (κ := κ) hm hA0 hτ hO hCn hh hu hcp hfx hfy hs1 hs2 rfl rfl (fun j v hj => by
                rcases hwhere with ⟨_, e⟩ | ⟨b', o', e, hc⟩
                · omega
                · cases e
                  have := hc j v hj
                  rwa [Nat.zero_add] at this) hroom
               have hfit : els.length * i.size + news.length ≤ vs.size := by
                have h1 := Nat.mul_le_mul_right i.size hroom
                rw [Nat.add_mul] at h1
                rw [hfy.1]
                omega
               refine ⟨_, _, g', ?_, ⟨m3, _, _, zzc _ _ _, by simp, fun _ => .inl m4⟩, m1, m2, m5⟩
               rw [zja ht hi hsrc hroom]
               simp only [zx0, Nat.zero_add]
               rw [zxi hh hu hfit hfy.2.1]
               rfl
         · obtain ⟨u', w', hr, hgr⟩ := z4t (ty := ty) ht hi hzz hzs hfx'.1 hfy.1 hsrc' hsrc (by omega) hbnd h63
           obtain ⟨g', m1, m2, m3, m4, m5⟩ := z80 (κ := κ) hm hgr (hfx'.append hfy) hsz2 (by simp) (fun ar ha => by rw [hA0] at ha; cases ha; exact ⟨_, rfl, by omega⟩)
           exact ⟨u', w', g', hr, ⟨m3, _, _, zzc _ _ _, by simp, fun _ => .inl m4⟩, m1, m2, m5⟩
       · rename_i κ sz n
         split at h
         · rename_i sz' els hA0
           obtain ⟨⟨e1, rfl, rfl, hs2, hbnd⟩, rfl, rfl⟩ := h
           obtain ⟨ax, capx, els', rfl, hax, hA1, hle, hτ⟩ := hx
           rw [hA0] at hA1
           cases hA1
           have hτ := hτ rfl
           obtain ⟨news, a', c', hfy, rfl, hsrc⟩ := zkl (P := P) hm hyd hs2
           have hs1 := (hm.tok κ _ hA0).1
           have e1' : sz' = i.size := by rw [e1, hsz]
           subst e1'
           rw [← hsz] at hsrc hs2 hfy
           rw [hby] at hbnd hbp
           exact z95 hm ht hi hzz hzs hA0 ⟨ax, capx, els, rfl, hax, hA0, hle, fun _ => hτ⟩ hfy hsrc hs2 hbnd hbp
         · exact h.elim
       · exact (hne _ _ _ _ rfl).elim
       · exact h.elim
     · exact h.elim
   · exact h.elim
 · exact h.elim
theorem xx3 {κ : Tok} {sz : Nat} {els : List (List D)} {v : Value} (hA : A κ = some (.mu sz els)) (h : CRep g A (.tv κ sz els.length els.length) v) : CRep g A (.mt κ sz els.length) v := by
 obtain ⟨a, cap, els', rfl, ha, hA', hl, ht⟩ := h
 rw [hA] at hA'
 cases hA'
 refine ⟨a, cap, els, rfl, ha, hA, Zlr _, fun _ => ?_⟩
 rcases ht rfl with h | ⟨_, a', h⟩
 · exact .inl h
 · exact .inr ⟨a', h⟩
theorem xxo (hm : MRel g H A w) {κ : Tok} {sz : Nat} {els : List (List D)} {v : Value} (hA : A κ = some (.mu sz els)) (h : CRep g A (.mt κ sz els.length) v) : CRep g A (.tv κ sz els.length els.length) v := by
 obtain ⟨a, cap, els', rfl, ha, hA', hl, ht⟩ := h
 rw [hA] at hA'
 cases hA'
 rcases ht rfl with h | ⟨a', h⟩
 · obtain ⟨_, a3, cap3, e3, hcap, _⟩ := hm.tok κ _ hA
   rw [h] at e3
   cases e3
   exact ⟨a, cap, els, rfl, ha, hA, ⟨Zlr _, Zlr _, hcap⟩, fun _ => .inl h⟩
 · injection h with x1 x2 x3
   exact ⟨a, cap, els, rfl, ha, hA, ⟨Zlr _, Zlr _, by omega⟩, fun _ => .inr ⟨x2, a, by rw [x2, x3]⟩⟩
theorem yw4 (hm : MRel g H A w) {md : List Nat} {k d : Nat} {ats : List TypeId} {κ : Tok} {sz n L : Nat} {y v : PV} {A' : AMap} {ux uy : Value} (hx : PRep g A (.c (.tv κ sz n L)) ux) (hy : PRep g A y uy) (ty : TypeId)
 (h : appV P md k d A ats (.c (.tv κ sz n L)) y (fun v' A'' => v' = v ∧ A'' = A')) :
 ∃ t, ats = [t, t] ∧ ∃ u' w' g', (Builtin.append_ #[t, t] ty #[ux, uy]).run P w = .ok u' w' ∧ PRep g' A' v u' ∧ MRel g' H A' w' ∧ Evol g A w g' A' w' ∧ g'.β = g.β := by
 unfold appV at h
 split at h
 · rename_i t t'
   split at h
   · rename_i e ht
     obtain ⟨⟨rfl, hpos, hz, hbp⟩, h⟩ := h
     split at h
     · rename_i ys hys
       simp only at h
       unfold appT at h
       split at h
       · rename_i sz' els hA0
         obtain ⟨⟨e1, rfl, rfl, hnL, hs2, hbnd⟩, h⟩ := h
         split at h
         · rename_i hdn
           obtain rfl : n = els.length := of_decide_eq_true hdn
           obtain ⟨rfl, rfl⟩ := h
           obtain ⟨t', e', u', w', g', hr, hp, hm', hev, hb⟩ := z7h (P := P) (md := md) (k := k) (d := d) (ats := [t, t]) (v := .c (.mt κ sz' (els ++ ys).length)) (A' := upd A κ (some (.mu sz' (els ++ ys)))) hm (x := .c (.mt κ sz' els.length)) (xx3 hA0 hx) hy ty (fun _ _ _ _ e => by cases e)
            (by
              unfold appV
              simp only [ht, hys, hA0]
              exact ⟨⟨trivial, hpos, hz, hbp⟩, ⟨e1, trivial, trivial, hs2, hbnd⟩, trivial, trivial⟩)
           cases e'
           exact ⟨t, rfl, u', w', g', hr, xxo hm' (zzc _ _ _) hp, hm', hev, hb⟩
         · rename_i hdn
           have hne : n ≠ els.length := of_decide_eq_false hdn
           split at h
           · rename_i y1
             obtain ⟨rfl, rfl⟩ := h
             obtain ⟨zc, hzc⟩ := Option.isSome_iff_exists.1 hz
             obtain ⟨i, z, hi, hzz, hzs, hsz, _, _⟩ := zqy hzc
             have hyd := zxj hy hys
             obtain ⟨news, a', c', hfy, rfl, hsrc⟩ := zkl (P := P) hm hyd hs2
             have hs1 := (hm.tok κ _ hA0).1
             obtain ⟨ax, capx, els', rfl, hax, hA1, ⟨q1, q2, q3⟩, hτ⟩ := hx
             rw [hA0] at hA1
             cases hA1
             have hτ := (hτ rfl).resolve_right (fun ⟨e0, _⟩ => by omega)
             obtain ⟨_, a3, cap3, e3, hcap, htail⟩ := hm.tok κ _ hA0
             rw [hτ] at e3
             cases e3
             rcases htail with htail | ⟨b, rfl, hO, hCn, vs, te, fz, hh, hu, hcp, hrep⟩
             · omega
             · have e1' : sz' = i.size := by rw [e1, hsz]
               subst e1'
               rw [← hsz] at hsrc hs2 hfy
               obtain ⟨m1, m2⟩ := y74 (κ := κ) (n := n) hm hA0 hτ hO hCn hh hu hcp hcap hrep hfy hs1 hs2 (by omega)
               have hroom : n + [y1].length ≤ capx := by show n + 1 ≤ capx; omega
               have hfit : n * i.size + news.length ≤ vs.size := by
                have h1 := Nat.mul_le_mul_right i.size hroom
                rw [Nat.add_mul] at h1
                rw [hfy.1]
                omega
               refine ⟨t, rfl, _, _, g, ?_, ⟨some ⟨b, 0, none⟩, capx, els.set n y1, rfl, fun _ => ⟨b, rfl⟩, zzc _ _ _, ⟨by omega, by rw [List.length_set]; exact Zlr _, by show n + 1 ≤ capx; omega⟩, fun _ => .inl hτ⟩, m1, m2, rfl⟩
               rw [zja ht hi hsrc hroom]
               simp only [zx0, Nat.zero_add]
               rw [zxi hh hu hfit hfy.2.1]
               rfl
           · exact h.elim
       · exact h.elim
     · exact h.elim
   · exact h.elim
 · exact h.elim
theorem yw3 (hm : MRel g H A w) {md : List Nat} {k d : Nat} {ats : List TypeId} {x y v : PV} {A' : AMap} {ux uy : Value} (hx : PRep g A x ux) (hy : PRep g A y uy) (ty : TypeId)
 (h : appV P md k d A ats x y (fun v' A'' => v' = v ∧ A'' = A')) :
 ∃ t, ats = [t, t] ∧ ∃ u' w' g', (Builtin.append_ #[t, t] ty #[ux, uy]).run P w = .ok u' w' ∧ PRep g' A' v u' ∧ MRel g' H A' w' ∧ Evol g A w g' A' w' ∧ g'.β = g.β := by
 by_cases ht : ∃ κ sz n L, x = .c (.tv κ sz n L)
 · obtain ⟨κ, sz, n, L, rfl⟩ := ht
   exact yw4 hm hx hy ty h
 · exact z7h hm hx hy ty (fun κ sz n L e => ht ⟨κ, sz, n, L, e⟩) h
end Go.PW
