/-
  Parts of the proof, laid together: PwJd, PwK.
-/
import Derived.Test.YtemecklglapleaaGreatQ10

namespace Go.PW
variable {P : Program} {g : Gh} {H : HMap} {A : AMap} {w : World}
theorem y45 {u : TypeId} (h : strT P u = true) : P.underlying u = some .string := by
 unfold strT at h
 split at h
 · assumption
 · cases h
def zj8 (s : ByteArray) : List Value := s.data.toList.map fun b => Value.int .u8 b.toNat
theorem z8b (s : ByteArray) (sz : Nat) (w2 : World) : (Builtin.firstCells sz s.size (.string s)).run P w2 = .ok (zj8 s).toArray w2 := by
 have : s.extract 0 s.size = s := by
  apply ByteArray.ext
  simp
 simp only [Builtin.firstCells, this, zj8, Sem.run_pure]
 congr 1
 apply Array.ext'
 simp
theorem yjh (s : ByteArray) : (zj8 s).length = s.size := by simp [zj8]
theorem z99 (s : ByteArray) : (zzg s.data.toList).length = s.size := by simp [zzg]
theorem y2m (s : ByteArray) : Flat g.C g.π 1 (zzg s.data.toList) (zj8 s) := by
 refine ⟨by simp [zj8, zzg], fun v hv => ?_, fun i k e x he hx => ?_⟩
 · obtain ⟨b, _, rfl⟩ := List.mem_map.1 hv
   rfl
 · unfold zzg at he
   rw [List.getElem?_map] at he
   cases hb : s.data.toList[i]? with
   | none => rw [hb] at he; cases he
   | some b =>
     rw [hb] at he
     cases he
     match k, hx with
     | 0, hx =>
       cases hx
       refine ⟨.int .u8 b.toNat, ?_, .lit _ rfl⟩
       unfold zj8
       rw [Nat.mul_one, Nat.add_zero, List.getElem?_map, hb]; rfl
     | k + 1, hx => simp at hx
theorem yxf (l : List UInt8) : Szd 1 (zzg l) := fun x hx => by
 obtain ⟨b, _, rfl⟩ := List.mem_map.1 hx
 rfl
section
variable {t u e ty : TypeId} {i : TypeInfo} {z : Value} {a : Option Addr} {n cap : Nat} {s : ByteArray}
theorem z6h (ht : P.underlying t = some (.slice e)) (hu : P.underlying u = some .string) (hi : P.info? e = some i) (hroom : n + s.size ≤ cap) :
 (Builtin.append_ #[t, u] ty #[.slice a n cap, .string s]).run P w = (match a with
   | some b => ((storeCells (b.add (n * i.size)) (zj8 s)).run P w).andThen fun _ w' => .ok (.slice a (n + s.size) cap) w'
   | none => .ok (.slice none (n + s.size) cap) w) := by
 have h1 := z8b (P := P) s i.size w
 cases a with
 | none => simp [Builtin.append_, run_underlying ht, run_underlying hu, sizeOf, typeInfo, hi, Builtin.lenOf, hroom, h1]
 | some b => simp [Builtin.append_, run_underlying ht, run_underlying hu, sizeOf, typeInfo, hi, Builtin.lenOf, hroom, h1]
theorem yqu (ht : P.underlying t = some (.slice e)) (hu : P.underlying u = some .string) (hi : P.info? e = some i) (hz : i.zero = some z) {olds : List Value}
 (hfo : ∀ w2 : World, w2.heap = w.heap → (Builtin.firstCells i.size n (.slice a n cap)).run P w2 = .ok olds.toArray w2)
 (hg : cap < n + s.size) (h63 : ((n + s.size : Nat) : Int) ≤ 9223372036854775807) (hfit : Builtin.nextslicecap (n + s.size) cap * i.bytes ≤ 281474976710656) :
 (Builtin.append_ #[t, u] ty #[.slice a n cap, .string s]).run P w =
   .ok (.slice (some ⟨w.heap.size, 0, none⟩) (n + s.size) (grownCap w (n + s.size) cap e))
    (w.drew.alloc (.cells (olds.toArray ++ (zj8 s).toArray ++ Builtin.zeroCells z.cells (grownCap w (n + s.size) cap e - (n + s.size))) e)) := by
 have hn : ¬ (n + s.size ≤ cap) := by omega
 have h63' : ¬ (9223372036854775807 < ((n : Int) + (s.size : Int))) := by omega
 have h48' : ¬ (281474976710656 < Builtin.nextslicecap (n + s.size) cap * i.bytes) := by omega
 have h1 := z8b (P := P) s i.size w.drew
 have h2 := hfo w.drew rfl
 simp [Builtin.append_, run_underlying ht, run_underlying hu, sizeOf, typeInfo, zeroValue, hi, hz, Builtin.lenOf, hn, h63', h48', Question.forced, h1, h2, newRow, grownCap]
 congr 2
 apply Array.ext'
 simp
theorem y03 (ht : P.underlying t = some (.slice e)) (hu : P.underlying u = some .string) (hi : P.info? e = some i) (hz : i.zero = some z) (hzs : z.cells.size = i.size) (h1 : i.size = 1) {olds : List Value} (hlo : olds.length = n * i.size)
 (hfo : ∀ w2 : World, w2.heap = w.heap → (Builtin.firstCells i.size n (.slice a n cap)).run P w2 = .ok olds.toArray w2)
 (hg : cap < n + s.size) (hb : (n + s.size) * i.bytes ≤ 140737488355328) (h63 : ((n + s.size : Nat) : Int) ≤ 9223372036854775807) :
 ∃ u' w', (Builtin.append_ #[t, u] ty #[.slice a n cap, .string s]).run P w = .ok u' w' ∧ Grown w w' i.size (n + s.size) (olds ++ zj8 s) u' := by
 have hln : (zj8 s).length = s.size * i.size := by rw [yjh, h1, Nat.mul_one]
 refine ⟨_, _, yqu ht hu hi hz hfo hg h63 (growslice_fits hg hb), ⟨_, _, e, (0, 0), rfl, grownCap_ge w (n + s.size) cap e, heap_alloc_new w.drew _, fun o _ => by simp, ?_, ?_, ?_⟩, fun b hb => heap_alloc_old w.drew _ b hb, by simp, rfl, rfl, rfl⟩
 · have hge := grownCap_ge w (n + s.size) cap e
   generalize grownCap w (n + s.size) cap e = c at hge
   simp only [Array.size_append, List.size_toArray, size_zeroCells, hzs, hlo, hln, ← Nat.add_mul]
   exact Nat.mul_le_mul_right _ (by omega)
 · intro j hj
   rw [Nat.add_mul] at hj
   rw [Array.getElem?_append, if_pos (by simp [hlo, hln]; omega)]
   simp
 · simp [hlo, hln, Nat.add_mul]
end
theorem yw2 (hm : MRel g H A w) {t u e ty : TypeId} {i : TypeInfo} {z : Value} (ht : P.underlying t = some (.slice e)) (hu' : P.underlying u = some .string) (hi : P.info? e = some i) (hzz : i.zero = some z) (hzs : z.cells.size = i.size) (h1' : i.size = 1) {κ : Tok} {els : List (List D)} {s : ByteArray} {ux : Value}
 (hA0 : A κ = some (.mu i.size els)) (hx : PRep g A (.c (.mt κ i.size els.length)) ux) (hbnd : (els.length + (zzg s.data.toList).length) * i.bytes ≤ 140737488355328) (hbp : 0 < i.bytes) :
 ∃ u' w' g', (Builtin.append_ #[t, u] ty #[ux, .string s]).run P w = .ok u' w' ∧ PRep g' (upd A κ (some (.mu i.size (els ++ zzg s.data.toList)))) (.c (.mt κ i.size (els ++ zzg s.data.toList).length)) u' ∧
   MRel g' H (upd A κ (some (.mu i.size (els ++ zzg s.data.toList)))) w' ∧ Evol g A w g' (upd A κ (some (.mu i.size (els ++ zzg s.data.toList)))) w' ∧ g'.β = g.β := by
 have hfy : Flat g.C g.π i.size (zzg s.data.toList) (zj8 s) := by rw [h1']; exact y2m s
 have hs2 : Szd i.size (zzg s.data.toList) := by rw [h1']; exact yxf _
 have hyl : (zzg s.data.toList).length = s.size := z99 s
 generalize hys : zzg s.data.toList = ys at *
 generalize hnews : zj8 s = news at *
 obtain ⟨ax, capx, els', rfl, hax, hA1, hle, hτ⟩ := hx
 rw [hA0] at hA1
 cases hA1
 have hτ := hτ rfl
 have hs1 := (hm.tok κ _ hA0).1
 have htl : els.length ≤ capx ∧ (capx = 0 ∨ ∃ b, ax = some ⟨b, 0, none⟩ ∧ g.τ κ = .slice ax els.length capx ∧ g.O b = some (.tok κ) ∧ (∀ j, g.C b j = none) ∧ ∃ vs e fz, w.heap[b]? = some (.cells vs e fz) ∧ Unfz vs.size fz ∧ capx * i.size ≤ vs.size ∧
  ∀ j k e' x, els[j]? = some e' → e'[k]? = some x → ∃ u, vs[j * i.size + k]? = some u ∧ DRep g.C g.π x u) := by
  rcases hτ with hτ | ⟨a0, e0⟩
  · obtain ⟨_, a3, cap3, e3, hcap, htail⟩ := hm.tok κ _ hA0
    rw [hτ] at e3
    cases e3
    exact ⟨hcap, htail.imp id fun ⟨b, h1, h2⟩ => ⟨b, h1, hτ, h2⟩⟩
  · injection e0 with _ e1 e2
    exact ⟨by omega, .inl e2⟩
 obtain ⟨hcap, htail⟩ := htl
 have h63 : ((els.length + ys.length : Nat) : Int) ≤ 9223372036854775807 := by
  have : els.length + ys.length ≤ (els.length + ys.length) * i.bytes := Nat.le_mul_of_pos_right _ hbp
  omega
 have hsz2 : Szd i.size (els ++ ys) := fun x hx => by
  rcases List.mem_append.1 hx with hx | hx
  · exact hs1 x hx
  · exact hs2 x hx
 simp only [Zla]
 have hslice : ∃ olds : List Value, Flat g.C g.π i.size els olds ∧ ∀ w2 : World, w2.heap = w.heap → (Builtin.firstCells i.size els.length (.slice ax els.length capx)).run P w2 = .ok olds.toArray w2 := by
  rcases htail with h0 | ⟨b, rfl, _, hO, hCn, vs, te, fz, hh, hu, hcp, hrep⟩
  · obtain rfl : els = [] := List.length_eq_zero_iff.1 (by omega)
    refine ⟨[], ⟨by simp, by simp, by simp⟩, fun w2 _ => ?_⟩
    cases ax with
    | none => exact run_firstCells_none w2 _ _ _ _
    | some b => exact run_firstCells_some w2 i.size 0 b 0 capx [] (by simp) (by simp)
  · obtain ⟨olds, q1, q2⟩ := z9b (g := g) hs1 hcap hh hcp hrep
    exact ⟨olds, q1, fun w2 hw => zvf (w := w) q1.1 (.inr ⟨b, 0, rfl, fun j v hj => by rw [Nat.zero_add]; exact q2 j v hj⟩) w2 hw⟩
 obtain ⟨olds, hfx, hsrc'⟩ := hslice
 by_cases hroom : els.length + ys.length ≤ capx
 · by_cases hm0 : ys = []
   · subst hm0
     obtain rfl : news = [] := List.length_eq_zero_iff.1 (by rw [hfy.1]; simp)
     simp only [List.append_nil, List.length_nil, Nat.add_zero]
     rw [ykx hA0]
     have h0 : s.size = 0 := hyl.symm
     exact ⟨_, w, g, by rw [z6h ht hu' hi (by omega), h0, hnews]; cases ax <;> rfl, ⟨_, _, els, rfl, hax, hA0, Zlr _, fun _ => hτ⟩, hm, .refl _ _ _, rfl⟩
   · have hpos' : 0 < ys.length := List.length_pos_iff.2 hm0
     rcases htail with htail | ⟨b, rfl, hτ', hO, hCn, vs, te, fz, hh, hu, hcp, hrep⟩
     · omega
     · obtain ⟨g', m1, m2, m3, m4⟩ := y2b (κ := κ) hm hA0 hτ' hO hCn hh hu hcp hrep hfy hs1 hs2 rfl rfl hroom
       have hfit : els.length * i.size + news.length ≤ vs.size := by
        have h1 := Nat.mul_le_mul_right i.size hroom
        rw [Nat.add_mul] at h1
        rw [hfy.1]
        omega
       refine ⟨_, _, g', ?_, ⟨_, _, els ++ ys, rfl, fun _ => ⟨b, rfl⟩, zzc _ _ _, by simp, fun _ => .inl m3⟩, m1, m2, m4⟩
       rw [z6h ht hu' hi (by omega), hnews, ← hyl]
       simp only [zx0, Nat.zero_add]
       rw [zxi hh hu hfit hfy.2.1]
       rfl
 · obtain ⟨u', w', hr, hgr⟩ := y03 (ty := ty) (s := s) ht hu' hi hzz hzs h1' hfx.1 hsrc' (by omega) (by rw [← hyl]; exact hbnd) (by rw [← hyl]; exact h63)
   rw [hnews, ← hyl] at hgr
   obtain ⟨g', m1, m2, m3, m4⟩ := zwj (κ := κ) hm hgr (hfx.append hfy) hsz2 (by simp) (fun ar ha => by rw [hA0] at ha; cases ha; exact ⟨_, rfl, by omega⟩)
   exact ⟨u', w', g', hr, m3, m1, m2, m4⟩
theorem y6p (hm : MRel g H A w) {ats : List TypeId} {x y v : PV} {s : ByteArray} {A' : AMap} {ux uy : Value} (hx : PRep g A x ux) (hy : PRep g A y uy) (hs : strOf? y = some s) (ty : TypeId)
 (h : apsV P A ats x s (fun v' A'' => v' = v ∧ A'' = A')) :
 ∃ t u, ats = [t, u] ∧ ∃ u' w' g', (Builtin.append_ #[t, u] ty #[ux, uy]).run P w = .ok u' w' ∧ PRep g' A' v u' ∧ MRel g' H A' w' ∧ Evol g A w g' A' w' ∧ g'.β = g.β := by
 have huy : uy = .string s := by
  unfold strOf? at hs
  split at hs
  · cases hs
    exact DRep.lit_eq hy
  · cases hs
 subst huy
 unfold apsV at h
 split at h
 · rename_i t u
   split at h
   · rename_i e ht
     obtain ⟨⟨hu, hc, hz, hbp⟩, h⟩ := h
     obtain ⟨zc, hzc⟩ := Option.isSome_iff_exists.1 hz
     obtain ⟨i, z, hi, hzz, hzs, hsz, _, _⟩ := zqy hzc
     have hby : P.bytesOf e = i.bytes := by simp [Program.bytesOf, hi]
     have h1 : i.size = 1 := by rw [hsz, hc]
     split at h
     · rename_i κ sz n
       split at h
       · rename_i sz' els hA0
         obtain ⟨⟨rfl, rfl, rfl, hbnd⟩, rfl, rfl⟩ := h
         rw [hby] at hbnd hbp
         obtain ⟨u', w', g', r1, r2, r3, r4, r5⟩ := yw2 (ty := ty) (s := s) hm ht (y45 hu) hi hzz hzs h1 (els := els) (by rw [h1]; exact hA0) (by rw [h1]; exact hx) hbnd hbp
         rw [h1] at r2 r3 r4
         exact ⟨t, u, rfl, u', w', g', r1, r2, r3, r4, r5⟩
       · exact h.elim
     · exact h.elim
   · exact h.elim
 · exact h.elim
theorem y6n (hm : MRel g H A w) {md : List Nat} {k d : Nat} {ats : List TypeId} {x y v : PV} {A' : AMap} {ux uy : Value} (hx : PRep g A x ux) (hy : PRep g A y uy) (ty : TypeId)
 (h : appW P md k d A ats x y (fun v' A'' => v' = v ∧ A'' = A')) :
 ∃ t u, ats = [t, u] ∧ ∃ u' w' g', (Builtin.append_ #[t, u] ty #[ux, uy]).run P w = .ok u' w' ∧ PRep g' A' v u' ∧ MRel g' H A' w' ∧ Evol g A w g' A' w' ∧ g'.β = g.β := by
 unfold appW at h
 split at h
 · rename_i s hs
   exact y6p hm hx hy hs ty h
 · obtain ⟨t, ht, r⟩ := yw3 hm hx hy ty h
   exact ⟨t, t, ht, r⟩
theorem y73 (hm : MRel g H A w) {κ : Tok} {sz b cap : Nat} {els ys : List (List D)} {news : List Value} {vs : Array Value} {e : TypeId} {fz : Nat × Nat}
 (hA : A κ = some (.mu sz els)) (hτ : g.τ κ = .slice (some ⟨b, 0, none⟩) els.length cap) (hO : g.O b = some (.tok κ)) (hCn : ∀ j, g.C b j = none) (hh : w.heap[b]? = some (.cells vs e fz)) (hu : Unfz vs.size fz) (hcp : cap * sz ≤ vs.size) (hcl : els.length ≤ cap)
 (hrep : ∀ i k e' x, els[i]? = some e' → e'[k]? = some x → ∃ u, vs[i * sz + k]? = some u ∧ DRep g.C g.π x u)
 (hfy : Flat g.C g.π sz ys news) (hs : Szd sz els) (hsy : Szd sz ys) (hn : ys.length ≤ els.length) :
 MRel g H (upd A κ (some (.mu sz (ys ++ els.drop ys.length)))) (w.setCells b 0 news) ∧ Evol g A w g (upd A κ (some (.mu sz (ys ++ els.drop ys.length)))) (w.setCells b 0 news) := by
 have hnl : news.length = ys.length * sz := hfy.1
 have hsz1 : ys.length * sz ≤ cap * sz := Nat.mul_le_mul_right _ (by omega)
 have hfit : 0 + news.length ≤ vs.size := by omega
 have hfit' : 0 + news.length ≤ vs.toList.length := by simpa using hfit
 have hll : (ys ++ els.drop ys.length).length = els.length := by simp; omega
 obtain ⟨s1, s2, s3, s4, s5, s6⟩ := zqw b news 0 w vs e fz hh hfit
 have hTR : zqa g (w.setCells b 0 news) κ (.mu sz (ys ++ els.drop ys.length)) := by
  refine ⟨fun x hx => ?_, some ⟨b, 0, none⟩, cap, by rw [hll]; exact hτ, by rw [hll]; exact hcl, .inr ⟨b, rfl, hO, hCn, _, e, fz, s1, ?_, ?_, ?_⟩⟩
  · rcases List.mem_append.1 hx with hx | hx
    · exact hsy x hx
    · exact hs x (List.mem_of_mem_drop hx)
  · simpa [zz6 hfit'] using hu
  · simpa [zz6 hfit'] using hcp
  · intro i k e' x he hx
    rw [List.getElem?_toArray, getElem?_splice hfit']
    rw [List.getElem?_append] at he
    split at he
    · rename_i hi
      obtain ⟨v, hv, hd⟩ := hfy.2.2 i k e' x he hx
      have hvl := (List.getElem?_eq_some_iff.1 hv).1
      rw [if_neg (by omega), if_pos (by omega)]
      exact ⟨v, by rw [Nat.sub_zero]; exact hv, hd⟩
    · rename_i hi
      rw [List.getElem?_drop, show ys.length + (i - ys.length) = i by omega] at he
      have h0 := hrep i k e' x he hx
      have := Nat.mul_le_mul_right sz (show ys.length ≤ i by omega)
      rw [if_neg (by omega), if_neg (by omega)]
      simpa using h0
 exact tokstep (g' := g) (κ := κ) (ar' := .mu sz (ys ++ els.drop ys.length)) (w' := w.setCells b 0 news) hm rfl (fun _ _ => rfl) (fun _ _ _ h => h)
  (fun _ _ _ _ => rfl) (fun _ _ => rfl) (fun b' o ho => by rw [s3]; exact hm.own b' o ho)
  (fun b' _ hb => s2 b' (fun e => by subst e; exact hb hO))
  (fun b' o v hc => by
    have hne : b' ≠ b := fun e => by subst e; rw [hCn] at hc; cases hc
    rw [World.cell?_of_block (w := w) (s2 b' hne)]
    exact hm.com b' o v hc)
  (fun ar ha => by
    rw [hA] at ha
    cases ha
    exact ⟨rfl, .inl ⟨by rw [hll], rfl⟩⟩) hTR (by rw [s3]; exact Zlr _) s4 s5 s6
theorem y60 (hm : MRel g H A w) {ats : List TypeId} {x y v : PV} {A' : AMap} {ux uy : Value} (hx : PRep g A x ux) (hy : PRep g A y uy) (ty : TypeId)
 (h : cpyV P A ats x y (fun v' A'' => v' = v ∧ A'' = A')) :
 ∃ u' w' g', (Builtin.copy_ ats.toArray ty #[ux, uy]).run P w = .ok u' w' ∧ PRep g' A' v u' ∧ MRel g' H A' w' ∧ Evol g A w g' A' w' ∧ g'.β = g.β := by
 unfold cpyV at h
 split at h
 · rename_i t ts
   split at h
   · rename_i e ht
     split at h
     · rename_i κ sz n
       split at h
       · rename_i sz' els hA0
         split at h
         · rename_i ys hys
           obtain ⟨⟨e1, rfl, rfl, hs2, hle, hpos⟩, rfl, rfl⟩ := h
           obtain ⟨i, hi⟩ : ∃ i, P.info? e = some i := by
            cases hi : P.info? e with
            | none => simp [Program.cellsOf, hi] at hpos
            | some i => exact ⟨i, rfl⟩
           have hsz : i.size = P.cellsOf e := by simp [Program.cellsOf, hi]
           have hyd := zxj hy hys
           obtain ⟨news, a', c', hfy, rfl, hsrc⟩ := zkl (P := P) hm hyd hs2
           obtain ⟨ax, capx, els', rfl, hax, hA1, hle', hτ⟩ := hx
           rw [hA0] at hA1
           cases hA1
           have hτ := hτ rfl
           have hs1 := (hm.tok κ _ hA0).1
           have e1' : sz' = i.size := by rw [e1, hsz]
           subst e1'
           have h1 := hsrc w rfl
           have hmin : Nat.min ys.length els.length = ys.length := Nat.min_eq_left hle
           by_cases hm0 : ys = []
           · subst hm0
             obtain rfl : news = [] := List.length_eq_zero_iff.1 (by rw [hfy.1]; simp)
             simp only [List.nil_append, List.length_nil, List.drop_zero]
             rw [ykx hA0]
             refine ⟨.int .i64 0, w, g, ?_, .lit _ rfl, hm, .refl _ _ _, rfl⟩
             cases ax with
             | none => simp [Builtin.copy_, run_underlying ht, sizeOf, typeInfo, hi, Builtin.lenOf, goInt] at h1 ⊢; simp [h1]
             | some b => simp [Builtin.copy_, run_underlying ht, sizeOf, typeInfo, hi, Builtin.lenOf, goInt] at h1 ⊢; simp [h1]; rfl
           · have hpos' : 0 < ys.length := List.length_pos_iff.2 hm0
             have hτ := hτ.resolve_right (fun ⟨a0, e0⟩ => by injection e0 with _ e1 e2; omega)
             obtain ⟨_, a3, cap3, e3, hcap, htail⟩ := hm.tok κ _ hA0
             rw [hτ] at e3
             cases e3
             rcases htail with htail | ⟨b, rfl, hO, hCn, vs, te, fz, hh, hu, hcp, hrep⟩
             · omega
             · obtain ⟨m1, m2⟩ := y73 (κ := κ) hm hA0 hτ hO hCn hh hu hcp hcap hrep hfy hs1 hs2 hle
               have hfit : 0 + news.length ≤ vs.size := by
                have h2 := Nat.mul_le_mul_right i.size (show ys.length ≤ capx by omega)
                rw [hfy.1]
                omega
               refine ⟨.int .i64 ys.length, _, g, ?_, .lit _ rfl, m1, m2, rfl⟩
               have hst := zxi (P := P) hh hu hfit hfy.2.1
               simp [Builtin.copy_, run_underlying ht, sizeOf, typeInfo, hi, Builtin.lenOf, goInt, hmin, h1, hst]
         · exact h.elim
       · exact h.elim
     · exact h.elim
   · exact h.elim
 · exact h.elim
theorem y7o (hm : MRel g H A w) {κ : Tok} (hA : A κ = none) {T : TypeId} {l c : PV} {ul uc : Value} (hl : PRep g A l ul) (hc : PRep g A c uc) {els : List (List D)} (h : elsM P T l c = some els) :
 ∃ u w' g', (Instr.makeSlice T ul uc).run P w = .ok u w' ∧ PRep g' (upd A κ (some (.mu (szOf P T) els))) (.c (.mt κ (szOf P T) els.length)) u ∧ MRel g' H (upd A κ (some (.mu (szOf P T) els))) w' ∧ Evol g A w g' (upd A κ (some (.mu (szOf P T) els))) w' ∧ g'.β = g.β := by
 unfold elsM at h
 split at h
 · rename_i h0
   cases h
   unfold mks0 at h0
   split at h0
   · rename_i e hu
     have hszT : szOf P T = P.cellsOf e := by unfold szOf; rw [hu]
     rw [hszT]
     split at h0
     · rename_i hn
       split at h0
       · rename_i n hn'
         simp only [Bool.and_eq_true, decide_eq_true_eq] at h0
         obtain ⟨hz, hsmall, hpos, hnp, hby⟩ := h0
         obtain ⟨z, hz⟩ := Option.isSome_iff_exists.1 hz
         obtain ⟨kl, rfl⟩ := zxo hl hn
         obtain ⟨kc, rfl⟩ := zxo hc hn'
         obtain ⟨i, zv, hi, hzv, h1, h2, rfl, h3⟩ := zqy hz
         have hbyi : P.bytesOf e = i.bytes := by simp [Program.bytesOf, hi]
         have hsm : n ≤ 16777216 := Nat.le_trans (Nat.le_mul_of_pos_right n hpos) hsmall
         have hrun := run_makeSlice (P := P) w T e i zv hu hi hzv kl kc ((0 : Nat) : Int) (n : Int) (by omega) (by omega) (by rw [h2]; simpa using hsmall) (by
          rw [hbyi] at hby
          have : (i.bytes : Int) * (n : Int) = ((n * i.bytes : Nat) : Int) := by rw [Nat.mul_comm]; simp
          rw [this]; omega) (by omega)
         simp only [Int.toNat_natCast] at hrun
         have hvl : (madeCells zv.cells (n * i.size)).size = n * P.cellsOf e := by rw [zkk]; simp [h2]
         have hgr : Grown w (w.alloc (.cells (madeCells zv.cells (n * i.size)) e)) (P.cellsOf e) 0 [] (.slice (some ⟨w.heap.size, 0, none⟩) 0 n) := by
          refine ⟨⟨n, _, e, (0, 0), rfl, Nat.zero_le _, heap_alloc_new w _, fun o _ => by simp, by rw [hvl]; exact Zlr _, fun j hj => by rw [Nat.zero_mul] at hj; omega, by simp⟩, fun b hb => heap_alloc_old w _ b hb, by simp, rfl, rfl, rfl⟩
         obtain ⟨g', m1, m2, m3, m4⟩ := zwj (κ := κ) (els := []) hm hgr ⟨by simp, by simp, by simp⟩ (fun x hx => by cases hx) rfl (fun ar ha => by rw [hA] at ha; cases ha)
         exact ⟨_, _, g', hrun, m3, m1, m2, m4⟩
       · cases h0
     · cases h0
   · cases h0
 · exact y7p hm hA hl hc h
end Go.PW
namespace Go.PW
variable {P : Program} {g : Gh} {H : HMap} {A : AMap} {w : World}
def z14 (P : Program) (f : FuncId) (args : Array Value) (w : World) (R : Value → World → Prop) : Prop :=
 ((callFunc f args).run P w = .ok (.enter f args) w ∧ Calls P f args w (fun e w' => ∃ v, e = .returned v ∧ R v w')) ∨ ∃ v w', (callFunc f args).run P w = .ok (.value v) w' ∧ R v w'
def zjm (g : Gh) (A : AMap) (xs : List PV) (vs : List Value) : Prop := vs.length = xs.length ∧ ∀ (k : Nat) (x : PV), xs[k]? = some x → ∃ v, vs[k]? = some v ∧ PRep g A x v
def noH : HMap := fun _ => none
def noA : AMap := fun _ => none
def noπ : Nat → Option Value := fun _ => none
def zko (C : Nat → Nat → Option Value) (π : Nat → Option Value) : Gh := ⟨C, fun _ => none, fun _ => undef, fun _ => none, π⟩
def RV.am (r : RV) : AMap := RT.install 0 noA 0 r.list
def CV.closed : CV → Bool
 | .any | .skip | .d _ | .full _ | .eptr _ _ => true
 | .fn _ caps => caps.isEmpty
 | _ => false
def PV.closed : PV → Bool
 | .c x => x.closed
 | .agg cs => cs.all CV.closed
 | .tup _ => false
def zzr (P : Program) (f : FuncId) (args : List PV) (r : RV) : Prop :=
 args.all PV.closed = true ∧ ∀ (C : Nat → Nat → Option Value) (π : Nat → Option Value) (w : World) (vals : Array Value), (∀ b o v, C b o = some v → w.cell? ⟨b, o, none⟩ = some v) → zjm (zko C π) noA args vals.toList →
  z14 P f vals w fun v w' => ∃ g', PRep g' r.am (r.pv 0) v ∧ MRel g' noH r.am w' ∧ Evol (zko C π) noA w g' r.am w'
def zqf (P : Program) (f : FuncId) (off : Nat) (H : HMap) (A : AMap) (args : List PV) (v : PV) (H' : HMap) (A' : AMap) : Prop :=
 ∀ (g : Gh) (w : World) (vals : Array Value), MRel g H A w → zjk g H → Above off H A → zjm g A args vals.toList →
   z14 P f vals w fun u w' => ∃ g', PRep g' A' v u ∧ MRel g' H' A' w' ∧ Evol g A w g' A' w' ∧ zjk g' H'
def EffS (P : Program) (f : FuncId) (off : Nat) (H : HMap) (A : AMap) (args : List PV) (R : PV → HMap → AMap → Prop) : Prop :=
 ∀ (g : Gh) (w : World) (vals : Array Value), MRel g H A w → zjk g H → Above off H A → zjm g A args vals.toList →
   z14 P f vals w fun u w' => ∃ v H' A', R v H' A' ∧ ∃ g', PRep g' A' v u ∧ MRel g' H' A' w' ∧ Evol g A w g' A' w' ∧ zjk g' H'
def y6b (P : Program) (f : FuncId) (args : List PV) : Prop :=
 ∀ (C : Nat → Nat → Option Value) (w : World) (vals : Array Value), (∀ b o v, C b o = some v → w.cell? ⟨b, o, none⟩ = some v) → zjm (zko C noπ) noA args vals.toList →
   z14 P f vals w fun v w' => v = .bool true ∧ w'.os = w.os ∧ w'.tape = w.tape ∧ w'.output = w.output ∧ w.heap.size ≤ w'.heap.size ∧ ∀ b, b < w.heap.size → w'.heap[b]? = w.heap[b]?
structure EnvOK (E : Env) : Prop where
 mixed : E.P.follows .mixedOrders = true
 pure : ∀ f args r, E.Γ f args r → zzr E.P f args r
 eff : ∀ f off H A args v H' A', E.Γe f off H A args v H' A' → zqf E.P f off H A args v H' A'
 sets : ∀ f off H A args R, E.Γs f off H A args R → EffS E.P f off H A args R
theorem z0y {id : Nat} {A : AMap} : ∀ (rs : List RT) (k : Nat) (κ : Tok), κ.1 ≠ id → RT.install id A k rs κ = A κ
 | [], _, _, _ => rfl
 | r :: rs, k, κ, h => by
   unfold RT.install
   cases r.ar with
   | some ar =>
     simp only
     rw [zza _ _ (fun e => h (by rw [e]))]
     exact z0y rs (k + 1) κ h
   | none => exact z0y rs (k + 1) κ h
theorem z2k {id : Nat} {A : AMap} : ∀ (rs : List RT) (k j : Nat), RT.install id A k rs (id, j) = (RT.install 0 noA k rs (0, j)).or (A (id, j))
 | [], _, _ => rfl
 | r :: rs, k, j => by
   unfold RT.install
   cases r.ar with
   | some ar =>
     simp only
     by_cases h : j = k
     · subst h
       rw [zzc, zzc]; rfl
     · rw [zza _ _ (by simp [h]), zza _ _ (by simp [h])]
       exact z2k rs (k + 1) j
   | none => exact z2k rs (k + 1) j
theorem ykh : z15 noA := fun κ n e => by cases e
theorem z83 {id : Nat} {A : AMap} {κ : Tok} {ar : Arr} : ∀ (rs : List RT) (k : Nat), RT.install id A k rs κ = some ar → A κ = some ar ∨ ar.isPr = false
 | [], _, h => .inl h
 | r :: rs, k, h => by
   unfold RT.install at h
   cases hr : r.ar with
   | some ar' =>
     rw [hr] at h
     simp only at h
     by_cases e : κ = (id, k)
     · rw [e, zzc] at h
       cases h
       cases r <;> cases hr <;> exact .inr rfl
     · rw [zza _ _ e] at h
       exact z83 rs (k + 1) h
   | none => rw [hr] at h; exact z83 rs (k + 1) h
theorem z15.inst {id : Nat} {A : AMap} (h : z15 A) (k : Nat) (rs : List RT) : z15 (RT.install id A k rs) := fun κ n e => by
 rcases z83 rs k e with e | e
 · exact h κ n e
 · cases e
theorem merge (hm : MRel g H A w) {id : Nat} (hfresh : ∀ k, A (id, k) = none) {rs : List RT} {g' : Gh} {w' : World} (hm' : MRel g' noH (RT.install 0 noA 0 rs) w') (hev : Evol (zko g.C g.π) noA w g' (RT.install 0 noA 0 rs) w') :
 ∃ g'', MRel g'' H (RT.install id A 0 rs) w' ∧ Evol g A w g'' (RT.install id A 0 rs) w' ∧ g''.β = g.β ∧ g''.C = g'.C ∧ (∀ k, g''.τ (id, k) = g'.τ (0, k)) ∧ g''.π = g'.π := by
 have hπ : g'.π = g.π := (hev.np ykh).1
 let g'' : Gh := { C := g'.C, β := g.β, π := g.π, τ := fun κ => if κ.1 = id then g'.τ (0, κ.2) else g.τ κ, O := fun b => if b < w.heap.size then g.O b else match g'.O b with
  | some (.tok κ) => some (.tok (id, κ.2))
  | _ => none }
 have hC : ∀ b o v, g.C b o = some v → g''.C b o = some v := hev.mono.C
 have hinst : ∀ k, RT.install id A 0 rs (id, k) = RT.install 0 noA 0 rs (0, k) := fun k => by
  rw [z2k, hfresh]
  cases RT.install 0 noA 0 rs (0, k) <;> rfl
 have hne : ∀ κ ar, A κ = some ar → κ.1 ≠ id := fun κ ar h e => by
  have := hfresh κ.2
  rw [← e] at this
  rw [show (κ.1, κ.2) = κ from rfl] at this
  rw [this] at h
  cases h
 have hM : Mono g A g'' (RT.install id A 0 rs) := ⟨hC, fun _ _ h => h, fun κ ar h => ⟨ar, by rw [z0y rs 0 κ (hne κ ar h)]; exact h, by
  rw [show g''.τ κ = g.τ κ from if_neg (hne κ ar h)]; exact .refl _ _⟩, fun _ _ h => h⟩
 have hO : ∀ b, b < w.heap.size → g''.O b = g.O b := fun b hb => if_pos hb
 have hOn : ∀ b κ, g'.O b = some (.tok κ) → w.heap.size ≤ b := fun b κ h => by
  rcases Zlg b w.heap.size with hb | hb
  · have := hev.own b hb rfl
    rw [this] at h
    cases h
  · exact hb
 refine ⟨g'', ⟨hm'.com, ?_, ?_, ?_⟩, ⟨hM, fun b hb _ => hev.frame b hb rfl, fun b hb ho => by rw [hO b hb]; exact ho, fun b hb _ o => hev.old b hb rfl o, hev.size, hev.os, hev.tape, hev.output, fun h => ⟨rfl, h.inst _ _⟩⟩, rfl, rfl, fun k => if_pos rfl, hπ.symm⟩
 · intro i b hb
   obtain ⟨ho, hc, cs, vs, e, fz, hH, hh, hu, hr⟩ := hm.var i b hb
   have hlt := zkp hh
   exact ⟨by rw [hO b hlt]; exact ho, fun o => by rw [show g''.C b o = g'.C b o from rfl, hev.old b hlt rfl o]; exact hc o, cs, vs, e, fz, hH, by rw [hev.frame b hlt rfl]; exact hh, hu, hr.mono hM⟩
 · intro κ ar hA
   by_cases hk : κ.1 = id
   · obtain ⟨κ1, k⟩ := κ
     simp only at hk
     subst hk
     rw [hinst] at hA
     have ht := hm'.tok (0, k) ar hA
     have hτ : g''.τ (κ1, k) = g'.τ (0, k) := if_pos rfl
     have hO' : ∀ b, g'.O b = some (.tok (0, k)) → g''.O b = some (.tok (κ1, k)) := fun b h => by
      have := hOn b _ h
      simp only [g'']
      rw [if_neg (by omega), h]
     have hp : ar.isPr = false := (z83 rs 0 hA).resolve_left (fun e => by cases e)
     exact ht.move hp hτ rfl (fun p v e => by rw [hπ] at e; exact e) hO'
   · rw [z0y rs 0 κ hk] at hA
     refine (hm.tok κ ar hA).frame (if_neg hk) hC rfl (fun b ho => ?_)
     have hlt := hm.own b _ ho
     exact ⟨by rw [hO b hlt]; exact ho, hev.frame b hlt rfl, fun o => hev.old b hlt rfl o⟩
 · intro b o ho
   by_cases hb : b < w.heap.size
   · exact Nat.lt_of_lt_of_le hb hev.size
   · simp only [g'', if_neg hb] at ho
     split at ho
     · rename_i κ h
       exact hm'.own b _ h
     · cases ho
theorem xzp (hm : MRel g H A w) {g' : Gh} {w' : World} (hm' : MRel g' noH noA w') (hev : Evol (zko g.C g.π) noA w g' noA w') : ∃ g'', MRel g'' H A w' ∧ Evol g A w g'' A w' ∧ g''.β = g.β ∧ g''.C = g'.C ∧ g''.π = g'.π := by
 have hπ : g'.π = g.π := (hev.np ykh).1
 let g'' : Gh := { g with C := g'.C }
 have hC : ∀ b o v, g.C b o = some v → g''.C b o = some v := hev.mono.C
 have hM : Mono g A g'' A := ⟨hC, fun _ _ h => h, fun κ ar h => ⟨ar, h, .refl _ _⟩, fun _ _ h => h⟩
 refine ⟨g'', ⟨hm'.com, ?_, ?_, fun b o ho => Nat.lt_of_lt_of_le (hm.own b o ho) hev.size⟩, ⟨hM, fun b hb _ => hev.frame b hb rfl, fun _ _ h => h, fun b hb _ o => hev.old b hb rfl o, hev.size, hev.os, hev.tape, hev.output, fun h => ⟨rfl, h⟩⟩, rfl, rfl, hπ.symm⟩
 · intro i b hb
   obtain ⟨ho, hc, cs, vs, e, fz, hH, hh, hu, hr⟩ := hm.var i b hb
   have hlt := zkp hh
   exact ⟨ho, fun o => by rw [show g''.C b o = g'.C b o from rfl, hev.old b hlt rfl o]; exact hc o, cs, vs, e, fz, hH, by rw [hev.frame b hlt rfl]; exact hh, hu, hr.mono hM⟩
 · intro κ ar hA
   refine (hm.tok κ ar hA).frame rfl hC rfl (fun b ho => ?_)
   have hlt := hm.own b _ ho
   exact ⟨ho, hev.frame b hlt rfl, fun o => hev.old b hlt rfl o⟩
theorem yq9 {r : RT} (h : r.plain = true) : r.ar = none := by cases r <;> first | rfl | cases h
theorem yv2 {r : RV} (h : r.plain = true) {id : Nat} {A : AMap} {k : Nat} : RT.install id A k r.list = A := by
 have h' := h
 unfold RV.plain at h'
 generalize r.list = rs at h'
 clear h
 induction rs generalizing k with
 | nil => rfl
 | cons r rs ih =>
   obtain ⟨h1, h2⟩ := Bool.and_eq_true_iff.1 (show (r.plain && rs.all RT.plain) = true from h')
   unfold RT.install
   rw [yq9 h1]
   exact ih h2
theorem z90 {g' g'' : Gh} {A' A'' : AMap} (hC : g''.C = g'.C) (hπ : g''.π = g'.π) {id k : Nat} (hA : ∀ ar, A' (0, k) = some ar → A'' (id, k) = some ar) (hτ : g''.τ (id, k) = g'.τ (0, k)) {r : RT} {v : Value} (h : TRep g' A' (r.tv (0, k)) v) : TRep g'' A'' (r.tv (id, k)) v := by
 cases r with
 | d x => exact DRep.mono (fun b o v h => by rw [hC]; exact h) (fun p v h => by rw [hπ]; exact h) h
 | own sz els =>
   obtain ⟨h1, sz', n, h2, h3, h4⟩ := h
   exact ⟨DRep.mono (fun b o v h => by rw [hC]; exact h) (fun p v h => by rw [hπ]; exact h) h1, sz', n, hA _ h2, h3, fun e => (h4 e).imp (fun h => hτ.trans h) (fun h => h)⟩
 | mu sz els =>
   obtain ⟨a, cap, els', h1, h2, h3, h4, h5⟩ := h
   exact ⟨a, cap, els', h1, h2, hA _ h3, h4, fun e => (h5 e).imp (fun h => hτ.trans h) (fun h => h)⟩
 | agg cs =>
   obtain ⟨arr, e, h1, h2⟩ := h
   refine ⟨arr, e, h1, fun k c hk => ?_⟩
   obtain ⟨v, hv, hr⟩ := h2 k c hk
   refine ⟨v, hv, ?_⟩
   simp only [List.getElem?_map, Zms] at hk
   obtain ⟨x, _, rfl⟩ := hk
   exact DRep.mono (fun b o v h => by rw [hC]; exact h) (fun p v h => by rw [hπ]; exact h) hr
theorem z0z (id : Nat) : ∀ (rs : List RT) (k : Nat), (RT.tvs id k rs).length = rs.length
 | [], _ => rfl
 | _ :: rs, k => by simp [RT.tvs, z0z id rs]
theorem getElem?_tvs (id : Nat) : ∀ (rs : List RT) (k j : Nat), (RT.tvs id k rs)[j]? = (rs[j]?).map fun r => r.tv (id, k + j)
 | [], _, _ => by simp [RT.tvs]
 | r :: rs, k, 0 => by simp [RT.tvs]
 | r :: rs, k, j + 1 => by simp only [RT.tvs, List.getElem?_cons_succ, getElem?_tvs id rs]; congr; funext r; congr 2; omega
theorem ywt {g' g'' : Gh} {A' A'' : AMap} (hC : g''.C = g'.C) (hπ : g''.π = g'.π) {id : Nat} (hA : ∀ k ar, A' (0, k) = some ar → A'' (id, k) = some ar) (hτ : ∀ k, g''.τ (id, k) = g'.τ (0, k)) {r : RV} {v : Value} (h : PRep g' A' (r.pv 0) v) : PRep g'' A'' (r.pv id) v := by
 cases r with
 | one r => exact zw8.2 (z90 hC hπ (hA 0) (hτ 0) (zw8.1 h))
 | tup rs =>
   obtain ⟨arr, e, hs, hr⟩ := h
   refine ⟨arr, e, by rw [hs, z0z, z0z], fun k x hk => ?_⟩
   rw [getElem?_tvs] at hk
   obtain ⟨r, hr', rfl⟩ := Option.map_eq_some_iff.1 hk
   obtain ⟨u, hu, ht⟩ := hr k (r.tv (0, 0 + k)) (by rw [getElem?_tvs, hr']; rfl)
   exact ⟨u, hu, z90 hC hπ (hA _) (hτ _) ht⟩
theorem yxa {g' g'' : Gh} {A' A'' : AMap} (hC : g''.C = g'.C) (hπ : g''.π = g'.π) {r : RV} {v : Value} (hpl : r.plain = true) (h : PRep g' A' (r.pv 0) v) : PRep g'' A'' (r.pv 0) v := by
 have one : ∀ (k : Nat) (r : RT) (v : Value), r.plain = true → TRep g' A' (r.tv (0, k)) v → TRep g'' A'' (r.tv (0, k)) v := fun k r v hp h => by
  cases r with
  | d x => exact DRep.mono (fun b o v h => by rw [hC]; exact h) (fun p v h => by rw [hπ]; exact h) h
  | agg cs =>
    obtain ⟨arr, e, h1, h2⟩ := h
    refine ⟨arr, e, h1, fun k c hk => ?_⟩
    obtain ⟨v, hv, hr⟩ := h2 k c hk
    refine ⟨v, hv, ?_⟩
    simp only [List.getElem?_map, Zms] at hk
    obtain ⟨x, _, rfl⟩ := hk
    exact DRep.mono (fun b o v h => by rw [hC]; exact h) (fun p v h => by rw [hπ]; exact h) hr
  | _ => cases hp
 cases r with
 | one r => exact zw8.2 (one 0 r v (Bool.and_eq_true_iff.1 (show (r.plain && true) = true from hpl)).1 (zw8.1 h))
 | tup rs =>
   obtain ⟨arr, e, hs, hr⟩ := h
   refine ⟨arr, e, hs, fun k x hk => ?_⟩
   obtain ⟨u, hu, ht⟩ := hr k x hk
   rw [getElem?_tvs] at hk
   obtain ⟨r, hr', rfl⟩ := Option.map_eq_some_iff.1 hk
   exact ⟨u, hu, one _ r u (List.all_eq_true.1 hpl r (Zme hr')) ht⟩
theorem yjl {c : CV} {v : Value} (h : CRep g A c v) : CRep g A c.frz v := by
 cases c with
 | full els => exact h.1
 | own κ els => exact h.1
 | _ => exact h
theorem z8h {x : PV} {v : Value} (h : PRep g A x v) : PRep g A x.frz v := by
 cases x with
 | c x => exact yjl h
 | agg cs =>
   obtain ⟨arr, e, h1, h2⟩ := h
   refine ⟨arr, e, by simpa using h1, fun k c hk => ?_⟩
   simp only [List.getElem?_map, Zms] at hk
   obtain ⟨c', hc', rfl⟩ := hk
   obtain ⟨v, hv, hr⟩ := h2 k c' hc'
   exact ⟨v, hv, yjl hr⟩
 | tup xs => exact h
theorem z5a {c : CV} {v : Value} (hc : c.closed = true) (h : CRep g A c v) : CRep (zko g.C g.π) noA c v := by
 cases c with
 | any => trivial
 | skip => exact h
 | d x => exact h
 | full els => exact h
 | eptr e off => exact h
 | fn f caps =>
   obtain ⟨vs, e, h1, h2⟩ := h
   refine ⟨vs, e, h1, fun k p hk => ?_⟩
   have : caps = [] := by simpa [CV.closed] using hc
   subst this
   simp at hk
 | _ => cases hc
theorem z5b {x : PV} {v : Value} (hc : x.closed = true) (h : PRep g A x v) : PRep (zko g.C g.π) noA x v := by
 cases x with
 | c x => exact z5a hc h
 | agg cs =>
   obtain ⟨arr, e, h1, h2⟩ := h
   refine ⟨arr, e, h1, fun k c hk => ?_⟩
   obtain ⟨v, hv, hr⟩ := h2 k c hk
   exact ⟨v, hv, z5a (List.all_eq_true.1 hc c (Zme hk)) hr⟩
 | tup xs => cases hc
theorem zwd {ρ : Nat → PV} {a : Act} (hf : FRep g A ρ a) (args : Array Operand) : zjm g A ((args.toList.map (ev ρ)).map PV.frz) (args.map a.eval).toList := by
 refine ⟨by simp, fun k x hk => ?_⟩
 simp only [List.map_map, List.getElem?_map, Zms] at hk
 obtain ⟨y, hy, rfl⟩ := hk
 exact ⟨a.eval y, by simp only [Array.getElem?_toList] at hy; simp [hy], z8h (zz3 hf y)⟩
theorem zz9 {o : Oper} {a : Act} {K : Act → World → Prop} {Q : Exit → Act → World → Prop} {u : Value} {w' : World} (h : (execOp a.eval o).run P w = .ok (.value u) w') (hK : K (a.put o.dst u) w') : o.wp P a w K Q := by
 unfold Oper.wp
 rw [h]
 exact hK
theorem zkn {o : Oper} {a : Act} {K : Act → World → Prop} {Q : Exit → Act → World → Prop} {f : FuncId} {args : Array Value} {R : Value → World → Prop} (h : (execOp a.eval o).run P w = (callFunc f args).run P w) (hc : z14 P f args w R)
 (hK : ∀ v w', R v w' → K (a.put o.dst v) w') : o.wp P a w K Q := by
 unfold Oper.wp
 rw [h]
 rcases hc with ⟨h1, h2⟩ | ⟨v, w', h1, h2⟩
 · rw [h1]
   refine Calls.mono h2 (fun e w' he => ?_)
   obtain ⟨v, rfl, hr⟩ := he
   exact hK v w' hr
 · rw [h1]
   exact hK v w' h2
theorem finish {o : Oper} {a : Act} {K : Act → World → Prop} {Q : Exit → Act → World → Prop} {s : Sem Value} {v : PV} (hd : zjk g H) (hp : POk P g H A w s v) (he : execOp a.eval o = (do pure (Next.value (← s))))
 (hK : ∀ u w' g', PRep g' A v u → MRel g' H A w' → Evol g A w g' A w' → zjk g' H → K (a.put o.dst u) w') : o.wp P a w K Q := by
 obtain ⟨u, w', g', h1, h2, h3, h4, h5⟩ := hp
 refine zz9 (u := u) (w' := w') ?_ (hK u w' g' h2 h3 h4 (fun id hi => by rw [h5]; exact hd id hi))
 rw [he, Sem.run_bind, h1]
 rfl
end Go.PW
