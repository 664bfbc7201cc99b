/-
  Parts of the proof, laid together: PwE.
-/
import Derived.Test.YtemecklglapleaaGreatQ03
import Derived.Great.BuildSlice
import Derived.Laws.MakeOwn

namespace Go.PW
variable {P : Program} {g : Gh} {H : HMap} {A : AMap} {w : World}
theorem z4g {v : Value} (h : v.oneCell' = true) : v.cells = #[v] := by cases v <;> first | rfl | cases h
theorem z0r {x : PV} {ys : List CV} {v : Value} (hx : PRep g A x v) (h : z7n x = some ys) : zq8 g A ys v.cells.toList := by
 unfold z7n at h
 split at h
 · split at h
   · rename_i c hk
     cases h
     rw [z4g (z3s hx hk)]
     exact ⟨rfl, fun k c' hk' => by
      cases k with
      | zero => simp at hk'; subst hk'; exact ⟨v, rfl, hx⟩
      | succ k => simp at hk'⟩
   · cases h
 · cases h
   obtain ⟨arr, rfl, hr⟩ := hx
   exact hr
 · cases h
theorem yzt (off : Nat) (l : List Value) (cs : Array Value) (h : off + l.length ≤ cs.size) :
 ((l.zipIdx 0).foldl (fun cs (x : Value × Nat) => cs.setIfInBounds (off + x.2) x.1) cs).toList = splice cs.toList off l := by
 obtain ⟨h1, h2⟩ := Great.foldl_set off l 0 cs
 apply List.ext_getElem?
 intro k
 have h3 := h2 k
 rw [Array.getElem?_toList, h3]
 clear h1 h2 h3
 unfold splice
 rw [List.append_assoc, List.getElem?_append]
 simp only [Zlt, Array.length_toList]
 have hmin : min off cs.size = off := by omega
 rw [hmin]
 by_cases hk : k < off
 · rw [if_neg (by omega), if_pos hk, List.getElem?_take, if_pos hk, Array.getElem?_toList]
 · rw [if_neg hk, List.getElem?_append]
   by_cases hk2 : k - off < l.length
   · rw [if_pos (by omega), if_pos hk2, Nat.add_zero]
   · rw [if_neg (by omega), if_neg hk2, List.getElem?_drop, Array.getElem?_toList]
     congr 1
     omega
theorem z4r (place : Nat → Option (Nat × Nat)) : ∀ (ps : List (Nat × PV)) (cs cs' : List CV), z8x place cs ps = some cs' → ∀ (vs : Array Value) (us : List (Nat × Value)), zq8 g A cs vs.toList →
 us.length = ps.length → (∀ (k : Nat) (p : Nat × PV) (u : Nat × Value), ps[k]? = some p → us[k]? = some u → u.1 = p.1 ∧ PRep g A p.2 u.2) →
 ∃ vs', Instr.fill place vs us = some vs' ∧ zq8 g A cs' vs'.toList ∧ cs'.length = cs.length := by
 intro ps
 induction ps with
 | nil =>
   intro cs cs' h vs us hr hl _
   simp [z8x] at h
   subst h
   obtain rfl : us = [] := List.length_eq_zero_iff.1 (by simpa using hl)
   exact ⟨vs, rfl, hr, rfl⟩
 | cons p r ih =>
   intro cs cs' h vs us hr hl hp
   obtain ⟨i, x⟩ := p
   cases us with
   | nil => simp at hl
   | cons u us =>
     obtain ⟨i', v⟩ := u
     obtain ⟨e1, hx⟩ := hp 0 _ _ rfl rfl
     simp only at e1 hx
     subst e1
     simp only [z8x, Zbs] at h
     obtain ⟨q, hq, ys, hys, h⟩ := h
     split at h
     · rename_i hc
       obtain ⟨hc1, hc2⟩ := hc
       have hv := z0r hx hys
       have hlen : v.cells.size = ys.length := by rw [← Array.length_toList]; exact hv.1
       have hvs : vs.size = cs.length := by rw [← Array.length_toList]; exact hr.1
       have hsp := yzt q.1 v.cells.toList vs (by rw [Array.length_toList]; omega)
       have hcs := hr.splice hv q.1 hc2
       obtain ⟨vs', hf, hr', hl'⟩ := ih _ _ h ((v.cells.toList.zipIdx 0).foldl (fun cs (x : Value × Nat) => cs.setIfInBounds (q.1 + x.2) x.1) vs) us (by rw [hsp]; exact hcs) (by simpa using hl)
        (fun k p u h1 h2 => hp (k + 1) p u (by simpa using h1) (by simpa using h2))
       refine ⟨vs', ?_, hr', by rw [hl']; simp [splice]; omega⟩
       unfold Instr.fill
       obtain ⟨q1, q2⟩ := q
       simp only [hq]
       simp only at hc1 hc2 hf
       rw [if_neg (by simp; omega), ← Array.foldl_toList, Array.toList_zipIdx]
       exact hf
     · cases h
theorem zqy {T : TypeId} {z : List CV} (h : zzm P T = some z) : ∃ i v, P.info? T = some i ∧ i.zero = some v ∧ v.cells.size = i.size ∧ i.size = P.cellsOf T ∧ z = v.cells.toList.map cstC ∧ v.cells.all (·.oneCell') = true := by
 unfold zzm at h
 split at h
 · rename_i i hi
   split at h
   · rename_i v hv
     split at h
     · rename_i hc
       cases h
       exact ⟨i, v, hi, hv, hc.1, by simp [Program.cellsOf, hi], rfl, hc.2⟩
     · cases h
   · cases h
 · cases h
theorem y25 (hm : MRel g H A w) {T : TypeId} {ps : List (Nat × PV)} {us : Array (Nat × Value)} {v : PV} (hl : us.size = ps.length)
 (hp : ∀ (k : Nat) (p : Nat × PV) (u : Nat × Value), ps[k]? = some p → us.toList[k]? = some u → u.1 = p.1 ∧ PRep g A p.2 u.2) (h : z98 P T ps = some v) : POk P g H A w (Instr.build T us) v := by
 unfold z98 at h
 split at h
 · rename_i fs hu
   obtain ⟨pl, hpl, h⟩ := Option.bind_eq_some_iff.1 h
   obtain ⟨z, hz, h⟩ := Option.bind_eq_some_iff.1 h
   obtain ⟨cs, hcs, rfl⟩ := Option.map_eq_some_iff.1 h
   obtain ⟨i, zv, hi, hzv, h1, h2, rfl, h3⟩ := zqy hz
   obtain ⟨vs', hf, hr, _⟩ := z4r _ ps _ _ hcs zv.cells us.toList (zv0 (g := g) (A := A) _) (by simpa using hl) hp
   refine .here hm (run_build w T us vs' ?_) ⟨vs', rfl, hr⟩
   unfold zz2 at hpl
   rw [hu] at hpl
   simp only at hpl
   unfold Program.built
   simp only [hi, hu, hzv, hpl]
   rw [← hf]
   congr 1
   funext j
   simp
 · rename_i n e hu
   split at h
   · rename_i hpos
     obtain ⟨z, hz, h⟩ := Option.bind_eq_some_iff.1 h
     obtain ⟨cs, hcs, rfl⟩ := Option.map_eq_some_iff.1 h
     obtain ⟨i, zv, hi, hzv, h1, h2, rfl, h3⟩ := zqy hz
     obtain ⟨vs', hf, hr, _⟩ := z4r _ ps _ _ hcs zv.cells us.toList (zv0 (g := g) (A := A) _) (by simpa using hl) hp
     obtain ⟨ie, hie, hsz⟩ := z1l hpos
     refine .here hm (run_build w T us vs' ?_) ⟨vs', rfl, hr⟩
     unfold Program.built
     simp only [hi, hu, hzv, hie, hsz]
     exact hf
   · cases h
 · cases h
theorem commit (hm : MRel g H A w) (vs : Array Value) (e : TypeId) (n : Nat) (w1 : World) (h1 : w1.heap = w.heap) (h2 : w1.os = w.os) (h3 : w1.tape = w.tape) (h4 : w1.output = w.output) :
 ∃ g', (∀ o, o < n → g'.C w.heap.size o = vs[o]?) ∧ (∀ o, n ≤ o → g'.C w.heap.size o = none) ∧ MRel g' H A (w1.alloc (.cells vs e)) ∧ Evol g A w g' A (w1.alloc (.cells vs e)) ∧ g'.β = g.β ∧ g'.τ = g.τ ∧ g'.O = g.O := by
 have hsz : w1.heap.size = w.heap.size := by rw [h1]
 have hnone : ∀ o, g.C w.heap.size o = none := by
  intro o
  cases hc : g.C w.heap.size o with
  | none => rfl
  | some v => exact absurd (C_lt hm hc) (by omega)
 have hmono : ∀ b o v, g.C b o = some v → b ≠ w.heap.size := fun b o v hc => by have := C_lt hm hc; omega
 have hold : ∀ b, b < w.heap.size → (w1.alloc (.cells vs e)).heap[b]? = w.heap[b]? := by
  intro b hb
  rw [heap_alloc_old w1 _ b (by omega), h1]
 let g' : Gh := { g with C := fun b o => if b = w.heap.size then (if o < n then vs[o]? else none) else g.C b o }
 have hC : ∀ b o, b ≠ w.heap.size → g'.C b o = g.C b o := fun b o hb => by simp [g', hb]
 have hM : Mono g A g' A := ⟨fun b o v hc => by rw [hC b o (hmono b o v hc)]; exact hc, fun _ _ h => h, fun _ ar h => ⟨ar, h, zkg.refl _ _⟩, fun _ _ h => h⟩
 refine ⟨g', fun o ho => by simp [g', ho], fun o ho => by simp only [g', if_true]; rw [if_neg (by omega)], ⟨?_, ?_, ?_, ?_⟩, ⟨hM, ?_, ?_, fun b hb _ o => hC b o (by omega), by simp [hsz], h2, h3, h4, fun h => ⟨rfl, h⟩⟩, rfl, rfl, rfl⟩
 · intro b o v hc
   by_cases hb : b = w.heap.size
   · subst hb
     simp only [g', if_true] at hc
     split at hc
     · rw [show w.heap.size = w1.heap.size from hsz.symm, World.cell?_alloc_new]
       exact hc
     · cases hc
   · rw [hC b o hb] at hc
     have := hm.com b o v hc
     rw [World.cell?_of_block (w := w) (hold b (C_lt hm hc))]
     exact this
 · intro id b hb
   obtain ⟨ho, hc, cs, vs', e', fz, hH, hh, hu, hr⟩ := hm.var id b hb
   have hlt := zkp hh
   exact ⟨ho, fun o => by rw [hC b o (by omega)]; exact hc o, cs, vs', e', fz, hH, by rw [hold b hlt]; exact hh, hu, hr.mono hM⟩
 · intro κ ar hA
   refine (hm.tok κ ar hA).frame rfl (fun b o v hc => by rw [hC b o (hmono b o v hc)]; exact hc) rfl (fun b ho => ?_)
   have hlt := hm.own b _ ho
   exact ⟨ho, hold b hlt, fun o => hC b o (by omega)⟩
 · intro b o ho
   have := hm.own b o ho
   simp [hsz]
   omega
 · intro b hb _
   exact hold b hb
 · intro b _ h
   exact h
theorem getElem?_chunk {α : Type} (size : Nat) : ∀ (n : Nat) (l : List α) (i : Nat), (chunk size n l)[i]? = if i < n then some ((l.drop (i * size)).take size) else none
 | 0, _, i => by simp [chunk]
 | n + 1, l, 0 => by simp [chunk]
 | n + 1, l, i + 1 => by
   simp only [chunk, List.getElem?_cons_succ, getElem?_chunk size n]
   by_cases h : i < n
   · rw [if_pos h, if_pos (by omega), List.drop_drop, Nat.add_mul, Nat.one_mul, Nat.add_comm]
   · rw [if_neg h, if_neg (by omega)]
theorem z0e {α : Type} (size : Nat) : ∀ (n : Nat) (l : List α), (chunk size n l).length = n
 | 0, _ => rfl
 | n + 1, l => by simp [chunk, z0e size n]
theorem z7d {C : Nat → Nat → Option Value} {π : Nat → Option Value} {size n b cap : Nat} {ds : List D} {vs : List Value} (hl : ds.length = n * size) (hvl : vs.length = n * size) (hcap : n ≤ cap)
 (hr : ∀ (k : Nat) (x : D), ds[k]? = some x → ∃ v, vs[k]? = some v ∧ DRep C π x v) (hC : ∀ o, o < n * size → C b o = vs[o]?) :
 DRep C π (.sl (chunk size n ds)) (.slice (some ⟨b, 0, none⟩) n cap) := by
 have hin : ∀ i k, i < n → k < size → i * size + k < n * size := fun i k hi hk => by
  have := Nat.mul_le_mul_right size (show i + 1 ≤ n from hi)
  rw [Nat.add_mul, Nat.one_mul] at this
  omega
 refine .sl _ b 0 cap size n (fun i k => vs.getD (i * size + k) undef) (z0e _ _ _).symm hcap ?_ ?_ ?_
 · intro e he
   obtain ⟨i, hi⟩ := List.mem_iff_getElem?.1 he
   rw [getElem?_chunk] at hi
   split at hi
   · rename_i hin'
     cases hi
     have := Nat.mul_le_mul_right size (show i + 1 ≤ n from hin')
     rw [Nat.add_mul, Nat.one_mul] at this
     simp
     omega
   · cases hi
 · intro i k hi hk
   rw [Nat.zero_add, hC _ (hin i k hi hk), List.getD_eq_getElem?_getD]
   have := hin i k hi hk
   rw [Zge (by omega)]
   rfl
 · intro i k e x he hx
   rw [getElem?_chunk] at he
   split at he
   · cases he
     rw [List.getElem?_take] at hx
     split at hx
     · rw [List.getElem?_drop] at hx
       obtain ⟨v, hv, hd⟩ := hr _ _ hx
       simp only [List.getD_eq_getElem?_getD, hv, Option.getD_some]
       exact hd
     · cases hx
   · cases he
theorem zkj {α : Type} (z : List α) (hz : 0 < z.length) : ∀ (n k : Nat), (List.replicate n z).flatten[k]? = if k < n * z.length then z[k % z.length]? else none
 | 0, k => by simp
 | n + 1, k => by
   rw [List.replicate_succ, List.flatten_cons, List.getElem?_append]
   by_cases h : k < z.length
   · rw [if_pos h, if_pos (by rw [Nat.add_mul]; omega), Nat.mod_eq_of_lt h]
   · rw [if_neg h, zkj z hz n]
     have e : (k - z.length) % z.length = k % z.length := by
      rw [← Nat.mod_eq_sub_mod (by omega)]
     by_cases h2 : k - z.length < n * z.length
     · rw [if_pos h2, if_pos (by rw [Nat.add_mul]; omega), e]
     · rw [if_neg h2, if_neg (by rw [Nat.add_mul]; omega)]
theorem z24 (z : Array Value) (n : Nat) (hz : 0 < z.size) : zq8 g A (List.replicate n (z.toList.map cstC)).flatten ((Array.range (n * z.size)).map (z[· % z.size]!)).toList := by
 refine ⟨by simp, fun k c hk => ?_⟩
 rw [zkj _ (by simpa using hz)] at hk
 simp only [List.length_map, Array.length_toList] at hk
 split at hk
 · rename_i hlt
   simp only [List.getElem?_map, Zms] at hk
   obtain ⟨v, hv, rfl⟩ := hk
   refine ⟨v, ?_, z13 v⟩
   have hm : k % z.size < z.size := Nat.mod_lt _ hz
   simp only [Array.getElem?_toList] at hv
   have hz' : z[k % z.size]! = v := by
    rw [getElem!_pos z _ hm]
    rw [Array.getElem?_eq_getElem hm] at hv
    simpa using hv
   simp [hlt, hz']
 · cases hk
theorem y9v (hm : MRel g H A w) {T : TypeId} {n : Nat} {ps : List (Nat × PV)} {us : Array (Nat × Value)} {v : PV} (hl : us.size = ps.length)
 (hp : ∀ (k : Nat) (p : Nat × PV) (u : Nat × Value), ps[k]? = some p → us.toList[k]? = some u → u.1 = p.1 ∧ PRep g A p.2 u.2) (h : bslS P T n ps = some v) : POk P g H A w (Instr.buildSlice T n us) v := by
 unfold bslS at h
 split at h
 · rename_i e hu
   obtain ⟨z, hz, h⟩ := Option.bind_eq_some_iff.1 h
   split at h
   · rename_i hc
     obtain ⟨hsmall, hpos, hn⟩ := hc
     obtain ⟨cs, hcs, h⟩ := Option.bind_eq_some_iff.1 h
     obtain ⟨ds, hds, rfl⟩ := Option.map_eq_some_iff.1 h
     obtain ⟨i, zv, hi, hzv, h1, h2, rfl, h3⟩ := zqy hz
     have hzr := z24 (g := g) (A := A) zv.cells n (by omega)
     obtain ⟨vs', hf, hr, hlen⟩ := z4r _ ps _ _ hcs _ us.toList hzr (by simpa using hl) hp
     have hrun : (Instr.buildSlice T n us).run P w = .ok (.slice (some ⟨w.heap.size, 0, none⟩) n n) (w.alloc (.cells vs' e)) := by
      refine run_buildSlice w T e n us vs' i zv hu hi hzv (by rw [h2]; omega) (by rw [h2]; exact Nat.mul_ne_zero (by omega) (by omega)) ?_
      rw [h2]
      rw [h1, h2] at hf
      rw [h1, h2]
      exact hf
     have hvl : vs'.size = n * P.cellsOf e := by
      have := hr.1
      rw [Array.length_toList] at this
      rw [this, hlen]
      simp [h1, h2]
     obtain ⟨d1, d2⟩ := zwt hds
     obtain ⟨g', c1, c2, m1, ev1, b1, _, _⟩ := commit hm vs' e (n * P.cellsOf e) w rfl rfl rfl rfl
     refine ⟨_, _, g', hrun, ⟨?_, rfl⟩, m1, ev1, b1⟩
     refine z7d (vs := vs'.toList) (by rw [d1, hlen]; simp [h1, h2]) (by rw [Array.length_toList]; exact hvl) (Zlr _) (fun k x hk => ?_) (fun o ho => by rw [c1 o ho, Array.getElem?_toList])
     obtain ⟨c, hc, hrep⟩ := d2 k x hk
     obtain ⟨v, hv, hcr⟩ := hr.2 k c hc
     exact ⟨v, hv, DRep.mono ev1.mono.C ev1.mono.π (hrep v hcr)⟩
   · split at h
     · rename_i h0
       replace h := Option.some.inj (by assumption : some (PV.c (.full [])) = some v)
       subst h
       obtain ⟨rfl, rfl⟩ := h0
       obtain ⟨i, zv, hi, hzv, h1, h2, rfl, h3⟩ := zqy hz
       obtain rfl : us = #[] := Array.eq_empty_of_size_eq_zero (by simpa using hl)
       have hrun : (Instr.buildSlice T 0 #[]).run P w = .ok (.slice (some ⟨w.heap.size, 0, none⟩) 0 0) (w.alloc (.cells #[] e)) := by
        simp [Instr.buildSlice, run_underlying hu, sizeOf, typeInfo, hi, Instr.fill, newRow]
        rw [Array.eq_empty_of_size_eq_zero (xs := Array.map _ (Array.range 0)) (by simp)]
       obtain ⟨g', c1, c2, m1, ev1, b1, _, _⟩ := commit hm #[] e 0 w rfl rfl rfl rfl
       exact ⟨_, _, g', hrun, ⟨.nil _, rfl⟩, m1, ev1, b1⟩
     · cases h
 · cases h
theorem zkk (z : Array Value) (n : Nat) : madeCells z n = (Array.range n).map (z[· % z.size]!) := rfl
theorem xzq (hm : MRel g H A w) {T : TypeId} {l c v : PV} {ul uc : Value} (hl : PRep g A l ul) (hc : PRep g A c uc) (h : mksS P T l c = some v) : POk P g H A w (Instr.makeSlice T ul uc) v := by
 unfold mksS at h
 split at h
 · rename_i e hu
   obtain ⟨n, hn, h⟩ := Option.bind_eq_some_iff.1 h
   obtain ⟨n', hn', h⟩ := Option.bind_eq_some_iff.1 h
   obtain ⟨z, hz, h⟩ := Option.bind_eq_some_iff.1 h
   split at h
   · rename_i hcond
     obtain ⟨ds, hds, rfl⟩ := Option.map_eq_some_iff.1 h
     clear h
     obtain ⟨hnn, hsmall, hpos, hnp, hby⟩ := hcond
     subst hnn
     obtain ⟨kl, rfl⟩ := zxo hl hn
     obtain ⟨kc, rfl⟩ := zxo hc hn'
     obtain ⟨i, zv, hi, hzv, h1, h2, rfl, h3⟩ := zqy hz
     have hbyi : P.bytesOf e = i.bytes := by simp [Program.bytesOf, hi]
     have hzr := z24 (g := g) (A := A) zv.cells n (by omega)
     have hsm : n ≤ 16777216 := Nat.le_trans (Nat.le_mul_of_pos_right n hpos) hsmall
     have hrun := run_makeSlice (P := P) w T e i zv hu hi hzv kl kc (n : Int) (n : Int) (by omega) (by omega) (by rw [h2]; simpa using hsmall) (by
      rw [hbyi] at hby
      have : (i.bytes : Int) * (n : Int) = ((n * i.bytes : Nat) : Int) := by rw [Nat.mul_comm]; simp
      rw [this]; omega) (by omega)
     simp only [Int.toNat_natCast] at hrun
     have hvl : (madeCells zv.cells (n * i.size)).size = n * P.cellsOf e := by rw [zkk]; simp [h2]
     have hr : zq8 g A (List.replicate n (zv.cells.toList.map cstC)).flatten (madeCells zv.cells (n * i.size)).toList := by
      rw [zkk, ← h1]; exact hzr
     obtain ⟨d1, d2⟩ := zwt hds
     obtain ⟨g', c1, c2, m1, ev1, b1, _, _⟩ := commit hm (madeCells zv.cells (n * i.size)) e (n * P.cellsOf e) w rfl rfl rfl rfl
     refine ⟨_, _, g', hrun, ⟨?_, rfl⟩, m1, ev1, b1⟩
     refine z7d (vs := (madeCells zv.cells (n * i.size)).toList) (by rw [d1]; simp [h1, h2]) (by rw [Array.length_toList]; exact hvl) (Zlr _) (fun k x hk => ?_) (fun o ho => by rw [c1 o ho, Array.getElem?_toList])
     obtain ⟨c, hc, hrep⟩ := d2 k x hk
     obtain ⟨v, hv, hcr⟩ := hr.2 k c hc
     exact ⟨v, hv, DRep.mono ev1.mono.C ev1.mono.π (hrep v hcr)⟩
   · cases h
 · cases h
end Go.PW
