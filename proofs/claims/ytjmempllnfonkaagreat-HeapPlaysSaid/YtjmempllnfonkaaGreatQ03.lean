/-
  Parts of the proof, laid together: PwE, PwF.
-/
import Derived.Test.YtjmempllnfonkaaGreatQ02
import Derived.Great.BuildSlice
import Derived.Laws.MakeOwn

namespace Go.PW
variable {P : Program} {g : Gh} {H : HMap} {A : AMap} {w : World}
theorem cells_of_oneCell {v : Value} (h : v.oneCell' = true) : v.cells = #[v] := by cases v <;> first | rfl | cases h
theorem cellsP_rep {x : PV} {ys : List CV} {v : Value} (hx : PRep g A x v) (h : cellsP x = some ys) : CsRep g A ys v.cells.toList := by
  unfold cellsP at h
  split at h
  · split at h
    · rename_i c hk
      cases h
      rw [cells_of_oneCell (CRep_oneCell hx hk)]
      exact ⟨rfl, fun k c' hk' => by
        cases k with
        | zero => simp at hk'; subst hk'; exact ⟨v, rfl, hx⟩
        | succ k => simp at hk'⟩
    · cases h
  · cases h
    obtain ⟨arr, rfl, hr⟩ := hx
    exact hr
  · cases h
theorem foldl_splice (off : Nat) (l : List Value) (cs : Array Value) (h : off + l.length ≤ cs.size) :
    ((l.zipIdx 0).foldl (fun cs (x : Value × Nat) => cs.setIfInBounds (off + x.2) x.1) cs).toList = splice cs.toList off l := by
  obtain ⟨h1, h2⟩ := Great.foldl_set off l 0 cs
  apply List.ext_getElem?
  intro k
  have h3 := h2 k
  rw [Array.getElem?_toList, h3]
  clear h1 h2 h3
  unfold splice
  rw [List.append_assoc, List.getElem?_append]
  simp only [List.length_take, Array.length_toList]
  have hmin : min off cs.size = off := by omega
  rw [hmin]
  by_cases hk : k < off
  · rw [if_neg (by omega), if_pos hk, List.getElem?_take, if_pos hk, Array.getElem?_toList]
  · rw [if_neg hk, List.getElem?_append]
    by_cases hk2 : k - off < l.length
    · rw [if_pos (by omega), if_pos hk2, Nat.add_zero]
    · rw [if_neg (by omega), if_neg hk2, List.getElem?_drop, Array.getElem?_toList]
      congr 1
      omega
theorem fill_rep (place : Nat → Option (Nat × Nat)) : ∀ (ps : List (Nat × PV)) (cs cs' : List CV), fillA place cs ps = some cs' → ∀ (vs : Array Value) (us : List (Nat × Value)), CsRep g A cs vs.toList →
    us.length = ps.length → (∀ (k : Nat) (p : Nat × PV) (u : Nat × Value), ps[k]? = some p → us[k]? = some u → u.1 = p.1 ∧ PRep g A p.2 u.2) →
    ∃ vs', Instr.fill place vs us = some vs' ∧ CsRep g A cs' vs'.toList ∧ cs'.length = cs.length := by
  intro ps
  induction ps with
  | nil =>
    intro cs cs' h vs us hr hl _
    simp [fillA] at h
    subst h
    obtain rfl : us = [] := List.length_eq_zero_iff.1 (by simpa using hl)
    exact ⟨vs, rfl, hr, rfl⟩
  | cons p r ih =>
    intro cs cs' h vs us hr hl hp
    obtain ⟨i, x⟩ := p
    cases us with
    | nil => simp at hl
    | cons u us =>
      obtain ⟨i', v⟩ := u
      obtain ⟨e1, hx⟩ := hp 0 _ _ rfl rfl
      simp only at e1 hx
      subst e1
      simp only [fillA, Option.bind_eq_some_iff] at h
      obtain ⟨q, hq, ys, hys, h⟩ := h
      split at h
      · rename_i hc
        obtain ⟨hc1, hc2⟩ := hc
        have hv := cellsP_rep hx hys
        have hlen : v.cells.size = ys.length := by rw [← Array.length_toList]; exact hv.1
        have hvs : vs.size = cs.length := by rw [← Array.length_toList]; exact hr.1
        have hsp := foldl_splice q.1 v.cells.toList vs (by rw [Array.length_toList]; omega)
        have hcs := hr.splice hv q.1 hc2
        obtain ⟨vs', hf, hr', hl'⟩ := ih _ _ h ((v.cells.toList.zipIdx 0).foldl (fun cs (x : Value × Nat) => cs.setIfInBounds (q.1 + x.2) x.1) vs) us (by rw [hsp]; exact hcs) (by simpa using hl)
          (fun k p u h1 h2 => hp (k + 1) p u (by simpa using h1) (by simpa using h2))
        refine ⟨vs', ?_, hr', by rw [hl']; simp [splice]; omega⟩
        unfold Instr.fill
        obtain ⟨q1, q2⟩ := q
        simp only [hq]
        simp only at hc1 hc2 hf
        rw [if_neg (by simp; omega), ← Array.foldl_toList, Array.toList_zipIdx]
        exact hf
      · cases h
theorem zeroOf_rep {T : TypeId} {z : List CV} (h : zeroOf P T = some z) : ∃ i v, P.info? T = some i ∧ i.zero = some v ∧ v.cells.size = i.size ∧ i.size = P.cellsOf T ∧ z = v.cells.toList.map cstC ∧ v.cells.all (·.oneCell') = true := by
  unfold zeroOf at h
  split at h
  · rename_i i hi
    split at h
    · rename_i v hv
      split at h
      · rename_i hc
        cases h
        exact ⟨i, v, hi, hv, hc.1, by simp [Program.cellsOf, hi], rfl, hc.2⟩
      · cases h
    · cases h
  · cases h
theorem build_ok (hm : MRel g H A w) {T : TypeId} {ps : List (Nat × PV)} {us : Array (Nat × Value)} {v : PV} (hl : us.size = ps.length)
    (hp : ∀ (k : Nat) (p : Nat × PV) (u : Nat × Value), ps[k]? = some p → us.toList[k]? = some u → u.1 = p.1 ∧ PRep g A p.2 u.2) (h : buildS P T ps = some v) : POk P g H A w (Instr.build T us) v := by
  unfold buildS at h
  split at h
  · rename_i fs hu
    obtain ⟨pl, hpl, h⟩ := Option.bind_eq_some_iff.1 h
    obtain ⟨z, hz, h⟩ := Option.bind_eq_some_iff.1 h
    obtain ⟨cs, hcs, rfl⟩ := Option.map_eq_some_iff.1 h
    obtain ⟨i, zv, hi, hzv, h1, h2, rfl, h3⟩ := zeroOf_rep hz
    obtain ⟨vs', hf, hr, _⟩ := fill_rep _ ps _ _ hcs zv.cells us.toList (CsRep_cst (g := g) (A := A) _) (by simpa using hl) hp
    refine .here hm (run_build w T us vs' ?_) ⟨vs', rfl, hr⟩
    unfold structPl at hpl
    rw [hu] at hpl
    simp only at hpl
    unfold Program.built
    simp only [hi, hu, hzv, hpl]
    rw [← hf]
    congr 1
    funext j
    simp
  · rename_i n e hu
    split at h
    · rename_i hpos
      obtain ⟨z, hz, h⟩ := Option.bind_eq_some_iff.1 h
      obtain ⟨cs, hcs, rfl⟩ := Option.map_eq_some_iff.1 h
      obtain ⟨i, zv, hi, hzv, h1, h2, rfl, h3⟩ := zeroOf_rep hz
      obtain ⟨vs', hf, hr, _⟩ := fill_rep _ ps _ _ hcs zv.cells us.toList (CsRep_cst (g := g) (A := A) _) (by simpa using hl) hp
      obtain ⟨ie, hie, hsz⟩ := cellsOf_pos hpos
      refine .here hm (run_build w T us vs' ?_) ⟨vs', rfl, hr⟩
      unfold Program.built
      simp only [hi, hu, hzv, hie, hsz]
      exact hf
    · cases h
  · cases h
theorem commit (hm : MRel g H A w) (vs : Array Value) (e : TypeId) (n : Nat) (w1 : World) (h1 : w1.heap = w.heap) (h2 : w1.os = w.os) (h3 : w1.tape = w.tape) (h4 : w1.output = w.output) :
    ∃ g', (∀ o, o < n → g'.C w.heap.size o = vs[o]?) ∧ (∀ o, n ≤ o → g'.C w.heap.size o = none) ∧ MRel g' H A (w1.alloc (.cells vs e)) ∧ Evol g A w g' A (w1.alloc (.cells vs e)) ∧ g'.β = g.β ∧ g'.τ = g.τ ∧ g'.O = g.O := by
  have hsz : w1.heap.size = w.heap.size := by rw [h1]
  have hnone : ∀ o, g.C w.heap.size o = none := by
    intro o
    cases hc : g.C w.heap.size o with
    | none => rfl
    | some v => exact absurd (C_lt hm hc) (by omega)
  have hmono : ∀ b o v, g.C b o = some v → b ≠ w.heap.size := fun b o v hc => by have := C_lt hm hc; omega
  have hold : ∀ b, b < w.heap.size → (w1.alloc (.cells vs e)).heap[b]? = w.heap[b]? := by
    intro b hb
    rw [heap_alloc_old w1 _ b (by omega), h1]
  let g' : Gh := { g with C := fun b o => if b = w.heap.size then (if o < n then vs[o]? else none) else g.C b o }
  have hC : ∀ b o, b ≠ w.heap.size → g'.C b o = g.C b o := fun b o hb => by simp [g', hb]
  have hM : Mono g A g' A := ⟨fun b o v hc => by rw [hC b o (hmono b o v hc)]; exact hc, fun _ _ h => h, fun _ ar h => ⟨ar, h, TokLe.refl _ _⟩⟩
  refine ⟨g', fun o ho => by simp [g', ho], fun o ho => by simp only [g', if_true]; rw [if_neg (by omega)], ⟨?_, ?_, ?_, ?_⟩, ⟨hM, ?_, ?_, fun b hb _ o => hC b o (by omega), by simp [hsz], h2, h3, h4⟩, rfl, rfl, rfl⟩
  · intro b o v hc
    by_cases hb : b = w.heap.size
    · subst hb
      simp only [g', if_true] at hc
      split at hc
      · rw [show w.heap.size = w1.heap.size from hsz.symm, World.cell?_alloc_new]
        exact hc
      · cases hc
    · rw [hC b o hb] at hc
      have := hm.com b o v hc
      rw [World.cell?_of_block (w := w) (hold b (C_lt hm hc))]
      exact this
  · intro id b hb
    obtain ⟨ho, hc, cs, vs', e', fz, hH, hh, hu, hr⟩ := hm.var id b hb
    have hlt := heap_lt hh
    exact ⟨ho, fun o => by rw [hC b o (by omega)]; exact hc o, cs, vs', e', fz, hH, by rw [hold b hlt]; exact hh, hu, hr.mono hM⟩
  · intro κ ar hA
    have ht := hm.tok κ ar hA
    cases ar with
    | co sz n' =>
      obtain ⟨a, cap, h1, h2, h3⟩ := ht
      refine ⟨a, cap, h1, h2, h3.imp id ?_⟩
      rintro ⟨b, rfl, ho, hc, vs', e', fz, hh, rest⟩
      have hlt := heap_lt hh
      exact ⟨b, rfl, ho, fun j hj => by rw [hC b j (by omega)]; exact hc j hj, vs', e', fz, by rw [hold b hlt]; exact hh, rest⟩
    | mu sz els =>
      obtain ⟨hs, a, cap, h1, h2, h3⟩ := ht
      refine ⟨hs, a, cap, h1, h2, h3.imp id ?_⟩
      rintro ⟨b, rfl, ho, hc, vs', e', fz, hh, hu, hcap, hr⟩
      have hlt := heap_lt hh
      exact ⟨b, rfl, ho, fun j => by rw [hC b j (by omega)]; exact hc j, vs', e', fz, by rw [hold b hlt]; exact hh, hu, hcap, fun i k e' x h1 h2 => by
        obtain ⟨u, hu, hd⟩ := hr i k e' x h1 h2
        exact ⟨u, hu, DRep.mono hM.C hd⟩⟩
    | mp m =>
      obtain ⟨b, es, clock, h1, ho, hc, hh, hr⟩ := ht
      have hlt := heap_lt hh
      exact ⟨b, es, clock, h1, ho, fun j => by rw [hC b j (by omega)]; exact hc j, by rw [hold b hlt]; exact hh, hr⟩
  · intro b o ho
    have := hm.own b o ho
    simp [hsz]
    omega
  · intro b hb _
    exact hold b hb
  · intro b _ h
    exact h
theorem getElem?_chunk {α : Type} (size : Nat) : ∀ (n : Nat) (l : List α) (i : Nat), (chunk size n l)[i]? = if i < n then some ((l.drop (i * size)).take size) else none
  | 0, _, i => by simp [chunk]
  | n + 1, l, 0 => by simp [chunk]
  | n + 1, l, i + 1 => by
    simp only [chunk, List.getElem?_cons_succ, getElem?_chunk size n]
    by_cases h : i < n
    · rw [if_pos h, if_pos (by omega), List.drop_drop, Nat.add_mul, Nat.one_mul, Nat.add_comm]
    · rw [if_neg h, if_neg (by omega)]
theorem length_chunk {α : Type} (size : Nat) : ∀ (n : Nat) (l : List α), (chunk size n l).length = n
  | 0, _ => rfl
  | n + 1, l => by simp [chunk, length_chunk size n]
theorem DRep_chunk {C : Nat → Nat → Option Value} {size n b cap : Nat} {ds : List D} {vs : List Value} (hl : ds.length = n * size) (hvl : vs.length = n * size) (hcap : n ≤ cap)
    (hr : ∀ (k : Nat) (x : D), ds[k]? = some x → ∃ v, vs[k]? = some v ∧ DRep C x v) (hC : ∀ o, o < n * size → C b o = vs[o]?) :
    DRep C (.sl (chunk size n ds)) (.slice (some ⟨b, 0, none⟩) n cap) := by
  have hin : ∀ i k, i < n → k < size → i * size + k < n * size := fun i k hi hk => by
    have := Nat.mul_le_mul_right size (show i + 1 ≤ n from hi)
    rw [Nat.add_mul, Nat.one_mul] at this
    omega
  refine .sl _ b 0 cap size n (fun i k => vs.getD (i * size + k) undef) (length_chunk _ _ _).symm hcap ?_ ?_ ?_
  · intro e he
    obtain ⟨i, hi⟩ := List.mem_iff_getElem?.1 he
    rw [getElem?_chunk] at hi
    split at hi
    · rename_i hin'
      cases hi
      have := Nat.mul_le_mul_right size (show i + 1 ≤ n from hin')
      rw [Nat.add_mul, Nat.one_mul] at this
      simp
      omega
    · cases hi
  · intro i k hi hk
    rw [Nat.zero_add, hC _ (hin i k hi hk), List.getD_eq_getElem?_getD]
    have := hin i k hi hk
    rw [List.getElem?_eq_getElem (by omega)]
    rfl
  · intro i k e x he hx
    rw [getElem?_chunk] at he
    split at he
    · cases he
      rw [List.getElem?_take] at hx
      split at hx
      · rw [List.getElem?_drop] at hx
        obtain ⟨v, hv, hd⟩ := hr _ _ hx
        simp only [List.getD_eq_getElem?_getD, hv, Option.getD_some]
        exact hd
      · cases hx
    · cases he
theorem flatten_replicate_get {α : Type} (z : List α) (hz : 0 < z.length) : ∀ (n k : Nat), (List.replicate n z).flatten[k]? = if k < n * z.length then z[k % z.length]? else none
  | 0, k => by simp
  | n + 1, k => by
    rw [List.replicate_succ, List.flatten_cons, List.getElem?_append]
    by_cases h : k < z.length
    · rw [if_pos h, if_pos (by rw [Nat.add_mul]; omega), Nat.mod_eq_of_lt h]
    · rw [if_neg h, flatten_replicate_get z hz n]
      have e : (k - z.length) % z.length = k % z.length := by
        rw [← Nat.mod_eq_sub_mod (by omega)]
      by_cases h2 : k - z.length < n * z.length
      · rw [if_pos h2, if_pos (by rw [Nat.add_mul]; omega), e]
      · rw [if_neg h2, if_neg (by rw [Nat.add_mul]; omega)]
theorem zeros_rep (z : Array Value) (n : Nat) (hz : 0 < z.size) : CsRep g A (List.replicate n (z.toList.map cstC)).flatten ((Array.range (n * z.size)).map (z[· % z.size]!)).toList := by
  refine ⟨by simp, fun k c hk => ?_⟩
  rw [flatten_replicate_get _ (by simpa using hz)] at hk
  simp only [List.length_map, Array.length_toList] at hk
  split at hk
  · rename_i hlt
    simp only [List.getElem?_map, Option.map_eq_some_iff] at hk
    obtain ⟨v, hv, rfl⟩ := hk
    refine ⟨v, ?_, CRep_cstC v⟩
    have hm : k % z.size < z.size := Nat.mod_lt _ hz
    simp only [Array.getElem?_toList] at hv
    have hz' : z[k % z.size]! = v := by
      rw [getElem!_pos z _ hm]
      rw [Array.getElem?_eq_getElem hm] at hv
      simpa using hv
    simp [hlt, hz']
  · cases hk
theorem bsl_ok (hm : MRel g H A w) {T : TypeId} {n : Nat} {ps : List (Nat × PV)} {us : Array (Nat × Value)} {v : PV} (hl : us.size = ps.length)
    (hp : ∀ (k : Nat) (p : Nat × PV) (u : Nat × Value), ps[k]? = some p → us.toList[k]? = some u → u.1 = p.1 ∧ PRep g A p.2 u.2) (h : bslS P T n ps = some v) : POk P g H A w (Instr.buildSlice T n us) v := by
  unfold bslS at h
  split at h
  · rename_i e hu
    obtain ⟨z, hz, h⟩ := Option.bind_eq_some_iff.1 h
    split at h
    · rename_i hc
      obtain ⟨hsmall, hpos, hn⟩ := hc
      obtain ⟨cs, hcs, h⟩ := Option.bind_eq_some_iff.1 h
      obtain ⟨ds, hds, rfl⟩ := Option.map_eq_some_iff.1 h
      obtain ⟨i, zv, hi, hzv, h1, h2, rfl, h3⟩ := zeroOf_rep hz
      have hzr := zeros_rep (g := g) (A := A) zv.cells n (by omega)
      obtain ⟨vs', hf, hr, hlen⟩ := fill_rep _ ps _ _ hcs _ us.toList hzr (by simpa using hl) hp
      have hrun : (Instr.buildSlice T n us).run P w = .ok (.slice (some ⟨w.heap.size, 0, none⟩) n n) (w.alloc (.cells vs' e)) := by
        refine run_buildSlice w T e n us vs' i zv hu hi hzv (by rw [h2]; omega) (by rw [h2]; exact Nat.mul_ne_zero (by omega) (by omega)) ?_
        rw [h2]
        rw [h1, h2] at hf
        rw [h1, h2]
        exact hf
      have hvl : vs'.size = n * P.cellsOf e := by
        have := hr.1
        rw [Array.length_toList] at this
        rw [this, hlen]
        simp [h1, h2]
      obtain ⟨d1, d2⟩ := toDs_rep hds
      obtain ⟨g', c1, c2, m1, ev1, b1, _, _⟩ := commit hm vs' e (n * P.cellsOf e) w rfl rfl rfl rfl
      refine ⟨_, _, g', hrun, ⟨?_, rfl⟩, m1, ev1, b1⟩
      refine DRep_chunk (vs := vs'.toList) (by rw [d1, hlen]; simp [h1, h2]) (by rw [Array.length_toList]; exact hvl) (Nat.le_refl _) (fun k x hk => ?_) (fun o ho => by rw [c1 o ho, Array.getElem?_toList])
      obtain ⟨c, hc, hrep⟩ := d2 k x hk
      obtain ⟨v, hv, hcr⟩ := hr.2 k c hc
      exact ⟨v, hv, DRep.mono ev1.mono.C (hrep v hcr)⟩
    · cases h
  · cases h
theorem madeCells_eq (z : Array Value) (n : Nat) : madeCells z n = (Array.range n).map (z[· % z.size]!) := rfl
theorem mks_ok (hm : MRel g H A w) {T : TypeId} {l c v : PV} {ul uc : Value} (hl : PRep g A l ul) (hc : PRep g A c uc) (h : mksS P T l c = some v) : POk P g H A w (Instr.makeSlice T ul uc) v := by
  unfold mksS at h
  split at h
  · rename_i e hu
    obtain ⟨n, hn, h⟩ := Option.bind_eq_some_iff.1 h
    obtain ⟨n', hn', h⟩ := Option.bind_eq_some_iff.1 h
    obtain ⟨z, hz, h⟩ := Option.bind_eq_some_iff.1 h
    split at h
    · rename_i hcond
      obtain ⟨ds, hds, rfl⟩ := Option.map_eq_some_iff.1 h
      clear h
      obtain ⟨hnn, hsmall, hpos, hnp, hby⟩ := hcond
      subst hnn
      obtain ⟨kl, rfl⟩ := natOf_rep hl hn
      obtain ⟨kc, rfl⟩ := natOf_rep hc hn'
      obtain ⟨i, zv, hi, hzv, h1, h2, rfl, h3⟩ := zeroOf_rep hz
      have hbyi : P.bytesOf e = i.bytes := by simp [Program.bytesOf, hi]
      have hzr := zeros_rep (g := g) (A := A) zv.cells n (by omega)
      have hsm : n ≤ 16777216 := Nat.le_trans (Nat.le_mul_of_pos_right n hpos) hsmall
      have hrun := run_makeSlice (P := P) w T e i zv hu hi hzv kl kc (n : Int) (n : Int) (by omega) (by omega) (by rw [h2]; simpa using hsmall) (by
        rw [hbyi] at hby
        have : (i.bytes : Int) * (n : Int) = ((n * i.bytes : Nat) : Int) := by rw [Nat.mul_comm]; simp
        rw [this]; omega) (by omega)
      simp only [Int.toNat_natCast] at hrun
      have hvl : (madeCells zv.cells (n * i.size)).size = n * P.cellsOf e := by rw [madeCells_eq]; simp [h2]
      have hr : CsRep g A (List.replicate n (zv.cells.toList.map cstC)).flatten (madeCells zv.cells (n * i.size)).toList := by
        rw [madeCells_eq, ← h1]; exact hzr
      obtain ⟨d1, d2⟩ := toDs_rep hds
      obtain ⟨g', c1, c2, m1, ev1, b1, _, _⟩ := commit hm (madeCells zv.cells (n * i.size)) e (n * P.cellsOf e) w rfl rfl rfl rfl
      refine ⟨_, _, g', hrun, ⟨?_, rfl⟩, m1, ev1, b1⟩
      refine DRep_chunk (vs := (madeCells zv.cells (n * i.size)).toList) (by rw [d1]; simp [h1, h2]) (by rw [Array.length_toList]; exact hvl) (Nat.le_refl _) (fun k x hk => ?_) (fun o ho => by rw [c1 o ho, Array.getElem?_toList])
      obtain ⟨c, hc, hrep⟩ := d2 k x hk
      obtain ⟨v, hv, hcr⟩ := hr.2 k c hc
      exact ⟨v, hv, DRep.mono ev1.mono.C (hrep v hcr)⟩
    · cases h
  · cases h
end Go.PW

namespace Go.PW
inductive RT where
  | d (x : D)
  | own (sz : Nat) (els : List (List D))
  | mu (sz : Nat) (els : List (List D))
  | agg (cs : List D)
inductive RV where
  | one (r : RT)
  | tup (rs : List RT)
def RT.tv (κ : Tok) : RT → TV
  | .d x => .c (.d x)
  | .own _ els => .c (.own κ els)
  | .mu sz els => .c (.mt κ sz els.length)
  | .agg cs => .agg (cs.map .d)
def RT.ar : RT → Option Arr
  | .d _ => none
  | .own sz els => some (.co sz els.length)
  | .mu sz els => some (.mu sz els)
  | .agg _ => none
def RV.list : RV → List RT
  | .one r => [r]
  | .tup rs => rs
def RT.tvs (id : Nat) : Nat → List RT → List TV
  | _, [] => []
  | k, r :: rs => r.tv (id, k) :: RT.tvs id (k + 1) rs
def RV.pv (id : Nat) : RV → PV
  | .one r => (r.tv (id, 0)).pv
  | .tup rs => .tup (RT.tvs id 0 rs)
def RT.install (id : Nat) (A : AMap) : Nat → List RT → AMap
  | _, [] => A
  | k, r :: rs => match r.ar with
    | some ar => upd (RT.install id A (k + 1) rs) (id, k) (some ar)
    | none => RT.install id A (k + 1) rs
def Above (n : Nat) (H : HMap) (A : AMap) : Prop := ∀ id, n ≤ id → H id = none ∧ ∀ k, A (id, k) = none
structure Env where
  P : Program
  Γ : FuncId → List PV → RV → Prop
  Γe : FuncId → Nat → HMap → AMap → List PV → PV → HMap → AMap → Prop
  effs : List FuncId
  off : Nat
  md : List Nat
  st : List Nat
def capPV (p : Nat × Nat) : PV := .c (.ptr p.1 p.2)
def callV (E : Env) (d : Nat) (f : FuncId) (H : HMap) (A : AMap) (args : List PV) (K : PV → HMap → AMap → Prop) : Prop :=
  match E.effs.contains f with
  | true => ∃ v H' A', E.Γe f (E.off + 1000) H A (args.map PV.frz) v H' A' ∧ Above (E.off + 1000) H A ∧ K v H' A'
  | false => match E.effs.contains (2000000 + f) with
    | true => ∃ v, E.Γe f (E.off + 1000) H A (args.map PV.frz) v H A ∧ Above (E.off + 1000) H A ∧ K v H A
    | false => match E.effs.contains (7000000 + f) with
      | true => ∃ v, (∀ H2 : HMap, (∀ id, H id ≠ none → H2 id = H id) → (∀ id, E.off + 1000 ≤ id → H2 id = none) → E.Γe f (E.off + 1000) H2 A (args.map PV.frz) v H2 A) ∧ Above (E.off + 1000) H A ∧ K v H A
      | false => ∃ r, E.Γ f (args.map PV.frz) r ∧ (∀ k, A (E.off + d, k) = none) ∧ K (r.pv (E.off + d)) H (RT.install (E.off + d) A 0 r.list)
def callvV (E : Env) (H : HMap) (A : AMap) (x : PV) (args : List PV) (K : PV → HMap → AMap → Prop) : Prop :=
  match x with
  | .c (.fn f caps) => ∃ v H' A', E.Γe f (E.off + 1000) H A (args.map PV.frz ++ caps.map capPV) v H' A' ∧ Above (E.off + 1000) H A ∧ K v H' A'
  | .c (.bfn f fst caps) => ∃ v H' A', E.Γe f (E.off + 1000) H A (fst.map capPV ++ (args.map PV.frz ++ caps.map capPV)) v H' A' ∧ Above (E.off + 1000) H A ∧ K v H' A'
  | _ => False
def boxS (x : PV) : Option (List CV) := (cellsP x).bind fun cs => if cs.all CV.known = true then some cs else none
def pureV (P : Program) (rop : ROp) (K : PV → Prop) : Prop :=
  match rop with
  | .slc T x lo hi mx => slcV P T x lo hi mx K
  | rop => Opt (pureS P rop) K
def appC (E : Env) (d : Option Nat) (H : HMap) (A : AMap) (ats : List TypeId) (args : List PV) (K : PV → HMap → AMap → Prop) : Prop :=
  match args with
  | [x, y] => Opt d fun d => appV E.P E.md E.off d A ats x y fun v A' => K v H A'
  | _ => False
def isStr (P : Program) (t : TypeId) : Bool := match P.underlying t with
  | some .string => true
  | _ => false
def bytV (E : Env) (d : Option Nat) (st dt : TypeId) (x : PV) (A : AMap) (K : PV → AMap → Prop) : Prop :=
  (isStr E.P st = true ∧ isBytes E.P dt = true) ∧ Opt d fun d => Opt (strOf? x) fun s => A (E.off + d, 0) = none ∧ (match E.md.contains d with
    | true => K (.c (.mt (E.off + d, 0) 1 s.size)) (upd A (E.off + d, 0) (some (.mu 1 (bytesEls s.data.toList))))
    | false => K (.c (.own (E.off + d, 0) (bytesEls s.data.toList))) (upd A (E.off + d, 0) (some (.co 1 s.size))))
def delC (E : Env) (H : HMap) (A : AMap) (ats : List TypeId) (args : List PV) (K : PV → HMap → AMap → Prop) : Prop :=
  match ats, args with
  | t :: _, [x, k] => Opt (mdelS E.P A t x k) fun A' => K (.c .any) H A'
  | _, _ => False
def isFresh (effs : List FuncId) (d : TypeId) : Bool := effs.contains (1000000 + d)
def isQuiet (effs : List FuncId) (s : TypeId) : Bool := effs.contains (3000000 + s)
def isMut (effs : List FuncId) (T : TypeId) : Bool := effs.contains (4000000 + T)
def isCount (effs : List FuncId) : List TypeId → Bool
  | [t] => effs.contains (5000000 + t)
  | _ => false
def isRow (effs : List FuncId) (T : TypeId) : Bool := effs.contains (6000000 + T)
def mksV (E : Env) (d : Option Nat) (T : TypeId) (l c : PV) (A : AMap) (K : PV → AMap → Prop) : Prop :=
  Opt d fun d => Opt (elsF (mksS E.P T l c)) fun els => A (E.off + d, 0) = none ∧ K (.c (.mt (E.off + d, 0) (szOf E.P T) els.length)) (upd A (E.off + d, 0) (some (.mu (szOf E.P T) els)))
def bslV (E : Env) (d : Option Nat) (T : TypeId) (n : Nat) (ps : List (Nat × PV)) (H : HMap) (K : PV → HMap → Prop) : Prop :=
  Opt d fun d => Opt (bslC E.P T n ps) fun cs => H (E.off + d) = none ∧ K (.c (.vsl (E.off + d) n)) (upd H (E.off + d) (some cs))
def StepV (E : Env) (fb : Option (List Nat)) (d : Option Nat) (rop : ROp) (H : HMap) (A : AMap) (K : PV → HMap → AMap → Prop) : Prop :=
  match rop with
  | .alloc T => Opt d fun d => Opt (zeroOf E.P T) fun z => H (E.off + d) = none ∧ K (.c (.ptr (E.off + d) 0)) (upd H (E.off + d) (some z)) A
  | .box _ x => Opt d fun d => Opt (boxS x) fun z => H (E.off + d) = none ∧ K (.c (.ptr (E.off + d) 0)) (upd H (E.off + d) (some z)) A
  | .load T a => Opt (loadS E.P fb H A T a) fun v => K v H A
  | .store T a x => 0 < E.P.cellsOf T ∧ Opt (storeS E.P fb H A T a x) fun m => K (.c .skip) m.1 m.2
  | .call f args => (match isKeep fb with
    | true => callV E (d.getD 0) f H A args fun v H' A' => (∀ id ∈ keepL fb, H' id = H id) ∧ K v H' A'
    | false => callV E (d.getD 0) f H A args K)
  | .callv x args => callvV E H A x args K
  | .blt .append ats _ args => appC E d H A ats args K
  | .blt .delete ats _ args => delC E H A ats args K
  | .mmk _ => Opt d fun d => A (E.off + d, 0) = none ∧ K (.c (.mpr (E.off + d, 0))) H (upd A (E.off + d, 0) (some (.mp [])))
  | .mlk T x i ok => Opt (lookS E.P A T x i ok) fun v => K v H A
  | .mup T m k v => Opt (mupS E.P A T m k v) fun A' => K (.c .any) H A'
  | .conv s dt x => (match isFresh E.effs dt with
    | true => bytV E d s dt x A fun v A' => K v H A'
    | false => (match isQuiet E.effs s with
      | true => Opt (convA E.P A s dt x) fun v => K v H A
      | false => pureV E.P (.conv s dt x) fun v => K v H A))
  | .mks T l c => (match isMut E.effs T with
    | true => mksV E d T l c A fun v A' => K v H A'
    | false => pureV E.P (.mks T l c) fun v => K v H A)
  | .bsl T n ps => (match isRow E.effs T with
    | true => bslV E d T n ps H fun v H' => K v H' A
    | false => pureV E.P (.bsl T n ps) fun v => K v H A)
  | .blt .len ats T args => (match isCount E.effs ats with
    | true => Opt (lenM E.P A ats args) fun v => K v H A
    | false => pureV E.P (.blt .len ats T args) fun v => K v H A)
  | rop => pureV E.P rop fun v => K v H A
theorem Opt.iff {α : Type} {x : Option α} {K : α → Prop} : Opt x K ↔ ∃ a, x = some a ∧ K a := by
  cases x with
  | none => simp [Opt]
  | some a => simp [Opt]
theorem slcM_ex {els : List (List D)} {l h : Nat} {mx : Option PV} {K : PV → Prop} (hh : slcM els l h mx K) : ∃ v, slcM els l h mx (· = v) ∧ K v := by
  unfold slcM at hh ⊢
  split at hh
  · exact ⟨_, rfl, hh⟩
  · obtain ⟨m, hm, he, hK⟩ := Opt.iff.1 hh
    exact ⟨_, Opt.iff.2 ⟨m, hm, he, rfl⟩, hK⟩
theorem pureV_ex {P : Program} {rop : ROp} {K : PV → Prop} (h : pureV P rop K) : ∃ v, pureV P rop (· = v) ∧ K v := by
  unfold pureV at h ⊢
  split at h
  · unfold slcV at h ⊢
    split at h
    · obtain ⟨hn, h⟩ := h
      obtain ⟨s, hs, h⟩ := Opt.iff.1 h
      obtain ⟨l, hl, h⟩ := Opt.iff.1 h
      obtain ⟨e, he, hb, h⟩ := Opt.iff.1 h
      exact ⟨_, ⟨hn, Opt.iff.2 ⟨s, hs, Opt.iff.2 ⟨l, hl, Opt.iff.2 ⟨e, he, hb, rfl⟩⟩⟩⟩, h⟩
    · obtain ⟨hn, h⟩ := h
      split at h
      · unfold slcW at h ⊢
        split at h
        · obtain ⟨h1, h⟩ := h
          obtain ⟨m, hm, h2, h⟩ := Opt.iff.1 h
          exact ⟨_, ⟨hn, h1, Opt.iff.2 ⟨m, hm, h2, rfl⟩⟩, h⟩
        · exact h.elim
      · obtain ⟨l, hl, h⟩ := Opt.iff.1 h
        obtain ⟨e, he, hb, h⟩ := Opt.iff.1 h
        obtain ⟨v, hv, hK⟩ := slcM_ex h
        exact ⟨v, ⟨hn, Opt.iff.2 ⟨l, hl, Opt.iff.2 ⟨e, he, hb, hv⟩⟩⟩, hK⟩
    · exact h.elim
  · obtain ⟨a, ha, h⟩ := Opt.iff.1 h
    exact ⟨a, Opt.iff.2 ⟨a, ha, rfl⟩, h⟩
theorem appV_ex {P : Program} {md : List Nat} {k d : Nat} {A : AMap} {ats : List TypeId} {x y : PV} {K : PV → AMap → Prop} (h : appV P md k d A ats x y K) :
    ∃ v A', appV P md k d A ats x y (fun v' A'' => v' = v ∧ A'' = A') ∧ K v A' := by
  unfold appV at h ⊢
  split at h
  · split at h
    · obtain ⟨h0, h⟩ := h
      split at h
      · split at h
        · obtain ⟨h1, h⟩ := h
          split at h
          · exact ⟨_, _, ⟨h0, h1, h.1, rfl, rfl⟩, h.2⟩
          · exact ⟨_, _, ⟨h0, h1, rfl, rfl⟩, h⟩
        · exact ⟨_, _, ⟨h0, h.1, rfl, rfl⟩, h.2⟩
        · split at h
          · exact ⟨_, _, ⟨h0, h.1, rfl, rfl⟩, h.2⟩
          · exact h.elim
        · unfold appT at h ⊢
          split at h
          · obtain ⟨h1, h⟩ := h
            split at h
            · exact ⟨_, _, ⟨h0, h1, rfl, rfl⟩, h⟩
            · split at h
              · exact ⟨_, _, ⟨h0, h1, rfl, rfl⟩, h⟩
              · exact h.elim
          · exact h.elim
        · exact h.elim
      · exact h.elim
    · exact h.elim
  · exact h.elim
def StepR (E : Env) (fb : Option (List Nat)) (d : Option Nat) (rop : ROp) (H : HMap) (A : AMap) (v : PV) (H' : HMap) (A' : AMap) : Prop :=
  StepV E fb d rop H A fun v' H'' A'' => v' = v ∧ H'' = H' ∧ A'' = A'
theorem callV_ex {E : Env} {d : Nat} {f : FuncId} {H : HMap} {A : AMap} {args : List PV} {K : PV → HMap → AMap → Prop} (h : callV E d f H A args K) :
    ∃ v H' A', callV E d f H A args (fun v' H'' A'' => v' = v ∧ H'' = H' ∧ A'' = A') ∧ K v H' A' := by
  unfold callV at h ⊢
  split at h
  · obtain ⟨v, H', A', h1, h2, h3⟩ := h
    exact ⟨v, H', A', ⟨v, H', A', h1, h2, rfl, rfl, rfl⟩, h3⟩
  · split at h
    · obtain ⟨v, h1, h2, h3⟩ := h
      exact ⟨v, H, A, ⟨v, h1, h2, rfl, rfl, rfl⟩, h3⟩
    · split at h
      · obtain ⟨v, h1, h2, h3⟩ := h
        exact ⟨v, H, A, ⟨v, h1, h2, rfl, rfl, rfl⟩, h3⟩
      · obtain ⟨r, h1, h2, h3⟩ := h
        exact ⟨_, _, _, ⟨r, h1, h2, rfl, rfl, rfl⟩, h3⟩
theorem callV_mono {E : Env} {d : Nat} {f : FuncId} {H : HMap} {A : AMap} {args : List PV} {K K' : PV → HMap → AMap → Prop} (hk : ∀ v H A, K v H A → K' v H A) (h : callV E d f H A args K) : callV E d f H A args K' := by
  unfold callV at h ⊢
  split at h
  · obtain ⟨v, H', A', h1, h2, h3⟩ := h
    exact ⟨v, H', A', h1, h2, hk _ _ _ h3⟩
  · split at h
    · obtain ⟨v, h1, h2, h3⟩ := h
      exact ⟨v, h1, h2, hk _ _ _ h3⟩
    · split at h
      · obtain ⟨v, h1, h2, h3⟩ := h
        exact ⟨v, h1, h2, hk _ _ _ h3⟩
      · obtain ⟨r, h1, h2, h3⟩ := h
        exact ⟨r, h1, h2, hk _ _ _ h3⟩
theorem step_call {E : Env} {fb : Option (List Nat)} {d : Option Nat} {f : FuncId} {args : List PV} {H H' : HMap} {A A' : AMap} {v : PV} (h : StepR E fb d (.call f args) H A v H' A') :
    callV E (d.getD 0) f H A args (fun v' H'' A'' => v' = v ∧ H'' = H' ∧ A'' = A') ∧ (isKeep fb = true → ∀ id ∈ keepL fb, H' id = H id) := by
  unfold StepR StepV at h
  simp only at h
  split at h
  · rename_i hk
    refine ⟨callV_mono (fun _ _ _ e => e.2) h, fun _ => ?_⟩
    obtain ⟨v1, H1, A1, _, h2, rfl, rfl, rfl⟩ := callV_ex h
    exact h2
  · rename_i hk
    exact ⟨h, fun e => by rw [hk] at e; cases e⟩
theorem call_step {E : Env} {fb : Option (List Nat)} {d : Option Nat} {f : FuncId} {args : List PV} {H H' : HMap} {A A' : AMap} {v : PV} (h : callV E (d.getD 0) f H A args (fun v' H'' A'' => v' = v ∧ H'' = H' ∧ A'' = A')) (hk : isKeep fb = true → ∀ id ∈ keepL fb, H' id = H id) :
    StepR E fb d (.call f args) H A v H' A' := by
  unfold StepR StepV
  simp only
  split
  · rename_i e
    exact callV_mono (fun _ _ _ q => ⟨by obtain ⟨_, rfl, _⟩ := q; exact hk e, q⟩) h
  · exact h
theorem StepV_ex {E : Env} {fb : Option (List Nat)} {d : Option Nat} {rop : ROp} {H : HMap} {A : AMap} {K : PV → HMap → AMap → Prop} (h : StepV E fb d rop H A K) :
    ∃ v H' A', StepR E fb d rop H A v H' A' ∧ K v H' A' := by
  have pure1 : ∀ {rop : ROp}, (pureV E.P rop fun v => K v H A) → ∃ v H' A', (pureV E.P rop fun v' => v' = v ∧ H = H' ∧ A = A') ∧ K v H' A' := fun h => by
    obtain ⟨v, h1, h2⟩ := pureV_ex h
    refine ⟨v, H, A, ?_, h2⟩
    have e : (fun v' => v' = v) = (fun v' => v' = v ∧ H = H ∧ A = A) := by funext; simp
    rw [← e]
    exact h1
  unfold StepR
  unfold StepV at h ⊢
  split at h
  · obtain ⟨d, hd, h⟩ := Opt.iff.1 h
    obtain ⟨z, hz, h1, h⟩ := Opt.iff.1 h
    exact ⟨_, _, _, Opt.iff.2 ⟨d, hd, Opt.iff.2 ⟨z, hz, h1, rfl, rfl, rfl⟩⟩, h⟩
  · obtain ⟨d, hd, h⟩ := Opt.iff.1 h
    obtain ⟨z, hz, h1, h⟩ := Opt.iff.1 h
    exact ⟨_, _, _, Opt.iff.2 ⟨d, hd, Opt.iff.2 ⟨z, hz, h1, rfl, rfl, rfl⟩⟩, h⟩
  · obtain ⟨z, hz, h⟩ := Opt.iff.1 h
    exact ⟨_, _, _, Opt.iff.2 ⟨z, hz, rfl, rfl, rfl⟩, h⟩
  · obtain ⟨h0, h⟩ := h
    obtain ⟨z, hz, h⟩ := Opt.iff.1 h
    exact ⟨_, _, _, ⟨h0, Opt.iff.2 ⟨z, hz, rfl, rfl, rfl⟩⟩, h⟩
  · split at h
    · obtain ⟨v, H', A', h1, h2, h3⟩ := callV_ex h
      exact ⟨v, H', A', callV_mono (fun v1 H1 A1 e => by obtain ⟨rfl, rfl, rfl⟩ := e; exact ⟨h2, rfl, rfl, rfl⟩) h1, h3⟩
    · exact callV_ex h
  · unfold callvV at h ⊢
    split at h
    · obtain ⟨v, H', A', h1, h2, h3⟩ := h
      exact ⟨v, H', A', ⟨v, H', A', h1, h2, rfl, rfl, rfl⟩, h3⟩
    · obtain ⟨v, H', A', h1, h2, h3⟩ := h
      exact ⟨v, H', A', ⟨v, H', A', h1, h2, rfl, rfl, rfl⟩, h3⟩
    · exact h.elim
  · unfold appC at h ⊢
    split at h
    · obtain ⟨d, hd, h⟩ := Opt.iff.1 h
      obtain ⟨v, A', h1, h2⟩ := appV_ex h
      refine ⟨v, H, A', Opt.iff.2 ⟨d, hd, ?_⟩, h2⟩
      have e : (fun v' A'' => v' = v ∧ A'' = A') = (fun v' A'' => v' = v ∧ H = H ∧ A'' = A') := by funext; simp
      rw [← e]
      exact h1
    · exact h.elim
  · unfold delC at h ⊢
    split at h
    · obtain ⟨z, hz, h⟩ := Opt.iff.1 h
      exact ⟨_, _, _, Opt.iff.2 ⟨z, hz, rfl, rfl, rfl⟩, h⟩
    · exact h.elim
  · obtain ⟨d, hd, h1, h⟩ := Opt.iff.1 h
    exact ⟨_, _, _, Opt.iff.2 ⟨d, hd, h1, rfl, rfl, rfl⟩, h⟩
  · obtain ⟨z, hz, h⟩ := Opt.iff.1 h
    exact ⟨_, _, _, Opt.iff.2 ⟨z, hz, rfl, rfl, rfl⟩, h⟩
  · obtain ⟨z, hz, h⟩ := Opt.iff.1 h
    exact ⟨_, _, _, Opt.iff.2 ⟨z, hz, rfl, rfl, rfl⟩, h⟩
  · split at h
    · obtain ⟨h0, h⟩ := h
      obtain ⟨d, hd, h⟩ := Opt.iff.1 h
      obtain ⟨s, hs, h1, h⟩ := Opt.iff.1 h
      split at h
      · rename_i hmd
        refine ⟨_, _, _, ⟨h0, Opt.iff.2 ⟨d, hd, Opt.iff.2 ⟨s, hs, h1, ?_⟩⟩⟩, h⟩
        rw [hmd]
        exact ⟨rfl, rfl, rfl⟩
      · rename_i hmd
        refine ⟨_, _, _, ⟨h0, Opt.iff.2 ⟨d, hd, Opt.iff.2 ⟨s, hs, h1, ?_⟩⟩⟩, h⟩
        rw [hmd]
        exact ⟨rfl, rfl, rfl⟩
    · split at h
      · obtain ⟨z, hz, h⟩ := Opt.iff.1 h
        exact ⟨_, _, _, Opt.iff.2 ⟨z, hz, rfl, rfl, rfl⟩, h⟩
      · exact pure1 h
  · split at h
    · obtain ⟨d, hd, h⟩ := Opt.iff.1 h
      obtain ⟨els, hs, h1, h⟩ := Opt.iff.1 h
      exact ⟨_, _, _, Opt.iff.2 ⟨d, hd, Opt.iff.2 ⟨els, hs, h1, rfl, rfl, rfl⟩⟩, h⟩
    · exact pure1 h
  · split at h
    · obtain ⟨d, hd, h⟩ := Opt.iff.1 h
      obtain ⟨els, hs, h1, h⟩ := Opt.iff.1 h
      exact ⟨_, _, _, Opt.iff.2 ⟨d, hd, Opt.iff.2 ⟨els, hs, h1, rfl, rfl, rfl⟩⟩, h⟩
    · exact pure1 h
  · split at h
    · obtain ⟨z, hz, h⟩ := Opt.iff.1 h
      exact ⟨_, _, _, Opt.iff.2 ⟨z, hz, rfl, rfl, rfl⟩, h⟩
    · exact pure1 h
  · obtain ⟨v, h1, h2⟩ := pureV_ex h
    refine ⟨v, H, A, ?_, h2⟩
    have e : (fun v' => v' = v) = (fun v' => v' = v ∧ H = H ∧ A = A) := by funext; simp
    rw [← e]
    exact h1
def put (ρ : Nat → PV) (d : Option Nat) (v : PV) : Nat → PV :=
  match d with
  | some d => upd ρ d v
  | none => ρ
def gOf (want : Bool) : PV → Option Bool
  | .c (.d (.lit (.bool b))) => some (b == want)
  | .c .skip => some false
  | _ => none
def guardA (ops : Array Oper) (ρ : Nat → PV) (g : Option (Nat × Bool)) : Option Bool :=
  match g with
  | none => some true
  | some (j, want) => match (ops[j]?).bind (·.dst) with
    | none => some false
    | some t => gOf want (ρ t)
def RunV (E : Env) (fb : Option (List Nat)) (ops : Array Oper) : List Oper → St → (St → Prop) → Prop
  | [], S, K => K S
  | o :: r, S, K => Opt (guardA ops S.ρ o.guard) fun g =>
      (g = true → StepV E fb o.dst (res (ev S.ρ) o.type o.op) S.H S.A fun v H A => RunV E fb ops r ⟨put S.ρ o.dst v, H, A⟩ K) ∧
      (g = false → RunV E fb ops r ⟨put S.ρ o.dst (.c .skip), S.H, S.A⟩ K)
def newId (off : Nat) (o : Oper) : Option Nat :=
  match o.op, o.dst with
  | .alloc _, some d => some (off + d)
  | .box _ _, some d => some (off + d)
  | _, _ => none
def lwE (id : Nat) : List Nat → Bool
  | [] => false
  | e :: r => if e / 1000 = id + 1 then true else lwE id r
def lwIds (off id : Nat) : List Nat → List Nat
  | [] => []
  | e :: r => if e / 1000 = id + 1 then (off + e % 1000) :: lwIds off id r else lwIds off id r
def mkM : Bool → Nat
  | true => 1
  | false => 0
theorem lwOf_mkM {b : Bool} {l : List Nat} : lwOf (some (mkM b :: l)) = b := by cases b <;> rfl
theorem isKeep_mkM {b : Bool} {l : List Nat} : isKeep (some (mkM b :: l)) = false := by cases b <;> rfl
theorem blocked_mkM {b : Bool} {l : List Nat} {id : Nat} : blocked (some (mkM b :: l)) id = l.contains id := by cases b <;> rfl
def kpE (id : Nat) : List Nat → Bool
  | [] => false
  | e :: r => if e / 1000 = 1001 + id then true else kpE id r
def kpSl (id : Nat) : List Nat → List Nat
  | [] => []
  | e :: r => if e / 1000 = 1001 + id then (e % 1000) :: kpSl id r else kpSl id r
def fbOf (E : Env) (id : Nat) (ops : Array Oper) (draw : Bool) : Option (List Nat) :=
  match draw with
  | false => none
  | true => match E.st.contains id with
    | true => none
    | false => match kpE id E.st with
      | true => some (2 :: (kpSl id E.st).map fun s => E.off + s)
      | false => some (mkM (lwE id E.st) :: (lwIds E.off id E.st ++ ops.toList.filterMap (newId E.off)))
structure Post where
  nrm : St → Prop
  ret : St → Prop
  ext : Nat → St → Prop
def CV.ok (hk : Nat → Prop) (tk : Tok → Prop) : CV → Prop
  | .own κ _ => tk κ
  | .mt κ _ _ => tk κ
  | .tv κ _ _ _ => tk κ
  | .mptr κ _ _ _ _ => tk κ
  | .ptr id _ => hk id
  | .fn _ caps => ∀ p ∈ caps, hk p.1
  | .mpr κ => tk κ
  | .vsl id _ => hk id
  | .bfn _ fst caps => (∀ p ∈ fst, hk p.1) ∧ ∀ p ∈ caps, hk p.1
  | _ => True
def CV.wk (H' : HMap) (A A' : AMap) (new old : CV) : Prop :=
  new = .any ∨
  (new = old ∧ new.ok (fun id => H' id ≠ none) (fun κ => A' κ ≠ none ∧ A' κ = A κ)) ∨
  (∃ els, new = .d (.sl els) ∧ (old = .full els ∨ ∃ κ, old = .own κ els)) ∨
  (old = .full [] ∧ ∃ κ sz, new = .own κ [] ∧ A κ = none ∧ A' κ = some (.co sz 0)) ∨
  (old = .full [] ∧ ∃ κ sz, (new = .mt κ sz 0 ∨ new = .tv κ sz 0 0) ∧ A κ = none ∧ A' κ = some (.mu sz []))
def TV.wk (H' : HMap) (A A' : AMap) : TV → TV → Prop
  | .c x, .c y => CV.wk H' A A' x y
  | .agg cs, .agg ds => cs.length = ds.length ∧ ∀ (k : Nat) (c d : CV), cs[k]? = some c → ds[k]? = some d → CV.wk H' A A' c d
  | _, _ => False
def PV.wk (H' : HMap) (A A' : AMap) : PV → PV → Prop
  | .c .any, _ => True
  | .c x, .c y => CV.wk H' A A' x y
  | .agg cs, .agg ds => cs.length = ds.length ∧ ∀ (k : Nat) (c d : CV), cs[k]? = some c → ds[k]? = some d → CV.wk H' A A' c d
  | .tup xs, .tup ys => xs.length = ys.length ∧ ∀ (k : Nat) (x y : TV), xs[k]? = some x → ys[k]? = some y → TV.wk H' A A' x y
  | _, _ => False
structure Weak (H0 : HMap) (A0 : AMap) (S S' : St) : Prop where
  ρ : ∀ t, PV.wk S'.H S.A S'.A (S'.ρ t) (S.ρ t)
  H : ∀ id, S'.H id = none ∨ ∃ cs ds, S'.H id = some cs ∧ S.H id = some ds ∧ cs.length = ds.length ∧ ∀ (k : Nat) (c d : CV), cs[k]? = some c → ds[k]? = some d → CV.wk S'.H S.A S'.A c d
  A : ∀ κ, S'.A κ = none ∨ S'.A κ = S.A κ ∨ (S.A κ = none ∧ ∃ sz, S'.A κ = some (.co sz 0) ∨ S'.A κ = some (.mu sz []))
  kH : ∀ id, H0 id ≠ none → S'.H id ≠ none
  kA : ∀ κ, A0 κ ≠ none → S'.A κ ≠ none
def VC (E : Env) (H0 : HMap) (A0 : AMap) : Code → Post → St → Prop
  | .skip, Q, S => Q.nrm S
  | .region id ops draw, Q, S => RunV E (fbOf E id ops draw) ops ops.toList S Q.nrm
  | .seq a b, Q, S => VC E H0 A0 a { Q with nrm := VC E H0 A0 b Q } S
  | .cond c x y, Q, S => Opt (boolOf? (ev S.ρ c)) fun b => (b = true → VC E H0 A0 x Q S) ∧ (b = false → VC E H0 A0 y Q S)
  | .block id c, Q, S => VC E H0 A0 c { Q with ext := fun j S' => if j = id then Q.nrm S' else Q.ext j S' } S
  | .loop c, Q, S => ∃ (ι : Type) (F : ι → St) (μ : ι → Nat), (∃ i, Weak H0 A0 S (F i)) ∧ ∀ i, VC E H0 A0 c { Q with nrm := fun S' => ∃ j, Weak H0 A0 S' (F j) ∧ μ j < μ i } (F i)
  | .exit id, Q, S => Q.ext id S
  | .label _, Q, S => Q.nrm S
  | .scope c, Q, S => VC E H0 A0 c Q S
  | .ret, Q, S => Q.ret S
  | _, _, _ => False
end Go.PW
