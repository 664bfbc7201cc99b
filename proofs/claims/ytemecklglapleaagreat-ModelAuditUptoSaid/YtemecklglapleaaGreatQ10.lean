/-
  Parts of the proof, laid together: PwJa.
-/
import Derived.Test.YtemecklglapleaaGreatQ09
import Derived.Laws.IdiomStrings

namespace Go.PW
variable {P : Program} {g : Gh} {H : HMap} {A : AMap} {w : World}
theorem z3x {t : TypeId} (h : zj1 P t = true) : ∃ e, P.underlying t = some (.slice e) ∧ P.underlying e = some (.int .u8) ∧ P.cellsOf e = 1 := by
 unfold zj1 at h
 split at h
 · rename_i e hu
   split at h
   · rename_i he; exact ⟨e, hu, he, by simpa using h⟩
   · cases h
 · cases h
theorem yvl {t : TypeId} (h : yvk P t = true) : P.underlying t = some .string := by
 unfold yvk at h
 split at h
 · rename_i hu; exact hu
 · cases h
theorem z7e {C : Nat → Nat → Option Value} {π : Nat → Option Value} (l : List UInt8) : Flat C π 1 (zzg l) (l.map fun b => .int .u8 (b.toNat : Int)) := by
 refine ⟨by simp [zzg], fun v hv => ?_, fun i k e x he hx => ?_⟩
 · obtain ⟨b, _, rfl⟩ := List.mem_map.1 hv; rfl
 · have hi : i < l.length := by have := (List.getElem?_eq_some_iff.1 he).1; simpa [zzg] using this
   rw [zvj hi] at he
   cases he
   cases k with
   | zero =>
     simp at hx
     subst hx
     exact ⟨.int .u8 (l[i].toNat : Int), by simp [hi], .lit _ rfl⟩
   | succ k => simp at hx
theorem z5f {st dt : TypeId} {s : ByteArray} (hs : yvk P st = true) (hd : zj1 P dt = true) :
 ∃ u w', (convert st dt (.string s)).run P w = .ok u w' ∧ Grown w w' 1 s.size (s.data.toList.map fun b => .int .u8 (b.toNat : Int)) u := by
 obtain ⟨e, h1, h2, _⟩ := z3x hd
 have hrun := run_bytes_of_string w st dt e s (yvl hs) h1 h2
 have hcap := grownCap_ge w s.size 0 e
 generalize grownCap w s.size 0 e = cap at hrun hcap
 have hsz : s.data.toList.length = s.size := by rw [Array.length_toList]; rfl
 have hvs : (bytesRow s cap).size = cap := by
  unfold bytesRow
  rw [Array.size_append, Array.size_map, Array.size_replicate]
  show s.size + (cap - s.size) = cap
  omega
 refine ⟨_, _, hrun, ⟨cap, _, e, _, rfl, hcap, heap_alloc_new w.drew _, fun o ho => by simp only; omega, by rw [hvs]; omega, fun j hj => ?_, by simp [hsz]⟩, fun b hb => heap_alloc_old w.drew _ b hb, by simp, rfl, rfl, rfl⟩
 rw [Nat.mul_one] at hj
 have hj' : j < s.data.size := hj
 rw [bytesRow_at s cap j hj', List.getElem?_map, Array.getElem?_toList, Array.getElem?_eq_getElem hj']
 rfl
theorem yju (s : ByteArray) : Szd 1 (zzg s.data.toList) ∧ (zzg s.data.toList).length = s.size :=
 ⟨fun x hx => by obtain ⟨b, _, rfl⟩ := List.mem_map.1 hx; rfl, by unfold zzg; rw [List.length_map, Array.length_toList]; rfl⟩
theorem y28 (hm : MRel g H A w) {κ : Tok} {st dt : TypeId} {s : ByteArray} (hA : A κ = none) (hs : yvk P st = true) (hd : zj1 P dt = true) :
 ∃ u w' g', (convert st dt (.string s)).run P w = .ok u w' ∧ PRep g' (upd A κ (some (.co 1 s.size))) (.c (.own κ (zzg s.data.toList))) u ∧ MRel g' H (upd A κ (some (.co 1 s.size))) w' ∧ Evol g A w g' (upd A κ (some (.co 1 s.size))) w' ∧ g'.β = g.β := by
 obtain ⟨u, w', hrun, hgr⟩ := z5f (P := P) (w := w) (s := s) hs hd
 obtain ⟨hs1, hl⟩ := yju s
 obtain ⟨g', m1, m2, m3, m4, m5⟩ := z80 (κ := κ) hm hgr (z7e _) hs1 hl (fun ar ha => by rw [hA] at ha; cases ha)
 exact ⟨_, _, g', hrun, ⟨m3, 1, s.size, zzc _ _ _, by rw [hl]; exact Zlr _, fun _ => .inl m4⟩, m1, m2, m5⟩
theorem y0e (hm : MRel g H A w) {κ : Tok} {st dt : TypeId} {s : ByteArray} (hA : A κ = none) (hs : yvk P st = true) (hd : zj1 P dt = true) :
 ∃ u w' g', (convert st dt (.string s)).run P w = .ok u w' ∧ PRep g' (upd A κ (some (.mu 1 (zzg s.data.toList)))) (.c (.mt κ 1 s.size)) u ∧ MRel g' H (upd A κ (some (.mu 1 (zzg s.data.toList)))) w' ∧ Evol g A w g' (upd A κ (some (.mu 1 (zzg s.data.toList)))) w' ∧ g'.β = g.β := by
 obtain ⟨u, w', hrun, hgr⟩ := z5f (P := P) (w := w) (s := s) hs hd
 obtain ⟨hs1, hl⟩ := yju s
 obtain ⟨g', m1, m2, m3, m4⟩ := zwj (κ := κ) hm hgr (z7e _) hs1 hl (fun ar ha => by rw [hA] at ha; cases ha)
 exact ⟨_, _, g', hrun, m3, m1, m2, m4⟩
theorem yvv (hm : MRel g H A w) {x : PV} {els : List (List D)} {u : Value} (hx : PRep g A x u) (h : y1r A x = some els) :
 ∃ a cap, u = .slice a els.length cap ∧ (els.length = 0 ∨ ∃ b, a = some ⟨b, 0, none⟩ ∧ ∀ (i : Nat) (e : List D) (y : D), els[i]? = some e → e[0]? = some y → ∃ v, w.cell? ⟨b, i, none⟩ = some v ∧ DRep g.C g.π y v) := by
 unfold y1r at h
 split at h
 · rename_i κ sz n
   split at h
   · rename_i sz' els' hA
     split at h
     · rename_i hc
       cases h
       obtain ⟨rfl, rfl, rfl⟩ := hc
       obtain ⟨a, cap, els2, rfl, ha, hA', hle, ht⟩ := hx
       rw [hA] at hA'
       cases hA'
       refine ⟨a, cap, rfl, ?_⟩
       rcases Nat.eq_zero_or_pos els.length with h0 | h0
       · exact .inl h0
       · refine .inr ?_
         obtain ⟨b, rfl⟩ := ha h0
         have hτ := (ht rfl).resolve_right (fun ⟨a, e⟩ => by injection e with e1 e2 e3; omega)
         obtain ⟨hs, a', cap', h1, h2, h3⟩ := hm.tok κ _ hA
         rw [hτ] at h1
         cases h1
         rcases h3 with h3 | ⟨b', hb', ho, hC, vs, e', fz, hh, hu, hcp, hrep⟩
         · omega
         · cases hb'
           refine ⟨b, rfl, fun i e y he hy => ?_⟩
           obtain ⟨v, hv, hd⟩ := hrep i 0 e y he hy
           exact ⟨v, zqs hh (by simpa using hv), hd⟩
     · cases h
   · cases h
 · cases h
theorem y3c (hm : MRel g H A w) {s d : TypeId} {x v : PV} {u : Value} (hx : PRep g A x u) (h : z3a P A s d x = some v) : ∃ X, (convert s d u).run P w = .ok X w ∧ PRep g A v X := by
 unfold z3a at h
 split at h
 · rename_i hd
   split at h
   · rename_i hb
     obtain ⟨els, he, h⟩ := Option.bind_eq_some_iff.1 h
     obtain ⟨l, hl, rfl⟩ := Option.map_eq_some_iff.1 h
     obtain ⟨e, h1, h2, _⟩ := z3x hb
     refine ⟨_, ?_, zq2 rfl⟩
     obtain ⟨a, cap, rfl, h3⟩ := yvv hm hx he
     have hle := z1o hl
     have hlen : els.length = l.length := by rw [hle]; simp [zzg]
     rcases h3 with h3 | ⟨b, rfl, h3⟩
     · have : l = [] := List.length_eq_zero_iff.1 (by omega)
       subst this
       rw [h3]
       cases a with
       | none => rw [run_convert_bytes_string w s d e _ 0 cap h1 h2 hd]; rfl
       | some a => exact run_convert_bytes_back w s d e a cap [] h1 h2 hd (fun j hj => by simp at hj)
     · rw [hlen]
       refine run_convert_bytes_back w s d e ⟨b, 0, none⟩ cap l h1 h2 hd (fun j hj => ?_)
       have hg := zvj hj
       rw [← hle] at hg
       obtain ⟨v, hv, hdr⟩ := h3 j _ _ hg rfl
       rw [DRep.lit_eq hdr] at hv
       rw [zx0, Nat.zero_add]
       exact hv
   · cases h
 · cases h
theorem y7p (hm : MRel g H A w) {κ : Tok} (hA : A κ = none) {T : TypeId} {l c : PV} {ul uc : Value} (hl : PRep g A l ul) (hc : PRep g A c uc) {els : List (List D)} (h : elsF (mksS P T l c) = some els) :
 ∃ u w' g', (Instr.makeSlice T ul uc).run P w = .ok u w' ∧ PRep g' (upd A κ (some (.mu (szOf P T) els))) (.c (.mt κ (szOf P T) els.length)) u ∧ MRel g' H (upd A κ (some (.mu (szOf P T) els))) w' ∧ Evol g A w g' (upd A κ (some (.mu (szOf P T) els))) w' ∧ g'.β = g.β := by
 unfold mksS at h
 split at h
 · rename_i e hu
   have hszT : szOf P T = P.cellsOf e := by unfold szOf; rw [hu]
   rw [hszT]
   cases hn : natOf? l with
   | none => rw [hn] at h; cases h
   | some n =>
   cases hn' : natOf? c with
   | none => rw [hn, hn'] at h; cases h
   | some n' =>
   cases hz : zzm P e with
   | none => rw [hn, hn', hz] at h; cases h
   | some z =>
   rw [hn, hn', hz] at h
   simp only [Option.bind_some] at h
   split at h
   · rename_i hcond
     cases hds : toDs (List.replicate n z).flatten with
     | none => rw [hds] at h; cases h
     | some ds =>
     rw [hds] at h
     simp only [Option.map_some, elsF, Option.some.injEq] at h
     obtain ⟨hnn, hsmall, hpos, hnp, hby⟩ := hcond
     subst hnn
     obtain ⟨kl, rfl⟩ := zxo hl hn
     obtain ⟨kc, rfl⟩ := zxo hc hn'
     obtain ⟨i, zv, hi, hzv, h1, h2, rfl, h3⟩ := zqy hz
     have hbyi : P.bytesOf e = i.bytes := by simp [Program.bytesOf, hi]
     have hzr := z24 (g := g) (A := A) zv.cells n (by omega)
     have hsm : n ≤ 16777216 := Nat.le_trans (Nat.le_mul_of_pos_right n hpos) hsmall
     have hrun := run_makeSlice (P := P) w T e i zv hu hi hzv kl kc (n : Int) (n : Int) (by omega) (by omega) (by rw [h2]; simpa using hsmall) (by
      rw [hbyi] at hby
      have : (i.bytes : Int) * (n : Int) = ((n * i.bytes : Nat) : Int) := by rw [Nat.mul_comm]; simp
      rw [this]; omega) (by omega)
     simp only [Int.toNat_natCast] at hrun
     have hvl : (madeCells zv.cells (n * i.size)).size = n * P.cellsOf e := by rw [zkk]; simp [h2]
     have hr : zq8 g A (List.replicate n (zv.cells.toList.map cstC)).flatten (madeCells zv.cells (n * i.size)).toList := by
      rw [zkk, ← h1]; exact hzr
     obtain ⟨d1, d2⟩ := zwt hds
     have hdl : ds.length = n * P.cellsOf e := by rw [d1]; simp [h1, h2]
     have hel : els.length = n := by rw [← h]; exact z0e _ _ _
     have hin : ∀ i k, i < n → k < P.cellsOf e → i * P.cellsOf e + k < n * P.cellsOf e := fun i k hi hk => by
      have := Nat.mul_le_mul_right (P.cellsOf e) (show i + 1 ≤ n from hi)
      rw [Nat.add_mul, Nat.one_mul] at this
      omega
     have hsz : Szd (P.cellsOf e) els := by
      intro x hx
      rw [← h] at hx
      obtain ⟨i, hi⟩ := List.mem_iff_getElem?.1 hx
      rw [getElem?_chunk] at hi
      split at hi
      · rename_i hin'
        cases hi
        have := Nat.mul_le_mul_right (P.cellsOf e) (show i + 1 ≤ n from hin')
        rw [Nat.add_mul, Nat.one_mul] at this
        simp
        omega
      · cases hi
     have hflat : Flat g.C g.π (P.cellsOf e) els (madeCells zv.cells (n * i.size)).toList := by
      refine ⟨by rw [Array.length_toList, hvl, hel], fun v hv => ?_, fun i k x y hx hy => ?_⟩
      · obtain ⟨j, hj⟩ := List.mem_iff_getElem?.1 hv
        have hjl := (List.getElem?_eq_some_iff.1 hj).1
        rw [Array.length_toList, hvl] at hjl
        obtain ⟨c, hc, hrep⟩ := d2 j ds[j] (Zge (by omega))
        obtain ⟨v', hv', hcr⟩ := hr.2 j c hc
        rw [hj] at hv'
        cases hv'
        exact DRep.oneCell (hrep v hcr)
      · rw [← h, getElem?_chunk] at hx
        split at hx
        · cases hx
          rw [List.getElem?_take] at hy
          split at hy
          · rw [List.getElem?_drop] at hy
            obtain ⟨c, hc, hrep⟩ := d2 _ y hy
            obtain ⟨v, hv, hcr⟩ := hr.2 _ c hc
            exact ⟨v, hv, hrep v hcr⟩
          · cases hy
        · cases hx
     have hgr : Grown w (w.alloc (.cells (madeCells zv.cells (n * i.size)) e)) (P.cellsOf e) n (madeCells zv.cells (n * i.size)).toList (.slice (some ⟨w.heap.size, 0, none⟩) n n) := by
      refine ⟨⟨n, _, e, (0, 0), rfl, Zlr _, heap_alloc_new w _, fun o _ => by simp, by rw [hvl]; exact Zlr _, fun j hj => by rw [Array.getElem?_toList], by rw [Array.length_toList, hvl]⟩, fun b hb => heap_alloc_old w _ b hb, by simp, rfl, rfl, rfl⟩
     obtain ⟨g', m1, m2, m3, m4⟩ := zwj (κ := κ) hm hgr hflat hsz hel (fun ar ha => by rw [hA] at ha; cases ha)
     rw [hel]
     exact ⟨_, _, g', hrun, m3, m1, m2, m4⟩
   · cases h
 · cases h
theorem y6r (hm : MRel g H A w) (hd : zjk g H) {id : Nat} (hH : H id = none) {T : TypeId} {n : Nat} {ps : List (Nat × PV)} {us : Array (Nat × Value)} {cs : List CV} (hl : us.size = ps.length)
 (hp : ∀ (k : Nat) (p : Nat × PV) (u : Nat × Value), ps[k]? = some p → us.toList[k]? = some u → u.1 = p.1 ∧ PRep g A p.2 u.2) (h : bslC P T n ps = some cs) :
 ∃ u w' g', (Instr.buildSlice T n us).run P w = .ok u w' ∧ PRep g' A (.c (.vsl id n)) u ∧ MRel g' (upd H id (some cs)) A w' ∧ Evol g A w g' A w' ∧ zjk g' (upd H id (some cs)) := by
 unfold bslC at h
 split at h
 · rename_i e hu
   obtain ⟨z, hz, h⟩ := Option.bind_eq_some_iff.1 h
   split at h
   · rename_i hc
     obtain ⟨hsmall, hpos, hn⟩ := hc
     obtain ⟨i, zv, hi, hzv, h1, h2, rfl, h3⟩ := zqy hz
     have hzr := z24 (g := g) (A := A) zv.cells n (by omega)
     obtain ⟨vs', hf, hr, hlen⟩ := z4r _ ps _ _ h _ us.toList hzr (by simpa using hl) hp
     have hrun : (Instr.buildSlice T n us).run P w = .ok (.slice (some ⟨w.heap.size, 0, none⟩) n n) (w.alloc (.cells vs' e)) := by
      refine run_buildSlice w T e n us vs' i zv hu hi hzv (by rw [h2]; omega) (by rw [h2]; exact Nat.mul_ne_zero (by omega) (by omega)) ?_
      rw [h2]
      rw [h1, h2] at hf
      rw [h1, h2]
      exact hf
     obtain ⟨g', m1, m2, m3, m4⟩ := newvar hm hd hH hr e
     exact ⟨_, _, g', hrun, ⟨_, m4, rfl⟩, m1, m2, m3⟩
   · cases h
 · cases h
theorem MapOK.empty : MapOK #[] 0 [] := ⟨.refl _, List.nodup_nil, fun p h => (by cases h), fun p h => (by cases h), fun e h => (by cases h), List.nodup_nil⟩
theorem z02 {α : Type} : ∀ {l : List α} {i : Nat} {a : α}, l[i]? = some a → l.Perm (a :: l.eraseIdx i)
 | [], i, a, h => by simp at h
 | x :: l, 0, a, h => by simp at h; subst h; exact .refl _
 | x :: l, i + 1, a, h => by
   have ih := z02 (l := l) (i := i) (a := a) (by simpa using h)
   exact (ih.cons x).trans (.swap a x _)
theorem z9f {α : Type} : ∀ {l : List α} {i : Nat} {a b : α}, l[i]? = some a → (l.set i b).Perm (b :: l.eraseIdx i)
 | [], i, a, b, h => by simp at h
 | x :: l, 0, a, b, h => .refl _
 | x :: l, i + 1, a, b, h => by
   have ih := z9f (l := l) (i := i) (a := a) (b := b) (by simpa using h)
   exact (ih.cons x).trans (.swap b x _)
theorem xw6 (cs : Array Value) : zxh (.agg cs) = some .two ∨ zxh (.agg cs) = none := by
 unfold zxh
 split
 · rename_i h; cases h
 · rename_i h; cases h
 · exact .inl rfl
 · exact .inr rfl
open Classical in
theorem z6j {kd : TypeDesc} {k k' : Value} (hok : zku kd k = true) (ht : zxh k' = zxh k) : Instr.sameNow kd k k' = some (decide (k' = k)) := by
 cases kd <;> cases k <;> first | (cases hok; done) | skip
 · rename_i ik jk n
   cases k' <;> first | (cases ht; done) | (rename_i cs; rcases xw6 cs with e | e <;> (rw [e] at ht; cases ht; done)) | skip
   rename_i kk m
   cases ht
   unfold Instr.sameNow
   simp only [if_true, Option.some.injEq]
   rw [Bool.eq_iff_iff, beq_iff_eq, decide_eq_true_eq]
   exact ⟨fun e => by rw [e], fun e => by cases e; rfl⟩
 · rename_i s
   cases k' <;> first | (cases ht; done) | (rename_i cs; rcases xw6 cs with e | e <;> (rw [e] at ht; cases ht; done)) | skip
   rename_i s'
   unfold Instr.sameNow
   simp only [Option.some.injEq]
   rw [Bool.eq_iff_iff, decide_eq_true_eq]
   constructor
   · intro h
     have hd : s.data = s'.data := eq_of_beq (show (s.data == s'.data) = true from h)
     cases s; cases s'; simp only at hd; rw [hd]
   · intro h
     cases h
     show (s.data == s.data) = true
     exact beq_self_eq_true _
theorem yqx {kd : TypeDesc} {k : Value} (hok : zku kd k = true) : Instr.sameNow kd k k = some true := by
 rw [z6j hok rfl]
 exact congrArg some (@decide_eq_true _ (Classical.propDecidable _) rfl)
theorem z1i {kd : TypeDesc} {k k' : Value} {b : Bool} (hok : zku kd k = true) (h : Instr.sameNow kd k k' = some b) : zxh k' = zxh k := by
 cases kd <;> cases k <;> first | (cases hok; done) | skip
 · rename_i ik jk n
   cases k' <;> first | (cases h; done) | skip
   unfold Instr.sameNow at h
   simp only at h
   split at h
   · rename_i e; rw [e]; rfl
   · cases h
 · cases k' <;> first | (cases h; done) | skip
   rfl
theorem y4e {kd : TypeDesc} {k : Value} (hok : zku kd k = true) : zxh k ≠ none ∧ k.oneCell' = true := by
 cases kd <;> cases k <;> first | (cases hok; done) | exact ⟨by simp [zxh], rfl⟩
theorem xw0 {k : Value} (h : zxh k ≠ none) : TRep g A (xwz k) k := by
 unfold zxh at h
 split at h
 · exact DRep.lit _ rfl
 · exact DRep.lit _ rfl
 · refine ⟨_, rfl, rfl, fun j c hj => ?_⟩
   match j with
   | 0 => simp at hj; subst hj; exact ⟨_, rfl, DRep.lit _ rfl⟩
   | 1 => simp at hj; subst hj; exact ⟨_, rfl, DRep.lit _ rfl⟩
   | j + 2 => simp at hj
 · exact absurd rfl h
open Classical in
theorem z2o {β : Type} {kd : TypeDesc} {k : Value} (hok : zku kd k = true) : ∀ {l : List (Value × β)}, (∀ p ∈ l, zxh p.1 = zxh k) → ∀ i : Nat, (∃ j v, mfind kd k l i = some (some (i + j, v)) ∧ l[j]? = some (k, v)) ∨ (mfind kd k l i = some none ∧ ∀ p ∈ l, p.1 ≠ k)
 | [], _, i => .inr ⟨rfl, fun p h => by cases h⟩
 | p :: l, ht, i => by
   have hs := z6j hok (ht p Zms2)
   unfold mfind
   rw [hs]
   by_cases e : p.1 = k
   · rw [decide_eq_true e]
     exact .inl ⟨0, p.2, rfl, by rw [← e]; rfl⟩
   · rw [decide_eq_false e]
     rcases z2o hok (fun q hq => ht q (List.mem_cons_of_mem _ hq)) (i + 1) with ⟨j, v, h1, h2⟩ | ⟨h1, h2⟩
     · exact .inl ⟨j + 1, v, by simp only; rw [h1, Nat.add_assoc, Nat.add_comm 1 j], by simpa using h2⟩
     · refine .inr ⟨h1, fun q hq => ?_⟩
       rcases List.mem_cons.1 hq with rfl | hq
       · exact e
       · exact h2 q hq
theorem yvt {β : Type} {kd : TypeDesc} {k : Value} (hok : zku kd k = true) : ∀ {l : List (Value × β)} {i : Nat} {r : Option (Nat × β)}, mfind kd k l i = some r → l = [] ∨ ∃ p ∈ l, zxh p.1 = zxh k
 | [], _, _, _ => .inl rfl
 | p :: l, i, r, h => by
   unfold mfind at h
   split at h
   · rename_i hs; exact .inr ⟨p, Zms2, z1i hok hs⟩
   · rename_i hs; exact .inr ⟨p, Zms2, z1i hok hs⟩
   · cases h
theorem y36 {m : List (Value × Value)} (hn : (m.map Prod.fst).Nodup) {k a b : Value} (h1 : (k, a) ∈ m) (h2 : (k, b) ∈ m) : a = b := by
 induction m with
 | nil => cases h1
 | cons p m ih =>
   obtain ⟨hn1, hn2⟩ := List.nodup_cons.1 hn
   rcases List.mem_cons.1 h1 with e1 | h1 <;> rcases List.mem_cons.1 h2 with e2 | h2
   · rw [← e1] at e2; cases e2; rfl
   · exact (hn1 (by rw [← e1]; exact List.mem_map.2 ⟨_, h2, rfl⟩)).elim
   · exact (hn1 (by rw [← e2]; exact List.mem_map.2 ⟨_, h1, rfl⟩)).elim
   · exact ih hn2 h1 h2
theorem MapOK.tags {es : Array MapEntry} {clock : Nat} {m : List (Value × Value)} {kd : TypeDesc} {k : Value} {r : Option (Nat × Value)} (h : MapOK es clock m) (hok : zku kd k = true) (hr : mfind kd k m 0 = some r) : ∀ p ∈ m, zxh p.1 = zxh k := by
 rcases yvt hok hr with h0 | ⟨q, hq, ht⟩
 · intro p hp; rw [h0] at hp; cases hp
 · exact fun p hp => (h.tag p hp q hq).trans ht
theorem MapOK.find {es : Array MapEntry} {clock : Nat} {m : List (Value × Value)} {kd : TypeDesc} {k : Value} {r : Option (Nat × Value)} (h : MapOK es clock m) (hok : zku kd k = true) (hr : mfind kd k m 0 = some r) :
 (∃ j i v, r = some (j, v) ∧ m[j]? = some (k, v) ∧ mfind kd k (kvs es) 0 = some (some (i, v)) ∧ (kvs es)[i]? = some (k, v)) ∨ (r = none ∧ mfind kd k (kvs es) 0 = some none ∧ ∀ p ∈ m, p.1 ≠ k) := by
 have ht := h.tags hok hr
 have ht2 : ∀ p ∈ kvs es, zxh p.1 = zxh k := fun p hp => ht p (h.perm.mem_iff.1 hp)
 rcases z2o hok ht 0 with ⟨j, v, h1, h2⟩ | ⟨h1, h2⟩
 · rw [hr] at h1
   cases h1
   rcases z2o hok ht2 0 with ⟨i, u, g1, g2⟩ | ⟨_, g2⟩
   · have e := y36 h.nodup (Zme h2) (h.perm.mem_iff.1 (Zme g2))
     subst e
     exact .inl ⟨_, _, _, rfl, by simpa using h2, g1, by simpa using g2⟩
   · exact (g2 _ (h.perm.mem_iff.2 (Zme h2)) rfl).elim
 · rw [hr] at h1
   cases h1
   rcases z2o hok ht2 0 with ⟨i, u, g1, g2⟩ | ⟨g1, _⟩
   · exact (h2 _ (h.perm.mem_iff.1 (Zme g2)) rfl).elim
   · exact .inr ⟨rfl, g1, h2⟩
theorem y38 (es : Array MapEntry) (e : MapEntry) : kvs (es.push e) = kvs es ++ [(e.key, e.val)] := by simp [kvs]
theorem MapOK.push {es : Array MapEntry} {clock : Nat} {m : List (Value × Value)} {k v : Value} (h : MapOK es clock m) (ht : ∀ p ∈ m, zxh p.1 = zxh k) (hk : zxh k ≠ none) (hno : ∀ p ∈ m, p.1 ≠ k) :
 MapOK (es.push { key := k, val := v, born := clock }) (clock + 1) (m ++ [(k, v)]) := by
 refine ⟨by rw [y38]; exact h.perm.append_right _, ?_, ?_, ?_, ?_, ?_⟩
 · rw [List.map_append, List.nodup_append]
   refine ⟨h.nodup, by simp, fun a ha b hb e => ?_⟩
   obtain ⟨p, hp, rfl⟩ := List.mem_map.1 ha
   simp at hb
   exact hno p hp (e.trans hb)
 · have all : ∀ p ∈ m ++ [(k, v)], zxh p.1 = zxh k := fun p hp => by
    rcases List.mem_append.1 hp with hp | hp
    · exact ht p hp
    · rw [List.mem_singleton.1 hp]
   exact fun p hp q hq => (all p hp).trans (all q hq).symm
 · intro p hp
   rcases List.mem_append.1 hp with hp | hp
   · exact h.key p hp
   · rw [List.mem_singleton.1 hp]; exact hk
 · intro e he
   simp only [Array.toList_push, Zma, Zmg] at he
   rcases he with he | rfl
   · exact Nat.lt_succ_of_lt (h.born e he)
   · exact Nat.lt_succ_self _
 · simp only [Array.toList_push, List.map_append, List.map_cons, List.map_nil]
   rw [List.nodup_append]
   refine ⟨h.uniq, by simp, fun a ha b hb e => ?_⟩
   obtain ⟨x, hx, rfl⟩ := List.mem_map.1 ha
   simp at hb
   have := h.born x hx
   omega
theorem yvp (es : Array MapEntry) (i : Nat) (k v : Value) : kvs (es.modify i fun e => { e with key := k, val := v }) = if i < es.size then (kvs es).set i (k, v) else kvs es := by
 unfold kvs
 apply List.ext_getElem?
 intro j
 by_cases hi : i < es.size
 · rw [if_pos hi]
   simp only [Array.toList_modify, List.getElem?_map, List.getElem?_set, List.getElem?_modify, List.length_map]
   by_cases hj : i = j
   · subst hj
     simp [hi]
   · simp [hj]
 · rw [if_neg hi]
   simp only [Array.toList_modify, List.getElem?_map, List.getElem?_modify]
   by_cases hj : i = j
   · subst hj
     simp [hi]
   · simp [hj]
theorem y1j {es : Array MapEntry} {i : Nat} {p : Value × Value} (h : (kvs es)[i]? = some p) : ∃ e, es[i]? = some e ∧ (e.key, e.val) = p := by
 unfold kvs at h
 rw [List.getElem?_map] at h
 obtain ⟨e, h1, h2⟩ := Option.map_eq_some_iff.1 h
 exact ⟨e, by simpa using h1, h2⟩
theorem MapOK.set {es : Array MapEntry} {clock : Nat} {m : List (Value × Value)} {k v u : Value} {i j : Nat} (h : MapOK es clock m) (hj : m[j]? = some (k, u)) (hi : (kvs es)[i]? = some (k, u)) :
 MapOK (es.modify i fun e => { e with key := k, val := v }) clock (m.set j (k, v)) := by
 obtain ⟨e0, he0, _⟩ := y1j hi
 have hlt := (Array.getElem?_eq_some_iff.1 he0).1
 have hks : (m.set j (k, v)).map Prod.fst = m.map Prod.fst := by
  apply List.ext_getElem?
  intro q
  simp only [List.getElem?_map, List.getElem?_set]
  by_cases hq : j = q
  · subst hq
    rw [hj]
    simp [(List.getElem?_eq_some_iff.1 hj).1]
  · simp [hq]
 have mem : ∀ p ∈ m.set j (k, v), p = (k, v) ∨ p ∈ m := fun p hp => by
  rcases List.mem_or_eq_of_mem_set hp with hp | hp
  · exact .inr hp
  · exact .inl hp
 have tg : ∀ p ∈ m.set j (k, v), ∃ q ∈ m, zxh p.1 = zxh q.1 := fun p hp => by
  rcases mem p hp with rfl | hp
  · exact ⟨_, Zme hj, rfl⟩
  · exact ⟨p, hp, rfl⟩
 have hb : (es.modify i fun e => { e with key := k, val := v }).toList.map (·.born) = es.toList.map (·.born) := by
  apply List.ext_getElem?
  intro q
  simp only [Array.toList_modify, List.getElem?_map, List.getElem?_modify]
  by_cases hq : i = q
  · subst hq
    simp [hlt]
  · simp [hq]
 refine ⟨?_, by rw [hks]; exact h.nodup, ?_, ?_, ?_, by rw [hb]; exact h.uniq⟩
 · rw [yvp, if_pos hlt]
   have h1 := z9f (b := (k, v)) hi
   have h2 := z9f (b := (k, v)) hj
   have h3 : ((kvs es).eraseIdx i).Perm (m.eraseIdx j) := ((z02 hi).symm.trans (h.perm.trans (z02 hj))).cons_inv
   exact h1.trans ((h3.cons _).trans h2.symm)
 · intro p hp q hq
   obtain ⟨p', hp', e1⟩ := tg p hp
   obtain ⟨q', hq', e2⟩ := tg q hq
   rw [e1, e2]
   exact h.tag p' hp' q' hq'
 · intro p hp
   obtain ⟨p', hp', e1⟩ := tg p hp
   rw [e1]
   exact h.key p' hp'
 · intro e he
   have : e.born ∈ (es.modify i fun e => { e with key := k, val := v }).toList.map (·.born) := List.mem_map.2 ⟨e, he, rfl⟩
   rw [hb] at this
   obtain ⟨e', he', e1⟩ := List.mem_map.1 this
   rw [← e1]
   exact h.born e' he'
theorem z2g {α β : Type} (f : α → β) : ∀ (l : List α) (i : Nat), (l.eraseIdx i).map f = (l.map f).eraseIdx i
 | [], _ => rfl
 | _ :: _, 0 => rfl
 | a :: l, i + 1 => by simp only [List.eraseIdx_cons_succ, List.map_cons, z2g f l i]
theorem y1i (es : Array MapEntry) (i : Nat) : kvs (es.eraseIdxIfInBounds i) = (kvs es).eraseIdx i := by
 unfold kvs
 rw [Array.toList_eraseIdxIfInBounds, z2g]
theorem MapOK.erase {es : Array MapEntry} {clock : Nat} {m : List (Value × Value)} {p : Value × Value} {i j : Nat} (h : MapOK es clock m) (hj : m[j]? = some p) (hi : (kvs es)[i]? = some p) : MapOK (es.eraseIdxIfInBounds i) clock (m.eraseIdx j) := by
 have sub : ∀ q ∈ m.eraseIdx j, q ∈ m := fun q hq => (List.eraseIdx_sublist m j).mem hq
 refine ⟨?_, ?_, fun q hq r hr => h.tag q (sub q hq) r (sub r hr), fun q hq => h.key q (sub q hq), fun e he => ?_, ?_⟩
 · rw [y1i]
   exact ((z02 hi).symm.trans (h.perm.trans (z02 hj))).cons_inv
 · rw [z2g]
   exact h.nodup.sublist (List.eraseIdx_sublist _ _)
 · rw [Array.toList_eraseIdxIfInBounds] at he
   exact h.born e ((List.eraseIdx_sublist _ _).mem he)
 · rw [Array.toList_eraseIdxIfInBounds, z2g]
   exact h.uniq.sublist (List.eraseIdx_sublist _ _)
section all2
variable {α β : Type} {R : α → β → Prop}
theorem All2.len : ∀ {l : List α} {m : List β}, All2 R l m → l.length = m.length
 | _, _, .nil => rfl
 | _, _, .cons _ t => by simp [t.len]
theorem All2.get : ∀ {l : List α} {m : List β}, All2 R l m → ∀ {i : Nat} {b : β}, m[i]? = some b → ∃ a, l[i]? = some a ∧ R a b
 | _, _, .nil, i, b, h => by simp at h
 | _, _, .cons r t, 0, b, h => by simp at h; subst h; exact ⟨_, rfl, r⟩
 | _, _, .cons r t, i + 1, b, h => by simpa using t.get (by simpa using h)
theorem All2.get' : ∀ {l : List α} {m : List β}, All2 R l m → ∀ {i : Nat} {a : α}, l[i]? = some a → ∃ b, m[i]? = some b ∧ R a b
 | _, _, .nil, i, b, h => by simp at h
 | _, _, .cons r t, 0, b, h => by simp at h; subst h; exact ⟨_, rfl, r⟩
 | _, _, .cons r t, i + 1, b, h => by simpa using t.get' (by simpa using h)
theorem All2.append : ∀ {l l' : List α} {m m' : List β}, All2 R l m → All2 R l' m' → All2 R (l ++ l') (m ++ m')
 | _, _, _, _, .nil, h => h
 | _, _, _, _, .cons r t, h => .cons r (t.append h)
theorem All2.set : ∀ {l : List α} {m : List β}, All2 R l m → ∀ {i : Nat} {a : α} {b : β}, R a b → All2 R (l.set i a) (m.set i b)
 | _, _, .nil, _, _, _, _ => .nil
 | _, _, .cons _ t, 0, _, _, h => .cons h t
 | _, _, .cons r t, _ + 1, _, _, h => .cons r (t.set h)
theorem All2.erase : ∀ {l : List α} {m : List β}, All2 R l m → ∀ {i : Nat}, All2 R (l.eraseIdx i) (m.eraseIdx i)
 | _, _, .nil, _ => .nil
 | _, _, .cons _ t, 0 => t
 | _, _, .cons r t, _ + 1 => .cons r t.erase
theorem All2.perm {m m' : List β} (hp : m.Perm m') : ∀ {l : List α}, All2 R l m → ∃ l', l.Perm l' ∧ All2 R l' m' := by
 induction hp with
 | nil => intro l h; exact ⟨l, .refl _, h⟩
 | cons x _ ih =>
   intro l h
   cases h with
   | cons r t =>
     obtain ⟨l', h1, h2⟩ := ih t
     exact ⟨_, h1.cons _, .cons r h2⟩
 | swap x y m =>
   intro l h
   cases h with
   | cons r t =>
     cases t with
     | cons r2 t => exact ⟨_, .swap _ _ _, .cons r2 (.cons r t)⟩
 | trans _ _ ih1 ih2 =>
   intro l h
   obtain ⟨l1, h1, h2⟩ := ih1 h
   obtain ⟨l2, h3, h4⟩ := ih2 h2
   exact ⟨l2, h1.trans h3, h4⟩
end all2
theorem yzo {C : Nat → Nat → Option Value} {π : Nat → Option Value} {kd : TypeDesc} {k : Value} : ∀ {m0 : List (Value × Value)} {m : List (Value × MV)}, EntsRep C π m0 m → ∀ {i : Nat} {r : Option (Nat × MV)}, mfind kd k m i = some r →
 (∃ j v v0, r = some (i + j, v) ∧ mfind kd k m0 i = some (some (i + j, v0)) ∧ (∃ k', m[j]? = some (k', v) ∧ m0[j]? = some (k', v0)) ∧ z1a C π v v0) ∨ (r = none ∧ mfind kd k m0 i = some none)
 | _, _, .nil, i, r, h => by cases h; exact .inr ⟨rfl, rfl⟩
 | (k1, v1) :: _, (k2, v2) :: _, .cons ⟨e, hr⟩ t, i, r, h => by
   change k1 = k2 at e
   subst e
   unfold mfind at h ⊢
   simp only at h ⊢
   cases hs : Instr.sameNow kd k k1 with
   | none => rw [hs] at h; cases h
   | some b =>
     rw [hs] at h
     cases b with
     | true => cases h; exact .inl ⟨0, v2, v1, rfl, rfl, ⟨k1, rfl, rfl⟩, hr⟩
     | false =>
       rcases yzo t h with ⟨j, v, v0, h1, h2, ⟨k', h3, h4⟩, h5⟩ | ⟨h1, h2⟩
       · exact .inl ⟨j + 1, v, v0, by rw [h1, Nat.add_assoc, Nat.add_comm 1 j], by simp only; rw [h2, Nat.add_assoc, Nat.add_comm 1 j], ⟨k', by simpa using h3, by simpa using h4⟩, h5⟩
       · exact .inr ⟨h1, h2⟩
theorem z1a.tv {x : MV} {v : Value} (h : z1a g.C g.π x v) : TRep g A x.tv v := by
 cases x with
 | c d => exact h
 | agg ds =>
   obtain ⟨arr, e, hs, hd⟩ := h
   refine ⟨arr, e, by simpa using hs, fun k c hk => ?_⟩
   simp only [List.getElem?_map, Zms] at hk
   obtain ⟨x, hx, rfl⟩ := hk
   obtain ⟨u, hu, r⟩ := hd k x hx
   exact ⟨u, by simpa using hu, r⟩
theorem y1s {x : PV} {m : MV} {v : Value} (hx : PRep g A x v) (h : x.mv = some m) : z1a g.C g.π m v := by
 cases x with
 | c c =>
   obtain ⟨d, hd, rfl⟩ := Option.map_eq_some_iff.1 h
   obtain ⟨_, hr⟩ := zwt (g := g) (A := A) (cs := [c]) (ds := [d]) (by simp [toDs, hd])
   obtain ⟨c', hc', hr⟩ := hr 0 d rfl
   cases hc'
   exact hr v hx
 | agg cs =>
   obtain ⟨ds, hd, rfl⟩ := Option.map_eq_some_iff.1 h
   obtain ⟨h1, h2⟩ := zwt (g := g) (A := A) hd
   obtain ⟨arr, rfl, hr⟩ := hx
   refine ⟨arr, rfl, by rw [h1, ← hr.1, Array.length_toList], fun k x hk => ?_⟩
   obtain ⟨c, hc, hrep⟩ := h2 k x hk
   obtain ⟨u, hu, hcr⟩ := hr.2 k c hc
   exact ⟨u, by simpa using hu, hrep u hcr⟩
 | tup xs => cases h
theorem yqc (hm : MRel g H A w) {κ : Tok} (hA : A κ = none) (T : TypeId) :
 ∃ u w' g', (Instr.makeMap T none).run P w = .ok u w' ∧ PRep g' (upd A κ (some (.mp []))) (.c (.mpr κ)) u ∧ MRel g' H (upd A κ (some (.mp []))) w' ∧ Evol g A w g' (upd A κ (some (.mp []))) w' ∧ g'.β = g.β := by
 let g' : Gh := { g with τ := upd g.τ κ (.map (some w.heap.size)), O := upd g.O w.heap.size (some (.tok κ)) }
 have hold : ∀ b, b < w.heap.size → (w.alloc (.map #[] 0)).heap[b]? = w.heap[b]? := fun b hb => heap_alloc_old w _ b hb
 obtain ⟨m1, m2⟩ := tokstep (g' := g') (κ := κ) (ar' := .mp []) (w' := w.alloc (.map #[] 0)) hm rfl (fun κ' hk => zza _ _ hk) (fun _ _ _ h => h) (fun _ _ _ _ => rfl) (fun b hb => zza _ _ (by omega))
  (fun b o ho => by
    by_cases hb : b = w.heap.size
    · subst hb; simp
    · rw [show g'.O b = g.O b from zza _ _ hb] at ho
      have := hm.own b o ho
      simp; omega)
  (fun b hb _ => hold b hb)
  (fun b o v hc => by
    rw [World.cell?_of_block (w := w) (hold b (C_lt hm hc))]
    exact hm.com b o v hc)
  (fun ar ha => by rw [hA] at ha; cases ha)
  ⟨w.heap.size, #[], 0, [], zzc _ _ _, zzc _ _ _, fun j => zk1 hm j, heap_alloc_new w _, MapOK.empty, .nil⟩ (by simp) rfl rfl rfl
 refine ⟨.map (some w.heap.size), w.alloc (.map #[] 0), g', ?_, ⟨⟨_, rfl⟩, (zzc _ _ _).symm, _, zzc _ _ _, rfl⟩, m1, m2, rfl⟩
 unfold Instr.makeMap
 simp
theorem yvw (hm : MRel g H A w) {c : Nat} (hcnt : A (0, 0) = some (.cnt c)) (hc0 : A (0, c) = none) (T : TypeId) :
 ∃ u w' g', (Instr.makeMap T none).run P w = .ok u w' ∧ PRep g' (upd (upd A (0, c) (some (.pr c (.mp [])))) (0, 0) (some (.cnt (c + 1)))) (.c (.d (.mr c))) u ∧ MRel g' H (upd (upd A (0, c) (some (.pr c (.mp [])))) (0, 0) (some (.cnt (c + 1)))) w' ∧
   Evol g A w g' (upd (upd A (0, c) (some (.pr c (.mp [])))) (0, 0) (some (.cnt (c + 1)))) w' ∧ g'.β = g.β := by
 obtain ⟨u, w', g1, hr, hp, m1, m2, m3⟩ := yqc (P := P) hm (κ := (0, c)) hc0 T
 obtain ⟨hb, hu, _⟩ := hp
 obtain ⟨g2, q1, q2, q3, q4, _⟩ := fixP hm m1 m2 m3 (q := none) hcnt hc0 ⟨rfl, rfl⟩ (fun κ' hk => zza _ _ hk) (zzc _ _ _) rfl (.inl hu)
 refine ⟨_, w', g2, hr, ?_, q1, q2, q3⟩
 obtain ⟨b, hb⟩ := hb
 rw [hb] at q4 ⊢
 exact DRep.mr c b q4
theorem z2n (hm : MRel g H A w) {x : PV} {u : Value} {m : List (Value × MV)} (hx : PRep g A x u) (h : z88 A x = some m) :
 (u = .map none ∧ m = [] ∧ ∀ m', setM A x m' = none) ∨ ∃ κ ar b es clock m0, A κ = some ar ∧ ar.core = .mp m ∧ (∀ m', setM A x m' = some (upd A κ (some (ar.re (.mp m'))))) ∧ u = .map (some b) ∧ g.τ κ = .map (some b) ∧ g.O b = some (.tok κ) ∧ (∀ j, g.C b j = none) ∧
   w.heap[b]? = some (.map es clock) ∧ MapOK es clock m0 ∧ EntsRep g.C g.π m0 m := by
 unfold z88 at h
 split at h
 · rename_i κ
   split at h
   · rename_i m' hA
     cases h
     obtain ⟨⟨b, rfl⟩, h2, _⟩ := hx
     obtain ⟨b', es, clock, m0, h3, h4, h5, h6, h7, h8⟩ := hm.tok κ _ hA
     rw [← h2] at h3
     cases h3
     exact .inr ⟨κ, _, b, es, clock, m0, hA, rfl, fun _ => rfl, rfl, h2.symm, h4, h5, h6, h7, h8⟩
   · cases h
 · rename_i p
   split at h
   · rename_i q m' hA
     split at h
     · rename_i hq
       subst hq
       cases h
       obtain ⟨⟨b', es, clock, m0, h3, h4, h5, h6, h7, h8⟩, hπ, _⟩ := hm.tok _ _ hA
       cases hx with
       | mr _ b hp =>
         rw [hp, h3] at hπ
         cases hπ
         exact .inr ⟨_, _, _, es, clock, m0, hA, rfl, fun _ => rfl, rfl, h3, h4, h5, h6, h7, h8⟩
     · cases h
   · cases h
 · cases h
   exact .inl ⟨zzv hx, rfl, fun _ => rfl⟩
 · cases h
theorem y7i (hm : MRel g H A w) {t T : TypeId} {x v : PV} {u : Value} (hx : PRep g A x u) (h : lenM P A [t] [x] = some v) : ∃ X, (Builtin.len_ #[t] T #[u]).run P w = .ok X w ∧ PRep g A v X := by
 unfold lenM at h
 simp only at h
 split at h
 · rename_i kt e hT
   obtain ⟨m, hmm, rfl⟩ := Option.map_eq_some_iff.1 h
   refine ⟨_, ?_, zq2 rfl⟩
   rcases z2n hm hx hmm with ⟨rfl, rfl, _⟩ | ⟨κ, ar, b, es, clock, m0, hA, _, _, rfl, _, _, _, hh, hes, he⟩
   · simp [Builtin.len_, run_underlying hT, goInt]
   · have hg : (getObj b).run P w = .ok (.map es clock) w := by simp only [getObj, Sem.run, hh]
     have hl : m.length = es.size := by rw [← he.len, ← hes.perm.length_eq]; simp [kvs]
     simp [Builtin.len_, run_underlying hT, goInt, hg, hl]
 · cases h
theorem zjg {kt : TypeId} {kd : TypeDesc} (hk : P.underlying kt = some kd) {k : Value} (h : zku kd k = true) (b : Bool) : (Instr.checkKey b 10000 kt k).run P w = .ok () w := by
 show (Instr.checkKey b (9999 + 1) kt k).run P w = _
 unfold Instr.checkKey
 simp only [Sem.run_bind, run_underlying hk, Result.andThen_ok]
 cases kd <;> cases k <;> first | rfl | (cases h; done)
theorem z7t (kd : TypeDesc) (k : Value) : ∀ (es : List MapEntry) (i : Nat), Instr.findNow kd k es i = mfind kd k (es.map fun e => (e.key, e.val)) i
 | [], _ => rfl
 | e :: es, i => by
   unfold Instr.findNow mfind
   simp only [List.map_cons]
   rw [z7t kd k es (i + 1)]
   split <;> simp_all
theorem zjc {kt : TypeId} {kd : TypeDesc} (hk : P.underlying kt = some kd) {k : Value} {es : List MapEntry} {r : Option (Nat × Value)} (h : mfind kd k (es.map fun e => (e.key, e.val)) 0 = some r) : (Instr.findKey kt k es).run P w = .ok r w := by
 unfold Instr.findKey
 simp only [Sem.run_bind, run_underlying hk, Result.andThen_ok, z7t, h]
 rfl
def noA' : AMap := fun _ => none
theorem y4u {e : TypeId} {z : MV} (h : zlit P e = some z) : ∃ v, (zeroValue e).run P w = .ok v w ∧ z1a g.C g.π z v := by
 unfold zlit at h
 obtain ⟨i, hi, h⟩ := Option.bind_eq_some_iff.1 h
 obtain ⟨z', hz, h⟩ := Option.bind_eq_some_iff.1 h
 refine ⟨z', by simp [zeroValue, typeInfo, hi, hz], ?_⟩
 split at h
 · obtain ⟨ds, hd, rfl⟩ := Option.map_eq_some_iff.1 h
   exact y1s (A := noA') (x := .agg _) ⟨_, rfl, zv0 _⟩ (by show (toDs _).map _ = _; rw [hd]; rfl)
 · cases h
 · obtain ⟨d, hd, rfl⟩ := Option.map_eq_some_iff.1 h
   exact y1s (A := noA') (x := .c _) (z13 _) (by show (CV.toD _).map _ = _; rw [hd]; rfl)
theorem zv9 {b : Nat} {es : Array MapEntry} {clock : Nat} (h : w.heap[b]? = some (.map es clock)) : (getObj b).run P w = .ok (.map es clock) w := by
 simp only [getObj, Sem.run, h]
theorem z9z {ok : Bool} {m : MV} {v : Value} {b : Bool} (hv : z1a g.C g.π m v) : PRep g A (y4j ok (m, b)) (if ok then .tuple #[v, .bool b] else v) := by
 cases ok with
 | false => exact zw8.2 hv.tv
 | true =>
   refine ⟨#[v, .bool b], rfl, rfl, fun k x hk => ?_⟩
   match k with
   | 0 => simp at hk; subst hk; exact ⟨v, rfl, hv.tv⟩
   | 1 => simp at hk; subst hk; exact ⟨.bool b, rfl, DRep.lit _ rfl⟩
   | k + 2 => simp at hk
theorem z86 {x : PV} {u v : Value} (hx : PRep g A x u) (h : litV x = some v) : u = v := by
 unfold litV at h
 split at h
 · cases h; exact zzv hx
 · cases h
theorem MapOK.find2 {es : Array MapEntry} {clock : Nat} {m0 : List (Value × Value)} {m : List (Value × MV)} {kd : TypeDesc} {k : Value} {r : Option (Nat × MV)} (h : MapOK es clock m0) (he : EntsRep g.C g.π m0 m) (hok : zku kd k = true) (hr : mfind kd k m 0 = some r) :
 (∃ j i v v0, r = some (j, v) ∧ m[j]? = some (k, v) ∧ m0[j]? = some (k, v0) ∧ mfind kd k (kvs es) 0 = some (some (i, v0)) ∧ (kvs es)[i]? = some (k, v0) ∧ z1a g.C g.π v v0) ∨
   (r = none ∧ mfind kd k (kvs es) 0 = some none ∧ (∀ p ∈ m0, p.1 ≠ k) ∧ ∀ p ∈ m0, zxh p.1 = zxh k) := by
 rcases yzo he hr with ⟨j, v, v0, rfl, h2, ⟨k', h3, h4⟩, h5⟩ | ⟨rfl, h2⟩
 · rcases h.find hok h2 with ⟨j2, i, v2, e, q1, q2, q3⟩ | ⟨e, _⟩
   · cases e
     rw [Nat.zero_add] at q1 ⊢
     rw [q1] at h4
     cases h4
     exact .inl ⟨j, i, v, v0, rfl, h3, q1, q2, q3, h5⟩
   · cases e
 · rcases h.find hok h2 with ⟨j2, i, v2, e, _⟩ | ⟨_, q1, q2⟩
   · cases e
   · exact .inr ⟨rfl, q1, q2, h.tags hok h2⟩
theorem xwx {a c : ByteArray} : (a == c) = true ↔ a = c := by
 constructor
 · intro h
   have hd : a.data = c.data := eq_of_beq (show (a.data == c.data) = true from h)
   cases a; cases c; simp only at hd; rw [hd]
 · rintro rfl
   show (a.data == a.data) = true
   exact beq_self_eq_true _
theorem xw7 {k : Value} (h : zxh k = some .two) : ∃ a b, k = key2 a b := by
 unfold zxh at h
 split at h
 · cases h
 · cases h
 · exact ⟨_, _, rfl⟩
 · cases h
theorem xw1 {a b c d : ByteArray} : key2 a b = key2 c d ↔ (a == c && b == d) = true := by
 rw [Bool.and_eq_true, xwx, xwx]
 constructor
 · intro h
   unfold key2 at h
   injection h with h
   injection h with h
   injection h with h1 h2
   injection h1 with h1
   injection h2 with h2
   injection h2 with h2
   exact ⟨h1, h2⟩
 · rintro ⟨rfl, rfl⟩; rfl
theorem xwv {β : Type} {a b : ByteArray} : ∀ {l : List (Value × β)}, (∀ p ∈ l, zxh p.1 = some .two) → ∀ i : Nat, (∃ j v, xws a b l i = some (i + j, v) ∧ l[j]? = some (key2 a b, v)) ∨ (xws a b l i = none ∧ ∀ p ∈ l, p.1 ≠ key2 a b)
 | [], _, i => .inr ⟨rfl, fun p h => by cases h⟩
 | p :: l, ht, i => by
   obtain ⟨c, d, hk⟩ := xw7 (ht p Zms2)
   obtain ⟨k, v⟩ := p
   change k = key2 c d at hk
   subst hk
   have hs : xws a b ((key2 c d, v) :: l) i = if (a == c && b == d) = true then some (i, v) else xws a b l (i + 1) := rfl
   rw [hs]
   by_cases e : (a == c && b == d) = true
   · rw [if_pos e]
     exact .inl ⟨0, v, rfl, by rw [xw1.2 e]; rfl⟩
   · rw [if_neg e]
     rcases xwv (a := a) (b := b) (fun q hq => ht q (List.mem_cons_of_mem _ hq)) (i + 1) with ⟨j, v', h1, h2⟩ | ⟨h1, h2⟩
     · exact .inl ⟨j + 1, v', by rw [h1, Nat.add_assoc, Nat.add_comm 1 j], by simpa using h2⟩
     · refine .inr ⟨h1, fun q hq => ?_⟩
       rcases List.mem_cons.1 hq with rfl | hq
       · exact fun h => e (xw1.1 h.symm)
       · exact h2 q hq
theorem xwy {kt : TypeId} (h : twoT P kt = true) : ∃ e i, P.underlying kt = some (.array 2 e) ∧ P.underlying e = some .string ∧ P.info? e = some i ∧ i.size = 1 := by
 unfold twoT at h
 split at h
 · rename_i n e hu
   split at h
   · rename_i he
     simp only [Bool.and_eq_true, decide_eq_true_eq] at h
     obtain ⟨rfl, h⟩ := h
     split at h
     · rename_i i hi
       exact ⟨e, i, hu, he, hi, by simpa using h⟩
     · cases h
   · cases h
 · cases h
theorem xw9 {e : TypeId} (he : P.underlying e = some .string) (a b : ByteArray) : (part e #[.string a, .string b] 0).run P w = .ok (.string a) w ∧ (part e #[.string a, .string b] 1).run P w = .ok (.string b) w := by
 constructor <;> simp [part, isAgg, run_underlying he]
theorem xww {kt : TypeId} (h : twoT P kt = true) (em : Bool) (a b : ByteArray) : (Instr.checkKey em 10000 kt (key2 a b)).run P w = .ok () w := by
 obtain ⟨e, i, hu, he, hi, hs⟩ := xwy h
 show (Instr.checkKey em (9998 + 1 + 1) kt (.agg #[.string a, .string b])).run P w = _
 unfold Instr.checkKey
 have hz : ∀ w : World, (sizeOf e).run P w = .ok 1 w := fun w => by simp [sizeOf, typeInfo, hi, hs]
 have hc : ∀ (s : ByteArray) (w : World), (Instr.checkKey em (9998 + 1) e (.string s)).run P w = .ok () w := fun s w => by
  unfold Instr.checkKey
  simp only [Sem.run_bind, run_underlying he, Result.andThen_ok]
  rfl
 obtain ⟨p1, p2⟩ := xw9 (w := w) he a b
 simp only [Sem.run_bind, run_underlying hu, Result.andThen_ok, Std.Legacy.Range.forIn_eq_forIn_range', Std.Legacy.Range.size, Nat.sub_zero, Nat.add_one_sub_one, Nat.div_one]
 simp [List.range', hz, hc, p1, p2]
theorem x0a {kt : TypeId} (h : twoT P kt = true) (a b c d : ByteArray) : (Op.equal kt (key2 a b) (key2 c d)).run P w = .ok (a == c && b == d) w := by
 obtain ⟨e, i, hu, he, hi, hs⟩ := xwy h
 have hz : ∀ w : World, (sizeOf e).run P w = .ok 1 w := fun w => by simp [sizeOf, typeInfo, hi, hs]
 obtain ⟨p1, p2⟩ := xw9 (w := w) he a b
 obtain ⟨q1, q2⟩ := xw9 (w := w) he c d
 have hq : ∀ (s t : ByteArray), (Op.equalIn 9999 e (.string s) (.string t)).run P w = .ok (s == t) w := fun s t => by
  show (Op.equalIn (9998 + 1) e (.string s) (.string t)).run P w = _
  unfold Op.equalIn
  simp only [Sem.run_bind, run_underlying he, Result.andThen_ok]
  rfl
 show (Op.equalIn (9999 + 1) kt (.agg #[.string a, .string b]) (.agg #[.string c, .string d])).run P w = _
 unfold Op.equalIn
 simp only [Sem.run_bind, run_underlying hu, Result.andThen_ok, hz, Std.Legacy.Range.forIn_eq_forIn_range', Std.Legacy.Range.size, Nat.sub_zero, Nat.add_one_sub_one, Nat.div_one]
 cases h1 : (a == c) <;> cases h2 : (b == d) <;> simp [List.range', p1, p2, q1, q2, hq, h1, h2]
theorem xw2 {kt : TypeId} (h : twoT P kt = true) (a b : ByteArray) : ∀ (es : List MapEntry) (i : Nat), (∀ x ∈ es, zxh x.key = some .two) → (Instr.findAsking kt (key2 a b) es i).run P w = .ok (xws a b (es.map fun e => (e.key, e.val)) i) w
 | [], _, _ => rfl
 | x :: es, i, ht => by
   obtain ⟨c, d, hk⟩ := xw7 (ht x Zms2)
   obtain ⟨k, v, bn⟩ := x
   change k = key2 c d at hk
   subst hk
   have ih := xw2 h a b es (i + 1) (fun y hy => ht y (List.mem_cons_of_mem _ hy))
   have hs : xws a b ((key2 c d, v) :: es.map fun e => (e.key, e.val)) i = if (a == c && b == d) = true then some (i, v) else xws a b (es.map fun e => (e.key, e.val)) (i + 1) := rfl
   rw [List.map_cons, hs]
   unfold Instr.findAsking
   simp only [Sem.run_bind, x0a h, Result.andThen_ok]
   by_cases e : (a == c && b == d) = true
   · rw [if_pos e, if_pos e]; rfl
   · rw [if_neg e, if_neg e]; exact ih
theorem xwt {kt : TypeId} (h : twoT P kt = true) (a b : ByteArray) {es : List MapEntry} (ht : ∀ x ∈ es, zxh x.key = some .two) : (Instr.findKey kt (key2 a b) es).run P w = .ok (xws a b (es.map fun e => (e.key, e.val)) 0) w := by
 obtain ⟨e, i, hu, _⟩ := xwy h
 unfold Instr.findKey
 simp only [Sem.run_bind, run_underlying hu, Result.andThen_ok]
 cases es with
 | nil => rfl
 | cons x es =>
   have hn : Instr.findNow (.array 2 e) (key2 a b) (x :: es) 0 = none := by
    unfold Instr.findNow
    have : Instr.sameNow (.array 2 e) (key2 a b) x.key = none := rfl
    rw [this]
   rw [hn]
   exact xw2 h a b (x :: es) 0 ht
theorem xw4 {β : Type} {m : List (Value × β)} (h : all2 m = true) : ∀ p ∈ m, zxh p.1 = some .two := fun p hp => by
 have := List.all_eq_true.1 h p hp
 simpa using this
theorem MapOK.findP {es : Array MapEntry} {clock : Nat} {m0 : List (Value × Value)} {m : List (Value × MV)} (h : MapOK es clock m0) (he : EntsRep g.C g.π m0 m) (ha : all2 m = true) (a b : ByteArray) :
 (∀ x ∈ es.toList, zxh x.key = some .two) ∧ (∀ p ∈ m0, zxh p.1 = some .two) ∧ ((∃ j i v v0, xws a b m 0 = some (j, v) ∧ m0[j]? = some (key2 a b, v0) ∧ xws a b (kvs es) 0 = some (i, v0) ∧ (kvs es)[i]? = some (key2 a b, v0) ∧ z1a g.C g.π v v0) ∨
   (xws a b m 0 = none ∧ xws a b (kvs es) 0 = none ∧ ∀ p ∈ m0, p.1 ≠ key2 a b)) := by
 have t1 := xw4 ha
 have t0 : ∀ p ∈ m0, zxh p.1 = some .two := fun p hp => by
  obtain ⟨i, hi⟩ := List.mem_iff_getElem?.1 hp
  obtain ⟨q, hq, e, _⟩ := he.get' hi
  rw [show p.1 = q.1 from e]
  exact t1 q (Zme hq)
 have t2 : ∀ p ∈ kvs es, zxh p.1 = some .two := fun p hp => t0 p (h.perm.mem_iff.1 hp)
 refine ⟨fun x hx => t2 (x.key, x.val) (List.mem_map.2 ⟨x, hx, rfl⟩), t0, ?_⟩
 rcases xwv (a := a) (b := b) t1 0 with ⟨j, v, h1, h2⟩ | ⟨h1, h2⟩
 · obtain ⟨q, hq, e, hr⟩ := he.get h2
   obtain ⟨k0, v0⟩ := q
   change k0 = key2 a b at e
   subst e
   rcases xwv (a := a) (b := b) t2 0 with ⟨i, u, g1, g2⟩ | ⟨_, g2⟩
   · have e := y36 h.nodup (Zme hq) (h.perm.mem_iff.1 (Zme g2))
     change v0 = u at e
     subst e
     exact .inl ⟨j, i, v, v0, by simpa using h1, hq, by simpa using g1, g2, hr⟩
   · exact (g2 _ (h.perm.mem_iff.2 (Zme hq)) rfl).elim
 · rcases xwv (a := a) (b := b) t2 0 with ⟨i, u, g1, g2⟩ | ⟨g1, g2⟩
   · obtain ⟨i0, hi0⟩ := List.mem_iff_getElem?.1 (h.perm.mem_iff.1 (Zme g2))
     obtain ⟨q, hq, e, _⟩ := he.get' hi0
     exact (h2 q (Zme hq) e.symm).elim
   · exact .inr ⟨h1, g1, fun p hp => g2 p (h.perm.mem_iff.2 hp)⟩
theorem xw3 {x : PV} {u : Value} {ab : ByteArray × ByteArray} (hx : PRep g A x u) (h : twoV x = some ab) : u = key2 ab.1 ab.2 := by
 unfold twoV at h
 split at h
 · cases h
   obtain ⟨arr, rfl, hs, hc⟩ := hx
   obtain ⟨u0, h0, r0⟩ := hc 0 _ rfl
   obtain ⟨u1, h1, r1⟩ := hc 1 _ rfl
   have e0 := zzv (g := g) (A := A) (show PRep g A (.c (.d (.lit _))) u0 from r0)
   have e1 := zzv (g := g) (A := A) (show PRep g A (.c (.d (.lit _))) u1 from r1)
   subst e0 e1
   unfold key2
   congr 1
   apply Array.ext'
   show arr.toList = _
   match hl : arr.toList, hs with
   | [x, y], _ =>
     rw [hl] at h0 h1
     simp at h0 h1
     rw [h0, h1]
 · cases h
theorem y7k (hm : MRel g H A w) {T : TypeId} {x i v : PV} {ok : Bool} {u ui : Value} (hx : PRep g A x u) (hi : PRep g A i ui) (h : y1l P A T x i ok = some v) :
 ∃ X, (Instr.lookup T u ui ok).run P w = .ok X w ∧ PRep g A v X := by
 unfold y1l at h
 split at h
 · rename_i kt e hT
   split at h
   · rename_i ab hab
     obtain ⟨m, hmm, h⟩ := Option.bind_eq_some_iff.1 h
     split at h
     · rename_i hc
       obtain ⟨h2t, hall⟩ := hc
       obtain ⟨⟨rv, rb⟩, hg, rfl⟩ := Option.map_eq_some_iff.1 h
       have hui := xw3 hi hab
       subst hui
       have fin : ∀ (es : Array MapEntry) (r' : Option (Nat × Value)), (Instr.findKey kt (key2 ab.1 ab.2) es.toList).run P w = .ok r' w → (match xws ab.1 ab.2 m 0, r' with | some a, some b => z1a g.C g.π a.2 b.2 | none, none => True | _, _ => False) → ∃ X, ((do
        Instr.checkKey es.isEmpty 10000 kt (key2 ab.1 ab.2)
        let (v, o) ← match ← Instr.findKey kt (key2 ab.1 ab.2) es.toList with
         | some (_, v) => pure (v, true)
         | none => pure (← zeroValue e, false)
        pure (if ok then .tuple #[v, .bool o] else v) : Sem Value)).run P w = .ok X w ∧ PRep g A (y4j ok (rv, rb)) X := by
        intro es r' hf hrr
        unfold gotV at hg
        generalize xws ab.1 ab.2 m 0 = r at hg hrr
        cases r with
        | some r =>
          cases r' with
          | none => cases hrr
          | some r' =>
            cases hg
            refine ⟨_, ?_, z9z hrr⟩
            rw [Sem.run_bind, xww h2t, Result.andThen_ok, Sem.run_bind, hf, Result.andThen_ok]
            rfl
        | none =>
          cases r' with
          | some r' => cases hrr
          | none =>
            obtain ⟨z, hz, h2⟩ := Option.map_eq_some_iff.1 hg
            cases h2
            obtain ⟨zv, hz1, hz2⟩ := y4u (g := g) (w := w) hz
            refine ⟨_, ?_, z9z hz2⟩
            rw [Sem.run_bind, xww h2t, Result.andThen_ok, Sem.run_bind, hf, Result.andThen_ok]
            simp only [Sem.run_bind, hz1, Result.andThen_ok]
            rfl
       unfold Instr.lookup
       rw [Sem.run_bind, run_underlying hT, Result.andThen_ok]
       rcases z2n hm hx hmm with ⟨rfl, rfl, _⟩ | ⟨κ, ar, b, es, clock, m0, hA, _, _, rfl, _, _, _, hh, hes, he⟩
       · exact fin #[] none (xwt h2t ab.1 ab.2 (es := []) (fun x hx => by cases hx)) trivial
       · rw [Sem.run_bind, zv9 hh]
         obtain ⟨t2, _, hr⟩ := hes.findP he hall ab.1 ab.2
         rcases hr with ⟨j, i, v, v0, e1, _, h2, _, h3⟩ | ⟨e1, h2, _⟩
         · refine fin es (some (i, v0)) ((xwt h2t ab.1 ab.2 t2).trans (by rw [show (es.toList.map fun e => (e.key, e.val)) = kvs es from rfl, h2])) ?_
           rw [e1]
           exact h3
         · refine fin es none ((xwt h2t ab.1 ab.2 t2).trans (by rw [show (es.toList.map fun e => (e.key, e.val)) = kvs es from rfl, h2])) ?_
           rw [e1]
           trivial
     · cases h
   · obtain ⟨k, hk, h⟩ := Option.bind_eq_some_iff.1 h
     obtain ⟨m, hmm, h⟩ := Option.bind_eq_some_iff.1 h
     have hui := z86 hi hk
     subst hui
     unfold y7j at h
     obtain ⟨kd, hkd, h⟩ := Option.bind_eq_some_iff.1 h
     split at h
     · rename_i hok
       obtain ⟨r, hr, h⟩ := Option.bind_eq_some_iff.1 h
       obtain ⟨⟨rv, rb⟩, hg, rfl⟩ := Option.map_eq_some_iff.1 h
       have fin : ∀ (es : Array MapEntry) (r' : Option (Nat × Value)), (Instr.findKey kt ui es.toList).run P w = .ok r' w → (match r, r' with | some a, some b => z1a g.C g.π a.2 b.2 | none, none => True | _, _ => False) → ∃ X, ((do
        Instr.checkKey es.isEmpty 10000 kt ui
        let (v, o) ← match ← Instr.findKey kt ui es.toList with
         | some (_, v) => pure (v, true)
         | none => pure (← zeroValue e, false)
        pure (if ok then .tuple #[v, .bool o] else v) : Sem Value)).run P w = .ok X w ∧ PRep g A (y4j ok (rv, rb)) X := by
        intro es r' hf hrr
        unfold gotV at hg
        cases r with
        | some r =>
          cases r' with
          | none => cases hrr
          | some r' =>
            cases hg
            refine ⟨_, ?_, z9z hrr⟩
            rw [Sem.run_bind, zjg hkd hok, Result.andThen_ok, Sem.run_bind, hf, Result.andThen_ok]
            rfl
        | none =>
          cases r' with
          | some r' => cases hrr
          | none =>
            obtain ⟨z, hz, h2⟩ := Option.map_eq_some_iff.1 hg
            cases h2
            obtain ⟨zv, hz1, hz2⟩ := y4u (g := g) (w := w) hz
            refine ⟨_, ?_, z9z hz2⟩
            rw [Sem.run_bind, zjg hkd hok, Result.andThen_ok, Sem.run_bind, hf, Result.andThen_ok]
            simp only [Sem.run_bind, hz1, Result.andThen_ok]
            rfl
       unfold Instr.lookup
       rw [Sem.run_bind, run_underlying hT, Result.andThen_ok]
       rcases z2n hm hx hmm with ⟨rfl, rfl, _⟩ | ⟨κ, ar, b, es, clock, m0, hA, _, _, rfl, _, _, _, hh, hes, he⟩
       · cases hr
         exact fin #[] none (zjc hkd rfl) trivial
       · rw [Sem.run_bind, zv9 hh]
         rcases hes.find2 he hok hr with ⟨j, i, v, v0, rfl, _, _, h2, _, h3⟩ | ⟨rfl, h2, _⟩
         · exact fin es _ (zjc hkd h2) h3
         · exact fin es _ (zjc hkd h2) trivial
     · cases h
 · cases h
theorem z89 (hm : MRel g H A w) {κ : Tok} {ar : Arr} {m0' : List (Value × Value)} {m m' : List (Value × MV)} {b : Nat} {es es' : Array MapEntry} {clock clock' : Nat} (hA : A κ = some ar) (hcore : ar.core = .mp m) (hτ : g.τ κ = .map (some b)) (hO : g.O b = some (.tok κ)) (hC : ∀ j, g.C b j = none)
 (hh : w.heap[b]? = some (.map es clock)) (he : MapOK es' clock' m0') (hen : EntsRep g.C g.π m0' m') :
 MRel g H (upd A κ (some (ar.re (.mp m')))) { w with heap := w.heap.setIfInBounds b (.map es' clock') } ∧ Evol g A w g (upd A κ (some (ar.re (.mp m')))) { w with heap := w.heap.setIfInBounds b (.map es' clock') } := by
 have hlt := zkp hh
 have hold : ∀ b', b' ≠ b → (w.heap.setIfInBounds b (.map es' clock'))[b']? = w.heap[b']? := fun b' hb => by
  rw [Array.getElem?_setIfInBounds, if_neg (Ne.symm hb)]
 refine tokstep (g' := g) (κ := κ) (ar' := ar.re (.mp m')) (w' := { w with heap := w.heap.setIfInBounds b (.map es' clock') }) hm rfl (fun _ _ => rfl) (fun _ _ _ h => h) (fun _ _ _ _ => rfl) (fun _ _ => rfl)
  (fun b' o ho => by
    have := hm.own b' o ho
    simpa using this)
  (fun b' _ hb => hold b' (fun e => by subst e; exact hb hO))
  (fun b' o v hc => by
    have hne : b' ≠ b := fun e => by subst e; rw [hC] at hc; cases hc
    rw [World.cell?_of_block (w := w) (hold b' hne)]
    exact hm.com b' o v hc)
  (fun ar2 ha => by rw [hA] at ha; cases ha; exact zkg.re (by rw [hcore]; exact rfl))
  (zqa.re (hm.tok κ ar hA) ⟨b, es', clock', m0', hτ, hO, hC, by simp [hlt], he, hen⟩ rfl) (by simp) rfl rfl rfl rfl (fun n => yqh (fun n e => by cases e) n)
theorem z04 {b : Nat} {es : Array MapEntry} {clock : Nat} {o : Obj} (h : w.heap[b]? = some (.map es clock)) : (setObj b o).run P w = .ok () { w with heap := w.heap.setIfInBounds b o } := by
 simp only [setObj, Sem.run, h]
theorem ywg {kd : TypeDesc} {k k' : Value} (hok : zku kd k = true) (h : Instr.sameNow kd k k' = some true) : k' = k ∧ Instr.sameBits 10000 k' k = true := by
 cases kd <;> cases k <;> first | (cases hok; done) | skip
 · rename_i ik jk n
   cases k' <;> first | (cases h; done) | skip
   rename_i kk m
   unfold Instr.sameNow at h
   simp only at h
   split at h
   · rename_i e
     subst e
     simp only [Option.some.injEq, beq_iff_eq] at h
     subst h
     exact ⟨rfl, by unfold Instr.sameBits; simp⟩
   · cases h
 · rename_i s
   cases k' <;> first | (cases h; done) | skip
   rename_i s'
   unfold Instr.sameNow at h
   simp only [Option.some.injEq] at h
   have hd : s.data = s'.data := eq_of_beq (show (s.data == s'.data) = true from h)
   have he : s = s' := by cases s; cases s'; simp only at hd; rw [hd]
   subst he
   exact ⟨rfl, h⟩
theorem xzr (hm : MRel g H A w) {T : TypeId} {x k v : PV} {u uk uv : Value} {A' : AMap} (hx : PRep g A x u) (hk : PRep g A k uk) (hv : PRep g A v uv) (h : mupS P A T x k v = some A') :
 ∃ w', (Instr.mapUpdate T u uk uv).run P w = .ok () w' ∧ MRel g H A' w' ∧ Evol g A w g A' w' := by
 unfold mupS at h
 split at h
 · rename_i kt e hT
   split at h
   · rename_i ab hab
     obtain ⟨m, hmm, h⟩ := Option.bind_eq_some_iff.1 h
     obtain ⟨v', hv', h⟩ := Option.bind_eq_some_iff.1 h
     split at h
     · rename_i hc
       obtain ⟨h2t, hall⟩ := hc
       have e1 := xw3 hk hab
       subst e1
       have hmv := y1s hv hv'
       rcases z2n hm hx hmm with ⟨_, _, hs⟩ | ⟨κ, ar, b, es, clock, m0, hA, hcore, hs, rfl, hτ, hO, hC, hh, hes, he⟩
       · rw [hs] at h; cases h
       · rw [hs] at h
         cases h
         obtain ⟨t2, t0, hr⟩ := hes.findP he hall ab.1 ab.2
         rcases hr with ⟨j, i, rv, v0, e1, hj0, hmf, hi, _⟩ | ⟨e1, hmf, hno⟩
         · rw [e1]
           have hf : (Instr.findKey kt (key2 ab.1 ab.2) es.toList).run P w = .ok (some (i, v0)) w := (xwt h2t ab.1 ab.2 t2).trans (by rw [show (es.toList.map fun e => (e.key, e.val)) = kvs es from rfl, hmf])
           obtain ⟨e0, h0, h1⟩ := y1j hi
           refine ⟨_, ?_, z89 hm hA hcore hτ hO hC hh (es' := es.modify i fun e => { e with key := key2 ab.1 ab.2, val := uv }) (clock' := clock) (hes.set hj0 hi) (he.set ⟨rfl, hmv⟩)⟩
           unfold Instr.mapUpdate
           simp only [Sem.run_bind, run_underlying hT, Result.andThen_ok, zv9 hh, xww h2t, hf]
           have hks : (Instr.keyThatStays (((es[i]?).map (·.key)).getD (key2 ab.1 ab.2)) (key2 ab.1 ab.2)).run P w = .ok (key2 ab.1 ab.2) w := by
            rw [h0]
            show (Instr.keyThatStays e0.key (key2 ab.1 ab.2)).run P w = _
            have hk0 : e0.key = key2 ab.1 ab.2 := congrArg Prod.fst h1
            have hb : ∀ s : ByteArray, Instr.sameBits 9999 (.string s) (.string s) = true := fun s => by
             unfold Instr.sameBits
             exact xwx.2 rfl
            have hsb : Instr.sameBits 10000 (key2 ab.1 ab.2) (key2 ab.1 ab.2) = true := by
             show Instr.sameBits (9999 + 1) (.agg #[.string ab.1, .string ab.2]) (.agg #[.string ab.1, .string ab.2]) = true
             unfold Instr.sameBits
             simp [hb]
            unfold Instr.keyThatStays
            rw [hk0, hsb]
            rfl
           simp only [hks, Result.andThen_ok, z04 hh]
         · rw [e1]
           have hf : (Instr.findKey kt (key2 ab.1 ab.2) es.toList).run P w = .ok none w := (xwt h2t ab.1 ab.2 t2).trans (by rw [show (es.toList.map fun e => (e.key, e.val)) = kvs es from rfl, hmf])
           refine ⟨_, ?_, z89 hm hA hcore hτ hO hC hh (es' := es.push { key := key2 ab.1 ab.2, val := uv, born := clock }) (clock' := clock + 1) (hes.push (fun p hp => (t0 p hp).trans rfl) (by show some KTag.two ≠ none; simp) hno) (he.append (.cons ⟨rfl, hmv⟩ .nil))⟩
           unfold Instr.mapUpdate
           simp only [Sem.run_bind, run_underlying hT, Result.andThen_ok, zv9 hh, xww h2t, hf, z04 hh]
     · cases h
   · obtain ⟨m, hmm, h⟩ := Option.bind_eq_some_iff.1 h
     obtain ⟨k', hk', h⟩ := Option.bind_eq_some_iff.1 h
     obtain ⟨v', hv', h⟩ := Option.bind_eq_some_iff.1 h
     obtain ⟨m', hm', hS⟩ := Option.bind_eq_some_iff.1 h
     have e1 := z86 hk hk'
     subst e1
     have hmv := y1s hv hv'
     rcases z2n hm hx hmm with ⟨_, _, hs⟩ | ⟨κ, ar, b, es, clock, m0, hA, hcore, hs, rfl, hτ, hO, hC, hh, hes, he⟩
     · rw [hs] at hS; cases hS
     · rw [hs] at hS
       cases hS
       unfold upM at hm'
       obtain ⟨kd, hkd, h⟩ := Option.bind_eq_some_iff.1 hm'
       split at h
       · rename_i hok
         obtain ⟨r, hr, rfl⟩ := Option.map_eq_some_iff.1 h
         obtain ⟨hkt, _⟩ := y4e hok
         rcases hes.find2 he hok hr with ⟨j, i, rv, v0, rfl, hj, hj0, hmf, hi, _⟩ | ⟨rfl, hmf, hno, htg⟩
         · have hf : (Instr.findKey kt uk es.toList).run P w = .ok (some (i, v0)) w := zjc hkd hmf
           obtain ⟨e0, h0, h1⟩ := y1j hi
           refine ⟨_, ?_, z89 hm hA hcore hτ hO hC hh (es' := es.modify i fun e => { e with key := uk, val := uv }) (clock' := clock) (hes.set hj0 hi) (he.set ⟨rfl, hmv⟩)⟩
           unfold Instr.mapUpdate
           simp only [Sem.run_bind, run_underlying hT, Result.andThen_ok, zv9 hh, zjg hkd hok, hf]
           have hks : (Instr.keyThatStays (((es[i]?).map (·.key)).getD uk) uk).run P w = .ok uk w := by
            rw [h0]
            show (Instr.keyThatStays e0.key uk).run P w = _
            have hk0 : e0.key = uk := by cases h1; rfl
            have hsb : Instr.sameBits 10000 uk uk = true := (ywg hok (yqx hok)).2
            unfold Instr.keyThatStays
            rw [hk0, hsb]
            rfl
           simp only [hks, Result.andThen_ok, z04 hh]
         · have hf : (Instr.findKey kt uk es.toList).run P w = .ok none w := zjc hkd hmf
           refine ⟨_, ?_, z89 hm hA hcore hτ hO hC hh (es' := es.push { key := uk, val := uv, born := clock }) (clock' := clock + 1) (hes.push htg hkt hno) (he.append (.cons ⟨rfl, hmv⟩ .nil))⟩
           unfold Instr.mapUpdate
           simp only [Sem.run_bind, run_underlying hT, Result.andThen_ok, zv9 hh, zjg hkd hok, hf, z04 hh]
       · cases h
 · cases h
theorem y7m (hm : MRel g H A w) {T ty : TypeId} {ats : Array TypeId} {x k : PV} {u uk : Value} {A' : AMap} (hx : PRep g A x u) (hk : PRep g A k uk) (hat : ats[0]? = some T) (h : y1o P A T x k = some A') :
 ∃ w', (Builtin.delete_ ats ty #[u, uk]).run P w = .ok (.tuple #[]) w' ∧ MRel g H A' w' ∧ Evol g A w g A' w' := by
 unfold y1o at h
 split at h
 · rename_i kt e hT
   obtain ⟨m, hmm, h⟩ := Option.bind_eq_some_iff.1 h
   obtain ⟨k', hk', h⟩ := Option.bind_eq_some_iff.1 h
   obtain ⟨m', hm', hS⟩ := Option.bind_eq_some_iff.1 h
   have e1 := z86 hk hk'
   subst e1
   rcases z2n hm hx hmm with ⟨_, _, hs⟩ | ⟨κ, ar, b, es, clock, m0, hA, hcore, hs, rfl, hτ, hO, hC, hh, hes, he⟩
   · rw [hs] at hS; cases hS
   · rw [hs] at hS
     cases hS
     unfold delM at hm'
     obtain ⟨kd, hkd, h⟩ := Option.bind_eq_some_iff.1 hm'
     split at h
     · rename_i hok
       obtain ⟨r, hr, rfl⟩ := Option.map_eq_some_iff.1 h
       rcases hes.find2 he hok hr with ⟨j, i, rv, v0, rfl, hj, hj0, hmf, hi, _⟩ | ⟨rfl, hmf, hno, htg⟩
       · have hf : (Instr.findKey kt uk es.toList).run P w = .ok (some (i, v0)) w := zjc hkd hmf
         refine ⟨_, ?_, z89 hm hA hcore hτ hO hC hh (es' := es.eraseIdxIfInBounds i) (clock' := clock) (hes.erase hj0 hi) he.erase⟩
         unfold Builtin.delete_
         simp only [hat, List.getElem?_toArray, List.getElem?_cons_zero, List.getElem?_cons_succ, Sem.run_bind, run_underlying hT, Result.andThen_ok, zv9 hh, zjg hkd hok, hf, z04 hh]
         rfl
       · have hf : (Instr.findKey kt uk es.toList).run P w = .ok none w := zjc hkd hmf
         refine ⟨_, ?_, z89 hm hA hcore hτ hO hC hh (es' := es) (clock' := clock) hes he⟩
         unfold Builtin.delete_
         simp only [hat, List.getElem?_toArray, List.getElem?_cons_zero, List.getElem?_cons_succ, Sem.run_bind, run_underlying hT, Result.andThen_ok, zv9 hh, zjg hkd hok, hf, z04 hh]
         rfl
     · cases h
 · cases h
theorem yvr (es : Array MapEntry) : leftOf es #[] = es := by
 unfold leftOf
 rw [Array.filter_eq_self]
 intro x _
 simp
theorem zqa.re' {g' : Gh} {w' : World} {κ : Tok} {ar b : Arr} (h : zqa g w κ ar) (hτ : g'.τ κ = g.τ κ) (hπ : g'.π = g.π) (hb : zqa g' w' κ b) (hp : b.isPr = false) : zqa g' w' κ (ar.re b) := by
 cases ar <;> first | exact hb | exact ⟨hb, by rw [hτ, hπ]; exact h.2.1, hp⟩
theorem y2a (hm : MRel g H A w) {T kt e : TypeId} {κ : Tok} {ar : Arr} {m : List (Value × MV)} {u : Value} (hT : P.underlying T = some (.map kt e)) (hA : A κ = some ar) (hcore : ar.core = .mp m) (hu : u = g.τ κ) :
 ∃ bi u' w' g', (Instr.range T u).run P w = .ok u' w' ∧ PRep g' (upd A κ (some (ar.re (.mpi m none m bi)))) (.c (.itr κ bi)) u' ∧ MRel g' H (upd A κ (some (ar.re (.mpi m none m bi)))) w' ∧ Evol g A w g' (upd A κ (some (ar.re (.mpi m none m bi)))) w' ∧ g'.β = g.β := by
 have ht := (hm.tok κ _ hA).core
 rw [hcore] at ht
 obtain ⟨b, es, clock, m0, h1, h2, h3, h4, h5, h6⟩ := ht
 rw [h1] at hu
 subst hu
 have hlt := zkp h4
 let o : Obj := .mapIter (some b) clock #[] clock
 let g' : Gh := { g with O := upd g.O w.heap.size (some (.tok κ)) }
 have hold : ∀ q, q < w.heap.size → (w.alloc o).heap[q]? = w.heap[q]? := fun q hq => heap_alloc_old w _ q hq
 have hO : ∀ q, q < w.heap.size → g'.O q = g.O q := fun q hq => zza _ _ (by omega)
 obtain ⟨m1, m2⟩ := tokstep (g' := g') (κ := κ) (ar' := ar.re (.mpi m none m w.heap.size)) (w' := w.alloc o) hm rfl (fun _ _ => rfl) (fun _ _ _ h => h) (fun _ _ _ _ => rfl) hO
  (fun q o' ho => by
    by_cases hq : q = w.heap.size
    · subst hq; simp
    · rw [show g'.O q = g.O q from zza _ _ hq] at ho
      have := hm.own q o' ho
      simp; omega)
  (fun q hq _ => hold q hq)
  (fun q i v hc => by
    rw [World.cell?_of_block (w := w) (hold q (C_lt hm hc))]
    exact hm.com q i v hc)
  (fun ar2 ha => by rw [hA] at ha; cases ha; exact zkg.re (by rw [hcore]; exact rfl))
  ((hm.tok κ ar hA).re' rfl rfl ⟨b, es, clock, m0, h1, by rw [hO b hlt]; exact h2, h3, by rw [hold b hlt]; exact h4, h5, h6, #[], none, m0, zzc _ _ _, fun j => zk1 hm j, heap_alloc_new w _, ⟨by rw [yvr]; exact h5.perm, fun p hp => by cases hp⟩, trivial, h6⟩ rfl)
  (by simp) rfl rfl rfl rfl (fun n => yqh (fun n e => by cases e) n)
 exact ⟨w.heap.size, _, _, g', run_range_map w T kt e b es clock hT h4, rfl, m1, m2, rfl⟩
theorem y71 (hm : MRel g H A w) {T : TypeId} {κ : Tok} {s : ByteArray} (hT : P.underlying T = some .string) (hA : A κ = none) :
 ∃ u' w' g', (Instr.range T (.string s)).run P w = .ok u' w' ∧ PRep g' (upd A κ (some (.si s 0))) (.c (.sit κ)) u' ∧ MRel g' H (upd A κ (some (.si s 0))) w' ∧ Evol g A w g' (upd A κ (some (.si s 0))) w' ∧ g'.β = g.β := by
 let o : Obj := .stringIter s 0
 let g' : Gh := { g with τ := upd g.τ κ (.pointer (some ⟨w.heap.size, 0, none⟩)), O := upd g.O w.heap.size (some (.tok κ)) }
 have hold : ∀ b, b < w.heap.size → (w.alloc o).heap[b]? = w.heap[b]? := fun b hb => heap_alloc_old w _ b hb
 obtain ⟨m1, m2⟩ := tokstep (g' := g') (κ := κ) (ar' := .si s 0) (w' := w.alloc o) hm rfl (fun κ' hk => zza _ _ hk) (fun _ _ _ h => h) (fun _ _ _ _ => rfl) (fun b hb => zza _ _ (by omega))
  (fun b o' ho => by
    by_cases hb : b = w.heap.size
    · subst hb; simp
    · rw [show g'.O b = g.O b from zza _ _ hb] at ho
      have := hm.own b o' ho
      simp; omega)
  (fun b hb _ => hold b hb)
  (fun b i v hc => by
    rw [World.cell?_of_block (w := w) (hold b (C_lt hm hc))]
    exact hm.com b i v hc)
  (fun ar ha => by rw [hA] at ha; cases ha)
  ⟨w.heap.size, zzc _ _ _, zzc _ _ _, fun j => zk1 hm j, heap_alloc_new w _⟩ (by simp) rfl rfl rfl
 refine ⟨_, _, g', ?_, ⟨⟨_, rfl⟩, (zzc _ _ _).symm, s, 0, zzc _ _ _⟩, m1, m2, rfl⟩
 simp [Instr.range, run_underlying hT, o]
theorem y1x (hm : MRel g H A w) {κ : Tok} {b : Nat} {o o' : Obj} {ar ar' : Arr} (hA : A κ = some ar) (hO : g.O b = some (.tok κ)) (hC : ∀ j, g.C b j = none) (hh : w.heap[b]? = some o) (hle : zkg ar (g.τ κ) ar' (g.τ κ))
 {w1 : World} (q1 : w1.heap = w.heap) (q2 : w1.os = w.os) (q3 : w1.tape = w.tape) (q4 : w1.output = w.output)
 (hrep : zqa g { w1 with heap := w1.heap.setIfInBounds b o' } κ ar') (hnc : ∀ n, ar' ≠ .cnt n := by intro n h; cases h) :
 MRel g H (upd A κ (some ar')) { w1 with heap := w1.heap.setIfInBounds b o' } ∧ Evol g A w g (upd A κ (some ar')) { w1 with heap := w1.heap.setIfInBounds b o' } := by
 have hlt := zkp hh
 have hold : ∀ b', b' ≠ b → (w1.heap.setIfInBounds b o')[b']? = w.heap[b']? := fun b' hb => by
  rw [Array.getElem?_setIfInBounds, if_neg (Ne.symm hb), q1]
 refine tokstep (g' := g) (κ := κ) (ar' := ar') (w' := { w1 with heap := w1.heap.setIfInBounds b o' }) hm rfl (fun _ _ => rfl) (fun _ _ _ h => h) (fun _ _ _ _ => rfl) (fun _ _ => rfl)
  (fun b' o ho => by
    have := hm.own b' o ho
    simpa [q1] using this)
  (fun b' _ hb => hold b' (fun e => by subst e; exact hb hO))
  (fun b' o v hc => by
    have hne : b' ≠ b := fun e => by subst e; rw [hC] at hc; cases hc
    rw [World.cell?_of_block (w := w) (hold b' hne)]
    exact hm.com b' o v hc)
  (fun ar ha => by rw [hA] at ha; cases ha; exact hle) hrep (by simp [q1]) q2 q3 q4 rfl hnc
theorem y7u (hm : MRel g H A w) {κ : Tok} {s : ByteArray} {pos : Nat} {u : Value} {ty : TypeId} (hA : A κ = some (.si s pos)) (hx : PRep g A (.c (.sit κ)) u) :
 (pos < s.size → ∃ w', (Instr.next u true ty).run P w = .ok (.tuple #[.bool true, .int .i64 (pos : Int), .int .i32 (Utf8.decode s pos).1]) w' ∧ MRel g H (upd A κ (some (.si s (pos + (Utf8.decode s pos).2)))) w' ∧ Evol g A w g (upd A κ (some (.si s (pos + (Utf8.decode s pos).2)))) w') ∧
 (¬ pos < s.size → (Instr.next u true ty).run P w = .ok (.tuple #[.bool false]) w) := by
 obtain ⟨_, hv, _⟩ := hx
 obtain ⟨b, h1, h2, h3, h4⟩ := hm.tok κ _ hA
 rw [hv, h1]
 refine ⟨fun hp => ?_, fun hp => ?_⟩
 · obtain ⟨m1, m2⟩ := y1x (o' := .stringIter s (pos + (Utf8.decode s pos).2)) (ar' := .si s (pos + (Utf8.decode s pos).2)) (w1 := w) hm hA h2 h3 h4 rfl rfl rfl rfl rfl ⟨b, h1, h2, h3, by simp [zkp h4]⟩
   refine ⟨_, ?_, m1, m2⟩
   simp only [Instr.next, getObj, Sem.run_bind, Sem.run, h4, Result.andThen, if_pos hp, setObj, goInt]
   rfl
 · simp only [Instr.next, getObj, Sem.run_bind, Sem.run, h4, Result.andThen, if_neg hp]
   rfl
theorem ywe (w : World) (ty : TypeId) {bi bm clock : Nat} {seen : Array Nat} {es : Array MapEntry} (hb : w.heap[bm]? = some (.map es clock)) (hi : w.heap[bi]? = some (.mapIter (some bm) clock seen clock)) (hold : ∀ x ∈ es.toList, x.born < clock) :
 ((leftOf es seen).size = 0 ∧ (Instr.next (.pointer (some ⟨bi, 0, none⟩)) false ty).run P w = .ok (.tuple #[.bool false]) w) ∨
 ∃ (j : Nat) (e : MapEntry) (w1 : World), (leftOf es seen)[j]? = some e ∧ (w1.heap = w.heap ∧ w1.os = w.os ∧ w1.tape = w.tape ∧ w1.output = w.output) ∧
   (Instr.next (.pointer (some ⟨bi, 0, none⟩)) false ty).run P w = .ok (.tuple #[.bool true, e.key, e.val]) { w1 with heap := w1.heap.setIfInBounds bi (.mapIter (some bm) clock (seen.push e.born) clock) } := by
 simp only [Instr.next, getObj, Sem.run_bind, Sem.run, hi, hb, Result.andThen, next_test_false seen es clock clock hold (Zlr _), Bool.false_eq_true, if_false]
 unfold leftOf
 have hmem : ∀ x ∈ (Array.filter (fun e => !seen.contains e.born) es).toList, x.born < clock := fun x hx => hold x (by simp at hx ⊢; exact hx.1)
 generalize Array.filter (fun e => !seen.contains e.born) es = L at hmem ⊢
 have e1 : L.filter (fun x => decide (x.born < clock)) = L := Array.filter_eq_self.2 (fun x hx => by simpa using hmem x (by simpa using hx))
 have e2 : L.filter (fun x => decide (x.born ≥ clock)) = #[] := by
  rw [Array.filter_eq_empty_iff]
  intro x hx
  have := hmem x (by simpa using hx)
  simp
  omega
 simp only [e1, e2, Array.append_empty]
 by_cases h0 : L.size = 0
 · left
   have : L = #[] := Array.eq_empty_of_size_eq_zero h0
   subst this
   refine ⟨rfl, ?_⟩
   simp [choose, Sem.run, Question.forced]
 · right
   have hne : L.isEmpty = false := by simp [Array.isEmpty, h0]
   simp only [hne, Bool.false_eq_true, if_false, Array.empty_append, Array.size_map]
   have hch : ∃ (j : Nat) (w1 : World), j < L.size ∧ (w1.heap = w.heap ∧ w1.os = w.os ∧ w1.tape = w.tape ∧ w1.output = w.output) ∧ (choose (Question.mapNext L.size)).run P w = .ok j w1 := by
    by_cases hf : L.size ≤ 1
    · exact ⟨0, w, by omega, ⟨rfl, rfl, rfl, rfl⟩, by simp [choose, Sem.run, Question.forced, hf]⟩
    · exact ⟨_, w.drew, Nat.mod_lt _ (by omega), ⟨rfl, rfl, rfl, rfl⟩, by
       simp only [choose, Sem.run, Question.forced, decide_eq_true_eq, hf, if_false, Question.cut]
       rfl⟩
   obtain ⟨j, w1, hj, hal, hrun⟩ := hch
   refine ⟨j, L[j], w1, Array.getElem?_eq_getElem hj, hal, ?_⟩
   have hset : (setObj bi (.mapIter (some bm) clock (seen.push L[j].born) clock)).run P w1 = .ok () { w1 with heap := w1.heap.setIfInBounds bi (.mapIter (some bm) clock (seen.push L[j].born) clock) } := by
    simp only [setObj, Sem.run, hal.1, hi]
   simp only [hrun, Array.getElem?_map, Array.getElem?_eq_getElem hj, Option.map_some, Sem.run_bind, hset, Result.andThen]
   rfl
theorem yxu {es : Array MapEntry} {seen : Array Nat} {e : MapEntry} {j : Nat} (hu : (es.toList.map (·.born)).Nodup) (hj : (leftOf es seen)[j]? = some e) :
 (leftOf es seen).toList.Perm (e :: (leftOf es (seen.push e.born)).toList) := by
 have h1 : (leftOf es seen).toList = es.toList.filter fun x => !seen.contains x.born := by unfold leftOf; rw [Array.toList_filter]
 have h2 : (leftOf es (seen.push e.born)).toList = es.toList.filter fun x => !(seen.push e.born).contains x.born := by unfold leftOf; rw [Array.toList_filter]
 have hmem : e ∈ es.toList.filter fun x => !seen.contains x.born := by
  rw [← h1]
  exact Zme (by rw [Array.getElem?_toList]; exact hj)
 rw [h1, h2]
 clear h1 h2 hj
 generalize es.toList = l at *
 induction l with
 | nil => cases hmem
 | cons x l ih =>
   obtain ⟨n1, n2⟩ := List.nodup_cons.1 hu
   rw [List.filter_cons, List.filter_cons, contains_push]
   by_cases hx : x = e
   · subst hx
     have hs : seen.contains x.born = false := by
      have := (List.mem_filter.1 hmem).2
      simpa using this
     rw [hs, beq_self_eq_true]
     simp only [Bool.not_false, if_true, Bool.or_true, Bool.not_true, Bool.false_eq_true, if_false]
     refine List.Perm.cons _ (List.Perm.of_eq ?_)
     apply List.filter_congr
     intro y hy
     rw [contains_push]
     have hne : (y.born == x.born) = false := by
      rw [beq_eq_false_iff_ne]
      intro e
      exact n1 (List.mem_map.2 ⟨y, hy, e⟩)
     rw [hne, Bool.or_false]
   · have hm2 : e ∈ l.filter fun x => !seen.contains x.born := by
      rw [List.filter_cons] at hmem
      split at hmem
      · rcases List.mem_cons.1 hmem with h | h
        · exact (hx h.symm).elim
        · exact h
      · exact hmem
     have hne : (x.born == e.born) = false := by
      rw [beq_eq_false_iff_ne]
      intro h
      exact n1 (List.mem_map.2 ⟨e, (List.mem_filter.1 hm2).1, h.symm⟩)
     rw [hne, Bool.or_false]
     have ih := ih n2 hm2
     by_cases hs : seen.contains x.born = true
     · simp only [hs, Bool.not_true, Bool.false_eq_true, if_false]
       exact ih
     · simp only [hs, Bool.not_false, if_true]
       exact (ih.cons x).trans (.swap e x _)
theorem y1v (hm : MRel g H A w) {κ : Tok} {ar : Arr} {m left : List (Value × MV)} {cur : Option (Value × MV)} {bi : Nat} {ty : TypeId} (hA : A κ = some ar) (hcore : ar.core = .mpi m cur left bi) :
 (left = [] ∧ (Instr.next (.pointer (some ⟨bi, 0, none⟩)) false ty).run P w = .ok (.tuple #[.bool false]) w ∧ MRel g H (upd A κ (some (ar.re (.mp m)))) w ∧ Evol g A w g (upd A κ (some (ar.re (.mp m)))) w) ∨
 ∃ i e ev w', left[i]? = some e ∧ zxh e.1 ≠ none ∧ z1a g.C g.π e.2 ev ∧ (Instr.next (.pointer (some ⟨bi, 0, none⟩)) false ty).run P w = .ok (.tuple #[.bool true, e.1, ev]) w' ∧
   MRel g H (upd A κ (some (ar.re (.mpi m (some e) (left.eraseIdx i) bi)))) w' ∧ Evol g A w g (upd A κ (some (ar.re (.mpi m (some e) (left.eraseIdx i) bi)))) w' := by
 have ht0 := hm.tok κ _ hA
 have ht := ht0.core
 rw [hcore] at ht
 obtain ⟨b, es, clock, m0, h1, h2, h3, h4, h5, h6, seen, cur0, left0, p2, p3, p4, p5, p6, p7⟩ := ht
 rcases ywe (P := P) w ty h4 p4 h5.born with ⟨hz, hr⟩ | ⟨j, e, w1, hj, ⟨q1, q2, q3, q4⟩, hr⟩
 · refine .inl ⟨?_, hr, ?_⟩
   · have : kvs (leftOf es seen) = [] := by
      rw [Array.eq_empty_of_size_eq_zero hz]
      rfl
     have hp := p5.left
     rw [this] at hp
     rw [List.Perm.eq_nil hp.symm] at p7
     cases p7
     rfl
   · exact tokstep (g' := g) (κ := κ) (ar' := ar.re (.mp m)) (w' := w) hm rfl (fun _ _ => rfl) (fun _ _ _ h => h) (fun _ _ _ _ => rfl) (fun _ _ => rfl) (fun b o ho => hm.own b o ho) (fun _ _ _ => rfl) (fun b o v hc => hm.com b o v hc)
      (fun ar2 ha => by rw [hA] at ha; cases ha; exact zkg.re (by rw [hcore]; exact rfl)) (ht0.re ⟨b, es, clock, m0, h1, h2, h3, h4, h5, h6⟩ rfl) (Zlr _) rfl rfl rfl rfl (fun n => yqh (fun n e => by cases e) n)
 · have hne : b ≠ bi := fun e => by subst e; rw [h4] at p4; cases p4
   have hpu := yxu h5.uniq hj
   have hkv : (kvs (leftOf es seen)).Perm ((e.key, e.val) :: kvs (leftOf es (seen.push e.born))) := hpu.map _
   have hin : (e.key, e.val) ∈ left0 := p5.left.mem_iff.1 (hkv.mem_iff.2 Zms2)
   obtain ⟨i, hi⟩ := List.mem_iff_getElem?.1 hin
   obtain ⟨e2, hi2, he1, he2⟩ := p7.get' hi
   have hem : e ∈ es.toList := (mem_left (Zme (by rw [Array.getElem?_toList]; exact hj))).1
   have hmm : (e.key, e.val) ∈ m0 := h5.perm.mem_iff.1 (List.mem_map.2 ⟨e, hem, rfl⟩)
   have hl2 : (kvs (leftOf es (seen.push e.born))).Perm (left0.eraseIdx i) := (hkv.symm.trans (p5.left.trans (z02 hi))).cons_inv
   obtain ⟨m1, m2⟩ := y1x (o' := .mapIter (some b) clock (seen.push e.born) clock) (ar' := ar.re (.mpi m (some e2) (left.eraseIdx i) bi)) (w1 := w1) hm hA p2 p3 p4 (zkg.re (by rw [hcore]; exact rfl)) q1 q2 q3 q4
    (ht0.re ⟨b, es, clock, m0, h1, h2, h3, by show (w1.heap.setIfInBounds bi _)[b]? = _; rw [Array.getElem?_setIfInBounds, if_neg (Ne.symm hne), q1]; exact h4, h5, h6, seen.push e.born, some (e.key, e.val), left0.eraseIdx i, p2, p3,
      by show (w1.heap.setIfInBounds bi _)[bi]? = _; rw [q1]; simp [zkp p4], ⟨hl2, fun p hp => by cases hp; exact ⟨e, hem, by simp, rfl⟩⟩, ⟨he1, he2⟩, p7.erase⟩ rfl) (fun n => yqh (fun n e => by cases e) n)
   change e.key = e2.1 at he1
   rw [he1] at hr hmm
   exact .inr ⟨i, e2, e.val, _, hi2, h5.key _ hmm, he2, hr, m1, m2⟩
theorem y0u (hm : MRel g H A w) {κ : Tok} {ar : Arr} {m left : List (Value × MV)} {p : Value × MV} {bi : Nat} (hA : A κ = some ar) (hcore : ar.core = .mpi m (some p) left bi) :
 ∃ pv, (Instr.entry (.pointer (some ⟨bi, 0, none⟩))).run P w = .ok (.tuple #[p.1, pv]) w ∧ zxh p.1 ≠ none ∧ z1a g.C g.π p.2 pv := by
 have ht := (hm.tok κ _ hA).core
 rw [hcore] at ht
 obtain ⟨b, es, clock, m0, h1, h2, h3, h4, h5, h6, seen, cur0, left0, p2, p3, p4, p5, p6, p7⟩ := ht
 cases cur0 with
 | none => exact p6.elim
 | some c0 =>
   obtain ⟨e1, e2⟩ := p6
   obtain ⟨e, he, hb, rfl⟩ := p5.cur c0 rfl
   have hmm : (e.key, e.val) ∈ m0 := h5.perm.mem_iff.1 (List.mem_map.2 ⟨e, he, rfl⟩)
   change e.key = p.1 at e1
   refine ⟨e.val, ?_, by rw [← e1]; exact h5.key _ hmm, e2⟩
   have hf : es.find? (·.born == e.born) = some e := by rw [← Array.find?_toList]; exact find_born e es.toList h5.uniq he
   rw [← e1]
   simp only [Instr.entry, getObj, Sem.run_bind, Sem.run, p4, h4, Result.andThen, hb, bne_self_eq_false, Bool.false_eq_true, if_false, hf]
   rfl
end Go.PW
