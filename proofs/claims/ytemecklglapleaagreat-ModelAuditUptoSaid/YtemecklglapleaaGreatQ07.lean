/-
  Parts of the proof, laid together: PwI.
-/
import Derived.Test.YtemecklglapleaaGreatQ06

namespace Go.PW
variable {P : Program} {g : Gh} {H : HMap} {A : AMap} {w : World}
def Flat (C : Nat → Nat → Option Value) (π : Nat → Option Value) (sz : Nat) (els : List (List D)) (us : List Value) : Prop :=
 us.length = els.length * sz ∧ (∀ v ∈ us, v.oneCell' = true) ∧ ∀ (i k : Nat) (e : List D) (x : D), els[i]? = some e → e[k]? = some x → ∃ v, us[i * sz + k]? = some v ∧ DRep C π x v
theorem Flat.mono {C C' : Nat → Nat → Option Value} {π π' : Nat → Option Value} (h : ∀ b o v, C b o = some v → C' b o = some v) (hp : ∀ p v, π p = some v → π' p = some v) {sz : Nat} {els : List (List D)} {us : List Value} (hf : Flat C π sz els us) : Flat C' π' sz els us :=
 ⟨hf.1, hf.2.1, fun i k e x h1 h2 => let ⟨v, hv, hd⟩ := hf.2.2 i k e x h1 h2; ⟨v, hv, DRep.mono h hp hd⟩⟩
theorem Flat.append {C : Nat → Nat → Option Value} {π : Nat → Option Value} {sz : Nat} {a b : List (List D)} {us vs : List Value} (h : Flat C π sz a us) (k : Flat C π sz b vs) : Flat C π sz (a ++ b) (us ++ vs) := by
 refine ⟨by simp [h.1, k.1, Nat.add_mul], fun v hv => ?_, fun i j e x he hx => ?_⟩
 · rcases List.mem_append.1 hv with hv | hv
   · exact h.2.1 v hv
   · exact k.2.1 v hv
 · rw [List.getElem?_append] at he
   split at he
   · rename_i hi
     obtain ⟨v, hv, hd⟩ := h.2.2 i j e x he hx
     refine ⟨v, ?_, hd⟩
     rw [List.getElem?_append, if_pos (List.getElem?_eq_some_iff.1 hv).1]
     exact hv
   · rename_i hi
     obtain ⟨v, hv, hd⟩ := k.2.2 _ j e x he hx
     refine ⟨v, ?_, hd⟩
     have hm : a.length * sz ≤ i * sz := Nat.mul_le_mul_right _ (by omega)
     rw [List.getElem?_append, if_neg (by rw [h.1]; omega), h.1]
     rw [Nat.sub_mul] at hv
     rw [show i * sz + j - a.length * sz = i * sz - a.length * sz + j by omega]
     exact hv
theorem z3t {C : Nat → Nat → Option Value} {π : Nat → Option Value} {els : List (List D)} {us : List Value} {b o cap sz n : Nat} (hs : Szd sz els) (hf : Flat C π sz els us) (hn : n = els.length) (hcap : n ≤ cap) (hC : ∀ j, j < n * sz → C b (o + j) = us[j]?) :
 DRep C π (.sl els) (.slice (some ⟨b, o, none⟩) n cap) := by
 refine .sl els b o cap sz n (fun i k => us.getD (i * sz + k) undef) hn hcap hs (fun i k hi hk => ?_) (fun i k e x he hx => ?_)
 · have := Nat.mul_le_mul_right sz (show i + 1 ≤ n from hi)
   rw [Nat.add_mul, Nat.one_mul] at this
   rw [Nat.add_assoc, hC _ (by omega), List.getD_eq_getElem?_getD, Zge (by rw [hf.1, ← hn]; omega)]
   rfl
 · obtain ⟨v, hv, hd⟩ := hf.2.2 i k e x he hx
   simp only [List.getD_eq_getElem?_getD, hv, Option.getD_some]
   exact hd
theorem yxo {els : List (List D)} {u : Value} {sz : Nat} (h : DRep g.C g.π (.sl els) u) (hs : Szd sz els) :
 ∃ (us : List Value) (a : Option Addr) (cap : Nat), Flat g.C g.π sz els us ∧ u = .slice a els.length cap ∧ els.length ≤ cap ∧ ((els = [] ∧ cap = 0) ∨ ∃ b o, a = some ⟨b, o, none⟩ ∧ ∀ j v, us[j]? = some v → g.C b (o + j) = some v) := by
 cases h with
 | nil a => exact ⟨[], a, 0, ⟨by simp, by simp, by simp⟩, rfl, by simp, .inl ⟨rfl, rfl⟩⟩
 | sl els b o cap sz' n val hn hcap hsz hC hd =>
   subst hn
   by_cases hne : els = []
   · subst hne
     exact ⟨[], _, cap, ⟨by simp, by simp, by simp⟩, rfl, hcap, .inr ⟨b, o, rfl, by simp⟩⟩
   · obtain ⟨e0, r0, rfl⟩ : ∃ e r, els = e :: r := by cases els with | nil => exact (hne rfl).elim | cons e r => exact ⟨e, r, rfl⟩
     have e1 : sz' = sz := by rw [← hs e0 (by simp), hsz e0 (by simp)]
     subst e1
     generalize e0 :: r0 = els at *
     by_cases hz : sz' = 0
     · subst hz
       refine ⟨[], _, cap, ⟨by simp, by simp, fun i k e x he hx => ?_⟩, rfl, hcap, .inr ⟨b, o, rfl, by simp⟩⟩
       have := hs e (Zme he)
       have := (List.getElem?_eq_some_iff.1 hx).1
       omega
     · have hpos : 0 < sz' := by omega
       have hdiv : ∀ j, j < els.length * sz' → j / sz' < els.length ∧ j % sz' < sz' := fun j hj => ⟨Nat.div_lt_of_lt_mul (by rw [Nat.mul_comm]; exact hj), Nat.mod_lt _ hpos⟩
       have hcell : ∀ j, j < els.length * sz' → g.C b (o + j) = some (val (j / sz') (j % sz')) := fun j hj => by
        have := hC (j / sz') (j % sz') (hdiv j hj).1 (hdiv j hj).2
        rw [Nat.add_assoc, Nat.mul_comm, Nat.div_add_mod] at this
        exact this
       have hat : ∀ i k, k < sz' → (i * sz' + k) / sz' = i ∧ (i * sz' + k) % sz' = k := fun i k hk => by
        rw [Nat.mul_comm, Nat.mul_add_div hpos, Nat.div_eq_of_lt hk, Nat.mul_add_mod, Nat.mod_eq_of_lt hk]
        simp
       refine ⟨(List.range (els.length * sz')).map (fun j => val (j / sz') (j % sz')), _, cap, ⟨by simp, fun v hv => ?_, fun i k e x he hx => ?_⟩, rfl, hcap, .inr ⟨b, o, rfl, fun j v hj => ?_⟩⟩
       · obtain ⟨j, hj, rfl⟩ := List.mem_map.1 hv
         have hj := List.mem_range.1 hj
         obtain ⟨h1, h2⟩ := hdiv j hj
         have hle : els[j / sz'].length = sz' := hs _ (List.getElem_mem h1)
         exact DRep.oneCell (hd (j / sz') (j % sz') els[j / sz'] _ (Zge h1) (Zge (by omega)))
       · have hi := (List.getElem?_eq_some_iff.1 he).1
         have hk : k < sz' := by rw [← hs e (Zme he)]; exact (List.getElem?_eq_some_iff.1 hx).1
         have := Nat.mul_le_mul_right sz' (show i + 1 ≤ els.length from hi)
         rw [Nat.add_mul, Nat.one_mul] at this
         refine ⟨val i k, ?_, hd i k e x he hx⟩
         rw [List.getElem?_map, List.getElem?_range (by omega)]
         simp [hat i k hk]
       · rw [List.getElem?_map] at hj
         obtain ⟨j', hj', rfl⟩ := Option.map_eq_some_iff.1 hj
         obtain ⟨hlt, e⟩ := List.getElem?_eq_some_iff.1 hj'
         simp only [List.length_range] at hlt
         simp only [List.getElem_range] at e
         subst e
         exact hcell _ hlt
theorem zvf {sz n : Nat} {a : Option Addr} {cap : Nat} {us : List Value} (hl : us.length = n * sz) (h : us = [] ∨ ∃ b o, a = some ⟨b, o, none⟩ ∧ ∀ j v, us[j]? = some v → w.cell? ⟨b, o + j, none⟩ = some v) (w2 : World) (hw : w2.heap = w.heap) :
 (Builtin.firstCells sz n (.slice a n cap)).run P w2 = .ok us.toArray w2 := by
 rcases h with rfl | ⟨b, o, rfl, hc⟩
 · cases a with
   | none => exact run_firstCells_none w2 _ _ _ _
   | some a => exact run_firstCells_some w2 sz n a n cap [] hl (fun j v hj => by simp at hj)
 · refine run_firstCells_some w2 sz n ⟨b, o, none⟩ n cap us hl (fun j v hj => ?_)
   rw [zx0]
   have := hc j v hj
   simpa [World.cell?, hw] using this
theorem zja {t e ty : TypeId} {i : TypeInfo} (ht : P.underlying t = some (.slice e)) (hi : P.info? e = some i) {a a' : Option Addr} {n cap m c' : Nat} {news : List Value}
 (hf : ∀ w2 : World, w2.heap = w.heap → (Builtin.firstCells i.size m (.slice a' m c')).run P w2 = .ok news.toArray w2) (hroom : n + m ≤ cap) :
 (Builtin.append_ #[t, t] ty #[.slice a n cap, .slice a' m c']).run P w = (match a with
   | some b => ((storeCells (b.add (n * i.size)) news).run P w).andThen fun _ w' => .ok (.slice a (n + m) cap) w'
   | none => .ok (.slice none (n + m) cap) w) := by
 have h1 := hf w rfl
 cases a with
 | none => simp [Builtin.append_, run_underlying ht, sizeOf, typeInfo, hi, Builtin.lenOf, hroom, h1]
 | some b => simp [Builtin.append_, run_underlying ht, sizeOf, typeInfo, hi, Builtin.lenOf, hroom, h1]
theorem z4k {t e ty : TypeId} {i : TypeInfo} {z : Value} (ht : P.underlying t = some (.slice e)) (hi : P.info? e = some i) (hz : i.zero = some z) {a a' : Option Addr} {n cap m c' : Nat} {olds news : List Value}
 (hfo : ∀ w2 : World, w2.heap = w.heap → (Builtin.firstCells i.size n (.slice a n cap)).run P w2 = .ok olds.toArray w2)
 (hf : ∀ w2 : World, w2.heap = w.heap → (Builtin.firstCells i.size m (.slice a' m c')).run P w2 = .ok news.toArray w2)
 (hg : cap < n + m) (h63 : ((n + m : Nat) : Int) ≤ 9223372036854775807) (hfit : Builtin.nextslicecap (n + m) cap * i.bytes ≤ 281474976710656) :
 (Builtin.append_ #[t, t] ty #[.slice a n cap, .slice a' m c']).run P w =
   .ok (.slice (some ⟨w.heap.size, 0, none⟩) (n + m) (grownCap w (n + m) cap e))
    (w.drew.alloc (.cells (olds.toArray ++ news.toArray ++ Builtin.zeroCells z.cells (grownCap w (n + m) cap e - (n + m))) e)) := by
 have hn : ¬ (n + m ≤ cap) := by omega
 have h63' : ¬ (9223372036854775807 < ((n : Int) + (m : Int))) := by omega
 have h48' : ¬ (281474976710656 < Builtin.nextslicecap (n + m) cap * i.bytes) := by omega
 have h1 := hf w.drew rfl
 have h2 := hfo w.drew rfl
 simp [Builtin.append_, run_underlying ht, sizeOf, typeInfo, zeroValue, hi, hz, Builtin.lenOf, hn, h63', h48', Question.forced, h1, h2, newRow, grownCap]
 congr 2
 apply Array.ext'
 simp
structure Grown (w w' : World) (sz need : Nat) (us : List Value) (u' : Value) : Prop where
 ex : ∃ cap vs e fz, u' = .slice (some ⟨w.heap.size, 0, none⟩) need cap ∧ need ≤ cap ∧ w'.heap[w.heap.size]? = some (.cells vs e fz) ∧ Unfz vs.size fz ∧ cap * sz ≤ vs.size ∧ (∀ j, j < need * sz → vs[j]? = us[j]?) ∧ us.length = need * sz
 old : ∀ b, b < w.heap.size → w'.heap[b]? = w.heap[b]?
 size : w'.heap.size = w.heap.size + 1
 os : w'.os = w.os
 tape : w'.tape = w.tape
 output : w'.output = w.output
theorem z4t {t e ty : TypeId} {i : TypeInfo} {z : Value} (ht : P.underlying t = some (.slice e)) (hi : P.info? e = some i) (hz : i.zero = some z) (hzs : z.cells.size = i.size) {a a' : Option Addr} {n cap m c' : Nat} {olds news : List Value}
 (hlo : olds.length = n * i.size) (hln : news.length = m * i.size)
 (hfo : ∀ w2 : World, w2.heap = w.heap → (Builtin.firstCells i.size n (.slice a n cap)).run P w2 = .ok olds.toArray w2)
 (hf : ∀ w2 : World, w2.heap = w.heap → (Builtin.firstCells i.size m (.slice a' m c')).run P w2 = .ok news.toArray w2)
 (hg : cap < n + m) (hb : (n + m) * i.bytes ≤ 140737488355328) (h63 : ((n + m : Nat) : Int) ≤ 9223372036854775807) :
 ∃ u' w', (Builtin.append_ #[t, t] ty #[.slice a n cap, .slice a' m c']).run P w = .ok u' w' ∧ Grown w w' i.size (n + m) (olds ++ news) u' := by
 refine ⟨_, _, z4k ht hi hz hfo hf hg h63 (growslice_fits hg hb), ⟨_, _, e, (0, 0), rfl, grownCap_ge w (n + m) cap e, heap_alloc_new w.drew _, fun o _ => by simp, ?_, ?_, ?_⟩, fun b hb => heap_alloc_old w.drew _ b hb, by simp, rfl, rfl, rfl⟩
 · have hge := grownCap_ge w (n + m) cap e
   generalize grownCap w (n + m) cap e = c at hge
   simp only [Array.size_append, List.size_toArray, size_zeroCells, hzs, hlo, hln, ← Nat.add_mul]
   exact Nat.mul_le_mul_right _ (by omega)
 · intro j hj
   rw [Nat.add_mul] at hj
   rw [Array.getElem?_append, if_pos (by simp [hlo, hln]; omega)]
   simp
 · simp [hlo, hln, Nat.add_mul]
theorem z80 (hm : MRel g H A w) {κ : Tok} {w' : World} {sz need : Nat} {els : List (List D)} {us : List Value} {u' : Value} (hg : Grown w w' sz need us u') (hf : Flat g.C g.π sz els us) (hs : Szd sz els) (hn : els.length = need)
 (hle : ∀ ar, A κ = some ar → ∃ n, ar = .co sz n ∧ n < need) :
 ∃ g', MRel g' H (upd A κ (some (.co sz need))) w' ∧ Evol g A w g' (upd A κ (some (.co sz need))) w' ∧ DRep g'.C g'.π (.sl els) u' ∧ g'.τ κ = u' ∧ g'.β = g.β := by
 obtain ⟨cap, vs, e, fz, rfl, hcap, hv, hfz, hvs, hvu, hul⟩ := hg.ex
 let g' : Gh := { g with C := fun b o => if b = w.heap.size then (if o < need * sz then us[o]? else none) else g.C b o, τ := upd g.τ κ (.slice (some ⟨w.heap.size, 0, none⟩) need cap), O := upd g.O w.heap.size (some (.tok κ)) }
 have hC : ∀ b o v, g.C b o = some v → g'.C b o = some v := fun b o v hc => by
  have := C_lt hm hc
  simp only [g']
  rw [if_neg (by omega)]
  exact hc
 have hnew : ∀ o, g'.C w.heap.size o = if o < need * sz then us[o]? else none := fun o => by simp [g']
 obtain ⟨m1, m2⟩ := tokstep (g' := g') (κ := κ) (ar' := .co sz need) (w' := w') hm rfl (fun κ' hk => zza _ _ hk) hC (fun b hb _ o => by simp only [g']; rw [if_neg (by omega)]) (fun b hb => zza _ _ (by omega))
  (fun b o ho => by
    rw [hg.size]
    by_cases hb : b = w.heap.size
    · omega
    · rw [show g'.O b = g.O b from zza _ _ hb] at ho
      have := hm.own b o ho
      omega)
  (fun b hb _ => hg.old b hb)
  (fun b o v hc => by
    by_cases hb : b = w.heap.size
    · subst hb
      rw [hnew] at hc
      split at hc
      · rename_i ho
        exact zqs hv (by rw [hvu o ho]; exact hc)
      · cases hc
    · simp only [g', if_neg hb] at hc
      rw [World.cell?_of_block (w := w) (hg.old b (C_lt hm hc))]
      exact hm.com b o v hc)
  (fun ar ha => by
    obtain ⟨n, rfl, hlt⟩ := hle ar ha
    exact ⟨rfl, .inr hlt⟩)
  ⟨_, cap, zzc _ _ _, hcap, .inr ⟨_, rfl, zzc _ _ _, fun j hj => by rw [hnew, if_neg (by omega)], vs, e, fz, hv, hfz, hvs⟩⟩ (by rw [hg.size]; omega) hg.os hg.tape hg.output
 refine ⟨g', m1, m2, ?_, zzc _ _ _, rfl⟩
 refine z3t hs (hf.mono hC (fun _ _ h => h)) hn.symm hcap (fun j hj => ?_)
 rw [Nat.zero_add, hnew, if_pos hj]
theorem zwj (hm : MRel g H A w) {κ : Tok} {w' : World} {sz need : Nat} {els : List (List D)} {us : List Value} {u' : Value} (hg : Grown w w' sz need us u') (hf : Flat g.C g.π sz els us) (hs : Szd sz els) (hn : els.length = need)
 (hle : ∀ ar, A κ = some ar → ∃ els0, ar = .mu sz els0 ∧ els0.length < need) :
 ∃ g', MRel g' H (upd A κ (some (.mu sz els))) w' ∧ Evol g A w g' (upd A κ (some (.mu sz els))) w' ∧ PRep g' (upd A κ (some (.mu sz els))) (.c (.mt κ sz need)) u' ∧ g'.β = g.β := by
 obtain ⟨cap, vs, e, fz, rfl, hcap, hv, hfz, hvs, hvu, hul⟩ := hg.ex
 let g' : Gh := { g with τ := upd g.τ κ (.slice (some ⟨w.heap.size, 0, none⟩) need cap), O := upd g.O w.heap.size (some (.tok κ)) }
 obtain ⟨m1, m2⟩ := tokstep (g' := g') (κ := κ) (ar' := .mu sz els) (w' := w') hm rfl (fun κ' hk => zza _ _ hk) (fun _ _ _ h => h) (fun _ _ _ _ => rfl) (fun b hb => zza _ _ (by omega))
  (fun b o ho => by
    rw [hg.size]
    by_cases hb : b = w.heap.size
    · omega
    · rw [show g'.O b = g.O b from zza _ _ hb] at ho
      have := hm.own b o ho
      omega)
  (fun b hb _ => hg.old b hb)
  (fun b o v hc => by
    rw [World.cell?_of_block (w := w) (hg.old b (C_lt hm hc))]
    exact hm.com b o v hc)
  (fun ar ha => by
    obtain ⟨els0, rfl, hlt⟩ := hle ar ha
    exact ⟨rfl, .inr (by omega)⟩)
  ⟨hs, some ⟨w.heap.size, 0, none⟩, cap, by rw [hn]; exact zzc _ _ _, by omega, .inr ⟨_, rfl, zzc _ _ _, fun j => zk1 hm j, vs, e, fz, hv, hfz, hvs, fun i k e' x he hx => by
    obtain ⟨v, hv, hd⟩ := hf.2.2 i k e' x he hx
    have := (List.getElem?_eq_some_iff.1 hv).1
    exact ⟨v, by rw [hvu _ (by omega)]; exact hv, hd⟩⟩⟩ (by rw [hg.size]; omega) hg.os hg.tape hg.output
 refine ⟨g', m1, m2, ⟨_, cap, els, rfl, fun _ => ⟨_, rfl⟩, zzc _ _ _, by omega, fun _ => .inl (zzc _ _ _)⟩, rfl⟩
theorem y72 (hm : MRel g H A w) {κ : Tok} {sz n m cap b : Nat} {els ys : List (List D)} {us news : List Value} {vs : Array Value} {e : TypeId} {fz : Nat × Nat}
 (hA : A κ = some (.co sz n)) (hτ : g.τ κ = .slice (some ⟨b, 0, none⟩) n cap) (hO : g.O b = some (.tok κ)) (hCn : ∀ j, n * sz ≤ j → g.C b j = none) (hh : w.heap[b]? = some (.cells vs e fz)) (hu : Unfz vs.size fz) (hcp : cap * sz ≤ vs.size)
 (hf : Flat g.C g.π sz els us) (hfy : Flat g.C g.π sz ys news) (hs : Szd sz els) (hsy : Szd sz ys) (hn : els.length = n) (hm' : ys.length = m) (hC : ∀ j v, us[j]? = some v → g.C b j = some v) (hroom : n + m ≤ cap) :
 ∃ g', MRel g' H (upd A κ (some (.co sz (n + m)))) (w.setCells b (n * sz) news) ∧ Evol g A w g' (upd A κ (some (.co sz (n + m)))) (w.setCells b (n * sz) news) ∧
   DRep g'.C g'.π (.sl (els ++ ys)) (.slice (some ⟨b, 0, none⟩) (n + m) cap) ∧ g'.τ κ = .slice (some ⟨b, 0, none⟩) (n + m) cap ∧ g'.β = g.β := by
 have hnl : news.length = m * sz := by rw [hfy.1, hm']
 have hsz1 : (n + m) * sz ≤ cap * sz := Nat.mul_le_mul_right _ hroom
 have hsum : (n + m) * sz = n * sz + m * sz := Nat.add_mul _ _ _
 have hfit : n * sz + news.length ≤ vs.size := by omega
 have hfit' : n * sz + news.length ≤ vs.toList.length := by simpa using hfit
 obtain ⟨s1, s2, s3, s4, s5, s6⟩ := zqw b news (n * sz) w vs e fz hh hfit
 let g' : Gh := { g with C := fun b' o => if b' = b ∧ n * sz ≤ o ∧ o < (n + m) * sz then news[o - n * sz]? else g.C b' o, τ := upd g.τ κ (.slice (some ⟨b, 0, none⟩) (n + m) cap) }
 have hCm : ∀ b' o v, g.C b' o = some v → g'.C b' o = some v := fun b' o v hc => by
  simp only [g']
  split
  · rename_i h
    obtain ⟨rfl, h1, h2⟩ := h
    rw [hCn o h1] at hc
    cases hc
  · exact hc
 have hlt : b < w.heap.size := zkp hh
 have hTR : zqa g' (w.setCells b (n * sz) news) κ (.co sz (n + m)) := by
  refine ⟨_, cap, zzc _ _ _, hroom, .inr ⟨b, rfl, hO, fun j hj => ?_, _, e, fz, s1, ?_, ?_⟩⟩
  · simp only [g']
    rw [if_neg (by omega)]
    exact hCn j (by omega)
  · simpa [zz6 hfit'] using hu
  · simpa [zz6 hfit'] using hcp
 have hcom : ∀ b' o v, g'.C b' o = some v → (w.setCells b (n * sz) news).cell? ⟨b', o, none⟩ = some v := by
  intro b' o v hc
  simp only [g'] at hc
  split at hc
  · rename_i h
    obtain ⟨rfl, h1, h2⟩ := h
    refine zqs s1 ?_
    rw [List.getElem?_toArray, getElem?_splice hfit', if_neg (by omega), if_pos (by omega)]
    exact hc
  · rename_i h
    have h0 := hm.com b' o v hc
    by_cases hb : b' = b
    · subst hb
      obtain ⟨vs', e', fz', hh', hv'⟩ := yzf h0
      rw [hh] at hh'
      cases hh'
      refine zqs s1 ?_
      have ho : o < n * sz := by
       rcases Zlg o (n * sz) with h | h
       · exact h
       · rw [hCn o h] at hc; cases hc
      rw [List.getElem?_toArray, getElem?_splice hfit', if_pos ho]
      simpa using hv'
    · rw [World.cell?_of_block (w := w) (s2 b' hb)]
      exact h0
 obtain ⟨m1, m2⟩ := tokstep (g' := g') (κ := κ) (ar' := .co sz (n + m)) (w' := w.setCells b (n * sz) news) hm rfl (fun κ' hk => zza _ _ hk) hCm
  (fun b' _ hb o => by
    have hne : b' ≠ b := fun e => by subst e; exact hb hO
    simp only [g']
    rw [if_neg (fun h => hne h.1)]) (fun _ _ => rfl) (fun b' o ho => by rw [s3]; exact hm.own b' o ho)
  (fun b' _ hb => s2 b' (fun e => by subst e; exact hb hO)) hcom
  (fun ar ha => by
    rw [hA] at ha
    cases ha
    refine ⟨rfl, ?_⟩
    rcases Nat.eq_zero_or_pos m with h0 | h0
    · subst h0
      exact .inl ⟨rfl, by rw [hτ]; exact (zzc _ _ _).symm⟩
    · exact .inr (by omega)) hTR (by rw [s3]; exact Zlr _) s4 s5 s6
 refine ⟨g', m1, m2, ?_, zzc _ _ _, rfl⟩
 refine z3t (us := us ++ news) (sz := sz) (fun x hx => ?_) ((hf.append hfy).mono hCm (fun _ _ h => h)) (by simp [hn, hm']) hroom (fun j hj => ?_)
 · rcases List.mem_append.1 hx with hx | hx
   · exact hs x hx
   · exact hsy x hx
 · have hul : us.length = n * sz := by rw [hf.1, hn]
   rw [Nat.zero_add]
   simp only [g']
   by_cases h : j < n * sz
   · rw [if_neg (by omega), List.getElem?_append, if_pos (by omega)]
     have := hC j us[j] (Zge (by omega))
     rw [this, Zge (by omega)]
   · rw [if_pos ⟨trivial, by omega, hj⟩, List.getElem?_append, if_neg (by omega), hul]
theorem y2b (hm : MRel g H A w) {κ : Tok} {sz n m cap b : Nat} {els ys : List (List D)} {news : List Value} {vs : Array Value} {e : TypeId} {fz : Nat × Nat}
 (hA : A κ = some (.mu sz els)) (hτ : g.τ κ = .slice (some ⟨b, 0, none⟩) n cap) (hO : g.O b = some (.tok κ)) (hCn : ∀ j, g.C b j = none) (hh : w.heap[b]? = some (.cells vs e fz)) (hu : Unfz vs.size fz) (hcp : cap * sz ≤ vs.size)
 (hrep : ∀ i k e' x, els[i]? = some e' → e'[k]? = some x → ∃ u, vs[i * sz + k]? = some u ∧ DRep g.C g.π x u)
 (hfy : Flat g.C g.π sz ys news) (hs : Szd sz els) (hsy : Szd sz ys) (hn : els.length = n) (hm' : ys.length = m) (hroom : n + m ≤ cap) :
 ∃ g', MRel g' H (upd A κ (some (.mu sz (els ++ ys)))) (w.setCells b (n * sz) news) ∧ Evol g A w g' (upd A κ (some (.mu sz (els ++ ys)))) (w.setCells b (n * sz) news) ∧
   g'.τ κ = .slice (some ⟨b, 0, none⟩) (n + m) cap ∧ g'.β = g.β := by
 have hnl : news.length = m * sz := by rw [hfy.1, hm']
 have hsz1 : (n + m) * sz ≤ cap * sz := Nat.mul_le_mul_right _ hroom
 have hsum : (n + m) * sz = n * sz + m * sz := Nat.add_mul _ _ _
 have hfit : n * sz + news.length ≤ vs.size := by omega
 have hfit' : n * sz + news.length ≤ vs.toList.length := by simpa using hfit
 obtain ⟨s1, s2, s3, s4, s5, s6⟩ := zqw b news (n * sz) w vs e fz hh hfit
 let g' : Gh := { g with τ := upd g.τ κ (.slice (some ⟨b, 0, none⟩) (n + m) cap) }
 have hlen : (els ++ ys).length = n + m := by simp [hn, hm']
 have hTR : zqa g' (w.setCells b (n * sz) news) κ (.mu sz (els ++ ys)) := by
  refine ⟨fun x hx => ?_, some ⟨b, 0, none⟩, cap, by rw [hlen]; exact zzc _ _ _, by omega, .inr ⟨b, rfl, hO, hCn, _, e, fz, s1, ?_, ?_, ?_⟩⟩
  · rcases List.mem_append.1 hx with hx | hx
    · exact hs x hx
    · exact hsy x hx
  · simpa [zz6 hfit'] using hu
  · simpa [zz6 hfit'] using hcp
  · intro i k e' x he hx
    rw [List.getElem?_append] at he
    rw [List.getElem?_toArray, getElem?_splice hfit']
    split at he
    · rename_i hi
      have hk : k < sz := by rw [← hs e' (Zme he)]; exact (List.getElem?_eq_some_iff.1 hx).1
      have := Nat.mul_le_mul_right sz (show i + 1 ≤ n by omega)
      rw [Nat.add_mul, Nat.one_mul] at this
      rw [if_pos (by omega)]
      simpa using hrep i k e' x he hx
    · rename_i hi
      obtain ⟨v, hv, hd⟩ := hfy.2.2 _ k e' x he hx
      have hvl := (List.getElem?_eq_some_iff.1 hv).1
      have hge : n * sz ≤ i * sz := Nat.mul_le_mul_right _ (by omega)
      rw [Nat.sub_mul] at hv hvl
      rw [hn] at hv hvl
      rw [if_neg (by omega), if_pos (by omega)]
      exact ⟨v, by rw [show i * sz + k - n * sz = i * sz - n * sz + k by omega]; exact hv, hd⟩
 obtain ⟨m1, m2⟩ := tokstep (g' := g') (κ := κ) (ar' := .mu sz (els ++ ys)) (w' := w.setCells b (n * sz) news) hm rfl (fun κ' hk => zza _ _ hk) (fun _ _ _ h => h)
  (fun _ _ _ _ => rfl) (fun _ _ => rfl) (fun b' o ho => by rw [s3]; exact hm.own b' o ho)
  (fun b' _ hb => s2 b' (fun e => by subst e; exact hb hO))
  (fun b' o v hc => by
    have hne : b' ≠ b := fun e => by subst e; rw [show g'.C b' o = g.C b' o from rfl, hCn] at hc; cases hc
    rw [World.cell?_of_block (w := w) (s2 b' hne)]
    exact hm.com b' o v hc)
  (fun ar ha => by
    rw [hA] at ha
    cases ha
    refine ⟨rfl, ?_⟩
    rcases Nat.eq_zero_or_pos m with h0 | h0
    · subst h0
      exact .inl ⟨by omega, by rw [hτ]; exact (zzc _ _ _).symm⟩
    · exact .inr (by omega)) hTR (by rw [s3]; exact Zlr _) s4 s5 s6
 exact ⟨g', m1, m2, zzc _ _ _, rfl⟩
theorem y74 (hm : MRel g H A w) {κ : Tok} {sz n b cap : Nat} {els : List (List D)} {y : List D} {news : List Value} {vs : Array Value} {e : TypeId} {fz : Nat × Nat}
 (hA : A κ = some (.mu sz els)) (hτ : g.τ κ = .slice (some ⟨b, 0, none⟩) els.length cap) (hO : g.O b = some (.tok κ)) (hCn : ∀ j, g.C b j = none) (hh : w.heap[b]? = some (.cells vs e fz)) (hu : Unfz vs.size fz) (hcp : cap * sz ≤ vs.size) (hcl : els.length ≤ cap)
 (hrep : ∀ i k e' x, els[i]? = some e' → e'[k]? = some x → ∃ u, vs[i * sz + k]? = some u ∧ DRep g.C g.π x u)
 (hfy : Flat g.C g.π sz [y] news) (hs : Szd sz els) (hsy : Szd sz [y]) (hn : n < els.length) :
 MRel g H (upd A κ (some (.mu sz (els.set n y)))) (w.setCells b (n * sz) news) ∧ Evol g A w g (upd A κ (some (.mu sz (els.set n y)))) (w.setCells b (n * sz) news) := by
 have hnl : news.length = sz := by rw [hfy.1]; simp
 have hsz1 : (n + 1) * sz ≤ cap * sz := Nat.mul_le_mul_right _ (by omega)
 have hsum : (n + 1) * sz = n * sz + sz := by rw [Nat.add_mul, Nat.one_mul]
 have hfit : n * sz + news.length ≤ vs.size := by omega
 have hfit' : n * sz + news.length ≤ vs.toList.length := by simpa using hfit
 obtain ⟨s1, s2, s3, s4, s5, s6⟩ := zqw b news (n * sz) w vs e fz hh hfit
 have hTR : zqa g (w.setCells b (n * sz) news) κ (.mu sz (els.set n y)) := by
  refine ⟨fun x hx => ?_, some ⟨b, 0, none⟩, cap, by rw [List.length_set]; exact hτ, by rw [List.length_set]; exact hcl, .inr ⟨b, rfl, hO, hCn, _, e, fz, s1, ?_, ?_, ?_⟩⟩
  · rcases List.mem_or_eq_of_mem_set hx with hx | rfl
    · exact hs x hx
    · exact hsy _ (List.mem_singleton.2 rfl)
  · simpa [zz6 hfit'] using hu
  · simpa [zz6 hfit'] using hcp
  · intro i k e' x he hx
    rw [List.getElem?_set] at he
    rw [List.getElem?_toArray, getElem?_splice hfit']
    split at he
    · rename_i hi
      subst hi
      cases he
      obtain ⟨v, hv, hd⟩ := hfy.2.2 0 k y x rfl hx
      have hvl := (List.getElem?_eq_some_iff.1 hv).1
      rw [Nat.zero_mul, Nat.zero_add] at hv hvl
      rw [if_neg (by omega), if_pos (by omega)]
      exact ⟨v, by rw [show n * sz + k - n * sz = k by omega]; exact hv, hd⟩
    · rename_i hi
      have hk : k < sz := by rw [← hs e' (Zme he)]; exact (List.getElem?_eq_some_iff.1 hx).1
      have h0 := hrep i k e' x he hx
      rcases Nat.lt_or_gt_of_ne hi with h | h
      · have := Nat.mul_le_mul_right sz (show n + 1 ≤ i from h)
        rw [Nat.add_mul, Nat.one_mul] at this
        rw [if_neg (by omega), if_neg (by omega)]
        simpa using h0
      · have := Nat.mul_le_mul_right sz (show i + 1 ≤ n from h)
        rw [Nat.add_mul, Nat.one_mul] at this
        rw [if_pos (by omega)]
        simpa using h0
 exact tokstep (g' := g) (κ := κ) (ar' := .mu sz (els.set n y)) (w' := w.setCells b (n * sz) news) hm rfl (fun _ _ => rfl) (fun _ _ _ h => h)
  (fun _ _ _ _ => rfl) (fun _ _ => rfl) (fun b' o ho => by rw [s3]; exact hm.own b' o ho)
  (fun b' _ hb => s2 b' (fun e => by subst e; exact hb hO))
  (fun b' o v hc => by
    have hne : b' ≠ b := fun e => by subst e; rw [hCn] at hc; cases hc
    rw [World.cell?_of_block (w := w) (s2 b' hne)]
    exact hm.com b' o v hc)
  (fun ar ha => by
    rw [hA] at ha
    cases ha
    exact ⟨rfl, .inl ⟨by rw [List.length_set], rfl⟩⟩) hTR (by rw [s3]; exact Zlr _) s4 s5 s6
theorem z9o (hm : MRel g H A w) {κ : Tok} {ar' : Arr} {u : Value} (hle : ∀ ar, A κ = some ar → zkg ar (g.τ κ) ar' u) (hrep : ∀ g' : Gh, g'.τ κ = u → zqa g' w κ ar') (hnc : ∀ n, ar' ≠ .cnt n := by intro n h; cases h) :
 ∃ g', MRel g' H (upd A κ (some ar')) w ∧ Evol g A w g' (upd A κ (some ar')) w ∧ g'.τ κ = u ∧ g'.β = g.β ∧ g'.C = g.C := by
 let g' : Gh := { g with τ := upd g.τ κ u }
 obtain ⟨m1, m2⟩ := tokstep (g' := g') (κ := κ) (ar' := ar') (w' := w) hm rfl (fun κ' hk => zza _ _ hk) (fun _ _ _ h => h) (fun _ _ _ _ => rfl) (fun _ _ => rfl) (fun b o ho => hm.own b o ho)
  (fun _ _ _ => rfl) (fun b o v hc => hm.com b o v hc) (fun ar ha => by rw [show g'.τ κ = u from zzc _ _ _]; exact hle ar ha) (hrep g' (zzc _ _ _)) (Zlr _) rfl rfl rfl rfl hnc
 exact ⟨g', m1, m2, zzc _ _ _, rfl, rfl⟩
end Go.PW
