/-
  Parts of the proof, laid together: PwG, PwH.
-/
import Derived.Test.YtemecklglapleaaGreatQ05

namespace Go.PW
variable {P : Program} {g : Gh} {H : HMap} {A : AMap} {w : World}
def zjk (g : Gh) (H : HMap) : Prop := ∀ id, H id = none → g.β id = none
theorem zzc {α β : Type} [DecidableEq α] (f : α → β) (a : α) (b : β) : upd f a b a = b := by simp [upd]
theorem zza {α β : Type} [DecidableEq α] (f : α → β) {a x : α} (b : β) (h : x ≠ a) : upd f a b x = f x := by simp [upd, h]
theorem z15.upd {A : AMap} (h : z15 A) {κ : Tok} {x : Arr} (hx : ∀ n, x ≠ .cnt n) : z15 (PW.upd A κ (some x)) := fun k n e => by
 by_cases hk : k = κ
 · rw [hk, zzc] at e; injection e with e; exact hx n e
 · rw [zza _ _ hk] at e; exact h k n e
theorem yqh {ar b : Arr} (hb : ∀ n, b ≠ .cnt n) (n : Nat) : ar.re b ≠ .cnt n := by
 cases ar <;> first | exact hb n | exact fun e => by cases e
theorem zqa.core {κ : Tok} {ar : Arr} (h : zqa g w κ ar) : zqa g w κ ar.core := by
 cases ar <;> first | exact h | exact h.1
theorem zqa.re {w' : World} {κ : Tok} {ar b : Arr} (h : zqa g w κ ar) (hb : zqa g w' κ b) (hp : b.isPr = false) : zqa g w' κ (ar.re b) := by
 cases ar <;> first | exact hb | exact ⟨hb, h.2.1, hp⟩
theorem zkg.re {ar b : Arr} {v : Value} (h : zkg ar.core v b v) : zkg ar v (ar.re b) v := by
 cases ar <;> first | exact h | exact ⟨rfl, rfl⟩
theorem zk1 (hm : MRel g H A w) (o : Nat) : g.C w.heap.size o = none := by
 cases hc : g.C w.heap.size o with
 | none => rfl
 | some v => exact absurd (C_lt hm hc) (by omega)
theorem newvar (hm : MRel g H A w) (hd : zjk g H) {id : Nat} (hH : H id = none) {cs : List CV} {vs : Array Value} (hr : zq8 g A cs vs.toList) (e : TypeId) :
 ∃ g', MRel g' (upd H id (some cs)) A (w.alloc (.cells vs e)) ∧ Evol g A w g' A (w.alloc (.cells vs e)) ∧ zjk g' (upd H id (some cs)) ∧ g'.β id = some w.heap.size := by
 have hold : ∀ b, b < w.heap.size → (w.alloc (.cells vs e)).heap[b]? = w.heap[b]? := fun b hb => heap_alloc_old w _ b hb
 let g' : Gh := { g with β := upd g.β id (some w.heap.size), O := upd g.O w.heap.size (some (.var id)) }
 have hβ : ∀ i, i ≠ id → g'.β i = g.β i := fun i hi => zza _ _ hi
 have hO : ∀ b, b ≠ w.heap.size → g'.O b = g.O b := fun b hb => zza _ _ hb
 have hM : Mono g A g' A := ⟨fun _ _ _ h => h, fun i b h => by
  by_cases hi : i = id
  · subst hi; rw [hd i hH] at h; cases h
  · rw [hβ i hi]; exact h, fun _ ar h => ⟨ar, h, zkg.refl _ _⟩, fun _ _ h => h⟩
 refine ⟨g', ⟨?_, ?_, ?_, ?_⟩, ⟨hM, fun b hb _ => hold b hb, fun b hb ho => by rw [hO b (by omega)]; exact ho, fun _ _ _ _ => rfl, by simp, rfl, rfl, rfl, fun h => ⟨rfl, h⟩⟩, ?_, zzc _ _ _⟩
 · intro b o v hc
   have := hm.com b o v hc
   rw [World.cell?_of_block (w := w) (hold b (C_lt hm hc))]
   exact this
 · intro i b hb
   by_cases hi : i = id
   · subst hi
     have hb' : b = w.heap.size := by have := zzc g.β i (some w.heap.size); rw [show g'.β i = _ from this] at hb; cases hb; rfl
     subst hb'
     refine ⟨zzc _ _ _, fun o => zk1 hm o, cs, vs, e, (0, 0), zzc _ _ _, heap_alloc_new w _, fun o _ => by simp, hr.mono hM⟩
   · rw [hβ i hi] at hb
     obtain ⟨ho, hc, cs', vs', e', fz, hH', hh, hu, hr'⟩ := hm.var i b hb
     have hlt := zkp hh
     exact ⟨by rw [hO b (by omega)]; exact ho, hc, cs', vs', e', fz, by rw [zza _ _ hi]; exact hH', by rw [hold b hlt]; exact hh, hu, hr'.mono hM⟩
 · intro κ ar hA
   refine (hm.tok κ ar hA).frame rfl (fun _ _ _ h => h) rfl (fun b ho => ?_)
   have := hm.own b _ ho
   exact ⟨by rw [hO b (by omega)]; exact ho, hold b this, fun _ => rfl⟩
 · intro b o ho
   by_cases hb : b = w.heap.size
   · subst hb; simp
   · rw [hO b hb] at ho
     have := hm.own b o ho
     simp
     omega
 · intro i hi
   by_cases hii : i = id
   · subst hii; rw [zzc] at hi; cases hi
   · rw [zza _ _ hii] at hi
     rw [hβ i hii]
     exact hd i hi
theorem z0h {T : TypeId} {b off : Nat} {us : List Value} {X : Value} (hl : us.length = P.cellsOf T) (hX : z1k P T us X) (hc : ∀ j v, us[j]? = some v → w.cell? ⟨b, off + j, none⟩ = some v) :
 (loadVar T ⟨b, off, none⟩).run P w = .ok X w := by
 unfold loadVar
 unfold z1k at hX
 cases hu : P.underlying T with
 | none => simp [hu] at hX
 | some d =>
   simp only [Sem.run_bind, yqv hu, Result.andThen_ok]
   rw [hu] at hX
   have hag : X = .agg us.toArray → (((sizeOf T).run P w).andThen fun n w' => ((loadCells ⟨b, off, none⟩ n).run P w').andThen fun cs w' => (Result.ok (Value.agg cs) w')) = .ok X w := by
    rintro rfl
    rw [z6i hu, Result.andThen_ok, ← hl, run_loadCells_list w ⟨b, off, none⟩ us (fun j v hj => by rw [zx0]; exact hc j v hj)]
    rfl
   have hone : us = [X] → (load ⟨b, off, none⟩).run P w = .ok X w := by
    rintro rfl
    have := hc 0 X rfl
    rw [Nat.add_zero] at this
    rw [run_load, this]
   cases d <;> first
    | exact hone hX
    | (simp only [if_true]; simpa using hag hX)
theorem xxu {e : List D} {off n : Nat} {r : List CV} (h : sub (e.map .d) off n = some r) : off + n ≤ e.length ∧ r = ((e.drop off).take n).map .d := by
 unfold sub at h
 split at h
 · rename_i hl
   cases h
   simp only [List.length_map] at hl
   exact ⟨hl, by rw [← List.map_drop, ← List.map_take]⟩
 · cases h
theorem y2r {C : Nat → Nat → Option Value} {π : Nat → Option Value} {ds : List D} {f : Nat → Option Value} (h : ∀ (k : Nat) (x : D), ds[k]? = some x → ∃ u, f k = some u ∧ DRep C π x u) :
 ∃ us : List Value, us.length = ds.length ∧ (∀ k v, us[k]? = some v → f k = some v) ∧ (∀ (k : Nat) (x : D), ds[k]? = some x → ∃ u, us[k]? = some u ∧ DRep C π x u) := by
 induction ds generalizing f with
 | nil => exact ⟨[], rfl, by simp, by simp⟩
 | cons x r ih =>
   obtain ⟨u, hu, hd⟩ := h 0 x rfl
   obtain ⟨us, h1, h2, h3⟩ := ih (f := fun k => f (k + 1)) (fun k y hk => h (k + 1) y (by simpa using hk))
   refine ⟨u :: us, by simp [h1], fun k v hk => ?_, fun k y hk => ?_⟩
   · cases k with
     | zero => simp at hk; subst hk; exact hu
     | succ k => exact h2 k v (by simpa using hk)
   · cases k with
     | zero => simp at hk; subst hk; exact ⟨u, rfl, hd⟩
     | succ k => obtain ⟨u', hu', hd'⟩ := h3 k y (by simpa using hk); exact ⟨u', by simpa using hu', hd'⟩
theorem xz3 {e : List D} {off n : Nat} {r : List CV} (h : sub (e.map D.cv) off n = some r) : off + n ≤ e.length ∧ r = ((e.drop off).take n).map D.cv := by
 unfold sub at h
 split at h
 · rename_i hl
   cases h
   simp only [List.length_map] at hl
   exact ⟨hl, by rw [← List.map_drop, ← List.map_take]⟩
 · cases h
theorem y4b {T : TypeId} {e : List D} {b o off : Nat} {r : List CV} {v : PV} (hs : sub (e.map D.cv) off (P.cellsOf T) = some r) (hv : mkPV P T r = some v)
 (hc : ∀ (k : Nat) (x : D), e[k]? = some x → ∃ u, w.cell? ⟨b, o + k, none⟩ = some u ∧ DRep g.C g.π x u) :
 ∃ X, (loadVar T ⟨b, o + off, none⟩).run P w = .ok X w ∧ PRep g A v X := by
 obtain ⟨hl, rfl⟩ := xz3 hs
 have hget : ∀ (k : Nat) (x : D), ((e.drop off).take (P.cellsOf T))[k]? = some x → e[off + k]? = some x := by
  intro k x hk
  rw [List.getElem?_take] at hk
  split at hk
  · rw [List.getElem?_drop] at hk; exact hk
  · cases hk
 obtain ⟨us, h1, h2, h3⟩ := y2r (C := g.C) (π := g.π) (ds := (e.drop off).take (P.cellsOf T)) (f := fun k => w.cell? ⟨b, o + (off + k), none⟩) (fun k x hk => hc (off + k) x (hget k x hk))
 have hcs : zq8 g A (((e.drop off).take (P.cellsOf T)).map D.cv) us := ⟨by simp [h1], fun k c hk => by
  simp only [List.getElem?_map, Zms] at hk
  obtain ⟨x, hx, rfl⟩ := hk
  obtain ⟨u, hu, hd⟩ := h3 k x hx
  exact ⟨u, hu, y92 hd⟩⟩
 obtain ⟨X, hX, hp⟩ := z4z hv hcs
 exact ⟨X, z0h (by rw [h1]; simp; omega) hX (fun j u hj => by rw [Nat.add_assoc]; exact h2 j u hj), hp⟩
theorem z54 {T : TypeId} {e : List D} {b o off : Nat} {r : List CV} {v : PV} (hs : sub (e.map .d) off (P.cellsOf T) = some r) (hv : mkPV P T r = some v)
 (hc : ∀ (k : Nat) (x : D), e[k]? = some x → ∃ u, w.cell? ⟨b, o + k, none⟩ = some u ∧ DRep g.C g.π x u) :
 ∃ X, (loadVar T ⟨b, o + off, none⟩).run P w = .ok X w ∧ PRep g A v X := by
 obtain ⟨hl, rfl⟩ := xxu hs
 have hget : ∀ (k : Nat) (x : D), ((e.drop off).take (P.cellsOf T))[k]? = some x → e[off + k]? = some x := by
  intro k x hk
  rw [List.getElem?_take] at hk
  split at hk
  · rw [List.getElem?_drop] at hk; exact hk
  · cases hk
 obtain ⟨us, h1, h2, h3⟩ := y2r (C := g.C) (π := g.π) (ds := (e.drop off).take (P.cellsOf T)) (f := fun k => w.cell? ⟨b, o + (off + k), none⟩) (fun k x hk => hc (off + k) x (hget k x hk))
 have hcs : zq8 g A (((e.drop off).take (P.cellsOf T)).map .d) us := ⟨by simp [h1], fun k c hk => by
  simp only [List.getElem?_map, Zms] at hk
  obtain ⟨x, hx, rfl⟩ := hk
  exact h3 k x hx⟩
 obtain ⟨X, hX, hp⟩ := z4z hv hcs
 exact ⟨X, z0h (by rw [h1]; simp; omega) hX (fun j u hj => by rw [Nat.add_assoc]; exact h2 j u hj), hp⟩
theorem yxv (hm : MRel g H A w) {fb : Option (List Nat)} {T : TypeId} {a v : PV} {u : Value} (ha : PRep g A a u) (h : z53 P fb H A T a = some v) :
 ∃ X, (Instr.loadAt T u).run P w = .ok X w ∧ PRep g A v X := by
 unfold z53 at h
 split at h
 · rename_i id off
   split at h
   · cases h
   · obtain ⟨cs, hcs, h⟩ := Option.bind_eq_some_iff.1 h
     obtain ⟨r, hr, h⟩ := Option.bind_eq_some_iff.1 h
     obtain ⟨b, hb, rfl⟩ := ha
     obtain ⟨ho, hC, cs', vs, e, fz, hH, hh, hu, hrep⟩ := hm.var id b hb
     rw [hcs] at hH
     cases hH
     obtain ⟨h1, h2, h3⟩ := hrep.sub hr
     obtain ⟨X, hX, hp⟩ := z4z h h1
     refine ⟨X, ?_, hp⟩
     unfold Instr.loadAt
     simp only [Instr.sureAddr, Sem.run_bind, Sem.run_pure, Result.andThen_ok]
     refine z0h (by rw [h1.1, h3]) hX (fun j x hj => ?_)
     rw [List.getElem?_take] at hj
     split at hj
     · rw [List.getElem?_drop] at hj
       exact zqs hh (by simpa using hj)
     · cases hj
 · obtain ⟨r, hr, h⟩ := Option.bind_eq_some_iff.1 h
   obtain ⟨b, o, rfl, hc⟩ := ha
   obtain ⟨X, hX, hp⟩ := z54 (w := w) (g := g) (A := A) (b := b) (o := o) hr h (fun k x hk => by
    obtain ⟨u, hu, hd⟩ := hc k x hk
    exact ⟨u, hm.com _ _ _ hu, hd⟩)
   refine ⟨X, ?_, hp⟩
   unfold Instr.loadAt
   simp only [Instr.sureAddr, Sem.run_bind, Sem.run_pure, Result.andThen_ok]
   exact hX
 · split at h
   · cases h
   · split at h
     · rename_i κ sz n i off _ _ _ els hA
       split at h
       · rename_i hn
         subst hn
         obtain ⟨e, he, h⟩ := Option.bind_eq_some_iff.1 h
         obtain ⟨r, hr, h⟩ := Option.bind_eq_some_iff.1 h
         obtain ⟨b, els', rfl, hA', hle, hcap⟩ := ha
         rw [hA] at hA'
         cases hA'
         obtain ⟨cap, hτ⟩ := hcap rfl
         obtain ⟨hs, a, cap', h1, h2, h3⟩ := hm.tok κ _ hA
         rw [hτ] at h1
         cases h1
         have hlt : i < els.length := (List.getElem?_eq_some_iff.1 he).1
         rcases h3 with h3 | ⟨b', hb', ho, hC, vs, e', fz, hh, hu, hcp, hrep⟩
         · omega
         · cases hb'
           obtain ⟨X, hX, hp⟩ := z54 (w := w) (g := g) (A := A) (b := b) (o := i * sz) hr h (fun k x hk => by
            obtain ⟨u, hu, hd⟩ := hrep i k e x he hk
            exact ⟨u, zqs hh hu, hd⟩)
           refine ⟨X, ?_, hp⟩
           unfold Instr.loadAt
           simp only [Instr.sureAddr, Sem.run_bind, Sem.run_pure, Result.andThen_ok]
           exact hX
       · cases h
     · cases h
 · rename_i p off
   split at h
   · cases h
   · split at h
     · rename_i q ds hA
       split at h
       · rename_i hq
         subst hq
         obtain ⟨r, hr, h⟩ := Option.bind_eq_some_iff.1 h
         obtain ⟨⟨b, vs, e, fz, h1, ho, hC, hh, hu, hl, hrep⟩, hπ, _⟩ := hm.tok _ _ hA
         cases ha with
         | rf _ _ b' hp =>
           rw [hp, h1] at hπ
           cases hπ
           obtain ⟨X, hX, hp⟩ := y4b (w := w) (g := g) (A := A) (b := b) (o := 0) hr h (fun k x hk => by
            obtain ⟨u, hu, hd⟩ := hrep k x hk
            exact ⟨u, zqs hh (by rw [Nat.zero_add]; exact hu), hd⟩)
           refine ⟨X, ?_, hp⟩
           unfold Instr.loadAt
           simp only [Instr.sureAddr, Sem.run_bind, Sem.run_pure, Result.andThen_ok]
           rw [Nat.zero_add] at hX
           exact hX
       · cases h
     · cases h
 · rename_i p sz n i off
   split at h
   · cases h
   · split at h
     · rename_i q sz' els hA
       split at h
       · rename_i hc
         obtain ⟨rfl, rfl, rfl⟩ := hc
         obtain ⟨e, he, h⟩ := Option.bind_eq_some_iff.1 h
         obtain ⟨r, hr, h⟩ := Option.bind_eq_some_iff.1 h
         obtain ⟨⟨hs, a, cap', h1, h2, h3⟩, hπ, _⟩ := hm.tok _ _ hA
         cases ha with
         | el _ _ _ _ _ b cap hp hi =>
           rw [hp, h1] at hπ
           cases hπ
           rcases h3 with h3 | ⟨b', hb', ho, hC, vs, e', fz, hh, hu, hcp, hrep⟩
           · omega
           · cases hb'
             obtain ⟨X, hX, hp⟩ := z54 (w := w) (g := g) (A := A) (b := b) (o := i * sz') hr h (fun k x hk => by
              obtain ⟨u, hu, hd⟩ := hrep i k e x he hk
              exact ⟨u, zqs hh hu, hd⟩)
             refine ⟨X, ?_, hp⟩
             unfold Instr.loadAt
             simp only [Instr.sureAddr, Sem.run_bind, Sem.run_pure, Result.andThen_ok]
             exact hX
       · cases h
     · cases h
 · cases h
theorem zqw (b : Nat) : ∀ (us : List Value) (o : Nat) (w : World) (vs : Array Value) (e : TypeId) (fz : Nat × Nat), w.heap[b]? = some (.cells vs e fz) → o + us.length ≤ vs.size →
 (w.setCells b o us).heap[b]? = some (.cells (splice vs.toList o us).toArray e fz) ∧ (∀ k, k ≠ b → (w.setCells b o us).heap[k]? = w.heap[k]?) ∧ (w.setCells b o us).heap.size = w.heap.size ∧
 (w.setCells b o us).os = w.os ∧ (w.setCells b o us).tape = w.tape ∧ (w.setCells b o us).output = w.output
 | [], o, w, vs, e, fz, h, _ => by simp [World.setCells, splice, h]
 | u :: us, o, w, vs, e, fz, h, hl => by
   simp only [List.length_cons] at hl
   have h1 : (w.setCell ⟨b, o, none⟩ u).heap[b]? = some (.cells (vs.setIfInBounds o u) e fz) := by
    simp [World.setCell, Array.getElem?_modify, h]
   obtain ⟨i1, i2, i3, i4, i5, i6⟩ := zqw b us (o + 1) (w.setCell ⟨b, o, none⟩ u) (vs.setIfInBounds o u) e fz h1 (by simp; omega)
   refine ⟨?_, fun k hk => ?_, ?_, i4, i5, i6⟩
   · rw [World.setCells, i1]
     congr 2
     apply Array.ext'
     simp only [Array.toList_setIfInBounds, splice, List.length_cons]
     apply List.ext_getElem?
     intro k
     simp only [List.append_assoc, List.getElem?_append, Zlt, List.length_set, Array.length_toList, List.getElem?_take, List.getElem?_drop, List.getElem?_set]
     have e1 : min o vs.size = o := by omega
     have e2 : min (o + 1) vs.size = o + 1 := by omega
     simp only [e1, e2, List.length_cons]
     by_cases hk : k < o
     · simp [hk, show k < o + 1 by omega, show ¬ o = k by omega]
     · by_cases hk2 : k = o
       · subst hk2
         simp [show k < vs.size by omega]
       · have h3 : ¬ k < o + 1 := by omega
         simp only [hk, h3, if_false]
         have h4 : k - o = (k - (o + 1)) + 1 := by omega
         rw [h4]
         by_cases h5 : k - (o + 1) < us.length
         · simp [h5]
         · simp only [h5, if_false, show ¬ (k - (o + 1) + 1 < us.length + 1) by omega]
           simp only [show ¬ o = o + 1 + us.length + (k - (o + 1) - us.length) by omega, if_false]
           congr 1
           omega
   · rw [World.setCells, i2 k hk]
     simp only [World.setCell, Array.getElem?_modify]
     rw [if_neg (by simpa using Ne.symm hk)]
   · rw [World.setCells, i3]; simp
theorem zxi {b o : Nat} {us : List Value} {vs : Array Value} {e : TypeId} {fz : Nat × Nat} (h : w.heap[b]? = some (.cells vs e fz)) (hu : Unfz vs.size fz) (hl : o + us.length ≤ vs.size) (h1 : ∀ v ∈ us, v.oneCell' = true) :
 (storeCells ⟨b, o, none⟩ us).run P w = .ok () (w.setCells b o us) := by
 obtain ⟨lo, hi⟩ := fz
 have := run_storeCells_cells (P := P) b o us 0 w (fun j hj => by
  rw [Nat.add_zero, zqs h (Array.getElem?_eq_getElem (show o + j < vs.size by omega))]; rfl) (fun j hj => by
  have := hu (o + j) (by omega)
  simp only at this
  simp [World.frozen?, h]
  omega) h1
 simpa using this
theorem ywy {cs : List CV} {us : List Value} (h : zq8 g A cs us) (hk : cs.all CV.known = true) : ∀ v ∈ us, v.oneCell' = true := by
 intro v hv
 obtain ⟨k, hk'⟩ := List.mem_iff_getElem?.1 hv
 have hlt : k < cs.length := by rw [← h.1]; exact (List.getElem?_eq_some_iff.1 hk').1
 obtain ⟨v', hv', hr⟩ := h.2 k cs[k] (Zge hlt)
 rw [hk'] at hv'
 cases hv'
 exact z3s hr (List.all_eq_true.1 hk _ (List.getElem_mem hlt))
theorem zwq {T : TypeId} {x : Value} {b o : Nat} {vs : Array Value} {e : TypeId} {fz : Nat × Nat} (hT : ∃ i, P.info? T = some i ∧ i.size = P.cellsOf T) (hx : x.cells.size = P.cellsOf T)
 (h : w.heap[b]? = some (.cells vs e fz)) (hu : Unfz vs.size fz) (hl : o + x.cells.size ≤ vs.size) (h1 : ∀ v ∈ x.cells.toList, v.oneCell' = true) :
 (Instr.storeAt T (.pointer (some ⟨b, o, none⟩)) x).run P w = .ok () (w.setCells b o x.cells.toList) := by
 obtain ⟨i, hi, hs⟩ := hT
 unfold Instr.storeAt storeVar
 simp only [Instr.sureAddr, Sem.run_bind, Sem.run_pure, Result.andThen_ok, sizeOf, typeInfo, run_program, hi, hs]
 rw [Sem.run_ite, if_neg (by simpa using hx)]
 exact zxi h hu (by rw [Array.length_toList]; exact hl) h1
end Go.PW
namespace Go.PW
variable {P : Program} {g : Gh} {H : HMap} {A : AMap} {w : World}
theorem zz6 {α : Type} {cs ys : List α} {off : Nat} (h : off + ys.length ≤ cs.length) : (splice cs off ys).length = cs.length := by simp [splice]; omega
theorem getElem?_splice {α : Type} {cs ys : List α} {off : Nat} (h : off + ys.length ≤ cs.length) (k : Nat) :
 (splice cs off ys)[k]? = if k < off then cs[k]? else if k < off + ys.length then ys[k - off]? else cs[k]? := by
 unfold splice
 rw [List.append_assoc, List.getElem?_append]
 simp only [Zlt, show min off cs.length = off by omega]
 by_cases h1 : k < off
 · rw [if_pos h1, if_pos h1, List.getElem?_take, if_pos h1]
 · rw [if_neg h1, if_neg h1, List.getElem?_append]
   by_cases h2 : k < off + ys.length
   · rw [if_pos h2, if_pos (by omega)]
   · rw [if_neg h2, if_neg (by omega), List.getElem?_drop]
     congr 1
     omega
theorem zjk.upd {id : Nat} {cs : List CV} (hd : zjk g H) (_h : H id ≠ none) : zjk g (upd H id (some cs)) := by
 intro i hi
 by_cases hii : i = id
 · subst hii; rw [zzc] at hi; cases hi
 · rw [zza _ _ hii] at hi; exact hd i hi
theorem Evol.blocks {g' : Gh} {A' : AMap} {w' : World} (hM : Mono g A g' A') (b : Nat) (hb : g.O b ≠ none) (h1 : ∀ k, k ≠ b → w'.heap[k]? = w.heap[k]?) (h2 : w'.heap.size = w.heap.size) (hO : g'.O = g.O)
 (hC : ∀ k, k ≠ b → ∀ o, g'.C k o = g.C k o) (h3 : w'.os = w.os) (h4 : w'.tape = w.tape) (h5 : w'.output = w.output) (hn : z15 A → g'.π = g.π ∧ z15 A') : Evol g A w g' A' w' :=
 ⟨hM, fun k _ ho => h1 k (fun e => hb (e ▸ ho)), fun k _ ho => by rw [hO]; exact ho, fun k _ ho o => hC k (fun e => hb (e ▸ ho)) o, by rw [h2]; exact Zlr _, h3, h4, h5, hn⟩
theorem tokstep (hm : MRel g H A w) {κ : Tok} {ar' : Arr} {g' : Gh} {w' : World} (hβ : g'.β = g.β) (hτ : ∀ κ', κ' ≠ κ → g'.τ κ' = g.τ κ') (hC : ∀ b o v, g.C b o = some v → g'.C b o = some v)
 (hCo : ∀ b, b < w.heap.size → g.O b ≠ some (.tok κ) → ∀ o, g'.C b o = g.C b o) (hO : ∀ b, b < w.heap.size → g'.O b = g.O b) (hO2 : ∀ b o, g'.O b = some o → b < w'.heap.size)
 (hh : ∀ b, b < w.heap.size → g.O b ≠ some (.tok κ) → w'.heap[b]? = w.heap[b]?) (hcom : ∀ b o v, g'.C b o = some v → w'.cell? ⟨b, o, none⟩ = some v)
 (hle : ∀ ar, A κ = some ar → zkg ar (g.τ κ) ar' (g'.τ κ)) (hrep : zqa g' w' κ ar') (hsz : w.heap.size ≤ w'.heap.size) (h1 : w'.os = w.os) (h2 : w'.tape = w.tape) (h3 : w'.output = w.output) (hπ : g'.π = g.π := by rfl) (hnc : ∀ n, ar' ≠ .cnt n := by intro n h; cases h) :
 MRel g' H (upd A κ (some ar')) w' ∧ Evol g A w g' (upd A κ (some ar')) w' := by
 have hM : Mono g A g' (upd A κ (some ar')) := ⟨hC, fun id b h => by rw [hβ]; exact h, fun κ' ar h => by
  by_cases hk : κ' = κ
  · subst hk
    exact ⟨ar', zzc _ _ _, hle ar h⟩
  · exact ⟨ar, by rw [zza _ _ hk]; exact h, by rw [hτ κ' hk]; exact .refl _ _⟩, fun p v h => by rw [hπ]; exact h⟩
 refine ⟨⟨hcom, ?_, ?_, hO2⟩, ⟨hM, fun b hb ho => hh b hb (by rw [ho]; simp), fun b hb ho => by rw [hO b hb]; exact ho, fun b hb ho => hCo b hb (by rw [ho]; simp), hsz, h1, h2, h3, fun h => ⟨hπ, h.upd hnc⟩⟩⟩
 · intro id b hb
   rw [hβ] at hb
   obtain ⟨ho, hc, cs, vs, e, fz, hH, hv, hu, hr⟩ := hm.var id b hb
   have hlt := zkp hv
   have hne : g.O b ≠ some (.tok κ) := by rw [ho]; simp
   exact ⟨by rw [hO b hlt]; exact ho, fun o => by rw [hCo b hlt hne]; exact hc o, cs, vs, e, fz, hH, by rw [hh b hlt hne]; exact hv, hu, hr.mono hM⟩
 · intro κ' ar hA
   by_cases hk : κ' = κ
   · subst hk
     rw [zzc] at hA
     cases hA
     exact hrep
   · rw [zza _ _ hk] at hA
     refine (hm.tok κ' ar hA).frame (hτ κ' hk) hC hπ (fun b ho => ?_)
     have hlt := hm.own b _ ho
     have hne : g.O b ≠ some (.tok κ) := by rw [ho]; intro e; cases e; exact hk rfl
     exact ⟨by rw [hO b hlt]; exact ho, hh b hlt hne, hCo b hlt hne⟩
theorem yzg (hm : MRel g H A w) {κ : Tok} {b o : Nat} {ar x : Arr} {vs : Array Value} {te : TypeId} {fz : Nat × Nat} {us : List Value} (hA : A κ = some ar) (hO : g.O b = some (.tok κ)) (hC : ∀ j, g.C b j = none)
 (hh : w.heap[b]? = some (.cells vs te fz)) (hfit : o + us.length ≤ vs.size) (hx : x.isPr = false) (hle : zkg ar.core (g.τ κ) x (g.τ κ)) (hrep : zqa g (w.setCells b o us) κ x) :
 MRel g H (upd A κ (some (ar.re x))) (w.setCells b o us) ∧ Evol g A w g (upd A κ (some (ar.re x))) (w.setCells b o us) := by
 obtain ⟨s1, s2, s3, s4, s5, s6⟩ := zqw b us o w vs te fz hh hfit
 refine tokstep (g' := g) (κ := κ) (ar' := ar.re x) (w' := w.setCells b o us) hm rfl (fun _ _ => rfl) (fun _ _ _ h => h) (fun _ _ _ _ => rfl) (fun _ _ => rfl)
  (fun b' o ho => by rw [s3]; exact hm.own b' o ho)
  (fun b' _ hb => s2 b' (fun e => by subst e; exact hb hO))
  (fun b' o v hc => by
    have hne : b' ≠ b := fun e => by subst e; rw [hC] at hc; cases hc
    rw [World.cell?_of_block (w := w) (s2 b' hne)]
    exact hm.com b' o v hc)
  (fun ar2 ha => by rw [hA] at ha; cases ha; exact hle.re) (zqa.re (hm.tok κ ar hA) hrep hx) (by rw [s3]; exact Zlr _) s4 s5 s6 rfl (fun n => yqh (fun n e => by rw [e] at hx; cases hx) n)
theorem ykf (hm : MRel g H A w) {T : TypeId} {y : Value} {ys : List CV} {κ : Tok} {ar : Arr} {sz' i off b cap : Nat} {els : List (List D)} {e ds : List D} (hT : ∃ i, P.info? T = some i ∧ i.size = P.cellsOf T) (hyr : zq8 g A ys y.cells.toList) (hsz : ys.length = P.cellsOf T)
 (h1 : ∀ v ∈ y.cells.toList, v.oneCell' = true) (hA : A κ = some ar) (hcore : ar.core = .mu sz' els) (hτ : g.τ κ = .slice (some ⟨b, 0, none⟩) els.length cap) (he : els[i]? = some e) (hds : toDs ys = some ds) (hlen : off + ds.length ≤ e.length) :
 ∃ w', (Instr.storeAt T (.pointer (some ⟨b, i * sz' + off, none⟩)) y).run P w = .ok () w' ∧ MRel g H (upd A κ (some (ar.re (.mu sz' (els.set i (splice e off ds)))))) w' ∧ Evol g A w g (upd A κ (some (ar.re (.mu sz' (els.set i (splice e off ds)))))) w' := by
 have hl1 : y.cells.size = ys.length := by rw [← Array.length_toList]; exact hyr.1
 have htok := (hm.tok κ _ hA).core
 rw [hcore] at htok
 obtain ⟨hs, a, cap', e1, e2, e3⟩ := htok
 rw [hτ] at e1
 cases e1
 have hlt : i < els.length := (List.getElem?_eq_some_iff.1 he).1
 have hel : e.length = sz' := hs e (Zme he)
 rcases e3 with e3 | ⟨b', hb', ho, hC, vs, te, fz, hh, hu, hcp, hrep⟩
 · omega
 · cases hb'
   obtain ⟨d1, d2⟩ := zwt (g := g) (A := A) hds
   have hmul : (i + 1) * sz' ≤ cap * sz' := Nat.mul_le_mul_right _ (by omega)
   rw [Nat.add_mul, Nat.one_mul] at hmul
   have hfit : i * sz' + off + y.cells.size ≤ vs.size := by omega
   have hfit' : i * sz' + off + y.cells.toList.length ≤ vs.toList.length := by simpa using hfit
   obtain ⟨s1, s2, s3, s4, s5, s6⟩ := zqw b y.cells.toList (i * sz' + off) w vs te fz hh (by rw [Array.length_toList]; exact hfit)
   have hrep2 : zqa g (w.setCells b (i * sz' + off) y.cells.toList) κ (.mu sz' (els.set i (splice e off ds))) := by
    refine ⟨?_, some ⟨b, 0, none⟩, cap, by rw [hτ]; simp, by simpa using e2, .inr ⟨b, rfl, ho, hC, _, te, fz, s1, ?_, ?_, ?_⟩⟩
    · intro c hc
      rcases List.mem_or_eq_of_mem_set hc with hc | rfl
      · exact hs c hc
      · rw [zz6 (by omega)]; exact hel
    · simpa [zz6 hfit'] using hu
    · simpa [zz6 hfit'] using hcp
    · intro i' k e' x' he' hx'
      rw [List.getElem?_set] at he'
      simp only [List.getElem?_toArray, getElem?_splice hfit', Array.length_toList]
      by_cases hii : i = i'
      · subst hii
        simp only [if_true, hlt] at he'
        cases he'
        rw [getElem?_splice (by omega)] at hx'
        by_cases k1 : k < off
        · rw [if_pos k1] at hx'
          rw [if_pos (by omega)]
          simpa using hrep i k e x' he hx'
        · rw [if_neg k1] at hx'
          rw [if_neg (by omega)]
          by_cases k2 : k < off + ds.length
          · rw [if_pos k2] at hx'
            rw [if_pos (by omega)]
            obtain ⟨c, hcc, hrc⟩ := d2 _ _ hx'
            obtain ⟨v, hv, hcr⟩ := hyr.2 _ _ hcc
            exact ⟨v, by rw [show i * sz' + k - (i * sz' + off) = k - off by omega]; exact hv, hrc v hcr⟩
          · rw [if_neg k2] at hx'
            rw [if_neg (by omega)]
            simpa using hrep i k e x' he hx'
      · rw [if_neg hii] at he'
        have hk' : k < sz' := by rw [← hs e' (Zme he')]; exact (List.getElem?_eq_some_iff.1 hx').1
        have hout : i' * sz' + k < i * sz' + off ∨ i * sz' + off + y.cells.size ≤ i' * sz' + k := by
         rcases Nat.lt_or_gt_of_ne hii with hii | hii
         · right
           have := Nat.mul_le_mul_right sz' (show i + 1 ≤ i' from hii)
           rw [Nat.add_mul, Nat.one_mul] at this
           omega
         · left
           have := Nat.mul_le_mul_right sz' (show i' + 1 ≤ i from hii)
           rw [Nat.add_mul, Nat.one_mul] at this
           omega
        have := hrep i' k e' x' he' hx'
        rcases hout with h' | h'
        · rw [if_pos h']; simpa using this
        · rw [if_neg (by omega), if_neg (by omega)]; simpa using this
   obtain ⟨m1, m2⟩ := yzg hm hA ho hC hh (by rw [Array.length_toList]; exact hfit) rfl (by rw [hcore]; exact ⟨rfl, .inl ⟨by simp, rfl⟩⟩) hrep2
   exact ⟨w.setCells b (i * sz' + off) y.cells.toList, zwq hT (by omega) hh hu hfit h1, m1, m2⟩
theorem y4i (hm : MRel g H A w) {T : TypeId} {y : Value} {ys : List CV} {κ : Tok} {ar : Arr} {off b : Nat} {e ds : List D} (hT : ∃ i, P.info? T = some i ∧ i.size = P.cellsOf T) (hyr : zq8 g A ys y.cells.toList) (hsz : ys.length = P.cellsOf T)
 (h1 : ∀ v ∈ y.cells.toList, v.oneCell' = true) (hA : A κ = some ar) (hcore : ar.core = .ob e) (hτ : g.τ κ = .pointer (some ⟨b, 0, none⟩)) (hds : z7a ys = some ds) (hlen : off + ds.length ≤ e.length) :
 ∃ w', (Instr.storeAt T (.pointer (some ⟨b, off, none⟩)) y).run P w = .ok () w' ∧ MRel g H (upd A κ (some (ar.re (.ob (splice e off ds))))) w' ∧ Evol g A w g (upd A κ (some (ar.re (.ob (splice e off ds))))) w' := by
 have hl1 : y.cells.size = ys.length := by rw [← Array.length_toList]; exact hyr.1
 have htok := (hm.tok κ _ hA).core
 rw [hcore] at htok
 obtain ⟨b', vs, te, fz, e1, ho, hC, hh, hu, hl, hrep⟩ := htok
 rw [hτ] at e1
 cases e1
 obtain ⟨d1, d2⟩ := yq6 (g := g) (A := A) hds
 have hfit : off + y.cells.size ≤ vs.size := by omega
 have hfit' : off + y.cells.toList.length ≤ vs.toList.length := by simpa using hfit
 obtain ⟨s1, s2, s3, s4, s5, s6⟩ := zqw b y.cells.toList off w vs te fz hh (by rw [Array.length_toList]; exact hfit)
 have hrep2 : zqa g (w.setCells b off y.cells.toList) κ (.ob (splice e off ds)) := by
  refine ⟨b, _, te, fz, hτ, ho, hC, s1, ?_, ?_, fun k x hx => ?_⟩
  · simpa [zz6 hfit'] using hu
  · rw [zz6 (by omega)]; simpa [zz6 hfit'] using hl
  · simp only [List.getElem?_toArray, getElem?_splice hfit', Array.length_toList]
    rw [getElem?_splice (by omega)] at hx
    by_cases k1 : k < off
    · rw [if_pos k1] at hx
      rw [if_pos k1]
      simpa using hrep k x hx
    · rw [if_neg k1] at hx
      rw [if_neg k1]
      by_cases k2 : k < off + ds.length
      · rw [if_pos k2] at hx
        rw [if_pos (by omega)]
        obtain ⟨c, hcc, hrc⟩ := d2 _ _ hx
        obtain ⟨v, hv, hcr⟩ := hyr.2 _ _ hcc
        exact ⟨v, hv, hrc v hcr⟩
      · rw [if_neg k2] at hx
        rw [if_neg (by omega)]
        simpa using hrep k x hx
 obtain ⟨m1, m2⟩ := yzg hm hA ho hC hh (by rw [Array.length_toList]; exact hfit) rfl (by rw [hcore]; exact rfl) hrep2
 exact ⟨w.setCells b off y.cells.toList, zwq hT (by omega) hh hu hfit h1, m1, m2⟩
theorem y44 (hm : MRel g H A w) (hd : zjk g H) {fb : Option (List Nat)} {T : TypeId} {a x : PV} {u y : Value} {H' : HMap} {A' : AMap} (ha : PRep g A a u) (hx : PRep g A x y) (hT : ∃ i, P.info? T = some i ∧ i.size = P.cellsOf T)
 (h : z0k P fb H A T a x = some (H', A')) :
 ∃ w', (Instr.storeAt T u y).run P w = .ok () w' ∧ MRel g H' A' w' ∧ Evol g A w g A' w' ∧ zjk g H' := by
 unfold z0k at h
 rw [Zbs] at h
 obtain ⟨ys, hys, h⟩ := h
 have hyr := z0r hx hys
 split at h
 · rename_i hc
   obtain ⟨hsz, hkn⟩ := hc
   have h1 := ywy hyr hkn
   have hl1 : y.cells.size = ys.length := by rw [← Array.length_toList]; exact hyr.1
   split at h
   · rename_i id off
     obtain ⟨cs, hcs, h⟩ := Option.bind_eq_some_iff.1 (z6q h).1
     split at h
     · rename_i hlen
       simp only [Option.some.injEq, Prod.mk.injEq] at h
       obtain ⟨rfl, rfl⟩ := h
       obtain ⟨b, hb, rfl⟩ := ha
       obtain ⟨ho, hC, cs', vs, e, fz, hH, hh, hu, hrep⟩ := hm.var id b hb
       rw [hcs] at hH
       cases hH
       have hvs : vs.size = cs.length := by rw [← Array.length_toList]; exact hrep.1
       have hfit : off + y.cells.size ≤ vs.size := by omega
       obtain ⟨s1, s2, s3, s4, s5, s6⟩ := zqw b y.cells.toList off w vs e fz hh (by rw [Array.length_toList]; exact hfit)
       refine ⟨w.setCells b off y.cells.toList, zwq hT (by omega) hh hu hfit h1, ⟨?_, ?_, ?_, ?_⟩, ?_, hd.upd (by rw [hcs]; simp)⟩
       · intro b' o v hc
         have hne : b' ≠ b := fun e => by subst e; rw [hC] at hc; cases hc
         have := hm.com b' o v hc
         rwa [World.cell?_of_block (w := w) (s2 b' hne)]
       · intro i b' hb'
         by_cases hi : i = id
         · subst hi
           rw [hb] at hb'
           cases hb'
           refine ⟨ho, hC, _, _, e, fz, zzc _ _ _, s1, by simpa [zz6 (cs := vs.toList) (ys := y.cells.toList) (off := off) (by simpa using hfit)] using hu, ?_⟩
           simpa using hrep.splice hyr off (by omega)
         · obtain ⟨ho', hC', cs', vs', e', fz', hH', hh', hu', hr'⟩ := hm.var i b' hb'
           have hne : b' ≠ b := fun e => by subst e; rw [ho] at ho'; cases ho'; exact hi rfl
           exact ⟨ho', hC', cs', vs', e', fz', by rw [zza _ _ hi]; exact hH', by rw [s2 b' hne]; exact hh', hu', hr'⟩
       · intro κ ar hA
         refine (hm.tok κ ar hA).frame rfl (fun _ _ _ h => h) rfl (fun b' ho' => ?_)
         have hne : b' ≠ b := fun e => by subst e; rw [ho] at ho'; cases ho'
         exact ⟨ho', s2 b' hne, fun _ => rfl⟩
       · intro b' o h'
         rw [s3]; exact hm.own b' o h'
       · exact .blocks (.refl _ _) b (by rw [ho]; simp) s2 s3 rfl (fun _ _ _ => rfl) s4 s5 s6 (fun h => ⟨rfl, h⟩)
     · cases h
   · split at h
     · cases h
     · split at h
       · rename_i κ sz n i off _ _ sz' els hA
         split at h
         · rename_i hn
           obtain ⟨rfl, rfl⟩ := hn
           obtain ⟨e, he, h⟩ := Option.bind_eq_some_iff.1 h
           obtain ⟨ds, hds, h⟩ := Option.bind_eq_some_iff.1 h
           split at h
           · rename_i hlen
             simp only [Option.some.injEq, Prod.mk.injEq] at h
             obtain ⟨rfl, rfl⟩ := h
             obtain ⟨b, els', rfl, hA', hle, hcap⟩ := ha
             rw [hA] at hA'
             cases hA'
             obtain ⟨cap, hτ⟩ := hcap rfl
             obtain ⟨w', q1, q2, q3⟩ := ykf hm hT hyr (by omega) h1 hA rfl hτ he hds hlen
             exact ⟨w', q1, q2, q3, hd⟩
           · cases h
         · cases h
       · cases h
   · rename_i p off
     split at h
     · cases h
     · split at h
       · rename_i q e hA
         split at h
         · rename_i hq
           subst hq
           obtain ⟨ds, hds, h⟩ := Option.bind_eq_some_iff.1 h
           split at h
           · rename_i hlen
             simp only [Option.some.injEq, Prod.mk.injEq] at h
             obtain ⟨rfl, rfl⟩ := h
             obtain ⟨⟨b, vs, te, fz, e1, _⟩, hπ, _⟩ := hm.tok _ _ hA
             cases ha with
             | rf _ _ b' hp =>
               rw [hp, e1] at hπ
               cases hπ
               obtain ⟨w', q1, q2, q3⟩ := y4i hm hT hyr (by omega) h1 hA rfl e1 hds hlen
               exact ⟨w', q1, q2, q3, hd⟩
           · cases h
         · cases h
       · cases h
   · rename_i p sz n i off
     split at h
     · cases h
     · split at h
       · rename_i q sz' els hA
         split at h
         · rename_i hc
           obtain ⟨rfl, rfl, rfl⟩ := hc
           obtain ⟨e, he, h⟩ := Option.bind_eq_some_iff.1 h
           obtain ⟨ds, hds, h⟩ := Option.bind_eq_some_iff.1 h
           split at h
           · rename_i hlen
             simp only [Option.some.injEq, Prod.mk.injEq] at h
             obtain ⟨rfl, rfl⟩ := h
             have ht := hm.tok _ _ hA
             cases ha with
             | el _ _ _ _ _ b cap hp hi =>
               have hτ := ht.2.1
               rw [hp] at hτ
               obtain ⟨w', q1, q2, q3⟩ := ykf hm hT hyr (by omega) h1 hA rfl (Option.some.inj hτ).symm he hds hlen
               exact ⟨w', q1, q2, q3, hd⟩
           · cases h
         · cases h
       · cases h
   · cases h
 · cases h
end Go.PW
