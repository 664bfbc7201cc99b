/-
  Parts of the proof, laid together: PwH, PwI.
-/
import Derived.Test.YtghlemfokpfngaaQ04

namespace Go.PW
variable {P : Program} {g : Gh} {H : HMap} {A : AMap} {w : World}
theorem length_splice {α : Type} {cs ys : List α} {off : Nat} (h : off + ys.length ≤ cs.length) : (splice cs off ys).length = cs.length := by simp [splice]; omega
theorem getElem?_splice {α : Type} {cs ys : List α} {off : Nat} (h : off + ys.length ≤ cs.length) (k : Nat) :
    (splice cs off ys)[k]? = if k < off then cs[k]? else if k < off + ys.length then ys[k - off]? else cs[k]? := by
  unfold splice
  rw [List.append_assoc, List.getElem?_append]
  simp only [List.length_take, show min off cs.length = off by omega]
  by_cases h1 : k < off
  · rw [if_pos h1, if_pos h1, List.getElem?_take, if_pos h1]
  · rw [if_neg h1, if_neg h1, List.getElem?_append]
    by_cases h2 : k < off + ys.length
    · rw [if_pos h2, if_pos (by omega)]
    · rw [if_neg h2, if_neg (by omega), List.getElem?_drop]
      congr 1
      omega
theorem DomOK.upd {id : Nat} {cs : List CV} (hd : DomOK g H) (_h : H id ≠ none) : DomOK g (upd H id (some cs)) := by
  intro i hi
  by_cases hii : i = id
  · subst hii; rw [upd_same] at hi; cases hi
  · rw [upd_other _ _ hii] at hi; exact hd i hi
theorem Evol.blocks {g' : Gh} {A' : AMap} {w' : World} (hM : Mono g A g' A') (b : Nat) (hb : g.O b ≠ none) (h1 : ∀ k, k ≠ b → w'.heap[k]? = w.heap[k]?) (h2 : w'.heap.size = w.heap.size) (hO : g'.O = g.O)
    (hC : ∀ k, k ≠ b → ∀ o, g'.C k o = g.C k o) (h3 : w'.os = w.os) (h4 : w'.tape = w.tape) (h5 : w'.output = w.output) : Evol g A w g' A' w' :=
  ⟨hM, fun k _ ho => h1 k (fun e => hb (e ▸ ho)), fun k _ ho => by rw [hO]; exact ho, fun k _ ho o => hC k (fun e => hb (e ▸ ho)) o, by rw [h2]; exact Nat.le_refl _, h3, h4, h5⟩
theorem store_ok (hm : MRel g H A w) (hd : DomOK g H) {fb : Option (List Nat)} {T : TypeId} {a x : PV} {u y : Value} {H' : HMap} {A' : AMap} (ha : PRep g A a u) (hx : PRep g A x y) (hT : ∃ i, P.info? T = some i ∧ i.size = P.cellsOf T)
    (h : storeS P fb H A T a x = some (H', A')) :
    ∃ w', (Instr.storeAt T u y).run P w = .ok () w' ∧ MRel g H' A' w' ∧ Evol g A w g A' w' ∧ DomOK g H' := by
  unfold storeS at h
  rw [Option.bind_eq_some_iff] at h
  obtain ⟨ys, hys, h⟩ := h
  have hyr := cellsP_rep hx hys
  split at h
  · rename_i hc
    obtain ⟨hsz, hkn⟩ := hc
    have h1 := all_known hyr hkn
    have hl1 : y.cells.size = ys.length := by rw [← Array.length_toList]; exact hyr.1
    split at h
    · rename_i id off
      obtain ⟨cs, hcs, h⟩ := Option.bind_eq_some_iff.1 (stoG_some h).1
      split at h
      · rename_i hlen
        simp only [Option.some.injEq, Prod.mk.injEq] at h
        obtain ⟨rfl, rfl⟩ := h
        obtain ⟨b, hb, rfl⟩ := ha
        obtain ⟨ho, hC, cs', vs, e, fz, hH, hh, hu, hrep⟩ := hm.var id b hb
        rw [hcs] at hH
        cases hH
        have hvs : vs.size = cs.length := by rw [← Array.length_toList]; exact hrep.1
        have hfit : off + y.cells.size ≤ vs.size := by omega
        obtain ⟨s1, s2, s3, s4, s5, s6⟩ := setCells_heap b y.cells.toList off w vs e fz hh (by rw [Array.length_toList]; exact hfit)
        refine ⟨w.setCells b off y.cells.toList, run_storeVar' hT (by omega) hh hu hfit h1, ⟨?_, ?_, ?_, ?_⟩, ?_, hd.upd (by rw [hcs]; simp)⟩
        · intro b' o v hc
          have hne : b' ≠ b := fun e => by subst e; rw [hC] at hc; cases hc
          have := hm.com b' o v hc
          rwa [World.cell?_of_block (w := w) (s2 b' hne)]
        · intro i b' hb'
          by_cases hi : i = id
          · subst hi
            rw [hb] at hb'
            cases hb'
            refine ⟨ho, hC, _, _, e, fz, upd_same _ _ _, s1, by simpa [length_splice (cs := vs.toList) (ys := y.cells.toList) (off := off) (by simpa using hfit)] using hu, ?_⟩
            simpa using hrep.splice hyr off (by omega)
          · obtain ⟨ho', hC', cs', vs', e', fz', hH', hh', hu', hr'⟩ := hm.var i b' hb'
            have hne : b' ≠ b := fun e => by subst e; rw [ho] at ho'; cases ho'; exact hi rfl
            exact ⟨ho', hC', cs', vs', e', fz', by rw [upd_other _ _ hi]; exact hH', by rw [s2 b' hne]; exact hh', hu', hr'⟩
        · intro κ ar hA
          refine (hm.tok κ ar hA).frame rfl (fun _ _ _ h => h) (fun b' ho' => ?_)
          have hne : b' ≠ b := fun e => by subst e; rw [ho] at ho'; cases ho'
          exact ⟨ho', s2 b' hne, fun _ => rfl⟩
        · intro b' o h'
          rw [s3]; exact hm.own b' o h'
        · exact .blocks (.refl _ _) b (by rw [ho]; simp) s2 s3 rfl (fun _ _ _ => rfl) s4 s5 s6
      · cases h
    · split at h
      · cases h
      · split at h
        · rename_i κ sz n i off _ _ sz' els hA
          split at h
          · rename_i hn
            obtain ⟨rfl, rfl⟩ := hn
            obtain ⟨e, he, h⟩ := Option.bind_eq_some_iff.1 h
            obtain ⟨ds, hds, h⟩ := Option.bind_eq_some_iff.1 h
            split at h
            · rename_i hlen
              simp only [Option.some.injEq, Prod.mk.injEq] at h
              obtain ⟨rfl, rfl⟩ := h
              obtain ⟨b, els', rfl, hA', hle, hcap⟩ := ha
              rw [hA] at hA'
              cases hA'
              obtain ⟨cap, hτ⟩ := hcap rfl
              obtain ⟨hs, a, cap', e1, e2, e3⟩ := hm.tok κ _ hA
              rw [hτ] at e1
              cases e1
              have hlt : i < els.length := (List.getElem?_eq_some_iff.1 he).1
              have hel : e.length = sz' := hs e (List.mem_of_getElem? he)
              rcases e3 with e3 | ⟨b', hb', ho, hC, vs, te, fz, hh, hu, hcp, hrep⟩
              · omega
              · cases hb'
                obtain ⟨d1, d2⟩ := toDs_rep (g := g) (A := A) hds
                have hmul : (i + 1) * sz' ≤ cap * sz' := Nat.mul_le_mul_right _ (by omega)
                rw [Nat.add_mul, Nat.one_mul] at hmul
                have hfit : i * sz' + off + y.cells.size ≤ vs.size := by omega
                have hfit' : i * sz' + off + y.cells.toList.length ≤ vs.toList.length := by simpa using hfit
                obtain ⟨s1, s2, s3, s4, s5, s6⟩ := setCells_heap b y.cells.toList (i * sz' + off) w vs te fz hh (by rw [Array.length_toList]; exact hfit)
                have hM : Mono g A g (upd A κ (some (.mu sz' (els.set i (splice e off ds))))) := ⟨fun _ _ _ h => h, fun _ _ h => h, fun κ' ar hq => by
                  by_cases hk : κ' = κ
                  · subst hk
                    rw [hA] at hq
                    cases hq
                    exact ⟨.mu sz' (els.set i (splice e off ds)), upd_same _ _ _, rfl, .inl ⟨by simp, rfl⟩⟩
                  · exact ⟨ar, by rw [upd_other _ _ hk]; exact hq, .refl _ _⟩⟩
                refine ⟨w.setCells b (i * sz' + off) y.cells.toList, run_storeVar' hT (by omega) hh hu hfit h1, ⟨?_, ?_, ?_, ?_⟩, ?_, hd⟩
                · intro b' o v hc
                  have hne : b' ≠ b := fun e => by subst e; rw [hC] at hc; cases hc
                  have := hm.com b' o v hc
                  rwa [World.cell?_of_block (w := w) (s2 b' hne)]
                · intro j b' hb'
                  obtain ⟨ho', hC', cs', vs', e', fz', hH', hh', hu', hr'⟩ := hm.var j b' hb'
                  have hne : b' ≠ b := fun e => by subst e; rw [ho] at ho'; cases ho'
                  exact ⟨ho', hC', cs', vs', e', fz', hH', by rw [s2 b' hne]; exact hh', hu', hr'.mono hM⟩
                · intro κ' ar hA'
                  by_cases hk : κ' = κ
                  · subst hk
                    rw [upd_same] at hA'
                    cases hA'
                    refine ⟨?_, some ⟨b, 0, none⟩, cap, by rw [hτ]; simp, by simpa using e2, .inr ⟨b, rfl, ho, hC, _, te, fz, s1, ?_, ?_, ?_⟩⟩
                    · intro c hc
                      rcases List.mem_or_eq_of_mem_set hc with hc | rfl
                      · exact hs c hc
                      · rw [length_splice (by omega)]; exact hel
                    · simpa [length_splice hfit'] using hu
                    · simpa [length_splice hfit'] using hcp
                    · intro i' k e' x' he' hx'
                      rw [List.getElem?_set] at he'
                      simp only [List.getElem?_toArray, getElem?_splice hfit', Array.length_toList]
                      by_cases hii : i = i'
                      · subst hii
                        simp only [if_true, hlt] at he'
                        cases he'
                        rw [getElem?_splice (by omega)] at hx'
                        by_cases k1 : k < off
                        · rw [if_pos k1] at hx'
                          rw [if_pos (by omega)]
                          simpa using hrep i k e x' he hx'
                        · rw [if_neg k1] at hx'
                          rw [if_neg (by omega)]
                          by_cases k2 : k < off + ds.length
                          · rw [if_pos k2] at hx'
                            rw [if_pos (by omega)]
                            obtain ⟨c, hcc, hrc⟩ := d2 _ _ hx'
                            obtain ⟨v, hv, hcr⟩ := hyr.2 _ _ hcc
                            exact ⟨v, by rw [show i * sz' + k - (i * sz' + off) = k - off by omega]; exact hv, hrc v hcr⟩
                          · rw [if_neg k2] at hx'
                            rw [if_neg (by omega)]
                            simpa using hrep i k e x' he hx'
                      · rw [if_neg hii] at he'
                        have hk' : k < sz' := by rw [← hs e' (List.mem_of_getElem? he')]; exact (List.getElem?_eq_some_iff.1 hx').1
                        have hout : i' * sz' + k < i * sz' + off ∨ i * sz' + off + y.cells.size ≤ i' * sz' + k := by
                          rcases Nat.lt_or_gt_of_ne hii with hii | hii
                          · right
                            have := Nat.mul_le_mul_right sz' (show i + 1 ≤ i' from hii)
                            rw [Nat.add_mul, Nat.one_mul] at this
                            omega
                          · left
                            have := Nat.mul_le_mul_right sz' (show i' + 1 ≤ i from hii)
                            rw [Nat.add_mul, Nat.one_mul] at this
                            omega
                        have := hrep i' k e' x' he' hx'
                        rcases hout with h' | h'
                        · rw [if_pos h']; simpa using this
                        · rw [if_neg (by omega), if_neg (by omega)]; simpa using this
                  · rw [upd_other _ _ hk] at hA'
                    refine (hm.tok κ' ar hA').frame rfl (fun _ _ _ h => h) (fun b' ho' => ?_)
                    have hne : b' ≠ b := fun e => by subst e; rw [ho] at ho'; cases ho'; exact hk rfl
                    exact ⟨ho', s2 b' hne, fun _ => rfl⟩
                · intro b' o h'
                  rw [s3]; exact hm.own b' o h'
                · exact .blocks hM b (by rw [ho]; simp) s2 s3 rfl (fun _ _ _ => rfl) s4 s5 s6
            · cases h
          · cases h
        · cases h
    · cases h
  · cases h
end Go.PW

namespace Go.PW
variable {P : Program} {g : Gh} {H : HMap} {A : AMap} {w : World}
def Flat (C : Nat → Nat → Option Value) (sz : Nat) (els : List (List D)) (us : List Value) : Prop :=
  us.length = els.length * sz ∧ (∀ v ∈ us, v.oneCell' = true) ∧ ∀ (i k : Nat) (e : List D) (x : D), els[i]? = some e → e[k]? = some x → ∃ v, us[i * sz + k]? = some v ∧ DRep C x v
theorem Flat.mono {C C' : Nat → Nat → Option Value} (h : ∀ b o v, C b o = some v → C' b o = some v) {sz : Nat} {els : List (List D)} {us : List Value} (hf : Flat C sz els us) : Flat C' sz els us :=
  ⟨hf.1, hf.2.1, fun i k e x h1 h2 => let ⟨v, hv, hd⟩ := hf.2.2 i k e x h1 h2; ⟨v, hv, DRep.mono h hd⟩⟩
theorem Flat.append {C : Nat → Nat → Option Value} {sz : Nat} {a b : List (List D)} {us vs : List Value} (h : Flat C sz a us) (k : Flat C sz b vs) : Flat C sz (a ++ b) (us ++ vs) := by
  refine ⟨by simp [h.1, k.1, Nat.add_mul], fun v hv => ?_, fun i j e x he hx => ?_⟩
  · rcases List.mem_append.1 hv with hv | hv
    · exact h.2.1 v hv
    · exact k.2.1 v hv
  · rw [List.getElem?_append] at he
    split at he
    · rename_i hi
      obtain ⟨v, hv, hd⟩ := h.2.2 i j e x he hx
      refine ⟨v, ?_, hd⟩
      rw [List.getElem?_append, if_pos (List.getElem?_eq_some_iff.1 hv).1]
      exact hv
    · rename_i hi
      obtain ⟨v, hv, hd⟩ := k.2.2 _ j e x he hx
      refine ⟨v, ?_, hd⟩
      have hm : a.length * sz ≤ i * sz := Nat.mul_le_mul_right _ (by omega)
      rw [List.getElem?_append, if_neg (by rw [h.1]; omega), h.1]
      rw [Nat.sub_mul] at hv
      rw [show i * sz + j - a.length * sz = i * sz - a.length * sz + j by omega]
      exact hv
theorem DRep_of_flat {C : Nat → Nat → Option Value} {els : List (List D)} {us : List Value} {b o cap sz n : Nat} (hs : Szd sz els) (hf : Flat C sz els us) (hn : n = els.length) (hcap : n ≤ cap) (hC : ∀ j, j < n * sz → C b (o + j) = us[j]?) :
    DRep C (.sl els) (.slice (some ⟨b, o, none⟩) n cap) := by
  refine .sl els b o cap sz n (fun i k => us.getD (i * sz + k) undef) hn hcap hs (fun i k hi hk => ?_) (fun i k e x he hx => ?_)
  · have := Nat.mul_le_mul_right sz (show i + 1 ≤ n from hi)
    rw [Nat.add_mul, Nat.one_mul] at this
    rw [Nat.add_assoc, hC _ (by omega), List.getD_eq_getElem?_getD, List.getElem?_eq_getElem (by rw [hf.1, ← hn]; omega)]
    rfl
  · obtain ⟨v, hv, hd⟩ := hf.2.2 i k e x he hx
    simp only [List.getD_eq_getElem?_getD, hv, Option.getD_some]
    exact hd
theorem flat_of {els : List (List D)} {u : Value} {sz : Nat} (h : DRep g.C (.sl els) u) (hs : Szd sz els) :
    ∃ (us : List Value) (a : Option Addr) (cap : Nat), Flat g.C sz els us ∧ u = .slice a els.length cap ∧ els.length ≤ cap ∧ ((els = [] ∧ cap = 0) ∨ ∃ b o, a = some ⟨b, o, none⟩ ∧ ∀ j v, us[j]? = some v → g.C b (o + j) = some v) := by
  cases h with
  | nil a => exact ⟨[], a, 0, ⟨by simp, by simp, by simp⟩, rfl, by simp, .inl ⟨rfl, rfl⟩⟩
  | sl els b o cap sz' n val hn hcap hsz hC hd =>
    subst hn
    by_cases hne : els = []
    · subst hne
      exact ⟨[], _, cap, ⟨by simp, by simp, by simp⟩, rfl, hcap, .inr ⟨b, o, rfl, by simp⟩⟩
    · obtain ⟨e0, r0, rfl⟩ : ∃ e r, els = e :: r := by cases els with | nil => exact (hne rfl).elim | cons e r => exact ⟨e, r, rfl⟩
      have e1 : sz' = sz := by rw [← hs e0 (by simp), hsz e0 (by simp)]
      subst e1
      generalize e0 :: r0 = els at *
      by_cases hz : sz' = 0
      · subst hz
        refine ⟨[], _, cap, ⟨by simp, by simp, fun i k e x he hx => ?_⟩, rfl, hcap, .inr ⟨b, o, rfl, by simp⟩⟩
        have := hs e (List.mem_of_getElem? he)
        have := (List.getElem?_eq_some_iff.1 hx).1
        omega
      · have hpos : 0 < sz' := by omega
        have hdiv : ∀ j, j < els.length * sz' → j / sz' < els.length ∧ j % sz' < sz' := fun j hj => ⟨Nat.div_lt_of_lt_mul (by rw [Nat.mul_comm]; exact hj), Nat.mod_lt _ hpos⟩
        have hcell : ∀ j, j < els.length * sz' → g.C b (o + j) = some (val (j / sz') (j % sz')) := fun j hj => by
          have := hC (j / sz') (j % sz') (hdiv j hj).1 (hdiv j hj).2
          rw [Nat.add_assoc, Nat.mul_comm, Nat.div_add_mod] at this
          exact this
        have hat : ∀ i k, k < sz' → (i * sz' + k) / sz' = i ∧ (i * sz' + k) % sz' = k := fun i k hk => by
          rw [Nat.mul_comm, Nat.mul_add_div hpos, Nat.div_eq_of_lt hk, Nat.mul_add_mod, Nat.mod_eq_of_lt hk]
          simp
        refine ⟨(List.range (els.length * sz')).map (fun j => val (j / sz') (j % sz')), _, cap, ⟨by simp, fun v hv => ?_, fun i k e x he hx => ?_⟩, rfl, hcap, .inr ⟨b, o, rfl, fun j v hj => ?_⟩⟩
        · obtain ⟨j, hj, rfl⟩ := List.mem_map.1 hv
          have hj := List.mem_range.1 hj
          obtain ⟨h1, h2⟩ := hdiv j hj
          have hle : els[j / sz'].length = sz' := hs _ (List.getElem_mem h1)
          exact DRep.oneCell (hd (j / sz') (j % sz') els[j / sz'] _ (List.getElem?_eq_getElem h1) (List.getElem?_eq_getElem (by omega)))
        · have hi := (List.getElem?_eq_some_iff.1 he).1
          have hk : k < sz' := by rw [← hs e (List.mem_of_getElem? he)]; exact (List.getElem?_eq_some_iff.1 hx).1
          have := Nat.mul_le_mul_right sz' (show i + 1 ≤ els.length from hi)
          rw [Nat.add_mul, Nat.one_mul] at this
          refine ⟨val i k, ?_, hd i k e x he hx⟩
          rw [List.getElem?_map, List.getElem?_range (by omega)]
          simp [hat i k hk]
        · rw [List.getElem?_map] at hj
          obtain ⟨j', hj', rfl⟩ := Option.map_eq_some_iff.1 hj
          obtain ⟨hlt, e⟩ := List.getElem?_eq_some_iff.1 hj'
          simp only [List.length_range] at hlt
          simp only [List.getElem_range] at e
          subst e
          exact hcell _ hlt
theorem run_first {sz n : Nat} {a : Option Addr} {cap : Nat} {us : List Value} (hl : us.length = n * sz) (h : us = [] ∨ ∃ b o, a = some ⟨b, o, none⟩ ∧ ∀ j v, us[j]? = some v → w.cell? ⟨b, o + j, none⟩ = some v) (w2 : World) (hw : w2.heap = w.heap) :
    (Builtin.firstCells sz n (.slice a n cap)).run P w2 = .ok us.toArray w2 := by
  rcases h with rfl | ⟨b, o, rfl, hc⟩
  · cases a with
    | none => exact run_firstCells_none w2 _ _ _ _
    | some a => exact run_firstCells_some w2 sz n a n cap [] hl (fun j v hj => by simp at hj)
  · refine run_firstCells_some w2 sz n ⟨b, o, none⟩ n cap us hl (fun j v hj => ?_)
    rw [Addr_add]
    have := hc j v hj
    simpa [World.cell?, hw] using this
theorem run_append_room2 {t e ty : TypeId} {i : TypeInfo} (ht : P.underlying t = some (.slice e)) (hi : P.info? e = some i) {a a' : Option Addr} {n cap m c' : Nat} {news : List Value}
    (hf : ∀ w2 : World, w2.heap = w.heap → (Builtin.firstCells i.size m (.slice a' m c')).run P w2 = .ok news.toArray w2) (hroom : n + m ≤ cap) :
    (Builtin.append_ #[t, t] ty #[.slice a n cap, .slice a' m c']).run P w = (match a with
      | some b => ((storeCells (b.add (n * i.size)) news).run P w).andThen fun _ w' => .ok (.slice a (n + m) cap) w'
      | none => .ok (.slice none (n + m) cap) w) := by
  have h1 := hf w rfl
  cases a with
  | none => simp [Builtin.append_, run_underlying ht, sizeOf, typeInfo, hi, Builtin.lenOf, hroom, h1]
  | some b => simp [Builtin.append_, run_underlying ht, sizeOf, typeInfo, hi, Builtin.lenOf, hroom, h1]
theorem run_append_grow2 {t e ty : TypeId} {i : TypeInfo} {z : Value} (ht : P.underlying t = some (.slice e)) (hi : P.info? e = some i) (hz : i.zero = some z) {a a' : Option Addr} {n cap m c' : Nat} {olds news : List Value}
    (hfo : ∀ w2 : World, w2.heap = w.heap → (Builtin.firstCells i.size n (.slice a n cap)).run P w2 = .ok olds.toArray w2)
    (hf : ∀ w2 : World, w2.heap = w.heap → (Builtin.firstCells i.size m (.slice a' m c')).run P w2 = .ok news.toArray w2)
    (hg : cap < n + m) (h63 : ((n + m : Nat) : Int) ≤ 9223372036854775807) (hfit : Builtin.nextslicecap (n + m) cap * i.bytes ≤ 281474976710656) :
    (Builtin.append_ #[t, t] ty #[.slice a n cap, .slice a' m c']).run P w =
      .ok (.slice (some ⟨w.heap.size, 0, none⟩) (n + m) (grownCap w (n + m) cap e))
        (w.drew.alloc (.cells (olds.toArray ++ news.toArray ++ Builtin.zeroCells z.cells (grownCap w (n + m) cap e - (n + m))) e)) := by
  have hn : ¬ (n + m ≤ cap) := by omega
  have h63' : ¬ (9223372036854775807 < ((n : Int) + (m : Int))) := by omega
  have h48' : ¬ (281474976710656 < Builtin.nextslicecap (n + m) cap * i.bytes) := by omega
  have h1 := hf w.drew rfl
  have h2 := hfo w.drew rfl
  simp [Builtin.append_, run_underlying ht, sizeOf, typeInfo, zeroValue, hi, hz, Builtin.lenOf, hn, h63', h48', Question.forced, h1, h2, newRow, grownCap]
  congr 2
  apply Array.ext'
  simp
structure Grown (w w' : World) (sz need : Nat) (us : List Value) (u' : Value) : Prop where
  ex : ∃ cap vs e fz, u' = .slice (some ⟨w.heap.size, 0, none⟩) need cap ∧ need ≤ cap ∧ w'.heap[w.heap.size]? = some (.cells vs e fz) ∧ Unfz vs.size fz ∧ cap * sz ≤ vs.size ∧ (∀ j, j < need * sz → vs[j]? = us[j]?) ∧ us.length = need * sz
  old : ∀ b, b < w.heap.size → w'.heap[b]? = w.heap[b]?
  size : w'.heap.size = w.heap.size + 1
  os : w'.os = w.os
  tape : w'.tape = w.tape
  output : w'.output = w.output
theorem grown_ok {t e ty : TypeId} {i : TypeInfo} {z : Value} (ht : P.underlying t = some (.slice e)) (hi : P.info? e = some i) (hz : i.zero = some z) (hzs : z.cells.size = i.size) {a a' : Option Addr} {n cap m c' : Nat} {olds news : List Value}
    (hlo : olds.length = n * i.size) (hln : news.length = m * i.size)
    (hfo : ∀ w2 : World, w2.heap = w.heap → (Builtin.firstCells i.size n (.slice a n cap)).run P w2 = .ok olds.toArray w2)
    (hf : ∀ w2 : World, w2.heap = w.heap → (Builtin.firstCells i.size m (.slice a' m c')).run P w2 = .ok news.toArray w2)
    (hg : cap < n + m) (hb : (n + m) * i.bytes ≤ 140737488355328) (h63 : ((n + m : Nat) : Int) ≤ 9223372036854775807) :
    ∃ u' w', (Builtin.append_ #[t, t] ty #[.slice a n cap, .slice a' m c']).run P w = .ok u' w' ∧ Grown w w' i.size (n + m) (olds ++ news) u' := by
  refine ⟨_, _, run_append_grow2 ht hi hz hfo hf hg h63 (growslice_fits hg hb), ⟨_, _, e, (0, 0), rfl, grownCap_ge w (n + m) cap e, heap_alloc_new w.drew _, fun o _ => by simp, ?_, ?_, ?_⟩, fun b hb => heap_alloc_old w.drew _ b hb, by simp, rfl, rfl, rfl⟩
  · have hge := grownCap_ge w (n + m) cap e
    generalize grownCap w (n + m) cap e = c at hge
    simp only [Array.size_append, List.size_toArray, size_zeroCells, hzs, hlo, hln, ← Nat.add_mul]
    exact Nat.mul_le_mul_right _ (by omega)
  · intro j hj
    rw [Nat.add_mul] at hj
    rw [Array.getElem?_append, if_pos (by simp [hlo, hln]; omega)]
    simp
  · simp [hlo, hln, Nat.add_mul]
theorem tokstep (hm : MRel g H A w) {κ : Tok} {ar' : Arr} {g' : Gh} {w' : World} (hβ : g'.β = g.β) (hτ : ∀ κ', κ' ≠ κ → g'.τ κ' = g.τ κ') (hC : ∀ b o v, g.C b o = some v → g'.C b o = some v)
    (hCo : ∀ b, b < w.heap.size → g.O b ≠ some (.tok κ) → ∀ o, g'.C b o = g.C b o) (hO : ∀ b, b < w.heap.size → g'.O b = g.O b) (hO2 : ∀ b o, g'.O b = some o → b < w'.heap.size)
    (hh : ∀ b, b < w.heap.size → g.O b ≠ some (.tok κ) → w'.heap[b]? = w.heap[b]?) (hcom : ∀ b o v, g'.C b o = some v → w'.cell? ⟨b, o, none⟩ = some v)
    (hle : ∀ ar, A κ = some ar → TokLe ar (g.τ κ) ar' (g'.τ κ)) (hrep : TokRep g' w' κ ar') (hsz : w.heap.size ≤ w'.heap.size) (h1 : w'.os = w.os) (h2 : w'.tape = w.tape) (h3 : w'.output = w.output) :
    MRel g' H (upd A κ (some ar')) w' ∧ Evol g A w g' (upd A κ (some ar')) w' := by
  have hM : Mono g A g' (upd A κ (some ar')) := ⟨hC, fun id b h => by rw [hβ]; exact h, fun κ' ar h => by
    by_cases hk : κ' = κ
    · subst hk
      exact ⟨ar', upd_same _ _ _, hle ar h⟩
    · exact ⟨ar, by rw [upd_other _ _ hk]; exact h, by rw [hτ κ' hk]; exact .refl _ _⟩⟩
  refine ⟨⟨hcom, ?_, ?_, hO2⟩, ⟨hM, fun b hb ho => hh b hb (by rw [ho]; simp), fun b hb ho => by rw [hO b hb]; exact ho, fun b hb ho => hCo b hb (by rw [ho]; simp), hsz, h1, h2, h3⟩⟩
  · intro id b hb
    rw [hβ] at hb
    obtain ⟨ho, hc, cs, vs, e, fz, hH, hv, hu, hr⟩ := hm.var id b hb
    have hlt := heap_lt hv
    have hne : g.O b ≠ some (.tok κ) := by rw [ho]; simp
    exact ⟨by rw [hO b hlt]; exact ho, fun o => by rw [hCo b hlt hne]; exact hc o, cs, vs, e, fz, hH, by rw [hh b hlt hne]; exact hv, hu, hr.mono hM⟩
  · intro κ' ar hA
    by_cases hk : κ' = κ
    · subst hk
      rw [upd_same] at hA
      cases hA
      exact hrep
    · rw [upd_other _ _ hk] at hA
      refine (hm.tok κ' ar hA).frame (hτ κ' hk) hC (fun b ho => ?_)
      have hlt := hm.own b _ ho
      have hne : g.O b ≠ some (.tok κ) := by rw [ho]; intro e; cases e; exact hk rfl
      exact ⟨by rw [hO b hlt]; exact ho, hh b hlt hne, hCo b hlt hne⟩
theorem grown_co (hm : MRel g H A w) {κ : Tok} {w' : World} {sz need : Nat} {els : List (List D)} {us : List Value} {u' : Value} (hg : Grown w w' sz need us u') (hf : Flat g.C sz els us) (hs : Szd sz els) (hn : els.length = need)
    (hle : ∀ ar, A κ = some ar → ∃ n, ar = .co sz n ∧ n < need) :
    ∃ g', MRel g' H (upd A κ (some (.co sz need))) w' ∧ Evol g A w g' (upd A κ (some (.co sz need))) w' ∧ DRep g'.C (.sl els) u' ∧ g'.τ κ = u' ∧ g'.β = g.β := by
  obtain ⟨cap, vs, e, fz, rfl, hcap, hv, hfz, hvs, hvu, hul⟩ := hg.ex
  let g' : Gh := { g with C := fun b o => if b = w.heap.size then (if o < need * sz then us[o]? else none) else g.C b o, τ := upd g.τ κ (.slice (some ⟨w.heap.size, 0, none⟩) need cap), O := upd g.O w.heap.size (some (.tok κ)) }
  have hC : ∀ b o v, g.C b o = some v → g'.C b o = some v := fun b o v hc => by
    have := C_lt hm hc
    simp only [g']
    rw [if_neg (by omega)]
    exact hc
  have hnew : ∀ o, g'.C w.heap.size o = if o < need * sz then us[o]? else none := fun o => by simp [g']
  obtain ⟨m1, m2⟩ := tokstep (g' := g') (κ := κ) (ar' := .co sz need) (w' := w') hm rfl (fun κ' hk => upd_other _ _ hk) hC (fun b hb _ o => by simp only [g']; rw [if_neg (by omega)]) (fun b hb => upd_other _ _ (by omega))
    (fun b o ho => by
      rw [hg.size]
      by_cases hb : b = w.heap.size
      · omega
      · rw [show g'.O b = g.O b from upd_other _ _ hb] at ho
        have := hm.own b o ho
        omega)
    (fun b hb _ => hg.old b hb)
    (fun b o v hc => by
      by_cases hb : b = w.heap.size
      · subst hb
        rw [hnew] at hc
        split at hc
        · rename_i ho
          exact cell_of_heap hv (by rw [hvu o ho]; exact hc)
        · cases hc
      · simp only [g', if_neg hb] at hc
        rw [World.cell?_of_block (w := w) (hg.old b (C_lt hm hc))]
        exact hm.com b o v hc)
    (fun ar ha => by
      obtain ⟨n, rfl, hlt⟩ := hle ar ha
      exact ⟨rfl, .inr hlt⟩)
    ⟨_, cap, upd_same _ _ _, hcap, .inr ⟨_, rfl, upd_same _ _ _, fun j hj => by rw [hnew, if_neg (by omega)], vs, e, fz, hv, hfz, hvs⟩⟩ (by rw [hg.size]; omega) hg.os hg.tape hg.output
  refine ⟨g', m1, m2, ?_, upd_same _ _ _, rfl⟩
  refine DRep_of_flat hs (hf.mono hC) hn.symm hcap (fun j hj => ?_)
  rw [Nat.zero_add, hnew, if_pos hj]
theorem grown_mu (hm : MRel g H A w) {κ : Tok} {w' : World} {sz need : Nat} {els : List (List D)} {us : List Value} {u' : Value} (hg : Grown w w' sz need us u') (hf : Flat g.C sz els us) (hs : Szd sz els) (hn : els.length = need)
    (hle : ∀ ar, A κ = some ar → ∃ els0, ar = .mu sz els0 ∧ els0.length < need) :
    ∃ g', MRel g' H (upd A κ (some (.mu sz els))) w' ∧ Evol g A w g' (upd A κ (some (.mu sz els))) w' ∧ PRep g' (upd A κ (some (.mu sz els))) (.c (.mt κ sz need)) u' ∧ g'.β = g.β := by
  obtain ⟨cap, vs, e, fz, rfl, hcap, hv, hfz, hvs, hvu, hul⟩ := hg.ex
  let g' : Gh := { g with τ := upd g.τ κ (.slice (some ⟨w.heap.size, 0, none⟩) need cap), O := upd g.O w.heap.size (some (.tok κ)) }
  obtain ⟨m1, m2⟩ := tokstep (g' := g') (κ := κ) (ar' := .mu sz els) (w' := w') hm rfl (fun κ' hk => upd_other _ _ hk) (fun _ _ _ h => h) (fun _ _ _ _ => rfl) (fun b hb => upd_other _ _ (by omega))
    (fun b o ho => by
      rw [hg.size]
      by_cases hb : b = w.heap.size
      · omega
      · rw [show g'.O b = g.O b from upd_other _ _ hb] at ho
        have := hm.own b o ho
        omega)
    (fun b hb _ => hg.old b hb)
    (fun b o v hc => by
      rw [World.cell?_of_block (w := w) (hg.old b (C_lt hm hc))]
      exact hm.com b o v hc)
    (fun ar ha => by
      obtain ⟨els0, rfl, hlt⟩ := hle ar ha
      exact ⟨rfl, .inr (by omega)⟩)
    ⟨hs, some ⟨w.heap.size, 0, none⟩, cap, by rw [hn]; exact upd_same _ _ _, by omega, .inr ⟨_, rfl, upd_same _ _ _, fun j => C_none_new hm j, vs, e, fz, hv, hfz, hvs, fun i k e' x he hx => by
      obtain ⟨v, hv, hd⟩ := hf.2.2 i k e' x he hx
      have := (List.getElem?_eq_some_iff.1 hv).1
      exact ⟨v, by rw [hvu _ (by omega)]; exact hv, hd⟩⟩⟩ (by rw [hg.size]; omega) hg.os hg.tape hg.output
  refine ⟨g', m1, m2, ⟨_, cap, els, rfl, fun _ => ⟨_, rfl⟩, upd_same _ _ _, by omega, fun _ => .inl (upd_same _ _ _)⟩, rfl⟩
theorem room_co (hm : MRel g H A w) {κ : Tok} {sz n m cap b : Nat} {els ys : List (List D)} {us news : List Value} {vs : Array Value} {e : TypeId} {fz : Nat × Nat}
    (hA : A κ = some (.co sz n)) (hτ : g.τ κ = .slice (some ⟨b, 0, none⟩) n cap) (hO : g.O b = some (.tok κ)) (hCn : ∀ j, n * sz ≤ j → g.C b j = none) (hh : w.heap[b]? = some (.cells vs e fz)) (hu : Unfz vs.size fz) (hcp : cap * sz ≤ vs.size)
    (hf : Flat g.C sz els us) (hfy : Flat g.C sz ys news) (hs : Szd sz els) (hsy : Szd sz ys) (hn : els.length = n) (hm' : ys.length = m) (hC : ∀ j v, us[j]? = some v → g.C b j = some v) (hroom : n + m ≤ cap) :
    ∃ g', MRel g' H (upd A κ (some (.co sz (n + m)))) (w.setCells b (n * sz) news) ∧ Evol g A w g' (upd A κ (some (.co sz (n + m)))) (w.setCells b (n * sz) news) ∧
      DRep g'.C (.sl (els ++ ys)) (.slice (some ⟨b, 0, none⟩) (n + m) cap) ∧ g'.τ κ = .slice (some ⟨b, 0, none⟩) (n + m) cap ∧ g'.β = g.β := by
  have hnl : news.length = m * sz := by rw [hfy.1, hm']
  have hsz1 : (n + m) * sz ≤ cap * sz := Nat.mul_le_mul_right _ hroom
  have hsum : (n + m) * sz = n * sz + m * sz := Nat.add_mul _ _ _
  have hfit : n * sz + news.length ≤ vs.size := by omega
  have hfit' : n * sz + news.length ≤ vs.toList.length := by simpa using hfit
  obtain ⟨s1, s2, s3, s4, s5, s6⟩ := setCells_heap b news (n * sz) w vs e fz hh hfit
  let g' : Gh := { g with C := fun b' o => if b' = b ∧ n * sz ≤ o ∧ o < (n + m) * sz then news[o - n * sz]? else g.C b' o, τ := upd g.τ κ (.slice (some ⟨b, 0, none⟩) (n + m) cap) }
  have hCm : ∀ b' o v, g.C b' o = some v → g'.C b' o = some v := fun b' o v hc => by
    simp only [g']
    split
    · rename_i h
      obtain ⟨rfl, h1, h2⟩ := h
      rw [hCn o h1] at hc
      cases hc
    · exact hc
  have hlt : b < w.heap.size := heap_lt hh
  have hTR : TokRep g' (w.setCells b (n * sz) news) κ (.co sz (n + m)) := by
    refine ⟨_, cap, upd_same _ _ _, hroom, .inr ⟨b, rfl, hO, fun j hj => ?_, _, e, fz, s1, ?_, ?_⟩⟩
    · simp only [g']
      rw [if_neg (by omega)]
      exact hCn j (by omega)
    · simpa [length_splice hfit'] using hu
    · simpa [length_splice hfit'] using hcp
  have hcom : ∀ b' o v, g'.C b' o = some v → (w.setCells b (n * sz) news).cell? ⟨b', o, none⟩ = some v := by
    intro b' o v hc
    simp only [g'] at hc
    split at hc
    · rename_i h
      obtain ⟨rfl, h1, h2⟩ := h
      refine cell_of_heap s1 ?_
      rw [List.getElem?_toArray, getElem?_splice hfit', if_neg (by omega), if_pos (by omega)]
      exact hc
    · rename_i h
      have h0 := hm.com b' o v hc
      by_cases hb : b' = b
      · subst hb
        obtain ⟨vs', e', fz', hh', hv'⟩ := cell_heap h0
        rw [hh] at hh'
        cases hh'
        refine cell_of_heap s1 ?_
        have ho : o < n * sz := by
          rcases Nat.lt_or_ge o (n * sz) with h | h
          · exact h
          · rw [hCn o h] at hc; cases hc
        rw [List.getElem?_toArray, getElem?_splice hfit', if_pos ho]
        simpa using hv'
      · rw [World.cell?_of_block (w := w) (s2 b' hb)]
        exact h0
  obtain ⟨m1, m2⟩ := tokstep (g' := g') (κ := κ) (ar' := .co sz (n + m)) (w' := w.setCells b (n * sz) news) hm rfl (fun κ' hk => upd_other _ _ hk) hCm
    (fun b' _ hb o => by
      have hne : b' ≠ b := fun e => by subst e; exact hb hO
      simp only [g']
      rw [if_neg (fun h => hne h.1)]) (fun _ _ => rfl) (fun b' o ho => by rw [s3]; exact hm.own b' o ho)
    (fun b' _ hb => s2 b' (fun e => by subst e; exact hb hO)) hcom
    (fun ar ha => by
      rw [hA] at ha
      cases ha
      refine ⟨rfl, ?_⟩
      rcases Nat.eq_zero_or_pos m with h0 | h0
      · subst h0
        exact .inl ⟨rfl, by rw [hτ]; exact (upd_same _ _ _).symm⟩
      · exact .inr (by omega)) hTR (by rw [s3]; exact Nat.le_refl _) s4 s5 s6
  refine ⟨g', m1, m2, ?_, upd_same _ _ _, rfl⟩
  refine DRep_of_flat (us := us ++ news) (sz := sz) (fun x hx => ?_) ((hf.append hfy).mono hCm) (by simp [hn, hm']) hroom (fun j hj => ?_)
  · rcases List.mem_append.1 hx with hx | hx
    · exact hs x hx
    · exact hsy x hx
  · have hul : us.length = n * sz := by rw [hf.1, hn]
    rw [Nat.zero_add]
    simp only [g']
    by_cases h : j < n * sz
    · rw [if_neg (by omega), List.getElem?_append, if_pos (by omega)]
      have := hC j us[j] (List.getElem?_eq_getElem (by omega))
      rw [this, List.getElem?_eq_getElem (by omega)]
    · rw [if_pos ⟨trivial, by omega, hj⟩, List.getElem?_append, if_neg (by omega), hul]
theorem room_mu (hm : MRel g H A w) {κ : Tok} {sz n m cap b : Nat} {els ys : List (List D)} {news : List Value} {vs : Array Value} {e : TypeId} {fz : Nat × Nat}
    (hA : A κ = some (.mu sz els)) (hτ : g.τ κ = .slice (some ⟨b, 0, none⟩) n cap) (hO : g.O b = some (.tok κ)) (hCn : ∀ j, g.C b j = none) (hh : w.heap[b]? = some (.cells vs e fz)) (hu : Unfz vs.size fz) (hcp : cap * sz ≤ vs.size)
    (hrep : ∀ i k e' x, els[i]? = some e' → e'[k]? = some x → ∃ u, vs[i * sz + k]? = some u ∧ DRep g.C x u)
    (hfy : Flat g.C sz ys news) (hs : Szd sz els) (hsy : Szd sz ys) (hn : els.length = n) (hm' : ys.length = m) (hroom : n + m ≤ cap) :
    ∃ g', MRel g' H (upd A κ (some (.mu sz (els ++ ys)))) (w.setCells b (n * sz) news) ∧ Evol g A w g' (upd A κ (some (.mu sz (els ++ ys)))) (w.setCells b (n * sz) news) ∧
      g'.τ κ = .slice (some ⟨b, 0, none⟩) (n + m) cap ∧ g'.β = g.β := by
  have hnl : news.length = m * sz := by rw [hfy.1, hm']
  have hsz1 : (n + m) * sz ≤ cap * sz := Nat.mul_le_mul_right _ hroom
  have hsum : (n + m) * sz = n * sz + m * sz := Nat.add_mul _ _ _
  have hfit : n * sz + news.length ≤ vs.size := by omega
  have hfit' : n * sz + news.length ≤ vs.toList.length := by simpa using hfit
  obtain ⟨s1, s2, s3, s4, s5, s6⟩ := setCells_heap b news (n * sz) w vs e fz hh hfit
  let g' : Gh := { g with τ := upd g.τ κ (.slice (some ⟨b, 0, none⟩) (n + m) cap) }
  have hlen : (els ++ ys).length = n + m := by simp [hn, hm']
  have hTR : TokRep g' (w.setCells b (n * sz) news) κ (.mu sz (els ++ ys)) := by
    refine ⟨fun x hx => ?_, some ⟨b, 0, none⟩, cap, by rw [hlen]; exact upd_same _ _ _, by omega, .inr ⟨b, rfl, hO, hCn, _, e, fz, s1, ?_, ?_, ?_⟩⟩
    · rcases List.mem_append.1 hx with hx | hx
      · exact hs x hx
      · exact hsy x hx
    · simpa [length_splice hfit'] using hu
    · simpa [length_splice hfit'] using hcp
    · intro i k e' x he hx
      rw [List.getElem?_append] at he
      rw [List.getElem?_toArray, getElem?_splice hfit']
      split at he
      · rename_i hi
        have hk : k < sz := by rw [← hs e' (List.mem_of_getElem? he)]; exact (List.getElem?_eq_some_iff.1 hx).1
        have := Nat.mul_le_mul_right sz (show i + 1 ≤ n by omega)
        rw [Nat.add_mul, Nat.one_mul] at this
        rw [if_pos (by omega)]
        simpa using hrep i k e' x he hx
      · rename_i hi
        obtain ⟨v, hv, hd⟩ := hfy.2.2 _ k e' x he hx
        have hvl := (List.getElem?_eq_some_iff.1 hv).1
        have hge : n * sz ≤ i * sz := Nat.mul_le_mul_right _ (by omega)
        rw [Nat.sub_mul] at hv hvl
        rw [hn] at hv hvl
        rw [if_neg (by omega), if_pos (by omega)]
        exact ⟨v, by rw [show i * sz + k - n * sz = i * sz - n * sz + k by omega]; exact hv, hd⟩
  obtain ⟨m1, m2⟩ := tokstep (g' := g') (κ := κ) (ar' := .mu sz (els ++ ys)) (w' := w.setCells b (n * sz) news) hm rfl (fun κ' hk => upd_other _ _ hk) (fun _ _ _ h => h)
    (fun _ _ _ _ => rfl) (fun _ _ => rfl) (fun b' o ho => by rw [s3]; exact hm.own b' o ho)
    (fun b' _ hb => s2 b' (fun e => by subst e; exact hb hO))
    (fun b' o v hc => by
      have hne : b' ≠ b := fun e => by subst e; rw [show g'.C b' o = g.C b' o from rfl, hCn] at hc; cases hc
      rw [World.cell?_of_block (w := w) (s2 b' hne)]
      exact hm.com b' o v hc)
    (fun ar ha => by
      rw [hA] at ha
      cases ha
      refine ⟨rfl, ?_⟩
      rcases Nat.eq_zero_or_pos m with h0 | h0
      · subst h0
        exact .inl ⟨by omega, by rw [hτ]; exact (upd_same _ _ _).symm⟩
      · exact .inr (by omega)) hTR (by rw [s3]; exact Nat.le_refl _) s4 s5 s6
  exact ⟨g', m1, m2, upd_same _ _ _, rfl⟩
theorem room_tv (hm : MRel g H A w) {κ : Tok} {sz n b cap : Nat} {els : List (List D)} {y : List D} {news : List Value} {vs : Array Value} {e : TypeId} {fz : Nat × Nat}
    (hA : A κ = some (.mu sz els)) (hτ : g.τ κ = .slice (some ⟨b, 0, none⟩) els.length cap) (hO : g.O b = some (.tok κ)) (hCn : ∀ j, g.C b j = none) (hh : w.heap[b]? = some (.cells vs e fz)) (hu : Unfz vs.size fz) (hcp : cap * sz ≤ vs.size) (hcl : els.length ≤ cap)
    (hrep : ∀ i k e' x, els[i]? = some e' → e'[k]? = some x → ∃ u, vs[i * sz + k]? = some u ∧ DRep g.C x u)
    (hfy : Flat g.C sz [y] news) (hs : Szd sz els) (hsy : Szd sz [y]) (hn : n < els.length) :
    MRel g H (upd A κ (some (.mu sz (els.set n y)))) (w.setCells b (n * sz) news) ∧ Evol g A w g (upd A κ (some (.mu sz (els.set n y)))) (w.setCells b (n * sz) news) := by
  have hnl : news.length = sz := by rw [hfy.1]; simp
  have hsz1 : (n + 1) * sz ≤ cap * sz := Nat.mul_le_mul_right _ (by omega)
  have hsum : (n + 1) * sz = n * sz + sz := by rw [Nat.add_mul, Nat.one_mul]
  have hfit : n * sz + news.length ≤ vs.size := by omega
  have hfit' : n * sz + news.length ≤ vs.toList.length := by simpa using hfit
  obtain ⟨s1, s2, s3, s4, s5, s6⟩ := setCells_heap b news (n * sz) w vs e fz hh hfit
  have hTR : TokRep g (w.setCells b (n * sz) news) κ (.mu sz (els.set n y)) := by
    refine ⟨fun x hx => ?_, some ⟨b, 0, none⟩, cap, by rw [List.length_set]; exact hτ, by rw [List.length_set]; exact hcl, .inr ⟨b, rfl, hO, hCn, _, e, fz, s1, ?_, ?_, ?_⟩⟩
    · rcases List.mem_or_eq_of_mem_set hx with hx | rfl
      · exact hs x hx
      · exact hsy _ (List.mem_singleton.2 rfl)
    · simpa [length_splice hfit'] using hu
    · simpa [length_splice hfit'] using hcp
    · intro i k e' x he hx
      rw [List.getElem?_set] at he
      rw [List.getElem?_toArray, getElem?_splice hfit']
      split at he
      · rename_i hi
        subst hi
        cases he
        obtain ⟨v, hv, hd⟩ := hfy.2.2 0 k y x rfl hx
        have hvl := (List.getElem?_eq_some_iff.1 hv).1
        rw [Nat.zero_mul, Nat.zero_add] at hv hvl
        rw [if_neg (by omega), if_pos (by omega)]
        exact ⟨v, by rw [show n * sz + k - n * sz = k by omega]; exact hv, hd⟩
      · rename_i hi
        have hk : k < sz := by rw [← hs e' (List.mem_of_getElem? he)]; exact (List.getElem?_eq_some_iff.1 hx).1
        have h0 := hrep i k e' x he hx
        rcases Nat.lt_or_gt_of_ne hi with h | h
        · have := Nat.mul_le_mul_right sz (show n + 1 ≤ i from h)
          rw [Nat.add_mul, Nat.one_mul] at this
          rw [if_neg (by omega), if_neg (by omega)]
          simpa using h0
        · have := Nat.mul_le_mul_right sz (show i + 1 ≤ n from h)
          rw [Nat.add_mul, Nat.one_mul] at this
          rw [if_pos (by omega)]
          simpa using h0
  exact tokstep (g' := g) (κ := κ) (ar' := .mu sz (els.set n y)) (w' := w.setCells b (n * sz) news) hm rfl (fun _ _ => rfl) (fun _ _ _ h => h)
    (fun _ _ _ _ => rfl) (fun _ _ => rfl) (fun b' o ho => by rw [s3]; exact hm.own b' o ho)
    (fun b' _ hb => s2 b' (fun e => by subst e; exact hb hO))
    (fun b' o v hc => by
      have hne : b' ≠ b := fun e => by subst e; rw [hCn] at hc; cases hc
      rw [World.cell?_of_block (w := w) (s2 b' hne)]
      exact hm.com b' o v hc)
    (fun ar ha => by
      rw [hA] at ha
      cases ha
      exact ⟨rfl, .inl ⟨by rw [List.length_set], rfl⟩⟩) hTR (by rw [s3]; exact Nat.le_refl _) s4 s5 s6
theorem same_tok (hm : MRel g H A w) {κ : Tok} {ar' : Arr} {u : Value} (hle : ∀ ar, A κ = some ar → TokLe ar (g.τ κ) ar' u) (hrep : ∀ g' : Gh, g'.τ κ = u → TokRep g' w κ ar') :
    ∃ g', MRel g' H (upd A κ (some ar')) w ∧ Evol g A w g' (upd A κ (some ar')) w ∧ g'.τ κ = u ∧ g'.β = g.β ∧ g'.C = g.C := by
  let g' : Gh := { g with τ := upd g.τ κ u }
  obtain ⟨m1, m2⟩ := tokstep (g' := g') (κ := κ) (ar' := ar') (w' := w) hm rfl (fun κ' hk => upd_other _ _ hk) (fun _ _ _ h => h) (fun _ _ _ _ => rfl) (fun _ _ => rfl) (fun b o ho => hm.own b o ho)
    (fun _ _ _ => rfl) (fun b o v hc => hm.com b o v hc) (fun ar ha => by rw [show g'.τ κ = u from upd_same _ _ _]; exact hle ar ha) (hrep g' (upd_same _ _ _)) (Nat.le_refl _) rfl rfl rfl
  exact ⟨g', m1, m2, upd_same _ _ _, rfl, rfl⟩
end Go.PW
