/-
  The abstract machine: a step that was reckoned on values is carried out in memory. Part two: stores and append.
-/
import Derived.Test.YtgpmdeembgohdaaPwG
namespace Go.PW
variable {P : Program} {g : Gh} {H : HMap} {A : AMap} {w : World}

theorem length_splice {α : Type} {cs ys : List α} {off : Nat} (h : off + ys.length ≤ cs.length) : (splice cs off ys).length = cs.length := by simp [splice]; omega

theorem getElem?_splice {α : Type} {cs ys : List α} {off : Nat} (h : off + ys.length ≤ cs.length) (k : Nat) :
    (splice cs off ys)[k]? = if k < off then cs[k]? else if k < off + ys.length then ys[k - off]? else cs[k]? := by
  unfold splice
  rw [List.append_assoc, List.getElem?_append]
  simp only [List.length_take, show min off cs.length = off by omega]
  by_cases h1 : k < off
  · rw [if_pos h1, if_pos h1, List.getElem?_take, if_pos h1]
  · rw [if_neg h1, if_neg h1, List.getElem?_append]
    by_cases h2 : k < off + ys.length
    · rw [if_pos h2, if_pos (by omega)]
    · rw [if_neg h2, if_neg (by omega), List.getElem?_drop]
      congr 1
      omega

theorem DomOK.upd {id : Nat} {cs : List CV} (hd : DomOK g H) (_h : H id ≠ none) : DomOK g (upd H id (some cs)) := by
  intro i hi
  by_cases hii : i = id
  · subst hii; rw [upd_same] at hi; cases hi
  · rw [upd_other _ _ hii] at hi; exact hd i hi

theorem Evol.blocks {g' : Gh} {A' : AMap} {w' : World} (hM : Mono g A g' A') (b : Nat) (hb : g.O b ≠ none) (h1 : ∀ k, k ≠ b → w'.heap[k]? = w.heap[k]?) (h2 : w'.heap.size = w.heap.size) (hO : g'.O = g.O)
    (hC : ∀ k, k ≠ b → ∀ o, g'.C k o = g.C k o) (h3 : w'.os = w.os) (h4 : w'.tape = w.tape) (h5 : w'.output = w.output) : Evol g A w g' A' w' :=
  ⟨hM, fun k _ ho => h1 k (fun e => hb (e ▸ ho)), fun k _ ho => by rw [hO]; exact ho, fun k _ ho o => hC k (fun e => hb (e ▸ ho)) o, by rw [h2]; exact Nat.le_refl _, h3, h4, h5⟩

theorem store_ok (hm : MRel g H A w) (hd : DomOK g H) {fb : Option (List Nat)} {T : TypeId} {a x : PV} {u y : Value} {H' : HMap} {A' : AMap} (ha : PRep g A a u) (hx : PRep g A x y) (hT : ∃ i, P.info? T = some i ∧ i.size = P.cellsOf T)
    (h : storeS P fb H A T a x = some (H', A')) :
    ∃ w', (Instr.storeAt T u y).run P w = .ok () w' ∧ MRel g H' A' w' ∧ Evol g A w g A' w' ∧ DomOK g H' := by
  unfold storeS at h
  rw [Option.bind_eq_some_iff] at h
  obtain ⟨ys, hys, h⟩ := h
  have hyr := cellsP_rep hx hys
  split at h
  · rename_i hc
    obtain ⟨hsz, hkn⟩ := hc
    have h1 := all_known hyr hkn
    have hl1 : y.cells.size = ys.length := by rw [← Array.length_toList]; exact hyr.1
    split at h
    · rename_i id off
      obtain ⟨cs, hcs, h⟩ := Option.bind_eq_some_iff.1 h
      split at h
      · rename_i hlen
        simp only [Option.some.injEq, Prod.mk.injEq] at h
        obtain ⟨rfl, rfl⟩ := h
        obtain ⟨b, hb, rfl⟩ := ha
        obtain ⟨ho, hC, cs', vs, e, fz, hH, hh, hu, hrep⟩ := hm.var id b hb
        rw [hcs] at hH
        cases hH
        have hvs : vs.size = cs.length := by rw [← Array.length_toList]; exact hrep.1
        have hfit : off + y.cells.size ≤ vs.size := by omega
        obtain ⟨s1, s2, s3, s4, s5, s6⟩ := setCells_heap b y.cells.toList off w vs e fz hh (by rw [Array.length_toList]; exact hfit)
        refine ⟨w.setCells b off y.cells.toList, run_storeVar' hT (by omega) hh hu hfit h1, ⟨?_, ?_, ?_, ?_⟩, ?_, hd.upd (by rw [hcs]; simp)⟩
        · intro b' o v hc
          have hne : b' ≠ b := fun e => by subst e; rw [hC] at hc; cases hc
          have := hm.com b' o v hc
          rwa [World.cell?_of_block (w := w) (s2 b' hne)]
        · intro i b' hb'
          by_cases hi : i = id
          · subst hi
            rw [hb] at hb'
            cases hb'
            refine ⟨ho, hC, _, _, e, fz, upd_same _ _ _, s1, by simpa [length_splice (cs := vs.toList) (ys := y.cells.toList) (off := off) (by simpa using hfit)] using hu, ?_⟩
            simpa using hrep.splice hyr off (by omega)
          · obtain ⟨ho', hC', cs', vs', e', fz', hH', hh', hu', hr'⟩ := hm.var i b' hb'
            have hne : b' ≠ b := fun e => by subst e; rw [ho] at ho'; cases ho'; exact hi rfl
            exact ⟨ho', hC', cs', vs', e', fz', by rw [upd_other _ _ hi]; exact hH', by rw [s2 b' hne]; exact hh', hu', hr'⟩
        · intro κ ar hA
          refine (hm.tok κ ar hA).frame rfl (fun _ _ _ h => h) (fun b' ho' => ?_)
          have hne : b' ≠ b := fun e => by subst e; rw [ho] at ho'; cases ho'
          exact ⟨ho', s2 b' hne, fun _ => rfl⟩
        · intro b' o h'
          rw [s3]; exact hm.own b' o h'
        · exact .blocks (.refl _ _) b (by rw [ho]; simp) s2 s3 rfl (fun _ _ _ => rfl) s4 s5 s6
      · cases h
    · split at h
      · cases h
      · split at h
        · rename_i κ sz n i off _ _ sz' els hA
          split at h
          · rename_i hn
            obtain ⟨rfl, rfl⟩ := hn
            obtain ⟨e, he, h⟩ := Option.bind_eq_some_iff.1 h
            obtain ⟨ds, hds, h⟩ := Option.bind_eq_some_iff.1 h
            split at h
            · rename_i hlen
              simp only [Option.some.injEq, Prod.mk.injEq] at h
              obtain ⟨rfl, rfl⟩ := h
              obtain ⟨b, els', rfl, hA', hle, hcap⟩ := ha
              rw [hA] at hA'
              cases hA'
              obtain ⟨cap, hτ⟩ := hcap rfl
              obtain ⟨hs, a, cap', e1, e2, e3⟩ := hm.tok κ _ hA
              rw [hτ] at e1
              cases e1
              have hlt : i < els.length := (List.getElem?_eq_some_iff.1 he).1
              have hel : e.length = sz' := hs e (List.mem_of_getElem? he)
              rcases e3 with e3 | ⟨b', hb', ho, hC, vs, te, fz, hh, hu, hcp, hrep⟩
              · omega
              · cases hb'
                obtain ⟨d1, d2⟩ := toDs_rep (g := g) (A := A) hds
                have hmul : (i + 1) * sz' ≤ cap * sz' := Nat.mul_le_mul_right _ (by omega)
                rw [Nat.add_mul, Nat.one_mul] at hmul
                have hfit : i * sz' + off + y.cells.size ≤ vs.size := by omega
                have hfit' : i * sz' + off + y.cells.toList.length ≤ vs.toList.length := by simpa using hfit
                obtain ⟨s1, s2, s3, s4, s5, s6⟩ := setCells_heap b y.cells.toList (i * sz' + off) w vs te fz hh (by rw [Array.length_toList]; exact hfit)
                have hM : Mono g A g (upd A κ (some (.mu sz' (els.set i (splice e off ds))))) := ⟨fun _ _ _ h => h, fun _ _ h => h, fun κ' ar hq => by
                  by_cases hk : κ' = κ
                  · subst hk
                    rw [hA] at hq
                    cases hq
                    exact ⟨.mu sz' (els.set i (splice e off ds)), upd_same _ _ _, rfl, .inl ⟨by simp, rfl⟩⟩
                  · exact ⟨ar, by rw [upd_other _ _ hk]; exact hq, .refl _ _⟩⟩
                refine ⟨w.setCells b (i * sz' + off) y.cells.toList, run_storeVar' hT (by omega) hh hu hfit h1, ⟨?_, ?_, ?_, ?_⟩, ?_, hd⟩
                · intro b' o v hc
                  have hne : b' ≠ b := fun e => by subst e; rw [hC] at hc; cases hc
                  have := hm.com b' o v hc
                  rwa [World.cell?_of_block (w := w) (s2 b' hne)]
                · intro j b' hb'
                  obtain ⟨ho', hC', cs', vs', e', fz', hH', hh', hu', hr'⟩ := hm.var j b' hb'
                  have hne : b' ≠ b := fun e => by subst e; rw [ho] at ho'; cases ho'
                  exact ⟨ho', hC', cs', vs', e', fz', hH', by rw [s2 b' hne]; exact hh', hu', hr'.mono hM⟩
                · intro κ' ar hA'
                  by_cases hk : κ' = κ
                  · subst hk
                    rw [upd_same] at hA'
                    cases hA'
                    refine ⟨?_, some ⟨b, 0, none⟩, cap, by rw [hτ]; simp, by simpa using e2, .inr ⟨b, rfl, ho, hC, _, te, fz, s1, ?_, ?_, ?_⟩⟩
                    · intro c hc
                      rcases List.mem_or_eq_of_mem_set hc with hc | rfl
                      · exact hs c hc
                      · rw [length_splice (by omega)]; exact hel
                    · simpa [length_splice hfit'] using hu
                    · simpa [length_splice hfit'] using hcp
                    · intro i' k e' x' he' hx'
                      rw [List.getElem?_set] at he'
                      simp only [List.getElem?_toArray, getElem?_splice hfit', Array.length_toList]
                      by_cases hii : i = i'
                      · subst hii
                        simp only [if_true, hlt] at he'
                        cases he'
                        rw [getElem?_splice (by omega)] at hx'
                        by_cases k1 : k < off
                        · rw [if_pos k1] at hx'
                          rw [if_pos (by omega)]
                          simpa using hrep i k e x' he hx'
                        · rw [if_neg k1] at hx'
                          rw [if_neg (by omega)]
                          by_cases k2 : k < off + ds.length
                          · rw [if_pos k2] at hx'
                            rw [if_pos (by omega)]
                            obtain ⟨c, hcc, hrc⟩ := d2 _ _ hx'
                            obtain ⟨v, hv, hcr⟩ := hyr.2 _ _ hcc
                            exact ⟨v, by rw [show i * sz' + k - (i * sz' + off) = k - off by omega]; exact hv, hrc v hcr⟩
                          · rw [if_neg k2] at hx'
                            rw [if_neg (by omega)]
                            simpa using hrep i k e x' he hx'
                      · rw [if_neg hii] at he'
                        have hk' : k < sz' := by rw [← hs e' (List.mem_of_getElem? he')]; exact (List.getElem?_eq_some_iff.1 hx').1
                        have hout : i' * sz' + k < i * sz' + off ∨ i * sz' + off + y.cells.size ≤ i' * sz' + k := by
                          rcases Nat.lt_or_gt_of_ne hii with hii | hii
                          · right
                            have := Nat.mul_le_mul_right sz' (show i + 1 ≤ i' from hii)
                            rw [Nat.add_mul, Nat.one_mul] at this
                            omega
                          · left
                            have := Nat.mul_le_mul_right sz' (show i' + 1 ≤ i from hii)
                            rw [Nat.add_mul, Nat.one_mul] at this
                            omega
                        have := hrep i' k e' x' he' hx'
                        rcases hout with h' | h'
                        · rw [if_pos h']; simpa using this
                        · rw [if_neg (by omega), if_neg (by omega)]; simpa using this
                  · rw [upd_other _ _ hk] at hA'
                    refine (hm.tok κ' ar hA').frame rfl (fun _ _ _ h => h) (fun b' ho' => ?_)
                    have hne : b' ≠ b := fun e => by subst e; rw [ho] at ho'; cases ho'; exact hk rfl
                    exact ⟨ho', s2 b' hne, fun _ => rfl⟩
                · intro b' o h'
                  rw [s3]; exact hm.own b' o h'
                · exact .blocks hM b (by rw [ho]; simp) s2 s3 rfl (fun _ _ _ => rfl) s4 s5 s6
            · cases h
          · cases h
        · cases h
    · cases h
  · cases h

end Go.PW
