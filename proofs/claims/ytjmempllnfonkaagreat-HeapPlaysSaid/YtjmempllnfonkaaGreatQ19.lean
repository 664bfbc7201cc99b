/-
  Parts of the proof, laid together: PwDf, PwDg, PwGa, PwGb.
-/
import Derived.Test.YtjmempllnfonkaaGreatQ18
import Derived.Defers
import Derived.Recover
import Derived.Laws.Build

namespace Go.PW
theorem im_same {f : Nat → Nat} {h : Tok → Tok} {hk : Nat → Prop} {tk : Tok → Prop} (h1 : ∀ i, hk i → f i = i) (h2 : ∀ κ, tk κ → h κ = κ) {c : CV} (hc : c.ok hk tk) : c.im f h = c := by
  cases c with
  | own κ els => show CV.own (h κ) els = _; rw [h2 κ hc]
  | mt κ sz n => show CV.mt (h κ) sz n = _; rw [h2 κ hc]
  | tv κ sz n L => show CV.tv (h κ) sz n L = _; rw [h2 κ hc]
  | mptr κ sz n i o => show CV.mptr (h κ) sz n i o = _; rw [h2 κ hc]
  | ptr id o => show CV.ptr (f id) o = _; rw [h1 id hc]
  | fn k caps =>
    show CV.fn k (caps.map fun p => (f p.1, p.2)) = _
    congr 1
    refine (List.map_congr_left fun p hp => ?_).trans (List.map_id caps)
    show (f p.1, p.2) = p
    rw [h1 _ (hc p hp)]
  | mpr κ => show CV.mpr (h κ) = _; rw [h2 κ hc]
  | vsl id n => show CV.vsl (f id) n = _; rw [h1 id hc]
  | bfn k fst caps =>
    have key : ∀ l : List (Nat × Nat), (∀ p ∈ l, hk p.1) → (l.map fun p => (f p.1, p.2)) = l := fun l hl => by
      refine (List.map_congr_left fun p hp => ?_).trans (List.map_id l)
      show (f p.1, p.2) = p
      rw [h1 _ (hl p hp)]
    show CV.bfn k (fst.map fun p => (f p.1, p.2)) (caps.map fun p => (f p.1, p.2)) = _
    rw [key fst hc.1, key caps hc.2]
  | _ => rfl
def swp (id i' : Nat) (i : Nat) : Nat := if i = id then i' else i
theorem RetR_obj {P : Program} {fn : Func} {H H1 : HMap} {A A1 A' A'' : AMap} {v p : PV} {S : St} {id i' : Nat} {cs ds : List CV} {h : Tok → Tok} (hp : resPVs P S fn.results.toList = some p)
    (hv : PV.wk (upd H1 i' (some (cs.map (CV.im (swp id i') h)))) S.A A'' (v.im (swp id i') h) p) (hok : v.oks (fun i => upd H1 id (some cs) i ≠ none) (fun κ => A' κ ≠ none)) (hw : Wf H1 A1) (k1 : ∀ i, H i ≠ none → H1 i ≠ none) (k2 : ∀ κ, A κ ≠ none → A1 κ ≠ none)
    (hid : H1 id = none) (hi' : H1 i' = none) (hcok : ∀ c ∈ cs, c.ok (fun i => upd H1 id (some cs) i ≠ none) (fun κ => A' κ ≠ none))
    (hS : ∀ i es, H1 i = some es → ∃ ds, S.H i = some ds ∧ wkCells (upd H1 i' (some (cs.map (CV.im (swp id i') h)))) S.A A'' es ds) (hSi : S.H i' = some ds) (hSw : wkCells (upd H1 i' (some (cs.map (CV.im (swp id i') h)))) S.A A'' (cs.map (CV.im (swp id i') h)) ds)
    (hh : ∀ κ, A1 κ ≠ none → h κ = κ ∧ A' κ ≠ none) (hA : ∀ κ ar, A' κ = some ar → A'' (h κ) = some ar) (iA : ∀ i j, A' i ≠ none → A' j ≠ none → h i = h j → i = j)
    (hSA : ∀ κ, A'' κ = none ∨ A'' κ = S.A κ ∨ (S.A κ = none ∧ ∃ sz, A'' κ = some (.co sz 0) ∨ A'' κ = some (.mu sz []))) : RetR P fn H A v (upd H1 id (some cs)) A' S := by
  have hne : ∀ i, H1 i ≠ none → i ≠ id ∧ i ≠ i' := fun i hi => ⟨fun e => hi (by rw [e]; exact hid), fun e => hi (by rw [e]; exact hi')⟩
  have hsw : ∀ i, H1 i ≠ none → swp id i' i = i := fun i hi => if_neg (hne i hi).1
  have kk : ∀ i, H1 i ≠ none → upd H1 id (some cs) i ≠ none := fun i hi => by rw [upd_other _ _ (hne i hi).1]; exact hi
  refine ⟨p, ⟨fun _ => v.im (swp id i') h, upd H1 i' (some (cs.map (CV.im (swp id i') h))), A''⟩, swp id i', h, hp, ⟨fun _ => hv, fun i => ?_, hSA, fun i hi => ?_, fun κ hκ => ?_⟩, rfl, hok, ⟨fun i hi => ⟨hsw i (k1 i hi), kk i (k1 i hi)⟩, fun κ hκ => hh κ (k2 κ hκ), ?_, iA, ?_, hA⟩⟩
  · show upd H1 i' _ i = none ∨ _
    by_cases e : i = i'
    · subst e
      obtain ⟨h3, h4⟩ := wkCells_spec hSw
      exact .inr ⟨_, ds, upd_same _ _ _, hSi, h3, h4⟩
    · cases hi : H1 i with
      | none => exact .inl (by rw [upd_other _ _ e]; exact hi)
      | some es =>
        obtain ⟨ds', h1, h2⟩ := hS i es hi
        obtain ⟨h3, h4⟩ := wkCells_spec h2
        exact .inr ⟨es, ds', by show upd H1 i' _ i = _; rw [upd_other _ _ e]; exact hi, h1, h3, h4⟩
  · show upd H1 i' _ i ≠ none
    rw [upd_other _ _ (hne i (k1 i hi)).2]
    exact k1 i hi
  · show A'' κ ≠ none
    obtain ⟨h1, h2⟩ := hh κ (k2 κ hκ)
    cases hc : A' κ with
    | none => exact (h2 hc).elim
    | some ar => have := hA κ ar hc; rw [h1] at this; rw [this]; simp
  · intro i j hi hj e
    have val : ∀ i, upd H1 id (some cs) i ≠ none → (i = id ∧ swp id i' i = i') ∨ (H1 i ≠ none ∧ swp id i' i = i) := fun i hi => by
      by_cases e : i = id
      · exact .inl ⟨e, if_pos e⟩
      · rw [upd_other _ _ e] at hi
        exact .inr ⟨hi, if_neg e⟩
    rcases val i hi with ⟨a1, a2⟩ | ⟨a1, a2⟩ <;> rcases val j hj with ⟨b1, b2⟩ | ⟨b1, b2⟩ <;> rw [a2, b2] at e
    · rw [a1, b1]
    · exact ((hne j b1).2 e.symm).elim
    · exact ((hne i a1).2 e).elim
    · exact e
  · intro j es hj
    show upd H1 i' _ (swp id i' j) = _ ∧ _
    by_cases e : j = id
    · subst e
      rw [upd_same] at hj
      cases hj
      exact ⟨by rw [show swp j i' j = i' from if_pos rfl, upd_same], hcok⟩
    · rw [upd_other _ _ e] at hj
      have hj' : H1 j ≠ none := by rw [hj]; simp
      have hes : ∀ c ∈ es, c.ok (fun i => H1 i ≠ none) (fun κ => A1 κ ≠ none) := fun c hc => hw j es c hj hc
      refine ⟨?_, fun c hc => ok_mono kk (fun κ hκ => (hh κ hκ).2) (hes c hc)⟩
      rw [hsw j hj', upd_other _ _ (hne j hj').2, hj]
      congr 1
      exact ((List.map_congr_left fun c hc => im_same hsw (fun κ hκ => (hh κ hκ).1) (hes c hc)).trans (List.map_id es)).symm
def swt (κ a : Tok) (τ : Tok) : Tok := if τ = κ then a else τ
theorem tok1 {A : AMap} {κ a : Tok} {r : Arr} (h1 : A κ = none) (h2 : A a = none) : (∀ τ, A τ ≠ none → swt κ a τ = τ ∧ upd A κ (some r) τ ≠ none) ∧ (∀ τ ar, upd A κ (some r) τ = some ar → upd A a (some r) (swt κ a τ) = some ar) ∧
    (∀ i j, upd A κ (some r) i ≠ none → upd A κ (some r) j ≠ none → swt κ a i = swt κ a j → i = j) := by
  have n1 : ∀ τ, A τ ≠ none → τ ≠ κ ∧ τ ≠ a := fun τ h => ⟨fun e => h (by rw [e]; exact h1), fun e => h (by rw [e]; exact h2)⟩
  have val : ∀ i, upd A κ (some r) i ≠ none → (i = κ ∧ swt κ a i = a) ∨ (A i ≠ none ∧ swt κ a i = i) := fun i hi => by
    by_cases e : i = κ
    · exact .inl ⟨e, if_pos e⟩
    · rw [upd_other _ _ e] at hi
      exact .inr ⟨hi, if_neg e⟩
  refine ⟨fun τ h => ⟨if_neg (n1 τ h).1, by rw [upd_other _ _ (n1 τ h).1]; exact h⟩, fun τ ar h => ?_, fun i j hi hj e => ?_⟩
  · rcases val τ (by rw [h]; simp) with ⟨b1, b2⟩ | ⟨b1, b2⟩
    · rw [b2, upd_same]; rw [b1, upd_same] at h; exact h
    · rw [b2, upd_other _ _ (n1 τ b1).2]; rw [upd_other _ _ (n1 τ b1).1] at h; exact h
  · rcases val i hi with ⟨a1, a2⟩ | ⟨a1, a2⟩ <;> rcases val j hj with ⟨b1, b2⟩ | ⟨b1, b2⟩ <;> rw [a2, b2] at e
    · rw [a1, b1]
    · exact ((n1 j b1).2 e.symm).elim
    · exact ((n1 i a1).2 e).elim
    · exact e
theorem tok2 {A : AMap} {κ1 κ2 a1 a2 : Tok} {r1 r2 : Arr} (h1 : A κ1 = none) (h2 : A κ2 = none) (h3 : A a1 = none) (h4 : A a2 = none) (n1 : κ1 ≠ κ2) (n2 : a1 ≠ a2) : ∃ h : Tok → Tok, h κ1 = a1 ∧ h κ2 = a2 ∧ (∀ τ, A τ ≠ none → h τ = τ ∧ upd (upd A κ1 (some r1)) κ2 (some r2) τ ≠ none) ∧
    (∀ τ ar, upd (upd A κ1 (some r1)) κ2 (some r2) τ = some ar → upd (upd A a1 (some r1)) a2 (some r2) (h τ) = some ar) ∧
    (∀ i j, upd (upd A κ1 (some r1)) κ2 (some r2) i ≠ none → upd (upd A κ1 (some r1)) κ2 (some r2) j ≠ none → h i = h j → i = j) := by
  have e1 : (fun τ => if τ = κ1 then a1 else if τ = κ2 then a2 else τ) κ1 = a1 := if_pos rfl
  have e2 : (fun τ => if τ = κ1 then a1 else if τ = κ2 then a2 else τ) κ2 = a2 := by show (if κ2 = κ1 then a1 else if κ2 = κ2 then a2 else κ2) = a2; rw [if_neg n1.symm, if_pos rfl]
  have e3 : ∀ τ, A τ ≠ none → (fun τ => if τ = κ1 then a1 else if τ = κ2 then a2 else τ) τ = τ := fun τ h => by
    show (if τ = κ1 then a1 else if τ = κ2 then a2 else τ) = τ
    rw [if_neg (fun e => h (by rw [e]; exact h1)), if_neg (fun e => h (by rw [e]; exact h2))]
  generalize (fun τ => if τ = κ1 then a1 else if τ = κ2 then a2 else τ) = h at *
  have ne : ∀ τ, A τ ≠ none → τ ≠ κ1 ∧ τ ≠ κ2 ∧ τ ≠ a1 ∧ τ ≠ a2 := fun τ h => ⟨fun e => h (by rw [e]; exact h1), fun e => h (by rw [e]; exact h2), fun e => h (by rw [e]; exact h3), fun e => h (by rw [e]; exact h4)⟩
  have val : ∀ i, upd (upd A κ1 (some r1)) κ2 (some r2) i ≠ none → i = κ1 ∨ i = κ2 ∨ A i ≠ none := fun i hi => by
    by_cases e : i = κ2
    · exact .inr (.inl e)
    · rw [upd_other _ _ e] at hi
      by_cases e' : i = κ1
      · exact .inl e'
      · rw [upd_other _ _ e'] at hi
        exact .inr (.inr hi)
  refine ⟨h, e1, e2, fun τ hτ => ⟨e3 τ hτ, by rw [upd_other _ _ (ne τ hτ).2.1, upd_other _ _ (ne τ hτ).1]; exact hτ⟩, fun τ ar hτ => ?_, fun i j hi hj e => ?_⟩
  · rcases val τ (by rw [hτ]; simp) with b | b | b
    · subst b
      rw [e1, upd_other _ _ n2, upd_same]
      rw [upd_other _ _ n1, upd_same] at hτ; exact hτ
    · subst b
      rw [e2, upd_same]
      rw [upd_same] at hτ; exact hτ
    · rw [e3 τ b, upd_other _ _ (ne τ b).2.2.2, upd_other _ _ (ne τ b).2.2.1]
      rw [upd_other _ _ (ne τ b).2.1, upd_other _ _ (ne τ b).1] at hτ; exact hτ
  · rcases val i hi with b | b | b <;> rcases val j hj with c | c | c
    · rw [b, c]
    · rw [b, c, e1, e2] at e; exact (n2 e).elim
    · rw [b, e1, e3 j c] at e; exact ((ne j c).2.2.1 e.symm).elim
    · rw [b, c, e1, e2] at e; exact (n2 e.symm).elim
    · rw [b, c]
    · rw [b, e2, e3 j c] at e; exact ((ne j c).2.2.2 e.symm).elim
    · rw [c, e1, e3 i b] at e; exact ((ne i b).2.2.1 e).elim
    · rw [c, e2, e3 i b] at e; exact ((ne i b).2.2.2 e).elim
    · rw [e3 i b, e3 j c] at e; exact e
theorem wk_pairP {H' : HMap} {A A' : AMap} {id : Nat} {y : D} (h : H' id ≠ none) : PV.wk H' A A' (.tup [.c (.ptr id 0), .c (.d y)]) (.tup [.c (.ptr id 0), .c (.d y)]) := by
  refine ⟨rfl, fun k a b h1 h2 => ?_⟩
  rw [h1] at h2
  cases h2
  match k, h1 with
  | 0, e => cases e; exact .inr (.inl ⟨rfl, h⟩)
  | 1, e => cases e; exact .inr (.inl ⟨rfl, True.intro⟩)
theorem oks_pairP {hk : Nat → Prop} {tk : Tok → Prop} {id : Nat} {y : D} (h : hk id) : PV.oks hk tk (.tup [.c (.ptr id 0), .c (.d y)]) := fun z hz => by
  rcases List.mem_cons.1 hz with rfl | hz
  · exact h
  · rw [List.mem_singleton.1 hz]; exact True.intro
end Go.PW
namespace Go.Proofs
open Go.PW
def newD (n : Nat) : Dk := ⟨n, [], [], 0, 0, false, 0⟩
section disk
variable {H : HMap} {A : AMap} {id : Nat} {κm κc κ' : Tok} {d : Dk}
set_option maxRecDepth 8000 in
set_option maxHeartbeats 16000000 in
theorem Tryz.kDiskNew (off : Nat) (hw : Wf H A) (n : Nat) (h1 : 1 ≤ n) (h2 : n ≤ 4096) (hid : H id = none) (hκm : A κm = none) (hκc : A κc = none) (hne : κm ≠ κc) :
    EffOK Tryz.prog 4 off H A [pD (.lit (.int .i64 n))] (.tup [.c (.ptr id 0), .c (.d (.lit (.int .i64 0)))]) (upd H id (some (encDk κm κc (newD n)))) (upd (upd A κm (some (.mp []))) κc (some (.co 2 0))) := by
  refine effr_ok (E := envOf Tryz.prog [] off [] []) (envOf_ok Tryz.mixed) Tryz.func4 rfl Tryz.call4 (by kernel_rfl) (by exact Nat.le_of_ble_eq_true rfl) (fun hab => ?_)
  have hc1 : ((n : Int) < 1) = False := eq_false (by omega)
  have hc2 : ((4096 : Int) < (n : Int)) = False := eq_false (by omega)
  have hi' : H (off + 13) = none := (hab _ (Nat.le_add_right _ _)).1
  have ha1 : A (off + 11, 0) = none := (hab _ (Nat.le_add_right _ _)).2 _
  have ha2 : A (off + 12, 0) = none := (hab _ (Nat.le_add_right _ _)).2 _
  have han : ((off + 11, 0) : Tok) ≠ (off + 12, 0) := fun e => by cases e
  repeat' (first
   |with_reducible first|refine vSq fun K hK=>?_|refine vRg ?_|refine vBl ?_|refine vSc ?_|refine vIf ?_|refine vSk ?_|refine vEx ?_|refine vRt ?_
   |(with_reducible first|refine gNt (fun h=>?_) (fun h=>?_)|refine gCs (fun h=>?_) (fun h=>?_))<;>(try simp only[h])
   |refine And.intro ha1 (And.intro hi' ?_)
   |with_reducible first|(refine hK _ ?_;clear hK K)|(clear hK K;refine hK _ ?_;clear hK K)|(clear hK K;clear hK K;refine hK _ ?_;clear hK K)|(clear hK K;clear hK K;clear hK K;refine hK _ ?_;clear hK K)
   |(with_reducible refine todo ?_;simp +decide only[go_sem, hc1, hc2]))
  obtain ⟨h, e1, e2, t1, t2, t3⟩ := tok2 (r1 := .mp []) (r2 := .co 2 0) hκm hκc ha1 ha2 hne han
  have hm1 : upd (upd A κm (some (.mp []))) κc (some (.co 2 0)) κm ≠ none := by rw [upd_other _ _ hne, upd_same]; simp
  have hc1 : upd (upd A κm (some (.mp []))) κc (some (.co 2 0)) κc ≠ none := by rw [upd_same]; simp
  have him : (encDk κm κc (newD n)).map (CV.im (swp id (off + 13)) h) = encDk (off + 11, 0) (off + 12, 0) (newD n) := by
    show [_, CV.mpr (h κm), CV.own (h κc) _, _, _, _, _] = _
    rw [e1, e2]; rfl
  have hSκ : upd (upd A (off + 11, 0) (some (.mp []))) (off + 12, 0) (some (.co 2 0)) (off + 12, 0) = some (.co 2 0) := upd_same _ _ _
  have hSm : upd (upd A (off + 11, 0) (some (.mp []))) (off + 12, 0) (some (.co 2 0)) (off + 11, 0) = some (.mp []) := by rw [upd_other _ _ han, upd_same]
  refine RetR_obj (H1 := H) (A1 := A) (A'' := upd (upd A (off + 11, 0) (some (.mp []))) (off + 12, 0) (some (.co 2 0))) (i' := off + 13) (h := h) (ds := encDkF (off + 11, 0) (newD n)) rfl ?_ (oks_pairP (by rw [upd_same]; simp)) hw (fun _ h => h) (fun _ h => h) hid hi' (DkAt.ok (H := upd H id _) hm1 hc1) ?_ ?_ ?_ t1 t2 t3 ?_
  · show PV.wk _ _ _ (.tup [.c (.ptr (swp id (off + 13) id) 0), _]) _
    rw [show swp id (off + 13) id = off + 13 from if_pos rfl]
    exact wk_pairP (by rw [upd_same]; simp)
  · intro i es hi
    have hne : i ≠ off + 13 := fun e => by rw [e, hi'] at hi; cases hi
    refine ⟨es, by show upd _ _ _ _ = _; rw [upd_other _ _ hne]; exact hi, wkC_same fun c hc => ok_mono (fun j hj => ?_) (fun κ hκ => ?_) (hw i es c hi hc)⟩
    · rw [upd_apply']; split
      · simp
      · exact hj
    · have n1 : κ ≠ (off + 11, 0) := fun e => hκ (by rw [e]; exact ha1)
      have n2 : κ ≠ (off + 12, 0) := fun e => hκ (by rw [e]; exact ha2)
      refine ⟨by rw [upd_other _ _ n2, upd_other _ _ n1]; exact hκ, ?_⟩
      show _ = upd A _ _ κ
      rw [upd_other _ _ n2]
  · show upd _ _ _ _ = _
    rw [upd_same]; rfl
  · rw [him]
    refine ⟨?_, ?_, ?_, ?_, ?_, ?_, ?_, True.intro⟩
    · rw [wk_d]; exact True.intro
    · exact .inr (.inl ⟨rfl, by rw [hSm]; simp, by rw [hSm]; exact (upd_same _ _ _).symm⟩)
    · exact .inr (.inr (.inr (.inl ⟨rfl, (off + 12, 0), 2, rfl, by show upd _ _ _ _ = _; rw [upd_other _ _ han.symm]; exact ha2, hSκ⟩)))
    · rw [wk_d]; exact True.intro
    · rw [wk_d]; exact True.intro
    · rw [wk_d]; exact True.intro
    · rw [wk_d]; exact True.intro
  · intro κ
    by_cases e : κ = (off + 12, 0)
    · subst e
      exact .inr (.inr ⟨by show upd _ _ _ _ = _; rw [upd_other _ _ han.symm]; exact ha2, 2, .inl hSκ⟩)
    · exact .inr (.inl (by rw [upd_other _ _ e]))
end disk
end Go.Proofs

namespace Go.PW
def aOver : List (Tok × Arr) → AMap → AMap
  | [], A, t => A t
  | (u, x) :: r, A, t => if t = u then some x else aOver r A t
def overA (l : List (Nat × PV)) (h : List (Nat × List CV)) (a : List (Tok × Arr)) (H : HMap) (A : AMap) : St := ⟨rhoOf l, hOver h H, aOver a A⟩
@[go_sem] theorem aOver_nil {A : AMap} {t : Tok} : aOver [] A t = A t := rfl
@[go_sem] theorem aOver_cons {A : AMap} {t u : Tok} {x : Arr} {r : List (Tok × Arr)} : aOver ((u, x) :: r) A t = if t = u then some x else aOver r A t := rfl
@[go_sem] theorem overA_eq (l : List (Nat × PV)) (h : List (Nat × List CV)) (a : List (Tok × Arr)) (H : HMap) (A : AMap) : overA l h a H A = ⟨rhoOf l, hOver h H, aOver a A⟩ := rfl
theorem aOver_hd {A : AMap} {κ : Tok} {x : Arr} {r : List (Tok × Arr)} : aOver ((κ, x) :: r) A κ = some x := if_pos rfl
theorem aOver_old {A : AMap} {κ : Tok} (h : A κ ≠ none) : ∀ {a : List (Tok × Arr)}, (∀ p ∈ a, A p.1 = none) → aOver a A κ = A κ
  | [], _ => rfl
  | p :: r, hf => by
    show (if κ = p.1 then some p.2 else aOver r A κ) = _
    rw [if_neg (fun e => h (by rw [e]; exact hf p List.mem_cons_self)), aOver_old h fun q hq => hf q (List.mem_cons_of_mem _ hq)]
theorem Weak_overA {H0 H : HMap} {A0 A : AMap} {S : St} {l : List (Nat × PV)} {h : List (Nat × List CV)} {a : List (Tok × Arr)} (hw : Wf H A) (hb : ∀ id, H id ≠ none → S.H id = H id) (hbA : ∀ κ, A κ ≠ none → S.A κ = A κ) (hf : ∀ p ∈ a, A p.1 = none)
    (h1 : keepP (hOver h H) S.A (aOver a A) S.ρ l) (h2 : keepH (hOver h H) S.A (aOver a A) S.H h) (h3 : keepA S.A a) (kH : ∀ id, H0 id ≠ none → H id ≠ none) (kA : ∀ κ, A0 κ ≠ none → A κ ≠ none) : Weak H0 A0 S (overA l h a H A) := by
  refine ⟨fun t => keepP_spec h1 t, fun id => ?_, fun κ => ?_, fun id e => hOver_old (kH id e), fun κ e => ?_⟩
  · show hOver h H id = none ∨ ∃ cs ds, hOver h H id = some cs ∧ _
    have key : ∀ {l : List (Nat × List CV)}, keepH (hOver h H) S.A (aOver a A) S.H l → ∀ id, hOver l H id = none ∨ ∃ cs ds, hOver l H id = some cs ∧ S.H id = some ds ∧ cs.length = ds.length ∧ ∀ (k : Nat) (c d : CV), cs[k]? = some c → ds[k]? = some d → CV.wk (hOver h H) S.A (aOver a A) c d := by
      intro l
      induction l with
      | nil =>
        intro _ t
        cases hH : H t with
        | none => exact .inl hH
        | some cs =>
          refine .inr ⟨cs, cs, hH, by rw [hb t (by rw [hH]; simp), hH], rfl, fun k c d h1 h2 => ?_⟩
          rw [h1] at h2
          cases h2
          exact .inr (.inl ⟨rfl, ok_mono (fun i hi => hOver_old hi) (fun κ hκ => by rw [aOver_old hκ hf]; exact ⟨hκ, (hbA κ hκ).symm⟩) (hw t cs c hH (List.mem_of_getElem? h1))⟩)
      | cons p r ih =>
        obtain ⟨u, x⟩ := p
        intro hk t
        unfold hOver
        split
        · rename_i e
          subst e
          right
          obtain ⟨h1, _⟩ := hk
          cases hH : S.H t with
          | none => rw [hH] at h1; exact h1.elim
          | some ds => rw [hH] at h1; exact ⟨x, ds, rfl, rfl, wkCells_spec h1⟩
        · exact ih hk.2 t
    exact key h2 id
  · show aOver a A κ = none ∨ aOver a A κ = S.A κ ∨ (S.A κ = none ∧ ∃ sz, aOver a A κ = some (.co sz 0) ∨ aOver a A κ = some (.mu sz []))
    clear h1 h2
    induction a with
    | nil =>
      cases hA : A κ with
      | none => exact .inl hA
      | some ar => exact .inr (.inl (by show A κ = _; rw [hbA κ (by rw [hA]; simp)]))
    | cons p r ih =>
      obtain ⟨u, x⟩ := p
      by_cases e : κ = u
      · subst e
        rw [show aOver ((κ, x) :: r) A κ = some x from if_pos rfl]
        right
        obtain ⟨h1, _⟩ := h3
        cases hA : S.A κ with
        | none =>
          rw [hA] at h1
          right
          refine ⟨rfl, ?_⟩
          cases x with
          | co sz n => exact ⟨sz, .inl (by rw [show n = 0 from h1])⟩
          | mu sz els => exact ⟨sz, .inr (by rw [show els = [] from h1])⟩
          | mp m => exact False.elim h1
        | some y => rw [hA] at h1; exact .inl (by rw [show y = x from h1])
      · rw [show aOver ((u, x) :: r) A κ = aOver r A κ from if_neg e]
        exact ih (fun q hq => hf q (List.mem_cons_of_mem _ hq)) h3.2
  · show aOver a A κ ≠ none
    rw [aOver_old (kA κ e) hf]
    exact kA κ e
end Go.PW
namespace Go.Proofs
open Go.PW
def ints (l : List Int) : List (List D) := l.map fun n => [.lit (.int .i64 n)]
theorem Tryz.appI : AppT Tryz.prog 122 3 1 8 := ⟨Tryz.underlying122, Tryz.cl3, Tryz.by3, Tryz.zo3, by decide, by decide⟩
section disk
variable {H : HMap} {A : AMap} {id : Nat} {κm κc κ' : Tok} {d : Dk}
theorem Wf_arr {A' : AMap} (hw : Wf H A) (h4 : ∀ κ, A κ ≠ none → A' κ ≠ none) : Wf H A' := fun i cs c hi hc => ok_mono (fun _ h => h) h4 (hw i cs c hi hc)
end disk
end Go.Proofs

namespace Go.PW
variable {D : List Deferred}
theorem list_real2 {E : Env} (hE : EnvOK E) {n : Nat} {g0 : Gh} {A0 : AMap} {w0 : World} {ops : Array Oper} {K : St → Prop} {Q : Exit → Act → World → Prop} {l2 : List Oper}
    (hQ : ∀ S a w, RS D n g0 A0 w0 S a w → K S → wpList E.P ops Q l2 a w) :
    ∀ (l : List Oper) (S : St) (a : Act) (w : World), (∀ o ∈ l, ∀ d, o.dst = some d → d < n) → RunV E none ops l S K → RS D n g0 A0 w0 S a w → wpList E.P ops Q (l ++ l2) a w
  | [], S, a, w, _, h, hr => hQ S a w hr h
  | o :: l, S, a, w, hd, h, hr => by
    obtain ⟨v, H', A', hy, hK⟩ := RunV_head h
    exact op_real hE (hd o (by simp)) hy hr (fun a' w' hr' => list_real2 hE hQ l _ a' w' (fun o ho => hd o (by simp [ho])) hK hr')
def postP (D : List Deferred) (n : Nat) (g0 : Gh) (A0 : AMap) (w0 : World) (Q : Post) (R : Value → St → Prop) : Exit → Act → World → Prop
  | .normal, a, w => ∃ S, RS D n g0 A0 w0 S a w ∧ Q.nrm S
  | .ret, a, w => ∃ S, RS D n g0 A0 w0 S a w ∧ Q.ret S
  | .exit id, a, w => ∃ S, RS D n g0 A0 w0 S a w ∧ Q.ext id S
  | .panic ch, a, w => ∃ S v, RS D n g0 A0 w0 S a w ∧ ch = [{ v, recovered := false }] ∧ R v S
  | _, _, _ => False
theorem postP_of {n : Nat} {g0 : Gh} {A0 : AMap} {w0 : World} {Q : Post} {R : Value → St → Prop} {e : Exit} {a : Act} {w : World} (h : postX D n g0 A0 w0 Q e a w) : postP D n g0 A0 w0 Q R e a w := by
  cases e <;> first | exact h | exact h.elim
def VX (E : Env) (D : List Deferred) (n : Nat) (H0 : HMap) (A0 : AMap) (c : Code) (Q : Post) (R : Value → St → Prop) (S : St) : Prop :=
  ∀ g0 w0 a w, DomOK g0 H0 → RS D n g0 A0 w0 S a w → c.wp E.P (postP D n g0 A0 w0 Q R) a w
section
variable {E : Env} {n : Nat} {H0 : HMap} {A0 : AMap} {Q : Post} {R : Value → St → Prop} {S : St}
theorem VX_of (hE : EnvOK E) {c : Code} (hc : codeOK E n c = true) (h : VC E H0 A0 c Q S) : VX E D n H0 A0 c Q R S := fun _ _ a w hd hr =>
  wp_mono (code_ok hE hd c hc Q S a w h hr) fun _ _ _ hq => postP_of hq
theorem VX_seq {x y : Code} (h : VX E D n H0 A0 x ⟨VX E D n H0 A0 y Q R, Q.ret, Q.ext⟩ R S) : VX E D n H0 A0 (.seq x y) Q R S := fun g0 w0 a w hd hr => by
  refine wp_seq (wp_mono (h g0 w0 a w hd hr) fun e a' w' hq => ?_)
  cases e with
  | normal => obtain ⟨S', hr', h'⟩ := hq; exact h' g0 w0 a' w' hd hr'
  | ret => exact hq
  | exit id => exact hq
  | panic ch => exact hq
  | _ => exact hq.elim
theorem VX_cond {c : Operand} {x y : Code} (b : Bool) (hb : boolOf? (ev S.ρ c) = some b) (h : VX E D n H0 A0 (if b then x else y) Q R S) : VX E D n H0 A0 (.cond c x y) Q R S := fun g0 w0 a w hd hr => by
  obtain ⟨g, hm, hd', hf, he, hn, hdf⟩ := id hr
  exact wp_cond (boolOf_rep (PRep_ev hf c) hb) (h g0 w0 a w hd hr)
theorem VX_seqK {x y : Code} (h : ∀ K : St → Prop, (∀ S, VX E D n H0 A0 y Q R S → K S) → VX E D n H0 A0 x ⟨K, Q.ret, Q.ext⟩ R S) : VX E D n H0 A0 (.seq x y) Q R S := VX_seq (h _ fun _ h => h)
theorem VX_if {c : Operand} {x y : Code} (h : Todo (GuardP (boolOf? (ev S.ρ c)) (VX E D n H0 A0 x Q R S) (VX E D n H0 A0 y Q R S))) : VX E D n H0 A0 (.cond c x y) Q R S := by
  unfold Todo at h
  cases hb : boolOf? (ev S.ρ c) with
  | none => rw [hb] at h; exact h.elim
  | some b =>
    rw [hb] at h
    exact VX_cond b hb (by cases b <;> exact h)
theorem VX_block {id : Nat} {c : Code} (h : VX E D n H0 A0 c ⟨Q.nrm, Q.ret, fun j S => if j = id then Q.nrm S else Q.ext j S⟩ R S) : VX E D n H0 A0 (.block id c) Q R S := fun g0 w0 a w hd hr => by
  refine wp_block (wp_mono (h g0 w0 a w hd hr) fun e a' w' hq => ?_)
  cases e with
  | normal => exact hq
  | ret => exact hq
  | panic ch => exact hq
  | exit j =>
    obtain ⟨S', hr', h'⟩ := hq
    simp only at h'
    show (if j = id then postP D n g0 A0 w0 Q R .normal a' w' else postP D n g0 A0 w0 Q R (.exit j) a' w')
    split at h'
    · rename_i e
      rw [if_pos e]
      exact ⟨S', hr', h'⟩
    · rename_i e
      rw [if_neg e]
      exact ⟨S', hr', h'⟩
  | _ => exact hq.elim
theorem VX_scope {c : Code} (h : VX E D n H0 A0 c Q R S) : VX E D n H0 A0 (.scope c) Q R S := fun g0 w0 a w hd hr => by
  refine wp_scope_straight (wp_mono (h g0 w0 a w hd hr) fun e a' w' hq => ?_)
  cases e with
  | goto l => exact hq.elim
  | _ => exact hq
theorem VX_skip (h : Q.nrm S) : VX E D n H0 A0 .skip Q R S := fun _ _ _ _ _ hr => wp_skip ⟨S, hr, h⟩
theorem VX_exit {id : Nat} (h : Q.ext id S) : VX E D n H0 A0 (.exit id) Q R S := fun _ _ _ _ _ hr => wp_exit ⟨S, hr, h⟩
theorem VX_ret (h : Q.ret S) : VX E D n H0 A0 .ret Q R S := fun _ _ _ _ _ hr => wp_ret ⟨S, hr, h⟩
theorem VX_loop {c : Code} {ι : Type} (F : ι → St) (μ : ι → Nat) (i0 : ι) (h0 : Weak H0 A0 S (F i0))
    (h : ∀ i, VX E D n H0 A0 c ⟨fun S' => ∃ j, Weak H0 A0 S' (F j) ∧ μ j < μ i, Q.ret, Q.ext⟩ R (F i)) : VX E D n H0 A0 (.loop c) Q R S := fun g0 w0 a w hd hr => by
  refine wp_loop_ghost (fun k a w => ∃ i, μ i = k ∧ RS D n g0 A0 w0 (F i) a w) (μ i0) ⟨i0, rfl, hr.weak hd h0⟩ ?_
  rintro _ a w ⟨i, rfl, hi⟩
  refine wp_mono (h i g0 w0 a w hd hi) (fun e a' w' hq => ?_)
  cases e with
  | normal =>
    obtain ⟨S', hr', j, hwj, hlt⟩ := hq
    exact ⟨μ j, hlt, j, rfl, hr'.weak hd hwj⟩
  | ret => exact hq
  | exit id => exact hq
  | panic ch => exact hq
  | _ => exact hq.elim
theorem VX_region (hE : EnvOK E) {id : Nat} {l : List Oper} {draw : Bool} (hc : codeOK E n (.region id l.toArray draw) = true) (h : Todo (RunV E (fbOf E id l.toArray draw) l.toArray l S Q.nrm)) : VX E D n H0 A0 (.region id l.toArray draw) Q R S := VX_of hE hc (vRg h)
def EffPan (P : Program) (f : FuncId) (off : Nat) (H : HMap) (A : AMap) (args : List PV) (x : Value) (H' : HMap) (A' : AMap) : Prop :=
  ∀ (g : Gh) (w : World) (vals : Array Value), MRel g H A w → DomOK g H → Above off H A → ArgsRep g A args vals.toList →
    (callFunc f vals).run P w = .ok (.enter f vals) w ∧ Calls P f vals w (fun e w' => e = .panicked [{ v := x, recovered := false }] ∧ ∃ g', MRel g' H' A' w' ∧ Evol g A w g' A' w' ∧ DomOK g' H')
theorem VX_panic (hE : EnvOK E) {id : Nat} {l : List Oper} {T : TypeId} {t t' : Nat} {x : Value} {o1 o2 : Oper} (hd : dstsOK n l.toArray = true) (h1 : o1.op = .makeInterface T (.tmp t)) (h1g : o1.guard = none) (h1d : o1.dst = some t') (ht' : t' < n) (h2 : o2.op = .panic (.tmp t')) (h2g : o2.guard = none)
    (hmi : E.P.concrete T = true) (h : RunV E none (l ++ [o1, o2]).toArray l S (fun S' => S'.ρ t = .agg [.d (.lit x)] ∧ ∀ ρ, R (.iface T (.agg #[x])) ⟨ρ, S'.H, S'.A⟩)) :
    VX E D n H0 A0 (.region id (l ++ [o1, o2]).toArray false) Q R S := fun g0 w0 a w hd0 hr => by
  refine wp_region_list ?_
  rw [List.toList_toArray]
  refine list_real2 hE (l2 := [o1, o2]) (fun S' a w hr' hk => ?_) l S a w (by simpa using dstsOK_spec hd) h hr
  obtain ⟨g, hm, hd', hf, he, hn, hdf⟩ := hr'
  have hv : a.eval (.tmp t) = .agg #[x] := by
    have := hf t
    rw [hk.1] at this
    obtain ⟨arr, e, h1, h2⟩ := this
    obtain ⟨u, hu, hx⟩ := h2 0 _ rfl
    show a.tmps.getD t undef = _
    rw [e]
    congr 1
    obtain ⟨al⟩ := arr
    match al, h1, hu with
    | [y], _, hu =>
      cases hu
      rw [PRep_lit_inv (g := g) (A := S'.A) (show PRep g S'.A (.c (.d (.lit x))) u from hx)]
  have r1 : (execOp a.eval o1).run E.P w = .ok (.value (.iface T (.agg #[x]))) w := by
    simp only [execOp, h1, hv, Sem.run_bind, run_makeInterface w T _ hmi, Result.andThen_ok, Sem.run_pure]
  have hr2 := RS.step (D := D) (dst := o1.dst) (v := .c .any) (u := .iface T (.agg #[x])) hm hd' hf he (.refl g S'.A w) hn hdf True.intro (fun d e => by rw [h1d] at e; cases e; exact ht')
  unfold wpList
  rw [show Region.wanted o1 (yielded (l ++ [o1, o2]).toArray a.tmps) = true by unfold Region.wanted; rw [h1g], if_pos rfl]
  refine .inl ?_
  unfold Oper.wp
  rw [r1]
  show wpList E.P _ _ [o2] (a.put o1.dst _) w
  have hv2 : (a.put o1.dst (.iface T (.agg #[x]))).eval (.tmp t') = .iface T (.agg #[x]) := by
    rw [h1d]
    show (a.tmps.setIfInBounds t' _).getD t' undef = _
    rw [Array.getD_eq_getD_getElem?, Array.getElem?_setIfInBounds_self_of_lt (by rw [hn]; exact ht')]
    rfl
  have r2 : (execOp (a.put o1.dst (.iface T (.agg #[x]))).eval o2).run E.P w = .halt (.panic (.iface T (.agg #[x]))) w := by
    simp only [execOp, h2, hv2]
    rfl
  unfold wpList
  rw [show Region.wanted o2 (yielded (l ++ [o1, o2]).toArray (a.put o1.dst (.iface T (.agg #[x]))).tmps) = true by unfold Region.wanted; rw [h2g], if_pos rfl]
  refine .inl ?_
  unfold Oper.wp
  rw [r2]
  exact ⟨_, _, hr2, rfl, hk.2 _⟩
theorem VX_callp (hE : EnvOK E) {id : Nat} {l l2 : List Oper} {f : FuncId} {x : Value} {H' : HMap} {A' : AMap} {o : Oper} {args : Array Operand} {ats : Array TypeId} (hd : dstsOK n l.toArray = true) (h1 : o.op = .call ⟨.value (.func f), args, ats⟩) (hg : o.guard = none)
    (h : RunV E none (l ++ o :: l2).toArray l S (fun S' => Above (E.off + 1000) S'.H S'.A ∧ EffPan E.P f (E.off + 1000) S'.H S'.A ((args.toList.map (ev S'.ρ)).map PV.frz) x H' A' ∧ ∀ ρ, R x ⟨ρ, H', A'⟩)) :
    VX E D n H0 A0 (.region id (l ++ o :: l2).toArray false) Q R S := fun g0 w0 a w hd0 hr => by
  refine wp_region_list ?_
  rw [List.toList_toArray]
  refine list_real2 hE (l2 := o :: l2) (fun S' a w hr' hk => ?_) l S a w (by simpa using dstsOK_spec hd) h hr
  obtain ⟨g, hm, hd', hf, he, hn, hdf⟩ := hr'
  obtain ⟨hab, hp, hR⟩ := hk
  obtain ⟨q1, q2⟩ := hp g w (args.map a.eval) hm hd' hab (ArgsRep_map hf args)
  have r1 : (execOp a.eval o).run E.P w = .ok (.enter f (args.map a.eval)) w := by
    rw [← q1]
    simp [execOp, h1, resolve, Deferred.ofValue, invoke, Act.eval]
  unfold wpList
  rw [show Region.wanted o (yielded (l ++ o :: l2).toArray a.tmps) = true by unfold Region.wanted; rw [hg], if_pos rfl]
  refine .inl ?_
  unfold Oper.wp
  rw [r1]
  refine Calls.mono q2 (fun e w' he' => ?_)
  obtain ⟨rfl, g', m1, m2, m3⟩ := he'
  exact ⟨⟨fun _ => .c .any, H', A'⟩, x, ⟨g', m1, m3, fun t => True.intro, he.trans m2, hn, hdf⟩, rfl, hR _⟩
theorem VX_panic3 (hE : EnvOK E) {id : Nat} {T : TypeId} {t t' : Nat} {x : Value} {o0 o1 o2 : Oper} (hd : dstsOK n [o0].toArray = true) (h1 : o1.op = .makeInterface T (.tmp t)) (h1g : o1.guard = none) (h1d : o1.dst = some t') (ht' : t' < n) (h2 : o2.op = .panic (.tmp t')) (h2g : o2.guard = none)
    (hmi : E.P.concrete T = true) (h : Todo (RunV E none [o0, o1, o2].toArray [o0] S (fun S' => S'.ρ t = .agg [.d (.lit x)] ∧ ∀ ρ, R (.iface T (.agg #[x])) ⟨ρ, S'.H, S'.A⟩))) : VX E D n H0 A0 (.region id [o0, o1, o2].toArray false) Q R S :=
  VX_panic (l := [o0]) hE hd h1 h1g h1d ht' h2 h2g hmi h
theorem VX_callp3 (hE : EnvOK E) {id : Nat} {o0 o o2 : Oper} {f : FuncId} {x : Value} {H' : HMap} {A' : AMap} {args : Array Operand} {ats : Array TypeId} (hd : dstsOK n [o0].toArray = true) (h1 : o.op = .call ⟨.value (.func f), args, ats⟩) (hg : o.guard = none)
    (h : Todo (RunV E none [o0, o, o2].toArray [o0] S (fun S' => Above (E.off + 1000) S'.H S'.A ∧ EffPan E.P f (E.off + 1000) S'.H S'.A ((args.toList.map (ev S'.ρ)).map PV.frz) x H' A' ∧ ∀ ρ, R x ⟨ρ, H', A'⟩))) : VX E D n H0 A0 (.region id [o0, o, o2].toArray false) Q R S :=
  VX_callp (l := [o0]) (l2 := [o2]) hE hd h1 hg h
end
theorem effp_ok {E : Env} {f : FuncId} {fn : Func} {c : Code} (hf : E.P.funcs[f]? = some fn) (hb : fn.body = some c) (hext : ∀ (args : Array Value) (w : World), (callFunc f args).run E.P w = .ok (.enter f args) w) {H : HMap} {A : AMap}
    {args : List PV} (hn : args.length ≤ fn.ntmps) {off : Nat} {x : Value}
    (h : Above off H A → VX E [] fn.ntmps H A c ⟨fun _ => False, fun _ => False, fun _ _ => False⟩ (fun v S => v = x ∧ S.H = H ∧ S.A = A) ⟨entry args, H, A⟩) : EffPan E.P f off H A args x H A := by
  intro g w vals hm hd hab har
  refine ⟨hext vals w, ?_⟩
  refine calls_of_wp hf hb ?_
  have hvl : vals.size = args.length := by rw [← Array.length_toList]; exact har.1
  have hrs : RS [] fn.ntmps g A w ⟨entry args, H, A⟩ { tmps := vals ++ Array.replicate (fn.ntmps - vals.size) undef, defers := [] } w := by
    refine ⟨g, hm, hd, fun t => ?_, .refl _ _ _, by simp; omega, rfl⟩
    show PRep g A ((args[t]?).getD (.c .any)) _
    cases ht : args[t]? with
    | none => exact True.intro
    | some x =>
      obtain ⟨v, hv, hp⟩ := har.2 t x ht
      have hlt := (List.getElem?_eq_some_iff.1 ht).1
      rw [Array.getD_eq_getD_getElem?, Array.getElem?_append, if_pos (by omega)]
      rw [Array.getElem?_toList] at hv
      rw [hv]
      exact hp
  refine wp_mono (h hab g w _ w hd hrs) (fun e a' w' hq => ?_)
  cases e with
  | normal => obtain ⟨S, _, hq⟩ := hq; exact hq.elim
  | ret => obtain ⟨S, _, hq⟩ := hq; exact hq.elim
  | exit id => obtain ⟨S, _, hq⟩ := hq; exact hq.elim
  | panic ch =>
    obtain ⟨S, v, ⟨g1, hm1, hd1, hfr, he, hnn, hdf⟩, rfl, rfl, hH, hA⟩ := hq
    rw [hH] at hm1 hd1
    rw [hA] at hm1 he
    exact ⟨hdf, rfl, g1, hm1, he, hd1⟩
  | _ => exact hq.elim
end Go.PW

namespace Go.Proofs
open Go.PW
structure Rd where
  s : List UInt8
  at_ : Nat
  e : Int
def encRd (r : Rd) : List CV := [.d (dS r.s), .d (.lit (.int .i64 r.at_)), .d (.lit (.int .i64 r.e))]
theorem encRd_D (r : Rd) : (encRd r).all CV.isD = true := rfl
theorem encRd_ok {hk : Nat → Prop} {tk : Tok → Prop} (r : Rd) : ∀ c ∈ encRd r, c.ok hk tk := fun _ h => isD_ok (List.all_eq_true.1 (encRd_D r) _ h)
section rd
variable {H : HMap} {A : AMap} {id : Nat} {r : Rd}
set_option maxRecDepth 8000 in
set_option maxHeartbeats 4000000 in
theorem Tryz.kRdNew (off : Nat) (hw : Wf H A) (s : List UInt8) (hid : H id = none) : EffOK Tryz.prog 89 off H A [pD (dS s)] (.c (.ptr id 0)) (upd H id (some (encRd ⟨s, 0, 0⟩))) A := by
  refine effr_ok (E := envOf Tryz.prog [] off [] []) (envOf_ok Tryz.mixed) Tryz.func89 rfl Tryz.call89 (by kernel_rfl) (by exact Nat.le_of_ble_eq_true rfl) (fun hab => ?_)
  have hi' : H (off + 5) = none := (hab _ (Nat.le_add_right _ _)).1
  repeat' (first
   |with_reducible first|refine vSq fun K hK=>?_|refine vRg ?_|refine vBl ?_|refine vSc ?_|refine vIf ?_|refine vSk ?_|refine vEx ?_|refine vRt ?_
   |(with_reducible first|refine gNt (fun h=>?_) (fun h=>?_)|refine gCs (fun h=>?_) (fun h=>?_))<;>(try simp only[h])
   |refine And.intro hi' ?_
   |with_reducible first|(refine hK _ ?_;clear hK K)|(clear hK K;refine hK _ ?_;clear hK K)|(clear hK K;clear hK K;refine hK _ ?_;clear hK K)|(clear hK K;clear hK K;clear hK K;refine hK _ ?_;clear hK K)
   |(with_reducible refine todo ?_;simp +decide only[go_sem]))
  refine RetR_obj (H1 := H) (A1 := A) (A'' := A) (i' := off + 5) (h := fun κ => κ) (ds := encRd ⟨s, 0, 0⟩) rfl ?_ (by show upd _ _ _ _ ≠ none; rw [upd_same]; simp) hw (fun _ h => h) (fun _ h => h) hid hi' (encRd_ok _) ?_ ?_ ?_ (fun _ h => ⟨rfl, h⟩) (fun _ _ h => h) (fun _ _ _ _ h => h) (fun κ => ?_)
  · show PV.wk _ _ _ (.c (.ptr (swp id (off + 5) id) 0)) _
    rw [show swp id (off + 5) id = off + 5 from if_pos rfl]
    exact wkP_ptr (by rw [upd_same]; simp)
  · intro i es hi
    have hne : i ≠ off + 5 := fun e => by rw [e, hi'] at hi; cases hi
    refine ⟨es, by show upd _ _ _ _ = _; rw [upd_other _ _ hne]; exact hi, wkC_same fun c hc => ok_mono (fun j hj => ?_) (fun κ hκ => ⟨hκ, rfl⟩) (hw i es c hi hc)⟩
    rw [upd_apply']; split
    · simp
    · exact hj
  · show upd _ _ _ _ = _
    rw [upd_same]; rfl
  · exact wkC_same fun c hc => encRd_ok (tk := fun κ => A κ ≠ none ∧ A κ = A κ) ⟨s, 0, 0⟩ c hc
  · exact .inr (.inl rfl)
set_option maxRecDepth 8000 in
set_option maxHeartbeats 4000000 in
theorem Tryz.kErr (off : Nat) (hw : Wf H A) (hr : H id = some (encRd r)) : EffOK Tryz.prog 91 off H A [.c (.ptr id 0)] (pD (.lit (.int .i64 r.e))) H A := by
  refine effr_ok (E := envOf Tryz.prog [] off [] []) (envOf_ok Tryz.mixed) Tryz.func91 rfl Tryz.call91 (by kernel_rfl) (by exact Nat.le_of_ble_eq_true rfl) (fun hab => ?_)
  repeat' (first
   |with_reducible first|refine vSq fun K hK=>?_|refine vRg ?_|refine vBl ?_|refine vSc ?_|refine vIf ?_|refine vSk ?_|refine vEx ?_|refine vRt ?_
   |(with_reducible first|refine gNt (fun h=>?_) (fun h=>?_)|refine gCs (fun h=>?_) (fun h=>?_))<;>(try simp only[h])
   |with_reducible first|(refine hK _ ?_;clear hK K)|(clear hK K;refine hK _ ?_;clear hK K)|(clear hK K;clear hK K;refine hK _ ?_;clear hK K)|(clear hK K;clear hK K;clear hK K;refine hK _ ?_;clear hK K)
   |(with_reducible refine todo ?_;simp +decide only[go_sem, hr, encRd]))
  exact RetR_same rfl (by simp +decide only [go_sem]) True.intro hw kp_refl (fun _ _ => rfl)
set_option maxRecDepth 8000 in
set_option maxHeartbeats 4000000 in
theorem Tryz.kLeft (off : Nat) (hw : Wf H A) (hr : H id = some (encRd r)) (h1 : r.at_ ≤ r.s.length) (h2 : r.s.length ≤ 1000000) : EffOK Tryz.prog 92 off H A [.c (.ptr id 0)] (pD (.lit (.int .i64 (r.s.length - r.at_ : Nat)))) H A := by
  refine effr_ok (E := envOf Tryz.prog [] off [] []) (envOf_ok Tryz.mixed) Tryz.func92 rfl Tryz.call92 (by kernel_rfl) (by exact Nat.le_of_ble_eq_true rfl) (fun hab => ?_)
  have hwr : IntKind.i64.wrap ((r.s.length : Int) - (r.at_ : Int)) = ((r.s.length - r.at_ : Nat) : Int) := by rw [Go.IntWalk.i64_in _ (by omega)]; omega
  repeat' (first
   |with_reducible first|refine vSq fun K hK=>?_|refine vRg ?_|refine vBl ?_|refine vSc ?_|refine vIf ?_|refine vSk ?_|refine vEx ?_|refine vRt ?_
   |(with_reducible first|refine gNt (fun h=>?_) (fun h=>?_)|refine gCs (fun h=>?_) (fun h=>?_))<;>(try simp only[h])
   |with_reducible first|(refine hK _ ?_;clear hK K)|(clear hK K;refine hK _ ?_;clear hK K)|(clear hK K;clear hK K;refine hK _ ?_;clear hK K)|(clear hK K;clear hK K;clear hK K;refine hK _ ?_;clear hK K)
   |(with_reducible refine todo ?_;simp +decide only[go_sem, hr, encRd, hwr]))
  exact RetR_same rfl (by simp +decide only [go_sem]) True.intro hw kp_refl (fun _ _ => rfl)
theorem RetR_rd {P : Program} {fn : Func} {v p : PV} {S : St} {cs : List CV} (hw : Wf H A) (hid : H id ≠ none) (hc : cs.all CV.isD = true) (hp : resPVs P S fn.results.toList = some p) (hv : PV.wk (upd H id (some cs)) S.A A v p) (hok : v.oks (fun i => upd H id (some cs) i ≠ none) (fun κ => A κ ≠ none))
    (h1 : S.H id = some cs) (h2 : ∀ i, i ≠ id → S.H i = H i) (h3 : S.A = A) : RetR P fn H A v (upd H id (some cs)) A S := by
  subst h3
  exact RetR_set hp hv hok hw hid h1 (wkC_same fun c h => isD_ok (List.all_eq_true.1 hc c h)) (fun c h => isD_ok (List.all_eq_true.1 hc c h)) (fun i hi _ => h2 i hi) (fun κ => .inr (.inl rfl)) (fun κ h => ⟨h, rfl⟩)
set_option maxRecDepth 8000 in
set_option maxHeartbeats 8000000 in
theorem Tryz.kNextB (off : Nat) (hw : Wf H A) (hr : H id = some (encRd r)) (b : UInt8) (h1 : r.s[r.at_]? = some b) (h2 : r.s.length ≤ 1000000) : EffOK Tryz.prog 139 off H A [.c (.ptr id 0)] (pD (.lit (.int .u8 b.toNat))) (upd H id (some (encRd { r with at_ := r.at_ + 1 }))) A := by
  refine effr_ok (E := envOf Tryz.prog [] off [] []) (envOf_ok Tryz.mixed) Tryz.func139 rfl Tryz.call139 (by kernel_rfl) (by exact Nat.le_of_ble_eq_true rfl) (fun hab => ?_)
  have hlt : r.at_ < r.s.length := (List.getElem?_eq_some_iff.1 h1).1
  unfold encRd at hr
  have hc : ((r.s.length : Int) ≤ (r.at_ : Int)) = False := eq_false (by omega)
  have hw1 : IntKind.i64.wrap ((r.at_ : Int) + 1) = ((r.at_ + 1 : Nat) : Int) := Go.IntWalk.i64_in _ (by omega)
  have hw2 : IntKind.i64.wrap (((r.at_ + 1 : Nat) : Int) - 1) = (r.at_ : Int) := by rw [Go.IntWalk.i64_in _ (by omega)]; omega
  repeat' (first
   |with_reducible first|refine vSq fun K hK=>?_|refine vRg ?_|refine vBl ?_|refine vSc ?_|refine vIf ?_|refine vSk ?_|refine vEx ?_|refine vRt ?_
   |(with_reducible first|refine gNt (fun h=>?_) (fun h=>?_)|refine gCs (fun h=>?_) (fun h=>?_))<;>(try simp only[h])
   |with_reducible first|(refine hK _ ?_;clear hK K)|(clear hK K;refine hK _ ?_;clear hK K)|(clear hK K;clear hK K;refine hK _ ?_;clear hK K)|(clear hK K;clear hK K;clear hK K;refine hK _ ?_;clear hK K)
   |(with_reducible refine todo ?_;simp +decide only[go_sem, hr, hc, hw1, hw2, h1]))
  refine RetR_rd hw (by rw [hr]; simp) (encRd_D _) rfl (by simp +decide only [go_sem]) True.intro ?_ ?_ rfl
  · simp +decide only [go_sem, encRd]
  · intro i hi
    simp +decide only [go_sem, hi]
end rd
end Go.Proofs
