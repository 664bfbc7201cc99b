/-
  The abstract machine: loop heads and ends of functions that share variables with their caller.
-/
import Derived.Test.YtgpmdeembgohdaaPwU
namespace Go.PW

def hOver : List (Nat × List CV) → HMap → HMap
  | [], H, t => H t
  | (u, x) :: r, H, t => if t = u then some x else hOver r H t

/-- All that is kept in variables is still there. -/
def Wf (H : HMap) (A : AMap) : Prop := ∀ id cs c, H id = some cs → c ∈ cs → CV.ok (fun i => H i ≠ none) (fun κ => A κ ≠ none) c

theorem hOver_old {H : HMap} : ∀ {l : List (Nat × List CV)} {t : Nat}, H t ≠ none → hOver l H t ≠ none
  | [], _, h => h
  | (u, x) :: r, t, h => by
    unfold hOver
    split
    · simp
    · exact hOver_old h

theorem ok_mono {hk hk' : Nat → Prop} {tk tk' : Tok → Prop} (h : ∀ i, hk i → hk' i) (h' : ∀ κ, tk κ → tk' κ) {c : CV} (hc : c.ok hk tk) : c.ok hk' tk' := by
  cases c with
  | own κ els => exact h' _ hc
  | mt κ sz n => exact h' _ hc
  | mptr κ sz n i o => exact h' _ hc
  | ptr id o => exact h _ hc
  | fn f caps => exact fun p hp => h _ (hc p hp)
  | _ => exact True.intro

theorem hOver_spec {H : HMap} {A : AMap} {S : St} (hw : Wf H A) (hb : ∀ id, H id ≠ none → S.H id = H id) {all : List (Nat × List CV)} : ∀ {l : List (Nat × List CV)}, keepH (hOver all H) A A S.H l → ∀ id, hOver l H id = none ∨ ∃ cs ds, hOver l H id = some cs ∧ S.H id = some ds ∧ cs.length = ds.length ∧
    ∀ (k : Nat) (c d : CV), cs[k]? = some c → ds[k]? = some d → CV.wk (hOver all H) A A c d
  | [], _, t => by
    cases hH : H t with
    | none => exact .inl hH
    | some cs =>
      refine .inr ⟨cs, cs, hH, by rw [hb t (by rw [hH]; simp), hH], rfl, fun k c d h1 h2 => ?_⟩
      rw [h1] at h2
      cases h2
      exact .inr (.inl ⟨rfl, ok_mono (fun i hi => hOver_old hi) (fun κ hκ => ⟨hκ, rfl⟩) (hw t cs c hH (List.mem_of_getElem? h1))⟩)
  | (u, x) :: r, h, t => by
    unfold hOver
    split
    · rename_i e
      subst e
      right
      obtain ⟨h1, _⟩ := h
      cases hH : S.H t with
      | none => rw [hH] at h1; exact h1.elim
      | some ds => rw [hH] at h1; exact ⟨x, ds, rfl, rfl, wkCells_spec h1⟩
    · exact hOver_spec hw hb h.2 t

/-- A state that keeps all that the caller has. -/
def over (l : List (Nat × PV)) (h : List (Nat × List CV)) (H : HMap) (A : AMap) : St := ⟨rhoOf l, hOver h H, A⟩

theorem Weak_over {H : HMap} {A : AMap} {S : St} {l : List (Nat × PV)} {h : List (Nat × List CV)} (hw : Wf H A) (hb : ∀ id, H id ≠ none → S.H id = H id) (hA : S.A = A) (h1 : keepP (hOver h H) A A S.ρ l) (h2 : keepH (hOver h H) A A S.H h) : Weak H A S (over l h H A) := by
  refine ⟨fun t => ?_, fun id => ?_, fun κ => .inr (.inl ?_), fun id h => hOver_old h, fun κ h => h⟩
  · rw [hA]; exact keepP_spec h1 t
  · rw [hA]; exact hOver_spec hw hb h2 id
  · show A κ = S.A κ
    rw [hA]
@[go_sem] theorem hOver_nil {H : HMap} {t : Nat} : hOver [] H t = H t := rfl
@[go_sem] theorem hOver_cons {H : HMap} {t u : Nat} {x : List CV} {r : List (Nat × List CV)} : hOver ((u, x) :: r) H t = if t = u then some x else hOver r H t := rfl
@[go_sem] theorem over_eq (l : List (Nat × PV)) (h : List (Nat × List CV)) (H : HMap) (A : AMap) : over l h H A = ⟨rhoOf l, hOver h H, A⟩ := rfl

/-- The end: one result; all variables as they were. -/
theorem RetE_same {P : Program} {fn : Func} {H : HMap} {A : AMap} {S : St} {t : Nat} {x : D} (hw : Wf H A) (hb : ∀ id, H id ≠ none → S.H id = H id) (hA : S.A = A) (hr : fn.results.toList = [.tmp t]) (h : S.ρ t = .c (.d x)) : RetE P fn H A (.c (.d x)) H A S := by
  refine ⟨S.ρ t, by rw [hr]; rfl, ?_⟩
  refine ⟨fun _ => ?_, fun id => ?_, fun κ => .inr (.inl ?_), fun id h => h, fun κ h => h⟩
  · show PV.wk _ _ _ _ (S.ρ t)
    rw [h, wkP_d]
    exact True.intro
  · show _ ∨ ∃ cs ds, H id = some cs ∧ S.H id = some ds ∧ _
    rw [hA]
    exact hOver_spec (all := []) (l := []) hw hb True.intro id
  · show A κ = S.A κ
    rw [hA]

theorem kp_refl {H : HMap} : ∀ id, H id ≠ none → H id = H id := fun _ _ => rfl
theorem kp_cons {H : HMap} {u : Nat} {x : List CV} {r : List (Nat × List CV)} (hn : H u = none) (h : ∀ id, H id ≠ none → hOver r H id = H id) : ∀ id, H id ≠ none → hOver ((u, x) :: r) H id = H id := fun i hi => by
  unfold hOver
  split
  · rename_i e; subst e; exact absurd hn hi
  · exact h i hi
theorem kp_nil {H : HMap} : ∀ id, H id ≠ none → hOver [] H id = H id := fun _ _ => rfl
theorem kp_upd {H G : HMap} {u : Nat} {x : Option (List CV)} (hn : H u = none) (h : ∀ id, H id ≠ none → G id = H id) : ∀ id, H id ≠ none → upd G u x id = H id := fun i hi => by
  rw [upd_apply']
  split
  · rename_i e; subst e; exact absurd hn hi
  · exact h i hi

theorem C_eff {P : Program} {effs : List FuncId} {off : Nat} {md st : List Nat} {f : FuncId} {caps : List (Nat × Nat)} {H H' : HMap} {A A' : AMap} {args args' : List PV} {v : PV} {KK : PV → HMap → AMap → Prop} (h : EffOK P f (off + 1000) H A args' v H' A') (ha : args.map PV.frz ++ caps.map capPV = args')
    (hb : Above (off + 1000) H A) (hK : Todo (KK v H' A')) : callvV (envOf P effs off md st) H A (.c (.fn f caps)) args KK := ⟨v, H', A', by rw [ha]; exact h, hb, hK⟩

def CV.isD : CV → Bool
  | .d _ => true
  | .full _ => true
  | _ => false
theorem isD_ok {hk : Nat → Prop} {tk : Tok → Prop} {c : CV} (h : c.isD = true) : c.ok hk tk := by cases c <;> first | exact True.intro | cases h
theorem Wf_upd {H : HMap} {A : AMap} {u : Nat} {cs : List CV} (h : Wf H A) (hc : cs.all CV.isD = true) : Wf (upd H u (some cs)) A := fun id ds c hd hc' => by
  have hk : ∀ i, H i ≠ none → upd H u (some cs) i ≠ none := fun i hi => by
    rw [upd_apply']; split
    · simp
    · exact hi
  rw [upd_apply'] at hd
  split at hd
  · cases hd; exact isD_ok (List.all_eq_true.1 hc c hc')
  · exact ok_mono hk (fun _ h => h) (h id ds c hd hc')
theorem Wf_hOf {A : AMap} : ∀ {l : List (Nat × List CV)}, l.all (fun p => p.2.all CV.isD) = true → Wf (hOf l) A
  | [], _ => fun _ _ _ h => by cases h
  | (u, x) :: r, h => fun id ds c hd hc => by
    simp only [List.all_cons, Bool.and_eq_true] at h
    unfold hOf at hd
    split at hd
    · cases hd; exact isD_ok (List.all_eq_true.1 h.1 c hc)
    · exact ok_mono (fun i hi => by unfold hOf; split <;> simp_all) (fun _ h => h) (Wf_hOf h.2 id ds c hd hc)
theorem Above_of {n : Nat} {a : List (Tok × Arr)} : ∀ {l : List (Nat × List CV)}, l.all (fun p => decide (p.1 < n)) = true → a.all (fun p => decide (p.1.1 < n)) = true → Above n (hOf l) (aOf a) := by
  intro l hl ha i hi
  refine ⟨?_, fun k => ?_⟩
  · induction l with
    | nil => rfl
    | cons p r ih =>
      simp only [List.all_cons, Bool.and_eq_true, decide_eq_true_eq] at hl
      unfold hOf
      rw [if_neg (by omega)]
      exact ih (by simpa using hl.2)
  · induction a with
    | nil => rfl
    | cons p r ih =>
      simp only [List.all_cons, Bool.and_eq_true, decide_eq_true_eq] at ha
      unfold aOf
      rw [if_neg (fun e => by rw [← e] at ha; exact absurd ha.1 (by simpa using hi))]
      exact ih (by simpa using ha.2)

theorem wkP_fn1 {H' : HMap} {A A' : AMap} {f : FuncId} {id o : Nat} (h : H' id ≠ none) : PV.wk H' A A' (.c (.fn f [(id, o)])) (.c (.fn f [(id, o)])) := wk_c (.inr (.inl ⟨rfl, fun p hp => by rw [List.mem_singleton.1 hp]; exact h⟩))

theorem Ret_both {P : Program} {fn : Func} {S : St} {t t' : Nat} {r r' : RT} {k k' : Option Tok} (hk : ∀ κ, k = some κ → k' = some κ → False) (hr : fn.results.toList = [.tmp t, .tmp t']) (e : RetT S.A k r (S.ρ t)) (e' : RetT S.A k' r' (S.ρ t')) : Ret P fn (.tup [r, r']) S := by
  refine ⟨by show [r, r'].length ≠ 1; simp, [k, k'], fun i j κ hi hj => ?_, by rw [hr]; exact ⟨_, rfl, e, _, rfl, e', rfl⟩⟩
  match i, j with
  | 0, 0 => rfl
  | 1, 1 => rfl
  | 0, 1 => exact (hk κ (by simpa using hi) (by simpa using hj)).elim
  | 1, 0 => exact (hk κ (by simpa using hj) (by simpa using hi)).elim
  | 0, j + 2 => simp at hj
  | 1, j + 2 => simp at hj
  | i + 2, _ => simp at hi
end Go.PW
