import Derived.Test.YtfcffhhipkbkmaaQ11
import Derived.Test.YtfcffhhipkbkmaaProg
import Derived.KernelRfl

/-
  The abstract machine: loop heads and ends of functions that share variables with their caller.
-/

namespace Go.PW

def hOver : List (Nat × List CV) → HMap → HMap
  | [], H, t => H t
  | (u, x) :: r, H, t => if t = u then some x else hOver r H t

/-- All that is kept in variables is still there. -/
def Wf (H : HMap) (A : AMap) : Prop := ∀ id cs c, H id = some cs → c ∈ cs → CV.ok (fun i => H i ≠ none) (fun κ => A κ ≠ none) c

theorem hOver_old {H : HMap} : ∀ {l : List (Nat × List CV)} {t : Nat}, H t ≠ none → hOver l H t ≠ none
  | [], _, h => h
  | (u, x) :: r, t, h => by
    unfold hOver
    split
    · simp
    · exact hOver_old h

theorem ok_mono {hk hk' : Nat → Prop} {tk tk' : Tok → Prop} (h : ∀ i, hk i → hk' i) (h' : ∀ κ, tk κ → tk' κ) {c : CV} (hc : c.ok hk tk) : c.ok hk' tk' := by
  cases c with
  | own κ els => exact h' _ hc
  | mt κ sz n => exact h' _ hc
  | mptr κ sz n i o => exact h' _ hc
  | ptr id o => exact h _ hc
  | fn f caps => exact fun p hp => h _ (hc p hp)
  | mpr κ => exact h' _ hc
  | _ => exact True.intro

theorem hOver_spec {H : HMap} {A : AMap} {S : St} (hw : Wf H A) (hb : ∀ id, H id ≠ none → S.H id = H id) {all : List (Nat × List CV)} : ∀ {l : List (Nat × List CV)}, keepH (hOver all H) A A S.H l → ∀ id, hOver l H id = none ∨ ∃ cs ds, hOver l H id = some cs ∧ S.H id = some ds ∧ cs.length = ds.length ∧
    ∀ (k : Nat) (c d : CV), cs[k]? = some c → ds[k]? = some d → CV.wk (hOver all H) A A c d
  | [], _, t => by
    cases hH : H t with
    | none => exact .inl hH
    | some cs =>
      refine .inr ⟨cs, cs, hH, by rw [hb t (by rw [hH]; simp), hH], rfl, fun k c d h1 h2 => ?_⟩
      rw [h1] at h2
      cases h2
      exact .inr (.inl ⟨rfl, ok_mono (fun i hi => hOver_old hi) (fun κ hκ => ⟨hκ, rfl⟩) (hw t cs c hH (List.mem_of_getElem? h1))⟩)
  | (u, x) :: r, h, t => by
    unfold hOver
    split
    · rename_i e
      subst e
      right
      obtain ⟨h1, _⟩ := h
      cases hH : S.H t with
      | none => rw [hH] at h1; exact h1.elim
      | some ds => rw [hH] at h1; exact ⟨x, ds, rfl, rfl, wkCells_spec h1⟩
    · exact hOver_spec hw hb h.2 t

/-- A state that keeps all that the caller has. -/
def over (l : List (Nat × PV)) (h : List (Nat × List CV)) (H : HMap) (A : AMap) : St := ⟨rhoOf l, hOver h H, A⟩

theorem Weak_over {H : HMap} {A : AMap} {S : St} {l : List (Nat × PV)} {h : List (Nat × List CV)} (hw : Wf H A) (hb : ∀ id, H id ≠ none → S.H id = H id) (hA : S.A = A) (h1 : keepP (hOver h H) A A S.ρ l) (h2 : keepH (hOver h H) A A S.H h) : Weak H A S (over l h H A) := by
  refine ⟨fun t => ?_, fun id => ?_, fun κ => .inr (.inl ?_), fun id h => hOver_old h, fun κ h => h⟩
  · rw [hA]; exact keepP_spec h1 t
  · rw [hA]; exact hOver_spec hw hb h2 id
  · show A κ = S.A κ
    rw [hA]
@[go_sem] theorem hOver_nil {H : HMap} {t : Nat} : hOver [] H t = H t := rfl
@[go_sem] theorem hOver_cons {H : HMap} {t u : Nat} {x : List CV} {r : List (Nat × List CV)} : hOver ((u, x) :: r) H t = if t = u then some x else hOver r H t := rfl
@[go_sem] theorem over_eq (l : List (Nat × PV)) (h : List (Nat × List CV)) (H : HMap) (A : AMap) : over l h H A = ⟨rhoOf l, hOver h H, A⟩ := rfl

/-- The end: one result; all variables as they were. -/
theorem RetE_same {P : Program} {fn : Func} {H : HMap} {A : AMap} {S : St} {t : Nat} {x : D} (hw : Wf H A) (hb : ∀ id, H id ≠ none → S.H id = H id) (hA : S.A = A) (hr : fn.results.toList = [.tmp t]) (h : S.ρ t = .c (.d x)) : RetE P fn H A (.c (.d x)) H A S := by
  refine ⟨S.ρ t, by rw [hr]; rfl, ?_⟩
  refine ⟨fun _ => ?_, fun id => ?_, fun κ => .inr (.inl ?_), fun id h => h, fun κ h => h⟩
  · show PV.wk _ _ _ _ (S.ρ t)
    rw [h, wkP_d]
    exact True.intro
  · show _ ∨ ∃ cs ds, H id = some cs ∧ S.H id = some ds ∧ _
    rw [hA]
    exact hOver_spec (all := []) (l := []) hw hb True.intro id
  · show A κ = S.A κ
    rw [hA]

theorem kp_refl {H : HMap} : ∀ id, H id ≠ none → H id = H id := fun _ _ => rfl
theorem kp_cons {H : HMap} {u : Nat} {x : List CV} {r : List (Nat × List CV)} (hn : H u = none) (h : ∀ id, H id ≠ none → hOver r H id = H id) : ∀ id, H id ≠ none → hOver ((u, x) :: r) H id = H id := fun i hi => by
  unfold hOver
  split
  · rename_i e; subst e; exact absurd hn hi
  · exact h i hi
theorem kp_nil {H : HMap} : ∀ id, H id ≠ none → hOver [] H id = H id := fun _ _ => rfl
theorem kp_upd {H G : HMap} {u : Nat} {x : Option (List CV)} (hn : H u = none) (h : ∀ id, H id ≠ none → G id = H id) : ∀ id, H id ≠ none → upd G u x id = H id := fun i hi => by
  rw [upd_apply']
  split
  · rename_i e; subst e; exact absurd hn hi
  · exact h i hi

theorem C_eff {P : Program} {effs : List FuncId} {off : Nat} {md st : List Nat} {f : FuncId} {caps : List (Nat × Nat)} {H H' : HMap} {A A' : AMap} {args args' : List PV} {v : PV} {KK : PV → HMap → AMap → Prop} (h : EffOK P f (off + 1000) H A args' v H' A') (ha : args.map PV.frz ++ caps.map capPV = args')
    (hb : Above (off + 1000) H A) (hK : Todo (KK v H' A')) : callvV (envOf P effs off md st) H A (.c (.fn f caps)) args KK := ⟨v, H', A', by rw [ha]; exact h, hb, hK⟩

def CV.isD : CV → Bool
  | .d _ => true
  | .full _ => true
  | _ => false
theorem isD_ok {hk : Nat → Prop} {tk : Tok → Prop} {c : CV} (h : c.isD = true) : c.ok hk tk := by cases c <;> first | exact True.intro | cases h
theorem Wf_upd {H : HMap} {A : AMap} {u : Nat} {cs : List CV} (h : Wf H A) (hc : cs.all CV.isD = true) : Wf (upd H u (some cs)) A := fun id ds c hd hc' => by
  have hk : ∀ i, H i ≠ none → upd H u (some cs) i ≠ none := fun i hi => by
    rw [upd_apply']; split
    · simp
    · exact hi
  rw [upd_apply'] at hd
  split at hd
  · cases hd; exact isD_ok (List.all_eq_true.1 hc c hc')
  · exact ok_mono hk (fun _ h => h) (h id ds c hd hc')
theorem Wf_hOf {A : AMap} : ∀ {l : List (Nat × List CV)}, l.all (fun p => p.2.all CV.isD) = true → Wf (hOf l) A
  | [], _ => fun _ _ _ h => by cases h
  | (u, x) :: r, h => fun id ds c hd hc => by
    simp only [List.all_cons, Bool.and_eq_true] at h
    unfold hOf at hd
    split at hd
    · cases hd; exact isD_ok (List.all_eq_true.1 h.1 c hc)
    · exact ok_mono (fun i hi => by unfold hOf; split <;> simp_all) (fun _ h => h) (Wf_hOf h.2 id ds c hd hc)
theorem Above_of {n : Nat} {a : List (Tok × Arr)} : ∀ {l : List (Nat × List CV)}, l.all (fun p => decide (p.1 < n)) = true → a.all (fun p => decide (p.1.1 < n)) = true → Above n (hOf l) (aOf a) := by
  intro l hl ha i hi
  refine ⟨?_, fun k => ?_⟩
  · induction l with
    | nil => rfl
    | cons p r ih =>
      simp only [List.all_cons, Bool.and_eq_true, decide_eq_true_eq] at hl
      unfold hOf
      rw [if_neg (by omega)]
      exact ih (by simpa using hl.2)
  · induction a with
    | nil => rfl
    | cons p r ih =>
      simp only [List.all_cons, Bool.and_eq_true, decide_eq_true_eq] at ha
      unfold aOf
      rw [if_neg (fun e => by rw [← e] at ha; exact absurd ha.1 (by simpa using hi))]
      exact ih (by simpa using ha.2)

theorem wkP_fn1 {H' : HMap} {A A' : AMap} {f : FuncId} {id o : Nat} (h : H' id ≠ none) : PV.wk H' A A' (.c (.fn f [(id, o)])) (.c (.fn f [(id, o)])) := wk_c (.inr (.inl ⟨rfl, fun p hp => by rw [List.mem_singleton.1 hp]; exact h⟩))

theorem Ret_both {P : Program} {fn : Func} {S : St} {t t' : Nat} {r r' : RT} {k k' : Option Tok} (hk : ∀ κ, k = some κ → k' = some κ → False) (hr : fn.results.toList = [.tmp t, .tmp t']) (e : RetT S.A k r (S.ρ t)) (e' : RetT S.A k' r' (S.ρ t')) : Ret P fn (.tup [r, r']) S := by
  refine ⟨by show [r, r'].length ≠ 1; simp, [k, k'], fun i j κ hi hj => ?_, by rw [hr]; exact ⟨_, rfl, e, _, rfl, e', rfl⟩⟩
  match i, j with
  | 0, 0 => rfl
  | 1, 1 => rfl
  | 0, 1 => exact (hk κ (by simpa using hi) (by simpa using hj)).elim
  | 1, 0 => exact (hk κ (by simpa using hj) (by simpa using hi)).elim
  | 0, j + 2 => simp at hj
  | 1, j + 2 => simp at hj
  | i + 2, _ => simp at hi
theorem VC_while {E : Env} {H0 : HMap} {A0 : AMap} {c : Code} {Q : Post} {S : St} {ι : Type} (I : ι → Prop) (F : ι → St) (μ : ι → Nat) (i0 : ι) (hi : I i0) (h0 : Weak H0 A0 S (F i0))
    (h : ∀ i, I i → VC E H0 A0 c ⟨fun S' => ∃ j : {i : ι // I i}, Weak H0 A0 S' (F j.1) ∧ μ j.1 < μ i, Q.ret, Q.ext⟩ (F i)) : VC E H0 A0 (.loop c) Q S :=
  ⟨{i : ι // I i}, fun i => F i.1, fun i => μ i.1, ⟨⟨i0, hi⟩, h0⟩, fun i => h i.1 i.2⟩
theorem C_call {P : Program} {effs : List FuncId} {off : Nat} {md st : List Nat} {n : Nat} {f : FuncId} {H H' : HMap} {A A' : AMap} {args args' : List PV} {v : PV} {KK : PV → HMap → AMap → Prop} (he : effs.contains f = true) (h : EffOK P f (off + 1000) H A args' v H' A') (ha : args.map PV.frz = args')
    (hb : Above (off + 1000) H A) (hK : Todo (KK v H' A')) : callV (envOf P effs off md st) n f H A args KK := S_calle he (by rw [ha]; exact h) hb hK
theorem Wf_noH {A : AMap} : Wf noH A := fun _ _ _ h => by cases h
/-- The end: what is handed back, and what the variables are now; no new names. -/
theorem RetR_of {P : Program} {fn : Func} {H : HMap} {A : AMap} {v : PV} {H' : HMap} {A' : AMap} {S : St} {p : PV} (hp : resPVs P S fn.results.toList = some p) (hv : PV.wk H' S.A A' v p) (hok : v.oks (fun i => H' i ≠ none) (fun κ => A' κ ≠ none)) (hw : Wf H' A')
    (hH : ∀ id cs, H' id = some cs → ∃ ds, S.H id = some ds ∧ wkCells H' S.A A' cs ds) (hA : ∀ κ, A' κ = none ∨ A' κ = S.A κ ∨ (S.A κ = none ∧ ∃ sz, A' κ = some (.co sz 0) ∨ A' κ = some (.mu sz []))) (kH : ∀ id, H id ≠ none → H' id ≠ none) (kA : ∀ κ, A κ ≠ none → A' κ ≠ none) : RetR P fn H A v H' A' S := by
  have im_id : ∀ c : CV, c.im (fun i => i) (fun κ => κ) = c := fun c => by cases c <;> simp [CV.im]
  have ims : (CV.im (fun i => i) (fun κ => κ)) = id := funext im_id
  have imt : (TV.im (fun i => i) (fun κ => κ)) = id := funext fun x => by cases x <;> simp [TV.im, ims]
  refine ⟨p, ⟨fun _ => v, H', A'⟩, fun i => i, fun κ => κ, hp, ⟨fun _ => hv, fun id => ?_, hA, kH, kA⟩, ?_, hok, ⟨fun id h => ⟨rfl, kH id h⟩, fun κ h => ⟨rfl, kA κ h⟩, fun _ _ _ _ h => h, fun _ _ _ _ h => h, fun id cs h => ⟨by rw [ims, List.map_id]; exact h, fun c hc => hw id cs c h hc⟩, fun κ ar h => h⟩⟩
  · show H' id = none ∨ ∃ cs ds, H' id = some cs ∧ S.H id = some ds ∧ _
    cases h : H' id with
    | none => exact .inl rfl
    | some cs =>
      obtain ⟨ds, h1, h2⟩ := hH id cs h
      obtain ⟨h3, h4⟩ := wkCells_spec h2
      exact .inr ⟨cs, ds, rfl, h1, h3, h4⟩
  · show v = v.im _ _
    cases v <;> simp [PV.im, ims, imt]
theorem wkC_same {H' : HMap} {A A' : AMap} : ∀ {cs : List CV}, (∀ c ∈ cs, c.ok (fun i => H' i ≠ none) (fun κ => A' κ ≠ none ∧ A' κ = A κ)) → wkCells H' A A' cs cs
  | [], _ => True.intro
  | c :: _, h => ⟨.inr (.inl ⟨rfl, h c List.mem_cons_self⟩), wkC_same fun c hc => h c (List.mem_cons_of_mem _ hc)⟩
/-- What a function has changed: this variable, this array. -/
theorem RetR_set {P : Program} {fn : Func} {H : HMap} {A : AMap} {v : PV} {S : St} {p : PV} {id : Nat} {cs ds : List CV} {A' : AMap} (hp : resPVs P S fn.results.toList = some p) (hv : PV.wk (upd H id (some cs)) S.A A' v p) (hok : v.oks (fun i => upd H id (some cs) i ≠ none) (fun κ => A' κ ≠ none)) (hw : Wf H A)
    (hid : H id ≠ none) (hS : S.H id = some ds) (hcs : wkCells (upd H id (some cs)) S.A A' cs ds) (hcok : ∀ c ∈ cs, c.ok (fun i => upd H id (some cs) i ≠ none) (fun κ => A' κ ≠ none)) (hH : ∀ i, i ≠ id → H i ≠ none → S.H i = H i)
    (hA : ∀ κ, A' κ = none ∨ A' κ = S.A κ ∨ (S.A κ = none ∧ ∃ sz, A' κ = some (.co sz 0) ∨ A' κ = some (.mu sz []))) (kA : ∀ κ, A κ ≠ none → A' κ ≠ none ∧ A' κ = S.A κ) : RetR P fn H A v (upd H id (some cs)) A' S := by
  have hk : ∀ i, H i ≠ none → upd H id (some cs) i ≠ none := fun i hi => by
    rw [upd_apply']; split
    · simp
    · exact hi
  refine RetR_of hp hv hok ?_ ?_ hA hk (fun κ h => (kA κ h).1)
  · intro i es c hi hc
    rw [upd_apply'] at hi
    split at hi
    · cases hi; exact hcok c hc
    · exact ok_mono hk (fun κ h => (kA κ h).1) (hw i es c hi hc)
  · intro i es hi
    rw [upd_apply'] at hi
    split at hi
    · rename_i e
      subst e
      cases hi
      exact ⟨ds, hS, hcs⟩
    · rename_i e
      exact ⟨es, by rw [hH i e (by rw [hi]; simp), hi], wkC_same fun c hc => ok_mono hk (fun κ h => kA κ h) (hw i es c hi hc)⟩
/-- Nothing has changed. -/
theorem RetR_same {P : Program} {fn : Func} {H : HMap} {A : AMap} {v : PV} {S : St} {p : PV} (hp : resPVs P S fn.results.toList = some p) (hv : PV.wk H S.A A v p) (hok : v.oks (fun i => H i ≠ none) (fun κ => A κ ≠ none)) (hw : Wf H A)
    (hH : ∀ i, H i ≠ none → S.H i = H i) (hA : ∀ κ, A κ ≠ none → S.A κ = A κ) : RetR P fn H A v H A S := by
  refine RetR_of hp hv hok hw (fun i es hi => ⟨es, by rw [hH i (by rw [hi]; simp), hi], wkC_same fun c hc => ok_mono (fun i h => h) (fun κ h => ⟨h, (hA κ h).symm⟩) (hw i es c hi hc)⟩) (fun κ => ?_) (fun _ h => h) (fun _ h => h)
  cases h : A κ with
  | none => exact .inl rfl
  | some ar => exact .inr (.inl (by rw [hA κ (by rw [h]; simp), h]))
end Go.PW

/-
  Closed facts on the types of this translation. Written by a program (gen_types.py).
-/



namespace Go.Proofs
open Go.PW
@[go_sem] theorem Try.cl2 : Try.prog.cellsOf 2 = 1 := by kernel_rfl
@[go_sem] theorem Try.by2 : Try.prog.bytesOf 2 = 8 := by kernel_rfl
attribute [go_sem] Try.underlying2
@[go_sem] theorem Try.ze2 : zeroOf Try.prog 2 = some [CV.d (D.lit (Value.int IntKind.i64 0))] := by kernel_rfl
@[go_sem] theorem Try.zo2 : zeroOK Try.prog 2 = true := by kernel_rfl
@[go_sem] theorem Try.cl3 : Try.prog.cellsOf 3 = 1 := by kernel_rfl
@[go_sem] theorem Try.by3 : Try.prog.bytesOf 3 = 8 := by kernel_rfl
attribute [go_sem] Try.underlying3
@[go_sem] theorem Try.ze3 : zeroOf Try.prog 3 = some [CV.d (D.lit (Value.int IntKind.i64 0))] := by kernel_rfl
@[go_sem] theorem Try.zo3 : zeroOK Try.prog 3 = true := by kernel_rfl
@[go_sem] theorem Try.cl4 : Try.prog.cellsOf 4 = 1 := by kernel_rfl
@[go_sem] theorem Try.by4 : Try.prog.bytesOf 4 = 1 := by kernel_rfl
attribute [go_sem] Try.underlying4
@[go_sem] theorem Try.ze4 : zeroOf Try.prog 4 = some [CV.d (D.lit (Value.bool false))] := by kernel_rfl
@[go_sem] theorem Try.zo4 : zeroOK Try.prog 4 = true := by kernel_rfl
@[go_sem] theorem Try.cl5 : Try.prog.cellsOf 5 = 1 := by kernel_rfl
@[go_sem] theorem Try.by5 : Try.prog.bytesOf 5 = 1 := by kernel_rfl
attribute [go_sem] Try.underlying5
@[go_sem] theorem Try.ze5 : zeroOf Try.prog 5 = some [CV.d (D.lit (Value.int IntKind.u8 0))] := by kernel_rfl
@[go_sem] theorem Try.zo5 : zeroOK Try.prog 5 = true := by kernel_rfl
@[go_sem] theorem Try.cl9 : Try.prog.cellsOf 9 = 1 := by kernel_rfl
@[go_sem] theorem Try.by9 : Try.prog.bytesOf 9 = 16 := by kernel_rfl
attribute [go_sem] Try.underlying9
@[go_sem] theorem Try.ze9 : zeroOf Try.prog 9 = some [CV.d (D.lit (Value.string ⟨#[]⟩))] := by kernel_rfl
@[go_sem] theorem Try.zo9 : zeroOK Try.prog 9 = true := by kernel_rfl
@[go_sem] theorem Try.cl12 : Try.prog.cellsOf 12 = 1 := by kernel_rfl
@[go_sem] theorem Try.by12 : Try.prog.bytesOf 12 = 8 := by kernel_rfl
attribute [go_sem] Try.underlying12
@[go_sem] theorem Try.ze12 : zeroOf Try.prog 12 = some [CV.d (D.lit (Value.int IntKind.u64 0))] := by kernel_rfl
@[go_sem] theorem Try.zo12 : zeroOK Try.prog 12 = true := by kernel_rfl
@[go_sem] theorem Try.cl13 : Try.prog.cellsOf 13 = 2 := by kernel_rfl
@[go_sem] theorem Try.by13 : Try.prog.bytesOf 13 = 24 := by kernel_rfl
attribute [go_sem] Try.underlying13
@[go_sem] theorem Try.ze13 : zeroOf Try.prog 13 = some [CV.d (D.lit (Value.string ⟨#[]⟩)), CV.d (D.lit (Value.int IntKind.u64 0))] := by kernel_rfl
@[go_sem] theorem Try.zo13 : zeroOK Try.prog 13 = true := by kernel_rfl
@[go_sem] theorem Try.pl13 : structPl Try.prog 13 = some [(0, 1), (1, 1)] := by kernel_rfl
attribute [go_sem] Try.stoodInHeld13 Try.eqGuardType13
@[go_sem] theorem Try.cl21 : Try.prog.cellsOf 21 = 1 := by kernel_rfl
@[go_sem] theorem Try.by21 : Try.prog.bytesOf 21 = 4 := by kernel_rfl
attribute [go_sem] Try.underlying21
@[go_sem] theorem Try.ze21 : zeroOf Try.prog 21 = some [CV.d (D.lit (Value.int IntKind.i32 0))] := by kernel_rfl
@[go_sem] theorem Try.zo21 : zeroOK Try.prog 21 = true := by kernel_rfl
@[go_sem] theorem Try.cl27 : Try.prog.cellsOf 27 = 1 := by kernel_rfl
@[go_sem] theorem Try.by27 : Try.prog.bytesOf 27 = 8 := by kernel_rfl
attribute [go_sem] Try.underlying27
@[go_sem] theorem Try.ze27 : zeroOf Try.prog 27 = some [CV.d (D.lit (Value.pointer none))] := by kernel_rfl
@[go_sem] theorem Try.zo27 : zeroOK Try.prog 27 = true := by kernel_rfl
@[go_sem] theorem Try.cl28 : Try.prog.cellsOf 28 = 1 := by kernel_rfl
@[go_sem] theorem Try.by28 : Try.prog.bytesOf 28 = 8 := by kernel_rfl
attribute [go_sem] Try.underlying28
@[go_sem] theorem Try.ze28 : zeroOf Try.prog 28 = some [CV.d (D.lit (Value.pointer none))] := by kernel_rfl
@[go_sem] theorem Try.zo28 : zeroOK Try.prog 28 = true := by kernel_rfl
@[go_sem] theorem Try.cl29 : Try.prog.cellsOf 29 = 1 := by kernel_rfl
@[go_sem] theorem Try.by29 : Try.prog.bytesOf 29 = 24 := by kernel_rfl
attribute [go_sem] Try.underlying29
@[go_sem] theorem Try.ze29 : zeroOf Try.prog 29 = some [CV.full []] := by kernel_rfl
@[go_sem] theorem Try.zo29 : zeroOK Try.prog 29 = true := by kernel_rfl
@[go_sem] theorem Try.cl30 : Try.prog.cellsOf 30 = 8 := by kernel_rfl
@[go_sem] theorem Try.by30 : Try.prog.bytesOf 30 = 80 := by kernel_rfl
attribute [go_sem] Try.underlying30
@[go_sem] theorem Try.ze30 : zeroOf Try.prog 30 = some [CV.d (D.lit (Value.pointer none)), CV.d (D.lit (Value.int IntKind.i64 0)), CV.d (D.lit (Value.int IntKind.i64 0)), CV.d (D.lit (Value.int IntKind.i64 0)), CV.d (D.lit (Value.int IntKind.i64 0)), CV.d (D.lit (Value.int IntKind.i64 0)), CV.full [], CV.d (D.lit (Value.bool false))] := by kernel_rfl
@[go_sem] theorem Try.zo30 : zeroOK Try.prog 30 = true := by kernel_rfl
@[go_sem] theorem Try.pl30 : structPl Try.prog 30 = some [(0, 1), (1, 1), (2, 1), (3, 1), (4, 1), (5, 1), (6, 1), (7, 1)] := by kernel_rfl
attribute [go_sem] Try.stoodInHeld30 Try.eqGuardType30
@[go_sem] theorem Try.cl31 : Try.prog.cellsOf 31 = 8 := by kernel_rfl
@[go_sem] theorem Try.by31 : Try.prog.bytesOf 31 = 80 := by kernel_rfl
attribute [go_sem] Try.underlying31
@[go_sem] theorem Try.ze31 : zeroOf Try.prog 31 = some [CV.d (D.lit (Value.pointer none)), CV.d (D.lit (Value.int IntKind.i64 0)), CV.d (D.lit (Value.int IntKind.i64 0)), CV.d (D.lit (Value.int IntKind.i64 0)), CV.d (D.lit (Value.int IntKind.i64 0)), CV.d (D.lit (Value.int IntKind.i64 0)), CV.full [], CV.d (D.lit (Value.bool false))] := by kernel_rfl
@[go_sem] theorem Try.zo31 : zeroOK Try.prog 31 = true := by kernel_rfl
@[go_sem] theorem Try.pl31 : structPl Try.prog 31 = some [(0, 1), (1, 1), (2, 1), (3, 1), (4, 1), (5, 1), (6, 1), (7, 1)] := by kernel_rfl
attribute [go_sem] Try.stoodInHeld31 Try.eqGuardType31
@[go_sem] theorem Try.cl32 : Try.prog.cellsOf 32 = 1 := by kernel_rfl
@[go_sem] theorem Try.by32 : Try.prog.bytesOf 32 = 8 := by kernel_rfl
attribute [go_sem] Try.underlying32
@[go_sem] theorem Try.ze32 : zeroOf Try.prog 32 = some [CV.d (D.lit (Value.int IntKind.i64 0))] := by kernel_rfl
@[go_sem] theorem Try.zo32 : zeroOK Try.prog 32 = true := by kernel_rfl
@[go_sem] theorem Try.cl44 : Try.prog.cellsOf 44 = 1 := by kernel_rfl
@[go_sem] theorem Try.by44 : Try.prog.bytesOf 44 = 24 := by kernel_rfl
attribute [go_sem] Try.underlying44
@[go_sem] theorem Try.ze44 : zeroOf Try.prog 44 = some [CV.full []] := by kernel_rfl
@[go_sem] theorem Try.zo44 : zeroOK Try.prog 44 = true := by kernel_rfl
@[go_sem] theorem Try.cl45 : Try.prog.cellsOf 45 = 1 := by kernel_rfl
@[go_sem] theorem Try.by45 : Try.prog.bytesOf 45 = 24 := by kernel_rfl
attribute [go_sem] Try.underlying45
@[go_sem] theorem Try.ze45 : zeroOf Try.prog 45 = some [CV.full []] := by kernel_rfl
@[go_sem] theorem Try.zo45 : zeroOK Try.prog 45 = true := by kernel_rfl
@[go_sem] theorem Try.cl46 : Try.prog.cellsOf 46 = 4 := by kernel_rfl
@[go_sem] theorem Try.by46 : Try.prog.bytesOf 46 = 56 := by kernel_rfl
attribute [go_sem] Try.underlying46
@[go_sem] theorem Try.ze46 : zeroOf Try.prog 46 = some [CV.d (D.lit (Value.int IntKind.i64 0)), CV.d (D.lit (Value.int IntKind.i64 0)), CV.d (D.lit (Value.string ⟨#[]⟩)), CV.full []] := by kernel_rfl
@[go_sem] theorem Try.zo46 : zeroOK Try.prog 46 = true := by kernel_rfl
@[go_sem] theorem Try.pl46 : structPl Try.prog 46 = some [(0, 1), (1, 1), (2, 1), (3, 1)] := by kernel_rfl
attribute [go_sem] Try.stoodInHeld46 Try.eqGuardType46
@[go_sem] theorem Try.cl47 : Try.prog.cellsOf 47 = 4 := by kernel_rfl
@[go_sem] theorem Try.by47 : Try.prog.bytesOf 47 = 56 := by kernel_rfl
attribute [go_sem] Try.underlying47
@[go_sem] theorem Try.ze47 : zeroOf Try.prog 47 = some [CV.d (D.lit (Value.int IntKind.i64 0)), CV.d (D.lit (Value.int IntKind.i64 0)), CV.d (D.lit (Value.string ⟨#[]⟩)), CV.full []] := by kernel_rfl
@[go_sem] theorem Try.zo47 : zeroOK Try.prog 47 = true := by kernel_rfl
@[go_sem] theorem Try.pl47 : structPl Try.prog 47 = some [(0, 1), (1, 1), (2, 1), (3, 1)] := by kernel_rfl
attribute [go_sem] Try.stoodInHeld47 Try.eqGuardType47
@[go_sem] theorem Try.cl49 : Try.prog.cellsOf 49 = 1 := by kernel_rfl
@[go_sem] theorem Try.by49 : Try.prog.bytesOf 49 = 24 := by kernel_rfl
attribute [go_sem] Try.underlying49
@[go_sem] theorem Try.ze49 : zeroOf Try.prog 49 = some [CV.full []] := by kernel_rfl
@[go_sem] theorem Try.zo49 : zeroOK Try.prog 49 = true := by kernel_rfl
@[go_sem] theorem Try.cl56 : Try.prog.cellsOf 56 = 1 := by kernel_rfl
@[go_sem] theorem Try.by56 : Try.prog.bytesOf 56 = 24 := by kernel_rfl
attribute [go_sem] Try.underlying56
@[go_sem] theorem Try.ze56 : zeroOf Try.prog 56 = some [CV.full []] := by kernel_rfl
@[go_sem] theorem Try.zo56 : zeroOK Try.prog 56 = true := by kernel_rfl
@[go_sem] theorem Try.cl64 : Try.prog.cellsOf 64 = 1 := by kernel_rfl
@[go_sem] theorem Try.by64 : Try.prog.bytesOf 64 = 8 := by kernel_rfl
attribute [go_sem] Try.underlying64
@[go_sem] theorem Try.ze64 : zeroOf Try.prog 64 = some [CV.d (D.lit (Value.map none))] := by kernel_rfl
@[go_sem] theorem Try.zo64 : zeroOK Try.prog 64 = true := by kernel_rfl
@[go_sem] theorem Try.cl65 : Try.prog.cellsOf 65 = 1 := by kernel_rfl
@[go_sem] theorem Try.by65 : Try.prog.bytesOf 65 = 24 := by kernel_rfl
attribute [go_sem] Try.underlying65
@[go_sem] theorem Try.ze65 : zeroOf Try.prog 65 = some [CV.full []] := by kernel_rfl
@[go_sem] theorem Try.zo65 : zeroOK Try.prog 65 = true := by kernel_rfl
@[go_sem] theorem Try.cl66 : Try.prog.cellsOf 66 = 7 := by kernel_rfl
@[go_sem] theorem Try.by66 : Try.prog.bytesOf 66 = 72 := by kernel_rfl
attribute [go_sem] Try.underlying66
@[go_sem] theorem Try.ze66 : zeroOf Try.prog 66 = some [CV.d (D.lit (Value.int IntKind.i64 0)), CV.d (D.lit (Value.map none)), CV.full [], CV.d (D.lit (Value.int IntKind.i64 0)), CV.d (D.lit (Value.int IntKind.i64 0)), CV.d (D.lit (Value.bool false)), CV.d (D.lit (Value.int IntKind.i64 0))] := by kernel_rfl
@[go_sem] theorem Try.zo66 : zeroOK Try.prog 66 = true := by kernel_rfl
@[go_sem] theorem Try.pl66 : structPl Try.prog 66 = some [(0, 1), (1, 1), (2, 1), (3, 1), (4, 1), (5, 1), (6, 1)] := by kernel_rfl
attribute [go_sem] Try.stoodInHeld66 Try.eqGuardType66
@[go_sem] theorem Try.cl67 : Try.prog.cellsOf 67 = 7 := by kernel_rfl
@[go_sem] theorem Try.by67 : Try.prog.bytesOf 67 = 72 := by kernel_rfl
attribute [go_sem] Try.underlying67
@[go_sem] theorem Try.ze67 : zeroOf Try.prog 67 = some [CV.d (D.lit (Value.int IntKind.i64 0)), CV.d (D.lit (Value.map none)), CV.full [], CV.d (D.lit (Value.int IntKind.i64 0)), CV.d (D.lit (Value.int IntKind.i64 0)), CV.d (D.lit (Value.bool false)), CV.d (D.lit (Value.int IntKind.i64 0))] := by kernel_rfl
@[go_sem] theorem Try.zo67 : zeroOK Try.prog 67 = true := by kernel_rfl
@[go_sem] theorem Try.pl67 : structPl Try.prog 67 = some [(0, 1), (1, 1), (2, 1), (3, 1), (4, 1), (5, 1), (6, 1)] := by kernel_rfl
attribute [go_sem] Try.stoodInHeld67 Try.eqGuardType67
@[go_sem] theorem Try.cl69 : Try.prog.cellsOf 69 = 2 := by kernel_rfl
@[go_sem] theorem Try.by69 : Try.prog.bytesOf 69 = 24 := by kernel_rfl
attribute [go_sem] Try.underlying69
@[go_sem] theorem Try.ze69 : zeroOf Try.prog 69 = some [CV.d (D.lit (Value.int IntKind.i64 0)), CV.d (D.lit (Value.string ⟨#[]⟩))] := by kernel_rfl
@[go_sem] theorem Try.zo69 : zeroOK Try.prog 69 = true := by kernel_rfl
@[go_sem] theorem Try.pl69 : structPl Try.prog 69 = some [(0, 1), (1, 1)] := by kernel_rfl
attribute [go_sem] Try.stoodInHeld69 Try.eqGuardType69
@[go_sem] theorem Try.cl70 : Try.prog.cellsOf 70 = 2 := by kernel_rfl
@[go_sem] theorem Try.by70 : Try.prog.bytesOf 70 = 24 := by kernel_rfl
attribute [go_sem] Try.underlying70
@[go_sem] theorem Try.ze70 : zeroOf Try.prog 70 = some [CV.d (D.lit (Value.int IntKind.i64 0)), CV.d (D.lit (Value.string ⟨#[]⟩))] := by kernel_rfl
@[go_sem] theorem Try.zo70 : zeroOK Try.prog 70 = true := by kernel_rfl
@[go_sem] theorem Try.pl70 : structPl Try.prog 70 = some [(0, 1), (1, 1)] := by kernel_rfl
attribute [go_sem] Try.stoodInHeld70 Try.eqGuardType70
@[go_sem] theorem Try.cl71 : Try.prog.cellsOf 71 = 1 := by kernel_rfl
@[go_sem] theorem Try.by71 : Try.prog.bytesOf 71 = 4 := by kernel_rfl
attribute [go_sem] Try.underlying71
@[go_sem] theorem Try.ze71 : zeroOf Try.prog 71 = some [CV.d (D.lit (Value.int IntKind.u32 0))] := by kernel_rfl
@[go_sem] theorem Try.zo71 : zeroOK Try.prog 71 = true := by kernel_rfl
@[go_sem] theorem Try.cl73 : Try.prog.cellsOf 73 = 1 := by kernel_rfl
@[go_sem] theorem Try.by73 : Try.prog.bytesOf 73 = 8 := by kernel_rfl
attribute [go_sem] Try.underlying73
@[go_sem] theorem Try.ze73 : zeroOf Try.prog 73 = some [CV.d (D.lit (Value.int IntKind.u64 0))] := by kernel_rfl
@[go_sem] theorem Try.zo73 : zeroOK Try.prog 73 = true := by kernel_rfl
@[go_sem] theorem Try.cl77 : Try.prog.cellsOf 77 = 1 := by kernel_rfl
@[go_sem] theorem Try.by77 : Try.prog.bytesOf 77 = 8 := by kernel_rfl
attribute [go_sem] Try.underlying77
@[go_sem] theorem Try.ze77 : zeroOf Try.prog 77 = some [CV.d (D.lit (Value.pointer none))] := by kernel_rfl
@[go_sem] theorem Try.zo77 : zeroOK Try.prog 77 = true := by kernel_rfl
@[go_sem] theorem Try.cl79 : Try.prog.cellsOf 79 = 1 := by kernel_rfl
@[go_sem] theorem Try.by79 : Try.prog.bytesOf 79 = 8 := by kernel_rfl
attribute [go_sem] Try.underlying79
@[go_sem] theorem Try.ze79 : zeroOf Try.prog 79 = some [CV.d (D.lit (Value.int IntKind.u64 0))] := by kernel_rfl
@[go_sem] theorem Try.zo79 : zeroOK Try.prog 79 = true := by kernel_rfl
@[go_sem] theorem Try.cl81 : Try.prog.cellsOf 81 = 4 := by kernel_rfl
@[go_sem] theorem Try.by81 : Try.prog.bytesOf 81 = 48 := by kernel_rfl
attribute [go_sem] Try.underlying81
@[go_sem] theorem Try.ze81 : zeroOf Try.prog 81 = some [CV.d (D.lit (Value.int IntKind.i64 0)), CV.d (D.lit (Value.string ⟨#[]⟩)), CV.d (D.lit (Value.string ⟨#[]⟩)), CV.d (D.lit (Value.bool false))] := by kernel_rfl
@[go_sem] theorem Try.zo81 : zeroOK Try.prog 81 = true := by kernel_rfl
@[go_sem] theorem Try.pl81 : structPl Try.prog 81 = some [(0, 1), (1, 1), (2, 1), (3, 1)] := by kernel_rfl
attribute [go_sem] Try.stoodInHeld81 Try.eqGuardType81
@[go_sem] theorem Try.cl82 : Try.prog.cellsOf 82 = 4 := by kernel_rfl
@[go_sem] theorem Try.by82 : Try.prog.bytesOf 82 = 48 := by kernel_rfl
attribute [go_sem] Try.underlying82
@[go_sem] theorem Try.ze82 : zeroOf Try.prog 82 = some [CV.d (D.lit (Value.int IntKind.i64 0)), CV.d (D.lit (Value.string ⟨#[]⟩)), CV.d (D.lit (Value.string ⟨#[]⟩)), CV.d (D.lit (Value.bool false))] := by kernel_rfl
@[go_sem] theorem Try.zo82 : zeroOK Try.prog 82 = true := by kernel_rfl
@[go_sem] theorem Try.pl82 : structPl Try.prog 82 = some [(0, 1), (1, 1), (2, 1), (3, 1)] := by kernel_rfl
attribute [go_sem] Try.stoodInHeld82 Try.eqGuardType82
@[go_sem] theorem Try.cl88 : Try.prog.cellsOf 88 = 3 := by kernel_rfl
@[go_sem] theorem Try.by88 : Try.prog.bytesOf 88 = 32 := by kernel_rfl
attribute [go_sem] Try.underlying88
@[go_sem] theorem Try.ze88 : zeroOf Try.prog 88 = some [CV.d (D.lit (Value.string ⟨#[]⟩)), CV.d (D.lit (Value.int IntKind.i64 0)), CV.d (D.lit (Value.int IntKind.i64 0))] := by kernel_rfl
@[go_sem] theorem Try.zo88 : zeroOK Try.prog 88 = true := by kernel_rfl
@[go_sem] theorem Try.pl88 : structPl Try.prog 88 = some [(0, 1), (1, 1), (2, 1)] := by kernel_rfl
attribute [go_sem] Try.stoodInHeld88 Try.eqGuardType88
@[go_sem] theorem Try.cl89 : Try.prog.cellsOf 89 = 3 := by kernel_rfl
@[go_sem] theorem Try.by89 : Try.prog.bytesOf 89 = 32 := by kernel_rfl
attribute [go_sem] Try.underlying89
@[go_sem] theorem Try.ze89 : zeroOf Try.prog 89 = some [CV.d (D.lit (Value.string ⟨#[]⟩)), CV.d (D.lit (Value.int IntKind.i64 0)), CV.d (D.lit (Value.int IntKind.i64 0))] := by kernel_rfl
@[go_sem] theorem Try.zo89 : zeroOK Try.prog 89 = true := by kernel_rfl
@[go_sem] theorem Try.pl89 : structPl Try.prog 89 = some [(0, 1), (1, 1), (2, 1)] := by kernel_rfl
attribute [go_sem] Try.stoodInHeld89 Try.eqGuardType89
@[go_sem] theorem Try.cl92 : Try.prog.cellsOf 92 = 256 := by kernel_rfl
@[go_sem] theorem Try.by92 : Try.prog.bytesOf 92 = 1024 := by kernel_rfl
attribute [go_sem] Try.underlying92
@[go_sem] theorem Try.cl94 : Try.prog.cellsOf 94 = 1 := by kernel_rfl
@[go_sem] theorem Try.by94 : Try.prog.bytesOf 94 = 8 := by kernel_rfl
attribute [go_sem] Try.underlying94
@[go_sem] theorem Try.ze94 : zeroOf Try.prog 94 = some [CV.d (D.lit (Value.int IntKind.i64 0))] := by kernel_rfl
@[go_sem] theorem Try.zo94 : zeroOK Try.prog 94 = true := by kernel_rfl
@[go_sem] theorem Try.pl94 : structPl Try.prog 94 = some [(0, 1)] := by kernel_rfl
attribute [go_sem] Try.stoodInHeld94 Try.eqGuardType94
@[go_sem] theorem Try.cl95 : Try.prog.cellsOf 95 = 1 := by kernel_rfl
@[go_sem] theorem Try.by95 : Try.prog.bytesOf 95 = 8 := by kernel_rfl
attribute [go_sem] Try.underlying95
@[go_sem] theorem Try.ze95 : zeroOf Try.prog 95 = some [CV.d (D.lit (Value.int IntKind.i64 0))] := by kernel_rfl
@[go_sem] theorem Try.zo95 : zeroOK Try.prog 95 = true := by kernel_rfl
@[go_sem] theorem Try.pl95 : structPl Try.prog 95 = some [(0, 1)] := by kernel_rfl
attribute [go_sem] Try.stoodInHeld95 Try.eqGuardType95
@[go_sem] theorem Try.cl99 : Try.prog.cellsOf 99 = 0 := by kernel_rfl
@[go_sem] theorem Try.by99 : Try.prog.bytesOf 99 = 0 := by kernel_rfl
attribute [go_sem] Try.underlying99
@[go_sem] theorem Try.ze99 : zeroOf Try.prog 99 = some [] := by kernel_rfl
@[go_sem] theorem Try.zo99 : zeroOK Try.prog 99 = true := by kernel_rfl
@[go_sem] theorem Try.cl100 : Try.prog.cellsOf 100 = 0 := by kernel_rfl
@[go_sem] theorem Try.by100 : Try.prog.bytesOf 100 = 0 := by kernel_rfl
attribute [go_sem] Try.underlying100
@[go_sem] theorem Try.ze100 : zeroOf Try.prog 100 = some [] := by kernel_rfl
@[go_sem] theorem Try.zo100 : zeroOK Try.prog 100 = true := by kernel_rfl
@[go_sem] theorem Try.pl100 : structPl Try.prog 100 = some [(0, 0)] := by kernel_rfl
attribute [go_sem] Try.stoodInHeld100 Try.eqGuardType100
@[go_sem] theorem Try.cl105 : Try.prog.cellsOf 105 = 1 := by kernel_rfl
@[go_sem] theorem Try.by105 : Try.prog.bytesOf 105 = 8 := by kernel_rfl
attribute [go_sem] Try.underlying105
@[go_sem] theorem Try.ze105 : zeroOf Try.prog 105 = some [CV.d (D.lit (Value.pointer none))] := by kernel_rfl
@[go_sem] theorem Try.zo105 : zeroOK Try.prog 105 = true := by kernel_rfl
@[go_sem] theorem Try.cl110 : Try.prog.cellsOf 110 = 1 := by kernel_rfl
@[go_sem] theorem Try.by110 : Try.prog.bytesOf 110 = 8 := by kernel_rfl
attribute [go_sem] Try.underlying110
@[go_sem] theorem Try.ze110 : zeroOf Try.prog 110 = some [CV.d (D.lit (Value.pointer none))] := by kernel_rfl
@[go_sem] theorem Try.zo110 : zeroOK Try.prog 110 = true := by kernel_rfl
end Go.Proofs

/-
  Wal: numbers and texts as the abstract machine has them.
-/

namespace Go.Proofs
open Go.PW

def dB (b : Bool) : RT := .d (.lit (.bool b))
def pA (x : List D) : PV := .agg (x.map .d)
def pD (x : D) : PV := .c (.d x)
@[go_sem] theorem pA_eq (x : List D) : pA x = .agg (x.map .d) := rfl
@[go_sem] theorem pD_eq (x : D) : pD x = .c (.d x) := rfl
@[go_sem] theorem dB_eq (b : Bool) : dB b = .d (.lit (.bool b)) := rfl
/-- A text. -/
def dS (l : List UInt8) : D := .lit (.string ⟨l.toArray⟩)
def dI (n : Int) : D := .lit (.int .i64 n)
@[go_sem] theorem dS_eq (l : List UInt8) : dS l = .lit (.string ⟨l.toArray⟩) := rfl
@[go_sem] theorem dI_eq (n : Int) : dI n = .lit (.int .i64 n) := rfl

theorem Try.mixed : Try.prog.follows .mixedOrders = true := by kernel_rfl
/-- Of functions that take data. -/
theorem Try.pure {f : FuncId} {fn : Func} {c : Code} {md : List Nat} (hf : Try.prog.funcs[f]? = some fn) (hb : fn.body = some c) (hext : ∀ (args : Array Value) (w : World), (callFunc f args).run Try.prog w = .ok (.enter f args) w)
    (hc : codeOK (envOf Try.prog [] 0 md []) fn.ntmps c = true) {args : List PV} (hcl : args.all PV.closed = true) (hn : args.length ≤ fn.ntmps) {r : RV}
    (h : VC (envOf Try.prog [] 0 md []) noH noA c ⟨Ret Try.prog fn r, Ret Try.prog fn r, fun _ _ => False⟩ ⟨entry args, noH, noA⟩) : PureOK Try.prog f args r :=
  pure_ok (envOf_ok Try.mixed) hf hb hext hc hcl hn h

@[go_sem] theorem Try.bytesT : isBytes Try.prog 56 = true := by kernel_rfl
@[go_sem] theorem Try.strT : isStr Try.prog 9 = true := by kernel_rfl
theorem Try.appBytes : AppT Try.prog 56 5 1 1 := ⟨Try.underlying56, Try.cl5, Try.by5, Try.zo5, by decide, by decide⟩
theorem take_next {α : Type} {l : List α} {i : Nat} {x : α} (h : l[i]? = some x) : l.take (i + 1) = l.take i ++ [x] := by rw [List.take_add_one, h]; rfl
end Go.Proofs
