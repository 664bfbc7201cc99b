/-
  The abstract machine: functions that share variables with their caller; small tools.
-/
import Derived.Test.YtgpmdeembgohdaaPwP
namespace Go.PW
variable {P : Program} {g : Gh} {H : HMap} {A : AMap} {w : World}

def resPV (P : Program) (S : St) : List ResultVar → Option PV
  | [] => some (.c .any)
  | [v] => resOne P S v
  | _ => none

def RetE (P : Program) (fn : Func) (H : HMap) (A : AMap) (v : PV) (H' : HMap) (A' : AMap) (S : St) : Prop :=
  ∃ p, resPV P S fn.results.toList = some p ∧ Weak H A ⟨fun _ => p, S.H, S.A⟩ ⟨fun _ => v, H', A'⟩

theorem resPV_ok (hm : MRel g H A w) {S : St} (hS : S.H = H ∧ S.A = A) {a : Act} (hf : FRep g A S.ρ a) {vs : List ResultVar} {p : PV} (h : resPV P S vs = some p) :
    ∃ us, (vs.mapM (resV1 a.tmps)).run P w = .ok us w ∧ PRep g A p (joinV us) := by
  obtain ⟨hSH, hSA⟩ := hS
  match vs, h with
  | [], h => cases h; exact ⟨[], rfl, True.intro⟩
  | [.tmp t], h =>
    cases h
    exact ⟨[a.tmps.getD t undef], rfl, hf t⟩
  | [.cell t T], h =>
    have h : loadS P none S.H S.A T (S.ρ t) = some p := h
    rw [hSH, hSA] at h
    obtain ⟨X, hX, hpr⟩ := load_ok (P := P) hm (hf t) h
    refine ⟨[X], ?_, hpr⟩
    have h1 : (resV1 a.tmps (.cell t T)).run P w = .ok X w := by
      show (do loadVar T (← asAddr (a.tmps.getD t undef)) : Sem Value).run P w = _
      unfold Instr.loadAt at hX
      simp only [Sem.run_bind] at hX ⊢
      generalize a.tmps.getD t undef = x at *
      cases x <;> first | (simp [Instr.sureAddr] at hX; done) | skip
      rename_i ad
      cases ad with
      | none => simp [Instr.sureAddr] at hX
      | some ad => exact hX
    rw [List.mapM_cons, Sem.run_bind, h1]
    rfl

theorem eff_ok {E : Env} (hE : EnvOK E) {f : FuncId} {fn : Func} {c : Code} (hf : E.P.funcs[f]? = some fn) (hb : fn.body = some c) (hext : ∀ (args : Array Value) (w : World), (callFunc f args).run E.P w = .ok (.enter f args) w)
    (hc : codeOK E fn.ntmps c = true) {args : List PV} (hn : args.length ≤ fn.ntmps) {off : Nat} {v : PV} {H' : HMap} {A' : AMap}
    (h : Above off H A → VC E H A c ⟨RetE E.P fn H A v H' A', RetE E.P fn H A v H' A', fun _ _ => False⟩ ⟨entry args, H, A⟩) : EffOK E.P f off H A args v H' A' := by
  intro g w vals hm hd hab har
  refine .inl ⟨hext vals w, ?_⟩
  refine calls_of_wp hf hb ?_
  have hvl : vals.size = args.length := by rw [← Array.length_toList]; exact har.1
  have hrs : RS fn.ntmps g A w ⟨entry args, H, A⟩ { tmps := vals ++ Array.replicate (fn.ntmps - vals.size) undef, defers := [] } w := by
    refine ⟨g, hm, hd, fun t => ?_, .refl _ _ _, by simp; omega, rfl⟩
    show PRep g A ((args[t]?).getD (.c .any)) _
    cases ht : args[t]? with
    | none => exact True.intro
    | some x =>
      obtain ⟨v, hv, hp⟩ := har.2 t x ht
      have hlt := (List.getElem?_eq_some_iff.1 ht).1
      rw [Array.getD_eq_getD_getElem?, Array.getElem?_append, if_pos (by omega)]
      rw [Array.getElem?_toList] at hv
      rw [hv]
      exact hp
  refine wp_mono (code_ok hE hd c hc _ _ _ w (h hab) hrs) (fun e a' w' hq => ?_)
  have fin : (∃ S, RS fn.ntmps g A w S a' w' ∧ RetE E.P fn H A v H' A' S) → a'.defers = [] ∧ ∃ u, (results fn a'.tmps).run E.P w' = .ok u w' ∧
      ∃ u_1, Ending.returned u = .returned u_1 ∧ ∃ g', PRep g' A' v u_1 ∧ MRel g' H' A' w' ∧ Evol g A w g' A' w' ∧ DomOK g' H' := by
    rintro ⟨S, ⟨g1, hm1, hd1, hfr, he, hnn, hdf⟩, p, hp, hw⟩
    obtain ⟨us, h1, h2⟩ := resPV_ok hm1 ⟨rfl, rfl⟩ hfr hp
    obtain ⟨g', m1, m2, m3, m4⟩ := weak_mem (S := ⟨fun _ => p, S.H, S.A⟩) hd hw hm1 he
    exact ⟨hdf, _, run_results fn a'.tmps h1, _, rfl, g', m4 0 _ h2, m1, m3, m2⟩
  cases e with
  | normal => exact fin hq
  | ret => exact fin hq
  | exit id => obtain ⟨S, _, hq⟩ := hq; exact hq.elim
  | _ => exact hq.elim

/-! For the reckoning. -/
theorem upd_apply {α β : Type} [DecidableEq α] (f : α → β) (a x : α) (b : β) : upd f a b x = if x = a then b else f x := rfl

theorem Above_none (n : Nat) : Above n noH noA := fun _ _ => ⟨rfl, fun _ => rfl⟩
theorem Above_updH {n id : Nat} {cs : List CV} (h : Above n H A) (hid : id < n) : Above n (upd H id (some cs)) A := fun i hi => ⟨by rw [upd_other _ _ (by omega)]; exact (h i hi).1, (h i hi).2⟩
theorem Above_updA {n : Nat} {κ : Tok} {ar : Arr} (h : Above n H A) (hid : κ.1 < n) : Above n H (upd A κ (some ar)) := fun i hi => ⟨(h i hi).1, fun k => by rw [upd_other _ _ (by intro e; rw [← e] at hid; simp at hid; omega)]; exact (h i hi).2 k⟩
theorem Above_mono {n m : Nat} (h : Above n H A) (hm : n ≤ m) : Above m H A := fun i hi => h i (by omega)

/-- A sequence: what follows stands behind a name. -/
theorem VC_seq {E : Env} {H0 : HMap} {A0 : AMap} {a b : Code} {Q : Post} {S : St} (h : ∀ K : St → Prop, (∀ S, VC E H0 A0 b Q S → K S) → VC E H0 A0 a ⟨K, Q.ret, Q.ext⟩ S) : VC E H0 A0 (.seq a b) Q S := h _ fun _ h => h

theorem VC_region {E : Env} {H0 : HMap} {A0 : AMap} {id : Nat} {l : List Oper} {draw : Bool} {Q : Post} {S : St} (h : RunV E (fbOf E id l.toArray draw) l.toArray l S Q.nrm) : VC E H0 A0 (.region id l.toArray draw) Q S := by
  show RunV E _ _ l.toArray.toList S Q.nrm
  rw [List.toList_toArray]
  exact h

theorem VC_cond {E : Env} {H0 : HMap} {A0 : AMap} {c : Operand} {x y : Code} {Q : Post} {S : St} (b : Bool) (hb : boolOf? (ev S.ρ c) = some b) (ht : b = true → VC E H0 A0 x Q S) (hf : b = false → VC E H0 A0 y Q S) : VC E H0 A0 (.cond c x y) Q S :=
  Opt.iff.2 ⟨b, hb, ht, hf⟩

theorem VC_block {E : Env} {H0 : HMap} {A0 : AMap} {id : Nat} {c : Code} {Q : Post} {S : St} (h : VC E H0 A0 c ⟨Q.nrm, Q.ret, fun j S' => if j = id then Q.nrm S' else Q.ext j S'⟩ S) : VC E H0 A0 (.block id c) Q S := h

theorem VC_loop {E : Env} {H0 : HMap} {A0 : AMap} {c : Code} {Q : Post} {S : St} {ι : Type} (F : ι → St) (μ : ι → Nat) (i0 : ι) (h0 : Weak H0 A0 S (F i0))
    (h : ∀ i, VC E H0 A0 c ⟨fun S' => ∃ j, Weak H0 A0 S' (F j) ∧ μ j < μ i, Q.ret, Q.ext⟩ (F i)) : VC E H0 A0 (.loop c) Q S := ⟨ι, F, μ, ⟨i0, h0⟩, h⟩

end Go.PW
