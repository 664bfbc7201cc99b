import Derived.Test.YtcdiifnnnnnceaaQ09
import Derived.IntWalk

/-
  The abstract machine: functions that share variables with their caller; small tools.
-/

namespace Go.PW
variable {P : Program} {g : Gh} {H : HMap} {A : AMap} {w : World}

def resPV (P : Program) (S : St) : List ResultVar → Option PV
  | [] => some (.c .any)
  | [v] => resOne P S v
  | _ => none

def RetE (P : Program) (fn : Func) (H : HMap) (A : AMap) (v : PV) (H' : HMap) (A' : AMap) (S : St) : Prop :=
  ∃ p, resPV P S fn.results.toList = some p ∧ Weak H A ⟨fun _ => p, S.H, S.A⟩ ⟨fun _ => v, H', A'⟩

theorem resPV_ok (hm : MRel g H A w) {S : St} (hS : S.H = H ∧ S.A = A) {a : Act} (hf : FRep g A S.ρ a) {vs : List ResultVar} {p : PV} (h : resPV P S vs = some p) :
    ∃ us, (vs.mapM (resV1 a.tmps)).run P w = .ok us w ∧ PRep g A p (joinV us) := by
  obtain ⟨hSH, hSA⟩ := hS
  match vs, h with
  | [], h => cases h; exact ⟨[], rfl, True.intro⟩
  | [.tmp t], h =>
    cases h
    exact ⟨[a.tmps.getD t undef], rfl, hf t⟩
  | [.cell t T], h =>
    have h : loadS P none S.H S.A T (S.ρ t) = some p := h
    rw [hSH, hSA] at h
    obtain ⟨X, hX, hpr⟩ := load_ok (P := P) hm (hf t) h
    refine ⟨[X], ?_, hpr⟩
    have h1 : (resV1 a.tmps (.cell t T)).run P w = .ok X w := by
      show (do loadVar T (← asAddr (a.tmps.getD t undef)) : Sem Value).run P w = _
      unfold Instr.loadAt at hX
      simp only [Sem.run_bind] at hX ⊢
      generalize a.tmps.getD t undef = x at *
      cases x <;> first | (simp [Instr.sureAddr] at hX; done) | skip
      rename_i ad
      cases ad with
      | none => simp [Instr.sureAddr] at hX
      | some ad => exact hX
    rw [List.mapM_cons, Sem.run_bind, h1]
    rfl

theorem eff_ok {E : Env} (hE : EnvOK E) {f : FuncId} {fn : Func} {c : Code} (hf : E.P.funcs[f]? = some fn) (hb : fn.body = some c) (hext : ∀ (args : Array Value) (w : World), (callFunc f args).run E.P w = .ok (.enter f args) w)
    (hc : codeOK E fn.ntmps c = true) {args : List PV} (hn : args.length ≤ fn.ntmps) {off : Nat} {v : PV} {H' : HMap} {A' : AMap}
    (h : Above off H A → VC E H A c ⟨RetE E.P fn H A v H' A', RetE E.P fn H A v H' A', fun _ _ => False⟩ ⟨entry args, H, A⟩) : EffOK E.P f off H A args v H' A' := by
  intro g w vals hm hd hab har
  refine .inl ⟨hext vals w, ?_⟩
  refine calls_of_wp hf hb ?_
  have hvl : vals.size = args.length := by rw [← Array.length_toList]; exact har.1
  have hrs : RS fn.ntmps g A w ⟨entry args, H, A⟩ { tmps := vals ++ Array.replicate (fn.ntmps - vals.size) undef, defers := [] } w := by
    refine ⟨g, hm, hd, fun t => ?_, .refl _ _ _, by simp; omega, rfl⟩
    show PRep g A ((args[t]?).getD (.c .any)) _
    cases ht : args[t]? with
    | none => exact True.intro
    | some x =>
      obtain ⟨v, hv, hp⟩ := har.2 t x ht
      have hlt := (List.getElem?_eq_some_iff.1 ht).1
      rw [Array.getD_eq_getD_getElem?, Array.getElem?_append, if_pos (by omega)]
      rw [Array.getElem?_toList] at hv
      rw [hv]
      exact hp
  refine wp_mono (code_ok hE hd c hc _ _ _ w (h hab) hrs) (fun e a' w' hq => ?_)
  have fin : (∃ S, RS fn.ntmps g A w S a' w' ∧ RetE E.P fn H A v H' A' S) → a'.defers = [] ∧ ∃ u, (results fn a'.tmps).run E.P w' = .ok u w' ∧
      ∃ u_1, Ending.returned u = .returned u_1 ∧ ∃ g', PRep g' A' v u_1 ∧ MRel g' H' A' w' ∧ Evol g A w g' A' w' ∧ DomOK g' H' := by
    rintro ⟨S, ⟨g1, hm1, hd1, hfr, he, hnn, hdf⟩, p, hp, hw⟩
    obtain ⟨us, h1, h2⟩ := resPV_ok hm1 ⟨rfl, rfl⟩ hfr hp
    obtain ⟨g', m1, m2, m3, m4⟩ := weak_mem (S := ⟨fun _ => p, S.H, S.A⟩) hd hw hm1 he
    exact ⟨hdf, _, run_results fn a'.tmps h1, _, rfl, g', m4 0 _ h2, m1, m3, m2⟩
  cases e with
  | normal => exact fin hq
  | ret => exact fin hq
  | exit id => obtain ⟨S, _, hq⟩ := hq; exact hq.elim
  | _ => exact hq.elim

/-! For the reckoning. -/
theorem upd_apply {α β : Type} [DecidableEq α] (f : α → β) (a x : α) (b : β) : upd f a b x = if x = a then b else f x := rfl

theorem Above_none (n : Nat) : Above n noH noA := fun _ _ => ⟨rfl, fun _ => rfl⟩
theorem Above_updH {n id : Nat} {cs : List CV} (h : Above n H A) (hid : id < n) : Above n (upd H id (some cs)) A := fun i hi => ⟨by rw [upd_other _ _ (by omega)]; exact (h i hi).1, (h i hi).2⟩
theorem Above_updA {n : Nat} {κ : Tok} {ar : Arr} (h : Above n H A) (hid : κ.1 < n) : Above n H (upd A κ (some ar)) := fun i hi => ⟨(h i hi).1, fun k => by rw [upd_other _ _ (by intro e; rw [← e] at hid; simp at hid; omega)]; exact (h i hi).2 k⟩
theorem Above_mono {n m : Nat} (h : Above n H A) (hm : n ≤ m) : Above m H A := fun i hi => h i (by omega)

/-- A sequence: what follows stands behind a name. -/
theorem VC_seq {E : Env} {H0 : HMap} {A0 : AMap} {a b : Code} {Q : Post} {S : St} (h : ∀ K : St → Prop, (∀ S, VC E H0 A0 b Q S → K S) → VC E H0 A0 a ⟨K, Q.ret, Q.ext⟩ S) : VC E H0 A0 (.seq a b) Q S := h _ fun _ h => h

theorem VC_region {E : Env} {H0 : HMap} {A0 : AMap} {id : Nat} {l : List Oper} {draw : Bool} {Q : Post} {S : St} (h : RunV E (fbOf E id l.toArray draw) l.toArray l S Q.nrm) : VC E H0 A0 (.region id l.toArray draw) Q S := by
  show RunV E _ _ l.toArray.toList S Q.nrm
  rw [List.toList_toArray]
  exact h

theorem VC_cond {E : Env} {H0 : HMap} {A0 : AMap} {c : Operand} {x y : Code} {Q : Post} {S : St} (b : Bool) (hb : boolOf? (ev S.ρ c) = some b) (ht : b = true → VC E H0 A0 x Q S) (hf : b = false → VC E H0 A0 y Q S) : VC E H0 A0 (.cond c x y) Q S :=
  Opt.iff.2 ⟨b, hb, ht, hf⟩

theorem VC_block {E : Env} {H0 : HMap} {A0 : AMap} {id : Nat} {c : Code} {Q : Post} {S : St} (h : VC E H0 A0 c ⟨Q.nrm, Q.ret, fun j S' => if j = id then Q.nrm S' else Q.ext j S'⟩ S) : VC E H0 A0 (.block id c) Q S := h

theorem VC_loop {E : Env} {H0 : HMap} {A0 : AMap} {c : Code} {Q : Post} {S : St} {ι : Type} (F : ι → St) (μ : ι → Nat) (i0 : ι) (h0 : Weak H0 A0 S (F i0))
    (h : ∀ i, VC E H0 A0 c ⟨fun S' => ∃ j, Weak H0 A0 S' (F j) ∧ μ j < μ i, Q.ret, Q.ext⟩ (F i)) : VC E H0 A0 (.loop c) Q S := ⟨ι, F, μ, ⟨i0, h0⟩, h⟩

end Go.PW

/-
  The abstract machine: the rules by which a body is reckoned. No program is named here.
-/


namespace Go.PW

/-! Only what decides is looked at ('idd' makes the rewriter take the rule even where nothing changes). -/
def idd {α : Type} (x : α) : α := x
@[go_sem] theorem idd_eq {α : Type} (x : α) : idd x = x := Or.elim (Or.inl (b := True) rfl) id (fun _ => rfl)
@[congr] theorem Opt_congr {α : Type} {x y : Option α} {K : α → Prop} (h : idd x = y) : Opt x K = Opt y K := by rw [← h]; rfl

def GuardP (g : Option Bool) (X Y : Prop) : Prop :=
  match g with
  | some true => X
  | some false => Y
  | none => False

@[congr] theorem GuardP_congr {g h : Option Bool} {X Y : Prop} (e : idd g = h) : GuardP g X Y = GuardP h X Y := by rw [← e]; rfl
@[go_sem] theorem GuardP_true {X Y : Prop} : GuardP (some true) X Y = X := rfl
@[go_sem] theorem GuardP_false {X Y : Prop} : GuardP (some false) X Y = Y := rfl
theorem GuardP_cases {b : Bool} {X Y : Prop} (h : b = true → X) (h' : b = false → Y) : GuardP (some b) X Y := by cases b with | true => exact h rfl | false => exact h' rfl

/-- The slot of the operation at a place. -/
def dstAt (ops : Array Oper) (j : Nat) : Option Nat := (ops[j]?).bind (·.dst)
@[congr] theorem dstAt_congr {ops : Array Oper} {i j : Nat} (h : idd i = j) : dstAt ops i = dstAt ops j := by rw [← h]; rfl
@[go_sem] theorem dstAt_zero {d : Option Nat} {T : TypeId} {op : Op} {p : String} {af : Array Edge} {g : Option (Nat × Bool)} {r : List Oper} : dstAt ({ dst := d, op := op, type := T, pos := p, after := af, guard := g } :: r).toArray 0 = d := by
  simp [dstAt]
@[go_sem] theorem dstAt_succ {o : Oper} {r : List Oper} {j : Nat} : dstAt (o :: r).toArray (j + 1) = dstAt r.toArray j := by
  simp [dstAt]
def guardV (want : Bool) (ρ : Nat → PV) (t : Option Nat) : Option Bool :=
  match t with
  | none => some false
  | some t => gOf want (ρ t)
@[go_sem] theorem guardV_some {want : Bool} {ρ : Nat → PV} {t : Nat} : guardV want ρ (some t) = gOf want (ρ t) := rfl
@[congr] theorem guardV_congr {want : Bool} {ρ : Nat → PV} {t u : Option Nat} (h : idd t = u) : guardV want ρ t = guardV want ρ u := by rw [← h]; rfl

variable {E : Env} {fb : Option (List Nat)} {ops : Array Oper} {ρ : Nat → PV} {H : HMap} {A : AMap} {r : List Oper} {K : St → Prop} {d : Option Nat} {T : TypeId} {op : Op} {p : String} {af : Array Edge}

@[congr] theorem RunV_congr {fb' : Option (List Nat)} {l : List Oper} {S : St} (h : idd fb = fb') : RunV E fb ops l S K = RunV E fb' ops l S K := by rw [← h]; rfl

@[go_sem] theorem RunV_nil {S : St} : RunV E fb ops [] S K = K S := rfl

@[go_sem] theorem RunV_none : RunV E fb ops ({ dst := d, op := op, type := T, pos := p, after := af, guard := none } :: r) ⟨ρ, H, A⟩ K =
    StepV E fb d (res (ev ρ) T op) H A fun v H A => RunV E fb ops r ⟨put ρ d v, H, A⟩ K :=
  propext ⟨fun h => (Opt.iff.1 h).elim fun b hb => by cases hb.1; exact hb.2.1 rfl, fun h => Opt.iff.2 ⟨true, rfl, fun _ => h, fun e => by cases e⟩⟩

@[go_sem] theorem RunV_some {j : Nat} {want : Bool} : RunV E fb ops ({ dst := d, op := op, type := T, pos := p, after := af, guard := some (j, want) } :: r) ⟨ρ, H, A⟩ K =
    GuardP (guardV want ρ (dstAt ops j)) (StepV E fb d (res (ev ρ) T op) H A fun v H A => RunV E fb ops r ⟨put ρ d v, H, A⟩ K) (RunV E fb ops r ⟨put ρ d (.c .skip), H, A⟩ K) := by
  show Opt (guardV want ρ (dstAt ops j)) _ = _
  generalize guardV want ρ (dstAt ops j) = g
  match g with
  | none => rfl
  | some true => exact propext ⟨fun h => h.1 rfl, fun h => ⟨fun _ => h, fun e => by cases e⟩⟩
  | some false => exact propext ⟨fun h => h.2 rfl, fun h => ⟨(fun e => by cases e), fun _ => h⟩⟩

@[congr] theorem StepV_congr {x y : ROp} {K : PV → HMap → AMap → Prop} (h : idd x = y) : StepV E fb d x H A K = StepV E fb d y H A K := by rw [← h]; rfl

@[go_sem] theorem put_some {t u : Nat} {v : PV} : put ρ (some t) v u = if u = t then v else ρ u := rfl
@[go_sem] theorem put_none {v : PV} : put ρ none v = ρ := rfl
@[go_sem] theorem Opt_some {α : Type} {x : α} {K : α → Prop} : Opt (some x) K = K x := rfl
@[go_sem] theorem Opt_none {α : Type} {K : α → Prop} : Opt none K = False := rfl
theorem upd_apply' {β : Type} (f : Nat → β) (a x : Nat) (b : β) : upd f a b x = if x = a then b else f x := rfl
theorem entry_nil (t : Nat) : entry [] t = .c .any := rfl
theorem entry_zero (x : PV) (xs : List PV) : entry (x :: xs) 0 = x := rfl
theorem entry_succ (x : PV) (xs : List PV) (t : Nat) : entry (x :: xs) (t + 1) = entry xs t := rfl

@[go_sem] theorem cst_int {k : IntKind} {n : Int} : cst (.int k n) = .c (.d (.lit (.int k n))) := rfl
@[go_sem] theorem cst_bool {b : Bool} : cst (.bool b) = .c (.d (.lit (.bool b))) := rfl
@[go_sem] theorem cst_string {b : ByteArray} : cst (.string b) = .c (.d (.lit (.string b))) := rfl
@[go_sem] theorem cst_float {k : FloatKind} {n : _} : cst (.float k n) = .c (.d (.lit (.float k n))) := rfl
@[go_sem] theorem cst_nil : cst (.slice none 0 0) = .c (.full []) := rfl
@[go_sem] theorem cst_pnil : cst (.pointer none) = .c (.d (.lit (.pointer none))) := rfl
@[go_sem] theorem ev_tmp {t : Nat} : ev ρ (.tmp t) = ρ t := rfl
@[go_sem] theorem ev_const {v : Value} : ev ρ (.const v) = cst v := rfl
@[go_sem] theorem ev_func {f : FuncId} : ev ρ (.func f) = .c (.fn f []) := rfl
@[go_sem] theorem resV_func {e : Operand → PV} {f : FuncId} {args : List PV} : resV e (.func f) args = .call f args := rfl
@[go_sem] theorem resV_tmp {e : Operand → PV} {t : Nat} {args : List PV} : resV e (.tmp t) args = .callv (e (.tmp t)) args := rfl

section steps
variable {KK : PV → HMap → AMap → Prop} {x y a b c : PV} {ps : List (Nat × PV)} {o : BinOp} {n t : Nat} {B : Builtin} {args caps : List PV} {f : FuncId} {ats : List TypeId}
@[go_sem] theorem S_mv : StepV E fb d (.mv x) H A KK = KK x H A := rfl
@[go_sem] theorem S_pick : StepV E fb d (.pick c a b) H A KK = Opt (boolOf? c) fun t => KK (if t then a else b) H A := by
  show Opt ((boolOf? c).map _) _ = _
  cases boolOf? c <;> rfl
@[go_sem] theorem S_build : StepV E fb d (.build T ps) H A KK = Opt (buildS E.P T ps) fun v => KK v H A := rfl
@[go_sem] theorem S_bsl : StepV E fb d (.bsl T n ps) H A KK = Opt (bslS E.P T n ps) fun v => KK v H A := rfl
@[go_sem] theorem S_bin : StepV E fb d (.bin o T x y) H A KK = Opt (binS E.P o T x y) fun v => KK v H A := rfl
@[go_sem] theorem S_un {u : UnOp} : StepV E fb d (.un u x) H A KK = Opt ((litOf? x).bind fun v => (semOf (Op.unary u v)).map lit) fun v => KK v H A := rfl
@[go_sem] theorem S_conv {s : TypeId} : StepV E fb d (.conv s T x) H A KK = Opt (convS E.P s T x) fun v => KK v H A := rfl
@[go_sem] theorem S_idxA : StepV E fb d (.idxA T x y) H A KK = Opt (idxAS E.P T x y) fun v => KK v H A := rfl
@[go_sem] theorem S_idx : StepV E fb d (.idx T x y) H A KK = Opt (idxS E.P T x y) fun v => KK v H A := rfl
@[go_sem] theorem S_fldA : StepV E fb d (.fldA T x n) H A KK = Opt (fldAS E.P T x n) fun v => KK v H A := rfl
@[go_sem] theorem S_fld : StepV E fb d (.fld T x n) H A KK = Opt (fldS E.P T x n) fun v => KK v H A := rfl
@[go_sem] theorem S_ext : StepV E fb d (.ext x n) H A KK = Opt (extS x n) fun v => KK v H A := rfl
@[go_sem] theorem S_len : StepV E fb d (.blt .len ats T args) H A KK = Opt (lenS E.P ats args) fun v => KK v H A := rfl
theorem S_min' : StepV E fb d (.blt .min ats T args) H A KK = Opt ((litsOf args).bind fun xs => (semOf (Builtin.min_ #[] T xs.toArray)).map lit) fun v => KK v H A := rfl
@[go_sem] theorem S_min2 {k k' : IntKind} {m l : Int} : StepV E fb d (.blt .min ats T [.c (.d (.lit (.int k m))), .c (.d (.lit (.int k' l)))]) H A KK = KK (lit (.int k (if l < m then l else m))) H A := by
  rw [S_min']
  simp only [litsOf, Option.map_some, Option.bind_some, Builtin.min_, List.foldlM, Builtin.min2]
  rfl
theorem S_max' : StepV E fb d (.blt .max ats T args) H A KK = Opt ((litsOf args).bind fun xs => (semOf (Builtin.max_ #[] T xs.toArray)).map lit) fun v => KK v H A := rfl
@[go_sem] theorem S_max2 {k k' : IntKind} {m l : Int} : StepV E fb d (.blt .max ats T [.c (.d (.lit (.int k m))), .c (.d (.lit (.int k' l)))]) H A KK = KK (lit (.int k (if l > m then l else m))) H A := by
  rw [S_max']
  simp only [litsOf, Option.map_some, Option.bind_some, Builtin.max_, List.foldlM, Builtin.max2]
  rfl
@[go_sem] theorem S_mkf : StepV E fb d (.mkf f caps) H A KK = Opt (capsOf caps) fun cs => KK (.c (.fn f cs)) H A := by
  show Opt ((capsOf caps).map _) _ = _
  cases capsOf caps <;> rfl
@[go_sem] theorem S_nilc : StepV E fb d (.nilc x) H A KK = Opt (nilS x) fun v => KK v H A := rfl
@[go_sem] theorem S_slc {lo hi mx : Option PV} : StepV E fb d (.slc T x lo hi mx) H A KK = slcV E.P T x lo hi mx fun v => KK v H A := rfl
@[go_sem] theorem S_alloc : StepV E fb (some t) (.alloc T) H A KK = Opt (zeroOf E.P T) fun z => H (E.off + t) = none ∧ KK (.c (.ptr (E.off + t) 0)) (upd H (E.off + t) (some z)) A := rfl
@[go_sem] theorem S_box : StepV E fb (some t) (.box T x) H A KK = Opt (boxS x) fun z => H (E.off + t) = none ∧ KK (.c (.ptr (E.off + t) 0)) (upd H (E.off + t) (some z)) A := rfl
@[go_sem] theorem S_load : StepV E fb d (.load T a) H A KK = Opt (loadS E.P fb H A T a) fun v => KK v H A := rfl
@[go_sem] theorem S_store : StepV E fb d (.store T a x) H A KK = (0 < E.P.cellsOf T ∧ Opt (storeS E.P fb H A T a x) fun m => KK (.c .skip) m.1 m.2) := rfl
@[go_sem] theorem S_app : StepV E fb (some t) (.blt .append ats T [x, y]) H A KK = appV E.P E.md E.off t A ats x y fun v A' => KK v H A' := rfl
@[go_sem] theorem S_callv : StepV E fb d (.callv x args) H A KK = callvV E H A x args KK := rfl

@[congr] theorem callvV_congr {x' : PV} {args' : List PV} (hx : idd x = x') (h : idd args = args') : callvV E H A x args KK = callvV E H A x' args' KK := by rw [← hx, ← h]; rfl
@[congr] theorem callV_congr {args' : List PV} (h : idd args = args') : callV E n f H A args KK = callV E n f H A args' KK := by rw [← h]; rfl
@[go_sem] theorem S_call : StepV E fb d (.call f args) H A KK = callV E (d.getD 0) f H A args KK := rfl

/-- A call of a function that was shown. -/
theorem S_call' {rv : RV} (he : E.effs.contains f = false) (h : E.Γ f (args.map PV.frz) rv) (hA : ∀ k, A (E.off + n, k) = none) (hK : KK (rv.pv (E.off + n)) H (RT.install (E.off + n) A 0 rv.list)) : callV E n f H A args KK := by
  unfold callV
  rw [he]
  exact ⟨rv, h, hA, hK⟩

theorem S_calle {v : PV} {H' : HMap} {A' : AMap} (he : E.effs.contains f = true) (h : E.Γe f (E.off + 1000) H A (args.map PV.frz) v H' A') (ha : Above (E.off + 1000) H A) (hK : KK v H' A') : callV E n f H A args KK := by
  unfold callV
  rw [he]
  exact ⟨v, H', A', h, ha, hK⟩
end steps

/-! Arithmetic. -/
section arith
variable {P : Program} {k : IntKind} {m n : Int}
@[go_sem] theorem B_add : binS P .add T (.c (.d (.lit (.int k m)))) (.c (.d (.lit (.int k n)))) = some (lit (.int k (k.wrap (m + n)))) := by cases k <;> rfl
@[go_sem] theorem B_sub : binS P .sub T (.c (.d (.lit (.int k m)))) (.c (.d (.lit (.int k n)))) = some (lit (.int k (k.wrap (m - n)))) := by cases k <;> rfl
@[go_sem] theorem B_mul : binS P .mul T (.c (.d (.lit (.int k m)))) (.c (.d (.lit (.int k n)))) = some (lit (.int k (k.wrap (m * n)))) := by cases k <;> rfl
@[go_sem] theorem B_lss : binS P .lss T (.c (.d (.lit (.int k m)))) (.c (.d (.lit (.int k n)))) = some (lit (.bool (decide (m < n)))) := by cases k <;> rfl
@[go_sem] theorem B_leq : binS P .leq T (.c (.d (.lit (.int k m)))) (.c (.d (.lit (.int k n)))) = some (lit (.bool (decide (m ≤ n)))) := by cases k <;> rfl
@[go_sem] theorem B_gtr : binS P .gtr T (.c (.d (.lit (.int k m)))) (.c (.d (.lit (.int k n)))) = some (lit (.bool (decide (n < m)))) := by cases k <;> rfl
@[go_sem] theorem B_geq : binS P .geq T (.c (.d (.lit (.int k m)))) (.c (.d (.lit (.int k n)))) = some (lit (.bool (decide (n ≤ m)))) := by cases k <;> rfl
@[go_sem] theorem B_eql : binS P .eql T (.c (.d (.lit (.int k m)))) (.c (.d (.lit (.int k n)))) = some (lit (.bool (m == n))) := by cases k <;> rfl
@[go_sem] theorem B_neq : binS P .neq T (.c (.d (.lit (.int k m)))) (.c (.d (.lit (.int k n)))) = some (lit (.bool (m != n))) := by cases k <;> rfl
def iAnd (k : IntKind) (m n : Int) : Int := k.wrap (BitVec.ofInt k.bits m &&& BitVec.ofInt k.bits n).toNat
@[go_sem] theorem B_and : binS P .and T (.c (.d (.lit (.int k m)))) (.c (.d (.lit (.int k n)))) = some (lit (.int k (iAnd k m n))) := by cases k <;> rfl
@[go_sem] theorem B_feql {k : FloatKind} {m n : Nat} : binS P .eql T (.c (.d (.lit (.float k m)))) (.c (.d (.lit (.float k n)))) = some (lit (.bool (k.format.order m n == some .eq))) := by cases k <;> rfl
@[go_sem] theorem B_fneq {k : FloatKind} {m n : Nat} : binS P .neq T (.c (.d (.lit (.float k m)))) (.c (.d (.lit (.float k n)))) = some (lit (.bool (k.format.order m n != some .eq))) := by cases k <;> rfl
end arith
@[go_sem] theorem lit_eq {v : Value} : lit v = .c (.d (.lit v)) := rfl
@[go_sem] theorem not_bool {b : Bool} : semOf (Op.unary .not (.bool b)) = some (.bool (!b)) := rfl

/-! append. -/
section app
variable {P : Program} {md : List Nat} {k : Nat} {t e : TypeId} {els ys : List (List D)} {x y : PV} {κ : Tok} {sz n : Nat} {q : Nat} {KK : PV → AMap → Prop}
@[congr] theorem appV_congr {x' y' : PV} (hx : idd x = x') (hy : idd y = y') {ats : List TypeId} : appV P md k q A ats x y KK = appV P md k q A ats x' y' KK := by rw [← hx, ← hy]; rfl
@[go_sem] theorem appV_full (h : P.underlying t = some (.slice e)) (hy : sliceEls y = some ys) (hm : md.contains q = false) : appV P md k q A [t, t] (.c (.full els)) y KK =
    (((0 < P.cellsOf e ∧ zeroOK P e = true ∧ 0 < P.bytesOf e) ∧ (Szd (P.cellsOf e) els ∧ Szd (P.cellsOf e) ys ∧ (els.length + ys.length) * P.bytesOf e ≤ 140737488355328 ∧ A (k + q, 0) = none)) ∧
      KK (.c (.own (k + q, 0) (els ++ ys))) (upd A (k + q, 0) (some (.co (P.cellsOf e) (els ++ ys).length)))) := by
  unfold appV
  simp only [h, hy, hm, true_and, and_assoc]
@[go_sem] theorem appV_fullm (h : P.underlying t = some (.slice e)) (hy : sliceEls y = some ys) (hm : md.contains q = true) : appV P md k q A [t, t] (.c (.full els)) y KK =
    (((0 < P.cellsOf e ∧ zeroOK P e = true ∧ 0 < P.bytesOf e) ∧ (Szd (P.cellsOf e) els ∧ Szd (P.cellsOf e) ys ∧ (els.length + ys.length) * P.bytesOf e ≤ 140737488355328 ∧ A (k + q, 0) = none) ∧ els = []) ∧
      KK (.c (.mt (k + q, 0) (P.cellsOf e) (els ++ ys).length)) (upd A (k + q, 0) (some (.mu (P.cellsOf e) (els ++ ys))))) := by
  unfold appV
  simp only [h, hy, hm, true_and, and_assoc]
@[go_sem] theorem appV_own (h : P.underlying t = some (.slice e)) (hy : sliceEls y = some ys) : appV P md k q A [t, t] (.c (.own κ els)) y KK =
    (((0 < P.cellsOf e ∧ zeroOK P e = true ∧ 0 < P.bytesOf e) ∧ (Szd (P.cellsOf e) els ∧ Szd (P.cellsOf e) ys ∧ (els.length + ys.length) * P.bytesOf e ≤ 140737488355328 ∧ A κ = some (.co (P.cellsOf e) els.length))) ∧
      KK (.c (.own κ (els ++ ys))) (upd A κ (some (.co (P.cellsOf e) (els ++ ys).length)))) := by
  unfold appV
  simp only [h, hy, true_and, and_assoc]
end app

/-! Slices. -/
@[go_sem] theorem sE_d {els : List (List D)} : sliceEls (.c (.d (.sl els))) = some els := rfl
@[go_sem] theorem sE_full {els : List (List D)} : sliceEls (.c (.full els)) = some els := rfl
@[go_sem] theorem sE_own {κ : Tok} {els : List (List D)} : sliceEls (.c (.own κ els)) = some els := rfl
@[go_sem] theorem iE_d {P : Program} {e : TypeId} {n : Nat} {els : List (List D)} : idxE P e n (.c (.d (.sl els))) = (els[n]?).bind fun c => if c.length = P.cellsOf e then some (.c (.eptr c 0)) else none := rfl
@[go_sem] theorem iE_full {P : Program} {e : TypeId} {n : Nat} {els : List (List D)} : idxE P e n (.c (.full els)) = (els[n]?).bind fun c => if c.length = P.cellsOf e then some (.c (.eptr c 0)) else none := rfl
@[go_sem] theorem iE_own {P : Program} {e : TypeId} {n : Nat} {κ : Tok} {els : List (List D)} : idxE P e n (.c (.own κ els)) = (els[n]?).bind fun c => if c.length = P.cellsOf e then some (.c (.eptr c 0)) else none := rfl
@[go_sem] theorem lE_d {els : List (List D)} : lenE (.c (.d (.sl els))) = some (lit (.int .i64 els.length)) := rfl
@[go_sem] theorem lE_full {els : List (List D)} : lenE (.c (.full els)) = some (lit (.int .i64 els.length)) := rfl
@[go_sem] theorem lE_own {κ : Tok} {els : List (List D)} : lenE (.c (.own κ els)) = some (lit (.int .i64 els.length)) := rfl
@[go_sem] theorem lE_mt {κ : Tok} {sz n : Nat} : lenE (.c (.mt κ sz n)) = some (lit (.int .i64 n)) := rfl
@[go_sem] theorem natOf_lit {k : IntKind} {n : Int} : natOf? (.c (.d (.lit (.int k n)))) = if 0 ≤ n then some n.toNat else none := rfl
@[go_sem] theorem known_d {x : D} : CV.known (.d x) = true := rfl
@[go_sem] theorem known_full {x : List (List D)} : CV.known (.full x) = true := rfl
@[go_sem] theorem known_own {κ : Tok} {x : List (List D)} : CV.known (.own κ x) = true := rfl
@[go_sem] theorem known_mt {κ : Tok} {s n : Nat} : CV.known (.mt κ s n) = true := rfl
@[go_sem] theorem known_ptr {s n : Nat} : CV.known (.ptr s n) = true := rfl
@[go_sem] theorem known_fn {f : FuncId} {c : List (Nat × Nat)} : CV.known (.fn f c) = true := rfl
@[go_sem] theorem known_any : CV.known .any = false := rfl
@[go_sem] theorem known_skip : CV.known .skip = false := rfl
@[go_sem] theorem boolOf_lit {b : Bool} : boolOf? (.c (.d (.lit (.bool b)))) = some b := rfl
@[go_sem] theorem gOf_lit {w b : Bool} : gOf w (.c (.d (.lit (.bool b)))) = some (b == w) := rfl
@[go_sem] theorem gOf_skip {w : Bool} : gOf w (.c .skip) = some false := rfl

attribute [go_sem] res resC resF put_some upd_apply' entry_nil entry_zero entry_succ litOf? intOf? eqS eqB eqI eqT eqCells convS convI convT idxAS idxS idxT partS fldAS fldS addO sub splice
  strOf? optNat extS TV.pv lenS lenT litsOf capsOf nilS loadS storeS blocked mkPV oneP cellsP CV.toD toDs CV.frz TV.frz PV.frz buildS fillA bslS chunk boxS
  RT.tv RT.ar RT.tvs RV.pv RV.list RT.install fbOf newId capPV

end Go.PW

/-
  The abstract machine: an environment in which what is shown of a function may be used; results; more rules for the reckoning.
-/

namespace Go.PW

/-- All that is shown may be used. -/
noncomputable def envOf (P : Program) (effs : List FuncId) (off : Nat) (md st : List Nat) : Env := ⟨P, PureOK P, EffOK P, effs, off, md, st⟩

theorem envOf_ok {P : Program} {effs : List FuncId} {off : Nat} {md st : List Nat} (h : P.follows .mixedOrders = true) : EnvOK (envOf P effs off md st) := ⟨h, fun _ _ _ h => h, fun _ _ _ _ _ _ _ _ h => h⟩

section env
variable {P : Program} {effs : List FuncId} {off : Nat} {md st : List Nat}
@[go_sem] theorem envP : (envOf P effs off md st).P = P := rfl
@[go_sem] theorem envEff : (envOf P effs off md st).effs = effs := rfl
@[go_sem] theorem envOff : (envOf P effs off md st).off = off := rfl
@[go_sem] theorem envMd : (envOf P effs off md st).md = md := rfl
@[go_sem] theorem envSt : (envOf P effs off md st).st = st := rfl

/-- A call of a function that was shown. -/
theorem call_pure {n : Nat} {f : FuncId} {H : HMap} {A : AMap} {args args' : List PV} {rv : RV} {KK : PV → HMap → AMap → Prop} (h : PureOK P f args' rv) (ha : args.map PV.frz = args') (he : effs.contains f = false) (hA : ∀ k, A (off + n, k) = none)
    (hK : KK (rv.pv (off + n)) H (RT.install (off + n) A 0 rv.list)) : callV (envOf P effs off md st) n f H A args KK := S_call' he (by rw [ha]; exact h) hA hK
end env

section ret
variable {P : Program} {fn : Func} {S : St} {t t' : Nat}
theorem Apart_one {k : Option Tok} : Apart [k] := fun i j κ hi hj => by
  cases i with
  | zero => cases j with
    | zero => rfl
    | succ j => simp at hj
  | succ i => simp at hi

theorem Ret_one {r : RT} (k : Option Tok) (hr : fn.results.toList = [.tmp t]) (e : RetT S.A k r (S.ρ t)) : Ret P fn (.one r) S :=
  ⟨True.intro, [k], Apart_one, by rw [hr]; exact ⟨S.ρ t, rfl, e, rfl⟩⟩

theorem Ret_d {x : D} (hr : fn.results.toList = [.tmp t]) (e : (S.ρ t).frz = .c (.d x)) : Ret P fn (.one (.d x)) S := Ret_one none hr (.inl e)
theorem Ret_mt {sz : Nat} {els : List (List D)} (κ : Tok) (hr : fn.results.toList = [.tmp t]) (e : S.ρ t = .c (.mt κ sz els.length)) (hA : S.A κ = some (.mu sz els)) : Ret P fn (.one (.d (.sl els))) S := Ret_one (some κ) hr (.inr ⟨κ, sz, els, rfl, rfl, e, hA⟩)
theorem Ret_agg {cs : List D} (hr : fn.results.toList = [.tmp t]) (e : (S.ρ t).frz = .agg (cs.map .d)) : Ret P fn (.one (.agg cs)) S := Ret_one none hr e
theorem Ret_own {sz : Nat} {els : List (List D)} (κ : Tok) (hr : fn.results.toList = [.tmp t]) (e : S.ρ t = .c (.own κ els)) (hA : S.A κ = some (.co sz els.length)) : Ret P fn (.one (.own sz els)) S := Ret_one (some κ) hr (.inl ⟨κ, rfl, e, hA⟩)
theorem Ret_full {sz : Nat} {els : List (List D)} (hr : fn.results.toList = [.tmp t]) (e : S.ρ t = .c (.full els)) : Ret P fn (.one (.own sz els)) S := Ret_one none hr (.inr e)

theorem Ret_two {r r' : RT} (k : Option Tok) (hr : fn.results.toList = [.tmp t, .tmp t']) (e : RetT S.A k r (S.ρ t)) (e' : RetT S.A none r' (S.ρ t')) : Ret P fn (.tup [r, r']) S := by
  refine ⟨by show [r, r'].length ≠ 1; simp, [k, none], fun i j κ hi hj => ?_, by rw [hr]; exact ⟨S.ρ t, rfl, e, S.ρ t', rfl, e', rfl⟩⟩
  match i, j with
  | 0, 0 => rfl
  | 1, _ => simp at hi
  | 0, 1 => simp at hj
  | 0, j + 2 => simp at hj
  | i + 2, _ => simp at hi
end ret

theorem GuardP_not {b : Bool} {X Y : Prop} (h : b = true → Y) (h' : b = false → X) : GuardP (some (!b)) X Y := by cases b with | true => exact h rfl | false => exact h' rfl

@[go_sem] theorem noH_eq (n : Nat) : noH n = none := rfl
@[go_sem] theorem noA_eq (κ : Tok) : noA κ = none := rfl
theorem updA_eq {β : Type} (f : Tok → β) (a x : Tok) (b : β) : upd f a b x = if x = a then b else f x := rfl
theorem RunV_frame : True := True.intro

attribute [go_sem] Option.bind_some Option.bind_none Option.map_some Option.map_none List.all_cons List.all_nil Bool.and_self Bool.and_true Bool.true_and Bool.and_false Bool.false_and Bool.or_true Bool.true_or Bool.or_false Bool.false_or
  Bool.not_true Bool.not_false if_true if_false List.getElem?_toArray List.getElem?_cons_zero List.getElem?_cons_succ List.getElem?_nil List.size_toArray
  List.length_cons List.length_nil List.take_succ_cons List.take_zero List.take_nil List.drop_succ_cons List.drop_zero List.drop_nil List.nil_append List.cons_append List.append_nil
  true_and and_true and_self beq_self_eq_true beq_true beq_false Bool.not_not List.map_cons List.map_nil List.toList_toArray Nat.zero_add Nat.add_zero Option.getD_some Option.getD_none
  updA_eq Prod.mk.injEq List.foldr_cons List.foldr_nil Option.isNone_none Option.isNone_some Option.isSome_none Option.isSome_some Bool.false_eq_true reduceCtorEq and_false false_and
  List.contains_nil List.contains_cons List.isEmpty_nil Int.zero_le_ofNat

end Go.PW
