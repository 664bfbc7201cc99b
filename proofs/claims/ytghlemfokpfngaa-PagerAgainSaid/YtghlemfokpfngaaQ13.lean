/-
  Parts of the proof, laid together: PwR, PwS, PwSa.
-/
import Derived.Test.YtghlemfokpfngaaQ12
import Derived.IntWalk

namespace Go.PW
def idd {α : Type} (x : α) : α := x
@[go_sem] theorem idd_eq {α : Type} (x : α) : idd x = x := Or.elim (Or.inl (b := True) rfl) id (fun _ => rfl)
@[congr] theorem Opt_congr {α : Type} {x y : Option α} {K : α → Prop} (h : idd x = y) : Opt x K = Opt y K := by rw [← h]; rfl
def GuardP (g : Option Bool) (X Y : Prop) : Prop :=
  match g with
  | some true => X
  | some false => Y
  | none => False
@[congr] theorem GuardP_congr {g h : Option Bool} {X Y : Prop} (e : idd g = h) : GuardP g X Y = GuardP h X Y := by rw [← e]; rfl
@[go_sem] theorem GuardP_true {X Y : Prop} : GuardP (some true) X Y = X := rfl
@[go_sem] theorem GuardP_false {X Y : Prop} : GuardP (some false) X Y = Y := rfl
theorem GuardP_cases {b : Bool} {X Y : Prop} (h : b = true → X) (h' : b = false → Y) : GuardP (some b) X Y := by cases b with | true => exact h rfl | false => exact h' rfl
def dstAt (ops : Array Oper) (j : Nat) : Option Nat := (ops[j]?).bind (·.dst)
@[congr] theorem dstAt_congr {ops : Array Oper} {i j : Nat} (h : idd i = j) : dstAt ops i = dstAt ops j := by rw [← h]; rfl
@[go_sem] theorem dstAt_zero {d : Option Nat} {T : TypeId} {op : Op} {p : String} {af : Array Edge} {g : Option (Nat × Bool)} {r : List Oper} : dstAt ({ dst := d, op := op, type := T, pos := p, after := af, guard := g } :: r).toArray 0 = d := by
  simp [dstAt]
@[go_sem] theorem dstAt_succ {o : Oper} {r : List Oper} {j : Nat} : dstAt (o :: r).toArray (j + 1) = dstAt r.toArray j := by
  simp [dstAt]
def guardV (want : Bool) (ρ : Nat → PV) (t : Option Nat) : Option Bool :=
  match t with
  | none => some false
  | some t => gOf want (ρ t)
@[go_sem] theorem guardV_some {want : Bool} {ρ : Nat → PV} {t : Nat} : guardV want ρ (some t) = gOf want (ρ t) := rfl
@[congr] theorem guardV_congr {want : Bool} {ρ : Nat → PV} {t u : Option Nat} (h : idd t = u) : guardV want ρ t = guardV want ρ u := by rw [← h]; rfl
variable {E : Env} {fb : Option (List Nat)} {ops : Array Oper} {ρ : Nat → PV} {H : HMap} {A : AMap} {r : List Oper} {K : St → Prop} {d : Option Nat} {T : TypeId} {op : Op} {p : String} {af : Array Edge}
@[congr] theorem RunV_congr {fb' : Option (List Nat)} {l : List Oper} {S : St} (h : idd fb = fb') : RunV E fb ops l S K = RunV E fb' ops l S K := by rw [← h]; rfl
@[go_sem] theorem RunV_nil {S : St} : RunV E fb ops [] S K = K S := rfl
@[go_sem] theorem RunV_none : RunV E fb ops ({ dst := d, op := op, type := T, pos := p, after := af, guard := none } :: r) ⟨ρ, H, A⟩ K =
    StepV E fb d (res (ev ρ) T op) H A fun v H A => RunV E fb ops r ⟨put ρ d v, H, A⟩ K :=
  propext ⟨fun h => (Opt.iff.1 h).elim fun b hb => by cases hb.1; exact hb.2.1 rfl, fun h => Opt.iff.2 ⟨true, rfl, fun _ => h, fun e => by cases e⟩⟩
@[go_sem] theorem RunV_some {j : Nat} {want : Bool} : RunV E fb ops ({ dst := d, op := op, type := T, pos := p, after := af, guard := some (j, want) } :: r) ⟨ρ, H, A⟩ K =
    GuardP (guardV want ρ (dstAt ops j)) (StepV E fb d (res (ev ρ) T op) H A fun v H A => RunV E fb ops r ⟨put ρ d v, H, A⟩ K) (RunV E fb ops r ⟨put ρ d (.c .skip), H, A⟩ K) := by
  show Opt (guardV want ρ (dstAt ops j)) _ = _
  generalize guardV want ρ (dstAt ops j) = g
  match g with
  | none => rfl
  | some true => exact propext ⟨fun h => h.1 rfl, fun h => ⟨fun _ => h, fun e => by cases e⟩⟩
  | some false => exact propext ⟨fun h => h.2 rfl, fun h => ⟨(fun e => by cases e), fun _ => h⟩⟩
@[congr] theorem StepV_congr {x y : ROp} {K : PV → HMap → AMap → Prop} (h : idd x = y) : StepV E fb d x H A K = StepV E fb d y H A K := by rw [← h]; rfl
@[go_sem] theorem put_some {t u : Nat} {v : PV} : put ρ (some t) v u = if u = t then v else ρ u := rfl
@[go_sem] theorem put_none {v : PV} : put ρ none v = ρ := rfl
@[go_sem] theorem Opt_some {α : Type} {x : α} {K : α → Prop} : Opt (some x) K = K x := rfl
@[go_sem] theorem Opt_none {α : Type} {K : α → Prop} : Opt none K = False := rfl
theorem upd_apply' {β : Type} (f : Nat → β) (a x : Nat) (b : β) : upd f a b x = if x = a then b else f x := rfl
theorem entry_nil (t : Nat) : entry [] t = .c .any := rfl
theorem entry_zero (x : PV) (xs : List PV) : entry (x :: xs) 0 = x := rfl
theorem entry_succ (x : PV) (xs : List PV) (t : Nat) : entry (x :: xs) (t + 1) = entry xs t := rfl
@[go_sem] theorem cst_int {k : IntKind} {n : Int} : cst (.int k n) = .c (.d (.lit (.int k n))) := rfl
@[go_sem] theorem cst_bool {b : Bool} : cst (.bool b) = .c (.d (.lit (.bool b))) := rfl
@[go_sem] theorem cst_string {b : ByteArray} : cst (.string b) = .c (.d (.lit (.string b))) := rfl
@[go_sem] theorem cst_float {k : FloatKind} {n : _} : cst (.float k n) = .c (.d (.lit (.float k n))) := rfl
@[go_sem] theorem cst_nil : cst (.slice none 0 0) = .c (.full []) := rfl
@[go_sem] theorem cst_pnil : cst (.pointer none) = .c (.d (.lit (.pointer none))) := rfl
@[go_sem] theorem ev_tmp {t : Nat} : ev ρ (.tmp t) = ρ t := rfl
@[go_sem] theorem ev_const {v : Value} : ev ρ (.const v) = cst v := rfl
@[go_sem] theorem ev_func {f : FuncId} : ev ρ (.func f) = .c (.fn f []) := rfl
@[go_sem] theorem resV_func {e : Operand → PV} {f : FuncId} {args : List PV} : resV e (.func f) args = .call f args := rfl
@[go_sem] theorem resV_tmp {e : Operand → PV} {t : Nat} {args : List PV} : resV e (.tmp t) args = .callv (e (.tmp t)) args := rfl
section steps
variable {KK : PV → HMap → AMap → Prop} {x y a b c : PV} {ps : List (Nat × PV)} {o : BinOp} {n t : Nat} {B : Builtin} {args caps : List PV} {f : FuncId} {ats : List TypeId}
@[go_sem] theorem S_mv : StepV E fb d (.mv x) H A KK = KK x H A := rfl
@[go_sem] theorem S_pick : StepV E fb d (.pick c a b) H A KK = Opt (boolOf? c) fun t => KK (if t then a else b) H A := by
  show Opt ((boolOf? c).map _) _ = _
  cases boolOf? c <;> rfl
@[go_sem] theorem S_build : StepV E fb d (.build T ps) H A KK = Opt (buildS E.P T ps) fun v => KK v H A := rfl
@[go_sem] theorem S_bsl : StepV E fb d (.bsl T n ps) H A KK = GuardP (some (decide (isRow E.effs T = true))) (bslV E d T n ps H fun v H' => KK v H' A) (Opt (bslS E.P T n ps) fun v => KK v H A) := by
  show (match isRow E.effs T with
    | true => bslV E d T n ps H fun v H' => KK v H' A
    | false => pureV E.P (.bsl T n ps) fun v => KK v H A) = _
  cases isRow E.effs T <;> rfl
@[go_sem] theorem bslV_some : bslV E (some t) T n ps H (fun v H' => KK v H' A) = Opt (bslC E.P T n ps) fun cs => H (E.off + t) = none ∧ KK (.c (.vsl (E.off + t) n)) (upd H (E.off + t) (some cs)) A := rfl
@[go_sem] theorem S_bin : StepV E fb d (.bin o T x y) H A KK = Opt (binS E.P o T x y) fun v => KK v H A := rfl
@[go_sem] theorem S_un {u : UnOp} : StepV E fb d (.un u x) H A KK = Opt ((litOf? x).bind fun v => (semOf (Op.unary u v)).map lit) fun v => KK v H A := rfl
@[go_sem] theorem S_conv {s : TypeId} : StepV E fb d (.conv s T x) H A KK = GuardP (some (decide (isFresh E.effs T = true))) (bytV E d s T x A fun v A' => KK v H A') (GuardP (some (decide (isQuiet E.effs s = true))) (Opt (convA E.P A s T x) fun v => KK v H A) (Opt (convS E.P s T x) fun v => KK v H A)) := by
  show (match isFresh E.effs T with
    | true => bytV E d s T x A fun v A' => KK v H A'
    | false => (match isQuiet E.effs s with
      | true => Opt (convA E.P A s T x) fun v => KK v H A
      | false => pureV E.P (.conv s T x) fun v => KK v H A)) = _
  cases isFresh E.effs T <;> cases isQuiet E.effs s <;> rfl
@[go_sem] theorem S_mks {l : PV} : StepV E fb d (.mks T l c) H A KK = GuardP (some (decide (isMut E.effs T = true))) (mksV E d T l c A fun v A' => KK v H A') (Opt (mksS E.P T l c) fun v => KK v H A) := by
  show (match isMut E.effs T with
    | true => mksV E d T l c A fun v A' => KK v H A'
    | false => pureV E.P (.mks T l c) fun v => KK v H A) = _
  cases isMut E.effs T <;> rfl
@[go_sem] theorem S_mkb {fst : List PV} : StepV E fb d (.mkb f fst caps) H A KK = Opt (capsOf fst) fun fs => Opt (capsOf caps) fun cs => KK (.c (.bfn f fs cs)) H A := by
  show Opt ((capsOf fst).bind fun fs => (capsOf caps).map _) _ = _
  cases capsOf fst <;> cases capsOf caps <;> rfl
@[go_sem] theorem S_mmk : StepV E fb (some t) (.mmk T) H A KK = (A (E.off + t, 0) = none ∧ KK (.c (.mpr (E.off + t, 0))) H (upd A (E.off + t, 0) (some (.mp [])))) := rfl
@[go_sem] theorem S_mlk {ok : Bool} : StepV E fb d (.mlk T x y ok) H A KK = Opt (lookS E.P A T x y ok) fun v => KK v H A := rfl
@[go_sem] theorem S_mup {k v : PV} : StepV E fb d (.mup T x k v) H A KK = Opt (mupS E.P A T x k v) fun A' => KK (.c .any) H A' := rfl
@[go_sem] theorem S_del {u : TypeId} {us : List TypeId} {k : PV} : StepV E fb d (.blt .delete (u :: us) T [x, k]) H A KK = Opt (mdelS E.P A u x k) fun A' => KK (.c .any) H A' := rfl
@[go_sem] theorem S_idxA : StepV E fb d (.idxA T x y) H A KK = Opt (idxAS E.P T x y) fun v => KK v H A := rfl
@[go_sem] theorem S_idx : StepV E fb d (.idx T x y) H A KK = Opt (idxS E.P T x y) fun v => KK v H A := rfl
@[go_sem] theorem S_fldA : StepV E fb d (.fldA T x n) H A KK = Opt (fldAS E.P T x n) fun v => KK v H A := rfl
@[go_sem] theorem S_fld : StepV E fb d (.fld T x n) H A KK = Opt (fldS E.P T x n) fun v => KK v H A := rfl
@[go_sem] theorem S_ext : StepV E fb d (.ext x n) H A KK = Opt (extS x n) fun v => KK v H A := rfl
@[go_sem] theorem S_len : StepV E fb d (.blt .len ats T args) H A KK = GuardP (some (decide (isCount E.effs ats = true))) (Opt (lenM E.P A ats args) fun v => KK v H A) (Opt (lenS E.P ats args) fun v => KK v H A) := by
  show (match isCount E.effs ats with
    | true => Opt (lenM E.P A ats args) fun v => KK v H A
    | false => pureV E.P (.blt .len ats T args) fun v => KK v H A) = _
  cases isCount E.effs ats <;> rfl
theorem S_min' : StepV E fb d (.blt .min ats T args) H A KK = Opt ((litsOf args).bind fun xs => (semOf (Builtin.min_ #[] T xs.toArray)).map lit) fun v => KK v H A := rfl
@[go_sem] theorem S_min2 {k k' : IntKind} {m l : Int} : StepV E fb d (.blt .min ats T [.c (.d (.lit (.int k m))), .c (.d (.lit (.int k' l)))]) H A KK = KK (lit (.int k (if l < m then l else m))) H A := by
  rw [S_min']
  simp only [litsOf, Option.map_some, Option.bind_some, Builtin.min_, List.foldlM, Builtin.min2]
  rfl
theorem S_max' : StepV E fb d (.blt .max ats T args) H A KK = Opt ((litsOf args).bind fun xs => (semOf (Builtin.max_ #[] T xs.toArray)).map lit) fun v => KK v H A := rfl
@[go_sem] theorem S_max2 {k k' : IntKind} {m l : Int} : StepV E fb d (.blt .max ats T [.c (.d (.lit (.int k m))), .c (.d (.lit (.int k' l)))]) H A KK = KK (lit (.int k (if l > m then l else m))) H A := by
  rw [S_max']
  simp only [litsOf, Option.map_some, Option.bind_some, Builtin.max_, List.foldlM, Builtin.max2]
  rfl
@[go_sem] theorem S_mkf : StepV E fb d (.mkf f caps) H A KK = Opt (capsOf caps) fun cs => KK (.c (.fn f cs)) H A := by
  show Opt ((capsOf caps).map _) _ = _
  cases capsOf caps <;> rfl
@[go_sem] theorem S_nilc : StepV E fb d (.nilc x) H A KK = Opt (nilS x) fun v => KK v H A := rfl
@[go_sem] theorem S_slc {lo hi mx : Option PV} : StepV E fb d (.slc T x lo hi mx) H A KK = slcV E.P T x lo hi mx fun v => KK v H A := rfl
@[go_sem] theorem S_alloc : StepV E fb (some t) (.alloc T) H A KK = Opt (zeroOf E.P T) fun z => H (E.off + t) = none ∧ KK (.c (.ptr (E.off + t) 0)) (upd H (E.off + t) (some z)) A := rfl
@[go_sem] theorem S_box : StepV E fb (some t) (.box T x) H A KK = Opt (boxS x) fun z => H (E.off + t) = none ∧ KK (.c (.ptr (E.off + t) 0)) (upd H (E.off + t) (some z)) A := rfl
@[go_sem] theorem S_load : StepV E fb d (.load T a) H A KK = Opt (loadS E.P fb H A T a) fun v => KK v H A := rfl
@[go_sem] theorem S_store : StepV E fb d (.store T a x) H A KK = (0 < E.P.cellsOf T ∧ Opt (storeS E.P fb H A T a x) fun m => KK (.c .skip) m.1 m.2) := rfl
@[go_sem] theorem S_app : StepV E fb (some t) (.blt .append ats T [x, y]) H A KK = appV E.P E.md E.off t A ats x y fun v A' => KK v H A' := rfl
@[go_sem] theorem S_rng : StepV E fb d (.rng T x) H A KK = rngV E d T x A (fun v A' => KK v H A') := rfl
@[go_sem] theorem S_nxt {str : Bool} : StepV E fb d (.nxt x str) H A KK = nxtV x str A (fun v A' => KK v H A') := rfl
@[go_sem] theorem S_ent : StepV E fb d (.ent x) H A KK = entV x A (fun v => KK v H A) := rfl
@[congr] theorem rngV_congr {x' : PV} {K : PV → AMap → Prop} (hx : idd x = x') : rngV E d T x A K = rngV E d T x' A K := by rw [← hx]; rfl
@[congr] theorem nxtV_congr {x' : PV} {str : Bool} {K : PV → AMap → Prop} (hx : idd x = x') : nxtV x str A K = nxtV x' str A K := by rw [← hx]; rfl
@[congr] theorem entV_congr {x' : PV} {K : PV → Prop} (hx : idd x = x') : entV x A K = entV x' A K := by rw [← hx]; rfl
@[go_sem] theorem S_callv : StepV E fb d (.callv x args) H A KK = callvV E H A x args KK := rfl
@[congr] theorem callvV_congr {x' : PV} {args' : List PV} (hx : idd x = x') (h : idd args = args') : callvV E H A x args KK = callvV E H A x' args' KK := by rw [← hx, ← h]; rfl
@[congr] theorem callV_congr {args' : List PV} (h : idd args = args') : callV E n f H A args KK = callV E n f H A args' KK := by rw [← h]; rfl
@[go_sem] theorem S_call : StepV E fb d (.call f args) H A KK = GuardP (some (decide (isKeep fb = true))) (callV E (d.getD 0) f H A args (fun v H' A' => (∀ id ∈ keepL fb, H' id = H id) ∧ KK v H' A')) (callV E (d.getD 0) f H A args KK) := by
  show (match isKeep fb with
    | true => callV E (d.getD 0) f H A args (fun v H' A' => (∀ id ∈ keepL fb, H' id = H id) ∧ KK v H' A')
    | false => callV E (d.getD 0) f H A args KK) = _
  cases isKeep fb <;> rfl
theorem S_call' {rv : RV} (he : (E.effs.contains f || E.effs.contains (2000000 + f) || E.effs.contains (7000000 + f)) = false) (h : E.Γ f (args.map PV.frz) rv) (hA : ∀ k, A (E.off + n, k) = none) (hK : KK (rv.pv (E.off + n)) H (RT.install (E.off + n) A 0 rv.list)) : callV E n f H A args KK := by
  unfold callV
  rw [(Bool.or_eq_false_iff.1 (Bool.or_eq_false_iff.1 he).1).1, (Bool.or_eq_false_iff.1 (Bool.or_eq_false_iff.1 he).1).2, (Bool.or_eq_false_iff.1 he).2]
  exact ⟨rv, h, hA, hK⟩
theorem S_callq {v : PV} (he : E.effs.contains f = false) (hq : E.effs.contains (2000000 + f) = true) (h : E.Γe f (E.off + 1000) H A (args.map PV.frz) v H A) (ha : Above (E.off + 1000) H A) (hK : KK v H A) : callV E n f H A args KK := by
  unfold callV
  rw [he, hq]
  exact ⟨v, h, ha, hK⟩
theorem S_callr {v : PV} (he : (E.effs.contains f || E.effs.contains (2000000 + f)) = false) (hq : E.effs.contains (7000000 + f) = true) (h : ∀ H2 : HMap, (∀ id, H id ≠ none → H2 id = H id) → (∀ id, E.off + 1000 ≤ id → H2 id = none) → E.Γe f (E.off + 1000) H2 A (args.map PV.frz) v H2 A)
    (ha : Above (E.off + 1000) H A) (hK : KK v H A) : callV E n f H A args KK := by
  unfold callV
  rw [(Bool.or_eq_false_iff.1 he).1, (Bool.or_eq_false_iff.1 he).2, hq]
  exact ⟨v, h, ha, hK⟩
theorem S_calle {v : PV} {H' : HMap} {A' : AMap} (he : E.effs.contains f = true) (h : E.Γe f (E.off + 1000) H A (args.map PV.frz) v H' A') (ha : Above (E.off + 1000) H A) (hK : KK v H' A') : callV E n f H A args KK := by
  unfold callV
  rw [he]
  exact ⟨v, H', A', h, ha, hK⟩
end steps
section arith
variable {P : Program} {k : IntKind} {m n : Int}
@[go_sem] theorem B_add : binS P .add T (.c (.d (.lit (.int k m)))) (.c (.d (.lit (.int k n)))) = some (lit (.int k (k.wrap (m + n)))) := by cases k <;> rfl
@[go_sem] theorem B_sub : binS P .sub T (.c (.d (.lit (.int k m)))) (.c (.d (.lit (.int k n)))) = some (lit (.int k (k.wrap (m - n)))) := by cases k <;> rfl
@[go_sem] theorem B_mul : binS P .mul T (.c (.d (.lit (.int k m)))) (.c (.d (.lit (.int k n)))) = some (lit (.int k (k.wrap (m * n)))) := by cases k <;> rfl
@[go_sem] theorem B_lss : binS P .lss T (.c (.d (.lit (.int k m)))) (.c (.d (.lit (.int k n)))) = some (lit (.bool (decide (m < n)))) := by cases k <;> rfl
@[go_sem] theorem B_leq : binS P .leq T (.c (.d (.lit (.int k m)))) (.c (.d (.lit (.int k n)))) = some (lit (.bool (decide (m ≤ n)))) := by cases k <;> rfl
@[go_sem] theorem B_gtr : binS P .gtr T (.c (.d (.lit (.int k m)))) (.c (.d (.lit (.int k n)))) = some (lit (.bool (decide (n < m)))) := by cases k <;> rfl
@[go_sem] theorem B_geq : binS P .geq T (.c (.d (.lit (.int k m)))) (.c (.d (.lit (.int k n)))) = some (lit (.bool (decide (n ≤ m)))) := by cases k <;> rfl
@[go_sem] theorem B_eql : binS P .eql T (.c (.d (.lit (.int k m)))) (.c (.d (.lit (.int k n)))) = some (lit (.bool (m == n))) := by cases k <;> rfl
@[go_sem] theorem B_neq : binS P .neq T (.c (.d (.lit (.int k m)))) (.c (.d (.lit (.int k n)))) = some (lit (.bool (m != n))) := by cases k <;> rfl
def iAnd (k : IntKind) (m n : Int) : Int := k.wrap (BitVec.ofInt k.bits m &&& BitVec.ofInt k.bits n).toNat
@[go_sem] theorem B_and : binS P .and T (.c (.d (.lit (.int k m)))) (.c (.d (.lit (.int k n)))) = some (lit (.int k (iAnd k m n))) := by cases k <;> rfl
@[go_sem] theorem B_feql {k : FloatKind} {m n : Nat} : binS P .eql T (.c (.d (.lit (.float k m)))) (.c (.d (.lit (.float k n)))) = some (lit (.bool (k.format.order m n == some .eq))) := by cases k <;> rfl
@[go_sem] theorem B_fneq {k : FloatKind} {m n : Nat} : binS P .neq T (.c (.d (.lit (.float k m)))) (.c (.d (.lit (.float k n)))) = some (lit (.bool (k.format.order m n != some .eq))) := by cases k <;> rfl
end arith
@[go_sem] theorem lit_eq {v : Value} : lit v = .c (.d (.lit v)) := rfl
@[go_sem] theorem not_bool {b : Bool} : semOf (Op.unary .not (.bool b)) = some (.bool (!b)) := rfl
section app
variable {P : Program} {md : List Nat} {k : Nat} {t e : TypeId} {els ys : List (List D)} {x y : PV} {κ : Tok} {sz n : Nat} {q : Nat} {KK : PV → AMap → Prop}
@[congr] theorem appV_congr {x' y' : PV} (hx : idd x = x') (hy : idd y = y') {ats : List TypeId} : appV P md k q A ats x y KK = appV P md k q A ats x' y' KK := by rw [← hx, ← hy]; rfl
@[go_sem] theorem appV_full (h : P.underlying t = some (.slice e)) (hy : sliceEls y = some ys) (hm : md.contains q = false) : appV P md k q A [t, t] (.c (.full els)) y KK =
    (((0 < P.cellsOf e ∧ zeroOK P e = true ∧ 0 < P.bytesOf e) ∧ (Szd (P.cellsOf e) els ∧ Szd (P.cellsOf e) ys ∧ (els.length + ys.length) * P.bytesOf e ≤ 140737488355328 ∧ A (k + q, 0) = none)) ∧
      KK (.c (.own (k + q, 0) (els ++ ys))) (upd A (k + q, 0) (some (.co (P.cellsOf e) (els ++ ys).length)))) := by
  unfold appV
  simp only [h, hy, hm, true_and, and_assoc]
@[go_sem] theorem appV_own (h : P.underlying t = some (.slice e)) (hy : sliceEls y = some ys) : appV P md k q A [t, t] (.c (.own κ els)) y KK =
    (((0 < P.cellsOf e ∧ zeroOK P e = true ∧ 0 < P.bytesOf e) ∧ (Szd (P.cellsOf e) els ∧ Szd (P.cellsOf e) ys ∧ (els.length + ys.length) * P.bytesOf e ≤ 140737488355328 ∧ A κ = some (.co (P.cellsOf e) els.length))) ∧
      KK (.c (.own κ (els ++ ys))) (upd A κ (some (.co (P.cellsOf e) (els ++ ys).length)))) := by
  unfold appV
  simp only [h, hy, true_and, and_assoc]
end app
@[go_sem] theorem sE_d {els : List (List D)} : sliceEls (.c (.d (.sl els))) = some els := rfl
@[go_sem] theorem sE_full {els : List (List D)} : sliceEls (.c (.full els)) = some els := rfl
@[go_sem] theorem sE_own {κ : Tok} {els : List (List D)} : sliceEls (.c (.own κ els)) = some els := rfl
@[go_sem] theorem iE_d {P : Program} {e : TypeId} {n : Nat} {els : List (List D)} : idxE P e n (.c (.d (.sl els))) = (els[n]?).bind fun c => if c.length = P.cellsOf e then some (.c (.eptr c 0)) else none := rfl
@[go_sem] theorem iE_full {P : Program} {e : TypeId} {n : Nat} {els : List (List D)} : idxE P e n (.c (.full els)) = (els[n]?).bind fun c => if c.length = P.cellsOf e then some (.c (.eptr c 0)) else none := rfl
@[go_sem] theorem iE_own {P : Program} {e : TypeId} {n : Nat} {κ : Tok} {els : List (List D)} : idxE P e n (.c (.own κ els)) = (els[n]?).bind fun c => if c.length = P.cellsOf e then some (.c (.eptr c 0)) else none := rfl
@[go_sem] theorem lE_d {els : List (List D)} : lenE (.c (.d (.sl els))) = some (lit (.int .i64 els.length)) := rfl
@[go_sem] theorem lE_full {els : List (List D)} : lenE (.c (.full els)) = some (lit (.int .i64 els.length)) := rfl
@[go_sem] theorem lE_own {κ : Tok} {els : List (List D)} : lenE (.c (.own κ els)) = some (lit (.int .i64 els.length)) := rfl
@[go_sem] theorem lE_vsl {id n : Nat} : lenE (.c (.vsl id n)) = some (lit (.int .i64 n)) := rfl
@[go_sem] theorem iE_vsl {P : Program} {e : TypeId} {n id len : Nat} : idxE P e n (.c (.vsl id len)) = if n < len then some (.c (.ptr id (n * P.cellsOf e))) else none := rfl
@[go_sem] theorem known_vsl {id n : Nat} : CV.known (.vsl id n) = true := rfl
@[go_sem] theorem known_bfn {f : FuncId} {c c' : List (Nat × Nat)} : CV.known (.bfn f c c') = true := rfl
@[go_sem] theorem lE_tv {κ : Tok} {sz n L : Nat} : lenE (.c (.tv κ sz n L)) = some (lit (.int .i64 n)) := rfl
@[go_sem] theorem lE_mt {κ : Tok} {sz n : Nat} : lenE (.c (.mt κ sz n)) = some (lit (.int .i64 n)) := rfl
@[go_sem] theorem natOf_lit {k : IntKind} {n : Int} : natOf? (.c (.d (.lit (.int k n)))) = if 0 ≤ n then some n.toNat else none := rfl
@[go_sem] theorem known_d {x : D} : CV.known (.d x) = true := rfl
@[go_sem] theorem known_full {x : List (List D)} : CV.known (.full x) = true := rfl
@[go_sem] theorem known_own {κ : Tok} {x : List (List D)} : CV.known (.own κ x) = true := rfl
@[go_sem] theorem known_tv {κ : Tok} {s n L : Nat} : CV.known (.tv κ s n L) = true := rfl
@[go_sem] theorem known_mt {κ : Tok} {s n : Nat} : CV.known (.mt κ s n) = true := rfl
@[go_sem] theorem known_ptr {s n : Nat} : CV.known (.ptr s n) = true := rfl
@[go_sem] theorem known_fn {f : FuncId} {c : List (Nat × Nat)} : CV.known (.fn f c) = true := rfl
@[go_sem] theorem known_mpr {κ : Tok} : CV.known (.mpr κ) = true := rfl
@[go_sem] theorem known_itr {κ : Tok} {bi : Nat} : CV.known (.itr κ bi) = true := rfl
@[go_sem] theorem known_sit {κ : Tok} : CV.known (.sit κ) = true := rfl
@[go_sem] theorem known_any : CV.known .any = false := rfl
@[go_sem] theorem known_skip : CV.known .skip = false := rfl
@[go_sem] theorem boolOf_lit {b : Bool} : boolOf? (.c (.d (.lit (.bool b)))) = some b := rfl
@[go_sem] theorem gOf_lit {w b : Bool} : gOf w (.c (.d (.lit (.bool b)))) = some (b == w) := rfl
@[go_sem] theorem gOf_skip {w : Bool} : gOf w (.c .skip) = some false := rfl
attribute [go_sem] res resC resF put_some upd_apply' entry_nil entry_zero entry_succ litOf? intOf? eqS eqB eqI eqT eqCells convS convI convT idxAS idxS idxT partS fldAS fldS addO sub splice stoG strOf? optNat extS TV.pv lenS lenT litsOf capsOf nilS loadS storeS blocked mkPV oneP cellsP CV.toD toDs CV.frz TV.frz PV.frz buildS fillA bslS bslC chunk boxS RT.tv RT.ar RT.tvs RV.pv RV.list RT.install fbOf lwE lwIds kpE kpSl isKeep keepL mkM lwOf List.nil_append newId capPV resMk convT2 convT
end Go.PW

namespace Go.PW
noncomputable def envOf (P : Program) (effs : List FuncId) (off : Nat) (md st : List Nat) : Env := ⟨P, PureOK P, EffOK P, effs, off, md, st⟩
theorem envOf_ok {P : Program} {effs : List FuncId} {off : Nat} {md st : List Nat} (h : P.follows .mixedOrders = true) : EnvOK (envOf P effs off md st) := ⟨h, fun _ _ _ h => h, fun _ _ _ _ _ _ _ _ h => h⟩
section env
variable {P : Program} {effs : List FuncId} {off : Nat} {md st : List Nat}
@[go_sem] theorem envP : (envOf P effs off md st).P = P := rfl
@[go_sem] theorem envEff : (envOf P effs off md st).effs = effs := rfl
@[go_sem] theorem envOff : (envOf P effs off md st).off = off := rfl
@[go_sem] theorem envMd : (envOf P effs off md st).md = md := rfl
@[go_sem] theorem envSt : (envOf P effs off md st).st = st := rfl
theorem call_pure {n : Nat} {f : FuncId} {H : HMap} {A : AMap} {args args' : List PV} {rv : RV} {KK : PV → HMap → AMap → Prop} (h : PureOK P f args' rv) (ha : args.map PV.frz = args') (he : (effs.contains f || effs.contains (2000000 + f) || effs.contains (7000000 + f)) = false) (hA : ∀ k, A (off + n, k) = none)
    (hK : KK (rv.pv (off + n)) H (RT.install (off + n) A 0 rv.list)) : callV (envOf P effs off md st) n f H A args KK := S_call' he (by rw [ha]; exact h) hA hK
end env
section ret
variable {P : Program} {fn : Func} {S : St} {t t' : Nat}
theorem Apart_one {k : Option Tok} : Apart [k] := fun i j κ hi hj => by
  cases i with
  | zero => cases j with
    | zero => rfl
    | succ j => simp at hj
  | succ i => simp at hi
theorem Ret_one {r : RT} (k : Option Tok) (hr : fn.results.toList = [.tmp t]) (e : RetT S.A k r (S.ρ t)) : Ret P fn (.one r) S :=
  ⟨True.intro, [k], Apart_one, by rw [hr]; exact ⟨S.ρ t, rfl, e, rfl⟩⟩
theorem Ret_d {x : D} (hr : fn.results.toList = [.tmp t]) (e : (S.ρ t).frz = .c (.d x)) : Ret P fn (.one (.d x)) S := Ret_one none hr (.inl e)
theorem Ret_two {r r' : RT} (k : Option Tok) (hr : fn.results.toList = [.tmp t, .tmp t']) (e : RetT S.A k r (S.ρ t)) (e' : RetT S.A none r' (S.ρ t')) : Ret P fn (.tup [r, r']) S := by
  refine ⟨by show [r, r'].length ≠ 1; simp, [k, none], fun i j κ hi hj => ?_, by rw [hr]; exact ⟨S.ρ t, rfl, e, S.ρ t', rfl, e', rfl⟩⟩
  match i, j with
  | 0, 0 => rfl
  | 1, _ => simp at hi
  | 0, 1 => simp at hj
  | 0, j + 2 => simp at hj
  | i + 2, _ => simp at hi
end ret
theorem GuardP_not {b : Bool} {X Y : Prop} (h : b = true → Y) (h' : b = false → X) : GuardP (some (!b)) X Y := by cases b with | true => exact h rfl | false => exact h' rfl
@[go_sem] theorem noH_eq (n : Nat) : noH n = none := rfl
@[go_sem] theorem noA_eq (κ : Tok) : noA κ = none := rfl
theorem updA_eq {β : Type} (f : Tok → β) (a x : Tok) (b : β) : upd f a b x = if x = a then b else f x := rfl
attribute [go_sem] Option.bind_some Option.bind_none Option.map_some Option.map_none List.all_cons List.all_nil Bool.and_self Bool.and_true Bool.true_and Bool.and_false Bool.false_and Bool.or_true Bool.true_or Bool.or_false Bool.false_or Bool.not_true Bool.not_false if_true if_false List.getElem?_toArray List.getElem?_cons_zero List.getElem?_cons_succ List.getElem?_nil List.size_toArray List.length_cons List.length_nil List.take_succ_cons List.take_zero List.take_nil List.drop_succ_cons List.drop_zero List.drop_nil List.nil_append List.cons_append List.append_nil true_and and_true and_self beq_self_eq_true beq_true beq_false Bool.not_not List.map_cons List.map_nil List.toList_toArray Nat.zero_add Nat.add_zero Option.getD_some Option.getD_none updA_eq Prod.mk.injEq List.foldr_cons List.foldr_nil Option.isNone_none Option.isNone_some Option.isSome_none Option.isSome_some Bool.false_eq_true reduceCtorEq and_false false_and List.contains_nil List.contains_cons List.isEmpty_nil Int.zero_le_ofNat
end Go.PW

namespace Go.PW
section
variable {P : Program} {T : TypeId} {k : IntKind} {m n : Int} {a b : List UInt8}
theorem toList_str (l : List UInt8) : (ByteArray.mk l.toArray).toList = l := by
  have key : ∀ (s : ByteArray) (n i : Nat) (r : List UInt8), s.size - i = n → ByteArray.toList.loop s i r = r.reverse ++ s.data.toList.drop i := by
    intro s n
    induction n with
    | zero =>
      intro i r h
      unfold ByteArray.toList.loop
      rw [if_neg (by omega), List.drop_of_length_le (by rw [Array.length_toList]; show s.size ≤ i; omega), List.append_nil]
    | succ n ih =>
      intro i r h
      unfold ByteArray.toList.loop
      have hi : i < s.data.toList.length := by rw [Array.length_toList]; show i < s.size; omega
      rw [if_pos (by omega), ih (i + 1) _ (by omega), List.drop_eq_getElem_cons hi]
      have e : s.get! i = s.data.toList[i] := by
        show s.data[i]! = _
        have hi' : i < s.data.size := by simpa using hi
        rw [getElem!_pos s.data i hi']
        simp
      rw [e]
      simp
  have := key ⟨l.toArray⟩ _ 0 [] rfl
  unfold ByteArray.toList
  rw [this]
  simp
theorem str_append (a b : List UInt8) : (ByteArray.mk a.toArray) ++ (ByteArray.mk b.toArray) = ByteArray.mk (a ++ b).toArray := by
  apply ByteArray.ext
  simp
@[go_sem] theorem size_str (l : List UInt8) : (ByteArray.mk l.toArray).size = l.length := by simp [ByteArray.size]
@[go_sem] theorem B_sadd : binS P .add T (.c (.d (.lit (.string ⟨a.toArray⟩)))) (.c (.d (.lit (.string ⟨b.toArray⟩)))) = if a.length + b.length ≤ 9223372036854775807 then some (lit (.string ⟨(a ++ b).toArray⟩)) else none := by
  show (semOf (Op.stringOp .add ⟨a.toArray⟩ ⟨b.toArray⟩)).map lit = _
  unfold Op.stringOp
  simp only [size_str, str_append]
  have hmax : IntKind.i64.max = 9223372036854775807 := by decide
  rw [hmax]
  by_cases h : a.length + b.length ≤ 9223372036854775807
  · rw [if_neg (by omega), if_pos h]; rfl
  · rw [if_pos (by omega), if_neg h]; rfl
@[go_sem] theorem B_seql : binS P .eql T (.c (.d (.lit (.string ⟨a.toArray⟩)))) (.c (.d (.lit (.string ⟨b.toArray⟩)))) = some (lit (.bool (a == b))) := by
  show (semOf (Op.stringOp .eql ⟨a.toArray⟩ ⟨b.toArray⟩)).map lit = _
  unfold Op.stringOp
  simp only [toList_str]
  rfl
@[go_sem] theorem B_sneq : binS P .neq T (.c (.d (.lit (.string ⟨a.toArray⟩)))) (.c (.d (.lit (.string ⟨b.toArray⟩)))) = some (lit (.bool (!(a == b)))) := by
  show (semOf (Op.stringOp .neq ⟨a.toArray⟩ ⟨b.toArray⟩)).map lit = _
  unfold Op.stringOp
  simp only [toList_str]
  rfl
@[go_sem] theorem get_str (a : List UInt8) (i : Nat) : (ByteArray.mk a.toArray)[i]? = a[i]? := by
  by_cases h : i < a.length
  · rw [getElem?_pos _ i (by rw [size_str]; exact h), List.getElem?_eq_getElem h]
    rfl
  · rw [getElem?_neg _ i (by rw [size_str]; exact h), List.getElem?_eq_none (by omega)]
theorem extract_str (l : List UInt8) (i j : Nat) : (ByteArray.mk l.toArray).extract i j = ByteArray.mk ((l.drop i).take (j - i)).toArray := by
  apply ByteArray.ext
  rw [ByteArray.data_extract]
  simp [List.extract_eq_take_drop]
def iOr (k : IntKind) (m n : Int) : Int := k.wrap (BitVec.ofInt k.bits m ||| BitVec.ofInt k.bits n).toNat
def iXor (k : IntKind) (m n : Int) : Int := k.wrap (BitVec.ofInt k.bits m ^^^ BitVec.ofInt k.bits n).toNat
def iNot (k : IntKind) (n : Int) : Int := iXor k (if k.signed then -1 else k.max) n
def iShr (k : IntKind) (m : Int) (n : Nat) : Int := m.fdiv (2 ^ min n k.bits)
def iShl (k : IntKind) (m : Int) (n : Nat) : Int := k.wrap (m * 2 ^ min n k.bits)
@[go_sem] theorem B_or : binS P .or T (.c (.d (.lit (.int k m)))) (.c (.d (.lit (.int k n)))) = some (lit (.int k (iOr k m n))) := by cases k <;> rfl
@[go_sem] theorem B_xor : binS P .xor T (.c (.d (.lit (.int k m)))) (.c (.d (.lit (.int k n)))) = some (lit (.int k (iXor k m n))) := by cases k <;> rfl
@[go_sem] theorem U_xor : semOf (Op.unary .xor (.int k n)) = some (.int k (iNot k n)) := by cases k <;> rfl
@[go_sem] theorem B_shr {k' : IntKind} : binS P .shr T (.c (.d (.lit (.int k m)))) (.c (.d (.lit (.int k' n)))) = if 0 ≤ n then some (lit (.int k (iShr k m n.toNat))) else none := by
  show (semOf (Op.shift .shr k m k' n)).map lit = _
  unfold Op.shift
  by_cases h : 0 ≤ n
  · rw [if_neg (by omega), if_pos h]; rfl
  · rw [if_pos (by omega), if_neg h]; rfl
@[go_sem] theorem B_shl {k' : IntKind} : binS P .shl T (.c (.d (.lit (.int k m)))) (.c (.d (.lit (.int k' n)))) = if 0 ≤ n then some (lit (.int k (iShl k m n.toNat))) else none := by
  show (semOf (Op.shift .shl k m k' n)).map lit = _
  unfold Op.shift
  by_cases h : 0 ≤ n
  · rw [if_neg (by omega), if_pos h]; rfl
  · rw [if_pos (by omega), if_neg h]; rfl
theorem B_rem : binS P .rem T (.c (.d (.lit (.int k m)))) (.c (.d (.lit (.int k n)))) = if n = 0 then none else some (lit (.int k (m.tmod n))) := by
  have h : binOp .rem T (.int k m) (.int k n) = Op.intDiv .rem k m n := by unfold binOp; simp
  show (semOf (binOp .rem T (.int k m) (.int k n))).map lit = _
  rw [h]
  unfold Op.intDiv
  by_cases h0 : n = 0
  · rw [if_pos h0, if_pos h0]; rfl
  · rw [if_neg h0, if_neg h0]; rfl
theorem B_quo : binS P .quo T (.c (.d (.lit (.int k m)))) (.c (.d (.lit (.int k n)))) = if n = 0 then none else some (lit (.int k (k.wrap (m.tdiv n)))) := by
  have h : binOp .quo T (.int k m) (.int k n) = Op.intDiv .quo k m n := by unfold binOp; simp
  show (semOf (binOp .quo T (.int k m) (.int k n))).map lit = _
  rw [h]
  unfold Op.intDiv
  by_cases h0 : n = 0
  · rw [if_pos h0, if_pos h0]; rfl
  · rw [if_neg h0, if_neg h0]; rfl
attribute [go_sem] B_rem B_quo
end
@[go_sem] theorem toNat_0 : Int.toNat 0 = 0 := rfl
@[go_sem] theorem toNat_1 : Int.toNat 1 = 1 := rfl
@[go_sem] theorem toNat_2 : Int.toNat 2 = 2 := rfl
@[go_sem] theorem toNat_4 : Int.toNat 4 = 4 := rfl
@[go_sem] theorem toNat_7 : Int.toNat 7 = 7 := rfl
@[go_sem] theorem toNat_8 : Int.toNat 8 = 8 := rfl
@[go_sem] theorem toNat_100 : Int.toNat 100 = 100 := rfl
theorem elsBytes_bytes : ∀ (l : List UInt8), elsBytes (bytesEls l) = some l
  | [] => rfl
  | b :: l => by
    have ih := elsBytes_bytes l
    show (if ((b.toNat : Nat) : Int) = ((UInt8.ofNat ((b.toNat : Int)).toNat).toNat : Int) then (elsBytes (bytesEls l)).map (UInt8.ofNat ((b.toNat : Int)).toNat :: ·) else none) = _
    have e : UInt8.ofNat ((b.toNat : Int)).toNat = b := by simp
    rw [ih, e, if_pos rfl]
    rfl
theorem bytesEls_append (a b : List UInt8) : bytesEls a ++ bytesEls b = bytesEls (a ++ b) := by simp [bytesEls]
theorem bytesEls_length (a : List UInt8) : (bytesEls a).length = a.length := by simp [bytesEls]
theorem szBytes (a : List UInt8) : Szd 1 (bytesEls a) := fun e he => by obtain ⟨b, _, rfl⟩ := List.mem_map.1 he; rfl
theorem bytesEls_one (n : Int) (h0 : 0 ≤ n) (h1 : n < 256) : [[D.lit (.int .u8 n)]] = bytesEls [UInt8.ofNat n.toNat] := by
  have : ((UInt8.ofNat n.toNat).toNat : Int) = n := by
    rw [UInt8.toNat_ofNat', Nat.mod_eq_of_lt (by omega)]
    omega
  show _ = [[D.lit (.int .u8 ((UInt8.ofNat n.toNat).toNat : Int))]]
  rw [this]
@[go_sem] theorem convB_own {P : Program} {s : TypeId} {κ : Tok} {l : List UInt8} (hs : isBytes P s = true) : convB P s (.c (.own κ (bytesEls l))) = some (.c (.d (.lit (.string ⟨l.toArray⟩)))) := by
  simp only [convB, hs, if_true, sliceEls, Option.bind_some, elsBytes_bytes, Option.map_some]; rfl
@[go_sem] theorem convB_full {P : Program} {s : TypeId} {l : List UInt8} (hs : isBytes P s = true) : convB P s (.c (.full (bytesEls l))) = some (.c (.d (.lit (.string ⟨l.toArray⟩)))) := by
  simp only [convB, hs, if_true, sliceEls, Option.bind_some, elsBytes_bytes, Option.map_some]; rfl
@[go_sem] theorem litV_lit {v : Value} : litV (.c (.d (.lit v))) = some v := rfl
theorem mapOf_mpr {A : AMap} {κ : Tok} {m : List (Value × Value)} (h : A κ = some (.mp m)) : mapOf A (.c (.mpr κ)) = some m := by show (match A κ with | some (.mp m) => some m | _ => none) = _; rw [h]
@[go_sem] theorem mkey_int {k k' : IntKind} {n : Int} : mkeyOK (.int k) (.int k' n) = true := rfl
@[go_sem] theorem mkey_str {s : ByteArray} : mkeyOK .string (.string s) = true := rfl
attribute [go_sem] lookS lookM gotV pairV mupS upM laidM mdelS delM goneM
def encNS (m : List (Int × List UInt8)) : List (Value × Value) := m.map fun p => (.int .i64 p.1, .string ⟨p.2.toArray⟩)
def findN (k : Int) : List (Int × List UInt8) → Nat → Option (Nat × List UInt8)
  | [], _ => none
  | p :: m, i => if p.1 = k then some (i, p.2) else findN k m (i + 1)
theorem mfind_N (k : Int) : ∀ (m : List (Int × List UInt8)) (i : Nat), mfind (.int .i64) (.int .i64 k) (encNS m) i = some ((findN k m i).map fun r => (r.1, .string ⟨r.2.toArray⟩))
  | [], _ => rfl
  | p :: m, i => by
    have ih := mfind_N k m (i + 1)
    show (match (if IntKind.i64 = IntKind.i64 then some (k == p.1) else none) with
      | some true => some (some (i, Value.string ⟨p.2.toArray⟩))
      | some false => mfind (.int .i64) (.int .i64 k) (encNS m) (i + 1)
      | none => none) = _
    rw [if_pos rfl, ih, show findN k (p :: m) i = if p.1 = k then some (i, p.2) else findN k m (i + 1) from rfl]
    by_cases h : p.1 = k
    · rw [if_pos h, show (k == p.1) = true by simp [h]]; rfl
    · rw [if_neg h, show (k == p.1) = false by simp [Ne.symm h]]
end Go.PW
