/-
  Parts of the proof, laid together: PwR, PwS.
-/
import Derived.Test.YtemecklglapleaaGreatQ15
import Derived.IntWalk

namespace Go.PW
def idd {α : Type} (x : α) : α := x
@[go_sem] theorem xjr {α : Type} (x : α) : idd x = x := Or.elim (Or.inl (b := True) rfl) id (fun _ => rfl)
@[congr] theorem y9c {α : Type} {x y : Option α} {K : α → Prop} (h : idd x = y) : Opt x K = Opt y K := by rw [← h]; rfl
def zjd (g : Option Bool) (X Y : Prop) : Prop :=
 match g with
 | some true => X
 | some false => Y
 | none => False
@[congr] theorem y5i {g h : Option Bool} {X Y : Prop} (e : idd g = h) : zjd g X Y = zjd h X Y := by rw [← e]; rfl
@[go_sem] theorem y6a {X Y : Prop} : zjd (some true) X Y = X := rfl
@[go_sem] theorem y5j {X Y : Prop} : zjd (some false) X Y = Y := rfl
theorem zw7 {b : Bool} {X Y : Prop} (h : b = true → X) (h' : b = false → Y) : zjd (some b) X Y := by cases b with | true => exact h rfl | false => exact h' rfl
def z61 (ops : Array Oper) (j : Nat) : Option Nat := (ops[j]?).bind (·.dst)
@[congr] theorem y65 {ops : Array Oper} {i j : Nat} (h : idd i = j) : z61 ops i = z61 ops j := by rw [← h]; rfl
@[go_sem] theorem y8u {d : Option Nat} {T : TypeId} {op : Op} {p : String} {af : Array Edge} {g : Option (Nat × Bool)} {r : List Oper} : z61 ({ dst := d, op := op, type := T, pos := p, after := af, guard := g } :: r).toArray 0 = d := by
  simp [z61]
@[go_sem] theorem y8t {o : Oper} {r : List Oper} {j : Nat} : z61 (o :: r).toArray (j + 1) = z61 r.toArray j := by
  simp [z61]
def z7u (want : Bool) (ρ : Nat → PV) (t : Option Nat) : Option Bool :=
 match t with
 | none => some false
 | some t => gOf want (ρ t)
@[go_sem] theorem y7b {want : Bool} {ρ : Nat → PV} {t : Nat} : z7u want ρ (some t) = gOf want (ρ t) := rfl
@[congr] theorem y5r {want : Bool} {ρ : Nat → PV} {t u : Option Nat} (h : idd t = u) : z7u want ρ t = z7u want ρ u := by rw [← h]; rfl
variable {E : Env} {fb : Option (List Nat)} {ops : Array Oper} {ρ : Nat → PV} {H : HMap} {A : AMap} {r : List Oper} {K : St → Prop} {d : Option Nat} {T : TypeId} {op : Op} {p : String} {af : Array Edge}
@[congr] theorem y8m {fb' : Option (List Nat)} {l : List Oper} {S : St} (h : idd fb = fb') : RunV E fb ops l S K = RunV E fb' ops l S K := by rw [← h]; rfl
@[go_sem] theorem xqc {S : St} : RunV E fb ops [] S K = K S := rfl
@[go_sem] theorem y9g : RunV E fb ops ({ dst := d, op := op, type := T, pos := p, after := af, guard := none } :: r) ⟨ρ, H, A⟩ K =
 zqv E fb d (res (ev ρ) T op) H A fun v H A => RunV E fb ops r ⟨put ρ d v, H, A⟩ K :=
  propext ⟨fun h => (Opt.iff.1 h).elim fun b hb => by cases hb.1; exact hb.2.1 rfl, fun h => Opt.iff.2 ⟨true, rfl, fun _ => h, fun e => by cases e⟩⟩
@[go_sem] theorem y9i {j : Nat} {want : Bool} : RunV E fb ops ({ dst := d, op := op, type := T, pos := p, after := af, guard := some (j, want) } :: r) ⟨ρ, H, A⟩ K =
 zjd (z7u want ρ (z61 ops j)) (zqv E fb d (res (ev ρ) T op) H A fun v H A => RunV E fb ops r ⟨put ρ d v, H, A⟩ K) (RunV E fb ops r ⟨put ρ d (.c .skip), H, A⟩ K) := by
  show Opt (z7u want ρ (z61 ops j)) _ = _
  generalize z7u want ρ (z61 ops j) = g
  match g with
  | none => rfl
  | some true => exact propext ⟨fun h => h.1 rfl, fun h => ⟨fun _ => h, fun e => by cases e⟩⟩
  | some false => exact propext ⟨fun h => h.2 rfl, fun h => ⟨(fun e => by cases e), fun _ => h⟩⟩
@[congr] theorem y6h {x y : ROp} {K : PV → HMap → AMap → Prop} (h : idd x = y) : zqv E fb d x H A K = zqv E fb d y H A K := by rw [← h]; rfl
@[go_sem] theorem y4p {t u : Nat} {v : PV} : put ρ (some t) v u = if u = t then v else ρ u := rfl
@[go_sem] theorem xqw {v : PV} : put ρ none v = ρ := rfl
@[go_sem] theorem xqb {α : Type} {x : α} {K : α → Prop} : Opt (some x) K = K x := rfl
@[go_sem] theorem xqa {α : Type} {K : α → Prop} : Opt none K = False := rfl
theorem z07 {β : Type} (f : Nat → β) (a x : Nat) (b : β) : upd f a b x = if x = a then b else f x := rfl
theorem y0v (t : Nat) : entry [] t = .c .any := rfl
theorem yvd (x : PV) (xs : List PV) : entry (x :: xs) 0 = x := rfl
theorem yvc (x : PV) (xs : List PV) (t : Nat) : entry (x :: xs) (t + 1) = entry xs t := rfl
@[go_sem] theorem xxc {k : IntKind} {n : Int} : cst (.int k n) = .c (.d (.lit (.int k n))) := rfl
@[go_sem] theorem xqf {b : Bool} : cst (.bool b) = .c (.d (.lit (.bool b))) := rfl
@[go_sem] theorem y8s {b : ByteArray} : cst (.string b) = .c (.d (.lit (.string b))) := rfl
@[go_sem] theorem y9z {k : FloatKind} {n : _} : cst (.float k n) = .c (.d (.lit (.float k n))) := rfl
@[go_sem] theorem xxd : cst (.slice none 0 0) = .c (.full []) := rfl
@[go_sem] theorem xqg : cst (.pointer none) = .c (.d (.lit (.pointer none))) := rfl
@[go_sem] theorem xjo {t : Nat} : ev ρ (.tmp t) = ρ t := rfl
@[go_sem] theorem xqi {v : Value} : ev ρ (.const v) = cst v := rfl
@[go_sem] theorem xxf {f : FuncId} : ev ρ (.func f) = .c (.fn f []) := rfl
@[go_sem] theorem xzw {e : Operand → PV} {f : FuncId} {args : List PV} : resV e (.func f) args = .call f args := rfl
@[go_sem] theorem xqx {e : Operand → PV} {t : Nat} {args : List PV} : resV e (.tmp t) args = .callv (e (.tmp t)) args := rfl
section steps
variable {KK : PV → HMap → AMap → Prop} {x y a b c : PV} {ps : List (Nat × PV)} {o : BinOp} {n t : Nat} {B : Builtin} {args caps : List PV} {f : FuncId} {ats : List TypeId}
@[go_sem] theorem S_mv : zqv E fb d (.mv x) H A KK = KK x H A := rfl
@[go_sem] theorem xjk : zqv E fb d (.pick c a b) H A KK = Opt (boolOf? c) fun t => KK (if t then a else b) H A := by
  show Opt ((boolOf? c).map _) _ = _
  cases boolOf? c <;> rfl
@[go_sem] theorem xq4 : zqv E fb d (.build T ps) H A KK = Opt (z98 E.P T ps) fun v => KK v H A := rfl
@[go_sem] theorem xke : zqv E fb d (.bsl T n ps) H A KK = zjd (some (decide (z64 E.effs T = true))) (bslV E d T n ps H fun v H' => KK v H' A) (Opt (bslS E.P T n ps) fun v => KK v H A) := by
  show (match z64 E.effs T with
   | true => bslV E d T n ps H fun v H' => KK v H' A
   | false => zj5 E.P (.bsl T n ps) fun v => KK v H A) = _
  cases z64 E.effs T <;> rfl
@[go_sem] theorem y9u : bslV E (some t) T n ps H (fun v H' => KK v H' A) = Opt (bslC E.P T n ps) fun cs => H (E.off + t) = none ∧ KK (.c (.vsl (E.off + t) n)) (upd H (E.off + t) (some cs)) A := rfl
@[go_sem] theorem xkc : zqv E fb d (.bin o T x y) H A KK = Opt (binS E.P o T x y) fun v => KK v H A := rfl
@[go_sem] theorem S_un {u : UnOp} : zqv E fb d (.un u x) H A KK = Opt ((litOf? x).bind fun v => (zks (Op.unary u v)).map lit) fun v => KK v H A := rfl
@[go_sem] theorem xjd {s : TypeId} : zqv E fb d (.conv s T x) H A KK = zjd (some (decide (zj2 E.effs T = true))) (bytV E d s T x A fun v A' => KK v H A') (zjd (some (decide (zkr E.effs s = true))) (Opt (z3a E.P A s T x) fun v => KK v H A) (Opt (y0i E.P s T x) fun v => KK v H A)) := by
  show (match zj2 E.effs T with
   | true => bytV E d s T x A fun v A' => KK v H A'
   | false => (match zkr E.effs s with
     | true => Opt (z3a E.P A s T x) fun v => KK v H A
     | false => zj5 E.P (.conv s T x) fun v => KK v H A)) = _
  cases zj2 E.effs T <;> cases zkr E.effs s <;> rfl
@[go_sem] theorem xko {l : PV} : zqv E fb d (.mks T l c) H A KK = zjd (some (decide (z5v E.effs T = true))) (mksV E d T l c A fun v A' => KK v H A') (Opt (mksS E.P T l c) fun v => KK v H A) := by
  show (match z5v E.effs T with
   | true => mksV E d T l c A fun v A' => KK v H A'
   | false => zj5 E.P (.mks T l c) fun v => KK v H A) = _
  cases z5v E.effs T <;> rfl
@[go_sem] theorem xkm {fst : List PV} : zqv E fb d (.mkb f fst caps) H A KK = Opt (zjn fst) fun fs => Opt (zjn caps) fun cs => KK (.c (.bfn f fs cs)) H A := by
  show Opt ((zjn fst).bind fun fs => (zjn caps).map _) _ = _
  cases zjn fst <;> cases zjn caps <;> rfl
@[go_sem] theorem xkq : zqv E fb (some t) (.mmk T) H A KK = zjd (some (decide (yz2 E.effs T = true))) (newP A (.mp []) fun c A' => KK (.c (.d (.mr c))) H A') (A (E.off + t, 0) = none ∧ KK (.c (.mpr (E.off + t, 0))) H (upd A (E.off + t, 0) (some (.mp [])))) := by
  show (match yz2 E.effs T with
   | true => newP A (.mp []) fun c A' => KK (.c (.d (.mr c))) H A'
   | false => Opt (some t) fun d => A (E.off + d, 0) = none ∧ KK (.c (.mpr (E.off + d, 0))) H (upd A (E.off + d, 0) (some (.mp [])))) = _
  cases yz2 E.effs T <;> rfl
@[go_sem] theorem xkp {ok : Bool} : zqv E fb d (.mlk T x y ok) H A KK = Opt (y1l E.P A T x y ok) fun v => KK v H A := rfl
@[go_sem] theorem xkr {k v : PV} : zqv E fb d (.mup T x k v) H A KK = Opt (mupS E.P A T x k v) fun A' => KK (.c .any) H A' := rfl
@[go_sem] theorem xkg {u : TypeId} {us : List TypeId} {k : PV} : zqv E fb d (.blt .delete (u :: us) T [x, k]) H A KK = Opt (y1o E.P A u x k) fun A' => KK (.c .any) H A' := rfl
@[go_sem] theorem xjf : zqv E fb d (.idxA T x y) H A KK = Opt (y08 E.P T x y) fun v => KK v H A := rfl
@[go_sem] theorem xkk : zqv E fb d (.idx T x y) H A KK = Opt (idxS E.P T x y) fun v => KK v H A := rfl
@[go_sem] theorem xje : zqv E fb d (.fldA T x n) H A KK = Opt (y02 E.P T x n) fun v => KK v H A := rfl
@[go_sem] theorem xkj : zqv E fb d (.fld T x n) H A KK = Opt (fldS E.P T x n) fun v => KK v H A := rfl
@[go_sem] theorem xki : zqv E fb d (.ext x n) H A KK = Opt (extS x n) fun v => KK v H A := rfl
@[go_sem] theorem xkl : zqv E fb d (.blt .len ats T args) H A KK = zjd (some (decide (zva E.effs ats = true))) (Opt (lenM E.P A ats args) fun v => KK v H A) (Opt (lenS E.P ats args) fun v => KK v H A) := by
  show (match zva E.effs ats with
   | true => Opt (lenM E.P A ats args) fun v => KK v H A
   | false => zj5 E.P (.blt .len ats T args) fun v => KK v H A) = _
  cases zva E.effs ats <;> rfl
theorem y9k : zqv E fb d (.blt .min ats T args) H A KK = Opt ((z0f args).bind fun xs => (zks (Builtin.min_ #[] T xs.toArray)).map lit) fun v => KK v H A := rfl
@[go_sem] theorem xji {k k' : IntKind} {m l : Int} : zqv E fb d (.blt .min ats T [.c (.d (.lit (.int k m))), .c (.d (.lit (.int k' l)))]) H A KK = KK (lit (.int k (if l < m then l else m))) H A := by
  rw [y9k]
  simp only [z0f, Option.map_some, Option.bind_some, Builtin.min_, List.foldlM, Builtin.min2]
  rfl
theorem y9j : zqv E fb d (.blt .max ats T args) H A KK = Opt ((z0f args).bind fun xs => (zks (Builtin.max_ #[] T xs.toArray)).map lit) fun v => KK v H A := rfl
@[go_sem] theorem xjh {k k' : IntKind} {m l : Int} : zqv E fb d (.blt .max ats T [.c (.d (.lit (.int k m))), .c (.d (.lit (.int k' l)))]) H A KK = KK (lit (.int k (if l > m then l else m))) H A := by
  rw [y9j]
  simp only [z0f, Option.map_some, Option.bind_some, Builtin.max_, List.foldlM, Builtin.max2]
  rfl
@[go_sem] theorem xkn : zqv E fb d (.mkf f caps) H A KK = Opt (zjn caps) fun cs => KK (.c (.fn f cs)) H A := by
  show Opt ((zjn caps).map _) _ = _
  cases zjn caps <;> rfl
@[go_sem] theorem xjj : zqv E fb d (.nilc x) H A KK = Opt (nilS x) fun v => KK v H A := rfl
@[go_sem] theorem xku {lo hi mx : Option PV} : zqv E fb d (.slc T x lo hi mx) H A KK = slcV E.P T x lo hi mx fun v => KK v H A := rfl
@[go_sem] theorem xq3 : zqv E fb (some t) (.alloc T) H A KK = zjd (some (decide (z1d E.effs T = true))) (Opt (zzm E.P T) fun z => objV A z fun v A' => KK v H A') (Opt (zzm E.P T) fun z => H (E.off + t) = none ∧ KK (.c (.ptr (E.off + t) 0)) (upd H (E.off + t) (some z)) A) := by
  show (match z1d E.effs T with
   | true => Opt (zzm E.P T) fun z => objV A z fun v A' => KK v H A'
   | false => Opt (some t) fun d => Opt (zzm E.P T) fun z => H (E.off + d) = none ∧ KK (.c (.ptr (E.off + d) 0)) (upd H (E.off + d) (some z)) A) = _
  cases z1d E.effs T <;> rfl
@[go_sem] theorem xkd : zqv E fb (some t) (.box T x) H A KK = zjd (some (decide (z1d E.effs T = true))) (Opt (boxS x) fun z => objV A z fun v A' => KK v H A') (Opt (boxS x) fun z => H (E.off + t) = none ∧ KK (.c (.ptr (E.off + t) 0)) (upd H (E.off + t) (some z)) A) := by
  show (match z1d E.effs T with
   | true => Opt (boxS x) fun z => objV A z fun v A' => KK v H A'
   | false => Opt (some t) fun d => Opt (boxS x) fun z => H (E.off + d) = none ∧ KK (.c (.ptr (E.off + d) 0)) (upd H (E.off + d) (some z)) A) = _
  cases z1d E.effs T <;> rfl
@[go_sem] theorem xxq {z : List CV} {K : PV → AMap → Prop} : objV A z K = Opt (z7a z) fun ds => newP A (.ob ds) fun c A' => K (.c (.d (.rf c 0))) A' := rfl
@[go_sem] theorem xjg : zqv E fb d (.load T a) H A KK = Opt (z53 E.P fb H A T a) fun v => KK v H A := rfl
@[go_sem] theorem xq6 : zqv E fb d (.store T a x) H A KK = (0 < E.P.cellsOf T ∧ Opt (z0k E.P fb H A T a x) fun m => KK (.c .skip) m.1 m.2) := rfl
@[go_sem] theorem xkf : zqv E fb d (.blt .copy ats T [x, y]) H A KK = cpyV E.P A ats x y fun v A' => KK v H A' := rfl
@[go_sem] theorem xkb : zqv E fb (some t) (.blt .append ats T [x, y]) H A KK = zjd (some (decide (z1f E.effs ats = true))) (apdV E.P A ats x y fun v A' => KK v H A') (appW E.P E.md E.off t A ats x y fun v A' => KK v H A') := by
  show (match z1f E.effs ats with
   | true => apdV E.P A ats x y fun v A' => KK v H A'
   | false => appW E.P E.md E.off t A ats x y fun v A' => KK v H A') = _
  cases z1f E.effs ats <;> rfl
@[congr] theorem y8p {P : Program} {md : List Nat} {k q : Nat} {x' y' : PV} {K : PV → AMap → Prop} (hx : idd x = x') (hy : idd y = y') : appW P md k q A ats x y K = appW P md k q A ats x' y' K := by rw [← hx, ← hy]; rfl
@[congr] theorem y8r {P : Program} {x' y' : PV} {K : PV → AMap → Prop} (hx : idd x = x') (hy : idd y = y') : cpyV P A ats x y K = cpyV P A ats x' y' K := by rw [← hx, ← hy]; rfl
section
variable {P : Program} {md : List Nat} {k q : Nat} {K : PV → AMap → Prop} {els : List (List D)} {κ : Tok} {n m L o : Nat}
@[go_sem] theorem xkz : appW P md k q A ats x (.c (.d (.sl els))) K = appV P md k q A ats x (.c (.d (.sl els))) K := rfl
@[go_sem] theorem xkx : appW P md k q A ats x (.c (.d .nl)) K = appV P md k q A ats x (.c (.d .nl)) K := rfl
@[go_sem] theorem xxa : appW P md k q A ats x (.c (.full els)) K = appV P md k q A ats x (.c (.full els)) K := rfl
@[go_sem] theorem xjl : appW P md k q A ats x (.c (.own κ els)) K = appV P md k q A ats x (.c (.own κ els)) K := rfl
@[go_sem] theorem xkw : appW P md k q A ats x (.c (.mt κ n m)) K = appV P md k q A ats x (.c (.mt κ n m)) K := rfl
@[go_sem] theorem xk0 : appW P md k q A ats x (.c (.tv κ n m L)) K = appV P md k q A ats x (.c (.tv κ n m L)) K := rfl
@[go_sem] theorem xky : appW P md k q A ats x (.c (.d (.sa o n m))) K = appV P md k q A ats x (.c (.d (.sa o n m))) K := rfl
end
@[congr] theorem y8n {P : Program} {x' y' : PV} {K : PV → AMap → Prop} (hx : idd x = x') (hy : idd y = y') : apdV P A ats x y K = apdV P A ats x' y' K := by rw [← hx, ← hy]; rfl
@[congr] theorem y8z {ar ar' : Arr} {K : Nat → AMap → Prop} (hx : idd ar = ar') : newP A ar K = newP A ar' K := by rw [← hx]; rfl
@[go_sem] theorem xkt : zqv E fb d (.rng T x) H A KK = rngV E d T x A (fun v A' => KK v H A') := rfl
@[go_sem] theorem xks {str : Bool} : zqv E fb d (.nxt x str) H A KK = nxtV x str A (fun v A' => KK v H A') := rfl
@[go_sem] theorem xkh : zqv E fb d (.ent x) H A KK = entV x A (fun v => KK v H A) := rfl
@[congr] theorem y82 {x' : PV} {K : PV → AMap → Prop} (hx : idd x = x') : rngV E d T x A K = rngV E d T x' A K := by rw [← hx]; rfl
@[congr] theorem y80 {x' : PV} {str : Bool} {K : PV → AMap → Prop} (hx : idd x = x') : nxtV x str A K = nxtV x' str A K := by rw [← hx]; rfl
@[congr] theorem y8v {x' : PV} {K : PV → Prop} (hx : idd x = x') : entV x A K = entV x' A K := by rw [← hx]; rfl
@[go_sem] theorem xq5 : zqv E fb d (.callv x args) H A KK = z3w E H A x args KK := rfl
@[congr] theorem y5n {x' : PV} {args' : List PV} (hx : idd x = x') (h : idd args = args') : z3w E H A x args KK = z3w E H A x' args' KK := by rw [← hx, ← h]; rfl
@[congr] theorem y6s {args' : List PV} (h : idd args = args') : zxm E n f H A args KK = zxm E n f H A args' KK := by rw [← h]; rfl
@[congr] theorem xw8 {args' : List PV} (h : idd args = args') : xw5 E f H A args KK = xw5 E f H A args' KK := by rw [← h]; rfl
@[go_sem] theorem xjc : zqv E fb d (.call f args) H A KK = zjd (some (decide (xwu E.effs f = true))) (xw5 E f H A args KK) (zjd (some (decide (zvm fb = true))) (zxm E (d.getD 0) f H A args (fun v H' A' => (∀ id ∈ yz3 fb, H' id = H id) ∧ KK v H' A')) (zxm E (d.getD 0) f H A args KK)) := by
  show (match xwu E.effs f with
   | true => xw5 E f H A args KK
   | false => (match zvm fb with
     | true => zxm E (d.getD 0) f H A args (fun v H' A' => (∀ id ∈ yz3 fb, H' id = H id) ∧ KK v H' A')
     | false => zxm E (d.getD 0) f H A args KK)) = _
  cases xwu E.effs f <;> cases zvm fb <;> rfl
theorem y6e {rv : RV} (he : (E.effs.contains f || E.effs.contains (2000000 + f) || E.effs.contains (7000000 + f) || E.effs.contains (9000000 + f)) = false) (h : E.Γ f (args.map PV.frz) rv) (hA : ∀ k, A (E.off + n, k) = none) (hK : KK (rv.pv (E.off + n)) H (RT.install (E.off + n) A 0 rv.list)) : zxm E n f H A args KK := by
 unfold zxm
 obtain ⟨he, e4⟩ := Bool.or_eq_false_iff.1 he
 obtain ⟨he, e3⟩ := Bool.or_eq_false_iff.1 he
 obtain ⟨e1, e2⟩ := Bool.or_eq_false_iff.1 he
 rw [e1, e2, e3, e4]
 exact ⟨rv, h, hA, hK⟩
theorem y6f {rv : RV} (he : (E.effs.contains f || E.effs.contains (2000000 + f) || E.effs.contains (7000000 + f)) = false) (hp : E.effs.contains (9000000 + f) = true) (h : E.Γ f (args.map PV.frz) rv) (hpl : rv.plain = true) (hK : KK (rv.pv 0) H A) : zxm E n f H A args KK := by
 unfold zxm
 obtain ⟨he, e3⟩ := Bool.or_eq_false_iff.1 he
 obtain ⟨e1, e2⟩ := Bool.or_eq_false_iff.1 he
 rw [e1, e2, e3, hp]
 exact ⟨rv, h, hpl, hK⟩
theorem y6g {v : PV} (he : E.effs.contains f = false) (hq : E.effs.contains (2000000 + f) = true) (h : E.Γe f (E.off + 1000) H A (args.map PV.frz) v H A) (ha : Above (E.off + 1000) H A) (hK : KK v H A) : zxm E n f H A args KK := by
 unfold zxm
 rw [he, hq]
 exact ⟨v, h, ha, hK⟩
theorem yww {v : PV} {H' : HMap} {A' : AMap} (he : E.effs.contains f = true) (h : E.Γe f (E.off + 1000) H A (args.map PV.frz) v H' A') (ha : Above (E.off + 1000) H A) (hK : KK v H' A') : zxm E n f H A args KK := by
 unfold zxm
 rw [he]
 exact ⟨v, H', A', h, ha, hK⟩
end steps
section arith
variable {P : Program} {k : IntKind} {m n : Int}
@[go_sem] theorem xjy : binS P .add T (.c (.d (.lit (.int k m)))) (.c (.d (.lit (.int k n)))) = some (lit (.int k (k.wrap (m + n)))) := by cases k <;> rfl
@[go_sem] theorem xj9 : binS P .sub T (.c (.d (.lit (.int k m)))) (.c (.d (.lit (.int k n)))) = some (lit (.int k (k.wrap (m - n)))) := by cases k <;> rfl
@[go_sem] theorem xj5 : binS P .mul T (.c (.d (.lit (.int k m)))) (.c (.d (.lit (.int k n)))) = some (lit (.int k (k.wrap (m * n)))) := by cases k <;> rfl
@[go_sem] theorem xj4 : binS P .lss T (.c (.d (.lit (.int k m)))) (.c (.d (.lit (.int k n)))) = some (lit (.bool (decide (m < n)))) := by cases k <;> rfl
@[go_sem] theorem xj3 : binS P .leq T (.c (.d (.lit (.int k m)))) (.c (.d (.lit (.int k n)))) = some (lit (.bool (decide (m ≤ n)))) := by cases k <;> rfl
@[go_sem] theorem xj2 : binS P .gtr T (.c (.d (.lit (.int k m)))) (.c (.d (.lit (.int k n)))) = some (lit (.bool (decide (n < m)))) := by cases k <;> rfl
@[go_sem] theorem xj1 : binS P .geq T (.c (.d (.lit (.int k m)))) (.c (.d (.lit (.int k n)))) = some (lit (.bool (decide (n ≤ m)))) := by cases k <;> rfl
@[go_sem] theorem xj0 : binS P .eql T (.c (.d (.lit (.int k m)))) (.c (.d (.lit (.int k n)))) = some (lit (.bool (m == n))) := by cases k <;> rfl
@[go_sem] theorem xj6 : binS P .neq T (.c (.d (.lit (.int k m)))) (.c (.d (.lit (.int k n)))) = some (lit (.bool (m != n))) := by cases k <;> rfl
def iAnd (k : IntKind) (m n : Int) : Int := k.wrap (BitVec.ofInt k.bits m &&& BitVec.ofInt k.bits n).toNat
@[go_sem] theorem xjz : binS P .and T (.c (.d (.lit (.int k m)))) (.c (.d (.lit (.int k n)))) = some (lit (.int k (iAnd k m n))) := by cases k <;> rfl
@[go_sem] theorem xx7 {k : FloatKind} {m n : Nat} : binS P .eql T (.c (.d (.lit (.float k m)))) (.c (.d (.lit (.float k n)))) = some (lit (.bool (k.format.order m n == some .eq))) := by cases k <;> rfl
@[go_sem] theorem xx8 {k : FloatKind} {m n : Nat} : binS P .neq T (.c (.d (.lit (.float k m)))) (.c (.d (.lit (.float k n)))) = some (lit (.bool (k.format.order m n != some .eq))) := by cases k <;> rfl
end arith
@[go_sem] theorem lit_eq {v : Value} : lit v = .c (.d (.lit v)) := rfl
@[go_sem] theorem xqu {b : Bool} : zks (Op.unary .not (.bool b)) = some (.bool (!b)) := rfl
section app
variable {P : Program} {md : List Nat} {k : Nat} {t e : TypeId} {els ys : List (List D)} {x y : PV} {κ : Tok} {sz n : Nat} {q : Nat} {KK : PV → AMap → Prop}
@[congr] theorem y8o {x' y' : PV} (hx : idd x = x') (hy : idd y = y') {ats : List TypeId} : appV P md k q A ats x y KK = appV P md k q A ats x' y' KK := by rw [← hx, ← hy]; rfl
@[go_sem] theorem yw1 (h : P.underlying t = some (.slice e)) (hy : zqc y = some ys) (hm : md.contains q = false) : appV P md k q A [t, t] (.c (.full els)) y KK =
 (((0 < P.cellsOf e ∧ zzt P e = true ∧ 0 < P.bytesOf e) ∧ (Szd (P.cellsOf e) els ∧ Szd (P.cellsOf e) ys ∧ (els.length + ys.length) * P.bytesOf e ≤ 140737488355328 ∧ A (k + q, 0) = none)) ∧
   KK (.c (.own (k + q, 0) (els ++ ys))) (upd A (k + q, 0) (some (.co (P.cellsOf e) (els ++ ys).length)))) := by
  unfold appV
  simp only [h, hy, hm, true_and, and_assoc]
@[go_sem] theorem yk3 (h : P.underlying t = some (.slice e)) (hy : zqc y = some ys) (hm : md.contains q = true) : appV P md k q A [t, t] (.c (.full els)) y KK =
 (((0 < P.cellsOf e ∧ zzt P e = true ∧ 0 < P.bytesOf e) ∧ (Szd (P.cellsOf e) els ∧ Szd (P.cellsOf e) ys ∧ (els.length + ys.length) * P.bytesOf e ≤ 140737488355328 ∧ A (k + q, 0) = none) ∧ els = []) ∧
   KK (.c (.mt (k + q, 0) (P.cellsOf e) (els ++ ys).length)) (upd A (k + q, 0) (some (.mu (P.cellsOf e) (els ++ ys))))) := by
  unfold appV
  simp only [h, hy, hm, true_and, and_assoc]
@[go_sem] theorem y24 (h : P.underlying t = some (.slice e)) (hy : zqc y = some ys) : appV P md k q A [t, t] (.c (.own κ els)) y KK =
 (((0 < P.cellsOf e ∧ zzt P e = true ∧ 0 < P.bytesOf e) ∧ (Szd (P.cellsOf e) els ∧ Szd (P.cellsOf e) ys ∧ (els.length + ys.length) * P.bytesOf e ≤ 140737488355328 ∧ A κ = some (.co (P.cellsOf e) els.length))) ∧
   KK (.c (.own κ (els ++ ys))) (upd A κ (some (.co (P.cellsOf e) (els ++ ys).length)))) := by
  unfold appV
  simp only [h, hy, true_and, and_assoc]
end app
@[go_sem] theorem sE_d {els : List (List D)} : zqc (.c (.d (.sl els))) = some els := rfl
@[go_sem] theorem xxt {els : List (List D)} : zqc (.c (.full els)) = some els := rfl
@[go_sem] theorem xjx {κ : Tok} {els : List (List D)} : zqc (.c (.own κ els)) = some els := rfl
@[go_sem] theorem iE_d {P : Program} {e : TypeId} {n : Nat} {els : List (List D)} : idxE P e n (.c (.d (.sl els))) = (els[n]?).bind fun c => if c.length = P.cellsOf e then some (.c (.eptr c 0)) else none := rfl
@[go_sem] theorem xxk {P : Program} {e : TypeId} {n : Nat} {els : List (List D)} : idxE P e n (.c (.full els)) = (els[n]?).bind fun c => if c.length = P.cellsOf e then some (.c (.eptr c 0)) else none := rfl
@[go_sem] theorem xjp {P : Program} {e : TypeId} {n : Nat} {κ : Tok} {els : List (List D)} : idxE P e n (.c (.own κ els)) = (els[n]?).bind fun c => if c.length = P.cellsOf e then some (.c (.eptr c 0)) else none := rfl
@[go_sem] theorem lE_d {els : List (List D)} : lenE (.c (.d (.sl els))) = some (lit (.int .i64 els.length)) := rfl
@[go_sem] theorem xxn {els : List (List D)} : lenE (.c (.full els)) = some (lit (.int .i64 els.length)) := rfl
@[go_sem] theorem xjs {κ : Tok} {els : List (List D)} : lenE (.c (.own κ els)) = some (lit (.int .i64 els.length)) := rfl
@[go_sem] theorem xjt {id n : Nat} : lenE (.c (.vsl id n)) = some (lit (.int .i64 n)) := rfl
@[go_sem] theorem xjq {P : Program} {e : TypeId} {n id len : Nat} : idxE P e n (.c (.vsl id len)) = if n < len then some (.c (.ptr id (n * P.cellsOf e))) else none := rfl
@[go_sem] theorem xzl {id n : Nat} : CV.known (.vsl id n) = true := rfl
@[go_sem] theorem xzf {f : FuncId} {c c' : List (Nat × Nat)} : CV.known (.bfn f c c') = true := rfl
@[go_sem] theorem xve {κ : Tok} {sz n L : Nat} : lenE (.c (.tv κ sz n L)) = some (lit (.int .i64 n)) := rfl
@[go_sem] theorem xvb {κ : Tok} {sz n : Nat} : lenE (.c (.mt κ sz n)) = some (lit (.int .i64 n)) := rfl
@[go_sem] theorem xvi : zqc (.c (.d .nl)) = some [] := rfl
@[go_sem] theorem xvc : lenE (.c (.d .nl)) = some (lit (.int .i64 0)) := rfl
@[go_sem] theorem xvd {p s n : Nat} : lenE (.c (.d (.sa p s n))) = some (lit (.int .i64 n)) := rfl
@[go_sem] theorem xvf {p s L lo n : Nat} : lenE (.c (.d (.vw p s L lo n))) = some (lit (.int .i64 n)) := rfl
@[go_sem] theorem xk9 {P : Program} {e : TypeId} {n p s len : Nat} : idxE P e n (.c (.d (.sa p s len))) = if n < len ∧ s = P.cellsOf e then some (.c (.d (.el p s len n 0))) else none := rfl
@[go_sem] theorem xva {P : Program} {e : TypeId} {n p s L lo len : Nat} : idxE P e n (.c (.d (.vw p s L lo len))) = if n < len ∧ s = P.cellsOf e then some (.c (.d (.el p s L (lo + n) 0))) else none := rfl
@[go_sem] theorem xzs {k : IntKind} {n : Int} : natOf? (.c (.d (.lit (.int k n)))) = if 0 ≤ n then some n.toNat else none := rfl
@[go_sem] theorem xxm {x : D} : CV.known (.d x) = true := rfl
@[go_sem] theorem y8x {x : List (List D)} : CV.known (.full x) = true := rfl
@[go_sem] theorem xzi {κ : Tok} {x : List (List D)} : CV.known (.own κ x) = true := rfl
@[go_sem] theorem xqp {κ : Tok} {s n L : Nat} : CV.known (.tv κ s n L) = true := rfl
@[go_sem] theorem xqo {κ : Tok} {s n : Nat} : CV.known (.mt κ s n) = true := rfl
@[go_sem] theorem xzj {s n : Nat} : CV.known (.ptr s n) = true := rfl
@[go_sem] theorem xqn {f : FuncId} {c : List (Nat × Nat)} : CV.known (.fn f c) = true := rfl
@[go_sem] theorem xzh {κ : Tok} : CV.known (.mpr κ) = true := rfl
@[go_sem] theorem xzg {κ : Tok} {bi : Nat} : CV.known (.itr κ bi) = true := rfl
@[go_sem] theorem xzk {κ : Tok} : CV.known (.sit κ) = true := rfl
@[go_sem] theorem xze : CV.known .any = false := rfl
@[go_sem] theorem y8y : CV.known .skip = false := rfl
@[go_sem] theorem y8q {b : Bool} : boolOf? (.c (.d (.lit (.bool b)))) = some b := rfl
@[go_sem] theorem xxh {w b : Bool} : gOf w (.c (.d (.lit (.bool b)))) = some (b == w) := rfl
@[go_sem] theorem xqj {w : Bool} : gOf w (.c .skip) = some false := rfl
attribute [go_sem] res resC resF y4p z07 y0v yvd yvc litOf? intOf? eqS eqB eqI eqT zwi y0i y6y y3d y08 idxS idxT yv1 y02 fldS addO sub splice stoG strOf? zz0 extS TV.pv lenS lenT z0f zjn nilS z53 z0k blocked mkPV oneP z7n CV.toD toDs CV.toDo z7a D.cv PV.mv MV.tv MV.pv CV.frz TV.frz PV.frz z98 z8x bslS bslC chunk boxS RT.tv RT.ar RT.tvs RV.pv RV.list RT.install fbOf lwE y1m kpE kpSl zvm xwu yz3 mkM lwOf List.nil_append yxy z60 xzu y0j y3d
end Go.PW
namespace Go.PW
noncomputable def envOf (P : Program) (effs : List FuncId) (off : Nat) (md st : List Nat) : Env := ⟨P, zzr P, zqf P, effs, off, md, st, EffS P⟩
theorem zzx {P : Program} {effs : List FuncId} {off : Nat} {md st : List Nat} (h : P.follows .mixedOrders = true) : EnvOK (envOf P effs off md st) := ⟨h, fun _ _ _ h => h, fun _ _ _ _ _ _ _ _ h => h, fun _ _ _ _ _ _ h => h⟩
section env
variable {P : Program} {effs : List FuncId} {off : Nat} {md st : List Nat}
@[go_sem] theorem envP : (envOf P effs off md st).P = P := rfl
@[go_sem] theorem xjm : (envOf P effs off md st).effs = effs := rfl
@[go_sem] theorem xjn : (envOf P effs off md st).off = off := rfl
@[go_sem] theorem xk7 : (envOf P effs off md st).md = md := rfl
@[go_sem] theorem xk8 : (envOf P effs off md st).st = st := rfl
theorem yzb {n : Nat} {f : FuncId} {H : HMap} {A : AMap} {args args' : List PV} {rv : RV} {KK : PV → HMap → AMap → Prop} (h : zzr P f args' rv) (ha : args.map PV.frz = args') (he : (effs.contains f || effs.contains (2000000 + f) || effs.contains (7000000 + f) || effs.contains (9000000 + f)) = false) (hA : ∀ k, A (off + n, k) = none)
 (hK : KK (rv.pv (off + n)) H (RT.install (off + n) A 0 rv.list)) : zxm (envOf P effs off md st) n f H A args KK := y6e he (by rw [ha]; exact h) hA hK
end env
section ret
variable {P : Program} {fn : Func} {S : St} {t t' : Nat}
theorem z49 {k : Option Tok} : Apart [k] := fun i j κ hi hj => by
 cases i with
 | zero => cases j with
   | zero => rfl
   | succ j => simp at hj
 | succ i => simp at hi
theorem yxb {r : RT} (k : Option Tok) (hr : fn.results.toList = [.tmp t]) (e : RetT S.A k r (S.ρ t)) : Ret P fn (.one r) S :=
 ⟨Zti, [k], z49, by rw [hr]; exact ⟨S.ρ t, rfl, e, rfl⟩⟩
theorem zzs {x : D} (hr : fn.results.toList = [.tmp t]) (e : (S.ρ t).frz = .c (.d x)) : Ret P fn (.one (.d x)) S := yxb none hr (.inl e)
theorem y9e {sz : Nat} {els : List (List D)} (κ : Tok) (hr : fn.results.toList = [.tmp t]) (e : S.ρ t = .c (.mt κ sz els.length)) (hA : S.A κ = some (.mu sz els)) : Ret P fn (.one (.d (.sl els))) S := yxb (some κ) hr (.inr ⟨κ, sz, els, rfl, rfl, e, hA⟩)
theorem zwe {sz : Nat} {els : List (List D)} (κ : Tok) (hr : fn.results.toList = [.tmp t]) (e : S.ρ t = .c (.own κ els)) (hA : S.A κ = some (.co sz els.length)) : Ret P fn (.one (.own sz els)) S := yxb (some κ) hr (.inl ⟨κ, rfl, e, hA⟩)
theorem z1j {r r' : RT} (k : Option Tok) (hr : fn.results.toList = [.tmp t, .tmp t']) (e : RetT S.A k r (S.ρ t)) (e' : RetT S.A none r' (S.ρ t')) : Ret P fn (.tup [r, r']) S := by
 refine ⟨by show [r, r'].length ≠ 1; simp, [k, none], fun i j κ hi hj => ?_, by rw [hr]; exact ⟨S.ρ t, rfl, e, S.ρ t', rfl, e', rfl⟩⟩
 match i, j with
 | 0, 0 => rfl
 | 1, _ => simp at hi
 | 0, 1 => simp at hj
 | 0, j + 2 => simp at hj
 | i + 2, _ => simp at hi
end ret
theorem ykz {b : Bool} {X Y : Prop} (h : b = true → Y) (h' : b = false → X) : zjd (some (!b)) X Y := by cases b with | true => exact h rfl | false => exact h' rfl
@[go_sem] theorem xjv (n : Nat) : noH n = none := rfl
@[go_sem] theorem xju (κ : Tok) : noA κ = none := rfl
theorem y8f {β : Type} (f : Tok → β) (a x : Tok) (b : β) : upd f a b x = if x = a then b else f x := rfl
attribute [go_sem] Option.bind_some Option.bind_none Option.map_some Option.map_none List.all_cons List.all_nil Bool.and_self Bool.and_true Bool.true_and Bool.and_false Bool.false_and Bool.or_true Bool.true_or Bool.or_false Bool.false_or Bool.not_true Bool.not_false if_true if_false List.getElem?_toArray List.getElem?_cons_zero List.getElem?_cons_succ List.getElem?_nil List.size_toArray List.length_cons List.length_nil List.take_succ_cons List.take_zero List.take_nil List.drop_succ_cons List.drop_zero List.drop_nil List.nil_append List.cons_append List.append_nil true_and and_true and_self beq_self_eq_true beq_true beq_false Bool.not_not List.map_cons List.map_nil List.toList_toArray Nat.zero_add Nat.add_zero Option.getD_some Option.getD_none y8f Prod.mk.injEq List.foldr_cons List.foldr_nil Option.isNone_none Option.isNone_some Option.isSome_none Option.isSome_some Bool.false_eq_true reduceCtorEq and_false false_and List.contains_nil List.contains_cons List.isEmpty_nil Int.zero_le_ofNat
end Go.PW
