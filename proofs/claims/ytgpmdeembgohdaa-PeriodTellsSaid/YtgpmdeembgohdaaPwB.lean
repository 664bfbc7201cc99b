/-
  The abstract machine: what each operation comes to, on values. No program is named here.
-/
import Derived.Test.YtgpmdeembgohdaaPwA
namespace Go.PW

def upd {α β : Type} [DecidableEq α] (f : α → β) (a : α) (b : β) : α → β := fun x => if x = a then b else f x

structure St where
  ρ : Nat → PV
  H : HMap
  A : AMap

def cstC : Value → CV
  | .slice none 0 0 => .full []
  | .agg _ => .any
  | .tuple _ => .any
  | v => .d (.lit v)

def cst : Value → PV
  | .agg arr => .agg (arr.toList.map cstC)
  | v => .c (cstC v)

def ev (ρ : Nat → PV) : Operand → PV
  | .tmp t => ρ t
  | .const v => cst v
  | .global _ => .c .any
  | .func f => .c (.fn f [])

/-- An operation with what its operands stand for. -/
inductive ROp where
  | mv (x : PV)
  | pick (c a b : PV)
  | alloc (T : TypeId)
  | box (T : TypeId) (x : PV)
  | build (T : TypeId) (ps : List (Nat × PV))
  | bsl (T : TypeId) (n : Nat) (ps : List (Nat × PV))
  | load (T : TypeId) (a : PV)
  | store (T : TypeId) (a x : PV)
  | bin (op : BinOp) (T : TypeId) (x y : PV)
  | un (op : UnOp) (x : PV)
  | conv (s d : TypeId) (x : PV)
  | idxA (T : TypeId) (x i : PV)
  | idx (T : TypeId) (x i : PV)
  | fldA (T : TypeId) (x : PV) (f : Nat)
  | fld (T : TypeId) (x : PV) (f : Nat)
  | slc (T : TypeId) (x : PV) (lo hi mx : Option PV)
  | ext (x : PV) (i : Nat)
  | call (f : FuncId) (args : List PV)
  | callv (x : PV) (args : List PV)
  | blt (b : Builtin) (ats : List TypeId) (T : TypeId) (args : List PV)
  | mkf (f : FuncId) (caps : List PV)
  | mks (T : TypeId) (l c : PV)
  | nilc (x : PV)
  | no

def resV (e : Operand → PV) (x : Operand) (args : List PV) : ROp :=
  match x with
  | .func f => .call f args
  | x => .callv (e x) args

def resC (e : Operand → PV) (T : TypeId) (c : Callee) (ats : List TypeId) (args : List PV) : ROp :=
  match c with
  | .value x => resV e x args
  | .builtin b => .blt b ats T args
  | .invoke _ _ => .no

def resF (fn : Fn) (first : Array Operand) (caps : List PV) : ROp :=
  match fn with
  | .func f => if first.size = 0 then .mkf f caps else .no
  | _ => .no

def res (e : Operand → PV) (T : TypeId) : Op → ROp
  | .move x => .mv (e x)
  | .assign x => .mv (e x)
  | .pick c a b => .pick (e c) (e a) (e b)
  | .alloc T => .alloc T
  | .box T x => .box T (e x)
  | .build T ps => .build T (ps.toList.map fun (p : Nat × Operand) => (p.1, e p.2))
  | .buildSlice T n ps => .bsl T n (ps.toList.map fun (p : Nat × Operand) => (p.1, e p.2))
  | .load T a => .load T (e a)
  | .store T a x => .store T (e a) (e x)
  | .binOp op T x y _ => .bin op T (e x) (e y)
  | .unOp op _ x => .un op (e x)
  | .convert s d x => .conv s d (e x)
  | .indexAddr T x i => .idxA T (e x) (e i)
  | .index T x i => .idx T (e x) (e i)
  | .fieldAddr T x f => .fldA T (e x) f
  | .field T x f => .fld T (e x) f
  | .slice T x lo hi mx => .slc T (e x) (lo.map e) (hi.map e) (mx.map e)
  | .extract x i => .ext (e x) i
  | .call c => resC e T c.callee c.argTypes.toList (c.args.toList.map e)
  | .makeFunc fn first caps => resF fn first (caps.toList.map e)
  | .makeSlice T l c => .mks T (e l) (e c)
  | .nilCheck x => .nilc (e x)
  | _ => .no

/-! Pieces. -/
def semOf : Sem Value → Option Value
  | .pure v => if v.oneCell' then some v else none
  | _ => none

def lit (v : Value) : PV := .c (.d (.lit v))

def CV.known : CV → Bool
  | .any | .skip => false
  | _ => true

def CV.toD : CV → Option D
  | .d x => some x
  | .full els => some (.sl els)
  | .own _ els => some (.sl els)
  | _ => none

def toDs : List CV → Option (List D)
  | [] => some []
  | c :: r => (c.toD).bind fun x => (toDs r).map fun xs => x :: xs

def CV.frz : CV → CV
  | .full els => .d (.sl els)
  | .own _ els => .d (.sl els)
  | c => c

def TV.frz : TV → TV
  | .c x => .c x.frz
  | .agg cs => .agg (cs.map CV.frz)

def PV.frz : PV → PV
  | .c x => .c x.frz
  | .agg cs => .agg (cs.map CV.frz)
  | .tup xs => .tup xs

def cellsP : PV → Option (List CV)
  | .c x => if x.known then some [x] else none
  | .agg cs => some cs
  | .tup _ => none

def oneP : List CV → Option PV
  | [c] => some (.c c)
  | _ => none

def mkPV (P : Program) (T : TypeId) (cs : List CV) : Option PV :=
  match P.underlying T with
  | some (.struct _) => some (.agg cs)
  | some (.array _ _) => some (.agg cs)
  | some _ => oneP cs
  | none => none

def sub (cs : List CV) (off n : Nat) : Option (List CV) := if off + n ≤ cs.length then some ((cs.drop off).take n) else none

def splice {α : Type} (cs : List α) (off : Nat) (ys : List α) : List α := cs.take off ++ ys ++ cs.drop (off + ys.length)

/-- The zero value's cells. -/
def zeroOf (P : Program) (T : TypeId) : Option (List CV) :=
  match P.info? T with
  | some i => match i.zero with
    | some z => if z.cells.size = i.size ∧ z.cells.all (·.oneCell') = true then some (z.cells.toList.map cstC) else none
    | none => none
  | none => none

def sliceEls : PV → Option (List (List D))
  | .c (.d (.sl els)) => some els
  | .c (.full els) => some els
  | .c (.own _ els) => some els
  | _ => none

def intOf? : PV → Option Int
  | .c (.d (.lit (.int _ n))) => some n
  | _ => none

def natOf? (x : PV) : Option Nat := (intOf? x).bind fun n => if 0 ≤ n then some n.toNat else none

/-- The places of a struct's fields. -/
def structPl (P : Program) (T : TypeId) : Option (List (Nat × Nat)) :=
  match P.underlying T with
  | some (.struct fs) => fs.toList.mapM (fun f => (P.info? f.type).map fun i => (f.offset, i.size))
  | _ => none

def fillA (place : Nat → Option (Nat × Nat)) : List CV → List (Nat × PV) → Option (List CV)
  | cs, [] => some cs
  | cs, (i, x) :: r => (place i).bind fun q => (cellsP x).bind fun ys => if ys.length = q.2 ∧ q.1 + ys.length ≤ cs.length then fillA place (splice cs q.1 ys) r else none

def buildS (P : Program) (T : TypeId) (ps : List (Nat × PV)) : Option PV :=
  match P.underlying T with
  | some (.struct _) => (structPl P T).bind fun pl => (zeroOf P T).bind fun z => (fillA (fun i => pl[i]?) z ps).map .agg
  | some (.array _ e) => if 0 < P.cellsOf e then (zeroOf P T).bind fun z => (fillA (fun i => some (i * P.cellsOf e, P.cellsOf e)) z ps).map .agg else none
  | _ => none

def chunk {α : Type} (size : Nat) : Nat → List α → List (List α)
  | 0, _ => []
  | n + 1, l => l.take size :: chunk size n (l.drop size)

def bslS (P : Program) (T : TypeId) (n : Nat) (ps : List (Nat × PV)) : Option PV :=
  match P.underlying T with
  | some (.slice e) => (zeroOf P e).bind fun z => if n * P.cellsOf e ≤ 16777216 ∧ 0 < P.cellsOf e ∧ 0 < n then
      (fillA (fun i => some (i * P.cellsOf e, P.cellsOf e)) (List.replicate n z).flatten ps).bind fun cs => (toDs cs).map fun ds => .c (.full (chunk (P.cellsOf e) n ds))
      else none
  | _ => none

def eqB : List CV → List CV → Option Bool
  | [.d (.lit (.bool a))], [.d (.lit (.bool b))] => some (a == b)
  | _, _ => none

def eqI : List CV → List CV → Option Bool
  | [.d (.lit (.int k a))], [.d (.lit (.int k' b))] => if k = k' then some (a == b) else none
  | _, _ => none

def eqT : List CV → List CV → Option Bool
  | [.d (.lit (.string a))], [.d (.lit (.string b))] => some (a.toList == b.toList)
  | _, _ => none

/-- Equality of two values of a type, cell by cell. -/
def eqCells (P : Program) : Nat → TypeId → List CV → List CV → Option Bool
  | 0, _, _, _ => none
  | d + 1, T, xs, ys =>
    match P.underlying T with
    | some .bool => eqB xs ys
    | some (.int _) => eqI xs ys
    | some .string => eqT xs ys
    | some (.struct fs) => if P.stoodInHeld T = false then
        fs.toList.foldr (fun f acc => if f.name = "_" then acc else (sub xs f.offset (P.cellsOf f.type)).bind fun a => (sub ys f.offset (P.cellsOf f.type)).bind fun b => (eqCells P d f.type a b).bind fun r => acc.map fun s => r && s) (some true)
        else none
    | _ => none

def eqS (P : Program) (T : TypeId) (x y : PV) : Option Bool :=
  match x, y with
  | .agg xs, .agg ys => match P.underlying T with
    | some (.struct _) => if P.eqGuardType P.depth T = false then eqCells P 8 T xs ys else none
    | _ => none
  | .c (.d (.lit (.bool a))), .c (.d (.lit (.bool b))) => match P.underlying T with
    | some .bool => some (a == b)
    | _ => none
  | .c (.ptr _ _), .c (.d (.lit (.pointer none))) => match P.underlying T with
    | some (.pointer _) => some false
    | _ => none
  | .c (.d (.lit (.pointer none))), .c (.d (.lit (.pointer none))) => match P.underlying T with
    | some (.pointer _) => some true
    | _ => none
  | _, _ => none

def binS (P : Program) (op : BinOp) (T : TypeId) (x y : PV) : Option PV :=
  match x, y with
  | .c (.d (.lit (.int k a))), .c (.d (.lit (.int k' b))) => (semOf (binOp op T (.int k a) (.int k' b))).map lit
  | .c (.d (.lit (.float k a))), .c (.d (.lit (.float k' b))) => (semOf (binOp op T (.float k a) (.float k' b))).map lit
  | .c (.d (.lit (.string a))), .c (.d (.lit (.string b))) => (semOf (binOp op T (.string a) (.string b))).map lit
  | x, y => match op with
    | .eql => (eqS P T x y).map fun b => lit (.bool b)
    | .neq => (eqS P T x y).map fun b => lit (.bool (!b))
    | _ => none

def convI (k : IntKind) : PV → Option PV
  | .c (.d (.lit (.int _ n))) => some (lit (.int k (k.wrap n)))
  | _ => none

def convT : PV → Option PV
  | .c (.d (.lit (.string s))) => some (lit (.string s))
  | _ => none

def convS (P : Program) (s d : TypeId) (x : PV) : Option PV :=
  match P.underlying s with
  | none => none
  | some _ => match P.underlying d with
    | some (.int k) => convI k x
    | some .string => convT x
    | _ => none

def idxE (P : Program) (e : TypeId) (n : Nat) : PV → Option PV
  | .c (.mt κ sz len) => if n < len ∧ sz = P.cellsOf e then some (.c (.mptr κ sz len n 0)) else none
  | x => (sliceEls x).bind fun els => (els[n]?).bind fun c => if c.length = P.cellsOf e then some (.c (.eptr c 0)) else none

/-- A pointer, moved on. -/
def addO (k : Nat) : PV → Option PV
  | .c (.ptr id off) => some (.c (.ptr id (off + k)))
  | .c (.eptr c off) => some (.c (.eptr c (off + k)))
  | .c (.mptr κ sz len i off) => some (.c (.mptr κ sz len i (off + k)))
  | _ => none

def idxAS (P : Program) (T : TypeId) (x i : PV) : Option PV :=
  match P.underlying T with
  | some (.slice e) => if 0 < P.cellsOf e then (natOf? i).bind fun n => idxE P e n x else none
  | some (.array len e) => if 0 < P.cellsOf e then (natOf? i).bind fun n => if n < len then addO (n * P.cellsOf e) x else none else none
  | _ => none

def idxT (n : Nat) : PV → Option PV
  | .c (.d (.lit (.string s))) => (s[n]?).map fun b => lit (.int .u8 b.toNat)
  | _ => none

def partS (P : Program) (T : TypeId) (off : Nat) : PV → Option PV
  | .agg cs => (sub cs off (P.cellsOf T)).bind fun r => mkPV P T r
  | _ => none

def idxS (P : Program) (T : TypeId) (x i : PV) : Option PV :=
  match P.underlying T with
  | some .string => (natOf? i).bind fun n => idxT n x
  | some (.array len e) => (natOf? i).bind fun n => if n < len then partS P e (n * P.cellsOf e) x else none
  | _ => none

def fldAS (P : Program) (T : TypeId) (x : PV) (f : Nat) : Option PV :=
  match P.underlying T with
  | some (.struct fs) => (fs[f]?).bind fun q => if P.cellsOf q.type = 0 then none else addO q.offset x
  | _ => none

def fldS (P : Program) (T : TypeId) (x : PV) (f : Nat) : Option PV :=
  match P.underlying T with
  | some (.struct fs) => (fs[f]?).bind fun q => partS P q.type q.offset x
  | _ => none

def optNat (x : Option PV) (dflt : Nat) : Option Nat :=
  match x with
  | none => some dflt
  | some x => natOf? x

def strOf? : PV → Option ByteArray
  | .c (.d (.lit (.string s))) => some s
  | _ => none

/-- Some x, of which this holds. -/
def Opt {α : Type} (x : Option α) (K : α → Prop) : Prop :=
  match x with
  | some a => K a
  | none => False

def slcM (els : List (List D)) (l h : Nat) (mx : Option PV) (K : PV → Prop) : Prop :=
  match mx with
  | none => K (.c (.d (.sl ((els.drop l).take (h - l)))))
  | some m => Opt (natOf? m) fun m => m = h ∧ K (.c (.full ((els.drop l).take (h - l))))

def slcV (P : Program) (T : TypeId) (x : PV) (lo hi mx : Option PV) (K : PV → Prop) : Prop :=
  match P.underlying T with
  | some .string => mx.isNone = true ∧ Opt (strOf? x) fun s => Opt (optNat lo 0) fun l => Opt (optNat hi s.size) fun h => (l ≤ h ∧ h ≤ s.size) ∧ K (lit (.string (s.extract l h)))
  | some (.slice e) => 0 < P.cellsOf e ∧ Opt (sliceEls x) fun els => Opt (optNat lo 0) fun l => Opt (optNat hi els.length) fun h => (l ≤ h ∧ h ≤ els.length ∧ Szd (P.cellsOf e) els ∧ (mx.isSome = true → hi.isSome = true)) ∧ slcM els l h mx K
  | _ => False

def extS (x : PV) (i : Nat) : Option PV :=
  match x with
  | .tup xs => (xs[i]?).map TV.pv
  | _ => none

def litsOf : List PV → Option (List Value)
  | [] => some []
  | .c (.d (.lit (.int k n))) :: r => (litsOf r).map fun xs => .int k n :: xs
  | _ :: _ => none

def lenE : PV → Option PV
  | .c (.mt _ _ n) => some (lit (.int .i64 n))
  | x => (sliceEls x).map fun els => lit (.int .i64 els.length)

def lenT (P : Program) (t : TypeId) (x : PV) : Option PV :=
  match P.underlying t with
  | some (.slice _) => lenE x
  | some .string => (strOf? x).map fun s => lit (.int .i64 s.size)
  | some (.array n _) => some (lit (.int .i64 n))
  | _ => none

def lenS (P : Program) : List TypeId → List PV → Option PV
  | [t], [x] => lenT P t x
  | _, _ => none

def bltS (P : Program) (b : Builtin) (ats : List TypeId) (T : TypeId) (args : List PV) : Option PV :=
  match b with
  | .len => lenS P ats args
  | .min => (litsOf args).bind fun xs => (semOf (Builtin.min_ #[] T xs.toArray)).map lit
  | .max => (litsOf args).bind fun xs => (semOf (Builtin.max_ #[] T xs.toArray)).map lit
  | _ => none

def capsOf : List PV → Option (List (Nat × Nat))
  | [] => some []
  | .c (.ptr id off) :: r => (capsOf r).map fun xs => (id, off) :: xs
  | _ :: _ => none

def boolOf? : PV → Option Bool
  | .c (.d (.lit (.bool t))) => some t
  | _ => none

def litOf? : PV → Option Value
  | .c (.d (.lit v)) => some v
  | _ => none

def nilS : PV → Option PV
  | .c (.ptr id off) => some (.c (.ptr id off))
  | .c (.eptr c off) => some (.c (.eptr c off))
  | .c (.mptr κ sz len i off) => some (.c (.mptr κ sz len i off))
  | .c (.fn f caps) => some (.c (.fn f caps))
  | _ => none

/-- The operations that touch no memory that changes. -/
def pureS (P : Program) : ROp → Option PV
  | .mv x => some x
  | .pick c a b => (boolOf? c).map fun t => if t then a else b
  | .build T ps => buildS P T ps
  | .bsl T n ps => bslS P T n ps
  | .bin op T x y => binS P op T x y
  | .un op x => (litOf? x).bind fun v => (semOf (Op.unary op v)).map lit
  | .conv s d x => convS P s d x
  | .idxA T x i => idxAS P T x i
  | .idx T x i => idxS P T x i
  | .fldA T x f => fldAS P T x f
  | .fld T x f => fldS P T x f
  | .ext x i => extS x i
  | .blt b ats T args => bltS P b ats T args
  | .mkf f caps => (capsOf caps).map fun cs => .c (.fn f cs)
  | .nilc x => nilS x
  | _ => none

def blocked : Option (List Nat) → Nat → Bool
  | none, _ => false
  | some l, id => l.contains id

def loadS (P : Program) (fb : Option (List Nat)) (H : HMap) (A : AMap) (T : TypeId) (a : PV) : Option PV :=
  match a with
  | .c (.ptr id off) => if blocked fb id = true then none else (H id).bind fun cs => (sub cs off (P.cellsOf T)).bind fun r => mkPV P T r
  | .c (.eptr e off) => (sub (e.map .d) off (P.cellsOf T)).bind fun r => mkPV P T r
  | .c (.mptr κ _ n i off) => if fb.isSome = true then none else match A κ with
    | some (.mu _ els) => if n = els.length then (els[i]?).bind fun e => (sub (e.map .d) off (P.cellsOf T)).bind fun r => mkPV P T r else none
    | _ => none
  | _ => none

def storeS (P : Program) (fb : Option (List Nat)) (H : HMap) (A : AMap) (T : TypeId) (a x : PV) : Option (HMap × AMap) :=
  (cellsP x).bind fun ys => if ys.length = P.cellsOf T ∧ ys.all CV.known = true then match a with
    | .c (.ptr id off) => (H id).bind fun cs => if off + ys.length ≤ cs.length then some (upd H id (some (splice cs off ys)), A) else none
    | .c (.mptr κ sz n i off) => if fb.isSome = true then none else match A κ with
      | some (.mu sz' els) => if n = els.length ∧ sz' = sz then (els[i]?).bind fun e => (toDs ys).bind fun ds => if off + ds.length ≤ e.length then
          some (H, upd A κ (some (.mu sz' (els.set i (splice e off ds))))) else none else none
      | _ => none
    | _ => none else none

def zeroOK (P : Program) (e : TypeId) : Bool := (zeroOf P e).isSome

/-- append: what comes, and what becomes of the tokens. 'k': the frame's offset; 'd': the slot; 'md': the slots at which an array is made that will be written to. -/
def appV (P : Program) (md : List Nat) (k d : Nat) (A : AMap) (ats : List TypeId) (x y : PV) (K : PV → AMap → Prop) : Prop :=
  match ats with
  | [t, u] => match P.underlying t with
    | some (.slice e) => (t = u ∧ 0 < P.cellsOf e ∧ zeroOK P e = true ∧ 0 < P.bytesOf e) ∧ (match sliceEls y with
      | some ys => match x with
        | .c (.full els) => (Szd (P.cellsOf e) els ∧ Szd (P.cellsOf e) ys ∧ (els.length + ys.length) * P.bytesOf e ≤ 140737488355328 ∧ A (k + d, 0) = none) ∧
            (match md.contains d with
             | true => els = [] ∧ K (.c (.mt (k + d, 0) (P.cellsOf e) (els ++ ys).length)) (upd A (k + d, 0) (some (.mu (P.cellsOf e) (els ++ ys))))
             | false => K (.c (.own (k + d, 0) (els ++ ys))) (upd A (k + d, 0) (some (.co (P.cellsOf e) (els ++ ys).length))))
        | .c (.own κ els) => (Szd (P.cellsOf e) els ∧ Szd (P.cellsOf e) ys ∧ (els.length + ys.length) * P.bytesOf e ≤ 140737488355328 ∧ A κ = some (.co (P.cellsOf e) els.length)) ∧
            K (.c (.own κ (els ++ ys))) (upd A κ (some (.co (P.cellsOf e) (els ++ ys).length)))
        | .c (.mt κ sz n) => match A κ with
          | some (.mu sz' els) => (sz = P.cellsOf e ∧ sz' = sz ∧ n = els.length ∧ Szd (P.cellsOf e) ys ∧ (els.length + ys.length) * P.bytesOf e ≤ 140737488355328) ∧
              K (.c (.mt κ sz (els ++ ys).length)) (upd A κ (some (.mu sz (els ++ ys))))
          | _ => False
        | _ => False
      | none => False)
    | _ => False
  | _ => False
end Go.PW
