/-
  Parts of the proof, laid together: PwB, PwC.
-/
import Derived.Test.YtghlemfokpfngaaQ00

namespace Go.PW
def upd {α β : Type} [DecidableEq α] (f : α → β) (a : α) (b : β) : α → β := fun x => if x = a then b else f x
structure St where
  ρ : Nat → PV
  H : HMap
  A : AMap
def cstC : Value → CV
  | .slice none 0 0 => .full []
  | .agg _ => .any
  | .tuple _ => .any
  | v => .d (.lit v)
def cst : Value → PV
  | .agg arr => .agg (arr.toList.map cstC)
  | v => .c (cstC v)
def ev (ρ : Nat → PV) : Operand → PV
  | .tmp t => ρ t
  | .const v => cst v
  | .global _ => .c .any
  | .func f => .c (.fn f [])
inductive ROp where
  | mv (x : PV)
  | pick (c a b : PV)
  | alloc (T : TypeId)
  | box (T : TypeId) (x : PV)
  | build (T : TypeId) (ps : List (Nat × PV))
  | bsl (T : TypeId) (n : Nat) (ps : List (Nat × PV))
  | load (T : TypeId) (a : PV)
  | store (T : TypeId) (a x : PV)
  | bin (op : BinOp) (T : TypeId) (x y : PV)
  | un (op : UnOp) (x : PV)
  | conv (s d : TypeId) (x : PV)
  | idxA (T : TypeId) (x i : PV)
  | idx (T : TypeId) (x i : PV)
  | fldA (T : TypeId) (x : PV) (f : Nat)
  | fld (T : TypeId) (x : PV) (f : Nat)
  | slc (T : TypeId) (x : PV) (lo hi mx : Option PV)
  | ext (x : PV) (i : Nat)
  | call (f : FuncId) (args : List PV)
  | callv (x : PV) (args : List PV)
  | blt (b : Builtin) (ats : List TypeId) (T : TypeId) (args : List PV)
  | mkf (f : FuncId) (caps : List PV)
  | mkb (f : FuncId) (fst caps : List PV)
  | mks (T : TypeId) (l c : PV)
  | nilc (x : PV)
  | mmk (T : TypeId)
  | mlk (T : TypeId) (x i : PV) (ok : Bool)
  | mup (T : TypeId) (m k v : PV)
  | rng (T : TypeId) (x : PV)
  | nxt (x : PV) (str : Bool)
  | ent (x : PV)
  | no
def resV (e : Operand → PV) (x : Operand) (args : List PV) : ROp :=
  match x with
  | .func f => .call f args
  | x => .callv (e x) args
def resC (e : Operand → PV) (T : TypeId) (c : Callee) (ats : List TypeId) (args : List PV) : ROp :=
  match c with
  | .value x => resV e x args
  | .builtin b => .blt b ats T args
  | .invoke _ _ => .no
def resF (e : Operand → PV) (fn : Fn) (first : Array Operand) (caps : List PV) : ROp :=
  match fn with
  | .func f => if first.size = 0 then .mkf f caps else .mkb f (first.toList.map e) caps
  | _ => .no
def resMk (T : TypeId) : Option Operand → ROp
  | none => .mmk T
  | some _ => .no
def res (e : Operand → PV) (T : TypeId) : Op → ROp
  | .move x => .mv (e x)
  | .assign x => .mv (e x)
  | .pick c a b => .pick (e c) (e a) (e b)
  | .alloc T => .alloc T
  | .box T x => .box T (e x)
  | .build T ps => .build T (ps.toList.map fun (p : Nat × Operand) => (p.1, e p.2))
  | .buildSlice T n ps => .bsl T n (ps.toList.map fun (p : Nat × Operand) => (p.1, e p.2))
  | .load T a => .load T (e a)
  | .store T a x => .store T (e a) (e x)
  | .binOp op T x y _ => .bin op T (e x) (e y)
  | .unOp op _ x => .un op (e x)
  | .convert s d x => .conv s d (e x)
  | .indexAddr T x i => .idxA T (e x) (e i)
  | .index T x i => .idx T (e x) (e i)
  | .fieldAddr T x f => .fldA T (e x) f
  | .field T x f => .fld T (e x) f
  | .slice T x lo hi mx => .slc T (e x) (lo.map e) (hi.map e) (mx.map e)
  | .extract x i => .ext (e x) i
  | .call c => resC e T c.callee c.argTypes.toList (c.args.toList.map e)
  | .makeFunc fn first caps => resF e fn first (caps.toList.map e)
  | .makeSlice T l c => .mks T (e l) (e c)
  | .nilCheck x => .nilc (e x)
  | .makeMap T r => resMk T r
  | .lookup T x i ok => .mlk T (e x) (e i) ok
  | .mapUpdate T m k v => .mup T (e m) (e k) (e v)
  | .range T x => .rng T (e x)
  | .next x s => .nxt (e x) s
  | .entry x => .ent (e x)
  | _ => .no
def semOf : Sem Value → Option Value
  | .pure v => if v.oneCell' then some v else none
  | _ => none
def lit (v : Value) : PV := .c (.d (.lit v))
def CV.known : CV → Bool
  | .any | .skip => false
  | _ => true
def CV.toD : CV → Option D
  | .d x => some x
  | .full els => some (.sl els)
  | .own _ els => some (.sl els)
  | _ => none
def toDs : List CV → Option (List D)
  | [] => some []
  | c :: r => (c.toD).bind fun x => (toDs r).map fun xs => x :: xs
def CV.frz : CV → CV
  | .full els => .d (.sl els)
  | .own _ els => .d (.sl els)
  | c => c
def TV.frz : TV → TV
  | .c x => .c x.frz
  | .agg cs => .agg (cs.map CV.frz)
def PV.frz : PV → PV
  | .c x => .c x.frz
  | .agg cs => .agg (cs.map CV.frz)
  | .tup xs => .tup xs
def cellsP : PV → Option (List CV)
  | .c x => if x.known then some [x] else none
  | .agg cs => some cs
  | .tup _ => none
def oneP : List CV → Option PV
  | [c] => some (.c c)
  | _ => none
def mkPV (P : Program) (T : TypeId) (cs : List CV) : Option PV :=
  match P.underlying T with
  | some (.struct _) => some (.agg cs)
  | some (.array _ _) => some (.agg cs)
  | some _ => oneP cs
  | none => none
def sub (cs : List CV) (off n : Nat) : Option (List CV) := if off + n ≤ cs.length then some ((cs.drop off).take n) else none
def splice {α : Type} (cs : List α) (off : Nat) (ys : List α) : List α := cs.take off ++ ys ++ cs.drop (off + ys.length)
def zeroOf (P : Program) (T : TypeId) : Option (List CV) :=
  match P.info? T with
  | some i => match i.zero with
    | some z => if z.cells.size = i.size ∧ z.cells.all (·.oneCell') = true then some (z.cells.toList.map cstC) else none
    | none => none
  | none => none
def sliceEls : PV → Option (List (List D))
  | .c (.d (.sl els)) => some els
  | .c (.full els) => some els
  | .c (.own _ els) => some els
  | _ => none
def intOf? : PV → Option Int
  | .c (.d (.lit (.int _ n))) => some n
  | _ => none
def natOf? (x : PV) : Option Nat := (intOf? x).bind fun n => if 0 ≤ n then some n.toNat else none
def structPl (P : Program) (T : TypeId) : Option (List (Nat × Nat)) :=
  match P.underlying T with
  | some (.struct fs) => fs.toList.mapM (fun f => (P.info? f.type).map fun i => (f.offset, i.size))
  | _ => none
def fillA (place : Nat → Option (Nat × Nat)) : List CV → List (Nat × PV) → Option (List CV)
  | cs, [] => some cs
  | cs, (i, x) :: r => (place i).bind fun q => (cellsP x).bind fun ys => if ys.length = q.2 ∧ q.1 + ys.length ≤ cs.length then fillA place (splice cs q.1 ys) r else none
def buildS (P : Program) (T : TypeId) (ps : List (Nat × PV)) : Option PV :=
  match P.underlying T with
  | some (.struct _) => (structPl P T).bind fun pl => (zeroOf P T).bind fun z => (fillA (fun i => pl[i]?) z ps).map .agg
  | some (.array _ e) => if 0 < P.cellsOf e then (zeroOf P T).bind fun z => (fillA (fun i => some (i * P.cellsOf e, P.cellsOf e)) z ps).map .agg else none
  | _ => none
def chunk {α : Type} (size : Nat) : Nat → List α → List (List α)
  | 0, _ => []
  | n + 1, l => l.take size :: chunk size n (l.drop size)
def bslS (P : Program) (T : TypeId) (n : Nat) (ps : List (Nat × PV)) : Option PV :=
  match P.underlying T with
  | some (.slice e) => (zeroOf P e).bind fun z => if n * P.cellsOf e ≤ 16777216 ∧ 0 < P.cellsOf e ∧ 0 < n then
      (fillA (fun i => some (i * P.cellsOf e, P.cellsOf e)) (List.replicate n z).flatten ps).bind fun cs => (toDs cs).map fun ds => .c (.full (chunk (P.cellsOf e) n ds))
      else none
  | _ => none
def bslC (P : Program) (T : TypeId) (n : Nat) (ps : List (Nat × PV)) : Option (List CV) :=
  match P.underlying T with
  | some (.slice e) => (zeroOf P e).bind fun z => if n * P.cellsOf e ≤ 16777216 ∧ 0 < P.cellsOf e ∧ 0 < n then
      fillA (fun i => some (i * P.cellsOf e, P.cellsOf e)) (List.replicate n z).flatten ps else none
  | _ => none
def eqB : List CV → List CV → Option Bool
  | [.d (.lit (.bool a))], [.d (.lit (.bool b))] => some (a == b)
  | _, _ => none
def eqI : List CV → List CV → Option Bool
  | [.d (.lit (.int k a))], [.d (.lit (.int k' b))] => if k = k' then some (a == b) else none
  | _, _ => none
def eqT : List CV → List CV → Option Bool
  | [.d (.lit (.string a))], [.d (.lit (.string b))] => some (a.toList == b.toList)
  | _, _ => none
def eqCells (P : Program) : Nat → TypeId → List CV → List CV → Option Bool
  | 0, _, _, _ => none
  | d + 1, T, xs, ys =>
    match P.underlying T with
    | some .bool => eqB xs ys
    | some (.int _) => eqI xs ys
    | some .string => eqT xs ys
    | some (.struct fs) => if P.stoodInHeld T = false then
        fs.toList.foldr (fun f acc => if f.name = "_" then acc else (sub xs f.offset (P.cellsOf f.type)).bind fun a => (sub ys f.offset (P.cellsOf f.type)).bind fun b => (eqCells P d f.type a b).bind fun r => acc.map fun s => r && s) (some true)
        else none
    | _ => none
def eqS (P : Program) (T : TypeId) (x y : PV) : Option Bool :=
  match x, y with
  | .agg xs, .agg ys => match P.underlying T with
    | some (.struct _) => if P.eqGuardType P.depth T = false then eqCells P 8 T xs ys else none
    | _ => none
  | .c (.d (.lit (.bool a))), .c (.d (.lit (.bool b))) => match P.underlying T with
    | some .bool => some (a == b)
    | _ => none
  | .c (.ptr _ _), .c (.d (.lit (.pointer none))) => match P.underlying T with
    | some (.pointer _) => some false
    | _ => none
  | .c (.d (.lit (.pointer none))), .c (.d (.lit (.pointer none))) => match P.underlying T with
    | some (.pointer _) => some true
    | _ => none
  | _, _ => none
def binS (P : Program) (op : BinOp) (T : TypeId) (x y : PV) : Option PV :=
  match x, y with
  | .c (.d (.lit (.int k a))), .c (.d (.lit (.int k' b))) => (semOf (binOp op T (.int k a) (.int k' b))).map lit
  | .c (.d (.lit (.float k a))), .c (.d (.lit (.float k' b))) => (semOf (binOp op T (.float k a) (.float k' b))).map lit
  | .c (.d (.lit (.string a))), .c (.d (.lit (.string b))) => (semOf (binOp op T (.string a) (.string b))).map lit
  | x, y => match op with
    | .eql => (eqS P T x y).map fun b => lit (.bool b)
    | .neq => (eqS P T x y).map fun b => lit (.bool (!b))
    | _ => none
def convI (k : IntKind) : PV → Option PV
  | .c (.d (.lit (.int _ n))) => some (lit (.int k (k.wrap n)))
  | _ => none
def convT : PV → Option PV
  | .c (.d (.lit (.string s))) => some (lit (.string s))
  | _ => none
def bytesEls (l : List UInt8) : List (List D) := l.map fun b => [.lit (.int .u8 b.toNat)]
def elsBytes : List (List D) → Option (List UInt8)
  | [] => some []
  | [.lit (.int .u8 n)] :: r => if n = (UInt8.ofNat n.toNat).toNat then (elsBytes r).map (UInt8.ofNat n.toNat :: ·) else none
  | _ => none
def isBytes (P : Program) (t : TypeId) : Bool := match P.underlying t with
  | some (.slice e) => (match P.underlying e with
    | some (.int .u8) => P.cellsOf e == 1
    | _ => false)
  | _ => false
def convB (P : Program) (s : TypeId) (x : PV) : Option PV :=
  if isBytes P s = true then (sliceEls x).bind fun els => (elsBytes els).map fun l => lit (.string ⟨l.toArray⟩) else none
def convT2 (P : Program) (s : TypeId) (x : PV) : Option PV :=
  match convT x with
  | some y => some y
  | none => convB P s x
def convS (P : Program) (s d : TypeId) (x : PV) : Option PV :=
  match P.underlying s with
  | none => none
  | some _ => match P.underlying d with
    | some (.int k) => convI k x
    | some .string => convT2 P s x
    | _ => none
def mkeyOK : TypeDesc → Value → Bool
  | .int _, .int _ _ => true
  | .string, .string _ => true
  | _, _ => false
def mfind (kd : TypeDesc) (k : Value) : List (Value × Value) → Nat → Option (Option (Nat × Value))
  | [], _ => some none
  | e :: es, i => match Instr.sameNow kd k e.1 with
    | some true => some (some (i, e.2))
    | some false => mfind kd k es (i + 1)
    | none => none
def zlit (P : Program) (e : TypeId) : Option Value := (P.info? e).bind fun i => i.zero.bind fun z => if z.oneCell' = true then some z else none
def idxE (P : Program) (e : TypeId) (n : Nat) : PV → Option PV
  | .c (.mt κ sz len) => if n < len ∧ sz = P.cellsOf e then some (.c (.mptr κ sz len n 0)) else none
  | .c (.tv κ sz len L) => if n < len ∧ sz = P.cellsOf e then some (.c (.mptr κ sz L n 0)) else none
  | .c (.vsl id len) => if n < len then some (.c (.ptr id (n * P.cellsOf e))) else none
  | x => (sliceEls x).bind fun els => (els[n]?).bind fun c => if c.length = P.cellsOf e then some (.c (.eptr c 0)) else none
def addO (k : Nat) : PV → Option PV
  | .c (.ptr id off) => some (.c (.ptr id (off + k)))
  | .c (.eptr c off) => some (.c (.eptr c (off + k)))
  | .c (.mptr κ sz len i off) => some (.c (.mptr κ sz len i (off + k)))
  | _ => none
def idxAS (P : Program) (T : TypeId) (x i : PV) : Option PV :=
  match P.underlying T with
  | some (.slice e) => if 0 < P.cellsOf e then (natOf? i).bind fun n => idxE P e n x else none
  | some (.array len e) => if 0 < P.cellsOf e then (natOf? i).bind fun n => if n < len then addO (n * P.cellsOf e) x else none else none
  | _ => none
def idxT (n : Nat) : PV → Option PV
  | .c (.d (.lit (.string s))) => (s[n]?).map fun b => lit (.int .u8 b.toNat)
  | _ => none
def partS (P : Program) (T : TypeId) (off : Nat) : PV → Option PV
  | .agg cs => (sub cs off (P.cellsOf T)).bind fun r => mkPV P T r
  | _ => none
def idxS (P : Program) (T : TypeId) (x i : PV) : Option PV :=
  match P.underlying T with
  | some .string => (natOf? i).bind fun n => idxT n x
  | some (.array len e) => (natOf? i).bind fun n => if n < len then partS P e (n * P.cellsOf e) x else none
  | _ => none
def fldAS (P : Program) (T : TypeId) (x : PV) (f : Nat) : Option PV :=
  match P.underlying T with
  | some (.struct fs) => (fs[f]?).bind fun q => if P.cellsOf q.type = 0 then none else addO q.offset x
  | _ => none
def fldS (P : Program) (T : TypeId) (x : PV) (f : Nat) : Option PV :=
  match P.underlying T with
  | some (.struct fs) => (fs[f]?).bind fun q => partS P q.type q.offset x
  | _ => none
def optNat (x : Option PV) (dflt : Nat) : Option Nat :=
  match x with
  | none => some dflt
  | some x => natOf? x
def strOf? : PV → Option ByteArray
  | .c (.d (.lit (.string s))) => some s
  | _ => none
def Opt {α : Type} (x : Option α) (K : α → Prop) : Prop :=
  match x with
  | some a => K a
  | none => False
def slcM (els : List (List D)) (l h : Nat) (mx : Option PV) (K : PV → Prop) : Prop :=
  match mx with
  | none => K (.c (.d (.sl ((els.drop l).take (h - l)))))
  | some m => Opt (natOf? m) fun m => m = h ∧ K (.c (.full ((els.drop l).take (h - l))))
def slcW (P : Program) (e : TypeId) (x : PV) (lo hi mx : Option PV) (K : PV → Prop) : Prop :=
  match x with
  | .c (.tv κ sz n L) => (lo = none ∧ mx = none ∧ sz = P.cellsOf e) ∧ Opt (optNat hi n) fun m => m ≤ n ∧ K (.c (.tv κ sz m L))
  | _ => False
def slcV (P : Program) (T : TypeId) (x : PV) (lo hi mx : Option PV) (K : PV → Prop) : Prop :=
  match P.underlying T with
  | some .string => mx.isNone = true ∧ Opt (strOf? x) fun s => Opt (optNat lo 0) fun l => Opt (optNat hi s.size) fun h => (l ≤ h ∧ h ≤ s.size) ∧ K (lit (.string (s.extract l h)))
  | some (.slice e) => 0 < P.cellsOf e ∧ (match sliceEls x with
    | none => slcW P e x lo hi mx K
    | some els => Opt (optNat lo 0) fun l => Opt (optNat hi els.length) fun h => (l ≤ h ∧ h ≤ els.length ∧ Szd (P.cellsOf e) els ∧ (mx.isSome = true → hi.isSome = true)) ∧ slcM els l h mx K)
  | _ => False
def extS (x : PV) (i : Nat) : Option PV :=
  match x with
  | .tup xs => (xs[i]?).map TV.pv
  | _ => none
def litsOf : List PV → Option (List Value)
  | [] => some []
  | .c (.d (.lit (.int k n))) :: r => (litsOf r).map fun xs => .int k n :: xs
  | _ :: _ => none
def lenE : PV → Option PV
  | .c (.mt _ _ n) => some (lit (.int .i64 n))
  | .c (.tv _ _ n _) => some (lit (.int .i64 n))
  | .c (.vsl _ n) => some (lit (.int .i64 n))
  | x => (sliceEls x).map fun els => lit (.int .i64 els.length)
def lenT (P : Program) (t : TypeId) (x : PV) : Option PV :=
  match P.underlying t with
  | some (.slice _) => lenE x
  | some .string => (strOf? x).map fun s => lit (.int .i64 s.size)
  | some (.array n _) => some (lit (.int .i64 n))
  | _ => none
def lenS (P : Program) : List TypeId → List PV → Option PV
  | [t], [x] => lenT P t x
  | _, _ => none
def bltS (P : Program) (b : Builtin) (ats : List TypeId) (T : TypeId) (args : List PV) : Option PV :=
  match b with
  | .len => lenS P ats args
  | .min => (litsOf args).bind fun xs => (semOf (Builtin.min_ #[] T xs.toArray)).map lit
  | .max => (litsOf args).bind fun xs => (semOf (Builtin.max_ #[] T xs.toArray)).map lit
  | _ => none
def mapOf (A : AMap) : PV → Option (List (Value × Value))
  | .c (.mpr κ) => match A κ with
    | some (.mp m) => some m
    | _ => none
  | .c (.d (.lit (.map none))) => some []
  | _ => none
def litV : PV → Option Value
  | .c (.d (.lit v)) => some v
  | _ => none
def gotV (P : Program) (e : TypeId) : Option (Nat × Value) → Option (Value × Bool)
  | some r => if r.2.oneCell' = true then some (r.2, true) else none
  | none => (zlit P e).map fun z => (z, false)
def pairV (ok : Bool) (r : Value × Bool) : PV := match ok with
  | true => .tup [.c (.d (.lit r.1)), .c (.d (.lit (.bool r.2)))]
  | false => .c (.d (.lit r.1))
def lookM (P : Program) (kt e : TypeId) (m : List (Value × Value)) (k : Value) (ok : Bool) : Option PV :=
  (P.underlying kt).bind fun kd => if mkeyOK kd k = true then (mfind kd k m 0).bind fun r => (gotV P e r).map (pairV ok) else none
def lookS (P : Program) (A : AMap) (T : TypeId) (x i : PV) (ok : Bool) : Option PV :=
  match P.underlying T with
  | some (.map kt e) => (litV i).bind fun k => (mapOf A x).bind fun m => lookM P kt e m k ok
  | _ => none
def laidM (m : List (Value × Value)) (k v : Value) : Option (Nat × Value) → List (Value × Value)
  | some r => m.set r.1 (k, v)
  | none => m ++ [(k, v)]
def upM (P : Program) (kt : TypeId) (m : List (Value × Value)) (k v : Value) : Option (List (Value × Value)) :=
  (P.underlying kt).bind fun kd => if mkeyOK kd k = true then (mfind kd k m 0).map (laidM m k v) else none
def mupS (P : Program) (A : AMap) (T : TypeId) (x k v : PV) : Option AMap :=
  match P.underlying T with
  | some (.map kt _) => (match x with
    | .c (.mpr κ) => (mapOf A x).bind fun m => (litV k).bind fun k => (litV v).bind fun v => (upM P kt m k v).map fun m' => upd A κ (some (.mp m'))
    | _ => none)
  | _ => none
def goneM (m : List (Value × Value)) : Option (Nat × Value) → List (Value × Value)
  | some r => m.eraseIdx r.1
  | none => m
def delM (P : Program) (kt : TypeId) (m : List (Value × Value)) (k : Value) : Option (List (Value × Value)) :=
  (P.underlying kt).bind fun kd => if mkeyOK kd k = true then (mfind kd k m 0).map (goneM m) else none
def mdelS (P : Program) (A : AMap) (T : TypeId) (x k : PV) : Option AMap :=
  match P.underlying T with
  | some (.map kt _) => (match x with
    | .c (.mpr κ) => (mapOf A x).bind fun m => (litV k).bind fun k => (delM P kt m k).map fun m' => upd A κ (some (.mp m'))
    | _ => none)
  | _ => none
def mksS (P : Program) (T : TypeId) (l c : PV) : Option PV :=
  match P.underlying T with
  | some (.slice e) => (natOf? l).bind fun n => (natOf? c).bind fun n' => (zeroOf P e).bind fun z => if n = n' ∧ n * P.cellsOf e ≤ 16777216 ∧ 0 < P.cellsOf e ∧ 0 < n ∧ n * P.bytesOf e ≤ 16777216 then
      (toDs (List.replicate n z).flatten).map fun ds => .c (.full (chunk (P.cellsOf e) n ds)) else none
  | _ => none
def elsF : Option PV → Option (List (List D))
  | some (.c (.full els)) => some els
  | _ => none
def szOf (P : Program) (T : TypeId) : Nat := match P.underlying T with
  | some (.slice e) => P.cellsOf e
  | _ => 0
def mutEls (A : AMap) : PV → Option (List (List D))
  | .c (.mt κ sz n) => (match A κ with
    | some (.mu sz' els) => if sz' = sz ∧ sz = 1 ∧ n = els.length then some els else none
    | _ => none)
  | _ => none
def convA (P : Program) (A : AMap) (s d : TypeId) (x : PV) : Option PV :=
  match P.underlying d with
  | some .string => if isBytes P s = true then (mutEls A x).bind fun els => (elsBytes els).map fun l => lit (.string ⟨l.toArray⟩) else none
  | _ => none
def lenM (P : Program) (A : AMap) : List TypeId → List PV → Option PV
  | [t], [x] => (match P.underlying t with
    | some (.map _ _) => (mapOf A x).map fun m => lit (.int .i64 m.length)
    | _ => none)
  | _, _ => none
def capsOf : List PV → Option (List (Nat × Nat))
  | [] => some []
  | .c (.ptr id off) :: r => (capsOf r).map fun xs => (id, off) :: xs
  | _ :: _ => none
def boolOf? : PV → Option Bool
  | .c (.d (.lit (.bool t))) => some t
  | _ => none
def litOf? : PV → Option Value
  | .c (.d (.lit v)) => some v
  | _ => none
def nilS : PV → Option PV
  | .c (.ptr id off) => some (.c (.ptr id off))
  | .c (.eptr c off) => some (.c (.eptr c off))
  | .c (.mptr κ sz len i off) => some (.c (.mptr κ sz len i off))
  | .c (.fn f caps) => some (.c (.fn f caps))
  | .c (.bfn f fst caps) => some (.c (.bfn f fst caps))
  | _ => none
def pureS (P : Program) : ROp → Option PV
  | .mv x => some x
  | .pick c a b => (boolOf? c).map fun t => if t then a else b
  | .build T ps => buildS P T ps
  | .bsl T n ps => bslS P T n ps
  | .bin op T x y => binS P op T x y
  | .un op x => (litOf? x).bind fun v => (semOf (Op.unary op v)).map lit
  | .conv s d x => convS P s d x
  | .idxA T x i => idxAS P T x i
  | .idx T x i => idxS P T x i
  | .fldA T x f => fldAS P T x f
  | .fld T x f => fldS P T x f
  | .ext x i => extS x i
  | .blt b ats T args => bltS P b ats T args
  | .mkf f caps => (capsOf caps).map fun cs => .c (.fn f cs)
  | .mkb f fst caps => (capsOf fst).bind fun fs => (capsOf caps).map fun cs => .c (.bfn f fs cs)
  | .nilc x => nilS x
  | .mks T l c => mksS P T l c
  | _ => none
def blocked : Option (List Nat) → Nat → Bool
  | none, _ => false
  | some [], _ => false
  | some (x :: l), id => if x = 2 then !l.contains id else l.contains id
def isKeep : Option (List Nat) → Bool
  | none => false
  | some [] => false
  | some (x :: _) => decide (x = 2)
def keepL : Option (List Nat) → List Nat
  | none => []
  | some [] => []
  | some (_ :: l) => l
theorem keepL_of {fb : Option (List Nat)} {id : Nat} (h : isKeep fb = true) (hb : blocked fb id = false) : id ∈ keepL fb := by
  unfold isKeep at h
  unfold blocked at hb
  unfold keepL
  split at h
  · cases h
  · cases h
  · rename_i x l
    change (if x = 2 then !l.contains id else l.contains id) = false at hb
    rw [if_pos (of_decide_eq_true h), Bool.not_eq_false'] at hb
    exact List.contains_iff_mem.1 hb
def lwOf : Option (List Nat) → Bool
  | none => false
  | some [] => false
  | some (x :: _) => x == 1
def modeOf (fb : Option (List Nat)) : Bool × Bool × Bool := (fb.isSome, lwOf fb, isKeep fb)
def stoG {α : Type} (lw bl : Bool) (r : Option α) : Option α := match lw, bl with
  | true, false => none
  | true, true => r
  | false, _ => r
theorem stoG_some {α : Type} {lw bl : Bool} {r : Option α} {m : α} (h : stoG lw bl r = some m) : r = some m ∧ (lw = true → bl = true) := by
  cases lw <;> cases bl <;> first | (cases h; done) | exact ⟨h, fun e => e⟩ | exact ⟨h, fun e => (by cases e)⟩ | exact ⟨h, fun _ => rfl⟩
theorem stoG_of {α : Type} {lw bl : Bool} {r : Option α} (h : lw = true → bl = true) : stoG lw bl r = r := by
  cases lw <;> cases bl <;> first | rfl | (cases h rfl)
def loadS (P : Program) (fb : Option (List Nat)) (H : HMap) (A : AMap) (T : TypeId) (a : PV) : Option PV :=
  match a with
  | .c (.ptr id off) => if blocked fb id = true then none else (H id).bind fun cs => (sub cs off (P.cellsOf T)).bind fun r => mkPV P T r
  | .c (.eptr e off) => (sub (e.map .d) off (P.cellsOf T)).bind fun r => mkPV P T r
  | .c (.mptr κ _ n i off) => if fb.isSome = true then none else match A κ with
    | some (.mu _ els) => if n = els.length then (els[i]?).bind fun e => (sub (e.map .d) off (P.cellsOf T)).bind fun r => mkPV P T r else none
    | _ => none
  | _ => none
def storeS (P : Program) (fb : Option (List Nat)) (H : HMap) (A : AMap) (T : TypeId) (a x : PV) : Option (HMap × AMap) :=
  (cellsP x).bind fun ys => if ys.length = P.cellsOf T ∧ ys.all CV.known = true then match a with
    | .c (.ptr id off) => stoG (lwOf fb) (blocked fb id) ((H id).bind fun cs => if off + ys.length ≤ cs.length then some (upd H id (some (splice cs off ys)), A) else none)
    | .c (.mptr κ sz n i off) => if fb.isSome = true then none else match A κ with
      | some (.mu sz' els) => if n = els.length ∧ sz' = sz then (els[i]?).bind fun e => (toDs ys).bind fun ds => if off + ds.length ≤ e.length then
          some (H, upd A κ (some (.mu sz' (els.set i (splice e off ds))))) else none else none
      | _ => none
    | _ => none else none
def zeroOK (P : Program) (e : TypeId) : Bool := (zeroOf P e).isSome
def appT (P : Program) (e : TypeId) (A : AMap) (κ : Tok) (sz n L : Nat) (ys : List (List D)) (K : PV → AMap → Prop) : Prop :=
  match A κ with
  | some (.mu sz' els) => (sz = P.cellsOf e ∧ sz' = sz ∧ L = els.length ∧ n ≤ L ∧ Szd (P.cellsOf e) ys ∧ (els.length + ys.length) * P.bytesOf e ≤ 140737488355328) ∧
      (match decide (n = L) with
       | true => K (.c (.tv κ sz (els ++ ys).length (els ++ ys).length)) (upd A κ (some (.mu sz (els ++ ys))))
       | false => match ys with
         | [y] => K (.c (.tv κ sz (n + 1) L)) (upd A κ (some (.mu sz (els.set n y))))
         | _ => False)
  | _ => False
def appV (P : Program) (md : List Nat) (k d : Nat) (A : AMap) (ats : List TypeId) (x y : PV) (K : PV → AMap → Prop) : Prop :=
  match ats with
  | [t, u] => match P.underlying t with
    | some (.slice e) => (t = u ∧ 0 < P.cellsOf e ∧ zeroOK P e = true ∧ 0 < P.bytesOf e) ∧ (match sliceEls y with
      | some ys => match x with
        | .c (.full els) => (Szd (P.cellsOf e) els ∧ Szd (P.cellsOf e) ys ∧ (els.length + ys.length) * P.bytesOf e ≤ 140737488355328 ∧ A (k + d, 0) = none) ∧
            (match md.contains d with
             | true => els = [] ∧ K (.c (.mt (k + d, 0) (P.cellsOf e) (els ++ ys).length)) (upd A (k + d, 0) (some (.mu (P.cellsOf e) (els ++ ys))))
             | false => K (.c (.own (k + d, 0) (els ++ ys))) (upd A (k + d, 0) (some (.co (P.cellsOf e) (els ++ ys).length))))
        | .c (.own κ els) => (Szd (P.cellsOf e) els ∧ Szd (P.cellsOf e) ys ∧ (els.length + ys.length) * P.bytesOf e ≤ 140737488355328 ∧ A κ = some (.co (P.cellsOf e) els.length)) ∧
            K (.c (.own κ (els ++ ys))) (upd A κ (some (.co (P.cellsOf e) (els ++ ys).length)))
        | .c (.mt κ sz n) => match A κ with
          | some (.mu sz' els) => (sz = P.cellsOf e ∧ sz' = sz ∧ n = els.length ∧ Szd (P.cellsOf e) ys ∧ (els.length + ys.length) * P.bytesOf e ≤ 140737488355328) ∧
              K (.c (.mt κ sz (els ++ ys).length)) (upd A κ (some (.mu sz (els ++ ys))))
          | _ => False
        | .c (.tv κ sz n L) => appT P e A κ sz n L ys K
        | _ => False
      | none => False)
    | _ => False
  | _ => False
end Go.PW

namespace Go.PW
variable {P : Program} {g : Gh} {H : HMap} {A : AMap} {w : World}
theorem semOf_some {s : Sem Value} {v : Value} (h : semOf s = some v) : s = .pure v ∧ v.oneCell' = true := by
  cases s <;> simp only [semOf] at h <;> try cases h
  split at h
  · rename_i hv
    cases h
    exact ⟨rfl, hv⟩
  · cases h
theorem CRep_cstC (v : Value) : CRep g A (cstC v) v := by
  unfold cstC
  split
  · exact ⟨.nil _, rfl⟩
  · trivial
  · trivial
  · rename_i h1 h2 h3
    refine DRep.lit _ ?_
    cases v <;> first | rfl | exact (h2 _ rfl).elim | exact (h3 _ rfl).elim
theorem CsRep_cst (l : List Value) : CsRep g A (l.map cstC) l :=
  ⟨by simp, fun k c hk => by
    simp only [List.getElem?_map, Option.map_eq_some_iff] at hk
    obtain ⟨v, hv, rfl⟩ := hk
    exact ⟨v, hv, CRep_cstC v⟩⟩
theorem PRep_cst (v : Value) : PRep g A (cst v) v := by
  unfold cst
  split
  · exact ⟨_, rfl, CsRep_cst _⟩
  · exact CRep_cstC v
def FRep (g : Gh) (A : AMap) (ρ : Nat → PV) (a : Act) : Prop := ∀ t, PRep g A (ρ t) (a.tmps.getD t undef)
theorem PRep_ev {ρ : Nat → PV} {a : Act} (hf : FRep g A ρ a) (x : Operand) : PRep g A (ev ρ x) (a.eval x) := by
  cases x with
  | tmp t => exact hf t
  | const v => exact PRep_cst v
  | global b => trivial
  | func f => exact ⟨#[], rfl, rfl, fun k p hk => by simp at hk⟩
theorem PRep_lit {v : Value} (h : v.oneCell' = true) : PRep g A (lit v) v := DRep.lit v h
theorem PRep_lit_inv {v u : Value} (h : PRep g A (.c (.d (.lit v))) u) : u = v := DRep.lit_eq h
theorem CRep_oneCell {c : CV} {v : Value} (h : CRep g A c v) (hk : c.known = true) : v.oneCell' = true := by
  cases c with
  | any => cases hk
  | skip => cases hk
  | d x => exact DRep.oneCell h
  | full els => exact DRep.oneCell h.1
  | own κ els => exact DRep.oneCell h.1
  | mt κ sz n => obtain ⟨a, cap, els, rfl, _⟩ := h; rfl
  | tv κ sz n L => obtain ⟨a, cap, els, rfl, _⟩ := h; rfl
  | ptr id off => obtain ⟨b, _, rfl⟩ := h; rfl
  | eptr e off => obtain ⟨b, o, rfl, _⟩ := h; rfl
  | mptr κ sz n i off => obtain ⟨b, els, rfl, _⟩ := h; rfl
  | fn f caps => obtain ⟨vs, rfl, _⟩ := h; rfl
  | mpr κ => obtain ⟨⟨b, rfl⟩, _⟩ := h; rfl
  | vsl id n => obtain ⟨b, _, rfl⟩ := h; rfl
  | bfn f fst caps => obtain ⟨us, vs, rfl, _⟩ := h; rfl
  | itr κ bi => rw [show v = _ from h]; rfl
  | sit κ => obtain ⟨⟨b, rfl⟩, _⟩ := h; rfl
theorem CsRep.sub {cs : List CV} {vs : List Value} (h : CsRep g A cs vs) {off n : Nat} {r : List CV} (e : PW.sub cs off n = some r) :
    CsRep g A r ((vs.drop off).take n) ∧ off + n ≤ vs.length ∧ r.length = n := by
  unfold PW.sub at e
  split at e
  · rename_i hl
    cases e
    refine ⟨⟨by simp [h.1], fun k c hk => ?_⟩, by rw [h.1]; exact hl, by simp; omega⟩
    rw [List.getElem?_take] at hk ⊢
    split at hk
    · rename_i hkn
      simp only [hkn, if_true]
      rw [List.getElem?_drop] at hk ⊢
      exact h.2 _ _ hk
    · cases hk
  · cases e
theorem CsRep.splice {cs ys : List CV} {vs us : List Value} (h : CsRep g A cs vs) (k : CsRep g A ys us) (off : Nat) (ho : off + ys.length ≤ cs.length) :
    CsRep g A (splice cs off ys) (PW.splice vs off us) := by
  have hl := k.1
  have hv := h.1
  refine ⟨by simp [PW.splice]; omega, fun i c hi => ?_⟩
  simp only [PW.splice, List.append_assoc] at hi ⊢
  rw [List.getElem?_append] at hi ⊢
  simp only [List.length_take] at hi ⊢
  have e1 : min off cs.length = off := by omega
  have e2 : min off vs.length = off := by omega
  rw [e1] at hi
  rw [e2]
  by_cases h1 : i < off
  · simp only [h1, if_true] at hi ⊢
    rw [List.getElem?_take] at hi ⊢
    simp only [h1, if_true] at hi ⊢
    exact h.2 _ _ hi
  · simp only [h1, if_false] at hi ⊢
    rw [List.getElem?_append] at hi ⊢
    by_cases h2 : i - off < ys.length
    · have h2' : i - off < us.length := by omega
      simp only [h2, if_true] at hi
      simp only [h2', if_true]
      exact k.2 _ _ hi
    · have h2' : ¬ i - off < us.length := by omega
      simp only [h2, if_false] at hi
      simp only [h2', if_false]
      rw [List.getElem?_drop] at hi ⊢
      rw [hl]
      exact h.2 _ _ hi
theorem toDs_rep {cs : List CV} {ds : List D} (e : toDs cs = some ds) : ds.length = cs.length ∧ ∀ (k : Nat) (x : D), ds[k]? = some x → ∃ c : CV, cs[k]? = some c ∧ ∀ v, CRep g A c v → DRep g.C x v := by
  induction cs generalizing ds with
  | nil => simp [toDs] at e; subst e; simp
  | cons c r ih =>
    simp only [toDs, Option.bind_eq_some_iff, Option.map_eq_some_iff] at e
    obtain ⟨x, hx, xs, hxs, rfl⟩ := e
    obtain ⟨h1, h2⟩ := ih hxs
    refine ⟨by simp [h1], fun k y hk => ?_⟩
    cases k with
    | zero =>
      simp at hk
      subst hk
      refine ⟨c, rfl, fun v hv => ?_⟩
      cases c <;> simp [CV.toD] at hx <;> subst hx
      · exact hv
      · exact hv.1
      · exact hv.1
    | succ k =>
      simp at hk
      obtain ⟨c', hc', hr⟩ := h2 k y hk
      exact ⟨c', by simpa using hc', hr⟩
def ValIs (P : Program) (T : TypeId) (us : List Value) (X : Value) : Prop :=
  match P.underlying T with
  | some (.struct _) => X = .agg us.toArray
  | some (.array _ _) => X = .agg us.toArray
  | some _ => us = [X]
  | none => False
theorem mkPV_rep {T : TypeId} {cs : List CV} {v : PV} (e : mkPV P T cs = some v) {us : List Value} (h : CsRep g A cs us) : ∃ X, ValIs P T us X ∧ PRep g A v X := by
  unfold mkPV at e
  unfold ValIs
  cases hu : P.underlying T with
  | none => simp [hu] at e
  | some d =>
    have hag : some (PV.agg cs) = some v → ∃ X, X = Value.agg us.toArray ∧ PRep g A v X := by
      intro e
      cases e
      exact ⟨_, rfl, us.toArray, rfl, by simpa using h⟩
    have hone : oneP cs = some v → ∃ X, us = [X] ∧ PRep g A v X := by
      intro e
      unfold oneP at e
      split at e
      · cases e
        rename_i c
        obtain ⟨h1, h2⟩ := h
        obtain ⟨v, hv, hr⟩ := h2 0 c rfl
        match us, h1 with
        | [u], _ =>
          simp at hv
          subst hv
          exact ⟨u, rfl, hr⟩
      · cases e
    rw [hu] at e
    cases d <;> first | exact hag e | exact hone e
theorem run_isAgg {T : TypeId} {d : TypeDesc} (h : P.underlying T = some d) : (isAgg T).run P w = .ok (match d with | .struct _ | .array _ _ => true | _ => false) w := by
  unfold isAgg
  simp only [Sem.run_bind, run_underlying h, Result.andThen_ok]
  cases d <;> rfl
theorem cellsOf_pos {T : TypeId} (h : 0 < P.cellsOf T) : ∃ i, P.info? T = some i ∧ i.size = P.cellsOf T := by
  unfold Program.cellsOf at h ⊢
  cases hi : P.info? T with
  | none => simp [hi] at h
  | some i => exact ⟨i, rfl, rfl⟩
theorem info_of_underlying {T : TypeId} {d : TypeDesc} (h : P.underlying T = some d) : ∃ i, P.info? T = some i ∧ i.size = P.cellsOf T := by
  unfold Program.cellsOf
  unfold Program.underlying at h
  cases hi : P.info? T with
  | none => simp [hi] at h
  | some i => exact ⟨i, rfl, rfl⟩
theorem run_sizeOf' {T : TypeId} {d : TypeDesc} (h : P.underlying T = some d) : (sizeOf T).run P w = .ok (P.cellsOf T) w := by
  obtain ⟨i, hi, hs⟩ := info_of_underlying h
  simp [sizeOf, typeInfo, hi, hs]
theorem run_sizeOf_pos {T : TypeId} (h : 0 < P.cellsOf T) : (sizeOf T).run P w = .ok (P.cellsOf T) w := by
  obtain ⟨i, hi, hs⟩ := cellsOf_pos h
  simp [sizeOf, typeInfo, hi, hs]
theorem run_part {T : TypeId} {us : List Value} {off : Nat} {X : Value} (_hl : off + P.cellsOf T ≤ us.length) (hX : ValIs P T ((us.drop off).take (P.cellsOf T)) X) :
    (part T us.toArray off).run P w = .ok X w := by
  unfold part
  unfold ValIs at hX
  cases hu : P.underlying T with
  | none => simp [hu] at hX
  | some d =>
    simp only [Sem.run_bind, run_isAgg hu, Result.andThen_ok]
    simp only [hu] at hX
    have hag : ∀ (_ : X = .agg ((us.drop off).take (P.cellsOf T)).toArray), (Result.ok (Value.agg (us.toArray.extract off (off + P.cellsOf T))) w) = Result.ok X w := by
      intro hX
      subst hX
      congr 2
      apply Array.ext'
      simp [List.extract_eq_take_drop]
    have hone : ∀ (_ : (us.drop off).take (P.cellsOf T) = [X]), us[off]? = some X := by
      intro hX
      have := congrArg (·[0]?) hX
      simp only [List.getElem?_cons_zero] at this
      rw [List.getElem?_take, List.getElem?_drop] at this
      split at this
      · simpa using this
      · cases this
    cases d <;> first
      | (simp only [Bool.false_eq_true, if_false] at hX ⊢; have h0 := hone hX; simp [h0]; done)
      | (simp only [if_true, Sem.run_bind, run_sizeOf' hu, Result.andThen_ok, Sem.run_pure] at hX ⊢; exact hag hX)
theorem CsRep_one {c : CV} {us : List Value} (h : CsRep g A [c] us) : ∃ u, us = [u] ∧ CRep g A c u := by
  obtain ⟨h1, h2⟩ := h
  obtain ⟨v, hv, hr⟩ := h2 0 c rfl
  match us, h1 with
  | [u], _ => simp at hv; subst hv; exact ⟨u, rfl, hr⟩
theorem ValIs_one {T : TypeId} {d : TypeDesc} (hu : P.underlying T = some d) (hd : (match d with | .struct _ | .array _ _ => true | _ => false) = false) {u X : Value} (h : ValIs P T [u] X) : X = u := by
  unfold ValIs at h
  rw [hu] at h
  cases d <;> simp at h hd <;> exact h.symm
theorem eqCells_tot {d : Nat} {T : TypeId} {a b : List CV} {r : Bool} (he : eqCells P d T a b = some r) {zs : List Value} (hz : zs.length = a.length) : ∃ Z, ValIs P T zs Z := by
  unfold ValIs
  cases d with
  | zero => simp [eqCells] at he
  | succ d =>
    rw [eqCells] at he
    cases hu : P.underlying T with
    | none => simp [hu] at he
    | some td =>
      have hone : a.length = 1 → ∃ Z, zs = [Z] := fun h1 => by
        rw [h1] at hz
        exact match zs, hz with | [z], _ => ⟨z, rfl⟩
      rw [hu] at he
      cases td <;> simp only at he ⊢ <;> first
        | exact ⟨_, rfl⟩
        | (cases he; done)
        | (refine hone ?_; (first | unfold eqB at he | unfold eqI at he | unfold eqT at he); split at he <;> first | rfl | (cases he; done))
theorem eqCells_sound : ∀ (d : Nat) (T : TypeId) (xs ys : List CV) (r : Bool), eqCells P d T xs ys = some r → ∀ (us vs : List Value), CsRep g A xs us → CsRep g A ys vs →
    ∀ (k : Nat) (X Y : Value), d ≤ k → ValIs P T us X → ValIs P T vs Y → (Op.equalIn k T X Y).run P w = .ok r w := by
  intro d
  induction d with
  | zero => intro T xs ys r h; simp [eqCells] at h
  | succ d ih =>
    intro T xs ys r h us vs hx hy k X Y hk hX hY
    obtain ⟨k, rfl⟩ : ∃ k', k = k' + 1 := ⟨k - 1, by omega⟩
    rw [eqCells] at h
    cases hu : P.underlying T with
    | none => simp [hu] at h
    | some td =>
      rw [hu] at h
      cases td <;> simp only at h <;> try (cases h; done)
      case bool =>
        unfold eqB at h
        split at h
        · cases h
          obtain ⟨u, rfl, h1⟩ := CsRep_one hx
          obtain ⟨v, rfl, h2⟩ := CsRep_one hy
          rw [ValIs_one hu rfl hX, ValIs_one hu rfl hY, DRep.lit_eq h1, DRep.lit_eq h2]
          exact run_equalIn_bool' w k T _ _ hu
        · cases h
      case int =>
        unfold eqI at h
        split at h
        · split at h
          · rename_i hkk
            cases h
            obtain ⟨u, rfl, h1⟩ := CsRep_one hx
            obtain ⟨v, rfl, h2⟩ := CsRep_one hy
            rw [ValIs_one hu rfl hX, ValIs_one hu rfl hY, DRep.lit_eq h1, DRep.lit_eq h2]
            subst hkk
            exact run_equalIn_int w k T _ _ _ _ hu
          · cases h
        · cases h
      case string =>
        unfold eqT at h
        split at h
        · cases h
          obtain ⟨u, rfl, h1⟩ := CsRep_one hx
          obtain ⟨v, rfl, h2⟩ := CsRep_one hy
          rw [ValIs_one hu rfl hX, ValIs_one hu rfl hY, DRep.lit_eq h1, DRep.lit_eq h2]
          exact run_equalIn_string w k T _ _ hu
        · cases h
      case struct fs =>
        split at h
        · rename_i hst
          have hfs : P.fieldsOf T = fs := by simp [Program.fieldsOf, hu]
          unfold ValIs at hX hY
          rw [hu] at hX hY
          simp only at hX hY
          subst hX hY
          rw [run_equalIn_struct w k T _ _ (by rw [hfs]; exact hu) hst, hfs]
          generalize fs.toList = fl at h ⊢
          clear hfs hu hst
          induction fl generalizing r with
          | nil => simp at h; subst h; simp [Op.eqFields]
          | cons f fl ihf =>
            simp only [List.foldr_cons] at h
            simp only [Op.eqFields]
            by_cases hn : f.name = "_"
            · simp only [hn, if_true] at h
              simp only [hn, ne_eq, not_true_eq_false, if_false]
              exact ihf r h
            · simp only [hn, if_false, Option.bind_eq_some_iff, Option.map_eq_some_iff] at h
              obtain ⟨a, ha, b, hb, r1, hr1, s, hs, rfl⟩ := h
              obtain ⟨ca, la, na⟩ := hx.sub ha
              obtain ⟨cb, lb, nb⟩ := hy.sub hb
              obtain ⟨X1, hX1⟩ := eqCells_tot hr1 ca.1
              obtain ⟨Y1, hY1⟩ := eqCells_tot hr1 (zs := (vs.drop f.offset).take (P.cellsOf f.type)) (by rw [cb.1, nb, na])
              have e1 := ih f.type a b r1 hr1 _ _ ca cb k X1 Y1 (by omega) hX1 hY1
              simp only [ne_eq, hn, not_false_eq_true, if_true, Sem.run_bind, run_part la hX1, run_part lb hY1, Result.andThen_ok, e1]
              cases r1
              · simp
              · simp only [Bool.not_true, Bool.false_eq_true, if_false, Bool.true_and]
                exact ihf s hs
        · cases h
end Go.PW
