/-
  Parts of the proof, laid together: PwB.
-/
import Derived.Test.YtemecklglapleaaGreatQ00

namespace Go.PW
def upd {α β : Type} [DecidableEq α] (f : α → β) (a : α) (b : β) : α → β := fun x => if x = a then b else f x
structure St where
 ρ : Nat → PV
 H : HMap
 A : AMap
def cstC : Value → CV
 | .slice none 0 0 => .full []
 | .agg _ => .any
 | .tuple _ => .any
 | v => .d (.lit v)
def cst : Value → PV
 | .agg arr => .agg (arr.toList.map cstC)
 | v => .c (cstC v)
def ev (ρ : Nat → PV) : Operand → PV
 | .tmp t => ρ t
 | .const v => cst v
 | .global _ => .c .any
 | .func f => .c (.fn f [])
inductive ROp where
 | mv (x : PV)
 | pick (c a b : PV)
 | alloc (T : TypeId)
 | box (T : TypeId) (x : PV)
 | build (T : TypeId) (ps : List (Nat × PV))
 | bsl (T : TypeId) (n : Nat) (ps : List (Nat × PV))
 | load (T : TypeId) (a : PV)
 | store (T : TypeId) (a x : PV)
 | bin (op : BinOp) (T : TypeId) (x y : PV)
 | un (op : UnOp) (x : PV)
 | conv (s d : TypeId) (x : PV)
 | idxA (T : TypeId) (x i : PV)
 | idx (T : TypeId) (x i : PV)
 | fldA (T : TypeId) (x : PV) (f : Nat)
 | fld (T : TypeId) (x : PV) (f : Nat)
 | slc (T : TypeId) (x : PV) (lo hi mx : Option PV)
 | ext (x : PV) (i : Nat)
 | call (f : FuncId) (args : List PV)
 | callv (x : PV) (args : List PV)
 | blt (b : Builtin) (ats : List TypeId) (T : TypeId) (args : List PV)
 | mkf (f : FuncId) (caps : List PV)
 | mkb (f : FuncId) (fst caps : List PV)
 | mks (T : TypeId) (l c : PV)
 | nilc (x : PV)
 | mmk (T : TypeId)
 | mlk (T : TypeId) (x i : PV) (ok : Bool)
 | mup (T : TypeId) (m k v : PV)
 | rng (T : TypeId) (x : PV)
 | nxt (x : PV) (str : Bool)
 | ent (x : PV)
 | no
def resV (e : Operand → PV) (x : Operand) (args : List PV) : ROp :=
 match x with
 | .func f => .call f args
 | x => .callv (e x) args
def resC (e : Operand → PV) (T : TypeId) (c : Callee) (ats : List TypeId) (args : List PV) : ROp :=
 match c with
 | .value x => resV e x args
 | .builtin b => .blt b ats T args
 | .invoke _ _ => .no
def resF (e : Operand → PV) (fn : Fn) (first : Array Operand) (caps : List PV) : ROp :=
 match fn with
 | .func f => if first.size = 0 then .mkf f caps else .mkb f (first.toList.map e) caps
 | _ => .no
def xzu (T : TypeId) : Option Operand → ROp
 | none => .mmk T
 | some _ => .no
def res (e : Operand → PV) (T : TypeId) : Op → ROp
 | .move x => .mv (e x)
 | .assign x => .mv (e x)
 | .pick c a b => .pick (e c) (e a) (e b)
 | .alloc T => .alloc T
 | .box T x => .box T (e x)
 | .build T ps => .build T (ps.toList.map fun (p : Nat × Operand) => (p.1, e p.2))
 | .buildSlice T n ps => .bsl T n (ps.toList.map fun (p : Nat × Operand) => (p.1, e p.2))
 | .load T a => .load T (e a)
 | .store T a x => .store T (e a) (e x)
 | .binOp op T x y _ => .bin op T (e x) (e y)
 | .unOp op _ x => .un op (e x)
 | .convert s d x => .conv s d (e x)
 | .indexAddr T x i => .idxA T (e x) (e i)
 | .index T x i => .idx T (e x) (e i)
 | .fieldAddr T x f => .fldA T (e x) f
 | .field T x f => .fld T (e x) f
 | .slice T x lo hi mx => .slc T (e x) (lo.map e) (hi.map e) (mx.map e)
 | .extract x i => .ext (e x) i
 | .call c => resC e T c.callee c.argTypes.toList (c.args.toList.map e)
 | .makeFunc fn first caps => resF e fn first (caps.toList.map e)
 | .makeSlice T l c => .mks T (e l) (e c)
 | .nilCheck x => .nilc (e x)
 | .makeMap T r => xzu T r
 | .lookup T x i ok => .mlk T (e x) (e i) ok
 | .mapUpdate T m k v => .mup T (e m) (e k) (e v)
 | .range T x => .rng T (e x)
 | .next x s => .nxt (e x) s
 | .entry x => .ent (e x)
 | _ => .no
def zks : Sem Value → Option Value
 | .pure v => if v.oneCell' then some v else none
 | _ => none
def lit (v : Value) : PV := .c (.d (.lit v))
def CV.known : CV → Bool
 | .any | .skip => false
 | _ => true
def CV.toD : CV → Option D
 | .d x => some x
 | .full els => some (.sl els)
 | .own _ els => some (.sl els)
 | .fn f [] => some (.fn f)
 | _ => none
def toDs : List CV → Option (List D)
 | [] => some []
 | c :: r => (c.toD).bind fun x => (toDs r).map fun xs => x :: xs
def CV.toDo : CV → Option D
 | .full [] => some .nl
 | c => c.toD
def z7a : List CV → Option (List D)
 | [] => some []
 | c :: r => (c.toDo).bind fun x => (z7a r).map fun xs => x :: xs
def D.cv : D → CV
 | .nl => .full []
 | x => .d x
def CV.frz : CV → CV
 | .full els => .d (.sl els)
 | .own _ els => .d (.sl els)
 | c => c
def TV.frz : TV → TV
 | .c x => .c x.frz
 | .agg cs => .agg (cs.map CV.frz)
def PV.frz : PV → PV
 | .c x => .c x.frz
 | .agg cs => .agg (cs.map CV.frz)
 | .tup xs => .tup xs
def z7n : PV → Option (List CV)
 | .c x => if x.known then some [x] else none
 | .agg cs => some cs
 | .tup _ => none
def oneP : List CV → Option PV
 | [c] => some (.c c)
 | _ => none
def mkPV (P : Program) (T : TypeId) (cs : List CV) : Option PV :=
 match P.underlying T with
 | some (.struct _) => some (.agg cs)
 | some (.array _ _) => some (.agg cs)
 | some _ => oneP cs
 | none => none
def sub (cs : List CV) (off n : Nat) : Option (List CV) := if off + n ≤ cs.length then some ((cs.drop off).take n) else none
def splice {α : Type} (cs : List α) (off : Nat) (ys : List α) : List α := cs.take off ++ ys ++ cs.drop (off + ys.length)
def zzm (P : Program) (T : TypeId) : Option (List CV) :=
 match P.info? T with
 | some i => match i.zero with
   | some z => if z.cells.size = i.size ∧ z.cells.all (·.oneCell') = true then some (z.cells.toList.map cstC) else none
   | none => none
 | none => none
def zqc : PV → Option (List (List D))
 | .c (.d (.sl els)) => some els
 | .c (.full els) => some els
 | .c (.own _ els) => some els
 | .c (.d .nl) => some []
 | _ => none
def intOf? : PV → Option Int
 | .c (.d (.lit (.int _ n))) => some n
 | _ => none
def natOf? (x : PV) : Option Nat := (intOf? x).bind fun n => if 0 ≤ n then some n.toNat else none
def zz2 (P : Program) (T : TypeId) : Option (List (Nat × Nat)) :=
 match P.underlying T with
 | some (.struct fs) => fs.toList.mapM (fun f => (P.info? f.type).map fun i => (f.offset, i.size))
 | _ => none
def z8x (place : Nat → Option (Nat × Nat)) : List CV → List (Nat × PV) → Option (List CV)
 | cs, [] => some cs
 | cs, (i, x) :: r => (place i).bind fun q => (z7n x).bind fun ys => if ys.length = q.2 ∧ q.1 + ys.length ≤ cs.length then z8x place (splice cs q.1 ys) r else none
def z98 (P : Program) (T : TypeId) (ps : List (Nat × PV)) : Option PV :=
 match P.underlying T with
 | some (.struct _) => (zz2 P T).bind fun pl => (zzm P T).bind fun z => (z8x (fun i => pl[i]?) z ps).map .agg
 | some (.array _ e) => if 0 < P.cellsOf e then (zzm P T).bind fun z => (z8x (fun i => some (i * P.cellsOf e, P.cellsOf e)) z ps).map .agg else none
 | _ => none
def chunk {α : Type} (size : Nat) : Nat → List α → List (List α)
 | 0, _ => []
 | n + 1, l => l.take size :: chunk size n (l.drop size)
def bslS (P : Program) (T : TypeId) (n : Nat) (ps : List (Nat × PV)) : Option PV :=
 match P.underlying T with
 | some (.slice e) => (zzm P e).bind fun z => if n * P.cellsOf e ≤ 16777216 ∧ 0 < P.cellsOf e ∧ 0 < n then
    (z8x (fun i => some (i * P.cellsOf e, P.cellsOf e)) (List.replicate n z).flatten ps).bind fun cs => (toDs cs).map fun ds => .c (.full (chunk (P.cellsOf e) n ds))
    else if n = 0 ∧ ps = [] then some (.c (.full [])) else none
 | _ => none
def bslC (P : Program) (T : TypeId) (n : Nat) (ps : List (Nat × PV)) : Option (List CV) :=
 match P.underlying T with
 | some (.slice e) => (zzm P e).bind fun z => if n * P.cellsOf e ≤ 16777216 ∧ 0 < P.cellsOf e ∧ 0 < n then
    z8x (fun i => some (i * P.cellsOf e, P.cellsOf e)) (List.replicate n z).flatten ps else none
 | _ => none
def eqB : List CV → List CV → Option Bool
 | [.d (.lit (.bool a))], [.d (.lit (.bool b))] => some (a == b)
 | _, _ => none
def eqI : List CV → List CV → Option Bool
 | [.d (.lit (.int k a))], [.d (.lit (.int k' b))] => if k = k' then some (a == b) else none
 | _, _ => none
def eqT : List CV → List CV → Option Bool
 | [.d (.lit (.string a))], [.d (.lit (.string b))] => some (a.toList == b.toList)
 | _, _ => none
def zwi (P : Program) : Nat → TypeId → List CV → List CV → Option Bool
 | 0, _, _, _ => none
 | d + 1, T, xs, ys =>
   match P.underlying T with
   | some .bool => eqB xs ys
   | some (.int _) => eqI xs ys
   | some .string => eqT xs ys
   | some (.struct fs) => if P.stoodInHeld T = false then
      fs.toList.foldr (fun f acc => if f.name = "_" then acc else (sub xs f.offset (P.cellsOf f.type)).bind fun a => (sub ys f.offset (P.cellsOf f.type)).bind fun b => (zwi P d f.type a b).bind fun r => acc.map fun s => r && s) (some true)
      else none
   | _ => none
def eqS (P : Program) (T : TypeId) (x y : PV) : Option Bool :=
 match x, y with
 | .agg xs, .agg ys => match P.underlying T with
   | some (.struct _) => if P.eqGuardType P.depth T = false then zwi P 8 T xs ys else none
   | _ => none
 | .c (.d (.lit (.bool a))), .c (.d (.lit (.bool b))) => match P.underlying T with
   | some .bool => some (a == b)
   | _ => none
 | .c (.ptr _ _), .c (.d (.lit (.pointer none))) => match P.underlying T with
   | some (.pointer _) => some false
   | _ => none
 | .c (.d (.rf _ _)), .c (.d (.lit (.pointer none))) => match P.underlying T with
   | some (.pointer _) => some false
   | _ => none
 | .c (.d (.lit (.pointer none))), .c (.d (.lit (.pointer none))) => match P.underlying T with
   | some (.pointer _) => some true
   | _ => none
 | _, _ => none
def binS (P : Program) (op : BinOp) (T : TypeId) (x y : PV) : Option PV :=
 match x, y with
 | .c (.d (.lit (.int k a))), .c (.d (.lit (.int k' b))) => (zks (binOp op T (.int k a) (.int k' b))).map lit
 | .c (.d (.lit (.float k a))), .c (.d (.lit (.float k' b))) => (zks (binOp op T (.float k a) (.float k' b))).map lit
 | .c (.d (.lit (.string a))), .c (.d (.lit (.string b))) => (zks (binOp op T (.string a) (.string b))).map lit
 | x, y => match op with
   | .eql => (eqS P T x y).map fun b => lit (.bool b)
   | .neq => (eqS P T x y).map fun b => lit (.bool (!b))
   | _ => none
def y6y (k : IntKind) : PV → Option PV
 | .c (.d (.lit (.int _ n))) => some (lit (.int k (k.wrap n)))
 | _ => none
def y3d : PV → Option PV
 | .c (.d (.lit (.string s))) => some (lit (.string s))
 | _ => none
def zzg (l : List UInt8) : List (List D) := l.map fun b => [.lit (.int .u8 b.toNat)]
def zvk : List (List D) → Option (List UInt8)
 | [] => some []
 | [.lit (.int .u8 n)] :: r => if n = (UInt8.ofNat n.toNat).toNat then (zvk r).map (UInt8.ofNat n.toNat :: ·) else none
 | _ => none
def zj1 (P : Program) (t : TypeId) : Bool := match P.underlying t with
 | some (.slice e) => (match P.underlying e with
   | some (.int .u8) => P.cellsOf e == 1
   | _ => false)
 | _ => false
def yva (P : Program) (s : TypeId) (x : PV) : Option PV :=
 if zj1 P s = true then (zqc x).bind fun els => (zvk els).map fun l => lit (.string ⟨l.toArray⟩) else none
def y0j (P : Program) (s : TypeId) (x : PV) : Option PV :=
 match y3d x with
 | some y => some y
 | none => yva P s x
def y0i (P : Program) (s d : TypeId) (x : PV) : Option PV :=
 match P.underlying s with
 | none => none
 | some _ => match P.underlying d with
   | some (.int k) => y6y k x
   | some .string => y0j P s x
   | _ => none
def zku : TypeDesc → Value → Bool
 | .int _, .int _ _ => true
 | .string, .string _ => true
 | _, _ => false
def mfind {β : Type} (kd : TypeDesc) (k : Value) : List (Value × β) → Nat → Option (Option (Nat × β))
 | [], _ => some none
 | e :: es, i => match Instr.sameNow kd k e.1 with
   | some true => some (some (i, e.2))
   | some false => mfind kd k es (i + 1)
   | none => none
def PV.mv : PV → Option MV
 | .c x => (x.toD).map .c
 | .agg cs => (toDs cs).map .agg
 | .tup _ => none
def xwz : Value → TV
 | .agg xs => .agg (xs.toList.map fun v => .d (.lit v))
 | v => .c (.d (.lit v))
def MV.tv : MV → TV
 | .c d => .c (.d d)
 | .agg ds => .agg (ds.map .d)
def MV.pv (m : MV) : PV := m.tv.pv
def zlit (P : Program) (e : TypeId) : Option MV := (P.info? e).bind fun i => i.zero.bind fun z => match z with
 | .agg arr => (toDs (arr.toList.map cstC)).map .agg
 | .tuple _ => none
 | v => ((cstC v).toD).map .c
def idxE (P : Program) (e : TypeId) (n : Nat) : PV → Option PV
 | .c (.mt κ sz len) => if n < len ∧ sz = P.cellsOf e then some (.c (.mptr κ sz len n 0)) else none
 | .c (.tv κ sz len L) => if n < len ∧ sz = P.cellsOf e then some (.c (.mptr κ sz L n 0)) else none
 | .c (.vsl id len) => if n < len then some (.c (.ptr id (n * P.cellsOf e))) else none
 | .c (.d (.sa p sz len)) => if n < len ∧ sz = P.cellsOf e then some (.c (.d (.el p sz len n 0))) else none
 | .c (.d (.vw p sz L lo len)) => if n < len ∧ sz = P.cellsOf e then some (.c (.d (.el p sz L (lo + n) 0))) else none
 | x => (zqc x).bind fun els => (els[n]?).bind fun c => if c.length = P.cellsOf e then some (.c (.eptr c 0)) else none
def addO (k : Nat) : PV → Option PV
 | .c (.ptr id off) => some (.c (.ptr id (off + k)))
 | .c (.eptr c off) => some (.c (.eptr c (off + k)))
 | .c (.mptr κ sz len i off) => some (.c (.mptr κ sz len i (off + k)))
 | .c (.d (.rf p off)) => some (.c (.d (.rf p (off + k))))
 | .c (.d (.el p sz len i off)) => some (.c (.d (.el p sz len i (off + k))))
 | _ => none
def y08 (P : Program) (T : TypeId) (x i : PV) : Option PV :=
 match P.underlying T with
 | some (.slice e) => if 0 < P.cellsOf e then (natOf? i).bind fun n => idxE P e n x else none
 | some (.array len e) => if 0 < P.cellsOf e then (natOf? i).bind fun n => if n < len then addO (n * P.cellsOf e) x else none else none
 | _ => none
def idxT (n : Nat) : PV → Option PV
 | .c (.d (.lit (.string s))) => (s[n]?).map fun b => lit (.int .u8 b.toNat)
 | _ => none
def yv1 (P : Program) (T : TypeId) (off : Nat) : PV → Option PV
 | .agg cs => (sub cs off (P.cellsOf T)).bind fun r => mkPV P T r
 | _ => none
def idxS (P : Program) (T : TypeId) (x i : PV) : Option PV :=
 match P.underlying T with
 | some .string => (natOf? i).bind fun n => idxT n x
 | some (.array len e) => (natOf? i).bind fun n => if n < len then yv1 P e (n * P.cellsOf e) x else none
 | _ => none
def y02 (P : Program) (T : TypeId) (x : PV) (f : Nat) : Option PV :=
 match P.underlying T with
 | some (.struct fs) => (fs[f]?).bind fun q => if P.cellsOf q.type = 0 then none else addO q.offset x
 | _ => none
def fldS (P : Program) (T : TypeId) (x : PV) (f : Nat) : Option PV :=
 match P.underlying T with
 | some (.struct fs) => (fs[f]?).bind fun q => yv1 P q.type q.offset x
 | _ => none
def zz0 (x : Option PV) (dflt : Nat) : Option Nat :=
 match x with
 | none => some dflt
 | some x => natOf? x
def strOf? : PV → Option ByteArray
 | .c (.d (.lit (.string s))) => some s
 | _ => none
def Opt {α : Type} (x : Option α) (K : α → Prop) : Prop :=
 match x with
 | some a => K a
 | none => False
def slcM (els : List (List D)) (l h : Nat) (mx : Option PV) (K : PV → Prop) : Prop :=
 match mx with
 | none => K (.c (.d (.sl ((els.drop l).take (h - l)))))
 | some m => Opt (natOf? m) fun m => m = h ∧ K (.c (.full ((els.drop l).take (h - l))))
def slcW (P : Program) (e : TypeId) (x : PV) (lo hi mx : Option PV) (K : PV → Prop) : Prop :=
 match x with
 | .c (.tv κ sz n L) => (lo = none ∧ mx = none ∧ sz = P.cellsOf e) ∧ Opt (zz0 hi n) fun m => m ≤ n ∧ K (.c (.tv κ sz m L))
 | .c (.d (.sa p sz n)) => (mx = none ∧ sz = P.cellsOf e) ∧ Opt (zz0 lo 0) fun l => Opt (zz0 hi n) fun m => (l ≤ m ∧ m ≤ n) ∧ K (.c (.d (.vw p sz n l (m - l))))
 | _ => False
def slcV (P : Program) (T : TypeId) (x : PV) (lo hi mx : Option PV) (K : PV → Prop) : Prop :=
 match P.underlying T with
 | some .string => mx.isNone = true ∧ Opt (strOf? x) fun s => Opt (zz0 lo 0) fun l => Opt (zz0 hi s.size) fun h => (l ≤ h ∧ h ≤ s.size) ∧ K (lit (.string (s.extract l h)))
 | some (.slice e) => 0 < P.cellsOf e ∧ (match zqc x with
   | none => slcW P e x lo hi mx K
   | some els => Opt (zz0 lo 0) fun l => Opt (zz0 hi els.length) fun h => (l ≤ h ∧ h ≤ els.length ∧ Szd (P.cellsOf e) els ∧ (mx.isSome = true → hi.isSome = true)) ∧ slcM els l h mx K)
 | _ => False
def extS (x : PV) (i : Nat) : Option PV :=
 match x with
 | .tup xs => (xs[i]?).map TV.pv
 | _ => none
def z0f : List PV → Option (List Value)
 | [] => some []
 | .c (.d (.lit (.int k n))) :: r => (z0f r).map fun xs => .int k n :: xs
 | _ :: _ => none
def lenE : PV → Option PV
 | .c (.mt _ _ n) => some (lit (.int .i64 n))
 | .c (.tv _ _ n _) => some (lit (.int .i64 n))
 | .c (.vsl _ n) => some (lit (.int .i64 n))
 | .c (.d (.sa _ _ n)) => some (lit (.int .i64 n))
 | .c (.d (.vw _ _ _ _ n)) => some (lit (.int .i64 n))
 | x => (zqc x).map fun els => lit (.int .i64 els.length)
def lenT (P : Program) (t : TypeId) (x : PV) : Option PV :=
 match P.underlying t with
 | some (.slice _) => lenE x
 | some .string => (strOf? x).map fun s => lit (.int .i64 s.size)
 | some (.array n _) => some (lit (.int .i64 n))
 | _ => none
def lenS (P : Program) : List TypeId → List PV → Option PV
 | [t], [x] => lenT P t x
 | _, _ => none
def bltS (P : Program) (b : Builtin) (ats : List TypeId) (T : TypeId) (args : List PV) : Option PV :=
 match b with
 | .len => lenS P ats args
 | .min => (z0f args).bind fun xs => (zks (Builtin.min_ #[] T xs.toArray)).map lit
 | .max => (z0f args).bind fun xs => (zks (Builtin.max_ #[] T xs.toArray)).map lit
 | _ => none
def z88 (A : AMap) : PV → Option (List (Value × MV))
 | .c (.mpr κ) => match A κ with
   | some (.mp m) => some m
   | _ => none
 | .c (.d (.mr p)) => match A (0, p) with
   | some (.pr q (.mp m)) => if q = p then some m else none
   | _ => none
 | .c (.d (.lit (.map none))) => some []
 | _ => none
def litV : PV → Option Value
 | .c (.d (.lit v)) => some v
 | _ => none
def gotV (P : Program) (e : TypeId) : Option (Nat × MV) → Option (MV × Bool)
 | some r => some (r.2, true)
 | none => (zlit P e).map fun z => (z, false)
def y4j (ok : Bool) (r : MV × Bool) : PV := match ok with
 | true => .tup [r.1.tv, .c (.d (.lit (.bool r.2)))]
 | false => r.1.pv
def y7j (P : Program) (kt e : TypeId) (m : List (Value × MV)) (k : Value) (ok : Bool) : Option PV :=
 (P.underlying kt).bind fun kd => if zku kd k = true then (mfind kd k m 0).bind fun r => (gotV P e r).map (y4j ok) else none
def key2 (a b : ByteArray) : Value := .agg ⟨[.string a, .string b]⟩
def twoV : PV → Option (ByteArray × ByteArray)
 | .agg [.d (.lit (.string a)), .d (.lit (.string b))] => some (a, b)
 | _ => none
def twoT (P : Program) (kt : TypeId) : Bool := match P.underlying kt with
 | some (.array n e) => (match P.underlying e with
   | some .string => decide (n = 2) && (match P.info? e with
     | some i => decide (i.size = 1)
     | none => false)
   | _ => false)
 | _ => false
def all2 {β : Type} (m : List (Value × β)) : Bool := m.all fun p => decide (zxh p.1 = some .two)
def xws {β : Type} (a b : ByteArray) : List (Value × β) → Nat → Option (Nat × β)
 | [], _ => none
 | e :: es, i => match e.1 with
   | .agg ⟨[.string c, .string d]⟩ => if (a == c && b == d) = true then some (i, e.2) else xws a b es (i + 1)
   | _ => xws a b es (i + 1)
def y1l (P : Program) (A : AMap) (T : TypeId) (x i : PV) (ok : Bool) : Option PV :=
 match P.underlying T with
 | some (.map kt e) => (match twoV i with
   | some ab => (z88 A x).bind fun m => if twoT P kt = true ∧ all2 m = true then (gotV P e (xws ab.1 ab.2 m 0)).map (y4j ok) else none
   | none => (litV i).bind fun k => (z88 A x).bind fun m => y7j P kt e m k ok)
 | _ => none
def xzm {β : Type} (m : List (Value × β)) (k : Value) (v : β) : Option (Nat × β) → List (Value × β)
 | some r => m.set r.1 (k, v)
 | none => m ++ [(k, v)]
def upM {β : Type} (P : Program) (kt : TypeId) (m : List (Value × β)) (k : Value) (v : β) : Option (List (Value × β)) :=
 (P.underlying kt).bind fun kd => if zku kd k = true then (mfind kd k m 0).map (xzm m k v) else none
def setM (A : AMap) (x : PV) (m : List (Value × MV)) : Option AMap :=
 match x with
 | .c (.mpr κ) => some (upd A κ (some (.mp m)))
 | .c (.d (.mr p)) => some (upd A (0, p) (some (.pr p (.mp m))))
 | _ => none
def mupS (P : Program) (A : AMap) (T : TypeId) (x k v : PV) : Option AMap :=
 match P.underlying T with
 | some (.map kt _) => (match twoV k with
   | some ab => (z88 A x).bind fun m => (v.mv).bind fun v => if twoT P kt = true ∧ all2 m = true then setM A x (xzm m (key2 ab.1 ab.2) v (xws ab.1 ab.2 m 0)) else none
   | none => (z88 A x).bind fun m => (litV k).bind fun k => (v.mv).bind fun v => (upM P kt m k v).bind fun m' => setM A x m')
 | _ => none
def y99 {β : Type} (m : List (Value × β)) : Option (Nat × β) → List (Value × β)
 | some r => m.eraseIdx r.1
 | none => m
def delM {β : Type} (P : Program) (kt : TypeId) (m : List (Value × β)) (k : Value) : Option (List (Value × β)) :=
 (P.underlying kt).bind fun kd => if zku kd k = true then (mfind kd k m 0).map (y99 m) else none
def y1o (P : Program) (A : AMap) (T : TypeId) (x k : PV) : Option AMap :=
 match P.underlying T with
 | some (.map kt _) => (z88 A x).bind fun m => (litV k).bind fun k => (delM P kt m k).bind fun m' => setM A x m'
 | _ => none
def mksS (P : Program) (T : TypeId) (l c : PV) : Option PV :=
 match P.underlying T with
 | some (.slice e) => (natOf? l).bind fun n => (natOf? c).bind fun n' => (zzm P e).bind fun z => if n = n' ∧ n * P.cellsOf e ≤ 16777216 ∧ 0 < P.cellsOf e ∧ 0 < n ∧ n * P.bytesOf e ≤ 16777216 then
    (toDs (List.replicate n z).flatten).map fun ds => .c (.full (chunk (P.cellsOf e) n ds)) else none
 | _ => none
def elsF : Option PV → Option (List (List D))
 | some (.c (.full els)) => some els
 | _ => none
def szOf (P : Program) (T : TypeId) : Nat := match P.underlying T with
 | some (.slice e) => P.cellsOf e
 | _ => 0
def y1r (A : AMap) : PV → Option (List (List D))
 | .c (.mt κ sz n) => (match A κ with
   | some (.mu sz' els) => if sz' = sz ∧ sz = 1 ∧ n = els.length then some els else none
   | _ => none)
 | _ => none
def z3a (P : Program) (A : AMap) (s d : TypeId) (x : PV) : Option PV :=
 match P.underlying d with
 | some .string => if zj1 P s = true then (y1r A x).bind fun els => (zvk els).map fun l => lit (.string ⟨l.toArray⟩) else none
 | _ => none
def lenM (P : Program) (A : AMap) : List TypeId → List PV → Option PV
 | [t], [x] => (match P.underlying t with
   | some (.map _ _) => (z88 A x).map fun m => lit (.int .i64 m.length)
   | _ => none)
 | _, _ => none
def zjn : List PV → Option (List (Nat × Nat))
 | [] => some []
 | .c (.ptr id off) :: r => (zjn r).map fun xs => (id, off) :: xs
 | _ :: _ => none
def boolOf? : PV → Option Bool
 | .c (.d (.lit (.bool t))) => some t
 | _ => none
def litOf? : PV → Option Value
 | .c (.d (.lit v)) => some v
 | _ => none
def nilS : PV → Option PV
 | .c (.ptr id off) => some (.c (.ptr id off))
 | .c (.eptr c off) => some (.c (.eptr c off))
 | .c (.mptr κ sz len i off) => some (.c (.mptr κ sz len i off))
 | .c (.fn f caps) => some (.c (.fn f caps))
 | .c (.bfn f fst caps) => some (.c (.bfn f fst caps))
 | .c (.d (.rf p off)) => some (.c (.d (.rf p off)))
 | .c (.d (.el p sz len i off)) => some (.c (.d (.el p sz len i off)))
 | .c (.d (.fn f)) => some (.c (.d (.fn f)))
 | _ => none
def y4m (P : Program) : ROp → Option PV
 | .mv x => some x
 | .pick c a b => (boolOf? c).map fun t => if t then a else b
 | .build T ps => z98 P T ps
 | .bsl T n ps => bslS P T n ps
 | .bin op T x y => binS P op T x y
 | .un op x => (litOf? x).bind fun v => (zks (Op.unary op v)).map lit
 | .conv s d x => y0i P s d x
 | .idxA T x i => y08 P T x i
 | .idx T x i => idxS P T x i
 | .fldA T x f => y02 P T x f
 | .fld T x f => fldS P T x f
 | .ext x i => extS x i
 | .blt b ats T args => bltS P b ats T args
 | .mkf f caps => (zjn caps).map fun cs => .c (.fn f cs)
 | .mkb f fst caps => (zjn fst).bind fun fs => (zjn caps).map fun cs => .c (.bfn f fs cs)
 | .nilc x => nilS x
 | .mks T l c => mksS P T l c
 | _ => none
def blocked : Option (List Nat) → Nat → Bool
 | none, _ => false
 | some [], _ => false
 | some (x :: l), id => if x = 2 then !l.contains id else l.contains id
def zvm : Option (List Nat) → Bool
 | none => false
 | some [] => false
 | some (x :: _) => decide (x = 2)
def yz3 : Option (List Nat) → List Nat
 | none => []
 | some [] => []
 | some (_ :: l) => l
theorem y35 {fb : Option (List Nat)} {id : Nat} (h : zvm fb = true) (hb : blocked fb id = false) : id ∈ yz3 fb := by
 unfold zvm at h
 unfold blocked at hb
 unfold yz3
 split at h
 · cases h
 · cases h
 · rename_i x l
   change (if x = 2 then !l.contains id else l.contains id) = false at hb
   rw [if_pos (of_decide_eq_true h), Bool.not_eq_false'] at hb
   exact List.contains_iff_mem.1 hb
def lwOf : Option (List Nat) → Bool
 | none => false
 | some [] => false
 | some (x :: _) => x == 1
def z31 (fb : Option (List Nat)) : Bool × Bool × Bool := (fb.isSome, lwOf fb, zvm fb)
def stoG {α : Type} (lw bl : Bool) (r : Option α) : Option α := match lw, bl with
 | true, false => none
 | true, true => r
 | false, _ => r
theorem z6q {α : Type} {lw bl : Bool} {r : Option α} {m : α} (h : stoG lw bl r = some m) : r = some m ∧ (lw = true → bl = true) := by
 cases lw <;> cases bl <;> first | (cases h; done) | exact ⟨h, fun e => e⟩ | exact ⟨h, fun e => (by cases e)⟩ | exact ⟨h, fun _ => rfl⟩
theorem y8c {α : Type} {lw bl : Bool} {r : Option α} (h : lw = true → bl = true) : stoG lw bl r = r := by
 cases lw <;> cases bl <;> first | rfl | (cases h rfl)
def z53 (P : Program) (fb : Option (List Nat)) (H : HMap) (A : AMap) (T : TypeId) (a : PV) : Option PV :=
 match a with
 | .c (.ptr id off) => if blocked fb id = true then none else (H id).bind fun cs => (sub cs off (P.cellsOf T)).bind fun r => mkPV P T r
 | .c (.eptr e off) => (sub (e.map .d) off (P.cellsOf T)).bind fun r => mkPV P T r
 | .c (.mptr κ _ n i off) => if fb.isSome = true then none else match A κ with
   | some (.mu _ els) => if n = els.length then (els[i]?).bind fun e => (sub (e.map .d) off (P.cellsOf T)).bind fun r => mkPV P T r else none
   | _ => none
 | .c (.d (.rf p off)) => if fb.isSome = true then none else match A (0, p) with
   | some (.pr q (.ob ds)) => if q = p then (sub (ds.map D.cv) off (P.cellsOf T)).bind fun r => mkPV P T r else none
   | _ => none
 | .c (.d (.el p sz n i off)) => if fb.isSome = true then none else match A (0, p) with
   | some (.pr q (.mu sz' els)) => if q = p ∧ sz' = sz ∧ n = els.length then (els[i]?).bind fun e => (sub (e.map .d) off (P.cellsOf T)).bind fun r => mkPV P T r else none
   | _ => none
 | _ => none
def z0k (P : Program) (fb : Option (List Nat)) (H : HMap) (A : AMap) (T : TypeId) (a x : PV) : Option (HMap × AMap) :=
 (z7n x).bind fun ys => if ys.length = P.cellsOf T ∧ ys.all CV.known = true then match a with
   | .c (.ptr id off) => stoG (lwOf fb) (blocked fb id) ((H id).bind fun cs => if off + ys.length ≤ cs.length then some (upd H id (some (splice cs off ys)), A) else none)
   | .c (.mptr κ sz n i off) => if fb.isSome = true then none else match A κ with
     | some (.mu sz' els) => if n = els.length ∧ sz' = sz then (els[i]?).bind fun e => (toDs ys).bind fun ds => if off + ds.length ≤ e.length then
        some (H, upd A κ (some (.mu sz' (els.set i (splice e off ds))))) else none else none
     | _ => none
   | .c (.d (.rf p off)) => if fb.isSome = true then none else match A (0, p) with
     | some (.pr q (.ob e)) => if q = p then (z7a ys).bind fun ds => if off + ds.length ≤ e.length then some (H, upd A (0, p) (some (.pr p (.ob (splice e off ds))))) else none else none
     | _ => none
   | .c (.d (.el p sz n i off)) => if fb.isSome = true then none else match A (0, p) with
     | some (.pr q (.mu sz' els)) => if q = p ∧ sz' = sz ∧ n = els.length then (els[i]?).bind fun e => (toDs ys).bind fun ds => if off + ds.length ≤ e.length then
        some (H, upd A (0, p) (some (.pr p (.mu sz (els.set i (splice e off ds)))))) else none else none
     | _ => none
   | _ => none else none
def zzt (P : Program) (e : TypeId) : Bool := (zzm P e).isSome
def appT (P : Program) (e : TypeId) (A : AMap) (κ : Tok) (sz n L : Nat) (ys : List (List D)) (K : PV → AMap → Prop) : Prop :=
 match A κ with
 | some (.mu sz' els) => (sz = P.cellsOf e ∧ sz' = sz ∧ L = els.length ∧ n ≤ L ∧ Szd (P.cellsOf e) ys ∧ (els.length + ys.length) * P.bytesOf e ≤ 140737488355328) ∧
    (match decide (n = L) with
     | true => K (.c (.tv κ sz (els ++ ys).length (els ++ ys).length)) (upd A κ (some (.mu sz (els ++ ys))))
     | false => match ys with
       | [y] => K (.c (.tv κ sz (n + 1) L)) (upd A κ (some (.mu sz (els.set n y))))
       | _ => False)
 | _ => False
def z0i (A : AMap) : PV → Option (Option Nat × List (List D))
 | .c (.d (.sa q sz n)) => match A (0, q) with
   | some (.pr q' (.mu sz' els)) => if q' = q ∧ sz' = sz ∧ n = els.length then some (some q, els) else none
   | _ => none
 | .c (.d (.vw q sz L lo n)) => match A (0, q) with
   | some (.pr q' (.mu sz' els)) => if q' = q ∧ sz' = sz ∧ L = els.length then some (some q, (els.drop lo).take n) else none
   | _ => none
 | x => (zqc x).map fun els => (none, els)
def yjy (A : AMap) (s : Nat) : PV → Option (Option Nat × List (List D))
 | .c (.full []) => some (none, [])
 | .c (.d (.sa p _ n)) => match A (0, p) with
   | some (.pr q (.mu sz' els)) => if q = p ∧ sz' = s ∧ n = els.length then some (some p, els) else none
   | _ => none
 | _ => none
def z5n (A : AMap) : Option Nat → AMap
 | none => A
 | some p => upd A (0, p) (some .dead)
def newP (A : AMap) (ar : Arr) (K : Nat → AMap → Prop) : Prop :=
 match A (0, 0) with
 | some (.cnt c) => A (0, c) = none ∧ K c (upd (upd A (0, c) (some (.pr c ar))) (0, 0) (some (.cnt (c + 1))))
 | _ => False
def objV (A : AMap) (cs : List CV) (K : PV → AMap → Prop) : Prop := Opt (z7a cs) fun ds => newP A (.ob ds) fun c A' => K (.c (.d (.rf c 0))) A'
def apdV (P : Program) (A : AMap) (ats : List TypeId) (x y : PV) (K : PV → AMap → Prop) : Prop :=
 match ats with
 | [t, u] => match P.underlying t with
   | some (.slice e) => (t = u ∧ 0 < P.cellsOf e ∧ zzt P e = true ∧ 0 < P.bytesOf e) ∧ Opt (yjy A (P.cellsOf e) x) fun a => Opt (z0i A y) fun b =>
      (Szd (P.cellsOf e) a.2 ∧ Szd (P.cellsOf e) b.2 ∧ (a.2.length + b.2.length) * P.bytesOf e ≤ 140737488355328 ∧ (a.1 = none ∨ a.1 ≠ b.1)) ∧
      newP (z5n A a.1) (.mu (P.cellsOf e) (a.2 ++ b.2)) fun c A' => K (.c (.d (.sa c (P.cellsOf e) (a.2 ++ b.2).length))) A'
   | _ => False
 | _ => False
def appV (P : Program) (md : List Nat) (k d : Nat) (A : AMap) (ats : List TypeId) (x y : PV) (K : PV → AMap → Prop) : Prop :=
 match ats with
 | [t, u] => match P.underlying t with
   | some (.slice e) => (t = u ∧ 0 < P.cellsOf e ∧ zzt P e = true ∧ 0 < P.bytesOf e) ∧ (match zqc y with
     | some ys => match x with
       | .c (.full els) => (Szd (P.cellsOf e) els ∧ Szd (P.cellsOf e) ys ∧ (els.length + ys.length) * P.bytesOf e ≤ 140737488355328 ∧ A (k + d, 0) = none) ∧
          (match md.contains d with
           | true => els = [] ∧ K (.c (.mt (k + d, 0) (P.cellsOf e) (els ++ ys).length)) (upd A (k + d, 0) (some (.mu (P.cellsOf e) (els ++ ys))))
           | false => K (.c (.own (k + d, 0) (els ++ ys))) (upd A (k + d, 0) (some (.co (P.cellsOf e) (els ++ ys).length))))
       | .c (.own κ els) => (Szd (P.cellsOf e) els ∧ Szd (P.cellsOf e) ys ∧ (els.length + ys.length) * P.bytesOf e ≤ 140737488355328 ∧ A κ = some (.co (P.cellsOf e) els.length)) ∧
          K (.c (.own κ (els ++ ys))) (upd A κ (some (.co (P.cellsOf e) (els ++ ys).length)))
       | .c (.mt κ sz n) => match A κ with
         | some (.mu sz' els) => (sz = P.cellsOf e ∧ sz' = sz ∧ n = els.length ∧ Szd (P.cellsOf e) ys ∧ (els.length + ys.length) * P.bytesOf e ≤ 140737488355328) ∧
            K (.c (.mt κ sz (els ++ ys).length)) (upd A κ (some (.mu sz (els ++ ys))))
         | _ => False
       | .c (.tv κ sz n L) => appT P e A κ sz n L ys K
       | _ => False
     | none => False)
   | _ => False
 | _ => False
end Go.PW
