/-
  Values, rows, spans and pieces, as the abstract machine has them.
-/
import Derived.Test.YtgpmdeembgohdaaPwT
namespace Go.Proofs
open Go.PW

structure Val where
  kind : Int
  num : Int
  bits : Int
  str : ByteArray

abbrev Row := List Val

structure Piece where
  lo : Int
  hi : Int
  row : Row

def Val.enc (v : Val) : List D := [.lit (.int .i64 v.kind), .lit (.int .i64 v.num), .lit (.int .u64 v.bits), .lit (.string v.str)]
def encRow (r : Row) : D := .sl (r.map Val.enc)
def Piece.enc (p : Piece) : List D := [.lit (.int .i64 p.lo), .lit (.int .i64 p.hi), encRow p.row]
def encPieces (ps : List Piece) : D := .sl (ps.map Piece.enc)
def encSpan (a b : Int) : List D := [.lit (.int .i64 a), .lit (.int .i64 b)]

attribute [go_sem] Val.enc encRow Piece.enc encPieces encSpan

def dB (b : Bool) : RT := .d (.lit (.bool b))
def pA (x : List D) : PV := .agg (x.map .d)
def pD (x : D) : PV := .c (.d x)
@[go_sem] theorem pA_eq (x : List D) : pA x = .agg (x.map .d) := rfl
@[go_sem] theorem pD_eq (x : D) : pD x = .c (.d x) := rfl
@[go_sem] theorem dB_eq (b : Bool) : dB b = .d (.lit (.bool b)) := rfl

section eqs
variable {a b c a' b' c' : Int} {s s' : ByteArray}
@[go_sem] theorem Try.eqVal : binS Try.prog .eql 64 (.agg [.d (.lit (.int .i64 a)), .d (.lit (.int .i64 b)), .d (.lit (.int .u64 c)), .d (.lit (.string s))]) (.agg [.d (.lit (.int .i64 a')), .d (.lit (.int .i64 b')), .d (.lit (.int .u64 c')), .d (.lit (.string s'))]) =
    some (lit (.bool ((a == a') && ((b == b') && ((c == c') && ((s.toList == s'.toList) && true)))))) := by kernel_rfl
@[go_sem] theorem Try.neVal : binS Try.prog .neq 64 (.agg [.d (.lit (.int .i64 a)), .d (.lit (.int .i64 b)), .d (.lit (.int .u64 c)), .d (.lit (.string s))]) (.agg [.d (.lit (.int .i64 a')), .d (.lit (.int .i64 b')), .d (.lit (.int .u64 c')), .d (.lit (.string s'))]) =
    some (lit (.bool (!((a == a') && ((b == b') && ((c == c') && ((s.toList == s'.toList) && true))))))) := by kernel_rfl
@[go_sem] theorem Try.eqSpan : binS Try.prog .eql 24 (.agg [.d (.lit (.int .i64 a)), .d (.lit (.int .i64 b))]) (.agg [.d (.lit (.int .i64 a')), .d (.lit (.int .i64 b'))]) =
    some (lit (.bool ((a == a') && ((b == b') && true)))) := by kernel_rfl
@[go_sem] theorem Try.neSpan : binS Try.prog .neq 24 (.agg [.d (.lit (.int .i64 a)), .d (.lit (.int .i64 b))]) (.agg [.d (.lit (.int .i64 a')), .d (.lit (.int .i64 b'))]) =
    some (lit (.bool (!((a == a') && ((b == b') && true))))) := by kernel_rfl
end eqs

theorem Try.appVals : AppT Try.prog 25 64 4 40 := ⟨Try.underlying25, Try.cl64, Try.by64, Try.zo64, by decide, by decide⟩
theorem Try.appPieces : AppT Try.prog 22 56 3 40 := ⟨Try.underlying22, Try.cl56, Try.by56, Try.zo56, by decide, by decide⟩
theorem Try.appSpans : AppT Try.prog 67 24 2 16 := ⟨Try.underlying67, Try.cl24, Try.by24, Try.zo24, by decide, by decide⟩

theorem szPieces (ps : List Piece) : Szd 3 (ps.map Piece.enc) := fun e he => by
  obtain ⟨p, _, rfl⟩ := List.mem_map.1 he
  rfl
theorem szRow (r : Row) : Szd 4 (r.map Val.enc) := fun e he => by
  obtain ⟨p, _, rfl⟩ := List.mem_map.1 he
  rfl
theorem take_next {α : Type} {l : List α} {i : Nat} {x : α} (h : l[i]? = some x) : l.take (i + 1) = l.take i ++ [x] := by rw [List.take_add_one, h]; rfl

theorem Try.mixed : Try.prog.follows .mixedOrders = true := by kernel_rfl

/-- Of functions that take data. -/
theorem Try.pure {f : FuncId} {fn : Func} {c : Code} {md : List Nat} (hf : Try.prog.funcs[f]? = some fn) (hb : fn.body = some c) (hext : ∀ (args : Array Value) (w : World), (callFunc f args).run Try.prog w = .ok (.enter f args) w)
    (hc : codeOK (envOf Try.prog [] 0 md []) fn.ntmps c = true) {args : List PV} (hcl : args.all PV.closed = true) (hn : args.length ≤ fn.ntmps) {r : RV}
    (h : VC (envOf Try.prog [] 0 md []) noH noA c ⟨Ret Try.prog fn r, Ret Try.prog fn r, fun _ _ => False⟩ ⟨entry args, noH, noA⟩) : PureOK Try.prog f args r :=
  pure_ok (envOf_ok Try.mixed) hf hb hext hc hcl hn h
end Go.Proofs
