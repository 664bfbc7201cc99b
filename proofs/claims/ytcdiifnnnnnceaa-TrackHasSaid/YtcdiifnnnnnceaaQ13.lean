import Derived.Test.YtcdiifnnnnnceaaQ12

/-
  Values, rows, spans and pieces, as the abstract machine has them.
-/

namespace Go.Proofs
open Go.PW

structure Val where
  kind : Int
  num : Int
  bits : Int
  str : ByteArray

abbrev Row := List Val

structure Piece where
  lo : Int
  hi : Int
  row : Row

def Val.enc (v : Val) : List D := [.lit (.int .i64 v.kind), .lit (.int .i64 v.num), .lit (.int .u64 v.bits), .lit (.string v.str)]
def encRow (r : Row) : D := .sl (r.map Val.enc)
def Piece.enc (p : Piece) : List D := [.lit (.int .i64 p.lo), .lit (.int .i64 p.hi), encRow p.row]
def encPieces (ps : List Piece) : D := .sl (ps.map Piece.enc)
def encSpan (a b : Int) : List D := [.lit (.int .i64 a), .lit (.int .i64 b)]

attribute [go_sem] Val.enc encRow Piece.enc encPieces encSpan

def dB (b : Bool) : RT := .d (.lit (.bool b))
def pA (x : List D) : PV := .agg (x.map .d)
def pD (x : D) : PV := .c (.d x)
@[go_sem] theorem pA_eq (x : List D) : pA x = .agg (x.map .d) := rfl
@[go_sem] theorem pD_eq (x : D) : pD x = .c (.d x) := rfl
@[go_sem] theorem dB_eq (b : Bool) : dB b = .d (.lit (.bool b)) := rfl

section eqs
variable {a b c a' b' c' : Int} {s s' : ByteArray}
@[go_sem] theorem Try.eqVal : binS Try.prog .eql 80 (.agg [.d (.lit (.int .i64 a)), .d (.lit (.int .i64 b)), .d (.lit (.int .u64 c)), .d (.lit (.string s))]) (.agg [.d (.lit (.int .i64 a')), .d (.lit (.int .i64 b')), .d (.lit (.int .u64 c')), .d (.lit (.string s'))]) =
    some (lit (.bool ((a == a') && ((b == b') && ((c == c') && ((s.toList == s'.toList) && true)))))) := by kernel_rfl
@[go_sem] theorem Try.neVal : binS Try.prog .neq 80 (.agg [.d (.lit (.int .i64 a)), .d (.lit (.int .i64 b)), .d (.lit (.int .u64 c)), .d (.lit (.string s))]) (.agg [.d (.lit (.int .i64 a')), .d (.lit (.int .i64 b')), .d (.lit (.int .u64 c')), .d (.lit (.string s'))]) =
    some (lit (.bool (!((a == a') && ((b == b') && ((c == c') && ((s.toList == s'.toList) && true))))))) := by kernel_rfl
@[go_sem] theorem Try.eqSpan : binS Try.prog .eql 43 (.agg [.d (.lit (.int .i64 a)), .d (.lit (.int .i64 b))]) (.agg [.d (.lit (.int .i64 a')), .d (.lit (.int .i64 b'))]) =
    some (lit (.bool ((a == a') && ((b == b') && true)))) := by kernel_rfl
@[go_sem] theorem Try.neSpan : binS Try.prog .neq 43 (.agg [.d (.lit (.int .i64 a)), .d (.lit (.int .i64 b))]) (.agg [.d (.lit (.int .i64 a')), .d (.lit (.int .i64 b'))]) =
    some (lit (.bool (!((a == a') && ((b == b') && true))))) := by kernel_rfl
end eqs

theorem Try.appVals : AppT Try.prog 44 80 4 40 := ⟨Try.underlying44, Try.cl80, Try.by80, Try.zo80, by decide, by decide⟩
theorem Try.appPieces : AppT Try.prog 31 46 3 40 := ⟨Try.underlying31, Try.cl46, Try.by46, Try.zo46, by decide, by decide⟩
theorem Try.appSpans : AppT Try.prog 112 43 2 16 := ⟨Try.underlying112, Try.cl43, Try.by43, Try.zo43, by decide, by decide⟩

theorem szPieces (ps : List Piece) : Szd 3 (ps.map Piece.enc) := fun e he => by
  obtain ⟨p, _, rfl⟩ := List.mem_map.1 he
  rfl
theorem szRow (r : Row) : Szd 4 (r.map Val.enc) := fun e he => by
  obtain ⟨p, _, rfl⟩ := List.mem_map.1 he
  rfl
theorem take_next {α : Type} {l : List α} {i : Nat} {x : α} (h : l[i]? = some x) : l.take (i + 1) = l.take i ++ [x] := by rw [List.take_add_one, h]; rfl

theorem Try.mixed : Try.prog.follows .mixedOrders = true := by kernel_rfl

/-- Of functions that take data. -/
theorem Try.pure {f : FuncId} {fn : Func} {c : Code} {md : List Nat} (hf : Try.prog.funcs[f]? = some fn) (hb : fn.body = some c) (hext : ∀ (args : Array Value) (w : World), (callFunc f args).run Try.prog w = .ok (.enter f args) w)
    (hc : codeOK (envOf Try.prog [] 0 md []) fn.ntmps c = true) {args : List PV} (hcl : args.all PV.closed = true) (hn : args.length ≤ fn.ntmps) {r : RV}
    (h : VC (envOf Try.prog [] 0 md []) noH noA c ⟨Ret Try.prog fn r, Ret Try.prog fn r, fun _ _ => False⟩ ⟨entry args, noH, noA⟩) : PureOK Try.prog f args r :=
  pure_ok (envOf_ok Try.mixed) hf hb hext hc hcl hn h
end Go.Proofs

/-
  Spans.
-/

namespace Go.Proofs
open Go.PW

def Span.right (a b : Int) : Bool := decide (0 ≤ a) && decide (a < b) && decide (b ≤ 1099511627776)
def Span.has (a b n : Int) : Bool := Span.right a b && decide (a ≤ n) && decide (n < b)

set_option maxRecDepth 8000 in
set_option maxHeartbeats 400000 in
theorem Try.spanRight (a b : Int) : PureOK Try.prog 38 [pA (encSpan a b)] (.one (dB (Span.right a b))) := by
  refine Try.pure (md := []) Try.func38 rfl Try.call38 (by kernel_rfl) (by rfl) (by exact Nat.le_of_ble_eq_true rfl) ?_
  refine VC_seq fun K hK => VC_region ?_
  simp only [go_sem]
  refine hK _ ?_; clear hK K
  refine VC_seq fun K hK => VC_region ?_
  simp +decide only [go_sem]
  repeat' (refine GuardP_cases (fun h => ?_) (fun h => ?_) <;> simp +decide only [go_sem, h])
  all_goals (refine hK _ ?_; clear hK K; refine Ret_d rfl ?_; simp +decide only [go_sem, Span.right, *])

set_option maxRecDepth 8000 in
set_option maxHeartbeats 400000 in
theorem Try.spanHas (a b n : Int) : PureOK Try.prog 48 [pA (encSpan a b), pD (.lit (.int .i64 n))] (.one (dB (Span.has a b n))) := by
  refine Try.pure (md := []) Try.func48 rfl Try.call48 (by kernel_rfl) (by rfl) (by exact Nat.le_of_ble_eq_true rfl) ?_
  refine VC_seq fun K hK => VC_region ?_
  simp +decide only [go_sem]
  refine hK _ ?_; clear hK K
  refine VC_seq fun K hK => VC_region ?_
  simp +decide only [go_sem]
  refine call_pure (Try.spanRight a b) rfl rfl (fun _ => rfl) ?_
  simp +decide only [go_sem]
  repeat' (refine GuardP_cases (fun h => ?_) (fun h => ?_) <;> simp +decide only [go_sem, h])
  all_goals (refine hK _ ?_; clear hK K; refine Ret_d rfl ?_; simp +decide only [go_sem, Span.has, *])
end Go.Proofs

/-
  Functions of Go's library that the model answers itself: the bits of a float.
-/

namespace Go.Proofs
open Go.PW

theorem run_ext {P : Program} {f : FuncId} {fn : Func} {e : Array Value → Sem Value} (hf : P.funcs[f]? = some fn) (hb : fn.body = none) (hn : (fn.name == "runtime.NumGoroutine") = false) (h0 : Extern.findNext fn = none) (h1 : Extern.find fn = some e)
    (vals : Array Value) {v : Value} (hv : e vals = .pure v) (w : World) : ∃ w', (callFunc f vals).run P w = .ok (.value v) w' ∧ w'.heap = w.heap ∧ w'.os = w.os ∧ w'.tape = w.tape ∧ w'.output = w.output := by
  unfold callFunc
  simp only [Sem.run_bind, run_program, Result.andThen_ok, hf, hn, hb, h0, h1, Option.isNone_none, if_true, Bool.false_eq_true, if_false, hv]
  exact ⟨_, rfl, rfl, rfl, rfl, rfl⟩

theorem ext_ok {P : Program} {f : FuncId} {fn : Func} {e : Array Value → Sem Value} (hf : P.funcs[f]? = some fn) (hb : fn.body = none) (hn : (fn.name == "runtime.NumGoroutine") = false) (h0 : Extern.findNext fn = none) (h1 : Extern.find fn = some e)
    {x v : Value} (hv : e #[x] = .pure v) (hv1 : v.oneCell' = true) : PureOK P f [pD (.lit x)] (.one (.d (.lit v))) := by
  refine ⟨rfl, fun C w vals hC har => .inr ?_⟩
  obtain ⟨hl, hr⟩ := har
  obtain ⟨u, hu, hp⟩ := hr 0 _ rfl
  have hp : DRep C (.lit x) u := hp
  cases hp
  have hvals : vals = #[x] := by
    apply Array.ext'
    match h : vals.toList, hl with
    | [a], _ => rw [h] at hu; simp at hu; rw [hu]
  subst hvals
  obtain ⟨w', h1, h2, h3, h4, h5⟩ := run_ext hf hb hn h0 h1 _ hv w
  refine ⟨v, w', h1, gOnly C, ?_, ?_, .same h2 h3 h4 h5⟩
  · exact DRep.lit v hv1
  · exact MRel.same ⟨hC, fun id b hb => (by cases hb), fun κ ar hA => (by cases hA), fun b o ho => (by cases ho)⟩ h2

theorem Try.kFrombits (n : Int) : PureOK Try.prog 82 [pD (.lit (.int .u64 n))] (.one (.d (.lit (.float .f64 n.toNat)))) :=
  ext_ok Try.func82 rfl (by kernel_rfl) (by kernel_rfl) (e := Extern.MathFloatBits.float64frombits) (by kernel_rfl) rfl rfl

theorem Try.kBits (n : Nat) : PureOK Try.prog 85 [pD (.lit (.float .f64 n))] (.one (.d (.lit (.int .u64 n)))) :=
  ext_ok Try.func85 rfl (by kernel_rfl) (by kernel_rfl) (e := Extern.MathFloatBits.float64bits) (by kernel_rfl) rfl rfl
end Go.Proofs

/-
  Values.
-/

namespace Go.Proofs
open Go.PW

def isNaN (b : Nat) : Bool := FloatKind.f64.format.order b b != some .eq
def canonF (b : Nat) : Int := if isNaN b then 9221120237041090560 else if FloatKind.f64.format.order b 0 == some .eq then 0 else b

set_option maxRecDepth 8000 in
set_option maxHeartbeats 400000 in
theorem Try.kIsNaN (b : Nat) : PureOK Try.prog 84 [pD (.lit (.float .f64 b))] (.one (dB (isNaN b))) := by
  refine Try.pure (md := []) Try.func84 rfl Try.call84 (by kernel_rfl) (by rfl) (by exact Nat.le_of_ble_eq_true rfl) ?_
  repeat' (first
    | with_reducible refine VC_seq fun K hK => ?_
    | with_reducible refine W_region ?_
    | with_reducible refine VC_block ?_
    | with_reducible refine VC_scope ?_
    | with_reducible refine VC_if ?_
    | with_reducible refine VC_skip ?_
    | with_reducible refine VC_exit ?_
    | with_reducible refine VC_ret ?_
    | (with_reducible refine G_not (fun h => ?_) (fun h => ?_) <;> (try simp only [h]))
    | (with_reducible refine G_cases (fun h => ?_) (fun h => ?_) <;> (try simp only [h]))
    | (with_reducible refine hK _ ?_; clear hK K)
    | (clear hK K; with_reducible refine hK _ ?_; clear hK K)
    | (clear hK K; clear hK K; with_reducible refine hK _ ?_; clear hK K)
    | (clear hK K; clear hK K; clear hK K; with_reducible refine hK _ ?_; clear hK K)
    | (with_reducible refine todo ?_; simp +decide only [go_sem]))
  refine Ret_d rfl ?_
  simp +decide only [go_sem, isNaN]

set_option maxRecDepth 8000 in
set_option maxHeartbeats 400000 in
theorem Try.kCanonical (b : Nat) : PureOK Try.prog 81 [pD (.lit (.float .f64 b))] (.one (.d (.lit (.int .u64 (canonF b))))) := by
  refine Try.pure (md := []) Try.func81 rfl Try.call81 (by kernel_rfl) (by rfl) (by exact Nat.le_of_ble_eq_true rfl) ?_
  repeat' (first
    | with_reducible refine VC_seq fun K hK => ?_
    | with_reducible refine W_region ?_
    | with_reducible refine VC_block ?_
    | with_reducible refine VC_scope ?_
    | with_reducible refine VC_if ?_
    | with_reducible refine VC_skip ?_
    | with_reducible refine VC_exit ?_
    | with_reducible refine VC_ret ?_
    | (with_reducible refine G_not (fun h => ?_) (fun h => ?_) <;> (try simp only [h]))
    | (with_reducible refine G_cases (fun h => ?_) (fun h => ?_) <;> (try simp only [h]))
    | refine C_pure (Try.kIsNaN b) rfl rfl (fun _ => rfl) ?_
    | refine C_pure (Try.kBits b) rfl rfl (fun _ => rfl) ?_
    | (with_reducible refine hK _ ?_; clear hK K)
    | (clear hK K; with_reducible refine hK _ ?_; clear hK K)
    | (clear hK K; clear hK K; with_reducible refine hK _ ?_; clear hK K)
    | (clear hK K; clear hK K; clear hK K; with_reducible refine hK _ ?_; clear hK K)
    | (with_reducible refine todo ?_; simp +decide only [go_sem]))
  all_goals (refine Ret_d rfl ?_; simp +decide only [go_sem, canonF, *])

/-- Cell by cell. -/
def Val.same (v w : Val) : Bool := (v.kind == w.kind) && ((v.num == w.num) && ((v.bits == w.bits) && (v.str.toList == w.str.toList)))

/-- The value as it stands in no other way. -/
def Val.canon (v : Val) : Option Val :=
  if (v.kind == 0) = true then some ⟨v.kind, 0, 0, ⟨#[]⟩⟩
  else if (v.kind == 1) = true then some ⟨v.kind, iAnd .i64 v.num 1, 0, ⟨#[]⟩⟩
  else if (v.kind == 2) = true then some ⟨v.kind, v.num, 0, ⟨#[]⟩⟩
  else if (v.kind == 3) = true then some ⟨v.kind, 0, canonF v.bits.toNat, ⟨#[]⟩⟩
  else if (v.kind == 4) = true then some ⟨v.kind, 0, 0, v.str⟩
  else if (v.kind == 5) = true then some ⟨v.kind, 0, 0, v.str⟩
  else none

def Val.right (v : Val) : Bool :=
  match v.canon with
  | some w => v.same w && decide ((v.str.size : Int) ≤ 4096)
  | none => false

set_option maxRecDepth 8000 in
set_option maxHeartbeats 1000000 in
theorem Try.kValue (v : Val) : PureOK Try.prog 76 [pA v.enc] (.one (dB v.right)) := by
  refine Try.pure (md := []) Try.func76 rfl Try.call76 (by kernel_rfl) (by rfl) (by exact Nat.le_of_ble_eq_true rfl) ?_
  repeat' (first
    | with_reducible refine VC_seq fun K hK => ?_
    | with_reducible refine W_region ?_
    | with_reducible refine VC_block ?_
    | with_reducible refine VC_scope ?_
    | with_reducible refine VC_if ?_
    | with_reducible refine VC_skip ?_
    | with_reducible refine VC_exit ?_
    | with_reducible refine VC_ret ?_
    | (with_reducible refine G_not (fun h => ?_) (fun h => ?_) <;> (try simp only [h]))
    | (with_reducible refine G_cases (fun h => ?_) (fun h => ?_) <;> (try simp only [h]))
    | refine C_pure (Try.kFrombits v.bits) rfl rfl (fun _ => rfl) ?_
    | refine C_pure (Try.kCanonical v.bits.toNat) rfl rfl (fun _ => rfl) ?_
    | (with_reducible refine hK _ ?_; clear hK K)
    | (clear hK K; with_reducible refine hK _ ?_; clear hK K)
    | (clear hK K; clear hK K; with_reducible refine hK _ ?_; clear hK K)
    | (clear hK K; clear hK K; clear hK K; with_reducible refine hK _ ?_; clear hK K)
    | (with_reducible refine todo ?_; simp +decide only [go_sem]))
  all_goals (refine Ret_d rfl ?_; simp +decide only [go_sem, Val.right, Val.canon, Val.same, *])
end Go.Proofs

/-
  Rows.
-/


namespace Go.Proofs
open Go.PW

def rowRight (r : Row) : Bool := r.all Val.right

theorem all_take {α : Type} {f : α → Bool} {l : List α} {i : Nat} {x : α} (h : (l.take i).all f = true) (hx : l[i]? = some x) (hf : f x = true) : (l.take (i + 1)).all f = true := by
  rw [List.take_add_one, hx, List.all_append, h]
  simp [hf]
theorem all_not {α : Type} {f : α → Bool} {l : List α} {i : Nat} {x : α} (hx : l[i]? = some x) (hf : f x = false) : l.all f = false := by
  rw [List.all_eq_false]
  exact ⟨x, List.mem_of_getElem? hx, by simp [hf]⟩

set_option maxRecDepth 8000 in
set_option maxHeartbeats 400000 in
theorem Try.kRow (r : Row) (hr : r.length ≤ 4294967296) : PureOK Try.prog 69 [pD (encRow r)] (.one (dB (rowRight r))) := by
  refine Try.pure (md := []) Try.func69 rfl Try.call69 (by kernel_rfl) (by rfl) (by exact Nat.le_of_ble_eq_true rfl) ?_
  repeat' (first
    | with_reducible refine VC_seq fun K hK => ?_
    | with_reducible refine W_region ?_
    | with_reducible refine VC_block ?_
    | with_reducible refine VC_scope ?_
    | with_reducible refine VC_if ?_
    | with_reducible refine VC_skip ?_
    | with_reducible refine VC_exit ?_
    | with_reducible refine VC_ret ?_
    | (with_reducible refine G_not (fun h => ?_) (fun h => ?_) <;> (try simp only [h]))
    | (with_reducible refine G_cases (fun h => ?_) (fun h => ?_) <;> (try simp only [h]))
    | (with_reducible refine hK _ ?_; clear hK K)
    | (clear hK K; with_reducible refine hK _ ?_; clear hK K)
    | (clear hK K; clear hK K; with_reducible refine hK _ ?_; clear hK K)
    | (clear hK K; clear hK K; clear hK K; with_reducible refine hK _ ?_; clear hK K)
    | (with_reducible refine todo ?_; simp +decide only [go_sem]))
  refine VC_range r.length (fun i => rowRight (r.take i) = true) (fun i => frame [(5, pD (encRow r)), (6, pD (.lit (.int .i64 r.length))), (7, pD (.lit (.int .i64 i)))] [] []) rfl ?_ ?_
  · exact Weak_frame (by simp +decide only [go_sem]) True.intro True.intro
  · intro i hi hI
    rcases Nat.lt_or_ge i r.length with hlt | hge
    · have hg := List.getElem?_eq_getElem hlt
      have hd := int_lt_true hlt
      have hw := int_next hlt hr
      generalize r[i] = v at hg
      repeat' (first
        | with_reducible refine VC_seq fun K hK => ?_
        | with_reducible refine W_region ?_
        | with_reducible refine VC_block ?_
        | with_reducible refine VC_scope ?_
        | with_reducible refine VC_if ?_
        | with_reducible refine VC_skip ?_
        | with_reducible refine VC_exit ?_
        | with_reducible refine VC_ret ?_
        | (with_reducible refine G_not (fun h => ?_) (fun h => ?_) <;> (try simp only [h]))
        | (with_reducible refine G_cases (fun h => ?_) (fun h => ?_) <;> (try simp only [h]))
        | refine C_pure (Try.kValue v) rfl rfl (fun _ => rfl) ?_
        | (with_reducible refine hK _ ?_; clear hK K)
        | (clear hK K; with_reducible refine hK _ ?_; clear hK K)
        | (clear hK K; clear hK K; with_reducible refine hK _ ?_; clear hK K)
        | (clear hK K; clear hK K; clear hK K; with_reducible refine hK _ ?_; clear hK K)
        | (with_reducible refine todo ?_; simp +decide only [go_sem, hg, hd, hw]))
      · refine Next_of hlt (all_take hI hg h) (Weak_frame ?_ ?_ ?_) <;> simp +decide only [go_sem]
      · refine Ret_d rfl ?_
        simp +decide only [go_sem, all_not hg h, rowRight]
    · have hd := int_lt_false hge
      rw [List.take_of_length_le hge] at hI
      repeat' (first
        | with_reducible refine VC_seq fun K hK => ?_
        | with_reducible refine W_region ?_
        | with_reducible refine VC_block ?_
        | with_reducible refine VC_scope ?_
        | with_reducible refine VC_if ?_
        | with_reducible refine VC_skip ?_
        | with_reducible refine VC_exit ?_
        | with_reducible refine VC_ret ?_
        | (with_reducible refine G_not (fun h => ?_) (fun h => ?_) <;> (try simp only [h]))
        | (with_reducible refine G_cases (fun h => ?_) (fun h => ?_) <;> (try simp only [h]))
        | (with_reducible refine hK _ ?_; clear hK K)
        | (clear hK K; with_reducible refine hK _ ?_; clear hK K)
        | (clear hK K; clear hK K; with_reducible refine hK _ ?_; clear hK K)
        | (clear hK K; clear hK K; clear hK K; with_reducible refine hK _ ?_; clear hK K)
        | (with_reducible refine todo ?_; simp +decide only [go_sem, hd]))
      refine Ret_d rfl ?_
      simp +decide only [go_sem, hI]

/-- Two values, cell by cell. -/
def sameRow (a b : Row) : Bool := a.length == b.length && (List.zipWith Val.same a b).all id

theorem same_take {a b : Row} {i : Nat} {x y : Val} (h : (List.zipWith Val.same (a.take i) (b.take i)).all id = true) (hx : a[i]? = some x) (hy : b[i]? = some y) (hf : Val.same x y = true) : (List.zipWith Val.same (a.take (i + 1)) (b.take (i + 1))).all id = true := by
  rw [← List.take_zipWith] at h ⊢
  refine all_take (x := true) h ?_ rfl
  rw [List.getElem?_zipWith, hx, hy]
  simp [hf]
theorem same_not {a b : Row} {i : Nat} {x y : Val} (hx : a[i]? = some x) (hy : b[i]? = some y) (hf : Val.same x y = false) : (List.zipWith Val.same a b).all id = false := by
  refine all_not (i := i) (x := false) ?_ rfl
  rw [List.getElem?_zipWith, hx, hy]
  simp [hf]

set_option maxRecDepth 8000 in
set_option maxHeartbeats 1000000 in
theorem Try.kSame (a b : Row) (hr : a.length ≤ 4294967296) : PureOK Try.prog 68 [pD (encRow a), pD (encRow b)] (.one (dB (sameRow a b))) := by
  refine Try.pure (md := []) Try.func68 rfl Try.call68 (by kernel_rfl) (by rfl) (by exact Nat.le_of_ble_eq_true rfl) ?_
  repeat' (first
    | with_reducible refine VC_seq fun K hK => ?_
    | with_reducible refine W_region ?_
    | with_reducible refine VC_block ?_
    | with_reducible refine VC_scope ?_
    | with_reducible refine VC_if ?_
    | with_reducible refine VC_skip ?_
    | with_reducible refine VC_exit ?_
    | with_reducible refine VC_ret ?_
    | (with_reducible refine G_not (fun h => ?_) (fun h => ?_) <;> (try simp only [h]))
    | (with_reducible refine G_cases (fun h => ?_) (fun h => ?_) <;> (try simp only [h]))
    | (with_reducible refine hK _ ?_; clear hK K)
    | (clear hK K; with_reducible refine hK _ ?_; clear hK K)
    | (clear hK K; clear hK K; with_reducible refine hK _ ?_; clear hK K)
    | (clear hK K; clear hK K; clear hK K; with_reducible refine hK _ ?_; clear hK K)
    | (with_reducible refine todo ?_; simp +decide only [go_sem]))
  · refine Ret_d rfl ?_
    have hne : (a.length == b.length) = false := by
      rw [beq_eq_false_iff_ne]; intro e; rw [e] at h; simp at h
    simp +decide only [go_sem, sameRow, hne]
  · have hlen : a.length = b.length := by
      have e : ((a.length : Int) == (b.length : Int)) = true := by simpa [bne] using h
      exact Int.ofNat_inj.1 (by simpa using e)
    refine VC_range a.length (fun i => (List.zipWith Val.same (a.take i) (b.take i)).all id = true) (fun i => frame [(0, pD (encRow a)), (1, pD (encRow b)), (12, pD (.lit (.int .i64 a.length))), (13, pD (.lit (.int .i64 i)))] [] []) rfl ?_ ?_
    · refine Weak_frame ?_ ?_ ?_ <;> simp +decide only [go_sem]
    · intro i hi hI
      rcases Nat.lt_or_ge i a.length with hlt | hge
      · have hg := List.getElem?_eq_getElem hlt
        have hg' := List.getElem?_eq_getElem (show i < b.length by omega)
        have hd := int_lt_true hlt
        have hw := int_next hlt hr
        generalize a[i] = x at hg
        generalize b[i] = y at hg'
        repeat' (first
          | with_reducible refine VC_seq fun K hK => ?_
          | with_reducible refine W_region ?_
          | with_reducible refine VC_block ?_
          | with_reducible refine VC_scope ?_
          | with_reducible refine VC_if ?_
          | with_reducible refine VC_skip ?_
          | with_reducible refine VC_exit ?_
          | with_reducible refine VC_ret ?_
          | (with_reducible refine G_not (fun h => ?_) (fun h => ?_) <;> (try simp only [h]))
          | (with_reducible refine G_cases (fun h => ?_) (fun h => ?_) <;> (try simp only [h]))
          | (with_reducible refine hK _ ?_; clear hK K)
          | (clear hK K; with_reducible refine hK _ ?_; clear hK K)
          | (clear hK K; clear hK K; with_reducible refine hK _ ?_; clear hK K)
          | (clear hK K; clear hK K; clear hK K; with_reducible refine hK _ ?_; clear hK K)
          | (with_reducible refine todo ?_; simp +decide only [go_sem, hg, hg', hd, hw]))
        · refine Next_of hlt (same_take hI hg hg' h) (Weak_frame ?_ ?_ ?_) <;> simp +decide only [go_sem]
        · refine Ret_d rfl ?_
          simp +decide only [go_sem, sameRow, same_not hg hg' h]
      · have hd := int_lt_false hge
        rw [List.take_of_length_le hge, List.take_of_length_le (show b.length ≤ i by omega)] at hI
        repeat' (first
          | with_reducible refine VC_seq fun K hK => ?_
          | with_reducible refine W_region ?_
          | with_reducible refine VC_block ?_
          | with_reducible refine VC_scope ?_
          | with_reducible refine VC_if ?_
          | with_reducible refine VC_skip ?_
          | with_reducible refine VC_exit ?_
          | with_reducible refine VC_ret ?_
          | (with_reducible refine G_not (fun h => ?_) (fun h => ?_) <;> (try simp only [h]))
          | (with_reducible refine G_cases (fun h => ?_) (fun h => ?_) <;> (try simp only [h]))
          | (with_reducible refine hK _ ?_; clear hK K)
          | (clear hK K; with_reducible refine hK _ ?_; clear hK K)
          | (clear hK K; clear hK K; with_reducible refine hK _ ?_; clear hK K)
          | (clear hK K; clear hK K; clear hK K; with_reducible refine hK _ ?_; clear hK K)
          | (with_reducible refine todo ?_; simp +decide only [go_sem, hd]))
        refine Ret_d rfl ?_
        simp +decide only [go_sem, sameRow, hI, hlen]
end Go.Proofs

/-
  Pieces: own.
-/

namespace Go.Proofs
open Go.PW

set_option maxRecDepth 8000 in
set_option maxHeartbeats 1000000 in
theorem Try.kOwn (ps : List Piece) (hn : ps.length ≤ 1048576) (hr : ∀ p ∈ ps, p.row.length ≤ 1048576) : PureOK Try.prog 66 [pD (encPieces ps)] (.one (.own 3 (ps.map Piece.enc))) := by
  refine Try.pure (md := []) Try.func66 rfl Try.call66 (by kernel_rfl) (by rfl) (by exact Nat.le_of_ble_eq_true rfl) ?_
  repeat' (first
    | with_reducible refine VC_seq fun K hK => ?_
    | with_reducible refine W_region ?_
    | with_reducible refine VC_block ?_
    | with_reducible refine VC_scope ?_
    | with_reducible refine VC_if ?_
    | with_reducible refine VC_skip ?_
    | with_reducible refine VC_exit ?_
    | with_reducible refine VC_ret ?_
    | (with_reducible refine G_not (fun h => ?_) (fun h => ?_) <;> (try simp only [h]))
    | (with_reducible refine G_cases (fun h => ?_) (fun h => ?_) <;> (try simp only [h]))
    | (with_reducible refine hK _ ?_; clear hK K)
    | (clear hK K; with_reducible refine hK _ ?_; clear hK K)
    | (clear hK K; clear hK K; with_reducible refine hK _ ?_; clear hK K)
    | (clear hK K; clear hK K; clear hK K; with_reducible refine hK _ ?_; clear hK K)
    | (with_reducible refine todo ?_; simp +decide only [go_sem]))
  refine VC_range ps.length (fun _ => True) (fun i => frame [(6, pD (encPieces ps)), (7, pD (.lit (.int .i64 ps.length))), (8, pD (.lit (.int .i64 i))), (3, .c (.own (3, 0) ((ps.take i).map Piece.enc)))] [] [((3, 0), .co 3 (ps.take i).length)]) True.intro ?_ ?_
  · refine Weak_frame ?_ ?_ ?_ <;> simp +decide only [go_sem]
    exact wkP_new rfl rfl
  · intro i hi hI
    rcases Nat.lt_or_ge i ps.length with hlt | hge
    · have hg := List.getElem?_eq_getElem hlt
      have hd := int_lt_true hlt
      have hw := int_next hlt (show ps.length ≤ 4294967296 by omega)
      generalize ps[i] = x at hg
      have hx := hr x (List.mem_of_getElem? hg)
      have htk := take_next hg
      have hl : (ps.take i).length = i := by rw [List.length_take]; omega
      repeat' (first
        | with_reducible refine VC_seq fun K hK => ?_
        | with_reducible refine W_region ?_
        | with_reducible refine VC_block ?_
        | with_reducible refine VC_scope ?_
        | with_reducible refine VC_if ?_
        | with_reducible refine VC_skip ?_
        | with_reducible refine VC_exit ?_
        | with_reducible refine VC_ret ?_
        | (with_reducible refine G_not (fun h => ?_) (fun h => ?_) <;> (try simp only [h]))
        | (with_reducible refine G_cases (fun h => ?_) (fun h => ?_) <;> (try simp only [h]))
        | (refine W_full Try.appVals rfl rfl szNil (szRow _) (by simp; omega) rfl ?_)
        | (refine W_own Try.appPieces rfl (szPieces _) (szOne rfl) (by simp; omega) (by simp; rfl) ?_)
        | (with_reducible refine hK _ ?_; clear hK K)
        | (clear hK K; with_reducible refine hK _ ?_; clear hK K)
        | (clear hK K; clear hK K; with_reducible refine hK _ ?_; clear hK K)
        | (clear hK K; clear hK K; clear hK K; with_reducible refine hK _ ?_; clear hK K)
        | (with_reducible refine todo ?_; simp +decide only [go_sem, hg, hd, hw]))
      refine Next_of hlt True.intro (Weak_frame ?_ ?_ ?_) <;> simp +decide only [go_sem, htk]
      exact wkP_own (by simp [aOf]) rfl
    · have hd := int_lt_false hge
      rw [List.take_of_length_le hge]
      repeat' (first
        | with_reducible refine VC_seq fun K hK => ?_
        | with_reducible refine W_region ?_
        | with_reducible refine VC_block ?_
        | with_reducible refine VC_scope ?_
        | with_reducible refine VC_if ?_
        | with_reducible refine VC_skip ?_
        | with_reducible refine VC_exit ?_
        | with_reducible refine VC_ret ?_
        | (with_reducible refine G_not (fun h => ?_) (fun h => ?_) <;> (try simp only [h]))
        | (with_reducible refine G_cases (fun h => ?_) (fun h => ?_) <;> (try simp only [h]))
        | (with_reducible refine hK _ ?_; clear hK K)
        | (clear hK K; with_reducible refine hK _ ?_; clear hK K)
        | (clear hK K; clear hK K; with_reducible refine hK _ ?_; clear hK K)
        | (clear hK K; clear hK K; clear hK K; with_reducible refine hK _ ?_; clear hK K)
        | (with_reducible refine todo ?_; simp +decide only [go_sem, hd]))
      exact Ret_own (3, 0) rfl rfl (by simp; rfl)
end Go.Proofs

/-
  Pieces: Right, At.
-/

namespace Go.Proofs
open Go.PW

def pieceRight (e : Int) (p : Piece) : Bool := Span.right p.lo p.hi && rowRight p.row && !decide (p.lo < e)
def rightFrom : Int → List Piece → Bool
  | _, [] => true
  | e, p :: r => pieceRight e p && rightFrom p.hi r
def lastEnd : Int → List Piece → Int
  | e, [] => e
  | _, p :: r => lastEnd p.hi r
def right (ps : List Piece) : Bool := rightFrom 0 ps

theorem rightFrom_append (l m : List Piece) : ∀ e : Int, rightFrom e (l ++ m) = (rightFrom e l && rightFrom (lastEnd e l) m) := by
  induction l with
  | nil => intro e; rfl
  | cons p r ih => intro e; simp only [List.cons_append, rightFrom, lastEnd, ih, Bool.and_assoc]
theorem lastEnd_append (l m : List Piece) : ∀ e : Int, lastEnd e (l ++ m) = lastEnd (lastEnd e l) m := by
  induction l with
  | nil => intro e; rfl
  | cons p r ih => intro e; simp only [List.cons_append, lastEnd, ih]
theorem split_at {α : Type} {l : List α} {i : Nat} {x : α} (h : l[i]? = some x) : l = l.take i ++ x :: l.drop (i + 1) := by
  obtain ⟨hi, rfl⟩ := List.getElem?_eq_some_iff.1 h
  rw [List.getElem_cons_drop hi, List.take_append_drop]
theorem right_not {ps : List Piece} {i : Nat} {x : Piece} (h : ps[i]? = some x) (hf : pieceRight (lastEnd 0 (ps.take i)) x = false) : right ps = false := by
  rw [right, split_at h, rightFrom_append, rightFrom, hf]
  simp
theorem right_next {ps : List Piece} {i : Nat} {x : Piece} (h : ps[i]? = some x) (hI : right (ps.take i) = true) (hf : pieceRight (lastEnd 0 (ps.take i)) x = true) : right (ps.take (i + 1)) = true := by
  unfold right at hI ⊢
  rw [take_next h, rightFrom_append, hI, rightFrom, hf]
  rfl
theorem lastEnd_next {ps : List Piece} {i : Nat} {x : Piece} (h : ps[i]? = some x) : lastEnd 0 (ps.take (i + 1)) = x.hi := by
  rw [take_next h, lastEnd_append]
  rfl

set_option maxRecDepth 8000 in
set_option maxHeartbeats 1000000 in
theorem Try.kRight (ps : List Piece) (hn : ps.length ≤ 1048576) (hr : ∀ p ∈ ps, p.row.length ≤ 1048576) : PureOK Try.prog 39 [pD (encPieces ps)] (.one (dB (right ps))) := by
  refine Try.pure (md := []) Try.func39 rfl Try.call39 (by kernel_rfl) (by rfl) (by exact Nat.le_of_ble_eq_true rfl) ?_
  repeat' (first
    | with_reducible refine VC_seq fun K hK => ?_
    | with_reducible refine W_region ?_
    | with_reducible refine VC_block ?_
    | with_reducible refine VC_scope ?_
    | with_reducible refine VC_if ?_
    | with_reducible refine VC_skip ?_
    | with_reducible refine VC_exit ?_
    | with_reducible refine VC_ret ?_
    | (with_reducible refine G_not (fun h => ?_) (fun h => ?_) <;> (try simp only [h]))
    | (with_reducible refine G_cases (fun h => ?_) (fun h => ?_) <;> (try simp only [h]))
    | (with_reducible refine hK _ ?_; clear hK K)
    | (clear hK K; with_reducible refine hK _ ?_; clear hK K)
    | (clear hK K; clear hK K; with_reducible refine hK _ ?_; clear hK K)
    | (clear hK K; clear hK K; clear hK K; with_reducible refine hK _ ?_; clear hK K)
    | (with_reducible refine todo ?_; simp +decide only [go_sem]))
  refine VC_range ps.length (fun i => right (ps.take i) = true) (fun i => frame [(6, pD (encPieces ps)), (7, pD (.lit (.int .i64 ps.length))), (8, pD (.lit (.int .i64 i))), (3, pD (.lit (.int .i64 (lastEnd 0 (ps.take i)))))] [] []) rfl ?_ ?_
  · refine Weak_frame ?_ ?_ ?_ <;> simp +decide only [go_sem, lastEnd]
  · intro i hi hI
    rcases Nat.lt_or_ge i ps.length with hlt | hge
    · have hg := List.getElem?_eq_getElem hlt
      have hd := int_lt_true hlt
      have hw := int_next hlt (show ps.length ≤ 4294967296 by omega)
      generalize ps[i] = x at hg
      have hx : x.row.length ≤ 4294967296 := Nat.le_trans (hr x (List.mem_of_getElem? hg)) (by decide)
      have hnx := lastEnd_next hg
      have hnt := right_not hg
      have hrn := right_next hg hI
      repeat' (first
        | with_reducible refine VC_seq fun K hK => ?_
        | with_reducible refine W_region ?_
        | with_reducible refine VC_block ?_
        | with_reducible refine VC_scope ?_
        | with_reducible refine VC_if ?_
        | with_reducible refine VC_skip ?_
        | with_reducible refine VC_exit ?_
        | with_reducible refine VC_ret ?_
        | (with_reducible refine G_not (fun h => ?_) (fun h => ?_) <;> (try simp only [h]))
        | (with_reducible refine G_cases (fun h => ?_) (fun h => ?_) <;> (try simp only [h]))
        | refine C_pure (Try.spanRight x.lo x.hi) rfl rfl (fun _ => rfl) ?_
        | refine C_pure (Try.kRow x.row hx) rfl rfl (fun _ => rfl) ?_
        | (with_reducible refine hK _ ?_; clear hK K)
        | (clear hK K; with_reducible refine hK _ ?_; clear hK K)
        | (clear hK K; clear hK K; with_reducible refine hK _ ?_; clear hK K)
        | (clear hK K; clear hK K; clear hK K; with_reducible refine hK _ ?_; clear hK K)
        | (with_reducible refine todo ?_; simp +decide only [go_sem, hg, hd, hw]))
      all_goals first
        | (have hp : pieceRight (lastEnd 0 (ps.take i)) x = true := by simp +decide only [go_sem, pieceRight, *]
           refine Next_of hlt (hrn hp) (Weak_frame ?_ ?_ ?_) <;> simp +decide only [go_sem, hnx])
        | (have hp : pieceRight (lastEnd 0 (ps.take i)) x = false := by simp +decide only [go_sem, pieceRight, *]
           refine Ret_d rfl ?_
           simp +decide only [go_sem, hnt hp])
    · have hd := int_lt_false hge
      rw [List.take_of_length_le hge] at hI
      repeat' (first
        | with_reducible refine VC_seq fun K hK => ?_
        | with_reducible refine W_region ?_
        | with_reducible refine VC_block ?_
        | with_reducible refine VC_scope ?_
        | with_reducible refine VC_if ?_
        | with_reducible refine VC_skip ?_
        | with_reducible refine VC_exit ?_
        | with_reducible refine VC_ret ?_
        | (with_reducible refine G_not (fun h => ?_) (fun h => ?_) <;> (try simp only [h]))
        | (with_reducible refine G_cases (fun h => ?_) (fun h => ?_) <;> (try simp only [h]))
        | (with_reducible refine hK _ ?_; clear hK K)
        | (clear hK K; with_reducible refine hK _ ?_; clear hK K)
        | (clear hK K; clear hK K; with_reducible refine hK _ ?_; clear hK K)
        | (clear hK K; clear hK K; clear hK K; with_reducible refine hK _ ?_; clear hK K)
        | (with_reducible refine todo ?_; simp +decide only [go_sem, hd]))
      refine Ret_d rfl ?_
      simp +decide only [go_sem, hI]

def at' (ps : List Piece) (t : Int) : Option Row := (ps.find? fun p => Span.has p.lo p.hi t).map (·.row)

/-- What is told of a time. -/
def at_ (ps : List Piece) (t : Int) : Option Row := if right ps then at' ps t else none

def optRow (r : Option Row) : RV :=
  match r with
  | some r => .tup [.own 4 (r.map Val.enc), dB true]
  | none => .tup [.own 4 [], dB false]

theorem at_next {ps : List Piece} {i : Nat} {x : Piece} {t : Int} (h : ps[i]? = some x) (hI : at' (ps.take i) t = none) (hf : Span.has x.lo x.hi t = false) : at' (ps.take (i + 1)) t = none := by
  unfold at' at hI ⊢
  rw [take_next h, List.find?_append]
  rw [Option.map_eq_none_iff] at hI
  simp [hI, hf]
theorem at_found {ps : List Piece} {i : Nat} {x : Piece} {t : Int} (h : ps[i]? = some x) (hI : at' (ps.take i) t = none) (hf : Span.has x.lo x.hi t = true) : at' ps t = some x.row := by
  unfold at' at hI ⊢
  rw [Option.map_eq_none_iff] at hI
  rw [split_at h, List.find?_append, hI]
  simp [hf]

end Go.Proofs
