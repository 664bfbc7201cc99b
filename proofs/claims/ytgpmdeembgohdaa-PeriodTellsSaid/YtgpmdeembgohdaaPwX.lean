/-
  Functions of Go's library that the model answers itself: the bits of a float.
-/
import Derived.Test.YtgpmdeembgohdaaPwV
namespace Go.Proofs
open Go.PW

theorem run_ext {P : Program} {f : FuncId} {fn : Func} {e : Array Value → Sem Value} (hf : P.funcs[f]? = some fn) (hb : fn.body = none) (hn : (fn.name == "runtime.NumGoroutine") = false) (h0 : Extern.findNext fn = none) (h1 : Extern.find fn = some e)
    (vals : Array Value) {v : Value} (hv : e vals = .pure v) (w : World) : ∃ w', (callFunc f vals).run P w = .ok (.value v) w' ∧ w'.heap = w.heap ∧ w'.os = w.os ∧ w'.tape = w.tape ∧ w'.output = w.output := by
  unfold callFunc
  simp only [Sem.run_bind, run_program, Result.andThen_ok, hf, hn, hb, h0, h1, Option.isNone_none, if_true, Bool.false_eq_true, if_false, hv]
  exact ⟨_, rfl, rfl, rfl, rfl, rfl⟩

theorem ext_ok {P : Program} {f : FuncId} {fn : Func} {e : Array Value → Sem Value} (hf : P.funcs[f]? = some fn) (hb : fn.body = none) (hn : (fn.name == "runtime.NumGoroutine") = false) (h0 : Extern.findNext fn = none) (h1 : Extern.find fn = some e)
    {x v : Value} (hv : e #[x] = .pure v) (hv1 : v.oneCell' = true) : PureOK P f [pD (.lit x)] (.one (.d (.lit v))) := by
  refine ⟨rfl, fun C w vals hC har => .inr ?_⟩
  obtain ⟨hl, hr⟩ := har
  obtain ⟨u, hu, hp⟩ := hr 0 _ rfl
  have hp : DRep C (.lit x) u := hp
  cases hp
  have hvals : vals = #[x] := by
    apply Array.ext'
    match h : vals.toList, hl with
    | [a], _ => rw [h] at hu; simp at hu; rw [hu]
  subst hvals
  obtain ⟨w', h1, h2, h3, h4, h5⟩ := run_ext hf hb hn h0 h1 _ hv w
  refine ⟨v, w', h1, gOnly C, ?_, ?_, .same h2 h3 h4 h5⟩
  · exact DRep.lit v hv1
  · exact MRel.same ⟨hC, fun id b hb => (by cases hb), fun κ ar hA => (by cases hA), fun b o ho => (by cases ho)⟩ h2

theorem Try.kFrombits (n : Int) : PureOK Try.prog 49 [pD (.lit (.int .u64 n))] (.one (.d (.lit (.float .f64 n.toNat)))) :=
  ext_ok Try.func49 rfl (by kernel_rfl) (by kernel_rfl) (e := Extern.MathFloatBits.float64frombits) (by kernel_rfl) rfl rfl

theorem Try.kBits (n : Nat) : PureOK Try.prog 52 [pD (.lit (.float .f64 n))] (.one (.d (.lit (.int .u64 n)))) :=
  ext_ok Try.func52 rfl (by kernel_rfl) (by kernel_rfl) (e := Extern.MathFloatBits.float64bits) (by kernel_rfl) rfl rfl
end Go.Proofs
