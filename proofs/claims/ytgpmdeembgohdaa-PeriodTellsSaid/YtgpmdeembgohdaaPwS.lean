/-
  The abstract machine: an environment in which what is shown of a function may be used; results; more rules for the reckoning.
-/
import Derived.Test.YtgpmdeembgohdaaPwR
namespace Go.PW

/-- All that is shown may be used. -/
noncomputable def envOf (P : Program) (effs : List FuncId) (off : Nat) (md st : List Nat) : Env := ⟨P, PureOK P, EffOK P, effs, off, md, st⟩

theorem envOf_ok {P : Program} {effs : List FuncId} {off : Nat} {md st : List Nat} (h : P.follows .mixedOrders = true) : EnvOK (envOf P effs off md st) := ⟨h, fun _ _ _ h => h, fun _ _ _ _ _ _ _ _ h => h⟩

section env
variable {P : Program} {effs : List FuncId} {off : Nat} {md st : List Nat}
@[go_sem] theorem envP : (envOf P effs off md st).P = P := rfl
@[go_sem] theorem envEff : (envOf P effs off md st).effs = effs := rfl
@[go_sem] theorem envOff : (envOf P effs off md st).off = off := rfl
@[go_sem] theorem envMd : (envOf P effs off md st).md = md := rfl
@[go_sem] theorem envSt : (envOf P effs off md st).st = st := rfl

/-- A call of a function that was shown. -/
theorem call_pure {n : Nat} {f : FuncId} {H : HMap} {A : AMap} {args args' : List PV} {rv : RV} {KK : PV → HMap → AMap → Prop} (h : PureOK P f args' rv) (ha : args.map PV.frz = args') (he : effs.contains f = false) (hA : ∀ k, A (off + n, k) = none)
    (hK : KK (rv.pv (off + n)) H (RT.install (off + n) A 0 rv.list)) : callV (envOf P effs off md st) n f H A args KK := S_call' he (by rw [ha]; exact h) hA hK
end env

section ret
variable {P : Program} {fn : Func} {S : St} {t t' : Nat}
theorem Apart_one {k : Option Tok} : Apart [k] := fun i j κ hi hj => by
  cases i with
  | zero => cases j with
    | zero => rfl
    | succ j => simp at hj
  | succ i => simp at hi

theorem Ret_one {r : RT} (k : Option Tok) (hr : fn.results.toList = [.tmp t]) (e : RetT S.A k r (S.ρ t)) : Ret P fn (.one r) S :=
  ⟨True.intro, [k], Apart_one, by rw [hr]; exact ⟨S.ρ t, rfl, e, rfl⟩⟩

theorem Ret_d {x : D} (hr : fn.results.toList = [.tmp t]) (e : (S.ρ t).frz = .c (.d x)) : Ret P fn (.one (.d x)) S := Ret_one none hr (.inl e)
theorem Ret_mt {sz : Nat} {els : List (List D)} (κ : Tok) (hr : fn.results.toList = [.tmp t]) (hne : els ≠ []) (e : S.ρ t = .c (.mt κ sz els.length)) (hA : S.A κ = some (.mu sz els)) : Ret P fn (.one (.d (.sl els))) S := Ret_one (some κ) hr (.inr ⟨κ, sz, els, hne, rfl, rfl, e, hA⟩)
theorem Ret_agg {cs : List D} (hr : fn.results.toList = [.tmp t]) (e : (S.ρ t).frz = .agg (cs.map .d)) : Ret P fn (.one (.agg cs)) S := Ret_one none hr e
theorem Ret_own {sz : Nat} {els : List (List D)} (κ : Tok) (hr : fn.results.toList = [.tmp t]) (e : S.ρ t = .c (.own κ els)) (hA : S.A κ = some (.co sz els.length)) : Ret P fn (.one (.own sz els)) S := Ret_one (some κ) hr (.inl ⟨κ, rfl, e, hA⟩)
theorem Ret_full {sz : Nat} {els : List (List D)} (hr : fn.results.toList = [.tmp t]) (e : S.ρ t = .c (.full els)) : Ret P fn (.one (.own sz els)) S := Ret_one none hr (.inr e)

theorem Ret_two {r r' : RT} (k : Option Tok) (hr : fn.results.toList = [.tmp t, .tmp t']) (e : RetT S.A k r (S.ρ t)) (e' : RetT S.A none r' (S.ρ t')) : Ret P fn (.tup [r, r']) S := by
  refine ⟨by show [r, r'].length ≠ 1; simp, [k, none], fun i j κ hi hj => ?_, by rw [hr]; exact ⟨S.ρ t, rfl, e, S.ρ t', rfl, e', rfl⟩⟩
  match i, j with
  | 0, 0 => rfl
  | 1, _ => simp at hi
  | 0, 1 => simp at hj
  | 0, j + 2 => simp at hj
  | i + 2, _ => simp at hi
end ret

theorem GuardP_not {b : Bool} {X Y : Prop} (h : b = true → Y) (h' : b = false → X) : GuardP (some (!b)) X Y := by cases b with | true => exact h rfl | false => exact h' rfl

@[go_sem] theorem noH_eq (n : Nat) : noH n = none := rfl
@[go_sem] theorem noA_eq (κ : Tok) : noA κ = none := rfl
theorem updA_eq {β : Type} (f : Tok → β) (a x : Tok) (b : β) : upd f a b x = if x = a then b else f x := rfl
theorem RunV_frame : True := True.intro

attribute [go_sem] Option.bind_some Option.bind_none Option.map_some Option.map_none List.all_cons List.all_nil Bool.and_self Bool.and_true Bool.true_and Bool.and_false Bool.false_and Bool.or_true Bool.true_or Bool.or_false Bool.false_or
  Bool.not_true Bool.not_false if_true if_false List.getElem?_toArray List.getElem?_cons_zero List.getElem?_cons_succ List.getElem?_nil List.size_toArray
  List.length_cons List.length_nil List.take_succ_cons List.take_zero List.take_nil List.drop_succ_cons List.drop_zero List.drop_nil List.nil_append List.cons_append List.append_nil
  true_and and_true and_self beq_self_eq_true beq_true beq_false Bool.not_not List.map_cons List.map_nil List.toList_toArray Nat.zero_add Nat.add_zero Option.getD_some Option.getD_none
  updA_eq Prod.mk.injEq List.foldr_cons List.foldr_nil Option.isNone_none Option.isNone_some Option.isSome_none Option.isSome_some Bool.false_eq_true reduceCtorEq and_false false_and
  List.contains_nil List.contains_cons List.isEmpty_nil Int.zero_le_ofNat

end Go.PW
