/-
  From a contract to a law's statement: the row's step for all laws; what the types of values, spans, pieces and calls read as.
-/
import Derived.Test.YtgpmdeembgohdaaRows
import Derived.Test.YtgpmdeembgohdaaPwY
import Derived.Test.YtgpmdeembgohdaaPwLa
namespace Go.PW

theorem law_lifted {C : Checked} {os : Os} {f : FuncId} {fn : Func} {s : ChangeSpec} {conds : List PathCond} {tb : TypeId} {H : Type} {enc : TypeId × Value → H}
    (own : ownKnob C.prog.godebug = none) (started : os.Started) (noInit : C.prog.inits.idxOf? f = none) (hfn : C.prog.funcs[f]? = some fn)
    (witness : ∃ (w : World) (tape : Tape) (i : Input), w.os = os ∧ (w.forCall tape i).Shaped C.prog ∧ i.vars = [] ∧ Input.okWide C.prog (w.forCall tape i) .any w.heap.size f i ∧
      s.pre6 enc C.prog fn conds false (w.forCall tape i).memory i.args ∧ Assume.holds {} C.prog (lone (Frame.enter C.prog f i.args .normal) [] (w.forCall tape i)))
    (hv : s.vars = []) (hl : laidOutB C.prog = true) (hr : ∀ t ∈ fn.params.toList, C.prog.readableRec t = true ∧ t < C.prog.types.size) (hrt : fn.resultTypes = #[tb]) (htb : C.prog.underlying tb = some .bool)
    (hs : ∀ ds : List (DataW H), ds.length = fn.params.size → s.fn H ds = { results := [.lit (.bool true)], args := ds })
    (hc : ∀ (W : World) (base : Nat) (args : Array Value), args.size = fn.params.size → (∀ (j : Nat) (t : TypeId), fn.params[j]? = some t → ∃ v d p, args[j]? = some v ∧ Value.okWide C.prog W .any base t v ∧ DataW.Trod enc C.prog W 0 (fun _ => true) true t v d p) →
      Calls C.prog f args W fun e W' => e = .returned (.bool true) ∧ RowKit.Below W.heap.size W W') :
    ReturnsInHanded {} C os f .any (s.pre6 enc C.prog fn conds false) (s.post enc C.prog fn false true false false) := by
  refine returnsInHanded_of_change own started noInit hfn witness ?_
  intro W base args ds gs before hval hW _ _
  have hWk := hW
  obtain ⟨p, q, hA, hV, _, _, _⟩ := hW
  obtain ⟨k1, k2, k3⟩ := trodAll_get hA
  have hsz : args.size = fn.params.size := by simpa using k1
  refine (hc W base args hsz (fun j t hj => ?_)).mono fun e W' hq => ?_
  · obtain ⟨v, d, p, h1, h2⟩ := k3 j t (by simpa using hj)
    have h1' : args[j]? = some v := by simpa using h1
    exact ⟨v, d, p, h1', hval j t v hj h1', h2⟩
  · obtain ⟨rfl, hb⟩ := hq
    exact ⟨_, rfl, post_law hWk hv hl hr (hs ds (by simpa using k2)) hrt htb hb⟩

theorem args_of {g : Gh} {A : AMap} {xs : List PV} {args : Array Value} (hn : args.size = xs.length) (h : ∀ (k : Nat) (x : PV), xs[k]? = some x → ∃ v, args[k]? = some v ∧ PRep g A x v) : ArgsRep g A xs args.toList :=
  ⟨by simpa using hn, fun k x hk => by obtain ⟨v, h1, h2⟩ := h k x hk; exact ⟨v, by simpa using h1, h2⟩⟩
end Go.PW
namespace Go.Proofs
open Go.PW

def Val.ok (v : Val) : Prop := (Lit.int .i64 v.kind).wf = true ∧ (Lit.int .i64 v.num).wf = true ∧ (Lit.int .u64 v.bits).wf = true ∧ v.str.size ≤ maxLen
def Sp.ok (s : Sp) : Prop := (Lit.int .i64 s.1).wf = true ∧ (Lit.int .i64 s.2).wf = true
def Row.ok' (r : Row) : Prop := ∀ v ∈ r, Val.ok v
def Piece.ok (p : Piece) : Prop := ((Lit.int .i64 p.lo).wf = true ∧ (Lit.int .i64 p.hi).wf = true) ∧ Row.ok' p.row
def OpP.ok (o : OpP) : Prop := Sp.ok o.s ∧ Row.ok' o.row

theorem Try.own : ownKnob Try.prog.godebug = none := by kernel_rfl
theorem Try.laidOut : laidOutB Try.prog = true := by kernel_rfl

theorem Try.rVal (w : World) : Reads Try.prog w 64 Val.ok Val.enc :=
  reads_map (reads_struct Try.underlying64 rfl (by kernel_rfl) (readsF_cons rfl Try.cl3 (reads_int Try.underlying3) (readsF_cons rfl Try.cl3 (reads_int Try.underlying3) (readsF_cons rfl Try.cl62 (reads_int Try.underlying62)
    (readsF_cons rfl Try.cl9 (reads_string Try.underlying9) readsF_nil))))) (fun x => (⟨x.1, x.2.1, x.2.2.1, x.2.2.2.1⟩ : Val)) (fun _ h => ⟨⟨h.1, h.2.1, h.2.2.1, h.2.2.2.1⟩, rfl⟩)
theorem Try.rSp (w : World) : Reads Try.prog w 24 Sp.ok Sp.enc :=
  reads_map (reads_struct Try.underlying24 rfl (by kernel_rfl) (readsF_cons rfl Try.cl3 (reads_int Try.underlying3) (readsF_cons rfl Try.cl3 (reads_int Try.underlying3) readsF_nil))) (fun x => ((x.1, x.2.1) : Sp)) (fun _ h => ⟨⟨h.1, h.2.1⟩, rfl⟩)
theorem Try.rRow (w : World) : Reads Try.prog w 25 Row.ok' (fun r : Row => [encRow r]) :=
  reads_slice Try.underlying25 Try.cl64 (by decide) (fun _ => rfl) (Try.rVal w)
theorem Try.rPiece (w : World) : Reads Try.prog w 56 Piece.ok Piece.enc :=
  reads_map (reads_struct Try.underlying56 rfl (by kernel_rfl) (readsF_cons rfl Try.cl24 (Try.rSp w) (readsF_cons rfl Try.cl25 (Try.rRow w) readsF_nil))) (fun x => (⟨x.1.1, x.1.2, x.2.1⟩ : Piece)) (fun _ h => ⟨⟨h.1, h.2.1⟩, rfl⟩)
theorem Try.rPieces (w : World) : Reads Try.prog w 22 (fun l : List Piece => ∀ p ∈ l, Piece.ok p) (fun l => [encPieces l]) :=
  reads_slice Try.underlying22 Try.cl56 (by decide) (fun _ => rfl) (Try.rPiece w)
theorem Try.rOp (w : World) : Reads Try.prog w 27 OpP.ok OpP.enc :=
  reads_map (reads_struct Try.underlying27 rfl (by kernel_rfl) (readsF_cons rfl Try.cl4 (reads_bool Try.underlying4) (readsF_cons rfl Try.cl24 (Try.rSp w) (readsF_cons rfl Try.cl25 (Try.rRow w) readsF_nil)))) (fun x => (⟨x.1, x.2.1, x.2.2.1⟩ : OpP)) (fun _ h => ⟨⟨h.2.1, h.2.2.1⟩, rfl⟩)
theorem Try.rOps (w : World) : Reads Try.prog w 50 (fun l : List OpP => ∀ o ∈ l, OpP.ok o) (fun l => [encOps l]) :=
  reads_slice Try.underlying50 Try.cl27 (by decide) (fun _ => rfl) (Try.rOp w)
end Go.Proofs
