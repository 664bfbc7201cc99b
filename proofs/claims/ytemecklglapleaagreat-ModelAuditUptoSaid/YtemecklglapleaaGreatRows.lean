/-
  No cell of these rows narrows 'for every input' (looked for: loops, veiled, ifaces, maps, wideKeys, modest, calm, conditions, laid).
  DERIVED. THE GIVEN ROWS OF THIS SEAT. 3 by the template 'for every input the law returns true; each argument reads behind the call as it read before'; 0 by the template 'total and deterministic' (their statements: YtemecklglapleaaGreatTotals.lean).
  GIVEN WITH THE SEED: the statements are not yours to turn. If you find one false, say at which input.
  Laid BY PROGRAM, IN A SANDBOX (cutbox-rows.mjs): the forced cells as the released guide's own fill.sh prints them over the translation da17170e5f54a030… (all of the seat's roots in one cut). By AI agents, Wed Nov 11 2026. No macro, syntax, notation, axiom, sorry.
-/
import Derived.Test.YtemecklglapleaaGreatChecked
import GoSem.Claim
import GoSem.ClaimJoined
import GoSem.ClaimMapViews
import Derived.JoinedTies
import Derived.KernelRfl
namespace Go.Proofs.YtemecklglapleaaGreat
/- THE CELL 'sum', in the pinned program and in every row, IS THE sha256 OF THE DUMP (.gsa) THAT YtemecklglapleaaGreatProg.lean LOADS. Nothing in Lean hashes anything: it is a label: what it is worth is what the hold of that sum in a sandbox is worth. -/
noncomputable def Tryz.pinned : Pinned := { name := "ytemecklglapleaagreat", sum := "da17170e5f54a030c7ca17432bcf6f47bfd530330f80d120d20e4ce6d36745b3", checked := Tryz.checked }
namespace Rows
def none {H : Type} : Left H := { results := [], args := [] }

/-- 'memoirlaw21.ModelStates': WHATEVER THE INPUT: true; the input reads as it did. -/
def modelStatesSpec : ChangeSpec := { name := "modelStates", fn := fun _ => fun
  | [d1, d2, d3] => { results := [.lit (.bool true)], args := [d1, d2, d3] }
  | _ => none }
def modelStatesRow : OpenClaim := { program := "ytemecklglapleaagreat", sum := "da17170e5f54a030c7ca17432bcf6f47bfd530330f80d120d20e4ce6d36745b3", func := "memoir/memoirlaw21.ModelStates", spec := "modelStates", inPlace := ["math.Float64frombits", "math.Float64bits"], unfollowed := true, recurses := true, apart := false }
def ModelStatesSaid : Prop := modelStatesRow.holds Tryz.pinned (OpenSpec.ofChange modelStatesSpec)

/-- ITS FALSE NEIGHBOUR: 'it returns false'. Refute it at one input. -/
def modelStatesWrong : ChangeSpec := { name := "modelStates", fn := fun _ => fun
  | [d1, d2, d3] => { results := [.lit (.bool false)], args := [d1, d2, d3] }
  | _ => none }
def ModelStatesWrongFalsely : Prop := modelStatesRow.holds Tryz.pinned (OpenSpec.ofChange modelStatesWrong)

/-- 'memoirlaw21.ModelAudit': WHATEVER THE INPUT: true; the input reads as it did. -/
def modelAuditSpec : ChangeSpec := { name := "modelAudit", fn := fun _ => fun
  | [d1, d2, d3] => { results := [.lit (.bool true)], args := [d1, d2, d3] }
  | _ => none }
def modelAuditRow : OpenClaim := { program := "ytemecklglapleaagreat", sum := "da17170e5f54a030c7ca17432bcf6f47bfd530330f80d120d20e4ce6d36745b3", func := "memoir/memoirlaw21.ModelAudit", spec := "modelAudit", inPlace := ["math.Float64frombits", "math.Float64bits"], unfollowed := true, recurses := true, apart := false }
def ModelAuditSaid : Prop := modelAuditRow.holds Tryz.pinned (OpenSpec.ofChange modelAuditSpec)

/-- ITS FALSE NEIGHBOUR: 'it returns false'. Refute it at one input. -/
def modelAuditWrong : ChangeSpec := { name := "modelAudit", fn := fun _ => fun
  | [d1, d2, d3] => { results := [.lit (.bool false)], args := [d1, d2, d3] }
  | _ => none }
def ModelAuditWrongFalsely : Prop := modelAuditRow.holds Tryz.pinned (OpenSpec.ofChange modelAuditWrong)

/-- 'memoirlaw21.ModelCuts': WHATEVER THE INPUT: true; the input reads as it did. -/
def modelCutsSpec : ChangeSpec := { name := "modelCuts", fn := fun _ => fun
  | [d1, d2, d3] => { results := [.lit (.bool true)], args := [d1, d2, d3] }
  | _ => none }
def modelCutsRow : OpenClaim := { program := "ytemecklglapleaagreat", sum := "da17170e5f54a030c7ca17432bcf6f47bfd530330f80d120d20e4ce6d36745b3", func := "memoir/memoirlaw21.ModelCuts", spec := "modelCuts", inPlace := ["math.Float64frombits", "math.Float64bits"], unfollowed := true, recurses := true, apart := false }
def ModelCutsSaid : Prop := modelCutsRow.holds Tryz.pinned (OpenSpec.ofChange modelCutsSpec)

/-- ITS FALSE NEIGHBOUR: 'it returns false'. Refute it at one input. -/
def modelCutsWrong : ChangeSpec := { name := "modelCuts", fn := fun _ => fun
  | [d1, d2, d3] => { results := [.lit (.bool false)], args := [d1, d2, d3] }
  | _ => none }
def ModelCutsWrongFalsely : Prop := modelCutsRow.holds Tryz.pinned (OpenSpec.ofChange modelCutsWrong)

/- THE SECOND FORM. 'bulk': how many values and letters a reading holds, each counted each time it is reached (what is shared counts as often as it is met; a slice's spare places count too). A statement '..UptoSaid' is the law's where the arguments, and the package variables that the reading takes, are together of bulk at most 1048576: NARROWER than '..Said'. Prove '..Said' where nothing that the law and all that it calls make is longer than what came in: it says more and counts as full. Else prove '..UptoSaid'. A law counts once. -/
mutual
def uptoBulk {H : Type} : DataW H → Nat
  | .lit (.string bytes) => bytes.length + 1
  | .lit _ => 1
  | .nil => 1
  | .ptr d => uptoBulk d + 1
  | .slice elems spare => uptoBulkAll elems + uptoBulkAll spare + 1
  | .agg parts => uptoBulkAll parts + 1
  | .iface _ d => uptoBulk d + 1
  | .map entries => uptoBulkEntries entries + 1
  | .held _ => 1
def uptoBulkAll {H : Type} : List (DataW H) → Nat
  | [] => 0
  | d :: r => uptoBulk d + uptoBulkAll r
def uptoBulkEntries {H : Type} : List (Lit × DataW H) → Nat
  | [] => 0
  | x :: r => uptoBulkEntry x + uptoBulkEntries r
def uptoBulkEntry {H : Type} : Lit × DataW H → Nat
  | (.string bytes, d) => bytes.length + uptoBulk d + 1
  | (_, d) => uptoBulk d + 1
 end
def uptoSmall : (H : Type) → List (DataW H) → Bool := fun _ ds => decide (uptoBulkAll ds ≤ 1048576)
def OpenSpec.upto (s : _root_.Go.ChangeSpec) : _root_.Go.OpenSpec := { _root_.Go.OpenSpec.ofChange s with cond := some uptoSmall }

/-- 'memoirlaw21.ModelStates', WHERE WHAT IT READS IS OF BULK AT MOST 1048576: true; the input reads as it did. -/
def modelStatesUptoRow : OpenClaim := { program := "ytemecklglapleaagreat", sum := "da17170e5f54a030c7ca17432bcf6f47bfd530330f80d120d20e4ce6d36745b3", func := "memoir/memoirlaw21.ModelStates", spec := "modelStates", inPlace := ["math.Float64frombits", "math.Float64bits"], unfollowed := true, recurses := true, apart := false, narrowed := true }
def ModelStatesUptoSaid : Prop := modelStatesUptoRow.holds Tryz.pinned (OpenSpec.upto modelStatesSpec)

/-- 'memoirlaw21.ModelAudit', WHERE WHAT IT READS IS OF BULK AT MOST 1048576: true; the input reads as it did. -/
def modelAuditUptoRow : OpenClaim := { program := "ytemecklglapleaagreat", sum := "da17170e5f54a030c7ca17432bcf6f47bfd530330f80d120d20e4ce6d36745b3", func := "memoir/memoirlaw21.ModelAudit", spec := "modelAudit", inPlace := ["math.Float64frombits", "math.Float64bits"], unfollowed := true, recurses := true, apart := false, narrowed := true }
def ModelAuditUptoSaid : Prop := modelAuditUptoRow.holds Tryz.pinned (OpenSpec.upto modelAuditSpec)

/-- 'memoirlaw21.ModelCuts', WHERE WHAT IT READS IS OF BULK AT MOST 1048576: true; the input reads as it did. -/
def modelCutsUptoRow : OpenClaim := { program := "ytemecklglapleaagreat", sum := "da17170e5f54a030c7ca17432bcf6f47bfd530330f80d120d20e4ce6d36745b3", func := "memoir/memoirlaw21.ModelCuts", spec := "modelCuts", inPlace := ["math.Float64frombits", "math.Float64bits"], unfollowed := true, recurses := true, apart := false, narrowed := true }
def ModelCutsUptoSaid : Prop := modelCutsUptoRow.holds Tryz.pinned (OpenSpec.upto modelCutsSpec)

end Rows
end Go.Proofs.YtemecklglapleaaGreat
