/-
  No cell of these rows narrows 'for every input' (looked for: loops, veiled, ifaces, maps, wideKeys, modest, calm, conditions, laid).
  DERIVED. THE GIVEN ROWS OF THIS SEAT. 7 by the template 'for every input the law returns true; each argument reads behind the call as it read before'; 0 by the template 'total and deterministic' (their statements: YtgpmdeembgohdaaTotals.lean).
  GIVEN WITH THE SEED: the statements are not yours to turn. If you find one false, say at which input.
  Laid BY PROGRAM, IN A SANDBOX (cutbox-rows.mjs): the forced cells as the released guide's own fill.sh prints them over the translation e301a9823ad48306… (all of the seat's roots in one cut). By AI agents, Wed Nov 11 2026. No macro, syntax, notation, axiom, sorry.
-/
import Derived.Test.YtgpmdeembgohdaaChecked
import GoSem.Claim
import GoSem.ClaimJoined
import GoSem.ClaimMapViews
import Derived.JoinedTies
import Derived.KernelRfl
namespace Go.Proofs.Ytgpmdeembgohdaa
/- THE CELL 'sum', in the pinned program and in every row, IS THE sha256 OF THE DUMP (.gsa) THAT YtgpmdeembgohdaaProg.lean LOADS. Nothing in Lean hashes anything: it is a label: what it is worth is what the hold of that sum in a sandbox is worth. -/
noncomputable def Try.pinned : Pinned := { name := "ytgpmdeembgohdaa", sum := "e301a9823ad483065ed2449fa818505f8f8b5903a1b081ec01a99b32b92d701b", checked := Try.checked }
namespace Rows
def none {H : Type} : Left H := { results := [], args := [] }

/-- 'memoirlaw12.PeriodTells': WHATEVER THE INPUT: true; the input reads as it did. -/
def periodTellsSpec : ChangeSpec := { name := "periodTells", fn := fun _ => fun
  | [d1, d2, d3] => { results := [.lit (.bool true)], args := [d1, d2, d3] }
  | _ => none }
def periodTellsRow : OpenClaim := { program := "ytgpmdeembgohdaa", sum := "e301a9823ad483065ed2449fa818505f8f8b5903a1b081ec01a99b32b92d701b", func := "memoir/memoirlaw12.PeriodTells", spec := "periodTells", inPlace := ["math.Float64frombits", "math.Float64bits"], unfollowed := true, recurses := true, apart := false }
def PeriodTellsSaid : Prop := periodTellsRow.holds Try.pinned (OpenSpec.ofChange periodTellsSpec)

/-- ITS FALSE NEIGHBOUR: 'it returns false'. Refute it at one input. -/
def periodTellsWrong : ChangeSpec := { name := "periodTells", fn := fun _ => fun
  | [d1, d2, d3] => { results := [.lit (.bool false)], args := [d1, d2, d3] }
  | _ => none }
def PeriodTellsWrongFalsely : Prop := periodTellsRow.holds Try.pinned (OpenSpec.ofChange periodTellsWrong)

/-- 'memoirlaw12.PeriodDiffs': WHATEVER THE INPUT: true; the input reads as it did. -/
def periodDiffsSpec : ChangeSpec := { name := "periodDiffs", fn := fun _ => fun
  | [d1, d2] => { results := [.lit (.bool true)], args := [d1, d2] }
  | _ => none }
def periodDiffsRow : OpenClaim := { program := "ytgpmdeembgohdaa", sum := "e301a9823ad483065ed2449fa818505f8f8b5903a1b081ec01a99b32b92d701b", func := "memoir/memoirlaw12.PeriodDiffs", spec := "periodDiffs", inPlace := ["math.Float64frombits", "math.Float64bits"], unfollowed := true, recurses := true, apart := false }
def PeriodDiffsSaid : Prop := periodDiffsRow.holds Try.pinned (OpenSpec.ofChange periodDiffsSpec)

/-- ITS FALSE NEIGHBOUR: 'it returns false'. Refute it at one input. -/
def periodDiffsWrong : ChangeSpec := { name := "periodDiffs", fn := fun _ => fun
  | [d1, d2] => { results := [.lit (.bool false)], args := [d1, d2] }
  | _ => none }
def PeriodDiffsWrongFalsely : Prop := periodDiffsRow.holds Try.pinned (OpenSpec.ofChange periodDiffsWrong)

/-- 'memoirlaw12.PeriodPuts': WHATEVER THE INPUT: true; the input reads as it did. -/
def periodPutsSpec : ChangeSpec := { name := "periodPuts", fn := fun _ => fun
  | [d1, d2] => { results := [.lit (.bool true)], args := [d1, d2] }
  | _ => none }
def periodPutsRow : OpenClaim := { program := "ytgpmdeembgohdaa", sum := "e301a9823ad483065ed2449fa818505f8f8b5903a1b081ec01a99b32b92d701b", func := "memoir/memoirlaw12.PeriodPuts", spec := "periodPuts", inPlace := ["math.Float64frombits", "math.Float64bits"], unfollowed := true, recurses := true, apart := false }
def PeriodPutsSaid : Prop := periodPutsRow.holds Try.pinned (OpenSpec.ofChange periodPutsSpec)

/-- ITS FALSE NEIGHBOUR: 'it returns false'. Refute it at one input. -/
def periodPutsWrong : ChangeSpec := { name := "periodPuts", fn := fun _ => fun
  | [d1, d2] => { results := [.lit (.bool false)], args := [d1, d2] }
  | _ => none }
def PeriodPutsWrongFalsely : Prop := periodPutsRow.holds Try.pinned (OpenSpec.ofChange periodPutsWrong)

/-- 'memoirlaw12.PeriodFew': WHATEVER THE INPUT: true; the input reads as it did. -/
def periodFewSpec : ChangeSpec := { name := "periodFew", fn := fun _ => fun
  | [d1, d2] => { results := [.lit (.bool true)], args := [d1, d2] }
  | _ => none }
def periodFewRow : OpenClaim := { program := "ytgpmdeembgohdaa", sum := "e301a9823ad483065ed2449fa818505f8f8b5903a1b081ec01a99b32b92d701b", func := "memoir/memoirlaw12.PeriodFew", spec := "periodFew", inPlace := ["math.Float64frombits", "math.Float64bits"], unfollowed := true, recurses := true, apart := false }
def PeriodFewSaid : Prop := periodFewRow.holds Try.pinned (OpenSpec.ofChange periodFewSpec)

/-- ITS FALSE NEIGHBOUR: 'it returns false'. Refute it at one input. -/
def periodFewWrong : ChangeSpec := { name := "periodFew", fn := fun _ => fun
  | [d1, d2] => { results := [.lit (.bool false)], args := [d1, d2] }
  | _ => none }
def PeriodFewWrongFalsely : Prop := periodFewRow.holds Try.pinned (OpenSpec.ofChange periodFewWrong)

/-- 'memoirlaw12.PeriodGoes': WHATEVER THE INPUT: true; the input reads as it did. -/
def periodGoesSpec : ChangeSpec := { name := "periodGoes", fn := fun _ => fun
  | [d1, d2] => { results := [.lit (.bool true)], args := [d1, d2] }
  | _ => none }
def periodGoesRow : OpenClaim := { program := "ytgpmdeembgohdaa", sum := "e301a9823ad483065ed2449fa818505f8f8b5903a1b081ec01a99b32b92d701b", func := "memoir/memoirlaw12.PeriodGoes", spec := "periodGoes", inPlace := ["math.Float64frombits", "math.Float64bits"], unfollowed := true, recurses := true, apart := false }
def PeriodGoesSaid : Prop := periodGoesRow.holds Try.pinned (OpenSpec.ofChange periodGoesSpec)

/-- ITS FALSE NEIGHBOUR: 'it returns false'. Refute it at one input. -/
def periodGoesWrong : ChangeSpec := { name := "periodGoes", fn := fun _ => fun
  | [d1, d2] => { results := [.lit (.bool false)], args := [d1, d2] }
  | _ => none }
def PeriodGoesWrongFalsely : Prop := periodGoesRow.holds Try.pinned (OpenSpec.ofChange periodGoesWrong)

/-- 'memoirlaw12.PeriodAway': WHATEVER THE INPUT: true; the input reads as it did. -/
def periodAwaySpec : ChangeSpec := { name := "periodAway", fn := fun _ => fun
  | [d1, d2] => { results := [.lit (.bool true)], args := [d1, d2] }
  | _ => none }
def periodAwayRow : OpenClaim := { program := "ytgpmdeembgohdaa", sum := "e301a9823ad483065ed2449fa818505f8f8b5903a1b081ec01a99b32b92d701b", func := "memoir/memoirlaw12.PeriodAway", spec := "periodAway", inPlace := ["math.Float64frombits", "math.Float64bits"], unfollowed := true, recurses := true, apart := false }
def PeriodAwaySaid : Prop := periodAwayRow.holds Try.pinned (OpenSpec.ofChange periodAwaySpec)

/-- ITS FALSE NEIGHBOUR: 'it returns false'. Refute it at one input. -/
def periodAwayWrong : ChangeSpec := { name := "periodAway", fn := fun _ => fun
  | [d1, d2] => { results := [.lit (.bool false)], args := [d1, d2] }
  | _ => none }
def PeriodAwayWrongFalsely : Prop := periodAwayRow.holds Try.pinned (OpenSpec.ofChange periodAwayWrong)

/-- 'memoirlaw12.PeriodApart': WHATEVER THE INPUT: true; the input reads as it did. -/
def periodApartSpec : ChangeSpec := { name := "periodApart", fn := fun _ => fun
  | [d1, d2, d3] => { results := [.lit (.bool true)], args := [d1, d2, d3] }
  | _ => none }
def periodApartRow : OpenClaim := { program := "ytgpmdeembgohdaa", sum := "e301a9823ad483065ed2449fa818505f8f8b5903a1b081ec01a99b32b92d701b", func := "memoir/memoirlaw12.PeriodApart", spec := "periodApart", inPlace := ["math.Float64frombits", "math.Float64bits"], unfollowed := true, recurses := true, apart := false }
def PeriodApartSaid : Prop := periodApartRow.holds Try.pinned (OpenSpec.ofChange periodApartSpec)

/-- ITS FALSE NEIGHBOUR: 'it returns false'. Refute it at one input. -/
def periodApartWrong : ChangeSpec := { name := "periodApart", fn := fun _ => fun
  | [d1, d2, d3] => { results := [.lit (.bool false)], args := [d1, d2, d3] }
  | _ => none }
def PeriodApartWrongFalsely : Prop := periodApartRow.holds Try.pinned (OpenSpec.ofChange periodApartWrong)

/- THE SECOND FORM. 'bulk': how many values and letters a reading holds, each counted each time it is reached (what is shared counts as often as it is met; a slice's spare places count too). A statement '..UptoSaid' is the law's where the arguments, and the package variables that the reading takes, are together of bulk at most 1048576: NARROWER than '..Said'. Prove '..Said' where nothing that the law and all that it calls make is longer than what came in: it says more and counts as full. Else prove '..UptoSaid'. A law counts once. -/
mutual
def uptoBulk {H : Type} : DataW H → Nat
  | .lit (.string bytes) => bytes.length + 1
  | .lit _ => 1
  | .nil => 1
  | .ptr d => uptoBulk d + 1
  | .slice elems spare => uptoBulkAll elems + uptoBulkAll spare + 1
  | .agg parts => uptoBulkAll parts + 1
  | .iface _ d => uptoBulk d + 1
  | .map entries => uptoBulkEntries entries + 1
  | .held _ => 1
def uptoBulkAll {H : Type} : List (DataW H) → Nat
  | [] => 0
  | d :: r => uptoBulk d + uptoBulkAll r
def uptoBulkEntries {H : Type} : List (Lit × DataW H) → Nat
  | [] => 0
  | x :: r => uptoBulkEntry x + uptoBulkEntries r
def uptoBulkEntry {H : Type} : Lit × DataW H → Nat
  | (.string bytes, d) => bytes.length + uptoBulk d + 1
  | (_, d) => uptoBulk d + 1
 end
def uptoSmall : (H : Type) → List (DataW H) → Bool := fun _ ds => decide (uptoBulkAll ds ≤ 1048576)
def OpenSpec.upto (s : _root_.Go.ChangeSpec) : _root_.Go.OpenSpec := { _root_.Go.OpenSpec.ofChange s with cond := some uptoSmall }

/-- 'memoirlaw12.PeriodTells', WHERE WHAT IT READS IS OF BULK AT MOST 1048576: true; the input reads as it did. -/
def periodTellsUptoRow : OpenClaim := { program := "ytgpmdeembgohdaa", sum := "e301a9823ad483065ed2449fa818505f8f8b5903a1b081ec01a99b32b92d701b", func := "memoir/memoirlaw12.PeriodTells", spec := "periodTells", inPlace := ["math.Float64frombits", "math.Float64bits"], unfollowed := true, recurses := true, apart := false, narrowed := true }
def PeriodTellsUptoSaid : Prop := periodTellsUptoRow.holds Try.pinned (OpenSpec.upto periodTellsSpec)

/-- 'memoirlaw12.PeriodDiffs', WHERE WHAT IT READS IS OF BULK AT MOST 1048576: true; the input reads as it did. -/
def periodDiffsUptoRow : OpenClaim := { program := "ytgpmdeembgohdaa", sum := "e301a9823ad483065ed2449fa818505f8f8b5903a1b081ec01a99b32b92d701b", func := "memoir/memoirlaw12.PeriodDiffs", spec := "periodDiffs", inPlace := ["math.Float64frombits", "math.Float64bits"], unfollowed := true, recurses := true, apart := false, narrowed := true }
def PeriodDiffsUptoSaid : Prop := periodDiffsUptoRow.holds Try.pinned (OpenSpec.upto periodDiffsSpec)

/-- 'memoirlaw12.PeriodPuts', WHERE WHAT IT READS IS OF BULK AT MOST 1048576: true; the input reads as it did. -/
def periodPutsUptoRow : OpenClaim := { program := "ytgpmdeembgohdaa", sum := "e301a9823ad483065ed2449fa818505f8f8b5903a1b081ec01a99b32b92d701b", func := "memoir/memoirlaw12.PeriodPuts", spec := "periodPuts", inPlace := ["math.Float64frombits", "math.Float64bits"], unfollowed := true, recurses := true, apart := false, narrowed := true }
def PeriodPutsUptoSaid : Prop := periodPutsUptoRow.holds Try.pinned (OpenSpec.upto periodPutsSpec)

/-- 'memoirlaw12.PeriodFew', WHERE WHAT IT READS IS OF BULK AT MOST 1048576: true; the input reads as it did. -/
def periodFewUptoRow : OpenClaim := { program := "ytgpmdeembgohdaa", sum := "e301a9823ad483065ed2449fa818505f8f8b5903a1b081ec01a99b32b92d701b", func := "memoir/memoirlaw12.PeriodFew", spec := "periodFew", inPlace := ["math.Float64frombits", "math.Float64bits"], unfollowed := true, recurses := true, apart := false, narrowed := true }
def PeriodFewUptoSaid : Prop := periodFewUptoRow.holds Try.pinned (OpenSpec.upto periodFewSpec)

/-- 'memoirlaw12.PeriodGoes', WHERE WHAT IT READS IS OF BULK AT MOST 1048576: true; the input reads as it did. -/
def periodGoesUptoRow : OpenClaim := { program := "ytgpmdeembgohdaa", sum := "e301a9823ad483065ed2449fa818505f8f8b5903a1b081ec01a99b32b92d701b", func := "memoir/memoirlaw12.PeriodGoes", spec := "periodGoes", inPlace := ["math.Float64frombits", "math.Float64bits"], unfollowed := true, recurses := true, apart := false, narrowed := true }
def PeriodGoesUptoSaid : Prop := periodGoesUptoRow.holds Try.pinned (OpenSpec.upto periodGoesSpec)

/-- 'memoirlaw12.PeriodAway', WHERE WHAT IT READS IS OF BULK AT MOST 1048576: true; the input reads as it did. -/
def periodAwayUptoRow : OpenClaim := { program := "ytgpmdeembgohdaa", sum := "e301a9823ad483065ed2449fa818505f8f8b5903a1b081ec01a99b32b92d701b", func := "memoir/memoirlaw12.PeriodAway", spec := "periodAway", inPlace := ["math.Float64frombits", "math.Float64bits"], unfollowed := true, recurses := true, apart := false, narrowed := true }
def PeriodAwayUptoSaid : Prop := periodAwayUptoRow.holds Try.pinned (OpenSpec.upto periodAwaySpec)

/-- 'memoirlaw12.PeriodApart', WHERE WHAT IT READS IS OF BULK AT MOST 1048576: true; the input reads as it did. -/
def periodApartUptoRow : OpenClaim := { program := "ytgpmdeembgohdaa", sum := "e301a9823ad483065ed2449fa818505f8f8b5903a1b081ec01a99b32b92d701b", func := "memoir/memoirlaw12.PeriodApart", spec := "periodApart", inPlace := ["math.Float64frombits", "math.Float64bits"], unfollowed := true, recurses := true, apart := false, narrowed := true }
def PeriodApartUptoSaid : Prop := periodApartUptoRow.holds Try.pinned (OpenSpec.upto periodApartSpec)

end Rows
end Go.Proofs.Ytgpmdeembgohdaa
