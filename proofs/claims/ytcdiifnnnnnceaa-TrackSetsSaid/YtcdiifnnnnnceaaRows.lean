/-
  No cell of these rows narrows 'for every input' (looked for: loops, veiled, ifaces, maps, wideKeys, modest, calm, conditions, laid).
  DERIVED. THE GIVEN ROWS OF THIS SEAT. 6 by the template 'for every input the law returns true; each argument reads behind the call as it read before'; 0 by the template 'total and deterministic' (their statements: YtcdiifnnnnnceaaTotals.lean).
  GIVEN WITH THE SEED: the statements are not yours to turn. If you find one false, say at which input.
  Laid BY PROGRAM, IN A SANDBOX (cutbox-rows.mjs): the forced cells as the released guide's own fill.sh prints them over the translation febb8c760b2f0297… (all of the seat's roots in one cut). By AI agents, Wed Nov 11 2026. No macro, syntax, notation, axiom, sorry.
-/
import Derived.Test.YtcdiifnnnnnceaaChecked
import GoSem.Claim
import GoSem.ClaimJoined
import GoSem.ClaimMapViews
import Derived.JoinedTies
import Derived.KernelRfl
namespace Go.Proofs.Ytcdiifnnnnnceaa
/- THE CELL 'sum', in the pinned program and in every row, IS THE sha256 OF THE DUMP (.gsa) THAT YtcdiifnnnnnceaaProg.lean LOADS. Nothing in Lean hashes anything: it is a label: what it is worth is what the hold of that sum in a sandbox is worth. -/
noncomputable def Try.pinned : Pinned := { name := "ytcdiifnnnnnceaa", sum := "febb8c760b2f02972f715711dca7c1de70ceda0c020b4972e4ac3768567e0ce2", checked := Try.checked }
namespace Rows
def none {H : Type} : Left H := { results := [], args := [] }

/-- 'memoirlaw14.TrackTells': WHATEVER THE INPUT: true; the input reads as it did. -/
def trackTellsSpec : ChangeSpec := { name := "trackTells", fn := fun _ => fun
  | [d1, d2] => { results := [.lit (.bool true)], args := [d1, d2] }
  | _ => none }
def trackTellsRow : OpenClaim := { program := "ytcdiifnnnnnceaa", sum := "febb8c760b2f02972f715711dca7c1de70ceda0c020b4972e4ac3768567e0ce2", func := "memoir/memoirlaw14.TrackTells", spec := "trackTells", inPlace := ["math.Float64frombits", "math.Float64bits"], unfollowed := true, recurses := true, apart := false }
def TrackTellsSaid : Prop := trackTellsRow.holds Try.pinned (OpenSpec.ofChange trackTellsSpec)

/-- ITS FALSE NEIGHBOUR: 'it returns false'. Refute it at one input. -/
def trackTellsWrong : ChangeSpec := { name := "trackTells", fn := fun _ => fun
  | [d1, d2] => { results := [.lit (.bool false)], args := [d1, d2] }
  | _ => none }
def TrackTellsWrongFalsely : Prop := trackTellsRow.holds Try.pinned (OpenSpec.ofChange trackTellsWrong)

/-- 'memoirlaw14.TrackSets': WHATEVER THE INPUT: true; the input reads as it did. -/
def trackSetsSpec : ChangeSpec := { name := "trackSets", fn := fun _ => fun
  | [d1, d2, d3] => { results := [.lit (.bool true)], args := [d1, d2, d3] }
  | _ => none }
def trackSetsRow : OpenClaim := { program := "ytcdiifnnnnnceaa", sum := "febb8c760b2f02972f715711dca7c1de70ceda0c020b4972e4ac3768567e0ce2", func := "memoir/memoirlaw14.TrackSets", spec := "trackSets", inPlace := ["math.Float64frombits", "math.Float64bits"], unfollowed := true, recurses := true, apart := false }
def TrackSetsSaid : Prop := trackSetsRow.holds Try.pinned (OpenSpec.ofChange trackSetsSpec)

/-- ITS FALSE NEIGHBOUR: 'it returns false'. Refute it at one input. -/
def trackSetsWrong : ChangeSpec := { name := "trackSets", fn := fun _ => fun
  | [d1, d2, d3] => { results := [.lit (.bool false)], args := [d1, d2, d3] }
  | _ => none }
def TrackSetsWrongFalsely : Prop := trackSetsRow.holds Try.pinned (OpenSpec.ofChange trackSetsWrong)

/-- 'memoirlaw14.TrackHas': WHATEVER THE INPUT: true; the input reads as it did. -/
def trackHasSpec : ChangeSpec := { name := "trackHas", fn := fun _ => fun
  | [d1, d2] => { results := [.lit (.bool true)], args := [d1, d2] }
  | _ => none }
def trackHasRow : OpenClaim := { program := "ytcdiifnnnnnceaa", sum := "febb8c760b2f02972f715711dca7c1de70ceda0c020b4972e4ac3768567e0ce2", func := "memoir/memoirlaw14.TrackHas", spec := "trackHas", inPlace := ["math.Float64frombits", "math.Float64bits"], unfollowed := true, recurses := true, apart := false }
def TrackHasSaid : Prop := trackHasRow.holds Try.pinned (OpenSpec.ofChange trackHasSpec)

/-- ITS FALSE NEIGHBOUR: 'it returns false'. Refute it at one input. -/
def trackHasWrong : ChangeSpec := { name := "trackHas", fn := fun _ => fun
  | [d1, d2] => { results := [.lit (.bool false)], args := [d1, d2] }
  | _ => none }
def TrackHasWrongFalsely : Prop := trackHasRow.holds Try.pinned (OpenSpec.ofChange trackHasWrong)

/-- 'memoirlaw14.TrackKeeps': WHATEVER THE INPUT: true; the input reads as it did. -/
def trackKeepsSpec : ChangeSpec := { name := "trackKeeps", fn := fun _ => fun
  | [d1, d2, d3] => { results := [.lit (.bool true)], args := [d1, d2, d3] }
  | _ => none }
def trackKeepsRow : OpenClaim := { program := "ytcdiifnnnnnceaa", sum := "febb8c760b2f02972f715711dca7c1de70ceda0c020b4972e4ac3768567e0ce2", func := "memoir/memoirlaw14.TrackKeeps", spec := "trackKeeps", inPlace := ["math.Float64frombits", "math.Float64bits"], unfollowed := true, recurses := true, apart := false }
def TrackKeepsSaid : Prop := trackKeepsRow.holds Try.pinned (OpenSpec.ofChange trackKeepsSpec)

/-- ITS FALSE NEIGHBOUR: 'it returns false'. Refute it at one input. -/
def trackKeepsWrong : ChangeSpec := { name := "trackKeeps", fn := fun _ => fun
  | [d1, d2, d3] => { results := [.lit (.bool false)], args := [d1, d2, d3] }
  | _ => none }
def TrackKeepsWrongFalsely : Prop := trackKeepsRow.holds Try.pinned (OpenSpec.ofChange trackKeepsWrong)

/-- 'memoirlaw14.TrackBetween': WHATEVER THE INPUT: true; the input reads as it did. -/
def trackBetweenSpec : ChangeSpec := { name := "trackBetween", fn := fun _ => fun
  | [d1, d2, d3] => { results := [.lit (.bool true)], args := [d1, d2, d3] }
  | _ => none }
def trackBetweenRow : OpenClaim := { program := "ytcdiifnnnnnceaa", sum := "febb8c760b2f02972f715711dca7c1de70ceda0c020b4972e4ac3768567e0ce2", func := "memoir/memoirlaw14.TrackBetween", spec := "trackBetween", inPlace := ["math.Float64frombits", "math.Float64bits"], unfollowed := true, recurses := true, apart := false }
def TrackBetweenSaid : Prop := trackBetweenRow.holds Try.pinned (OpenSpec.ofChange trackBetweenSpec)

/-- ITS FALSE NEIGHBOUR: 'it returns false'. Refute it at one input. -/
def trackBetweenWrong : ChangeSpec := { name := "trackBetween", fn := fun _ => fun
  | [d1, d2, d3] => { results := [.lit (.bool false)], args := [d1, d2, d3] }
  | _ => none }
def TrackBetweenWrongFalsely : Prop := trackBetweenRow.holds Try.pinned (OpenSpec.ofChange trackBetweenWrong)

/-- 'memoirlaw14.TrackLast': WHATEVER THE INPUT: true; the input reads as it did. -/
def trackLastSpec : ChangeSpec := { name := "trackLast", fn := fun _ => fun
  | [d1, d2, d3] => { results := [.lit (.bool true)], args := [d1, d2, d3] }
  | _ => none }
def trackLastRow : OpenClaim := { program := "ytcdiifnnnnnceaa", sum := "febb8c760b2f02972f715711dca7c1de70ceda0c020b4972e4ac3768567e0ce2", func := "memoir/memoirlaw14.TrackLast", spec := "trackLast", inPlace := ["math.Float64frombits", "math.Float64bits"], unfollowed := true, recurses := true, apart := false }
def TrackLastSaid : Prop := trackLastRow.holds Try.pinned (OpenSpec.ofChange trackLastSpec)

/-- ITS FALSE NEIGHBOUR: 'it returns false'. Refute it at one input. -/
def trackLastWrong : ChangeSpec := { name := "trackLast", fn := fun _ => fun
  | [d1, d2, d3] => { results := [.lit (.bool false)], args := [d1, d2, d3] }
  | _ => none }
def TrackLastWrongFalsely : Prop := trackLastRow.holds Try.pinned (OpenSpec.ofChange trackLastWrong)

/- THE SECOND FORM. 'bulk': how many values and letters a reading holds, each counted each time it is reached (what is shared counts as often as it is met; a slice's spare places count too). A statement '..UptoSaid' is the law's where the arguments, and the package variables that the reading takes, are together of bulk at most 1048576: NARROWER than '..Said'. Prove '..Said' where nothing that the law and all that it calls make is longer than what came in: it says more and counts as full. Else prove '..UptoSaid'. A law counts once. -/
mutual
def uptoBulk {H : Type} : DataW H → Nat
  | .lit (.string bytes) => bytes.length + 1
  | .lit _ => 1
  | .nil => 1
  | .ptr d => uptoBulk d + 1
  | .slice elems spare => uptoBulkAll elems + uptoBulkAll spare + 1
  | .agg parts => uptoBulkAll parts + 1
  | .iface _ d => uptoBulk d + 1
  | .map entries => uptoBulkEntries entries + 1
  | .held _ => 1
def uptoBulkAll {H : Type} : List (DataW H) → Nat
  | [] => 0
  | d :: r => uptoBulk d + uptoBulkAll r
def uptoBulkEntries {H : Type} : List (Lit × DataW H) → Nat
  | [] => 0
  | x :: r => uptoBulkEntry x + uptoBulkEntries r
def uptoBulkEntry {H : Type} : Lit × DataW H → Nat
  | (.string bytes, d) => bytes.length + uptoBulk d + 1
  | (_, d) => uptoBulk d + 1
 end
def uptoSmall : (H : Type) → List (DataW H) → Bool := fun _ ds => decide (uptoBulkAll ds ≤ 1048576)
def OpenSpec.upto (s : _root_.Go.ChangeSpec) : _root_.Go.OpenSpec := { _root_.Go.OpenSpec.ofChange s with cond := some uptoSmall }

/-- 'memoirlaw14.TrackTells', WHERE WHAT IT READS IS OF BULK AT MOST 1048576: true; the input reads as it did. -/
def trackTellsUptoRow : OpenClaim := { program := "ytcdiifnnnnnceaa", sum := "febb8c760b2f02972f715711dca7c1de70ceda0c020b4972e4ac3768567e0ce2", func := "memoir/memoirlaw14.TrackTells", spec := "trackTells", inPlace := ["math.Float64frombits", "math.Float64bits"], unfollowed := true, recurses := true, apart := false, narrowed := true }
def TrackTellsUptoSaid : Prop := trackTellsUptoRow.holds Try.pinned (OpenSpec.upto trackTellsSpec)

/-- 'memoirlaw14.TrackSets', WHERE WHAT IT READS IS OF BULK AT MOST 1048576: true; the input reads as it did. -/
def trackSetsUptoRow : OpenClaim := { program := "ytcdiifnnnnnceaa", sum := "febb8c760b2f02972f715711dca7c1de70ceda0c020b4972e4ac3768567e0ce2", func := "memoir/memoirlaw14.TrackSets", spec := "trackSets", inPlace := ["math.Float64frombits", "math.Float64bits"], unfollowed := true, recurses := true, apart := false, narrowed := true }
def TrackSetsUptoSaid : Prop := trackSetsUptoRow.holds Try.pinned (OpenSpec.upto trackSetsSpec)

/-- 'memoirlaw14.TrackHas', WHERE WHAT IT READS IS OF BULK AT MOST 1048576: true; the input reads as it did. -/
def trackHasUptoRow : OpenClaim := { program := "ytcdiifnnnnnceaa", sum := "febb8c760b2f02972f715711dca7c1de70ceda0c020b4972e4ac3768567e0ce2", func := "memoir/memoirlaw14.TrackHas", spec := "trackHas", inPlace := ["math.Float64frombits", "math.Float64bits"], unfollowed := true, recurses := true, apart := false, narrowed := true }
def TrackHasUptoSaid : Prop := trackHasUptoRow.holds Try.pinned (OpenSpec.upto trackHasSpec)

/-- 'memoirlaw14.TrackKeeps', WHERE WHAT IT READS IS OF BULK AT MOST 1048576: true; the input reads as it did. -/
def trackKeepsUptoRow : OpenClaim := { program := "ytcdiifnnnnnceaa", sum := "febb8c760b2f02972f715711dca7c1de70ceda0c020b4972e4ac3768567e0ce2", func := "memoir/memoirlaw14.TrackKeeps", spec := "trackKeeps", inPlace := ["math.Float64frombits", "math.Float64bits"], unfollowed := true, recurses := true, apart := false, narrowed := true }
def TrackKeepsUptoSaid : Prop := trackKeepsUptoRow.holds Try.pinned (OpenSpec.upto trackKeepsSpec)

/-- 'memoirlaw14.TrackBetween', WHERE WHAT IT READS IS OF BULK AT MOST 1048576: true; the input reads as it did. -/
def trackBetweenUptoRow : OpenClaim := { program := "ytcdiifnnnnnceaa", sum := "febb8c760b2f02972f715711dca7c1de70ceda0c020b4972e4ac3768567e0ce2", func := "memoir/memoirlaw14.TrackBetween", spec := "trackBetween", inPlace := ["math.Float64frombits", "math.Float64bits"], unfollowed := true, recurses := true, apart := false, narrowed := true }
def TrackBetweenUptoSaid : Prop := trackBetweenUptoRow.holds Try.pinned (OpenSpec.upto trackBetweenSpec)

/-- 'memoirlaw14.TrackLast', WHERE WHAT IT READS IS OF BULK AT MOST 1048576: true; the input reads as it did. -/
def trackLastUptoRow : OpenClaim := { program := "ytcdiifnnnnnceaa", sum := "febb8c760b2f02972f715711dca7c1de70ceda0c020b4972e4ac3768567e0ce2", func := "memoir/memoirlaw14.TrackLast", spec := "trackLast", inPlace := ["math.Float64frombits", "math.Float64bits"], unfollowed := true, recurses := true, apart := false, narrowed := true }
def TrackLastUptoSaid : Prop := trackLastUptoRow.holds Try.pinned (OpenSpec.upto trackLastSpec)

end Rows
end Go.Proofs.Ytcdiifnnnnnceaa
