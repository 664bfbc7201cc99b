/-
  No cell of these rows narrows 'for every input' (looked for: loops, veiled, ifaces, maps, wideKeys, modest, calm, conditions, laid).
  DERIVED. THE GIVEN ROWS OF THIS SEAT. 5 by the template 'for every input the law returns true; each argument reads behind the call as it read before'; 0 by the template 'total and deterministic' (their statements: YtkifoeiilkhnhaaTotals.lean).
  GIVEN WITH THE SEED: the statements are not yours to turn. If you find one false, say at which input.
  Laid BY PROGRAM, IN A SANDBOX (cutbox-rows.mjs): the forced cells as the released guide's own fill.sh prints them over the translation 24c3cef25286c8a8… (all of the seat's roots in one cut). By AI agents, Wed Nov 11 2026. No macro, syntax, notation, axiom, sorry.
-/
import Derived.Test.YtkifoeiilkhnhaaChecked
import GoSem.Claim
import GoSem.ClaimJoined
import GoSem.ClaimMapViews
import Derived.JoinedTies
import Derived.KernelRfl
namespace Go.Proofs.Ytkifoeiilkhnhaa
/- THE CELL 'sum', in the pinned program and in every row, IS THE sha256 OF THE DUMP (.gsa) THAT YtkifoeiilkhnhaaProg.lean LOADS. Nothing in Lean hashes anything: it is a label: what it is worth is what the hold of that sum in a sandbox is worth. -/
noncomputable def Try.pinned : Pinned := { name := "ytkifoeiilkhnhaa", sum := "24c3cef25286c8a87925857bb644f9597301840a8bbec9cf660e94def189bade", checked := Try.checked }
namespace Rows
def none {H : Type} : Left H := { results := [], args := [] }

/-- 'memoirlaw10.HeapKeeps': WHATEVER THE INPUT: true; the input reads as it did. -/
def heapKeepsSpec : ChangeSpec := { name := "heapKeeps", fn := fun _ => fun
  | [d] => { results := [.lit (.bool true)], args := [d] }
  | _ => none }
def heapKeepsRow : OpenClaim := { program := "ytkifoeiilkhnhaa", sum := "24c3cef25286c8a87925857bb644f9597301840a8bbec9cf660e94def189bade", func := "memoir/memoirlaw10.HeapKeeps", spec := "heapKeeps", unfollowed := true, recurses := true, apart := false }
def HeapKeepsSaid : Prop := heapKeepsRow.holds Try.pinned (OpenSpec.ofChange heapKeepsSpec)

/-- ITS FALSE NEIGHBOUR: 'it returns false'. Refute it at one input. -/
def heapKeepsWrong : ChangeSpec := { name := "heapKeeps", fn := fun _ => fun
  | [d] => { results := [.lit (.bool false)], args := [d] }
  | _ => none }
def HeapKeepsWrongFalsely : Prop := heapKeepsRow.holds Try.pinned (OpenSpec.ofChange heapKeepsWrong)

/-- 'memoirlaw10.HeapFull': WHATEVER THE INPUT: true; the input reads as it did. -/
def heapFullSpec : ChangeSpec := { name := "heapFull", fn := fun _ => fun
  | [d1, d2] => { results := [.lit (.bool true)], args := [d1, d2] }
  | _ => none }
def heapFullRow : OpenClaim := { program := "ytkifoeiilkhnhaa", sum := "24c3cef25286c8a87925857bb644f9597301840a8bbec9cf660e94def189bade", func := "memoir/memoirlaw10.HeapFull", spec := "heapFull", unfollowed := true, recurses := true, apart := false }
def HeapFullSaid : Prop := heapFullRow.holds Try.pinned (OpenSpec.ofChange heapFullSpec)

/-- ITS FALSE NEIGHBOUR: 'it returns false'. Refute it at one input. -/
def heapFullWrong : ChangeSpec := { name := "heapFull", fn := fun _ => fun
  | [d1, d2] => { results := [.lit (.bool false)], args := [d1, d2] }
  | _ => none }
def HeapFullWrongFalsely : Prop := heapFullRow.holds Try.pinned (OpenSpec.ofChange heapFullWrong)

/-- 'memoirlaw10.HeapNil': WHATEVER THE INPUT: true; the input reads as it did. -/
def heapNilSpec : ChangeSpec := { name := "heapNil", fn := fun _ => fun
  | [d1, d2] => { results := [.lit (.bool true)], args := [d1, d2] }
  | _ => none }
def heapNilRow : OpenClaim := { program := "ytkifoeiilkhnhaa", sum := "24c3cef25286c8a87925857bb644f9597301840a8bbec9cf660e94def189bade", func := "memoir/memoirlaw10.HeapNil", spec := "heapNil", unfollowed := true, recurses := true, apart := false }
def HeapNilSaid : Prop := heapNilRow.holds Try.pinned (OpenSpec.ofChange heapNilSpec)

/-- ITS FALSE NEIGHBOUR: 'it returns false'. Refute it at one input. -/
def heapNilWrong : ChangeSpec := { name := "heapNil", fn := fun _ => fun
  | [d1, d2] => { results := [.lit (.bool false)], args := [d1, d2] }
  | _ => none }
def HeapNilWrongFalsely : Prop := heapNilRow.holds Try.pinned (OpenSpec.ofChange heapNilWrong)

/-- 'memoirlaw10.HeapTwice': WHATEVER THE INPUT: true; the input reads as it did. -/
def heapTwiceSpec : ChangeSpec := { name := "heapTwice", fn := fun _ => fun
  | [d1, d2] => { results := [.lit (.bool true)], args := [d1, d2] }
  | _ => none }
def heapTwiceRow : OpenClaim := { program := "ytkifoeiilkhnhaa", sum := "24c3cef25286c8a87925857bb644f9597301840a8bbec9cf660e94def189bade", func := "memoir/memoirlaw10.HeapTwice", spec := "heapTwice", unfollowed := true, recurses := true, apart := false }
def HeapTwiceSaid : Prop := heapTwiceRow.holds Try.pinned (OpenSpec.ofChange heapTwiceSpec)

/-- ITS FALSE NEIGHBOUR: 'it returns false'. Refute it at one input. -/
def heapTwiceWrong : ChangeSpec := { name := "heapTwice", fn := fun _ => fun
  | [d1, d2] => { results := [.lit (.bool false)], args := [d1, d2] }
  | _ => none }
def HeapTwiceWrongFalsely : Prop := heapTwiceRow.holds Try.pinned (OpenSpec.ofChange heapTwiceWrong)

/-- 'memoirlaw10.HeapRoots': WHATEVER THE INPUT: true; the input reads as it did. -/
def heapRootsSpec : ChangeSpec := { name := "heapRoots", fn := fun _ => fun
  | [d] => { results := [.lit (.bool true)], args := [d] }
  | _ => none }
def heapRootsRow : OpenClaim := { program := "ytkifoeiilkhnhaa", sum := "24c3cef25286c8a87925857bb644f9597301840a8bbec9cf660e94def189bade", func := "memoir/memoirlaw10.HeapRoots", spec := "heapRoots", unfollowed := true, recurses := true, apart := false }
def HeapRootsSaid : Prop := heapRootsRow.holds Try.pinned (OpenSpec.ofChange heapRootsSpec)

/-- ITS FALSE NEIGHBOUR: 'it returns false'. Refute it at one input. -/
def heapRootsWrong : ChangeSpec := { name := "heapRoots", fn := fun _ => fun
  | [d] => { results := [.lit (.bool false)], args := [d] }
  | _ => none }
def HeapRootsWrongFalsely : Prop := heapRootsRow.holds Try.pinned (OpenSpec.ofChange heapRootsWrong)

/- THE SECOND FORM. 'bulk': how many values and letters a reading holds, each counted each time it is reached (what is shared counts as often as it is met; a slice's spare places count too). A statement '..UptoSaid' is the law's where the arguments, and the package variables that the reading takes, are together of bulk at most 1048576: NARROWER than '..Said'. Prove '..Said' where nothing that the law and all that it calls make is longer than what came in: it says more and counts as full. Else prove '..UptoSaid'. A law counts once. -/
mutual
def uptoBulk {H : Type} : DataW H → Nat
  | .lit (.string bytes) => bytes.length + 1
  | .lit _ => 1
  | .nil => 1
  | .ptr d => uptoBulk d + 1
  | .slice elems spare => uptoBulkAll elems + uptoBulkAll spare + 1
  | .agg parts => uptoBulkAll parts + 1
  | .iface _ d => uptoBulk d + 1
  | .map entries => uptoBulkEntries entries + 1
  | .held _ => 1
def uptoBulkAll {H : Type} : List (DataW H) → Nat
  | [] => 0
  | d :: r => uptoBulk d + uptoBulkAll r
def uptoBulkEntries {H : Type} : List (Lit × DataW H) → Nat
  | [] => 0
  | x :: r => uptoBulkEntry x + uptoBulkEntries r
def uptoBulkEntry {H : Type} : Lit × DataW H → Nat
  | (.string bytes, d) => bytes.length + uptoBulk d + 1
  | (_, d) => uptoBulk d + 1
 end
def uptoSmall : (H : Type) → List (DataW H) → Bool := fun _ ds => decide (uptoBulkAll ds ≤ 1048576)
def OpenSpec.upto (s : _root_.Go.ChangeSpec) : _root_.Go.OpenSpec := { _root_.Go.OpenSpec.ofChange s with cond := some uptoSmall }

/-- 'memoirlaw10.HeapKeeps', WHERE WHAT IT READS IS OF BULK AT MOST 1048576: true; the input reads as it did. -/
def heapKeepsUptoRow : OpenClaim := { program := "ytkifoeiilkhnhaa", sum := "24c3cef25286c8a87925857bb644f9597301840a8bbec9cf660e94def189bade", func := "memoir/memoirlaw10.HeapKeeps", spec := "heapKeeps", unfollowed := true, recurses := true, apart := false, narrowed := true }
def HeapKeepsUptoSaid : Prop := heapKeepsUptoRow.holds Try.pinned (OpenSpec.upto heapKeepsSpec)

/-- 'memoirlaw10.HeapFull', WHERE WHAT IT READS IS OF BULK AT MOST 1048576: true; the input reads as it did. -/
def heapFullUptoRow : OpenClaim := { program := "ytkifoeiilkhnhaa", sum := "24c3cef25286c8a87925857bb644f9597301840a8bbec9cf660e94def189bade", func := "memoir/memoirlaw10.HeapFull", spec := "heapFull", unfollowed := true, recurses := true, apart := false, narrowed := true }
def HeapFullUptoSaid : Prop := heapFullUptoRow.holds Try.pinned (OpenSpec.upto heapFullSpec)

/-- 'memoirlaw10.HeapNil', WHERE WHAT IT READS IS OF BULK AT MOST 1048576: true; the input reads as it did. -/
def heapNilUptoRow : OpenClaim := { program := "ytkifoeiilkhnhaa", sum := "24c3cef25286c8a87925857bb644f9597301840a8bbec9cf660e94def189bade", func := "memoir/memoirlaw10.HeapNil", spec := "heapNil", unfollowed := true, recurses := true, apart := false, narrowed := true }
def HeapNilUptoSaid : Prop := heapNilUptoRow.holds Try.pinned (OpenSpec.upto heapNilSpec)

/-- 'memoirlaw10.HeapTwice', WHERE WHAT IT READS IS OF BULK AT MOST 1048576: true; the input reads as it did. -/
def heapTwiceUptoRow : OpenClaim := { program := "ytkifoeiilkhnhaa", sum := "24c3cef25286c8a87925857bb644f9597301840a8bbec9cf660e94def189bade", func := "memoir/memoirlaw10.HeapTwice", spec := "heapTwice", unfollowed := true, recurses := true, apart := false, narrowed := true }
def HeapTwiceUptoSaid : Prop := heapTwiceUptoRow.holds Try.pinned (OpenSpec.upto heapTwiceSpec)

/-- 'memoirlaw10.HeapRoots', WHERE WHAT IT READS IS OF BULK AT MOST 1048576: true; the input reads as it did. -/
def heapRootsUptoRow : OpenClaim := { program := "ytkifoeiilkhnhaa", sum := "24c3cef25286c8a87925857bb644f9597301840a8bbec9cf660e94def189bade", func := "memoir/memoirlaw10.HeapRoots", spec := "heapRoots", unfollowed := true, recurses := true, apart := false, narrowed := true }
def HeapRootsUptoSaid : Prop := heapRootsUptoRow.holds Try.pinned (OpenSpec.upto heapRootsSpec)

end Rows
end Go.Proofs.Ytkifoeiilkhnhaa
