/-
  No cell of these rows narrows 'for every input' (looked for: loops, veiled, ifaces, maps, wideKeys, modest, calm, conditions, laid).
  DERIVED. THE GIVEN ROWS OF THIS SEAT. 6 by the template 'for every input the law returns true; each argument reads behind the call as it read before'; 0 by the template 'total and deterministic' (their statements: YthkngcankpnhlaaTotals.lean).
  GIVEN WITH THE SEED: the statements are not yours to turn. If you find one false, say at which input.
  Laid BY PROGRAM, IN A SANDBOX (cutbox-rows.mjs): the forced cells as the released guide's own fill.sh prints them over the translation 38beb3660358c3aa… (all of the seat's roots in one cut). By AI agents, Wed Nov 11 2026. No macro, syntax, notation, axiom, sorry.
-/
import Derived.Test.YthkngcankpnhlaaChecked
import GoSem.Claim
import GoSem.ClaimJoined
import GoSem.ClaimMapViews
import Derived.JoinedTies
import Derived.KernelRfl
namespace Go.Proofs.Ythkngcankpnhlaa
/- THE CELL 'sum', in the pinned program and in every row, IS THE sha256 OF THE DUMP (.gsa) THAT YthkngcankpnhlaaProg.lean LOADS. Nothing in Lean hashes anything: it is a label: what it is worth is what the hold of that sum in a sandbox is worth. -/
noncomputable def Try.pinned : Pinned := { name := "ythkngcankpnhlaa", sum := "38beb3660358c3aa01298920670cdd49d2aa8bc72dc50aba175ea01d138ad57d", checked := Try.checked }
namespace Rows
def none {H : Type} : Left H := { results := [], args := [] }

/-- 'memoirlaw09.PagerFrees': WHATEVER THE INPUT: true; the input reads as it did. -/
def pagerFreesSpec : ChangeSpec := { name := "pagerFrees", fn := fun _ => fun
  | [d1, d2] => { results := [.lit (.bool true)], args := [d1, d2] }
  | _ => none }
def pagerFreesRow : OpenClaim := { program := "ythkngcankpnhlaa", sum := "38beb3660358c3aa01298920670cdd49d2aa8bc72dc50aba175ea01d138ad57d", func := "memoir/memoirlaw09.PagerFrees", spec := "pagerFrees", unfollowed := true, recurses := true, apart := false }
def PagerFreesSaid : Prop := pagerFreesRow.holds Try.pinned (OpenSpec.ofChange pagerFreesSpec)

/-- ITS FALSE NEIGHBOUR: 'it returns false'. Refute it at one input. -/
def pagerFreesWrong : ChangeSpec := { name := "pagerFrees", fn := fun _ => fun
  | [d1, d2] => { results := [.lit (.bool false)], args := [d1, d2] }
  | _ => none }
def PagerFreesWrongFalsely : Prop := pagerFreesRow.holds Try.pinned (OpenSpec.ofChange pagerFreesWrong)

/-- 'memoirlaw09.PagerNil': WHATEVER THE INPUT: true; the input reads as it did. -/
def pagerNilSpec : ChangeSpec := { name := "pagerNil", fn := fun _ => fun
  | [d1, d2] => { results := [.lit (.bool true)], args := [d1, d2] }
  | _ => none }
def pagerNilRow : OpenClaim := { program := "ythkngcankpnhlaa", sum := "38beb3660358c3aa01298920670cdd49d2aa8bc72dc50aba175ea01d138ad57d", func := "memoir/memoirlaw09.PagerNil", spec := "pagerNil", unfollowed := true, recurses := true, apart := false }
def PagerNilSaid : Prop := pagerNilRow.holds Try.pinned (OpenSpec.ofChange pagerNilSpec)

/-- ITS FALSE NEIGHBOUR: 'it returns false'. Refute it at one input. -/
def pagerNilWrong : ChangeSpec := { name := "pagerNil", fn := fun _ => fun
  | [d1, d2] => { results := [.lit (.bool false)], args := [d1, d2] }
  | _ => none }
def PagerNilWrongFalsely : Prop := pagerNilRow.holds Try.pinned (OpenSpec.ofChange pagerNilWrong)

/-- 'memoirlaw09.PagerReads': WHATEVER THE INPUT: true; the input reads as it did. -/
def pagerReadsSpec : ChangeSpec := { name := "pagerReads", fn := fun _ => fun
  | [d1, d2, d3] => { results := [.lit (.bool true)], args := [d1, d2, d3] }
  | _ => none }
def pagerReadsRow : OpenClaim := { program := "ythkngcankpnhlaa", sum := "38beb3660358c3aa01298920670cdd49d2aa8bc72dc50aba175ea01d138ad57d", func := "memoir/memoirlaw09.PagerReads", spec := "pagerReads", unfollowed := true, recurses := true, apart := false }
def PagerReadsSaid : Prop := pagerReadsRow.holds Try.pinned (OpenSpec.ofChange pagerReadsSpec)

/-- ITS FALSE NEIGHBOUR: 'it returns false'. Refute it at one input. -/
def pagerReadsWrong : ChangeSpec := { name := "pagerReads", fn := fun _ => fun
  | [d1, d2, d3] => { results := [.lit (.bool false)], args := [d1, d2, d3] }
  | _ => none }
def PagerReadsWrongFalsely : Prop := pagerReadsRow.holds Try.pinned (OpenSpec.ofChange pagerReadsWrong)

/-- 'memoirlaw09.PagerAtomic': WHATEVER THE INPUT: true; the input reads as it did. -/
def pagerAtomicSpec : ChangeSpec := { name := "pagerAtomic", fn := fun _ => fun
  | [d1, d2, d3] => { results := [.lit (.bool true)], args := [d1, d2, d3] }
  | _ => none }
def pagerAtomicRow : OpenClaim := { program := "ythkngcankpnhlaa", sum := "38beb3660358c3aa01298920670cdd49d2aa8bc72dc50aba175ea01d138ad57d", func := "memoir/memoirlaw09.PagerAtomic", spec := "pagerAtomic", unfollowed := true, recurses := true, apart := false }
def PagerAtomicSaid : Prop := pagerAtomicRow.holds Try.pinned (OpenSpec.ofChange pagerAtomicSpec)

/-- ITS FALSE NEIGHBOUR: 'it returns false'. Refute it at one input. -/
def pagerAtomicWrong : ChangeSpec := { name := "pagerAtomic", fn := fun _ => fun
  | [d1, d2, d3] => { results := [.lit (.bool false)], args := [d1, d2, d3] }
  | _ => none }
def PagerAtomicWrongFalsely : Prop := pagerAtomicRow.holds Try.pinned (OpenSpec.ofChange pagerAtomicWrong)

/-- 'memoirlaw09.PagerLives': WHATEVER THE INPUT: true; the input reads as it did. -/
def pagerLivesSpec : ChangeSpec := { name := "pagerLives", fn := fun _ => fun
  | [d] => { results := [.lit (.bool true)], args := [d] }
  | _ => none }
def pagerLivesRow : OpenClaim := { program := "ythkngcankpnhlaa", sum := "38beb3660358c3aa01298920670cdd49d2aa8bc72dc50aba175ea01d138ad57d", func := "memoir/memoirlaw09.PagerLives", spec := "pagerLives", unfollowed := true, recurses := true, apart := false }
def PagerLivesSaid : Prop := pagerLivesRow.holds Try.pinned (OpenSpec.ofChange pagerLivesSpec)

/-- ITS FALSE NEIGHBOUR: 'it returns false'. Refute it at one input. -/
def pagerLivesWrong : ChangeSpec := { name := "pagerLives", fn := fun _ => fun
  | [d] => { results := [.lit (.bool false)], args := [d] }
  | _ => none }
def PagerLivesWrongFalsely : Prop := pagerLivesRow.holds Try.pinned (OpenSpec.ofChange pagerLivesWrong)

/-- 'memoirlaw09.PagerAgain': WHATEVER THE INPUT: true; the input reads as it did. -/
def pagerAgainSpec : ChangeSpec := { name := "pagerAgain", fn := fun _ => fun
  | [d1, d2, d3] => { results := [.lit (.bool true)], args := [d1, d2, d3] }
  | _ => none }
def pagerAgainRow : OpenClaim := { program := "ythkngcankpnhlaa", sum := "38beb3660358c3aa01298920670cdd49d2aa8bc72dc50aba175ea01d138ad57d", func := "memoir/memoirlaw09.PagerAgain", spec := "pagerAgain", unfollowed := true, recurses := true, apart := false }
def PagerAgainSaid : Prop := pagerAgainRow.holds Try.pinned (OpenSpec.ofChange pagerAgainSpec)

/-- ITS FALSE NEIGHBOUR: 'it returns false'. Refute it at one input. -/
def pagerAgainWrong : ChangeSpec := { name := "pagerAgain", fn := fun _ => fun
  | [d1, d2, d3] => { results := [.lit (.bool false)], args := [d1, d2, d3] }
  | _ => none }
def PagerAgainWrongFalsely : Prop := pagerAgainRow.holds Try.pinned (OpenSpec.ofChange pagerAgainWrong)

/- THE SECOND FORM. 'bulk': how many values and letters a reading holds, each counted each time it is reached (what is shared counts as often as it is met; a slice's spare places count too). A statement '..UptoSaid' is the law's where the arguments, and the package variables that the reading takes, are together of bulk at most 1048576: NARROWER than '..Said'. Prove '..Said' where nothing that the law and all that it calls make is longer than what came in: it says more and counts as full. Else prove '..UptoSaid'. A law counts once. -/
mutual
def uptoBulk {H : Type} : DataW H → Nat
  | .lit (.string bytes) => bytes.length + 1
  | .lit _ => 1
  | .nil => 1
  | .ptr d => uptoBulk d + 1
  | .slice elems spare => uptoBulkAll elems + uptoBulkAll spare + 1
  | .agg parts => uptoBulkAll parts + 1
  | .iface _ d => uptoBulk d + 1
  | .map entries => uptoBulkEntries entries + 1
  | .held _ => 1
def uptoBulkAll {H : Type} : List (DataW H) → Nat
  | [] => 0
  | d :: r => uptoBulk d + uptoBulkAll r
def uptoBulkEntries {H : Type} : List (Lit × DataW H) → Nat
  | [] => 0
  | x :: r => uptoBulkEntry x + uptoBulkEntries r
def uptoBulkEntry {H : Type} : Lit × DataW H → Nat
  | (.string bytes, d) => bytes.length + uptoBulk d + 1
  | (_, d) => uptoBulk d + 1
 end
def uptoSmall : (H : Type) → List (DataW H) → Bool := fun _ ds => decide (uptoBulkAll ds ≤ 1048576)
def OpenSpec.upto (s : _root_.Go.ChangeSpec) : _root_.Go.OpenSpec := { _root_.Go.OpenSpec.ofChange s with cond := some uptoSmall }

/-- 'memoirlaw09.PagerFrees', WHERE WHAT IT READS IS OF BULK AT MOST 1048576: true; the input reads as it did. -/
def pagerFreesUptoRow : OpenClaim := { program := "ythkngcankpnhlaa", sum := "38beb3660358c3aa01298920670cdd49d2aa8bc72dc50aba175ea01d138ad57d", func := "memoir/memoirlaw09.PagerFrees", spec := "pagerFrees", unfollowed := true, recurses := true, apart := false, narrowed := true }
def PagerFreesUptoSaid : Prop := pagerFreesUptoRow.holds Try.pinned (OpenSpec.upto pagerFreesSpec)

/-- 'memoirlaw09.PagerNil', WHERE WHAT IT READS IS OF BULK AT MOST 1048576: true; the input reads as it did. -/
def pagerNilUptoRow : OpenClaim := { program := "ythkngcankpnhlaa", sum := "38beb3660358c3aa01298920670cdd49d2aa8bc72dc50aba175ea01d138ad57d", func := "memoir/memoirlaw09.PagerNil", spec := "pagerNil", unfollowed := true, recurses := true, apart := false, narrowed := true }
def PagerNilUptoSaid : Prop := pagerNilUptoRow.holds Try.pinned (OpenSpec.upto pagerNilSpec)

/-- 'memoirlaw09.PagerReads', WHERE WHAT IT READS IS OF BULK AT MOST 1048576: true; the input reads as it did. -/
def pagerReadsUptoRow : OpenClaim := { program := "ythkngcankpnhlaa", sum := "38beb3660358c3aa01298920670cdd49d2aa8bc72dc50aba175ea01d138ad57d", func := "memoir/memoirlaw09.PagerReads", spec := "pagerReads", unfollowed := true, recurses := true, apart := false, narrowed := true }
def PagerReadsUptoSaid : Prop := pagerReadsUptoRow.holds Try.pinned (OpenSpec.upto pagerReadsSpec)

/-- 'memoirlaw09.PagerAtomic', WHERE WHAT IT READS IS OF BULK AT MOST 1048576: true; the input reads as it did. -/
def pagerAtomicUptoRow : OpenClaim := { program := "ythkngcankpnhlaa", sum := "38beb3660358c3aa01298920670cdd49d2aa8bc72dc50aba175ea01d138ad57d", func := "memoir/memoirlaw09.PagerAtomic", spec := "pagerAtomic", unfollowed := true, recurses := true, apart := false, narrowed := true }
def PagerAtomicUptoSaid : Prop := pagerAtomicUptoRow.holds Try.pinned (OpenSpec.upto pagerAtomicSpec)

/-- 'memoirlaw09.PagerLives', WHERE WHAT IT READS IS OF BULK AT MOST 1048576: true; the input reads as it did. -/
def pagerLivesUptoRow : OpenClaim := { program := "ythkngcankpnhlaa", sum := "38beb3660358c3aa01298920670cdd49d2aa8bc72dc50aba175ea01d138ad57d", func := "memoir/memoirlaw09.PagerLives", spec := "pagerLives", unfollowed := true, recurses := true, apart := false, narrowed := true }
def PagerLivesUptoSaid : Prop := pagerLivesUptoRow.holds Try.pinned (OpenSpec.upto pagerLivesSpec)

/-- 'memoirlaw09.PagerAgain', WHERE WHAT IT READS IS OF BULK AT MOST 1048576: true; the input reads as it did. -/
def pagerAgainUptoRow : OpenClaim := { program := "ythkngcankpnhlaa", sum := "38beb3660358c3aa01298920670cdd49d2aa8bc72dc50aba175ea01d138ad57d", func := "memoir/memoirlaw09.PagerAgain", spec := "pagerAgain", unfollowed := true, recurses := true, apart := false, narrowed := true }
def PagerAgainUptoSaid : Prop := pagerAgainUptoRow.holds Try.pinned (OpenSpec.upto pagerAgainSpec)

end Rows
end Go.Proofs.Ythkngcankpnhlaa
