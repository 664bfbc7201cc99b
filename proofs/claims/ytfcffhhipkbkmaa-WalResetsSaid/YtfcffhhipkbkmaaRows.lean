/-
  No cell of these rows narrows 'for every input' (looked for: loops, veiled, ifaces, maps, wideKeys, modest, calm, conditions, laid).
  DERIVED. THE GIVEN ROWS OF THIS SEAT. 6 by the template 'for every input the law returns true; each argument reads behind the call as it read before'; 0 by the template 'total and deterministic' (their statements: YtfcffhhipkbkmaaTotals.lean).
  GIVEN WITH THE SEED: the statements are not yours to turn. If you find one false, say at which input.
  Laid BY PROGRAM, IN A SANDBOX (cutbox-rows.mjs): the forced cells as the released guide's own fill.sh prints them over the translation 242e48862a9a0c16… (all of the seat's roots in one cut). By AI agents, Wed Nov 11 2026. No macro, syntax, notation, axiom, sorry.
-/
import Derived.Test.YtfcffhhipkbkmaaChecked
import GoSem.Claim
import GoSem.ClaimJoined
import GoSem.ClaimMapViews
import Derived.JoinedTies
import Derived.KernelRfl
namespace Go.Proofs.Ytfcffhhipkbkmaa
/- THE CELL 'sum', in the pinned program and in every row, IS THE sha256 OF THE DUMP (.gsa) THAT YtfcffhhipkbkmaaProg.lean LOADS. Nothing in Lean hashes anything: it is a label: what it is worth is what the hold of that sum in a sandbox is worth. -/
noncomputable def Try.pinned : Pinned := { name := "ytfcffhhipkbkmaa", sum := "242e48862a9a0c1605ac5e54b9cfb2f5f102a00dfb5179733c2c5517246e2e74", checked := Try.checked }
namespace Rows
def none {H : Type} : Left H := { results := [], args := [] }

/-- 'memoirlaw08.WalSeals': WHATEVER THE INPUT: true; the input reads as it did. -/
def walSealsSpec : ChangeSpec := { name := "walSeals", fn := fun _ => fun
  | [d1, d2] => { results := [.lit (.bool true)], args := [d1, d2] }
  | _ => none }
def walSealsRow : OpenClaim := { program := "ytfcffhhipkbkmaa", sum := "242e48862a9a0c1605ac5e54b9cfb2f5f102a00dfb5179733c2c5517246e2e74", func := "memoir/memoirlaw08.WalSeals", spec := "walSeals", unfollowed := true, recurses := true, apart := false }
def WalSealsSaid : Prop := walSealsRow.holds Try.pinned (OpenSpec.ofChange walSealsSpec)

/-- ITS FALSE NEIGHBOUR: 'it returns false'. Refute it at one input. -/
def walSealsWrong : ChangeSpec := { name := "walSeals", fn := fun _ => fun
  | [d1, d2] => { results := [.lit (.bool false)], args := [d1, d2] }
  | _ => none }
def WalSealsWrongFalsely : Prop := walSealsRow.holds Try.pinned (OpenSpec.ofChange walSealsWrong)

/-- 'memoirlaw08.WalNil': WHATEVER THE INPUT: true; the input reads as it did. -/
def walNilSpec : ChangeSpec := { name := "walNil", fn := fun _ => fun
  | [d] => { results := [.lit (.bool true)], args := [d] }
  | _ => none }
def walNilRow : OpenClaim := { program := "ytfcffhhipkbkmaa", sum := "242e48862a9a0c1605ac5e54b9cfb2f5f102a00dfb5179733c2c5517246e2e74", func := "memoir/memoirlaw08.WalNil", spec := "walNil", unfollowed := true, recurses := true, apart := false }
def WalNilSaid : Prop := walNilRow.holds Try.pinned (OpenSpec.ofChange walNilSpec)

/-- ITS FALSE NEIGHBOUR: 'it returns false'. Refute it at one input. -/
def walNilWrong : ChangeSpec := { name := "walNil", fn := fun _ => fun
  | [d] => { results := [.lit (.bool false)], args := [d] }
  | _ => none }
def WalNilWrongFalsely : Prop := walNilRow.holds Try.pinned (OpenSpec.ofChange walNilWrong)

/-- 'memoirlaw08.WalFull': WHATEVER THE INPUT: true; the input reads as it did. -/
def walFullSpec : ChangeSpec := { name := "walFull", fn := fun _ => fun
  | [d1, d2] => { results := [.lit (.bool true)], args := [d1, d2] }
  | _ => none }
def walFullRow : OpenClaim := { program := "ytfcffhhipkbkmaa", sum := "242e48862a9a0c1605ac5e54b9cfb2f5f102a00dfb5179733c2c5517246e2e74", func := "memoir/memoirlaw08.WalFull", spec := "walFull", unfollowed := true, recurses := true, apart := false }
def WalFullSaid : Prop := walFullRow.holds Try.pinned (OpenSpec.ofChange walFullSpec)

/-- ITS FALSE NEIGHBOUR: 'it returns false'. Refute it at one input. -/
def walFullWrong : ChangeSpec := { name := "walFull", fn := fun _ => fun
  | [d1, d2] => { results := [.lit (.bool false)], args := [d1, d2] }
  | _ => none }
def WalFullWrongFalsely : Prop := walFullRow.holds Try.pinned (OpenSpec.ofChange walFullWrong)

/-- 'memoirlaw08.WalLives': WHATEVER THE INPUT: true; the input reads as it did. -/
def walLivesSpec : ChangeSpec := { name := "walLives", fn := fun _ => fun
  | [d] => { results := [.lit (.bool true)], args := [d] }
  | _ => none }
def walLivesRow : OpenClaim := { program := "ytfcffhhipkbkmaa", sum := "242e48862a9a0c1605ac5e54b9cfb2f5f102a00dfb5179733c2c5517246e2e74", func := "memoir/memoirlaw08.WalLives", spec := "walLives", unfollowed := true, recurses := true, apart := false }
def WalLivesSaid : Prop := walLivesRow.holds Try.pinned (OpenSpec.ofChange walLivesSpec)

/-- ITS FALSE NEIGHBOUR: 'it returns false'. Refute it at one input. -/
def walLivesWrong : ChangeSpec := { name := "walLives", fn := fun _ => fun
  | [d] => { results := [.lit (.bool false)], args := [d] }
  | _ => none }
def WalLivesWrongFalsely : Prop := walLivesRow.holds Try.pinned (OpenSpec.ofChange walLivesWrong)

/-- 'memoirlaw08.WalSafe': WHATEVER THE INPUT: true; the input reads as it did. -/
def walSafeSpec : ChangeSpec := { name := "walSafe", fn := fun _ => fun
  | [d1, d2, d3] => { results := [.lit (.bool true)], args := [d1, d2, d3] }
  | _ => none }
def walSafeRow : OpenClaim := { program := "ytfcffhhipkbkmaa", sum := "242e48862a9a0c1605ac5e54b9cfb2f5f102a00dfb5179733c2c5517246e2e74", func := "memoir/memoirlaw08.WalSafe", spec := "walSafe", unfollowed := true, recurses := true, apart := false }
def WalSafeSaid : Prop := walSafeRow.holds Try.pinned (OpenSpec.ofChange walSafeSpec)

/-- ITS FALSE NEIGHBOUR: 'it returns false'. Refute it at one input. -/
def walSafeWrong : ChangeSpec := { name := "walSafe", fn := fun _ => fun
  | [d1, d2, d3] => { results := [.lit (.bool false)], args := [d1, d2, d3] }
  | _ => none }
def WalSafeWrongFalsely : Prop := walSafeRow.holds Try.pinned (OpenSpec.ofChange walSafeWrong)

/-- 'memoirlaw08.WalResets': WHATEVER THE INPUT: true; the input reads as it did. -/
def walResetsSpec : ChangeSpec := { name := "walResets", fn := fun _ => fun
  | [d1, d2, d3] => { results := [.lit (.bool true)], args := [d1, d2, d3] }
  | _ => none }
def walResetsRow : OpenClaim := { program := "ytfcffhhipkbkmaa", sum := "242e48862a9a0c1605ac5e54b9cfb2f5f102a00dfb5179733c2c5517246e2e74", func := "memoir/memoirlaw08.WalResets", spec := "walResets", unfollowed := true, recurses := true, apart := false }
def WalResetsSaid : Prop := walResetsRow.holds Try.pinned (OpenSpec.ofChange walResetsSpec)

/-- ITS FALSE NEIGHBOUR: 'it returns false'. Refute it at one input. -/
def walResetsWrong : ChangeSpec := { name := "walResets", fn := fun _ => fun
  | [d1, d2, d3] => { results := [.lit (.bool false)], args := [d1, d2, d3] }
  | _ => none }
def WalResetsWrongFalsely : Prop := walResetsRow.holds Try.pinned (OpenSpec.ofChange walResetsWrong)

/- THE SECOND FORM. 'bulk': how many values and letters a reading holds, each counted each time it is reached (what is shared counts as often as it is met; a slice's spare places count too). A statement '..UptoSaid' is the law's where the arguments, and the package variables that the reading takes, are together of bulk at most 1048576: NARROWER than '..Said'. Prove '..Said' where nothing that the law and all that it calls make is longer than what came in: it says more and counts as full. Else prove '..UptoSaid'. A law counts once. -/
mutual
def uptoBulk {H : Type} : DataW H → Nat
  | .lit (.string bytes) => bytes.length + 1
  | .lit _ => 1
  | .nil => 1
  | .ptr d => uptoBulk d + 1
  | .slice elems spare => uptoBulkAll elems + uptoBulkAll spare + 1
  | .agg parts => uptoBulkAll parts + 1
  | .iface _ d => uptoBulk d + 1
  | .map entries => uptoBulkEntries entries + 1
  | .held _ => 1
def uptoBulkAll {H : Type} : List (DataW H) → Nat
  | [] => 0
  | d :: r => uptoBulk d + uptoBulkAll r
def uptoBulkEntries {H : Type} : List (Lit × DataW H) → Nat
  | [] => 0
  | x :: r => uptoBulkEntry x + uptoBulkEntries r
def uptoBulkEntry {H : Type} : Lit × DataW H → Nat
  | (.string bytes, d) => bytes.length + uptoBulk d + 1
  | (_, d) => uptoBulk d + 1
 end
def uptoSmall : (H : Type) → List (DataW H) → Bool := fun _ ds => decide (uptoBulkAll ds ≤ 1048576)
def OpenSpec.upto (s : _root_.Go.ChangeSpec) : _root_.Go.OpenSpec := { _root_.Go.OpenSpec.ofChange s with cond := some uptoSmall }

/-- 'memoirlaw08.WalSeals', WHERE WHAT IT READS IS OF BULK AT MOST 1048576: true; the input reads as it did. -/
def walSealsUptoRow : OpenClaim := { program := "ytfcffhhipkbkmaa", sum := "242e48862a9a0c1605ac5e54b9cfb2f5f102a00dfb5179733c2c5517246e2e74", func := "memoir/memoirlaw08.WalSeals", spec := "walSeals", unfollowed := true, recurses := true, apart := false, narrowed := true }
def WalSealsUptoSaid : Prop := walSealsUptoRow.holds Try.pinned (OpenSpec.upto walSealsSpec)

/-- 'memoirlaw08.WalNil', WHERE WHAT IT READS IS OF BULK AT MOST 1048576: true; the input reads as it did. -/
def walNilUptoRow : OpenClaim := { program := "ytfcffhhipkbkmaa", sum := "242e48862a9a0c1605ac5e54b9cfb2f5f102a00dfb5179733c2c5517246e2e74", func := "memoir/memoirlaw08.WalNil", spec := "walNil", unfollowed := true, recurses := true, apart := false, narrowed := true }
def WalNilUptoSaid : Prop := walNilUptoRow.holds Try.pinned (OpenSpec.upto walNilSpec)

/-- 'memoirlaw08.WalFull', WHERE WHAT IT READS IS OF BULK AT MOST 1048576: true; the input reads as it did. -/
def walFullUptoRow : OpenClaim := { program := "ytfcffhhipkbkmaa", sum := "242e48862a9a0c1605ac5e54b9cfb2f5f102a00dfb5179733c2c5517246e2e74", func := "memoir/memoirlaw08.WalFull", spec := "walFull", unfollowed := true, recurses := true, apart := false, narrowed := true }
def WalFullUptoSaid : Prop := walFullUptoRow.holds Try.pinned (OpenSpec.upto walFullSpec)

/-- 'memoirlaw08.WalLives', WHERE WHAT IT READS IS OF BULK AT MOST 1048576: true; the input reads as it did. -/
def walLivesUptoRow : OpenClaim := { program := "ytfcffhhipkbkmaa", sum := "242e48862a9a0c1605ac5e54b9cfb2f5f102a00dfb5179733c2c5517246e2e74", func := "memoir/memoirlaw08.WalLives", spec := "walLives", unfollowed := true, recurses := true, apart := false, narrowed := true }
def WalLivesUptoSaid : Prop := walLivesUptoRow.holds Try.pinned (OpenSpec.upto walLivesSpec)

/-- 'memoirlaw08.WalSafe', WHERE WHAT IT READS IS OF BULK AT MOST 1048576: true; the input reads as it did. -/
def walSafeUptoRow : OpenClaim := { program := "ytfcffhhipkbkmaa", sum := "242e48862a9a0c1605ac5e54b9cfb2f5f102a00dfb5179733c2c5517246e2e74", func := "memoir/memoirlaw08.WalSafe", spec := "walSafe", unfollowed := true, recurses := true, apart := false, narrowed := true }
def WalSafeUptoSaid : Prop := walSafeUptoRow.holds Try.pinned (OpenSpec.upto walSafeSpec)

/-- 'memoirlaw08.WalResets', WHERE WHAT IT READS IS OF BULK AT MOST 1048576: true; the input reads as it did. -/
def walResetsUptoRow : OpenClaim := { program := "ytfcffhhipkbkmaa", sum := "242e48862a9a0c1605ac5e54b9cfb2f5f102a00dfb5179733c2c5517246e2e74", func := "memoir/memoirlaw08.WalResets", spec := "walResets", unfollowed := true, recurses := true, apart := false, narrowed := true }
def WalResetsUptoSaid : Prop := walResetsUptoRow.holds Try.pinned (OpenSpec.upto walResetsSpec)

end Rows
end Go.Proofs.Ytfcffhhipkbkmaa
