/-
  Closed facts on the types of this translation. Written by a program (gen_types.py).
-/
import Derived.Test.YtgpmdeembgohdaaPwU
import Derived.Test.YtgpmdeembgohdaaProg
import Derived.KernelRfl
namespace Go.Proofs
open Go.PW
@[go_sem] theorem Try.cl2 : Try.prog.cellsOf 2 = 1 := by kernel_rfl
@[go_sem] theorem Try.by2 : Try.prog.bytesOf 2 = 8 := by kernel_rfl
attribute [go_sem] Try.underlying2
@[go_sem] theorem Try.ze2 : zeroOf Try.prog 2 = some [CV.d (D.lit (Value.int IntKind.i64 0))] := by kernel_rfl
@[go_sem] theorem Try.zo2 : zeroOK Try.prog 2 = true := by kernel_rfl
@[go_sem] theorem Try.cl3 : Try.prog.cellsOf 3 = 1 := by kernel_rfl
@[go_sem] theorem Try.by3 : Try.prog.bytesOf 3 = 8 := by kernel_rfl
attribute [go_sem] Try.underlying3
@[go_sem] theorem Try.ze3 : zeroOf Try.prog 3 = some [CV.d (D.lit (Value.int IntKind.i64 0))] := by kernel_rfl
@[go_sem] theorem Try.zo3 : zeroOK Try.prog 3 = true := by kernel_rfl
@[go_sem] theorem Try.cl4 : Try.prog.cellsOf 4 = 1 := by kernel_rfl
@[go_sem] theorem Try.by4 : Try.prog.bytesOf 4 = 1 := by kernel_rfl
attribute [go_sem] Try.underlying4
@[go_sem] theorem Try.ze4 : zeroOf Try.prog 4 = some [CV.d (D.lit (Value.bool false))] := by kernel_rfl
@[go_sem] theorem Try.zo4 : zeroOK Try.prog 4 = true := by kernel_rfl
@[go_sem] theorem Try.cl5 : Try.prog.cellsOf 5 = 1 := by kernel_rfl
@[go_sem] theorem Try.by5 : Try.prog.bytesOf 5 = 1 := by kernel_rfl
attribute [go_sem] Try.underlying5
@[go_sem] theorem Try.ze5 : zeroOf Try.prog 5 = some [CV.d (D.lit (Value.int IntKind.u8 0))] := by kernel_rfl
@[go_sem] theorem Try.zo5 : zeroOK Try.prog 5 = true := by kernel_rfl
@[go_sem] theorem Try.cl9 : Try.prog.cellsOf 9 = 1 := by kernel_rfl
@[go_sem] theorem Try.by9 : Try.prog.bytesOf 9 = 16 := by kernel_rfl
attribute [go_sem] Try.underlying9
@[go_sem] theorem Try.ze9 : zeroOf Try.prog 9 = some [CV.d (D.lit (Value.string ⟨#[]⟩))] := by kernel_rfl
@[go_sem] theorem Try.zo9 : zeroOK Try.prog 9 = true := by kernel_rfl
@[go_sem] theorem Try.cl12 : Try.prog.cellsOf 12 = 1 := by kernel_rfl
@[go_sem] theorem Try.by12 : Try.prog.bytesOf 12 = 8 := by kernel_rfl
attribute [go_sem] Try.underlying12
@[go_sem] theorem Try.ze12 : zeroOf Try.prog 12 = some [CV.d (D.lit (Value.int IntKind.u64 0))] := by kernel_rfl
@[go_sem] theorem Try.zo12 : zeroOK Try.prog 12 = true := by kernel_rfl
@[go_sem] theorem Try.cl13 : Try.prog.cellsOf 13 = 2 := by kernel_rfl
@[go_sem] theorem Try.by13 : Try.prog.bytesOf 13 = 24 := by kernel_rfl
attribute [go_sem] Try.underlying13
@[go_sem] theorem Try.ze13 : zeroOf Try.prog 13 = some [CV.d (D.lit (Value.string ⟨#[]⟩)), CV.d (D.lit (Value.int IntKind.u64 0))] := by kernel_rfl
@[go_sem] theorem Try.zo13 : zeroOK Try.prog 13 = true := by kernel_rfl
@[go_sem] theorem Try.pl13 : structPl Try.prog 13 = some [(0, 1), (1, 1)] := by kernel_rfl
attribute [go_sem] Try.stoodInHeld13 Try.eqGuardType13
@[go_sem] theorem Try.cl21 : Try.prog.cellsOf 21 = 1 := by kernel_rfl
@[go_sem] theorem Try.by21 : Try.prog.bytesOf 21 = 4 := by kernel_rfl
attribute [go_sem] Try.underlying21
@[go_sem] theorem Try.ze21 : zeroOf Try.prog 21 = some [CV.d (D.lit (Value.int IntKind.i32 0))] := by kernel_rfl
@[go_sem] theorem Try.zo21 : zeroOK Try.prog 21 = true := by kernel_rfl
@[go_sem] theorem Try.cl22 : Try.prog.cellsOf 22 = 1 := by kernel_rfl
@[go_sem] theorem Try.by22 : Try.prog.bytesOf 22 = 24 := by kernel_rfl
attribute [go_sem] Try.underlying22
@[go_sem] theorem Try.ze22 : zeroOf Try.prog 22 = some [CV.full []] := by kernel_rfl
@[go_sem] theorem Try.zo22 : zeroOK Try.prog 22 = true := by kernel_rfl
@[go_sem] theorem Try.cl23 : Try.prog.cellsOf 23 = 2 := by kernel_rfl
@[go_sem] theorem Try.by23 : Try.prog.bytesOf 23 = 16 := by kernel_rfl
attribute [go_sem] Try.underlying23
@[go_sem] theorem Try.ze23 : zeroOf Try.prog 23 = some [CV.d (D.lit (Value.int IntKind.i64 0)), CV.d (D.lit (Value.int IntKind.i64 0))] := by kernel_rfl
@[go_sem] theorem Try.zo23 : zeroOK Try.prog 23 = true := by kernel_rfl
@[go_sem] theorem Try.pl23 : structPl Try.prog 23 = some [(0, 1), (1, 1)] := by kernel_rfl
attribute [go_sem] Try.stoodInHeld23 Try.eqGuardType23
@[go_sem] theorem Try.cl24 : Try.prog.cellsOf 24 = 2 := by kernel_rfl
@[go_sem] theorem Try.by24 : Try.prog.bytesOf 24 = 16 := by kernel_rfl
attribute [go_sem] Try.underlying24
@[go_sem] theorem Try.ze24 : zeroOf Try.prog 24 = some [CV.d (D.lit (Value.int IntKind.i64 0)), CV.d (D.lit (Value.int IntKind.i64 0))] := by kernel_rfl
@[go_sem] theorem Try.zo24 : zeroOK Try.prog 24 = true := by kernel_rfl
@[go_sem] theorem Try.pl24 : structPl Try.prog 24 = some [(0, 1), (1, 1)] := by kernel_rfl
attribute [go_sem] Try.stoodInHeld24 Try.eqGuardType24
@[go_sem] theorem Try.cl25 : Try.prog.cellsOf 25 = 1 := by kernel_rfl
@[go_sem] theorem Try.by25 : Try.prog.bytesOf 25 = 24 := by kernel_rfl
attribute [go_sem] Try.underlying25
@[go_sem] theorem Try.ze25 : zeroOf Try.prog 25 = some [CV.full []] := by kernel_rfl
@[go_sem] theorem Try.zo25 : zeroOK Try.prog 25 = true := by kernel_rfl
@[go_sem] theorem Try.cl26 : Try.prog.cellsOf 26 = 4 := by kernel_rfl
@[go_sem] theorem Try.by26 : Try.prog.bytesOf 26 = 48 := by kernel_rfl
attribute [go_sem] Try.underlying26
@[go_sem] theorem Try.ze26 : zeroOf Try.prog 26 = some [CV.d (D.lit (Value.bool false)), CV.d (D.lit (Value.int IntKind.i64 0)), CV.d (D.lit (Value.int IntKind.i64 0)), CV.full []] := by kernel_rfl
@[go_sem] theorem Try.zo26 : zeroOK Try.prog 26 = true := by kernel_rfl
@[go_sem] theorem Try.pl26 : structPl Try.prog 26 = some [(0, 1), (1, 2), (3, 1)] := by kernel_rfl
attribute [go_sem] Try.stoodInHeld26 Try.eqGuardType26
@[go_sem] theorem Try.cl27 : Try.prog.cellsOf 27 = 4 := by kernel_rfl
@[go_sem] theorem Try.by27 : Try.prog.bytesOf 27 = 48 := by kernel_rfl
attribute [go_sem] Try.underlying27
@[go_sem] theorem Try.ze27 : zeroOf Try.prog 27 = some [CV.d (D.lit (Value.bool false)), CV.d (D.lit (Value.int IntKind.i64 0)), CV.d (D.lit (Value.int IntKind.i64 0)), CV.full []] := by kernel_rfl
@[go_sem] theorem Try.zo27 : zeroOK Try.prog 27 = true := by kernel_rfl
@[go_sem] theorem Try.pl27 : structPl Try.prog 27 = some [(0, 1), (1, 2), (3, 1)] := by kernel_rfl
attribute [go_sem] Try.stoodInHeld27 Try.eqGuardType27
@[go_sem] theorem Try.cl30 : Try.prog.cellsOf 30 = 1 := by kernel_rfl
@[go_sem] theorem Try.by30 : Try.prog.bytesOf 30 = 24 := by kernel_rfl
attribute [go_sem] Try.underlying30
@[go_sem] theorem Try.ze30 : zeroOf Try.prog 30 = some [CV.full []] := by kernel_rfl
@[go_sem] theorem Try.zo30 : zeroOK Try.prog 30 = true := by kernel_rfl
@[go_sem] theorem Try.cl50 : Try.prog.cellsOf 50 = 1 := by kernel_rfl
@[go_sem] theorem Try.by50 : Try.prog.bytesOf 50 = 24 := by kernel_rfl
attribute [go_sem] Try.underlying50
@[go_sem] theorem Try.ze50 : zeroOf Try.prog 50 = some [CV.full []] := by kernel_rfl
@[go_sem] theorem Try.zo50 : zeroOK Try.prog 50 = true := by kernel_rfl
@[go_sem] theorem Try.cl53 : Try.prog.cellsOf 53 = 3 := by kernel_rfl
@[go_sem] theorem Try.by53 : Try.prog.bytesOf 53 = 40 := by kernel_rfl
attribute [go_sem] Try.underlying53
@[go_sem] theorem Try.ze53 : zeroOf Try.prog 53 = some [CV.d (D.lit (Value.int IntKind.i64 0)), CV.d (D.lit (Value.int IntKind.i64 0)), CV.full []] := by kernel_rfl
@[go_sem] theorem Try.zo53 : zeroOK Try.prog 53 = true := by kernel_rfl
@[go_sem] theorem Try.pl53 : structPl Try.prog 53 = some [(0, 2), (2, 1)] := by kernel_rfl
attribute [go_sem] Try.stoodInHeld53 Try.eqGuardType53
@[go_sem] theorem Try.cl54 : Try.prog.cellsOf 54 = 3 := by kernel_rfl
@[go_sem] theorem Try.by54 : Try.prog.bytesOf 54 = 40 := by kernel_rfl
attribute [go_sem] Try.underlying54
@[go_sem] theorem Try.ze54 : zeroOf Try.prog 54 = some [CV.d (D.lit (Value.int IntKind.i64 0)), CV.d (D.lit (Value.int IntKind.i64 0)), CV.full []] := by kernel_rfl
@[go_sem] theorem Try.zo54 : zeroOK Try.prog 54 = true := by kernel_rfl
@[go_sem] theorem Try.pl54 : structPl Try.prog 54 = some [(0, 2), (2, 1)] := by kernel_rfl
attribute [go_sem] Try.stoodInHeld54 Try.eqGuardType54
@[go_sem] theorem Try.cl56 : Try.prog.cellsOf 56 = 3 := by kernel_rfl
@[go_sem] theorem Try.by56 : Try.prog.bytesOf 56 = 40 := by kernel_rfl
attribute [go_sem] Try.underlying56
@[go_sem] theorem Try.ze56 : zeroOf Try.prog 56 = some [CV.d (D.lit (Value.int IntKind.i64 0)), CV.d (D.lit (Value.int IntKind.i64 0)), CV.full []] := by kernel_rfl
@[go_sem] theorem Try.zo56 : zeroOK Try.prog 56 = true := by kernel_rfl
@[go_sem] theorem Try.pl56 : structPl Try.prog 56 = some [(0, 2), (2, 1)] := by kernel_rfl
attribute [go_sem] Try.stoodInHeld56 Try.eqGuardType56
@[go_sem] theorem Try.cl62 : Try.prog.cellsOf 62 = 1 := by kernel_rfl
@[go_sem] theorem Try.by62 : Try.prog.bytesOf 62 = 8 := by kernel_rfl
attribute [go_sem] Try.underlying62
@[go_sem] theorem Try.ze62 : zeroOf Try.prog 62 = some [CV.d (D.lit (Value.int IntKind.u64 0))] := by kernel_rfl
@[go_sem] theorem Try.zo62 : zeroOK Try.prog 62 = true := by kernel_rfl
@[go_sem] theorem Try.cl63 : Try.prog.cellsOf 63 = 4 := by kernel_rfl
@[go_sem] theorem Try.by63 : Try.prog.bytesOf 63 = 40 := by kernel_rfl
attribute [go_sem] Try.underlying63
@[go_sem] theorem Try.ze63 : zeroOf Try.prog 63 = some [CV.d (D.lit (Value.int IntKind.i64 0)), CV.d (D.lit (Value.int IntKind.i64 0)), CV.d (D.lit (Value.int IntKind.u64 0)), CV.d (D.lit (Value.string ⟨#[]⟩))] := by kernel_rfl
@[go_sem] theorem Try.zo63 : zeroOK Try.prog 63 = true := by kernel_rfl
@[go_sem] theorem Try.pl63 : structPl Try.prog 63 = some [(0, 1), (1, 1), (2, 1), (3, 1)] := by kernel_rfl
attribute [go_sem] Try.stoodInHeld63 Try.eqGuardType63
@[go_sem] theorem Try.cl64 : Try.prog.cellsOf 64 = 4 := by kernel_rfl
@[go_sem] theorem Try.by64 : Try.prog.bytesOf 64 = 40 := by kernel_rfl
attribute [go_sem] Try.underlying64
@[go_sem] theorem Try.ze64 : zeroOf Try.prog 64 = some [CV.d (D.lit (Value.int IntKind.i64 0)), CV.d (D.lit (Value.int IntKind.i64 0)), CV.d (D.lit (Value.int IntKind.u64 0)), CV.d (D.lit (Value.string ⟨#[]⟩))] := by kernel_rfl
@[go_sem] theorem Try.zo64 : zeroOK Try.prog 64 = true := by kernel_rfl
@[go_sem] theorem Try.pl64 : structPl Try.prog 64 = some [(0, 1), (1, 1), (2, 1), (3, 1)] := by kernel_rfl
attribute [go_sem] Try.stoodInHeld64 Try.eqGuardType64
@[go_sem] theorem Try.cl67 : Try.prog.cellsOf 67 = 1 := by kernel_rfl
@[go_sem] theorem Try.by67 : Try.prog.bytesOf 67 = 24 := by kernel_rfl
attribute [go_sem] Try.underlying67
@[go_sem] theorem Try.ze67 : zeroOf Try.prog 67 = some [CV.full []] := by kernel_rfl
@[go_sem] theorem Try.zo67 : zeroOK Try.prog 67 = true := by kernel_rfl
@[go_sem] theorem Try.cl75 : Try.prog.cellsOf 75 = 1 := by kernel_rfl
@[go_sem] theorem Try.by75 : Try.prog.bytesOf 75 = 8 := by kernel_rfl
attribute [go_sem] Try.underlying75
@[go_sem] theorem Try.ze75 : zeroOf Try.prog 75 = some [CV.d (D.lit (Value.float FloatKind.f64 0))] := by kernel_rfl
@[go_sem] theorem Try.zo75 : zeroOK Try.prog 75 = true := by kernel_rfl
@[go_sem] theorem Try.cl82 : Try.prog.cellsOf 82 = 0 := by kernel_rfl
@[go_sem] theorem Try.by82 : Try.prog.bytesOf 82 = 0 := by kernel_rfl
attribute [go_sem] Try.underlying82
@[go_sem] theorem Try.ze82 : zeroOf Try.prog 82 = some [] := by kernel_rfl
@[go_sem] theorem Try.zo82 : zeroOK Try.prog 82 = true := by kernel_rfl
@[go_sem] theorem Try.cl83 : Try.prog.cellsOf 83 = 0 := by kernel_rfl
@[go_sem] theorem Try.by83 : Try.prog.bytesOf 83 = 0 := by kernel_rfl
attribute [go_sem] Try.underlying83
@[go_sem] theorem Try.ze83 : zeroOf Try.prog 83 = some [] := by kernel_rfl
@[go_sem] theorem Try.zo83 : zeroOK Try.prog 83 = true := by kernel_rfl
@[go_sem] theorem Try.pl83 : structPl Try.prog 83 = some [(0, 0)] := by kernel_rfl
attribute [go_sem] Try.stoodInHeld83 Try.eqGuardType83
@[go_sem] theorem Try.cl86 : Try.prog.cellsOf 86 = 1 := by kernel_rfl
@[go_sem] theorem Try.by86 : Try.prog.bytesOf 86 = 4 := by kernel_rfl
attribute [go_sem] Try.underlying86
@[go_sem] theorem Try.ze86 : zeroOf Try.prog 86 = some [CV.d (D.lit (Value.int IntKind.u32 0))] := by kernel_rfl
@[go_sem] theorem Try.zo86 : zeroOK Try.prog 86 = true := by kernel_rfl
@[go_sem] theorem Try.cl90 : Try.prog.cellsOf 90 = 1 := by kernel_rfl
@[go_sem] theorem Try.by90 : Try.prog.bytesOf 90 = 8 := by kernel_rfl
attribute [go_sem] Try.underlying90
@[go_sem] theorem Try.ze90 : zeroOf Try.prog 90 = some [CV.d (D.lit (Value.pointer none))] := by kernel_rfl
@[go_sem] theorem Try.zo90 : zeroOK Try.prog 90 = true := by kernel_rfl
@[go_sem] theorem Try.cl95 : Try.prog.cellsOf 95 = 1 := by kernel_rfl
@[go_sem] theorem Try.by95 : Try.prog.bytesOf 95 = 8 := by kernel_rfl
attribute [go_sem] Try.underlying95
@[go_sem] theorem Try.ze95 : zeroOf Try.prog 95 = some [CV.d (D.lit (Value.pointer none))] := by kernel_rfl
@[go_sem] theorem Try.zo95 : zeroOK Try.prog 95 = true := by kernel_rfl
end Go.Proofs
