import Derived.Test.YtkifoeiilkhnhaaQ13
import Derived.Test.YtkifoeiilkhnhaaProg
import Derived.KernelRfl

/-
  Closed facts on the types of this translation. Written by a program (gen_types.py).
-/



namespace Go.Proofs
open Go.PW
@[go_sem] theorem Try.cl2 : Try.prog.cellsOf 2 = 1 := by kernel_rfl
@[go_sem] theorem Try.by2 : Try.prog.bytesOf 2 = 8 := by kernel_rfl
attribute [go_sem] Try.underlying2
@[go_sem] theorem Try.ze2 : zeroOf Try.prog 2 = some [CV.d (D.lit (Value.int IntKind.i64 0))] := by kernel_rfl
@[go_sem] theorem Try.zo2 : zeroOK Try.prog 2 = true := by kernel_rfl
@[go_sem] theorem Try.cl3 : Try.prog.cellsOf 3 = 1 := by kernel_rfl
@[go_sem] theorem Try.by3 : Try.prog.bytesOf 3 = 8 := by kernel_rfl
attribute [go_sem] Try.underlying3
@[go_sem] theorem Try.ze3 : zeroOf Try.prog 3 = some [CV.d (D.lit (Value.int IntKind.i64 0))] := by kernel_rfl
@[go_sem] theorem Try.zo3 : zeroOK Try.prog 3 = true := by kernel_rfl
@[go_sem] theorem Try.cl4 : Try.prog.cellsOf 4 = 1 := by kernel_rfl
@[go_sem] theorem Try.by4 : Try.prog.bytesOf 4 = 1 := by kernel_rfl
attribute [go_sem] Try.underlying4
@[go_sem] theorem Try.ze4 : zeroOf Try.prog 4 = some [CV.d (D.lit (Value.bool false))] := by kernel_rfl
@[go_sem] theorem Try.zo4 : zeroOK Try.prog 4 = true := by kernel_rfl
@[go_sem] theorem Try.cl5 : Try.prog.cellsOf 5 = 1 := by kernel_rfl
@[go_sem] theorem Try.by5 : Try.prog.bytesOf 5 = 1 := by kernel_rfl
attribute [go_sem] Try.underlying5
@[go_sem] theorem Try.ze5 : zeroOf Try.prog 5 = some [CV.d (D.lit (Value.int IntKind.u8 0))] := by kernel_rfl
@[go_sem] theorem Try.zo5 : zeroOK Try.prog 5 = true := by kernel_rfl
@[go_sem] theorem Try.cl9 : Try.prog.cellsOf 9 = 1 := by kernel_rfl
@[go_sem] theorem Try.by9 : Try.prog.bytesOf 9 = 16 := by kernel_rfl
attribute [go_sem] Try.underlying9
@[go_sem] theorem Try.ze9 : zeroOf Try.prog 9 = some [CV.d (D.lit (Value.string ⟨#[]⟩))] := by kernel_rfl
@[go_sem] theorem Try.zo9 : zeroOK Try.prog 9 = true := by kernel_rfl
@[go_sem] theorem Try.cl12 : Try.prog.cellsOf 12 = 1 := by kernel_rfl
@[go_sem] theorem Try.by12 : Try.prog.bytesOf 12 = 8 := by kernel_rfl
attribute [go_sem] Try.underlying12
@[go_sem] theorem Try.ze12 : zeroOf Try.prog 12 = some [CV.d (D.lit (Value.int IntKind.u64 0))] := by kernel_rfl
@[go_sem] theorem Try.zo12 : zeroOK Try.prog 12 = true := by kernel_rfl
@[go_sem] theorem Try.cl13 : Try.prog.cellsOf 13 = 2 := by kernel_rfl
@[go_sem] theorem Try.by13 : Try.prog.bytesOf 13 = 24 := by kernel_rfl
attribute [go_sem] Try.underlying13
@[go_sem] theorem Try.ze13 : zeroOf Try.prog 13 = some [CV.d (D.lit (Value.string ⟨#[]⟩)), CV.d (D.lit (Value.int IntKind.u64 0))] := by kernel_rfl
@[go_sem] theorem Try.zo13 : zeroOK Try.prog 13 = true := by kernel_rfl
@[go_sem] theorem Try.pl13 : structPl Try.prog 13 = some [(0, 1), (1, 1)] := by kernel_rfl
attribute [go_sem] Try.stoodInHeld13 Try.eqGuardType13
@[go_sem] theorem Try.cl21 : Try.prog.cellsOf 21 = 1 := by kernel_rfl
@[go_sem] theorem Try.by21 : Try.prog.bytesOf 21 = 4 := by kernel_rfl
attribute [go_sem] Try.underlying21
@[go_sem] theorem Try.ze21 : zeroOf Try.prog 21 = some [CV.d (D.lit (Value.int IntKind.i32 0))] := by kernel_rfl
@[go_sem] theorem Try.zo21 : zeroOK Try.prog 21 = true := by kernel_rfl
@[go_sem] theorem Try.cl22 : Try.prog.cellsOf 22 = 1 := by kernel_rfl
@[go_sem] theorem Try.by22 : Try.prog.bytesOf 22 = 24 := by kernel_rfl
attribute [go_sem] Try.underlying22
@[go_sem] theorem Try.ze22 : zeroOf Try.prog 22 = some [CV.full []] := by kernel_rfl
@[go_sem] theorem Try.zo22 : zeroOK Try.prog 22 = true := by kernel_rfl
@[go_sem] theorem Try.cl23 : Try.prog.cellsOf 23 = 1 := by kernel_rfl
@[go_sem] theorem Try.by23 : Try.prog.bytesOf 23 = 8 := by kernel_rfl
attribute [go_sem] Try.underlying23
@[go_sem] theorem Try.ze23 : zeroOf Try.prog 23 = some [CV.d (D.lit (Value.pointer none))] := by kernel_rfl
@[go_sem] theorem Try.zo23 : zeroOK Try.prog 23 = true := by kernel_rfl
@[go_sem] theorem Try.cl24 : Try.prog.cellsOf 24 = 1 := by kernel_rfl
@[go_sem] theorem Try.by24 : Try.prog.bytesOf 24 = 8 := by kernel_rfl
attribute [go_sem] Try.underlying24
@[go_sem] theorem Try.ze24 : zeroOf Try.prog 24 = some [CV.d (D.lit (Value.pointer none))] := by kernel_rfl
@[go_sem] theorem Try.zo24 : zeroOK Try.prog 24 = true := by kernel_rfl
@[go_sem] theorem Try.cl27 : Try.prog.cellsOf 27 = 1 := by kernel_rfl
@[go_sem] theorem Try.by27 : Try.prog.bytesOf 27 = 24 := by kernel_rfl
attribute [go_sem] Try.underlying27
@[go_sem] theorem Try.ze27 : zeroOf Try.prog 27 = some [CV.full []] := by kernel_rfl
@[go_sem] theorem Try.zo27 : zeroOK Try.prog 27 = true := by kernel_rfl
@[go_sem] theorem Try.cl28 : Try.prog.cellsOf 28 = 1 := by kernel_rfl
@[go_sem] theorem Try.by28 : Try.prog.bytesOf 28 = 24 := by kernel_rfl
attribute [go_sem] Try.underlying28
@[go_sem] theorem Try.ze28 : zeroOf Try.prog 28 = some [CV.full []] := by kernel_rfl
@[go_sem] theorem Try.zo28 : zeroOK Try.prog 28 = true := by kernel_rfl
@[go_sem] theorem Try.cl29 : Try.prog.cellsOf 29 = 3 := by kernel_rfl
@[go_sem] theorem Try.by29 : Try.prog.bytesOf 29 = 32 := by kernel_rfl
attribute [go_sem] Try.underlying29
@[go_sem] theorem Try.ze29 : zeroOf Try.prog 29 = some [CV.d (D.lit (Value.int IntKind.i64 0)), CV.d (D.lit (Value.int IntKind.i64 0)), CV.d (D.lit (Value.string ⟨#[]⟩))] := by kernel_rfl
@[go_sem] theorem Try.zo29 : zeroOK Try.prog 29 = true := by kernel_rfl
@[go_sem] theorem Try.pl29 : structPl Try.prog 29 = some [(0, 1), (1, 1), (2, 1)] := by kernel_rfl
attribute [go_sem] Try.stoodInHeld29 Try.eqGuardType29
@[go_sem] theorem Try.cl30 : Try.prog.cellsOf 30 = 3 := by kernel_rfl
@[go_sem] theorem Try.by30 : Try.prog.bytesOf 30 = 32 := by kernel_rfl
attribute [go_sem] Try.underlying30
@[go_sem] theorem Try.ze30 : zeroOf Try.prog 30 = some [CV.d (D.lit (Value.int IntKind.i64 0)), CV.d (D.lit (Value.int IntKind.i64 0)), CV.d (D.lit (Value.string ⟨#[]⟩))] := by kernel_rfl
@[go_sem] theorem Try.zo30 : zeroOK Try.prog 30 = true := by kernel_rfl
@[go_sem] theorem Try.pl30 : structPl Try.prog 30 = some [(0, 1), (1, 1), (2, 1)] := by kernel_rfl
attribute [go_sem] Try.stoodInHeld30 Try.eqGuardType30
@[go_sem] theorem Try.cl31 : Try.prog.cellsOf 31 = 1 := by kernel_rfl
@[go_sem] theorem Try.by31 : Try.prog.bytesOf 31 = 8 := by kernel_rfl
attribute [go_sem] Try.underlying31
@[go_sem] theorem Try.ze31 : zeroOf Try.prog 31 = some [CV.d (D.lit (Value.int IntKind.i64 0))] := by kernel_rfl
@[go_sem] theorem Try.zo31 : zeroOK Try.prog 31 = true := by kernel_rfl
@[go_sem] theorem Try.cl44 : Try.prog.cellsOf 44 = 1 := by kernel_rfl
@[go_sem] theorem Try.by44 : Try.prog.bytesOf 44 = 8 := by kernel_rfl
attribute [go_sem] Try.underlying44
@[go_sem] theorem Try.ze44 : zeroOf Try.prog 44 = some [CV.d (D.lit (Value.pointer none))] := by kernel_rfl
@[go_sem] theorem Try.zo44 : zeroOK Try.prog 44 = true := by kernel_rfl
@[go_sem] theorem Try.pl44 : structPl Try.prog 44 = some [(0, 1)] := by kernel_rfl
attribute [go_sem] Try.stoodInHeld44 Try.eqGuardType44
@[go_sem] theorem Try.cl45 : Try.prog.cellsOf 45 = 1 := by kernel_rfl
@[go_sem] theorem Try.by45 : Try.prog.bytesOf 45 = 8 := by kernel_rfl
attribute [go_sem] Try.underlying45
@[go_sem] theorem Try.ze45 : zeroOf Try.prog 45 = some [CV.d (D.lit (Value.pointer none))] := by kernel_rfl
@[go_sem] theorem Try.zo45 : zeroOK Try.prog 45 = true := by kernel_rfl
@[go_sem] theorem Try.pl45 : structPl Try.prog 45 = some [(0, 1)] := by kernel_rfl
attribute [go_sem] Try.stoodInHeld45 Try.eqGuardType45
@[go_sem] theorem Try.cl51 : Try.prog.cellsOf 51 = 1 := by kernel_rfl
@[go_sem] theorem Try.by51 : Try.prog.bytesOf 51 = 8 := by kernel_rfl
attribute [go_sem] Try.underlying51
@[go_sem] theorem Try.ze51 : zeroOf Try.prog 51 = some [CV.d (D.lit (Value.pointer none))] := by kernel_rfl
@[go_sem] theorem Try.zo51 : zeroOK Try.prog 51 = true := by kernel_rfl
@[go_sem] theorem Try.cl59 : Try.prog.cellsOf 59 = 1 := by kernel_rfl
@[go_sem] theorem Try.by59 : Try.prog.bytesOf 59 = 24 := by kernel_rfl
attribute [go_sem] Try.underlying59
@[go_sem] theorem Try.ze59 : zeroOf Try.prog 59 = some [CV.full []] := by kernel_rfl
@[go_sem] theorem Try.zo59 : zeroOK Try.prog 59 = true := by kernel_rfl
@[go_sem] theorem Try.cl62 : Try.prog.cellsOf 62 = 1 := by kernel_rfl
@[go_sem] theorem Try.by62 : Try.prog.bytesOf 62 = 24 := by kernel_rfl
attribute [go_sem] Try.underlying62
@[go_sem] theorem Try.ze62 : zeroOf Try.prog 62 = some [CV.full []] := by kernel_rfl
@[go_sem] theorem Try.zo62 : zeroOK Try.prog 62 = true := by kernel_rfl
@[go_sem] theorem Try.cl68 : Try.prog.cellsOf 68 = 1 := by kernel_rfl
@[go_sem] theorem Try.by68 : Try.prog.bytesOf 68 = 8 := by kernel_rfl
attribute [go_sem] Try.underlying68
@[go_sem] theorem Try.ze68 : zeroOf Try.prog 68 = some [CV.d (D.lit (Value.map none))] := by kernel_rfl
@[go_sem] theorem Try.zo68 : zeroOK Try.prog 68 = true := by kernel_rfl
@[go_sem] theorem Try.cl69 : Try.prog.cellsOf 69 = 1 := by kernel_rfl
@[go_sem] theorem Try.by69 : Try.prog.bytesOf 69 = 24 := by kernel_rfl
attribute [go_sem] Try.underlying69
@[go_sem] theorem Try.ze69 : zeroOf Try.prog 69 = some [CV.full []] := by kernel_rfl
@[go_sem] theorem Try.zo69 : zeroOK Try.prog 69 = true := by kernel_rfl
@[go_sem] theorem Try.cl70 : Try.prog.cellsOf 70 = 7 := by kernel_rfl
@[go_sem] theorem Try.by70 : Try.prog.bytesOf 70 = 72 := by kernel_rfl
attribute [go_sem] Try.underlying70
@[go_sem] theorem Try.ze70 : zeroOf Try.prog 70 = some [CV.d (D.lit (Value.int IntKind.i64 0)), CV.d (D.lit (Value.map none)), CV.full [], CV.d (D.lit (Value.int IntKind.i64 0)), CV.d (D.lit (Value.int IntKind.i64 0)), CV.d (D.lit (Value.bool false)), CV.d (D.lit (Value.int IntKind.i64 0))] := by kernel_rfl
@[go_sem] theorem Try.zo70 : zeroOK Try.prog 70 = true := by kernel_rfl
@[go_sem] theorem Try.pl70 : structPl Try.prog 70 = some [(0, 1), (1, 1), (2, 1), (3, 1), (4, 1), (5, 1), (6, 1)] := by kernel_rfl
attribute [go_sem] Try.stoodInHeld70 Try.eqGuardType70
@[go_sem] theorem Try.cl71 : Try.prog.cellsOf 71 = 7 := by kernel_rfl
@[go_sem] theorem Try.by71 : Try.prog.bytesOf 71 = 72 := by kernel_rfl
attribute [go_sem] Try.underlying71
@[go_sem] theorem Try.ze71 : zeroOf Try.prog 71 = some [CV.d (D.lit (Value.int IntKind.i64 0)), CV.d (D.lit (Value.map none)), CV.full [], CV.d (D.lit (Value.int IntKind.i64 0)), CV.d (D.lit (Value.int IntKind.i64 0)), CV.d (D.lit (Value.bool false)), CV.d (D.lit (Value.int IntKind.i64 0))] := by kernel_rfl
@[go_sem] theorem Try.zo71 : zeroOK Try.prog 71 = true := by kernel_rfl
@[go_sem] theorem Try.pl71 : structPl Try.prog 71 = some [(0, 1), (1, 1), (2, 1), (3, 1), (4, 1), (5, 1), (6, 1)] := by kernel_rfl
attribute [go_sem] Try.stoodInHeld71 Try.eqGuardType71
@[go_sem] theorem Try.cl72 : Try.prog.cellsOf 72 = 1 := by kernel_rfl
@[go_sem] theorem Try.by72 : Try.prog.bytesOf 72 = 8 := by kernel_rfl
attribute [go_sem] Try.underlying72
@[go_sem] theorem Try.ze72 : zeroOf Try.prog 72 = some [CV.d (D.lit (Value.pointer none))] := by kernel_rfl
@[go_sem] theorem Try.zo72 : zeroOK Try.prog 72 = true := by kernel_rfl
@[go_sem] theorem Try.cl75 : Try.prog.cellsOf 75 = 5 := by kernel_rfl
@[go_sem] theorem Try.by75 : Try.prog.bytesOf 75 = 40 := by kernel_rfl
attribute [go_sem] Try.underlying75
@[go_sem] theorem Try.ze75 : zeroOf Try.prog 75 = some [CV.d (D.lit (Value.pointer none)), CV.d (D.lit (Value.pointer none)), CV.d (D.lit (Value.int IntKind.i64 0)), CV.d (D.lit (Value.map none)), CV.d (D.lit (Value.bool false))] := by kernel_rfl
@[go_sem] theorem Try.zo75 : zeroOK Try.prog 75 = true := by kernel_rfl
@[go_sem] theorem Try.pl75 : structPl Try.prog 75 = some [(0, 1), (1, 1), (2, 1), (3, 1), (4, 1)] := by kernel_rfl
attribute [go_sem] Try.stoodInHeld75 Try.eqGuardType75
@[go_sem] theorem Try.cl76 : Try.prog.cellsOf 76 = 5 := by kernel_rfl
@[go_sem] theorem Try.by76 : Try.prog.bytesOf 76 = 40 := by kernel_rfl
attribute [go_sem] Try.underlying76
@[go_sem] theorem Try.ze76 : zeroOf Try.prog 76 = some [CV.d (D.lit (Value.pointer none)), CV.d (D.lit (Value.pointer none)), CV.d (D.lit (Value.int IntKind.i64 0)), CV.d (D.lit (Value.map none)), CV.d (D.lit (Value.bool false))] := by kernel_rfl
@[go_sem] theorem Try.zo76 : zeroOK Try.prog 76 = true := by kernel_rfl
@[go_sem] theorem Try.pl76 : structPl Try.prog 76 = some [(0, 1), (1, 1), (2, 1), (3, 1), (4, 1)] := by kernel_rfl
attribute [go_sem] Try.stoodInHeld76 Try.eqGuardType76
@[go_sem] theorem Try.cl79 : Try.prog.cellsOf 79 = 1 := by kernel_rfl
@[go_sem] theorem Try.by79 : Try.prog.bytesOf 79 = 24 := by kernel_rfl
attribute [go_sem] Try.underlying79
@[go_sem] theorem Try.ze79 : zeroOf Try.prog 79 = some [CV.full []] := by kernel_rfl
@[go_sem] theorem Try.zo79 : zeroOK Try.prog 79 = true := by kernel_rfl
@[go_sem] theorem Try.cl80 : Try.prog.cellsOf 80 = 1 := by kernel_rfl
@[go_sem] theorem Try.by80 : Try.prog.bytesOf 80 = 24 := by kernel_rfl
attribute [go_sem] Try.underlying80
@[go_sem] theorem Try.ze80 : zeroOf Try.prog 80 = some [CV.full []] := by kernel_rfl
@[go_sem] theorem Try.zo80 : zeroOK Try.prog 80 = true := by kernel_rfl
@[go_sem] theorem Try.cl82 : Try.prog.cellsOf 82 = 2 := by kernel_rfl
@[go_sem] theorem Try.by82 : Try.prog.bytesOf 82 = 24 := by kernel_rfl
attribute [go_sem] Try.underlying82
@[go_sem] theorem Try.ze82 : zeroOf Try.prog 82 = some [CV.d (D.lit (Value.int IntKind.i64 0)), CV.d (D.lit (Value.string ⟨#[]⟩))] := by kernel_rfl
@[go_sem] theorem Try.zo82 : zeroOK Try.prog 82 = true := by kernel_rfl
@[go_sem] theorem Try.pl82 : structPl Try.prog 82 = some [(0, 1), (1, 1)] := by kernel_rfl
attribute [go_sem] Try.stoodInHeld82 Try.eqGuardType82
@[go_sem] theorem Try.cl83 : Try.prog.cellsOf 83 = 2 := by kernel_rfl
@[go_sem] theorem Try.by83 : Try.prog.bytesOf 83 = 24 := by kernel_rfl
attribute [go_sem] Try.underlying83
@[go_sem] theorem Try.ze83 : zeroOf Try.prog 83 = some [CV.d (D.lit (Value.int IntKind.i64 0)), CV.d (D.lit (Value.string ⟨#[]⟩))] := by kernel_rfl
@[go_sem] theorem Try.zo83 : zeroOK Try.prog 83 = true := by kernel_rfl
@[go_sem] theorem Try.pl83 : structPl Try.prog 83 = some [(0, 1), (1, 1)] := by kernel_rfl
attribute [go_sem] Try.stoodInHeld83 Try.eqGuardType83
@[go_sem] theorem Try.cl90 : Try.prog.cellsOf 90 = 8 := by kernel_rfl
@[go_sem] theorem Try.by90 : Try.prog.bytesOf 90 = 80 := by kernel_rfl
attribute [go_sem] Try.underlying90
@[go_sem] theorem Try.ze90 : zeroOf Try.prog 90 = some [CV.d (D.lit (Value.pointer none)), CV.d (D.lit (Value.int IntKind.i64 0)), CV.d (D.lit (Value.int IntKind.i64 0)), CV.d (D.lit (Value.int IntKind.i64 0)), CV.d (D.lit (Value.int IntKind.i64 0)), CV.d (D.lit (Value.int IntKind.i64 0)), CV.full [], CV.d (D.lit (Value.bool false))] := by kernel_rfl
@[go_sem] theorem Try.zo90 : zeroOK Try.prog 90 = true := by kernel_rfl
@[go_sem] theorem Try.pl90 : structPl Try.prog 90 = some [(0, 1), (1, 1), (2, 1), (3, 1), (4, 1), (5, 1), (6, 1), (7, 1)] := by kernel_rfl
attribute [go_sem] Try.stoodInHeld90 Try.eqGuardType90
@[go_sem] theorem Try.cl91 : Try.prog.cellsOf 91 = 8 := by kernel_rfl
@[go_sem] theorem Try.by91 : Try.prog.bytesOf 91 = 80 := by kernel_rfl
attribute [go_sem] Try.underlying91
@[go_sem] theorem Try.ze91 : zeroOf Try.prog 91 = some [CV.d (D.lit (Value.pointer none)), CV.d (D.lit (Value.int IntKind.i64 0)), CV.d (D.lit (Value.int IntKind.i64 0)), CV.d (D.lit (Value.int IntKind.i64 0)), CV.d (D.lit (Value.int IntKind.i64 0)), CV.d (D.lit (Value.int IntKind.i64 0)), CV.full [], CV.d (D.lit (Value.bool false))] := by kernel_rfl
@[go_sem] theorem Try.zo91 : zeroOK Try.prog 91 = true := by kernel_rfl
@[go_sem] theorem Try.pl91 : structPl Try.prog 91 = some [(0, 1), (1, 1), (2, 1), (3, 1), (4, 1), (5, 1), (6, 1), (7, 1)] := by kernel_rfl
attribute [go_sem] Try.stoodInHeld91 Try.eqGuardType91
@[go_sem] theorem Try.cl98 : Try.prog.cellsOf 98 = 1 := by kernel_rfl
@[go_sem] theorem Try.by98 : Try.prog.bytesOf 98 = 8 := by kernel_rfl
attribute [go_sem] Try.underlying98
@[go_sem] theorem Try.ze98 : zeroOf Try.prog 98 = some [CV.d (D.lit (Value.int IntKind.u64 0))] := by kernel_rfl
@[go_sem] theorem Try.zo98 : zeroOK Try.prog 98 = true := by kernel_rfl
@[go_sem] theorem Try.cl105 : Try.prog.cellsOf 105 = 1 := by kernel_rfl
@[go_sem] theorem Try.by105 : Try.prog.bytesOf 105 = 8 := by kernel_rfl
attribute [go_sem] Try.underlying105
@[go_sem] theorem Try.ze105 : zeroOf Try.prog 105 = some [CV.d (D.lit (Value.pointer none))] := by kernel_rfl
@[go_sem] theorem Try.zo105 : zeroOK Try.prog 105 = true := by kernel_rfl
@[go_sem] theorem Try.cl108 : Try.prog.cellsOf 108 = 4 := by kernel_rfl
@[go_sem] theorem Try.by108 : Try.prog.bytesOf 108 = 48 := by kernel_rfl
attribute [go_sem] Try.underlying108
@[go_sem] theorem Try.ze108 : zeroOf Try.prog 108 = some [CV.d (D.lit (Value.int IntKind.i64 0)), CV.d (D.lit (Value.string ⟨#[]⟩)), CV.d (D.lit (Value.string ⟨#[]⟩)), CV.d (D.lit (Value.bool false))] := by kernel_rfl
@[go_sem] theorem Try.zo108 : zeroOK Try.prog 108 = true := by kernel_rfl
@[go_sem] theorem Try.pl108 : structPl Try.prog 108 = some [(0, 1), (1, 1), (2, 1), (3, 1)] := by kernel_rfl
attribute [go_sem] Try.stoodInHeld108 Try.eqGuardType108
@[go_sem] theorem Try.cl109 : Try.prog.cellsOf 109 = 4 := by kernel_rfl
@[go_sem] theorem Try.by109 : Try.prog.bytesOf 109 = 48 := by kernel_rfl
attribute [go_sem] Try.underlying109
@[go_sem] theorem Try.ze109 : zeroOf Try.prog 109 = some [CV.d (D.lit (Value.int IntKind.i64 0)), CV.d (D.lit (Value.string ⟨#[]⟩)), CV.d (D.lit (Value.string ⟨#[]⟩)), CV.d (D.lit (Value.bool false))] := by kernel_rfl
@[go_sem] theorem Try.zo109 : zeroOK Try.prog 109 = true := by kernel_rfl
@[go_sem] theorem Try.pl109 : structPl Try.prog 109 = some [(0, 1), (1, 1), (2, 1), (3, 1)] := by kernel_rfl
attribute [go_sem] Try.stoodInHeld109 Try.eqGuardType109
@[go_sem] theorem Try.cl112 : Try.prog.cellsOf 112 = 1 := by kernel_rfl
@[go_sem] theorem Try.by112 : Try.prog.bytesOf 112 = 8 := by kernel_rfl
attribute [go_sem] Try.underlying112
@[go_sem] theorem Try.ze112 : zeroOf Try.prog 112 = some [CV.d (D.lit (Value.int IntKind.u64 0))] := by kernel_rfl
@[go_sem] theorem Try.zo112 : zeroOK Try.prog 112 = true := by kernel_rfl
@[go_sem] theorem Try.cl113 : Try.prog.cellsOf 113 = 3 := by kernel_rfl
@[go_sem] theorem Try.by113 : Try.prog.bytesOf 113 = 32 := by kernel_rfl
attribute [go_sem] Try.underlying113
@[go_sem] theorem Try.ze113 : zeroOf Try.prog 113 = some [CV.d (D.lit (Value.string ⟨#[]⟩)), CV.d (D.lit (Value.int IntKind.i64 0)), CV.d (D.lit (Value.int IntKind.i64 0))] := by kernel_rfl
@[go_sem] theorem Try.zo113 : zeroOK Try.prog 113 = true := by kernel_rfl
@[go_sem] theorem Try.pl113 : structPl Try.prog 113 = some [(0, 1), (1, 1), (2, 1)] := by kernel_rfl
attribute [go_sem] Try.stoodInHeld113 Try.eqGuardType113
@[go_sem] theorem Try.cl114 : Try.prog.cellsOf 114 = 3 := by kernel_rfl
@[go_sem] theorem Try.by114 : Try.prog.bytesOf 114 = 32 := by kernel_rfl
attribute [go_sem] Try.underlying114
@[go_sem] theorem Try.ze114 : zeroOf Try.prog 114 = some [CV.d (D.lit (Value.string ⟨#[]⟩)), CV.d (D.lit (Value.int IntKind.i64 0)), CV.d (D.lit (Value.int IntKind.i64 0))] := by kernel_rfl
@[go_sem] theorem Try.zo114 : zeroOK Try.prog 114 = true := by kernel_rfl
@[go_sem] theorem Try.pl114 : structPl Try.prog 114 = some [(0, 1), (1, 1), (2, 1)] := by kernel_rfl
attribute [go_sem] Try.stoodInHeld114 Try.eqGuardType114
@[go_sem] theorem Try.cl117 : Try.prog.cellsOf 117 = 1 := by kernel_rfl
@[go_sem] theorem Try.by117 : Try.prog.bytesOf 117 = 4 := by kernel_rfl
attribute [go_sem] Try.underlying117
@[go_sem] theorem Try.ze117 : zeroOf Try.prog 117 = some [CV.d (D.lit (Value.int IntKind.u32 0))] := by kernel_rfl
@[go_sem] theorem Try.zo117 : zeroOK Try.prog 117 = true := by kernel_rfl
@[go_sem] theorem Try.cl119 : Try.prog.cellsOf 119 = 1 := by kernel_rfl
@[go_sem] theorem Try.by119 : Try.prog.bytesOf 119 = 8 := by kernel_rfl
attribute [go_sem] Try.underlying119
@[go_sem] theorem Try.ze119 : zeroOf Try.prog 119 = some [CV.d (D.lit (Value.int IntKind.i64 0))] := by kernel_rfl
@[go_sem] theorem Try.zo119 : zeroOK Try.prog 119 = true := by kernel_rfl
@[go_sem] theorem Try.pl119 : structPl Try.prog 119 = some [(0, 1)] := by kernel_rfl
attribute [go_sem] Try.stoodInHeld119 Try.eqGuardType119
@[go_sem] theorem Try.cl120 : Try.prog.cellsOf 120 = 1 := by kernel_rfl
@[go_sem] theorem Try.by120 : Try.prog.bytesOf 120 = 8 := by kernel_rfl
attribute [go_sem] Try.underlying120
@[go_sem] theorem Try.ze120 : zeroOf Try.prog 120 = some [CV.d (D.lit (Value.int IntKind.i64 0))] := by kernel_rfl
@[go_sem] theorem Try.zo120 : zeroOK Try.prog 120 = true := by kernel_rfl
@[go_sem] theorem Try.pl120 : structPl Try.prog 120 = some [(0, 1)] := by kernel_rfl
attribute [go_sem] Try.stoodInHeld120 Try.eqGuardType120
@[go_sem] theorem Try.cl123 : Try.prog.cellsOf 123 = 256 := by kernel_rfl
@[go_sem] theorem Try.by123 : Try.prog.bytesOf 123 = 1024 := by kernel_rfl
attribute [go_sem] Try.underlying123
@[go_sem] theorem Try.cl127 : Try.prog.cellsOf 127 = 0 := by kernel_rfl
@[go_sem] theorem Try.by127 : Try.prog.bytesOf 127 = 0 := by kernel_rfl
attribute [go_sem] Try.underlying127
@[go_sem] theorem Try.ze127 : zeroOf Try.prog 127 = some [] := by kernel_rfl
@[go_sem] theorem Try.zo127 : zeroOK Try.prog 127 = true := by kernel_rfl
@[go_sem] theorem Try.cl128 : Try.prog.cellsOf 128 = 0 := by kernel_rfl
@[go_sem] theorem Try.by128 : Try.prog.bytesOf 128 = 0 := by kernel_rfl
attribute [go_sem] Try.underlying128
@[go_sem] theorem Try.ze128 : zeroOf Try.prog 128 = some [] := by kernel_rfl
@[go_sem] theorem Try.zo128 : zeroOK Try.prog 128 = true := by kernel_rfl
@[go_sem] theorem Try.pl128 : structPl Try.prog 128 = some [(0, 0)] := by kernel_rfl
attribute [go_sem] Try.stoodInHeld128 Try.eqGuardType128
@[go_sem] theorem Try.cl133 : Try.prog.cellsOf 133 = 1 := by kernel_rfl
@[go_sem] theorem Try.by133 : Try.prog.bytesOf 133 = 8 := by kernel_rfl
attribute [go_sem] Try.underlying133
@[go_sem] theorem Try.ze133 : zeroOf Try.prog 133 = some [CV.d (D.lit (Value.pointer none))] := by kernel_rfl
@[go_sem] theorem Try.zo133 : zeroOK Try.prog 133 = true := by kernel_rfl
@[go_sem] theorem Try.cl138 : Try.prog.cellsOf 138 = 1 := by kernel_rfl
@[go_sem] theorem Try.by138 : Try.prog.bytesOf 138 = 8 := by kernel_rfl
attribute [go_sem] Try.underlying138
@[go_sem] theorem Try.ze138 : zeroOf Try.prog 138 = some [CV.d (D.lit (Value.pointer none))] := by kernel_rfl
@[go_sem] theorem Try.zo138 : zeroOK Try.prog 138 = true := by kernel_rfl
end Go.Proofs

/-
  Wal: numbers and texts as the abstract machine has them.
-/

namespace Go.Proofs
open Go.PW

def dB (b : Bool) : RT := .d (.lit (.bool b))
def pA (x : List D) : PV := .agg (x.map .d)
def pD (x : D) : PV := .c (.d x)
@[go_sem] theorem pA_eq (x : List D) : pA x = .agg (x.map .d) := rfl
@[go_sem] theorem pD_eq (x : D) : pD x = .c (.d x) := rfl
@[go_sem] theorem dB_eq (b : Bool) : dB b = .d (.lit (.bool b)) := rfl
/-- A text. -/
def dS (l : List UInt8) : D := .lit (.string ⟨l.toArray⟩)
def dI (n : Int) : D := .lit (.int .i64 n)
@[go_sem] theorem dS_eq (l : List UInt8) : dS l = .lit (.string ⟨l.toArray⟩) := rfl
@[go_sem] theorem dI_eq (n : Int) : dI n = .lit (.int .i64 n) := rfl

theorem Try.mixed : Try.prog.follows .mixedOrders = true := by kernel_rfl
/-- Of functions that take data. -/
theorem Try.pure {f : FuncId} {fn : Func} {c : Code} {md : List Nat} (hf : Try.prog.funcs[f]? = some fn) (hb : fn.body = some c) (hext : ∀ (args : Array Value) (w : World), (callFunc f args).run Try.prog w = .ok (.enter f args) w)
    (hc : codeOK (envOf Try.prog [] 0 md []) fn.ntmps c = true) {args : List PV} (hcl : args.all PV.closed = true) (hn : args.length ≤ fn.ntmps) {r : RV}
    (h : VC (envOf Try.prog [] 0 md []) noH noA c ⟨Ret Try.prog fn r, Ret Try.prog fn r, fun _ _ => False⟩ ⟨entry args, noH, noA⟩) : PureOK Try.prog f args r :=
  pure_ok (envOf_ok Try.mixed) hf hb hext hc hcl hn h

@[go_sem] theorem Try.bytesT : isBytes Try.prog 62 = true := by kernel_rfl
@[go_sem] theorem Try.strT : isStr Try.prog 9 = true := by kernel_rfl
theorem Try.appBytes : AppT Try.prog 62 5 1 1 := ⟨Try.underlying62, Try.cl5, Try.by5, Try.zo5, by decide, by decide⟩
theorem take_next {α : Type} {l : List α} {i : Nat} {x : α} (h : l[i]? = some x) : l.take (i + 1) = l.take i ++ [x] := by rw [List.take_add_one, h]; rfl
end Go.Proofs

/-
  crc: its table; sums.
-/


namespace Go.Proofs
open Go.PW

/-! Bits of numbers that are not below 0. -/
theorem u32_nat {n : Nat} (h : n < 4294967296) : IntKind.u32.wrap (n : Int) = n := Go.IntWalk.u32_in _ (by omega)
theorem u8_nat (n : Nat) : IntKind.u8.wrap (n : Int) = ((n % 256 : Nat) : Int) := by rw [IntKind.wrap_u8]; omega
theorem xor_lt {m n : Nat} (hm : m < 4294967296) (hn : n < 4294967296) : m ^^^ n < 4294967296 := Nat.xor_lt_two_pow (n := 32) hm hn
theorem iXor_u32 {m n : Nat} (hm : m < 4294967296) (hn : n < 4294967296) : iXor .u32 (m : Int) (n : Int) = ((m ^^^ n : Nat) : Int) := by
  show IntKind.u32.wrap ((BitVec.ofInt 32 (m : Int) ^^^ BitVec.ofInt 32 (n : Int)).toNat : Int) = _
  rw [BitVec.ofInt_natCast, BitVec.ofInt_natCast, BitVec.toNat_xor, BitVec.toNat_ofNat, BitVec.toNat_ofNat, Nat.mod_eq_of_lt hm, Nat.mod_eq_of_lt hn, u32_nat (xor_lt hm hn)]
theorem iXor_u8 {m n : Nat} (hm : m < 256) (hn : n < 256) : iXor .u8 (m : Int) (n : Int) = ((m ^^^ n : Nat) : Int) := by
  show IntKind.u8.wrap ((BitVec.ofInt 8 (m : Int) ^^^ BitVec.ofInt 8 (n : Int)).toNat : Int) = _
  have hx : m ^^^ n < 256 := Nat.xor_lt_two_pow (n := 8) hm hn
  rw [BitVec.ofInt_natCast, BitVec.ofInt_natCast, BitVec.toNat_xor, BitVec.toNat_ofNat, BitVec.toNat_ofNat, Nat.mod_eq_of_lt hm, Nat.mod_eq_of_lt hn, u8_nat, Nat.mod_eq_of_lt hx]
theorem iNot_u32 {m : Nat} (hm : m < 4294967296) : iNot .u32 (m : Int) = ((4294967295 ^^^ m : Nat) : Int) := iXor_u32 (m := 4294967295) (by decide) hm
theorem iAnd_u32 {m : Nat} (hm : m < 4294967296) : iAnd .u32 (m : Int) 1 = ((m % 2 : Nat) : Int) := by
  show IntKind.u32.wrap ((BitVec.ofInt 32 (m : Int) &&& BitVec.ofInt 32 ((1 : Nat) : Int)).toNat : Int) = _
  rw [BitVec.ofInt_natCast, BitVec.ofInt_natCast, BitVec.toNat_and, BitVec.toNat_ofNat, BitVec.toNat_ofNat, Nat.mod_eq_of_lt hm, show 1 % 2 ^ 32 = 1 from rfl, Nat.and_one_is_mod, u32_nat (by omega)]
theorem iShr_u32 (m n : Nat) (h : n ≤ 32) : iShr .u32 (m : Int) n = ((m / 2 ^ n : Nat) : Int) := by
  show Int.fdiv (m : Int) (2 ^ min n 32) = _
  rw [Nat.min_eq_left h, Int.fdiv_eq_ediv_of_nonneg _ (Int.le_of_lt (Int.pow_pos (by decide))), Int.natCast_ediv, Int.natCast_pow]
  rfl

/-! The sum. -/
def st1 (n : Nat) : Nat := if n % 2 = 1 then (n / 2) ^^^ 3988292384 else n / 2
def stK : Nat → Nat → Nat
  | 0, n => n
  | k + 1, n => st1 (stK k n)
def st8 (n : Nat) : Nat := stK 8 n
def crcTbl : List Nat := [0, 1996959894, 3993919788, 2567524794, 124634137, 1886057615, 3915621685, 2657392035, 249268274, 2044508324, 3772115230, 2547177864, 162941995, 2125561021, 3887607047, 2428444049, 498536548, 1789927666, 4089016648, 2227061214, 450548861, 1843258603, 4107580753, 2211677639, 325883990, 1684777152, 4251122042, 2321926636, 335633487, 1661365465, 4195302755, 2366115317, 997073096, 1281953886, 3579855332, 2724688242, 1006888145, 1258607687, 3524101629, 2768942443, 901097722, 1119000684, 3686517206, 2898065728, 853044451, 1172266101, 3705015759, 2882616665, 651767980, 1373503546, 3369554304, 3218104598, 565507253, 1454621731, 3485111705, 3099436303, 671266974, 1594198024, 3322730930, 2970347812, 795835527, 1483230225, 3244367275, 3060149565, 1994146192, 31158534, 2563907772, 4023717930, 1907459465, 112637215, 2680153253, 3904427059, 2013776290, 251722036, 2517215374, 3775830040, 2137656763, 141376813, 2439277719, 3865271297, 1802195444, 476864866, 2238001368, 4066508878, 1812370925, 453092731, 2181625025, 4111451223, 1706088902, 314042704, 2344532202, 4240017532, 1658658271, 366619977, 2362670323, 4224994405, 1303535960, 984961486, 2747007092, 3569037538, 1256170817, 1037604311, 2765210733, 3554079995, 1131014506, 879679996, 2909243462, 3663771856, 1141124467, 855842277, 2852801631, 3708648649, 1342533948, 654459306, 3188396048, 3373015174, 1466479909, 544179635, 3110523913, 3462522015, 1591671054, 702138776, 2966460450, 3352799412, 1504918807, 783551873, 3082640443, 3233442989, 3988292384, 2596254646, 62317068, 1957810842, 3939845945, 2647816111, 81470997, 1943803523, 3814918930, 2489596804, 225274430, 2053790376, 3826175755, 2466906013, 167816743, 2097651377, 4027552580, 2265490386, 503444072, 1762050814, 4150417245, 2154129355, 426522225, 1852507879, 4275313526, 2312317920, 282753626, 1742555852, 4189708143, 2394877945, 397917763, 1622183637, 3604390888, 2714866558, 953729732, 1340076626, 3518719985, 2797360999, 1068828381, 1219638859, 3624741850, 2936675148, 906185462, 1090812512, 3747672003, 2825379669, 829329135, 1181335161, 3412177804, 3160834842, 628085408, 1382605366, 3423369109, 3138078467, 570562233, 1426400815, 3317316542, 2998733608, 733239954, 1555261956, 3268935591, 3050360625, 752459403, 1541320221, 2607071920, 3965973030, 1969922972, 40735498, 2617837225, 3943577151, 1913087877, 83908371, 2512341634, 3803740692, 2075208622, 213261112, 2463272603, 3855990285, 2094854071, 198958881, 2262029012, 4057260610, 1759359992, 534414190, 2176718541, 4139329115, 1873836001, 414664567, 2282248934, 4279200368, 1711684554, 285281116, 2405801727, 4167216745, 1634467795, 376229701, 2685067896, 3608007406, 1308918612, 956543938, 2808555105, 3495958263, 1231636301, 1047427035, 2932959818, 3654703836, 1088359270, 936918000, 2847714899, 3736837829, 1202900863, 817233897, 3183342108, 3401237130, 1404277552, 615818150, 3134207493, 3453421203, 1423857449, 601450431, 3009837614, 3294710456, 1567103746, 711928724, 3020668471, 3272380065, 1510334235, 755167117]
theorem tbl_len : crcTbl.length = 256 := by decide +kernel
theorem tbl_all : (List.range 256).all (fun i => crcTbl[i]? == some (st8 i)) = true := by decide +kernel
theorem tbl_at {i : Nat} (h : i < 256) : crcTbl[i]? = some (st8 i) := by
  have := List.all_eq_true.1 tbl_all i (List.mem_range.2 h)
  simpa using this
theorem st1_lt {n : Nat} (h : n < 4294967296) : st1 n < 4294967296 := by
  unfold st1
  split
  · exact xor_lt (by omega) (by decide)
  · omega
theorem stK_lt {n : Nat} (h : n < 4294967296) : ∀ k, stK k n < 4294967296
  | 0 => h
  | k + 1 => st1_lt (stK_lt h k)
theorem tbl_lt {i n : Nat} (h : crcTbl[i]? = some n) : n < 4294967296 := by
  have hi : i < 256 := by have := (List.getElem?_eq_some_iff.1 h).1; rwa [tbl_len] at this
  rw [tbl_at hi] at h
  cases h
  exact stK_lt (by omega) 8
def tblAt (i : Nat) : Nat := (crcTbl[i]?).getD 0
def crcStep (n : Nat) (b : UInt8) : Nat := tblAt ((n % 256) ^^^ b.toNat) ^^^ (n / 256)
def crcMore (s : Nat) (l : List UInt8) : Nat := 4294967295 ^^^ (l.foldl crcStep (4294967295 ^^^ s))
theorem xor_byte {m : Nat} {b : UInt8} (hm : m < 256) : m ^^^ b.toNat < 256 := Nat.xor_lt_two_pow (n := 8) hm b.toNat_lt
theorem tblAt_lt (i : Nat) : tblAt i < 4294967296 := by
  unfold tblAt
  cases h : crcTbl[i]? with
  | none => decide
  | some n => exact tbl_lt h
theorem crcStep_lt {n : Nat} (h : n < 4294967296) (b : UInt8) : crcStep n b < 4294967296 := xor_lt (tblAt_lt _) (by omega)
theorem crcFold_lt : ∀ (l : List UInt8) {n : Nat}, n < 4294967296 → l.foldl crcStep n < 4294967296
  | [], _, h => h
  | b :: l, _, h => crcFold_lt l (crcStep_lt h b)
theorem crcMore_lt {s : Nat} (l : List UInt8) (h : s < 4294967296) : crcMore s l < 4294967296 := xor_lt (by decide) (crcFold_lt l (xor_lt (by decide) h))

def u32D (n : Nat) : D := .lit (.int .u32 n)
def u32C (n : Nat) : CV := .d (u32D n)
theorem Ret_cell {P : Program} {fn : Func} {S : St} {t : Nat} {T : TypeId} {cs : List D} (hr : fn.results.toList = [.cell t T]) (h : loadS P none S.H S.A T (S.ρ t) = some (.agg (cs.map .d))) : Ret P fn (.one (.agg cs)) S :=
  ⟨True.intro, [none], Apart_one, by rw [hr]; exact ⟨_, h, by show PV.frz (.agg (cs.map .d)) = _; simp [PV.frz, CV.frz], rfl⟩⟩
/-- The table, so far. -/
def tblC (i : Nat) : List CV := (crcTbl.take i).map u32C ++ List.replicate (256 - i) (u32C 0)
theorem Try.zeTbl : zeroOf Try.prog 123 = some (tblC 0) := by kernel_rfl
theorem wk_isD {H' : HMap} {A A' : AMap} : ∀ {cs : List CV}, cs.all CV.isD = true → wkCells H' A A' cs cs
  | [], _ => True.intro
  | c :: r, h => by
    simp only [List.all_cons, Bool.and_eq_true] at h
    exact ⟨.inr (.inl ⟨rfl, isD_ok h.1⟩), wk_isD h.2⟩
theorem tblC_isD (i : Nat) : (tblC i).all CV.isD = true := by
  unfold tblC
  rw [List.all_append, Bool.and_eq_true]
  exact ⟨List.all_eq_true.2 fun c hc => by obtain ⟨n, _, rfl⟩ := List.mem_map.1 hc; rfl, List.all_eq_true.2 fun c hc => by rw [List.eq_of_mem_replicate hc]; rfl⟩
@[go_sem] theorem wk_tbl {H' : HMap} {A A' : AMap} {i : Nat} : wkCells H' A A' (tblC i) (tblC i) = True := eq_true (wk_isD (tblC_isD i))
theorem tblC_len {i : Nat} (h : i ≤ 256) : (tblC i).length = 256 := by simp [tblC, tbl_len]; omega
theorem tblC_next {i : Nat} (h : i < 256) : splice (tblC i) i [u32C (st8 i)] = tblC (i + 1) := by
  have hl : ((crcTbl.take i).map u32C).length = i := by simp [tbl_len]; omega
  have e : List.replicate (256 - i) (u32C 0) = u32C 0 :: List.replicate (256 - (i + 1)) (u32C 0) := by rw [show 256 - i = (256 - (i + 1)) + 1 by omega]; rfl
  unfold splice tblC
  rw [take_next (tbl_at h), List.map_append, e, List.take_append_of_le_length (by omega), List.take_of_length_le (by omega), List.drop_append, hl]
  simp [tbl_len]
  omega
theorem tblC_all : tblC 256 = crcTbl.map u32C := by unfold tblC; rw [List.take_of_length_le (by rw [tbl_len]; exact Nat.le_refl _)]; simp

set_option maxRecDepth 8000 in
set_option maxHeartbeats 8000000 in
theorem Try.kTable : PureOK Try.prog 99 [] (.one (.agg (crcTbl.map u32D))) := by
  refine Try.pure (md := []) Try.func99 rfl Try.call99 (by kernel_rfl) (by rfl) (by exact Nat.le_of_ble_eq_true rfl) ?_
  have c256 : ((256 : Nat) : Int) = 256 := rfl
  have c8 : ((8 : Nat) : Int) = 8 := rfl
  repeat' (first
   | with_reducible first | refine VC_seq fun K hK => ?_ | refine W_region ?_ | refine VC_block ?_ | refine VC_scope ?_ | refine VC_if ?_ | refine VC_skip ?_ | refine VC_exit ?_ | refine VC_ret ?_
   | (with_reducible first | refine G_not (fun h => ?_) (fun h => ?_) | refine G_cases (fun h => ?_) (fun h => ?_)) <;> (try simp only [h])
   | with_reducible first | (refine hK _ ?_; clear hK K) | (clear hK K; refine hK _ ?_; clear hK K) | (clear hK K; clear hK K; refine hK _ ?_; clear hK K) | (clear hK K; clear hK K; clear hK K; refine hK _ ?_; clear hK K)
   | (with_reducible refine todo ?_; simp +decide only [go_sem, Try.zeTbl]))
  refine VC_range 256 (fun _ => True) (fun i => frame [(0, .c (.ptr 0 0)), (1, .c (.ptr 1 0)), (5, pD (.lit (.int .i64 i)))] [(0, tblC 0), (1, tblC i)] []) True.intro ?_ ?_
  · refine Weak_frame ?_ ?_ ?_ <;> simp +decide only [go_sem]
    exact ⟨wkP_ptr (by simp [hOf]), wkP_ptr (by simp [hOf])⟩
  · intro i hi hI
    rcases Nat.lt_or_ge i 256 with hlt | hge
    · have hd : ((i : Int) < 256) = True := eq_true (by omega)
      have hwi := int_next hlt (by decide)
      have hlT : (i < 256) = True := eq_true hlt
      have hu : IntKind.u32.wrap (i : Int) = (i : Int) := u32_nat (by omega)
      repeat' (first
       | with_reducible first | refine VC_seq fun K hK => ?_ | refine W_region ?_ | refine VC_block ?_ | refine VC_scope ?_ | refine VC_if ?_ | refine VC_skip ?_ | refine VC_exit ?_ | refine VC_ret ?_
       | (with_reducible first | refine G_not (fun h => ?_) (fun h => ?_) | refine G_cases (fun h => ?_) (fun h => ?_)) <;> (try simp only [h])
       | with_reducible first | (refine hK _ ?_; clear hK K) | (clear hK K; refine hK _ ?_; clear hK K) | (clear hK K; clear hK K; refine hK _ ?_; clear hK K) | (clear hK K; clear hK K; clear hK K; refine hK _ ?_; clear hK K)
       | (with_reducible refine todo ?_; simp +decide only [go_sem, hd, hu]))
      refine VC_range 8 (fun _ => True) (fun k => frame [(0, .c (.ptr 0 0)), (1, .c (.ptr 1 0)), (2, pD (.lit (.int .i64 i))), (3, pD (u32D (stK k i))), (5, pD (.lit (.int .i64 i))), (10, pD (.lit (.int .i64 k)))] [(0, tblC 0), (1, tblC i)] []) True.intro ?_ ?_
      · refine Weak_frame ?_ ?_ ?_ <;> simp +decide only [go_sem, stK, u32D]
        exact ⟨wkP_ptr (by simp [hOf]), wkP_ptr (by simp [hOf])⟩
      · intro k hk hK'
        rcases Nat.lt_or_ge k 8 with hlt2 | hge2
        · have hd2 : ((k : Int) < 8) = True := eq_true (by omega)
          have hwk := int_next hlt2 (by decide)
          have hn := stK_lt (n := i) (by omega) k
          have hnx : stK (k + 1) i = st1 (stK k i) := rfl
          generalize stK k i = n at *
          have ha := iAnd_u32 hn
          have hs := iShr_u32 n 1 (by decide)
          have h2 : n / 2 ^ 1 = n / 2 := rfl
          rw [h2] at hs
          rcases Nat.mod_two_eq_zero_or_one n with h0 | h0
          · have hst : st1 n = n / 2 := by unfold st1; rw [if_neg (by omega)]
            rw [h0] at ha
            repeat' (first
             | with_reducible first | refine VC_seq fun K hK => ?_ | refine W_region ?_ | refine VC_block ?_ | refine VC_scope ?_ | refine VC_if ?_ | refine VC_skip ?_ | refine VC_exit ?_ | refine VC_ret ?_
             | (with_reducible first | refine G_not (fun h => ?_) (fun h => ?_) | refine G_cases (fun h => ?_) (fun h => ?_)) <;> (try simp only [h])
             | with_reducible first | (refine hK _ ?_; clear hK K) | (clear hK K; refine hK _ ?_; clear hK K) | (clear hK K; clear hK K; refine hK _ ?_; clear hK K) | (clear hK K; clear hK K; clear hK K; refine hK _ ?_; clear hK K)
             | (with_reducible refine todo ?_; simp +decide only [go_sem, hd2, hwk, u32D, ha, hs]))
            refine Next_of hlt2 True.intro (Weak_frame ?_ ?_ ?_) <;> simp +decide only [go_sem, hnx, hst]
            exact ⟨wkP_ptr (by simp [hOf]), wkP_ptr (by simp [hOf])⟩
          · have hst : st1 n = (n / 2) ^^^ 3988292384 := by unfold st1; rw [if_pos h0]
            have hx : iXor .u32 ((n / 2 : Nat) : Int) 3988292384 = ((n / 2 ^^^ 3988292384 : Nat) : Int) := iXor_u32 (n := 3988292384) (by omega) (by decide)
            rw [h0] at ha
            repeat' (first
             | with_reducible first | refine VC_seq fun K hK => ?_ | refine W_region ?_ | refine VC_block ?_ | refine VC_scope ?_ | refine VC_if ?_ | refine VC_skip ?_ | refine VC_exit ?_ | refine VC_ret ?_
             | (with_reducible first | refine G_not (fun h => ?_) (fun h => ?_) | refine G_cases (fun h => ?_) (fun h => ?_)) <;> (try simp only [h])
             | with_reducible first | (refine hK _ ?_; clear hK K) | (clear hK K; refine hK _ ?_; clear hK K) | (clear hK K; clear hK K; refine hK _ ?_; clear hK K) | (clear hK K; clear hK K; clear hK K; refine hK _ ?_; clear hK K)
             | (with_reducible refine todo ?_; simp +decide only [go_sem, hd2, hwk, u32D, ha, hs, hx]))
            refine Next_of hlt2 True.intro (Weak_frame ?_ ?_ ?_) <;> simp +decide only [go_sem, hnx, hst]
            exact ⟨wkP_ptr (by simp [hOf]), wkP_ptr (by simp [hOf])⟩
        · have hd2 : ((k : Int) < 8) = False := eq_false (by omega)
          have hk8 : k = 8 := by omega
          subst hk8
          have hlen := tblC_len hi
          have hle : (i + 1 ≤ 256) = True := eq_true (by omega)
          have hsp : (tblC i).take i ++ [CV.d (u32D (stK 8 i))] ++ (tblC i).drop (i + 1) = tblC (i + 1) := tblC_next hlt
          repeat' (first
           | with_reducible first | refine VC_seq fun K hK => ?_ | refine W_region ?_ | refine VC_block ?_ | refine VC_scope ?_ | refine VC_if ?_ | refine VC_skip ?_ | refine VC_exit ?_ | refine VC_ret ?_
           | (with_reducible first | refine G_not (fun h => ?_) (fun h => ?_) | refine G_cases (fun h => ?_) (fun h => ?_)) <;> (try simp only [h])
           | with_reducible first | (refine hK _ ?_; clear hK K) | (clear hK K; refine hK _ ?_; clear hK K) | (clear hK K; clear hK K; refine hK _ ?_; clear hK K) | (clear hK K; clear hK K; clear hK K; refine hK _ ?_; clear hK K)
           | (with_reducible refine todo ?_; simp +decide only [go_sem, hwi, hlT, hlen, hle, hsp, c8]))
          refine Next_of hlt True.intro (Weak_frame ?_ ?_ ?_) <;> simp +decide only [go_sem]
          exact ⟨wkP_ptr (by simp [hOf]), wkP_ptr (by simp [hOf])⟩
    · have hd : ((i : Int) < 256) = False := eq_false (by omega)
      have hi256 : i = 256 := by omega
      subst hi256
      have q1 : (tblC 256).take 256 = tblC 256 := List.take_of_length_le (by rw [tblC_len (Nat.le_refl _)]; exact Nat.le_refl _)
      have q2 : (tblC 0).drop 256 = [] := List.drop_of_length_le (by rw [tblC_len (by decide)]; exact Nat.le_refl _)
      have q3 := tblC_len (Nat.le_refl 256)
      have q4 := tblC_len (Nat.zero_le 256)
      repeat' (first
       | with_reducible first | refine VC_seq fun K hK => ?_ | refine W_region ?_ | refine VC_block ?_ | refine VC_scope ?_ | refine VC_if ?_ | refine VC_skip ?_ | refine VC_exit ?_ | refine VC_ret ?_
       | (with_reducible first | refine G_not (fun h => ?_) (fun h => ?_) | refine G_cases (fun h => ?_) (fun h => ?_)) <;> (try simp only [h])
       | with_reducible first | (refine hK _ ?_; clear hK K) | (clear hK K; refine hK _ ?_; clear hK K) | (clear hK K; clear hK K; refine hK _ ?_; clear hK K) | (clear hK K; clear hK K; clear hK K; refine hK _ ?_; clear hK K)
       | (with_reducible refine todo ?_; simp +decide only [go_sem, c256, q1, q2, q3, q4]))
      refine Ret_cell rfl ?_
      simp +decide only [go_sem, q1]
      rw [tblC_all, List.map_map]
      rfl
end Go.Proofs
