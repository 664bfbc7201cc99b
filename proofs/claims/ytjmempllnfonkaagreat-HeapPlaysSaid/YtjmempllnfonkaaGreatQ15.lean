/-
  Parts of the proof, laid together: PwT, PwV.
-/
import Derived.Test.YtjmempllnfonkaaGreatQ13
import Derived.Test.YtjmempllnfonkaaGreatProg
import Derived.KernelRfl

namespace Go.Proofs
open Go.PW
@[go_sem] theorem Tryz.cl2 : Tryz.prog.cellsOf 2 = 1 := by kernel_rfl
@[go_sem] theorem Tryz.by2 : Tryz.prog.bytesOf 2 = 8 := by kernel_rfl
attribute [go_sem] Tryz.underlying2
@[go_sem] theorem Tryz.ze2 : zeroOf Tryz.prog 2 = some [CV.d (D.lit (Value.int IntKind.i64 0))] := by kernel_rfl
@[go_sem] theorem Tryz.zo2 : zeroOK Tryz.prog 2 = true := by kernel_rfl
@[go_sem] theorem Tryz.cl3 : Tryz.prog.cellsOf 3 = 1 := by kernel_rfl
@[go_sem] theorem Tryz.by3 : Tryz.prog.bytesOf 3 = 8 := by kernel_rfl
attribute [go_sem] Tryz.underlying3
@[go_sem] theorem Tryz.ze3 : zeroOf Tryz.prog 3 = some [CV.d (D.lit (Value.int IntKind.i64 0))] := by kernel_rfl
@[go_sem] theorem Tryz.zo3 : zeroOK Tryz.prog 3 = true := by kernel_rfl
@[go_sem] theorem Tryz.cl4 : Tryz.prog.cellsOf 4 = 1 := by kernel_rfl
@[go_sem] theorem Tryz.by4 : Tryz.prog.bytesOf 4 = 1 := by kernel_rfl
attribute [go_sem] Tryz.underlying4
@[go_sem] theorem Tryz.ze4 : zeroOf Tryz.prog 4 = some [CV.d (D.lit (Value.bool false))] := by kernel_rfl
@[go_sem] theorem Tryz.zo4 : zeroOK Tryz.prog 4 = true := by kernel_rfl
@[go_sem] theorem Tryz.cl5 : Tryz.prog.cellsOf 5 = 1 := by kernel_rfl
@[go_sem] theorem Tryz.by5 : Tryz.prog.bytesOf 5 = 1 := by kernel_rfl
attribute [go_sem] Tryz.underlying5
@[go_sem] theorem Tryz.ze5 : zeroOf Tryz.prog 5 = some [CV.d (D.lit (Value.int IntKind.u8 0))] := by kernel_rfl
@[go_sem] theorem Tryz.zo5 : zeroOK Tryz.prog 5 = true := by kernel_rfl
@[go_sem] theorem Tryz.cl9 : Tryz.prog.cellsOf 9 = 1 := by kernel_rfl
@[go_sem] theorem Tryz.by9 : Tryz.prog.bytesOf 9 = 16 := by kernel_rfl
attribute [go_sem] Tryz.underlying9
@[go_sem] theorem Tryz.ze9 : zeroOf Tryz.prog 9 = some [CV.d (D.lit (Value.string ⟨#[]⟩))] := by kernel_rfl
@[go_sem] theorem Tryz.zo9 : zeroOK Tryz.prog 9 = true := by kernel_rfl
@[go_sem] theorem Tryz.cl12 : Tryz.prog.cellsOf 12 = 1 := by kernel_rfl
@[go_sem] theorem Tryz.by12 : Tryz.prog.bytesOf 12 = 8 := by kernel_rfl
attribute [go_sem] Tryz.underlying12
@[go_sem] theorem Tryz.ze12 : zeroOf Tryz.prog 12 = some [CV.d (D.lit (Value.int IntKind.u64 0))] := by kernel_rfl
@[go_sem] theorem Tryz.zo12 : zeroOK Tryz.prog 12 = true := by kernel_rfl
@[go_sem] theorem Tryz.cl13 : Tryz.prog.cellsOf 13 = 2 := by kernel_rfl
@[go_sem] theorem Tryz.by13 : Tryz.prog.bytesOf 13 = 24 := by kernel_rfl
attribute [go_sem] Tryz.underlying13
@[go_sem] theorem Tryz.ze13 : zeroOf Tryz.prog 13 = some [CV.d (D.lit (Value.string ⟨#[]⟩)), CV.d (D.lit (Value.int IntKind.u64 0))] := by kernel_rfl
@[go_sem] theorem Tryz.zo13 : zeroOK Tryz.prog 13 = true := by kernel_rfl
@[go_sem] theorem Tryz.pl13 : structPl Tryz.prog 13 = some [(0, 1), (1, 1)] := by kernel_rfl
attribute [go_sem] Tryz.stoodInHeld13 Tryz.eqGuardType13
@[go_sem] theorem Tryz.cl21 : Tryz.prog.cellsOf 21 = 1 := by kernel_rfl
@[go_sem] theorem Tryz.by21 : Tryz.prog.bytesOf 21 = 4 := by kernel_rfl
attribute [go_sem] Tryz.underlying21
@[go_sem] theorem Tryz.ze21 : zeroOf Tryz.prog 21 = some [CV.d (D.lit (Value.int IntKind.i32 0))] := by kernel_rfl
@[go_sem] theorem Tryz.zo21 : zeroOK Tryz.prog 21 = true := by kernel_rfl
@[go_sem] theorem Tryz.cl22 : Tryz.prog.cellsOf 22 = 1 := by kernel_rfl
@[go_sem] theorem Tryz.by22 : Tryz.prog.bytesOf 22 = 24 := by kernel_rfl
attribute [go_sem] Tryz.underlying22
@[go_sem] theorem Tryz.ze22 : zeroOf Tryz.prog 22 = some [CV.full []] := by kernel_rfl
@[go_sem] theorem Tryz.zo22 : zeroOK Tryz.prog 22 = true := by kernel_rfl
@[go_sem] theorem Tryz.cl23 : Tryz.prog.cellsOf 23 = 1 := by kernel_rfl
@[go_sem] theorem Tryz.by23 : Tryz.prog.bytesOf 23 = 8 := by kernel_rfl
attribute [go_sem] Tryz.underlying23
@[go_sem] theorem Tryz.ze23 : zeroOf Tryz.prog 23 = some [CV.d (D.lit (Value.pointer none))] := by kernel_rfl
@[go_sem] theorem Tryz.zo23 : zeroOK Tryz.prog 23 = true := by kernel_rfl
@[go_sem] theorem Tryz.cl24 : Tryz.prog.cellsOf 24 = 1 := by kernel_rfl
@[go_sem] theorem Tryz.by24 : Tryz.prog.bytesOf 24 = 8 := by kernel_rfl
attribute [go_sem] Tryz.underlying24
@[go_sem] theorem Tryz.ze24 : zeroOf Tryz.prog 24 = some [CV.d (D.lit (Value.int IntKind.i64 0))] := by kernel_rfl
@[go_sem] theorem Tryz.zo24 : zeroOK Tryz.prog 24 = true := by kernel_rfl
@[go_sem] theorem Tryz.cl27 : Tryz.prog.cellsOf 27 = 1 := by kernel_rfl
@[go_sem] theorem Tryz.by27 : Tryz.prog.bytesOf 27 = 8 := by kernel_rfl
attribute [go_sem] Tryz.underlying27
@[go_sem] theorem Tryz.ze27 : zeroOf Tryz.prog 27 = some [CV.d (D.lit (Value.pointer none))] := by kernel_rfl
@[go_sem] theorem Tryz.zo27 : zeroOK Tryz.prog 27 = true := by kernel_rfl
@[go_sem] theorem Tryz.cl30 : Tryz.prog.cellsOf 30 = 1 := by kernel_rfl
@[go_sem] theorem Tryz.by30 : Tryz.prog.bytesOf 30 = 8 := by kernel_rfl
attribute [go_sem] Tryz.underlying30
@[go_sem] theorem Tryz.ze30 : zeroOf Tryz.prog 30 = some [CV.d (D.lit (Value.pointer none))] := by kernel_rfl
@[go_sem] theorem Tryz.zo30 : zeroOK Tryz.prog 30 = true := by kernel_rfl
@[go_sem] theorem Tryz.cl33 : Tryz.prog.cellsOf 33 = 1 := by kernel_rfl
@[go_sem] theorem Tryz.by33 : Tryz.prog.bytesOf 33 = 8 := by kernel_rfl
attribute [go_sem] Tryz.underlying33
@[go_sem] theorem Tryz.ze33 : zeroOf Tryz.prog 33 = some [CV.d (D.lit (Value.pointer none))] := by kernel_rfl
@[go_sem] theorem Tryz.zo33 : zeroOK Tryz.prog 33 = true := by kernel_rfl
@[go_sem] theorem Tryz.cl39 : Tryz.prog.cellsOf 39 = 1 := by kernel_rfl
@[go_sem] theorem Tryz.by39 : Tryz.prog.bytesOf 39 = 8 := by kernel_rfl
attribute [go_sem] Tryz.underlying39
@[go_sem] theorem Tryz.ze39 : zeroOf Tryz.prog 39 = some [CV.d (D.lit (Value.pointer none))] := by kernel_rfl
@[go_sem] theorem Tryz.zo39 : zeroOK Tryz.prog 39 = true := by kernel_rfl
@[go_sem] theorem Tryz.cl42 : Tryz.prog.cellsOf 42 = 1 := by kernel_rfl
@[go_sem] theorem Tryz.by42 : Tryz.prog.bytesOf 42 = 8 := by kernel_rfl
attribute [go_sem] Tryz.underlying42
@[go_sem] theorem Tryz.ze42 : zeroOf Tryz.prog 42 = some [CV.d (D.lit (Value.pointer none))] := by kernel_rfl
@[go_sem] theorem Tryz.zo42 : zeroOK Tryz.prog 42 = true := by kernel_rfl
@[go_sem] theorem Tryz.cl45 : Tryz.prog.cellsOf 45 = 3 := by kernel_rfl
@[go_sem] theorem Tryz.by45 : Tryz.prog.bytesOf 45 = 32 := by kernel_rfl
attribute [go_sem] Tryz.underlying45
@[go_sem] theorem Tryz.ze45 : zeroOf Tryz.prog 45 = some [CV.d (D.lit (Value.int IntKind.i64 0)), CV.d (D.lit (Value.int IntKind.i64 0)), CV.d (D.lit (Value.string ⟨#[]⟩))] := by kernel_rfl
@[go_sem] theorem Tryz.zo45 : zeroOK Tryz.prog 45 = true := by kernel_rfl
@[go_sem] theorem Tryz.pl45 : structPl Tryz.prog 45 = some [(0, 1), (1, 1), (2, 1)] := by kernel_rfl
attribute [go_sem] Tryz.stoodInHeld45 Tryz.eqGuardType45
@[go_sem] theorem Tryz.cl46 : Tryz.prog.cellsOf 46 = 3 := by kernel_rfl
@[go_sem] theorem Tryz.by46 : Tryz.prog.bytesOf 46 = 32 := by kernel_rfl
attribute [go_sem] Tryz.underlying46
@[go_sem] theorem Tryz.ze46 : zeroOf Tryz.prog 46 = some [CV.d (D.lit (Value.int IntKind.i64 0)), CV.d (D.lit (Value.int IntKind.i64 0)), CV.d (D.lit (Value.string ⟨#[]⟩))] := by kernel_rfl
@[go_sem] theorem Tryz.zo46 : zeroOK Tryz.prog 46 = true := by kernel_rfl
@[go_sem] theorem Tryz.pl46 : structPl Tryz.prog 46 = some [(0, 1), (1, 1), (2, 1)] := by kernel_rfl
attribute [go_sem] Tryz.stoodInHeld46 Tryz.eqGuardType46
@[go_sem] theorem Tryz.cl53 : Tryz.prog.cellsOf 53 = 1 := by kernel_rfl
@[go_sem] theorem Tryz.by53 : Tryz.prog.bytesOf 53 = 8 := by kernel_rfl
attribute [go_sem] Tryz.underlying53
@[go_sem] theorem Tryz.ze53 : zeroOf Tryz.prog 53 = some [CV.d (D.lit (Value.map none))] := by kernel_rfl
@[go_sem] theorem Tryz.zo53 : zeroOK Tryz.prog 53 = true := by kernel_rfl
@[go_sem] theorem Tryz.cl54 : Tryz.prog.cellsOf 54 = 1 := by kernel_rfl
@[go_sem] theorem Tryz.by54 : Tryz.prog.bytesOf 54 = 24 := by kernel_rfl
attribute [go_sem] Tryz.underlying54
@[go_sem] theorem Tryz.ze54 : zeroOf Tryz.prog 54 = some [CV.full []] := by kernel_rfl
@[go_sem] theorem Tryz.zo54 : zeroOK Tryz.prog 54 = true := by kernel_rfl
@[go_sem] theorem Tryz.cl55 : Tryz.prog.cellsOf 55 = 7 := by kernel_rfl
@[go_sem] theorem Tryz.by55 : Tryz.prog.bytesOf 55 = 72 := by kernel_rfl
attribute [go_sem] Tryz.underlying55
@[go_sem] theorem Tryz.ze55 : zeroOf Tryz.prog 55 = some [CV.d (D.lit (Value.int IntKind.i64 0)), CV.d (D.lit (Value.map none)), CV.full [], CV.d (D.lit (Value.int IntKind.i64 0)), CV.d (D.lit (Value.int IntKind.i64 0)), CV.d (D.lit (Value.bool false)), CV.d (D.lit (Value.int IntKind.i64 0))] := by kernel_rfl
@[go_sem] theorem Tryz.zo55 : zeroOK Tryz.prog 55 = true := by kernel_rfl
@[go_sem] theorem Tryz.pl55 : structPl Tryz.prog 55 = some [(0, 1), (1, 1), (2, 1), (3, 1), (4, 1), (5, 1), (6, 1)] := by kernel_rfl
attribute [go_sem] Tryz.stoodInHeld55 Tryz.eqGuardType55
@[go_sem] theorem Tryz.cl56 : Tryz.prog.cellsOf 56 = 7 := by kernel_rfl
@[go_sem] theorem Tryz.by56 : Tryz.prog.bytesOf 56 = 72 := by kernel_rfl
attribute [go_sem] Tryz.underlying56
@[go_sem] theorem Tryz.ze56 : zeroOf Tryz.prog 56 = some [CV.d (D.lit (Value.int IntKind.i64 0)), CV.d (D.lit (Value.map none)), CV.full [], CV.d (D.lit (Value.int IntKind.i64 0)), CV.d (D.lit (Value.int IntKind.i64 0)), CV.d (D.lit (Value.bool false)), CV.d (D.lit (Value.int IntKind.i64 0))] := by kernel_rfl
@[go_sem] theorem Tryz.zo56 : zeroOK Tryz.prog 56 = true := by kernel_rfl
@[go_sem] theorem Tryz.pl56 : structPl Tryz.prog 56 = some [(0, 1), (1, 1), (2, 1), (3, 1), (4, 1), (5, 1), (6, 1)] := by kernel_rfl
attribute [go_sem] Tryz.stoodInHeld56 Tryz.eqGuardType56
@[go_sem] theorem Tryz.cl57 : Tryz.prog.cellsOf 57 = 1 := by kernel_rfl
@[go_sem] theorem Tryz.by57 : Tryz.prog.bytesOf 57 = 24 := by kernel_rfl
attribute [go_sem] Tryz.underlying57
@[go_sem] theorem Tryz.ze57 : zeroOf Tryz.prog 57 = some [CV.full []] := by kernel_rfl
@[go_sem] theorem Tryz.zo57 : zeroOK Tryz.prog 57 = true := by kernel_rfl
@[go_sem] theorem Tryz.cl58 : Tryz.prog.cellsOf 58 = 1 := by kernel_rfl
@[go_sem] theorem Tryz.by58 : Tryz.prog.bytesOf 58 = 24 := by kernel_rfl
attribute [go_sem] Tryz.underlying58
@[go_sem] theorem Tryz.ze58 : zeroOf Tryz.prog 58 = some [CV.full []] := by kernel_rfl
@[go_sem] theorem Tryz.zo58 : zeroOK Tryz.prog 58 = true := by kernel_rfl
@[go_sem] theorem Tryz.cl59 : Tryz.prog.cellsOf 59 = 6 := by kernel_rfl
@[go_sem] theorem Tryz.by59 : Tryz.prog.bytesOf 59 = 80 := by kernel_rfl
attribute [go_sem] Tryz.underlying59
@[go_sem] theorem Tryz.ze59 : zeroOf Tryz.prog 59 = some [CV.full [], CV.full [], CV.d (D.lit (Value.int IntKind.i64 0)), CV.d (D.lit (Value.int IntKind.i64 0)), CV.d (D.lit (Value.bool false)), CV.d (D.lit (Value.int IntKind.i64 0))] := by kernel_rfl
@[go_sem] theorem Tryz.zo59 : zeroOK Tryz.prog 59 = true := by kernel_rfl
@[go_sem] theorem Tryz.pl59 : structPl Tryz.prog 59 = some [(0, 1), (1, 1), (2, 1), (3, 1), (4, 1), (5, 1)] := by kernel_rfl
attribute [go_sem] Tryz.stoodInHeld59 Tryz.eqGuardType59
@[go_sem] theorem Tryz.cl60 : Tryz.prog.cellsOf 60 = 6 := by kernel_rfl
@[go_sem] theorem Tryz.by60 : Tryz.prog.bytesOf 60 = 80 := by kernel_rfl
attribute [go_sem] Tryz.underlying60
@[go_sem] theorem Tryz.ze60 : zeroOf Tryz.prog 60 = some [CV.full [], CV.full [], CV.d (D.lit (Value.int IntKind.i64 0)), CV.d (D.lit (Value.int IntKind.i64 0)), CV.d (D.lit (Value.bool false)), CV.d (D.lit (Value.int IntKind.i64 0))] := by kernel_rfl
@[go_sem] theorem Tryz.zo60 : zeroOK Tryz.prog 60 = true := by kernel_rfl
@[go_sem] theorem Tryz.pl60 : structPl Tryz.prog 60 = some [(0, 1), (1, 1), (2, 1), (3, 1), (4, 1), (5, 1)] := by kernel_rfl
attribute [go_sem] Tryz.stoodInHeld60 Tryz.eqGuardType60
@[go_sem] theorem Tryz.cl63 : Tryz.prog.cellsOf 63 = 1 := by kernel_rfl
@[go_sem] theorem Tryz.by63 : Tryz.prog.bytesOf 63 = 8 := by kernel_rfl
attribute [go_sem] Tryz.underlying63
@[go_sem] theorem Tryz.ze63 : zeroOf Tryz.prog 63 = some [CV.d (D.lit (Value.pointer none))] := by kernel_rfl
@[go_sem] theorem Tryz.zo63 : zeroOK Tryz.prog 63 = true := by kernel_rfl
@[go_sem] theorem Tryz.cl66 : Tryz.prog.cellsOf 66 = 5 := by kernel_rfl
@[go_sem] theorem Tryz.by66 : Tryz.prog.bytesOf 66 = 40 := by kernel_rfl
attribute [go_sem] Tryz.underlying66
@[go_sem] theorem Tryz.ze66 : zeroOf Tryz.prog 66 = some [CV.d (D.lit (Value.pointer none)), CV.d (D.lit (Value.pointer none)), CV.d (D.lit (Value.int IntKind.i64 0)), CV.d (D.lit (Value.map none)), CV.d (D.lit (Value.bool false))] := by kernel_rfl
@[go_sem] theorem Tryz.zo66 : zeroOK Tryz.prog 66 = true := by kernel_rfl
@[go_sem] theorem Tryz.pl66 : structPl Tryz.prog 66 = some [(0, 1), (1, 1), (2, 1), (3, 1), (4, 1)] := by kernel_rfl
attribute [go_sem] Tryz.stoodInHeld66 Tryz.eqGuardType66
@[go_sem] theorem Tryz.cl67 : Tryz.prog.cellsOf 67 = 5 := by kernel_rfl
@[go_sem] theorem Tryz.by67 : Tryz.prog.bytesOf 67 = 40 := by kernel_rfl
attribute [go_sem] Tryz.underlying67
@[go_sem] theorem Tryz.ze67 : zeroOf Tryz.prog 67 = some [CV.d (D.lit (Value.pointer none)), CV.d (D.lit (Value.pointer none)), CV.d (D.lit (Value.int IntKind.i64 0)), CV.d (D.lit (Value.map none)), CV.d (D.lit (Value.bool false))] := by kernel_rfl
@[go_sem] theorem Tryz.zo67 : zeroOK Tryz.prog 67 = true := by kernel_rfl
@[go_sem] theorem Tryz.pl67 : structPl Tryz.prog 67 = some [(0, 1), (1, 1), (2, 1), (3, 1), (4, 1)] := by kernel_rfl
attribute [go_sem] Tryz.stoodInHeld67 Tryz.eqGuardType67
@[go_sem] theorem Tryz.cl69 : Tryz.prog.cellsOf 69 = 1 := by kernel_rfl
@[go_sem] theorem Tryz.by69 : Tryz.prog.bytesOf 69 = 8 := by kernel_rfl
attribute [go_sem] Tryz.underlying69
@[go_sem] theorem Tryz.ze69 : zeroOf Tryz.prog 69 = some [CV.d (D.lit (Value.pointer none))] := by kernel_rfl
@[go_sem] theorem Tryz.zo69 : zeroOK Tryz.prog 69 = true := by kernel_rfl
@[go_sem] theorem Tryz.cl70 : Tryz.prog.cellsOf 70 = 1 := by kernel_rfl
@[go_sem] theorem Tryz.by70 : Tryz.prog.bytesOf 70 = 24 := by kernel_rfl
attribute [go_sem] Tryz.underlying70
@[go_sem] theorem Tryz.ze70 : zeroOf Tryz.prog 70 = some [CV.full []] := by kernel_rfl
@[go_sem] theorem Tryz.zo70 : zeroOK Tryz.prog 70 = true := by kernel_rfl
@[go_sem] theorem Tryz.cl71 : Tryz.prog.cellsOf 71 = 5 := by kernel_rfl
@[go_sem] theorem Tryz.by71 : Tryz.prog.bytesOf 71 = 56 := by kernel_rfl
attribute [go_sem] Tryz.underlying71
@[go_sem] theorem Tryz.ze71 : zeroOf Tryz.prog 71 = some [CV.d (D.lit (Value.pointer none)), CV.d (D.lit (Value.pointer none)), CV.d (D.lit (Value.int IntKind.i64 0)), CV.full [], CV.d (D.lit (Value.bool false))] := by kernel_rfl
@[go_sem] theorem Tryz.zo71 : zeroOK Tryz.prog 71 = true := by kernel_rfl
@[go_sem] theorem Tryz.pl71 : structPl Tryz.prog 71 = some [(0, 1), (1, 1), (2, 1), (3, 1), (4, 1)] := by kernel_rfl
attribute [go_sem] Tryz.stoodInHeld71 Tryz.eqGuardType71
@[go_sem] theorem Tryz.cl72 : Tryz.prog.cellsOf 72 = 5 := by kernel_rfl
@[go_sem] theorem Tryz.by72 : Tryz.prog.bytesOf 72 = 56 := by kernel_rfl
attribute [go_sem] Tryz.underlying72
@[go_sem] theorem Tryz.ze72 : zeroOf Tryz.prog 72 = some [CV.d (D.lit (Value.pointer none)), CV.d (D.lit (Value.pointer none)), CV.d (D.lit (Value.int IntKind.i64 0)), CV.full [], CV.d (D.lit (Value.bool false))] := by kernel_rfl
@[go_sem] theorem Tryz.zo72 : zeroOK Tryz.prog 72 = true := by kernel_rfl
@[go_sem] theorem Tryz.pl72 : structPl Tryz.prog 72 = some [(0, 1), (1, 1), (2, 1), (3, 1), (4, 1)] := by kernel_rfl
attribute [go_sem] Tryz.stoodInHeld72 Tryz.eqGuardType72
@[go_sem] theorem Tryz.cl75 : Tryz.prog.cellsOf 75 = 8 := by kernel_rfl
@[go_sem] theorem Tryz.by75 : Tryz.prog.bytesOf 75 = 80 := by kernel_rfl
attribute [go_sem] Tryz.underlying75
@[go_sem] theorem Tryz.ze75 : zeroOf Tryz.prog 75 = some [CV.d (D.lit (Value.pointer none)), CV.d (D.lit (Value.int IntKind.i64 0)), CV.d (D.lit (Value.int IntKind.i64 0)), CV.d (D.lit (Value.int IntKind.i64 0)), CV.d (D.lit (Value.int IntKind.i64 0)), CV.d (D.lit (Value.int IntKind.i64 0)), CV.full [], CV.d (D.lit (Value.bool false))] := by kernel_rfl
@[go_sem] theorem Tryz.zo75 : zeroOK Tryz.prog 75 = true := by kernel_rfl
@[go_sem] theorem Tryz.pl75 : structPl Tryz.prog 75 = some [(0, 1), (1, 1), (2, 1), (3, 1), (4, 1), (5, 1), (6, 1), (7, 1)] := by kernel_rfl
attribute [go_sem] Tryz.stoodInHeld75 Tryz.eqGuardType75
@[go_sem] theorem Tryz.cl76 : Tryz.prog.cellsOf 76 = 8 := by kernel_rfl
@[go_sem] theorem Tryz.by76 : Tryz.prog.bytesOf 76 = 80 := by kernel_rfl
attribute [go_sem] Tryz.underlying76
@[go_sem] theorem Tryz.ze76 : zeroOf Tryz.prog 76 = some [CV.d (D.lit (Value.pointer none)), CV.d (D.lit (Value.int IntKind.i64 0)), CV.d (D.lit (Value.int IntKind.i64 0)), CV.d (D.lit (Value.int IntKind.i64 0)), CV.d (D.lit (Value.int IntKind.i64 0)), CV.d (D.lit (Value.int IntKind.i64 0)), CV.full [], CV.d (D.lit (Value.bool false))] := by kernel_rfl
@[go_sem] theorem Tryz.zo76 : zeroOK Tryz.prog 76 = true := by kernel_rfl
@[go_sem] theorem Tryz.pl76 : structPl Tryz.prog 76 = some [(0, 1), (1, 1), (2, 1), (3, 1), (4, 1), (5, 1), (6, 1), (7, 1)] := by kernel_rfl
attribute [go_sem] Tryz.stoodInHeld76 Tryz.eqGuardType76
@[go_sem] theorem Tryz.cl84 : Tryz.prog.cellsOf 84 = 1 := by kernel_rfl
@[go_sem] theorem Tryz.by84 : Tryz.prog.bytesOf 84 = 24 := by kernel_rfl
attribute [go_sem] Tryz.underlying84
@[go_sem] theorem Tryz.ze84 : zeroOf Tryz.prog 84 = some [CV.full []] := by kernel_rfl
@[go_sem] theorem Tryz.zo84 : zeroOK Tryz.prog 84 = true := by kernel_rfl
@[go_sem] theorem Tryz.cl85 : Tryz.prog.cellsOf 85 = 1 := by kernel_rfl
@[go_sem] theorem Tryz.by85 : Tryz.prog.bytesOf 85 = 8 := by kernel_rfl
attribute [go_sem] Tryz.underlying85
@[go_sem] theorem Tryz.ze85 : zeroOf Tryz.prog 85 = some [CV.d (D.lit (Value.pointer none))] := by kernel_rfl
@[go_sem] theorem Tryz.zo85 : zeroOK Tryz.prog 85 = true := by kernel_rfl
@[go_sem] theorem Tryz.pl85 : structPl Tryz.prog 85 = some [(0, 1)] := by kernel_rfl
attribute [go_sem] Tryz.stoodInHeld85 Tryz.eqGuardType85
@[go_sem] theorem Tryz.cl86 : Tryz.prog.cellsOf 86 = 1 := by kernel_rfl
@[go_sem] theorem Tryz.by86 : Tryz.prog.bytesOf 86 = 8 := by kernel_rfl
attribute [go_sem] Tryz.underlying86
@[go_sem] theorem Tryz.ze86 : zeroOf Tryz.prog 86 = some [CV.d (D.lit (Value.pointer none))] := by kernel_rfl
@[go_sem] theorem Tryz.zo86 : zeroOK Tryz.prog 86 = true := by kernel_rfl
@[go_sem] theorem Tryz.pl86 : structPl Tryz.prog 86 = some [(0, 1)] := by kernel_rfl
attribute [go_sem] Tryz.stoodInHeld86 Tryz.eqGuardType86
@[go_sem] theorem Tryz.cl87 : Tryz.prog.cellsOf 87 = 1 := by kernel_rfl
@[go_sem] theorem Tryz.by87 : Tryz.prog.bytesOf 87 = 8 := by kernel_rfl
attribute [go_sem] Tryz.underlying87
@[go_sem] theorem Tryz.ze87 : zeroOf Tryz.prog 87 = some [CV.d (D.lit (Value.pointer none))] := by kernel_rfl
@[go_sem] theorem Tryz.zo87 : zeroOK Tryz.prog 87 = true := by kernel_rfl
@[go_sem] theorem Tryz.pl87 : structPl Tryz.prog 87 = some [(0, 1)] := by kernel_rfl
attribute [go_sem] Tryz.stoodInHeld87 Tryz.eqGuardType87
@[go_sem] theorem Tryz.cl88 : Tryz.prog.cellsOf 88 = 1 := by kernel_rfl
@[go_sem] theorem Tryz.by88 : Tryz.prog.bytesOf 88 = 8 := by kernel_rfl
attribute [go_sem] Tryz.underlying88
@[go_sem] theorem Tryz.ze88 : zeroOf Tryz.prog 88 = some [CV.d (D.lit (Value.pointer none))] := by kernel_rfl
@[go_sem] theorem Tryz.zo88 : zeroOK Tryz.prog 88 = true := by kernel_rfl
@[go_sem] theorem Tryz.pl88 : structPl Tryz.prog 88 = some [(0, 1)] := by kernel_rfl
attribute [go_sem] Tryz.stoodInHeld88 Tryz.eqGuardType88
@[go_sem] theorem Tryz.cl96 : Tryz.prog.cellsOf 96 = 2 := by kernel_rfl
@[go_sem] theorem Tryz.by96 : Tryz.prog.bytesOf 96 = 24 := by kernel_rfl
attribute [go_sem] Tryz.underlying96
@[go_sem] theorem Tryz.ze96 : zeroOf Tryz.prog 96 = some [CV.d (D.lit (Value.int IntKind.i64 0)), CV.d (D.lit (Value.string ⟨#[]⟩))] := by kernel_rfl
@[go_sem] theorem Tryz.zo96 : zeroOK Tryz.prog 96 = true := by kernel_rfl
@[go_sem] theorem Tryz.pl96 : structPl Tryz.prog 96 = some [(0, 1), (1, 1)] := by kernel_rfl
attribute [go_sem] Tryz.stoodInHeld96 Tryz.eqGuardType96
@[go_sem] theorem Tryz.cl97 : Tryz.prog.cellsOf 97 = 2 := by kernel_rfl
@[go_sem] theorem Tryz.by97 : Tryz.prog.bytesOf 97 = 24 := by kernel_rfl
attribute [go_sem] Tryz.underlying97
@[go_sem] theorem Tryz.ze97 : zeroOf Tryz.prog 97 = some [CV.d (D.lit (Value.int IntKind.i64 0)), CV.d (D.lit (Value.string ⟨#[]⟩))] := by kernel_rfl
@[go_sem] theorem Tryz.zo97 : zeroOK Tryz.prog 97 = true := by kernel_rfl
@[go_sem] theorem Tryz.pl97 : structPl Tryz.prog 97 = some [(0, 1), (1, 1)] := by kernel_rfl
attribute [go_sem] Tryz.stoodInHeld97 Tryz.eqGuardType97
@[go_sem] theorem Tryz.cl98 : Tryz.prog.cellsOf 98 = 8 := by kernel_rfl
@[go_sem] theorem Tryz.by98 : Tryz.prog.bytesOf 98 = 80 := by kernel_rfl
attribute [go_sem] Tryz.underlying98
@[go_sem] theorem Tryz.ze98 : zeroOf Tryz.prog 98 = some [CV.d (D.lit (Value.pointer none)), CV.d (D.lit (Value.int IntKind.i64 0)), CV.d (D.lit (Value.int IntKind.i64 0)), CV.d (D.lit (Value.int IntKind.i64 0)), CV.d (D.lit (Value.int IntKind.i64 0)), CV.d (D.lit (Value.int IntKind.i64 0)), CV.full [], CV.d (D.lit (Value.bool false))] := by kernel_rfl
@[go_sem] theorem Tryz.zo98 : zeroOK Tryz.prog 98 = true := by kernel_rfl
@[go_sem] theorem Tryz.pl98 : structPl Tryz.prog 98 = some [(0, 1), (1, 1), (2, 1), (3, 1), (4, 1), (5, 1), (6, 1), (7, 1)] := by kernel_rfl
attribute [go_sem] Tryz.stoodInHeld98 Tryz.eqGuardType98
@[go_sem] theorem Tryz.cl99 : Tryz.prog.cellsOf 99 = 8 := by kernel_rfl
@[go_sem] theorem Tryz.by99 : Tryz.prog.bytesOf 99 = 80 := by kernel_rfl
attribute [go_sem] Tryz.underlying99
@[go_sem] theorem Tryz.ze99 : zeroOf Tryz.prog 99 = some [CV.d (D.lit (Value.pointer none)), CV.d (D.lit (Value.int IntKind.i64 0)), CV.d (D.lit (Value.int IntKind.i64 0)), CV.d (D.lit (Value.int IntKind.i64 0)), CV.d (D.lit (Value.int IntKind.i64 0)), CV.d (D.lit (Value.int IntKind.i64 0)), CV.full [], CV.d (D.lit (Value.bool false))] := by kernel_rfl
@[go_sem] theorem Tryz.zo99 : zeroOK Tryz.prog 99 = true := by kernel_rfl
@[go_sem] theorem Tryz.pl99 : structPl Tryz.prog 99 = some [(0, 1), (1, 1), (2, 1), (3, 1), (4, 1), (5, 1), (6, 1), (7, 1)] := by kernel_rfl
attribute [go_sem] Tryz.stoodInHeld99 Tryz.eqGuardType99
@[go_sem] theorem Tryz.cl109 : Tryz.prog.cellsOf 109 = 1 := by kernel_rfl
@[go_sem] theorem Tryz.by109 : Tryz.prog.bytesOf 109 = 8 := by kernel_rfl
attribute [go_sem] Tryz.underlying109
@[go_sem] theorem Tryz.ze109 : zeroOf Tryz.prog 109 = some [CV.d (D.lit (Value.pointer none))] := by kernel_rfl
@[go_sem] theorem Tryz.zo109 : zeroOK Tryz.prog 109 = true := by kernel_rfl
@[go_sem] theorem Tryz.cl111 : Tryz.prog.cellsOf 111 = 1 := by kernel_rfl
@[go_sem] theorem Tryz.by111 : Tryz.prog.bytesOf 111 = 8 := by kernel_rfl
attribute [go_sem] Tryz.underlying111
@[go_sem] theorem Tryz.ze111 : zeroOf Tryz.prog 111 = some [CV.d (D.lit (Value.int IntKind.u64 0))] := by kernel_rfl
@[go_sem] theorem Tryz.zo111 : zeroOK Tryz.prog 111 = true := by kernel_rfl
@[go_sem] theorem Tryz.cl113 : Tryz.prog.cellsOf 113 = 3 := by kernel_rfl
@[go_sem] theorem Tryz.by113 : Tryz.prog.bytesOf 113 = 32 := by kernel_rfl
attribute [go_sem] Tryz.underlying113
@[go_sem] theorem Tryz.ze113 : zeroOf Tryz.prog 113 = some [CV.d (D.lit (Value.string ⟨#[]⟩)), CV.d (D.lit (Value.int IntKind.i64 0)), CV.d (D.lit (Value.int IntKind.i64 0))] := by kernel_rfl
@[go_sem] theorem Tryz.zo113 : zeroOK Tryz.prog 113 = true := by kernel_rfl
@[go_sem] theorem Tryz.pl113 : structPl Tryz.prog 113 = some [(0, 1), (1, 1), (2, 1)] := by kernel_rfl
attribute [go_sem] Tryz.stoodInHeld113 Tryz.eqGuardType113
@[go_sem] theorem Tryz.cl114 : Tryz.prog.cellsOf 114 = 3 := by kernel_rfl
@[go_sem] theorem Tryz.by114 : Tryz.prog.bytesOf 114 = 32 := by kernel_rfl
attribute [go_sem] Tryz.underlying114
@[go_sem] theorem Tryz.ze114 : zeroOf Tryz.prog 114 = some [CV.d (D.lit (Value.string ⟨#[]⟩)), CV.d (D.lit (Value.int IntKind.i64 0)), CV.d (D.lit (Value.int IntKind.i64 0))] := by kernel_rfl
@[go_sem] theorem Tryz.zo114 : zeroOK Tryz.prog 114 = true := by kernel_rfl
@[go_sem] theorem Tryz.pl114 : structPl Tryz.prog 114 = some [(0, 1), (1, 1), (2, 1)] := by kernel_rfl
attribute [go_sem] Tryz.stoodInHeld114 Tryz.eqGuardType114
@[go_sem] theorem Tryz.cl116 : Tryz.prog.cellsOf 116 = 2 := by kernel_rfl
@[go_sem] theorem Tryz.by116 : Tryz.prog.bytesOf 116 = 24 := by kernel_rfl
attribute [go_sem] Tryz.underlying116
@[go_sem] theorem Tryz.ze116 : zeroOf Tryz.prog 116 = some [CV.d (D.lit (Value.int IntKind.i64 0)), CV.d (D.lit (Value.string ⟨#[]⟩))] := by kernel_rfl
@[go_sem] theorem Tryz.zo116 : zeroOK Tryz.prog 116 = true := by kernel_rfl
@[go_sem] theorem Tryz.pl116 : structPl Tryz.prog 116 = some [(0, 1), (1, 1)] := by kernel_rfl
attribute [go_sem] Tryz.stoodInHeld116 Tryz.eqGuardType116
@[go_sem] theorem Tryz.cl117 : Tryz.prog.cellsOf 117 = 2 := by kernel_rfl
@[go_sem] theorem Tryz.by117 : Tryz.prog.bytesOf 117 = 24 := by kernel_rfl
attribute [go_sem] Tryz.underlying117
@[go_sem] theorem Tryz.ze117 : zeroOf Tryz.prog 117 = some [CV.d (D.lit (Value.int IntKind.i64 0)), CV.d (D.lit (Value.string ⟨#[]⟩))] := by kernel_rfl
@[go_sem] theorem Tryz.zo117 : zeroOK Tryz.prog 117 = true := by kernel_rfl
@[go_sem] theorem Tryz.pl117 : structPl Tryz.prog 117 = some [(0, 1), (1, 1)] := by kernel_rfl
attribute [go_sem] Tryz.stoodInHeld117 Tryz.eqGuardType117
@[go_sem] theorem Tryz.cl120 : Tryz.prog.cellsOf 120 = 1 := by kernel_rfl
@[go_sem] theorem Tryz.by120 : Tryz.prog.bytesOf 120 = 24 := by kernel_rfl
attribute [go_sem] Tryz.underlying120
@[go_sem] theorem Tryz.ze120 : zeroOf Tryz.prog 120 = some [CV.full []] := by kernel_rfl
@[go_sem] theorem Tryz.zo120 : zeroOK Tryz.prog 120 = true := by kernel_rfl
@[go_sem] theorem Tryz.cl122 : Tryz.prog.cellsOf 122 = 1 := by kernel_rfl
@[go_sem] theorem Tryz.by122 : Tryz.prog.bytesOf 122 = 24 := by kernel_rfl
attribute [go_sem] Tryz.underlying122
@[go_sem] theorem Tryz.ze122 : zeroOf Tryz.prog 122 = some [CV.full []] := by kernel_rfl
@[go_sem] theorem Tryz.zo122 : zeroOK Tryz.prog 122 = true := by kernel_rfl
@[go_sem] theorem Tryz.cl126 : Tryz.prog.cellsOf 126 = 2 := by kernel_rfl
@[go_sem] theorem Tryz.by126 : Tryz.prog.bytesOf 126 = 24 := by kernel_rfl
attribute [go_sem] Tryz.underlying126
@[go_sem] theorem Tryz.ze126 : zeroOf Tryz.prog 126 = some [CV.d (D.lit (Value.int IntKind.i64 0)), CV.d (D.lit (Value.string ⟨#[]⟩))] := by kernel_rfl
@[go_sem] theorem Tryz.zo126 : zeroOK Tryz.prog 126 = true := by kernel_rfl
@[go_sem] theorem Tryz.pl126 : structPl Tryz.prog 126 = some [(0, 1), (1, 1)] := by kernel_rfl
attribute [go_sem] Tryz.stoodInHeld126 Tryz.eqGuardType126
@[go_sem] theorem Tryz.cl127 : Tryz.prog.cellsOf 127 = 2 := by kernel_rfl
@[go_sem] theorem Tryz.by127 : Tryz.prog.bytesOf 127 = 24 := by kernel_rfl
attribute [go_sem] Tryz.underlying127
@[go_sem] theorem Tryz.ze127 : zeroOf Tryz.prog 127 = some [CV.d (D.lit (Value.int IntKind.i64 0)), CV.d (D.lit (Value.string ⟨#[]⟩))] := by kernel_rfl
@[go_sem] theorem Tryz.zo127 : zeroOK Tryz.prog 127 = true := by kernel_rfl
@[go_sem] theorem Tryz.pl127 : structPl Tryz.prog 127 = some [(0, 1), (1, 1)] := by kernel_rfl
attribute [go_sem] Tryz.stoodInHeld127 Tryz.eqGuardType127
@[go_sem] theorem Tryz.cl130 : Tryz.prog.cellsOf 130 = 1 := by kernel_rfl
@[go_sem] theorem Tryz.by130 : Tryz.prog.bytesOf 130 = 8 := by kernel_rfl
attribute [go_sem] Tryz.underlying130
@[go_sem] theorem Tryz.ze130 : zeroOf Tryz.prog 130 = some [CV.d (D.lit (Value.pointer none))] := by kernel_rfl
@[go_sem] theorem Tryz.zo130 : zeroOK Tryz.prog 130 = true := by kernel_rfl
@[go_sem] theorem Tryz.cl132 : Tryz.prog.cellsOf 132 = 4 := by kernel_rfl
@[go_sem] theorem Tryz.by132 : Tryz.prog.bytesOf 132 = 48 := by kernel_rfl
attribute [go_sem] Tryz.underlying132
@[go_sem] theorem Tryz.ze132 : zeroOf Tryz.prog 132 = some [CV.d (D.lit (Value.int IntKind.i64 0)), CV.d (D.lit (Value.string ⟨#[]⟩)), CV.d (D.lit (Value.string ⟨#[]⟩)), CV.d (D.lit (Value.bool false))] := by kernel_rfl
@[go_sem] theorem Tryz.zo132 : zeroOK Tryz.prog 132 = true := by kernel_rfl
@[go_sem] theorem Tryz.pl132 : structPl Tryz.prog 132 = some [(0, 1), (1, 1), (2, 1), (3, 1)] := by kernel_rfl
attribute [go_sem] Tryz.stoodInHeld132 Tryz.eqGuardType132
@[go_sem] theorem Tryz.cl133 : Tryz.prog.cellsOf 133 = 4 := by kernel_rfl
@[go_sem] theorem Tryz.by133 : Tryz.prog.bytesOf 133 = 48 := by kernel_rfl
attribute [go_sem] Tryz.underlying133
@[go_sem] theorem Tryz.ze133 : zeroOf Tryz.prog 133 = some [CV.d (D.lit (Value.int IntKind.i64 0)), CV.d (D.lit (Value.string ⟨#[]⟩)), CV.d (D.lit (Value.string ⟨#[]⟩)), CV.d (D.lit (Value.bool false))] := by kernel_rfl
@[go_sem] theorem Tryz.zo133 : zeroOK Tryz.prog 133 = true := by kernel_rfl
@[go_sem] theorem Tryz.pl133 : structPl Tryz.prog 133 = some [(0, 1), (1, 1), (2, 1), (3, 1)] := by kernel_rfl
attribute [go_sem] Tryz.stoodInHeld133 Tryz.eqGuardType133
@[go_sem] theorem Tryz.cl143 : Tryz.prog.cellsOf 143 = 3 := by kernel_rfl
@[go_sem] theorem Tryz.by143 : Tryz.prog.bytesOf 143 = 32 := by kernel_rfl
attribute [go_sem] Tryz.underlying143
@[go_sem] theorem Tryz.ze143 : zeroOf Tryz.prog 143 = some [CV.d (D.lit (Value.string ⟨#[]⟩)), CV.d (D.lit (Value.int IntKind.i64 0)), CV.d (D.lit (Value.int IntKind.i64 0))] := by kernel_rfl
@[go_sem] theorem Tryz.zo143 : zeroOK Tryz.prog 143 = true := by kernel_rfl
@[go_sem] theorem Tryz.pl143 : structPl Tryz.prog 143 = some [(0, 1), (1, 1), (2, 1)] := by kernel_rfl
attribute [go_sem] Tryz.stoodInHeld143 Tryz.eqGuardType143
@[go_sem] theorem Tryz.cl144 : Tryz.prog.cellsOf 144 = 3 := by kernel_rfl
@[go_sem] theorem Tryz.by144 : Tryz.prog.bytesOf 144 = 32 := by kernel_rfl
attribute [go_sem] Tryz.underlying144
@[go_sem] theorem Tryz.ze144 : zeroOf Tryz.prog 144 = some [CV.d (D.lit (Value.string ⟨#[]⟩)), CV.d (D.lit (Value.int IntKind.i64 0)), CV.d (D.lit (Value.int IntKind.i64 0))] := by kernel_rfl
@[go_sem] theorem Tryz.zo144 : zeroOK Tryz.prog 144 = true := by kernel_rfl
@[go_sem] theorem Tryz.pl144 : structPl Tryz.prog 144 = some [(0, 1), (1, 1), (2, 1)] := by kernel_rfl
attribute [go_sem] Tryz.stoodInHeld144 Tryz.eqGuardType144
@[go_sem] theorem Tryz.cl150 : Tryz.prog.cellsOf 150 = 1 := by kernel_rfl
@[go_sem] theorem Tryz.by150 : Tryz.prog.bytesOf 150 = 8 := by kernel_rfl
attribute [go_sem] Tryz.underlying150
@[go_sem] theorem Tryz.ze150 : zeroOf Tryz.prog 150 = some [CV.d (D.lit (Value.int IntKind.i64 0))] := by kernel_rfl
@[go_sem] theorem Tryz.zo150 : zeroOK Tryz.prog 150 = true := by kernel_rfl
@[go_sem] theorem Tryz.pl150 : structPl Tryz.prog 150 = some [(0, 1)] := by kernel_rfl
attribute [go_sem] Tryz.stoodInHeld150 Tryz.eqGuardType150
@[go_sem] theorem Tryz.cl151 : Tryz.prog.cellsOf 151 = 1 := by kernel_rfl
@[go_sem] theorem Tryz.by151 : Tryz.prog.bytesOf 151 = 8 := by kernel_rfl
attribute [go_sem] Tryz.underlying151
@[go_sem] theorem Tryz.ze151 : zeroOf Tryz.prog 151 = some [CV.d (D.lit (Value.int IntKind.i64 0))] := by kernel_rfl
@[go_sem] theorem Tryz.zo151 : zeroOK Tryz.prog 151 = true := by kernel_rfl
@[go_sem] theorem Tryz.pl151 : structPl Tryz.prog 151 = some [(0, 1)] := by kernel_rfl
attribute [go_sem] Tryz.stoodInHeld151 Tryz.eqGuardType151
@[go_sem] theorem Tryz.cl153 : Tryz.prog.cellsOf 153 = 1 := by kernel_rfl
@[go_sem] theorem Tryz.by153 : Tryz.prog.bytesOf 153 = 4 := by kernel_rfl
attribute [go_sem] Tryz.underlying153
@[go_sem] theorem Tryz.ze153 : zeroOf Tryz.prog 153 = some [CV.d (D.lit (Value.int IntKind.u32 0))] := by kernel_rfl
@[go_sem] theorem Tryz.zo153 : zeroOK Tryz.prog 153 = true := by kernel_rfl
@[go_sem] theorem Tryz.cl155 : Tryz.prog.cellsOf 155 = 1 := by kernel_rfl
@[go_sem] theorem Tryz.by155 : Tryz.prog.bytesOf 155 = 8 := by kernel_rfl
attribute [go_sem] Tryz.underlying155
@[go_sem] theorem Tryz.ze155 : zeroOf Tryz.prog 155 = some [CV.d (D.lit (Value.int IntKind.u64 0))] := by kernel_rfl
@[go_sem] theorem Tryz.zo155 : zeroOK Tryz.prog 155 = true := by kernel_rfl
@[go_sem] theorem Tryz.cl157 : Tryz.prog.cellsOf 157 = 256 := by kernel_rfl
@[go_sem] theorem Tryz.by157 : Tryz.prog.bytesOf 157 = 1024 := by kernel_rfl
attribute [go_sem] Tryz.underlying157
@[go_sem] theorem Tryz.cl161 : Tryz.prog.cellsOf 161 = 0 := by kernel_rfl
@[go_sem] theorem Tryz.by161 : Tryz.prog.bytesOf 161 = 0 := by kernel_rfl
attribute [go_sem] Tryz.underlying161
@[go_sem] theorem Tryz.ze161 : zeroOf Tryz.prog 161 = some [] := by kernel_rfl
@[go_sem] theorem Tryz.zo161 : zeroOK Tryz.prog 161 = true := by kernel_rfl
@[go_sem] theorem Tryz.cl162 : Tryz.prog.cellsOf 162 = 0 := by kernel_rfl
@[go_sem] theorem Tryz.by162 : Tryz.prog.bytesOf 162 = 0 := by kernel_rfl
attribute [go_sem] Tryz.underlying162
@[go_sem] theorem Tryz.ze162 : zeroOf Tryz.prog 162 = some [] := by kernel_rfl
@[go_sem] theorem Tryz.zo162 : zeroOK Tryz.prog 162 = true := by kernel_rfl
@[go_sem] theorem Tryz.pl162 : structPl Tryz.prog 162 = some [(0, 0)] := by kernel_rfl
attribute [go_sem] Tryz.stoodInHeld162 Tryz.eqGuardType162
@[go_sem] theorem Tryz.cl167 : Tryz.prog.cellsOf 167 = 1 := by kernel_rfl
@[go_sem] theorem Tryz.by167 : Tryz.prog.bytesOf 167 = 8 := by kernel_rfl
attribute [go_sem] Tryz.underlying167
@[go_sem] theorem Tryz.ze167 : zeroOf Tryz.prog 167 = some [CV.d (D.lit (Value.pointer none))] := by kernel_rfl
@[go_sem] theorem Tryz.zo167 : zeroOK Tryz.prog 167 = true := by kernel_rfl
@[go_sem] theorem Tryz.cl172 : Tryz.prog.cellsOf 172 = 1 := by kernel_rfl
@[go_sem] theorem Tryz.by172 : Tryz.prog.bytesOf 172 = 8 := by kernel_rfl
attribute [go_sem] Tryz.underlying172
@[go_sem] theorem Tryz.ze172 : zeroOf Tryz.prog 172 = some [CV.d (D.lit (Value.pointer none))] := by kernel_rfl
@[go_sem] theorem Tryz.zo172 : zeroOK Tryz.prog 172 = true := by kernel_rfl
end Go.Proofs

namespace Go.Proofs
open Go.PW
def dB (b : Bool) : RT := .d (.lit (.bool b))
def pA (x : List D) : PV := .agg (x.map .d)
def pD (x : D) : PV := .c (.d x)
@[go_sem] theorem pA_eq (x : List D) : pA x = .agg (x.map .d) := rfl
@[go_sem] theorem pD_eq (x : D) : pD x = .c (.d x) := rfl
@[go_sem] theorem dB_eq (b : Bool) : dB b = .d (.lit (.bool b)) := rfl
def dS (l : List UInt8) : D := .lit (.string ⟨l.toArray⟩)
def dI (n : Int) : D := .lit (.int .i64 n)
@[go_sem] theorem dS_eq (l : List UInt8) : dS l = .lit (.string ⟨l.toArray⟩) := rfl
@[go_sem] theorem dI_eq (n : Int) : dI n = .lit (.int .i64 n) := rfl
theorem Tryz.mixed : Tryz.prog.follows .mixedOrders = true := by kernel_rfl
theorem Tryz.pure {f : FuncId} {fn : Func} {c : Code} {md : List Nat} (hf : Tryz.prog.funcs[f]? = some fn) (hb : fn.body = some c) (hext : ∀ (args : Array Value) (w : World), (callFunc f args).run Tryz.prog w = .ok (.enter f args) w)
    (hc : codeOK (envOf Tryz.prog [] 0 md []) fn.ntmps c = true) {args : List PV} (hcl : args.all PV.closed = true) (hn : args.length ≤ fn.ntmps) {r : RV}
    (h : VC (envOf Tryz.prog [] 0 md []) noH noA c ⟨Ret Tryz.prog fn r, Ret Tryz.prog fn r, fun _ _ => False⟩ ⟨entry args, noH, noA⟩) : PureOK Tryz.prog f args r :=
  pure_ok (envOf_ok Tryz.mixed) hf hb hext hc hcl hn h
@[go_sem] theorem Tryz.bytesT : isBytes Tryz.prog 84 = true := by kernel_rfl
@[go_sem] theorem Tryz.strT : isStr Tryz.prog 9 = true := by kernel_rfl
theorem Tryz.appBytes : AppT Tryz.prog 84 5 1 1 := ⟨Tryz.underlying84, Tryz.cl5, Tryz.by5, Tryz.zo5, by decide, by decide⟩
theorem take_next {α : Type} {l : List α} {i : Nat} {x : α} (h : l[i]? = some x) : l.take (i + 1) = l.take i ++ [x] := by rw [List.take_add_one, h]; rfl
end Go.Proofs
