/-
  Parts of the proof, laid together: PwT, PwV, PwCa.
-/
import Derived.Test.YtghlemfokpfngaaQ14
import Derived.Test.YtghlemfokpfngaaProg
import Derived.KernelRfl

namespace Go.Proofs
open Go.PW
@[go_sem] theorem Try.cl2 : Try.prog.cellsOf 2 = 1 := by kernel_rfl
@[go_sem] theorem Try.by2 : Try.prog.bytesOf 2 = 8 := by kernel_rfl
attribute [go_sem] Try.underlying2
@[go_sem] theorem Try.ze2 : zeroOf Try.prog 2 = some [CV.d (D.lit (Value.int IntKind.i64 0))] := by kernel_rfl
@[go_sem] theorem Try.zo2 : zeroOK Try.prog 2 = true := by kernel_rfl
@[go_sem] theorem Try.cl3 : Try.prog.cellsOf 3 = 1 := by kernel_rfl
@[go_sem] theorem Try.by3 : Try.prog.bytesOf 3 = 8 := by kernel_rfl
attribute [go_sem] Try.underlying3
@[go_sem] theorem Try.ze3 : zeroOf Try.prog 3 = some [CV.d (D.lit (Value.int IntKind.i64 0))] := by kernel_rfl
@[go_sem] theorem Try.zo3 : zeroOK Try.prog 3 = true := by kernel_rfl
@[go_sem] theorem Try.cl4 : Try.prog.cellsOf 4 = 1 := by kernel_rfl
@[go_sem] theorem Try.by4 : Try.prog.bytesOf 4 = 1 := by kernel_rfl
attribute [go_sem] Try.underlying4
@[go_sem] theorem Try.ze4 : zeroOf Try.prog 4 = some [CV.d (D.lit (Value.bool false))] := by kernel_rfl
@[go_sem] theorem Try.zo4 : zeroOK Try.prog 4 = true := by kernel_rfl
@[go_sem] theorem Try.cl5 : Try.prog.cellsOf 5 = 1 := by kernel_rfl
@[go_sem] theorem Try.by5 : Try.prog.bytesOf 5 = 1 := by kernel_rfl
attribute [go_sem] Try.underlying5
@[go_sem] theorem Try.ze5 : zeroOf Try.prog 5 = some [CV.d (D.lit (Value.int IntKind.u8 0))] := by kernel_rfl
@[go_sem] theorem Try.zo5 : zeroOK Try.prog 5 = true := by kernel_rfl
@[go_sem] theorem Try.cl9 : Try.prog.cellsOf 9 = 1 := by kernel_rfl
@[go_sem] theorem Try.by9 : Try.prog.bytesOf 9 = 16 := by kernel_rfl
attribute [go_sem] Try.underlying9
@[go_sem] theorem Try.ze9 : zeroOf Try.prog 9 = some [CV.d (D.lit (Value.string ⟨#[]⟩))] := by kernel_rfl
@[go_sem] theorem Try.zo9 : zeroOK Try.prog 9 = true := by kernel_rfl
@[go_sem] theorem Try.cl12 : Try.prog.cellsOf 12 = 1 := by kernel_rfl
@[go_sem] theorem Try.by12 : Try.prog.bytesOf 12 = 8 := by kernel_rfl
attribute [go_sem] Try.underlying12
@[go_sem] theorem Try.ze12 : zeroOf Try.prog 12 = some [CV.d (D.lit (Value.int IntKind.u64 0))] := by kernel_rfl
@[go_sem] theorem Try.zo12 : zeroOK Try.prog 12 = true := by kernel_rfl
@[go_sem] theorem Try.cl13 : Try.prog.cellsOf 13 = 2 := by kernel_rfl
@[go_sem] theorem Try.by13 : Try.prog.bytesOf 13 = 24 := by kernel_rfl
attribute [go_sem] Try.underlying13
@[go_sem] theorem Try.ze13 : zeroOf Try.prog 13 = some [CV.d (D.lit (Value.string ⟨#[]⟩)), CV.d (D.lit (Value.int IntKind.u64 0))] := by kernel_rfl
@[go_sem] theorem Try.zo13 : zeroOK Try.prog 13 = true := by kernel_rfl
@[go_sem] theorem Try.pl13 : structPl Try.prog 13 = some [(0, 1), (1, 1)] := by kernel_rfl
attribute [go_sem] Try.stoodInHeld13 Try.eqGuardType13
@[go_sem] theorem Try.cl21 : Try.prog.cellsOf 21 = 1 := by kernel_rfl
@[go_sem] theorem Try.by21 : Try.prog.bytesOf 21 = 4 := by kernel_rfl
attribute [go_sem] Try.underlying21
@[go_sem] theorem Try.ze21 : zeroOf Try.prog 21 = some [CV.d (D.lit (Value.int IntKind.i32 0))] := by kernel_rfl
@[go_sem] theorem Try.zo21 : zeroOK Try.prog 21 = true := by kernel_rfl
@[go_sem] theorem Try.cl22 : Try.prog.cellsOf 22 = 1 := by kernel_rfl
@[go_sem] theorem Try.by22 : Try.prog.bytesOf 22 = 24 := by kernel_rfl
attribute [go_sem] Try.underlying22
@[go_sem] theorem Try.ze22 : zeroOf Try.prog 22 = some [CV.full []] := by kernel_rfl
@[go_sem] theorem Try.zo22 : zeroOK Try.prog 22 = true := by kernel_rfl
@[go_sem] theorem Try.cl23 : Try.prog.cellsOf 23 = 2 := by kernel_rfl
@[go_sem] theorem Try.by23 : Try.prog.bytesOf 23 = 2 := by kernel_rfl
attribute [go_sem] Try.underlying23
@[go_sem] theorem Try.ze23 : zeroOf Try.prog 23 = some [CV.d (D.lit (Value.int IntKind.u8 0)), CV.d (D.lit (Value.int IntKind.u8 0))] := by kernel_rfl
@[go_sem] theorem Try.zo23 : zeroOK Try.prog 23 = true := by kernel_rfl
@[go_sem] theorem Try.cl24 : Try.prog.cellsOf 24 = 1 := by kernel_rfl
@[go_sem] theorem Try.by24 : Try.prog.bytesOf 24 = 24 := by kernel_rfl
attribute [go_sem] Try.underlying24
@[go_sem] theorem Try.ze24 : zeroOf Try.prog 24 = some [CV.full []] := by kernel_rfl
@[go_sem] theorem Try.zo24 : zeroOK Try.prog 24 = true := by kernel_rfl
@[go_sem] theorem Try.cl25 : Try.prog.cellsOf 25 = 1 := by kernel_rfl
@[go_sem] theorem Try.by25 : Try.prog.bytesOf 25 = 8 := by kernel_rfl
attribute [go_sem] Try.underlying25
@[go_sem] theorem Try.ze25 : zeroOf Try.prog 25 = some [CV.d (D.lit (Value.pointer none))] := by kernel_rfl
@[go_sem] theorem Try.zo25 : zeroOK Try.prog 25 = true := by kernel_rfl
@[go_sem] theorem Try.cl26 : Try.prog.cellsOf 26 = 1 := by kernel_rfl
@[go_sem] theorem Try.by26 : Try.prog.bytesOf 26 = 8 := by kernel_rfl
attribute [go_sem] Try.underlying26
@[go_sem] theorem Try.ze26 : zeroOf Try.prog 26 = some [CV.d (D.lit (Value.int IntKind.i64 0))] := by kernel_rfl
@[go_sem] theorem Try.zo26 : zeroOK Try.prog 26 = true := by kernel_rfl
@[go_sem] theorem Try.cl30 : Try.prog.cellsOf 30 = 1 := by kernel_rfl
@[go_sem] theorem Try.by30 : Try.prog.bytesOf 30 = 8 := by kernel_rfl
attribute [go_sem] Try.underlying30
@[go_sem] theorem Try.ze30 : zeroOf Try.prog 30 = some [CV.d (D.lit (Value.pointer none))] := by kernel_rfl
@[go_sem] theorem Try.zo30 : zeroOK Try.prog 30 = true := by kernel_rfl
@[go_sem] theorem Try.cl33 : Try.prog.cellsOf 33 = 4 := by kernel_rfl
@[go_sem] theorem Try.by33 : Try.prog.bytesOf 33 = 56 := by kernel_rfl
attribute [go_sem] Try.underlying33
@[go_sem] theorem Try.ze33 : zeroOf Try.prog 33 = some [CV.d (D.lit (Value.int IntKind.i64 0)), CV.d (D.lit (Value.int IntKind.i64 0)), CV.d (D.lit (Value.string ⟨#[]⟩)), CV.full []] := by kernel_rfl
@[go_sem] theorem Try.zo33 : zeroOK Try.prog 33 = true := by kernel_rfl
@[go_sem] theorem Try.pl33 : structPl Try.prog 33 = some [(0, 1), (1, 1), (2, 1), (3, 1)] := by kernel_rfl
attribute [go_sem] Try.stoodInHeld33 Try.eqGuardType33
@[go_sem] theorem Try.cl34 : Try.prog.cellsOf 34 = 4 := by kernel_rfl
@[go_sem] theorem Try.by34 : Try.prog.bytesOf 34 = 56 := by kernel_rfl
attribute [go_sem] Try.underlying34
@[go_sem] theorem Try.ze34 : zeroOf Try.prog 34 = some [CV.d (D.lit (Value.int IntKind.i64 0)), CV.d (D.lit (Value.int IntKind.i64 0)), CV.d (D.lit (Value.string ⟨#[]⟩)), CV.full []] := by kernel_rfl
@[go_sem] theorem Try.zo34 : zeroOK Try.prog 34 = true := by kernel_rfl
@[go_sem] theorem Try.pl34 : structPl Try.prog 34 = some [(0, 1), (1, 1), (2, 1), (3, 1)] := by kernel_rfl
attribute [go_sem] Try.stoodInHeld34 Try.eqGuardType34
@[go_sem] theorem Try.cl40 : Try.prog.cellsOf 40 = 1 := by kernel_rfl
@[go_sem] theorem Try.by40 : Try.prog.bytesOf 40 = 24 := by kernel_rfl
attribute [go_sem] Try.underlying40
@[go_sem] theorem Try.ze40 : zeroOf Try.prog 40 = some [CV.full []] := by kernel_rfl
@[go_sem] theorem Try.zo40 : zeroOK Try.prog 40 = true := by kernel_rfl
@[go_sem] theorem Try.cl44 : Try.prog.cellsOf 44 = 1 := by kernel_rfl
@[go_sem] theorem Try.by44 : Try.prog.bytesOf 44 = 24 := by kernel_rfl
attribute [go_sem] Try.underlying44
@[go_sem] theorem Try.ze44 : zeroOf Try.prog 44 = some [CV.full []] := by kernel_rfl
@[go_sem] theorem Try.zo44 : zeroOK Try.prog 44 = true := by kernel_rfl
@[go_sem] theorem Try.cl47 : Try.prog.cellsOf 47 = 1 := by kernel_rfl
@[go_sem] theorem Try.by47 : Try.prog.bytesOf 47 = 8 := by kernel_rfl
attribute [go_sem] Try.underlying47
@[go_sem] theorem Try.ze47 : zeroOf Try.prog 47 = some [CV.d (D.lit (Value.map none))] := by kernel_rfl
@[go_sem] theorem Try.zo47 : zeroOK Try.prog 47 = true := by kernel_rfl
@[go_sem] theorem Try.cl48 : Try.prog.cellsOf 48 = 1 := by kernel_rfl
@[go_sem] theorem Try.by48 : Try.prog.bytesOf 48 = 24 := by kernel_rfl
attribute [go_sem] Try.underlying48
@[go_sem] theorem Try.ze48 : zeroOf Try.prog 48 = some [CV.full []] := by kernel_rfl
@[go_sem] theorem Try.zo48 : zeroOK Try.prog 48 = true := by kernel_rfl
@[go_sem] theorem Try.cl49 : Try.prog.cellsOf 49 = 7 := by kernel_rfl
@[go_sem] theorem Try.by49 : Try.prog.bytesOf 49 = 72 := by kernel_rfl
attribute [go_sem] Try.underlying49
@[go_sem] theorem Try.ze49 : zeroOf Try.prog 49 = some [CV.d (D.lit (Value.int IntKind.i64 0)), CV.d (D.lit (Value.map none)), CV.full [], CV.d (D.lit (Value.int IntKind.i64 0)), CV.d (D.lit (Value.int IntKind.i64 0)), CV.d (D.lit (Value.bool false)), CV.d (D.lit (Value.int IntKind.i64 0))] := by kernel_rfl
@[go_sem] theorem Try.zo49 : zeroOK Try.prog 49 = true := by kernel_rfl
@[go_sem] theorem Try.pl49 : structPl Try.prog 49 = some [(0, 1), (1, 1), (2, 1), (3, 1), (4, 1), (5, 1), (6, 1)] := by kernel_rfl
attribute [go_sem] Try.stoodInHeld49 Try.eqGuardType49
@[go_sem] theorem Try.cl50 : Try.prog.cellsOf 50 = 7 := by kernel_rfl
@[go_sem] theorem Try.by50 : Try.prog.bytesOf 50 = 72 := by kernel_rfl
attribute [go_sem] Try.underlying50
@[go_sem] theorem Try.ze50 : zeroOf Try.prog 50 = some [CV.d (D.lit (Value.int IntKind.i64 0)), CV.d (D.lit (Value.map none)), CV.full [], CV.d (D.lit (Value.int IntKind.i64 0)), CV.d (D.lit (Value.int IntKind.i64 0)), CV.d (D.lit (Value.bool false)), CV.d (D.lit (Value.int IntKind.i64 0))] := by kernel_rfl
@[go_sem] theorem Try.zo50 : zeroOK Try.prog 50 = true := by kernel_rfl
@[go_sem] theorem Try.pl50 : structPl Try.prog 50 = some [(0, 1), (1, 1), (2, 1), (3, 1), (4, 1), (5, 1), (6, 1)] := by kernel_rfl
attribute [go_sem] Try.stoodInHeld50 Try.eqGuardType50
@[go_sem] theorem Try.cl61 : Try.prog.cellsOf 61 = 1 := by kernel_rfl
@[go_sem] theorem Try.by61 : Try.prog.bytesOf 61 = 8 := by kernel_rfl
attribute [go_sem] Try.underlying61
@[go_sem] theorem Try.ze61 : zeroOf Try.prog 61 = some [CV.d (D.lit (Value.pointer none))] := by kernel_rfl
@[go_sem] theorem Try.zo61 : zeroOK Try.prog 61 = true := by kernel_rfl
@[go_sem] theorem Try.cl64 : Try.prog.cellsOf 64 = 5 := by kernel_rfl
@[go_sem] theorem Try.by64 : Try.prog.bytesOf 64 = 40 := by kernel_rfl
attribute [go_sem] Try.underlying64
@[go_sem] theorem Try.ze64 : zeroOf Try.prog 64 = some [CV.d (D.lit (Value.pointer none)), CV.d (D.lit (Value.pointer none)), CV.d (D.lit (Value.int IntKind.i64 0)), CV.d (D.lit (Value.map none)), CV.d (D.lit (Value.bool false))] := by kernel_rfl
@[go_sem] theorem Try.zo64 : zeroOK Try.prog 64 = true := by kernel_rfl
@[go_sem] theorem Try.pl64 : structPl Try.prog 64 = some [(0, 1), (1, 1), (2, 1), (3, 1), (4, 1)] := by kernel_rfl
attribute [go_sem] Try.stoodInHeld64 Try.eqGuardType64
@[go_sem] theorem Try.cl65 : Try.prog.cellsOf 65 = 5 := by kernel_rfl
@[go_sem] theorem Try.by65 : Try.prog.bytesOf 65 = 40 := by kernel_rfl
attribute [go_sem] Try.underlying65
@[go_sem] theorem Try.ze65 : zeroOf Try.prog 65 = some [CV.d (D.lit (Value.pointer none)), CV.d (D.lit (Value.pointer none)), CV.d (D.lit (Value.int IntKind.i64 0)), CV.d (D.lit (Value.map none)), CV.d (D.lit (Value.bool false))] := by kernel_rfl
@[go_sem] theorem Try.zo65 : zeroOK Try.prog 65 = true := by kernel_rfl
@[go_sem] theorem Try.pl65 : structPl Try.prog 65 = some [(0, 1), (1, 1), (2, 1), (3, 1), (4, 1)] := by kernel_rfl
attribute [go_sem] Try.stoodInHeld65 Try.eqGuardType65
@[go_sem] theorem Try.cl69 : Try.prog.cellsOf 69 = 1 := by kernel_rfl
@[go_sem] theorem Try.by69 : Try.prog.bytesOf 69 = 24 := by kernel_rfl
attribute [go_sem] Try.underlying69
@[go_sem] theorem Try.ze69 : zeroOf Try.prog 69 = some [CV.full []] := by kernel_rfl
@[go_sem] theorem Try.zo69 : zeroOK Try.prog 69 = true := by kernel_rfl
@[go_sem] theorem Try.cl71 : Try.prog.cellsOf 71 = 2 := by kernel_rfl
@[go_sem] theorem Try.by71 : Try.prog.bytesOf 71 = 24 := by kernel_rfl
attribute [go_sem] Try.underlying71
@[go_sem] theorem Try.ze71 : zeroOf Try.prog 71 = some [CV.d (D.lit (Value.int IntKind.i64 0)), CV.d (D.lit (Value.string ⟨#[]⟩))] := by kernel_rfl
@[go_sem] theorem Try.zo71 : zeroOK Try.prog 71 = true := by kernel_rfl
@[go_sem] theorem Try.pl71 : structPl Try.prog 71 = some [(0, 1), (1, 1)] := by kernel_rfl
attribute [go_sem] Try.stoodInHeld71 Try.eqGuardType71
@[go_sem] theorem Try.cl72 : Try.prog.cellsOf 72 = 2 := by kernel_rfl
@[go_sem] theorem Try.by72 : Try.prog.bytesOf 72 = 24 := by kernel_rfl
attribute [go_sem] Try.underlying72
@[go_sem] theorem Try.ze72 : zeroOf Try.prog 72 = some [CV.d (D.lit (Value.int IntKind.i64 0)), CV.d (D.lit (Value.string ⟨#[]⟩))] := by kernel_rfl
@[go_sem] theorem Try.zo72 : zeroOK Try.prog 72 = true := by kernel_rfl
@[go_sem] theorem Try.pl72 : structPl Try.prog 72 = some [(0, 1), (1, 1)] := by kernel_rfl
attribute [go_sem] Try.stoodInHeld72 Try.eqGuardType72
@[go_sem] theorem Try.cl76 : Try.prog.cellsOf 76 = 8 := by kernel_rfl
@[go_sem] theorem Try.by76 : Try.prog.bytesOf 76 = 80 := by kernel_rfl
attribute [go_sem] Try.underlying76
@[go_sem] theorem Try.ze76 : zeroOf Try.prog 76 = some [CV.d (D.lit (Value.pointer none)), CV.d (D.lit (Value.int IntKind.i64 0)), CV.d (D.lit (Value.int IntKind.i64 0)), CV.d (D.lit (Value.int IntKind.i64 0)), CV.d (D.lit (Value.int IntKind.i64 0)), CV.d (D.lit (Value.int IntKind.i64 0)), CV.full [], CV.d (D.lit (Value.bool false))] := by kernel_rfl
@[go_sem] theorem Try.zo76 : zeroOK Try.prog 76 = true := by kernel_rfl
@[go_sem] theorem Try.pl76 : structPl Try.prog 76 = some [(0, 1), (1, 1), (2, 1), (3, 1), (4, 1), (5, 1), (6, 1), (7, 1)] := by kernel_rfl
attribute [go_sem] Try.stoodInHeld76 Try.eqGuardType76
@[go_sem] theorem Try.cl77 : Try.prog.cellsOf 77 = 8 := by kernel_rfl
@[go_sem] theorem Try.by77 : Try.prog.bytesOf 77 = 80 := by kernel_rfl
attribute [go_sem] Try.underlying77
@[go_sem] theorem Try.ze77 : zeroOf Try.prog 77 = some [CV.d (D.lit (Value.pointer none)), CV.d (D.lit (Value.int IntKind.i64 0)), CV.d (D.lit (Value.int IntKind.i64 0)), CV.d (D.lit (Value.int IntKind.i64 0)), CV.d (D.lit (Value.int IntKind.i64 0)), CV.d (D.lit (Value.int IntKind.i64 0)), CV.full [], CV.d (D.lit (Value.bool false))] := by kernel_rfl
@[go_sem] theorem Try.zo77 : zeroOK Try.prog 77 = true := by kernel_rfl
@[go_sem] theorem Try.pl77 : structPl Try.prog 77 = some [(0, 1), (1, 1), (2, 1), (3, 1), (4, 1), (5, 1), (6, 1), (7, 1)] := by kernel_rfl
attribute [go_sem] Try.stoodInHeld77 Try.eqGuardType77
@[go_sem] theorem Try.cl84 : Try.prog.cellsOf 84 = 1 := by kernel_rfl
@[go_sem] theorem Try.by84 : Try.prog.bytesOf 84 = 8 := by kernel_rfl
attribute [go_sem] Try.underlying84
@[go_sem] theorem Try.ze84 : zeroOf Try.prog 84 = some [CV.d (D.lit (Value.int IntKind.u64 0))] := by kernel_rfl
@[go_sem] theorem Try.zo84 : zeroOK Try.prog 84 = true := by kernel_rfl
@[go_sem] theorem Try.cl88 : Try.prog.cellsOf 88 = 1 := by kernel_rfl
@[go_sem] theorem Try.by88 : Try.prog.bytesOf 88 = 24 := by kernel_rfl
attribute [go_sem] Try.underlying88
@[go_sem] theorem Try.ze88 : zeroOf Try.prog 88 = some [CV.full []] := by kernel_rfl
@[go_sem] theorem Try.zo88 : zeroOK Try.prog 88 = true := by kernel_rfl
@[go_sem] theorem Try.cl91 : Try.prog.cellsOf 91 = 1 := by kernel_rfl
@[go_sem] theorem Try.by91 : Try.prog.bytesOf 91 = 8 := by kernel_rfl
attribute [go_sem] Try.underlying91
@[go_sem] theorem Try.ze91 : zeroOf Try.prog 91 = some [CV.d (D.lit (Value.pointer none))] := by kernel_rfl
@[go_sem] theorem Try.zo91 : zeroOK Try.prog 91 = true := by kernel_rfl
@[go_sem] theorem Try.cl94 : Try.prog.cellsOf 94 = 4 := by kernel_rfl
@[go_sem] theorem Try.by94 : Try.prog.bytesOf 94 = 48 := by kernel_rfl
attribute [go_sem] Try.underlying94
@[go_sem] theorem Try.ze94 : zeroOf Try.prog 94 = some [CV.d (D.lit (Value.int IntKind.i64 0)), CV.d (D.lit (Value.string ⟨#[]⟩)), CV.d (D.lit (Value.string ⟨#[]⟩)), CV.d (D.lit (Value.bool false))] := by kernel_rfl
@[go_sem] theorem Try.zo94 : zeroOK Try.prog 94 = true := by kernel_rfl
@[go_sem] theorem Try.pl94 : structPl Try.prog 94 = some [(0, 1), (1, 1), (2, 1), (3, 1)] := by kernel_rfl
attribute [go_sem] Try.stoodInHeld94 Try.eqGuardType94
@[go_sem] theorem Try.cl95 : Try.prog.cellsOf 95 = 4 := by kernel_rfl
@[go_sem] theorem Try.by95 : Try.prog.bytesOf 95 = 48 := by kernel_rfl
attribute [go_sem] Try.underlying95
@[go_sem] theorem Try.ze95 : zeroOf Try.prog 95 = some [CV.d (D.lit (Value.int IntKind.i64 0)), CV.d (D.lit (Value.string ⟨#[]⟩)), CV.d (D.lit (Value.string ⟨#[]⟩)), CV.d (D.lit (Value.bool false))] := by kernel_rfl
@[go_sem] theorem Try.zo95 : zeroOK Try.prog 95 = true := by kernel_rfl
@[go_sem] theorem Try.pl95 : structPl Try.prog 95 = some [(0, 1), (1, 1), (2, 1), (3, 1)] := by kernel_rfl
attribute [go_sem] Try.stoodInHeld95 Try.eqGuardType95
@[go_sem] theorem Try.cl99 : Try.prog.cellsOf 99 = 1 := by kernel_rfl
@[go_sem] theorem Try.by99 : Try.prog.bytesOf 99 = 8 := by kernel_rfl
attribute [go_sem] Try.underlying99
@[go_sem] theorem Try.ze99 : zeroOf Try.prog 99 = some [CV.d (D.lit (Value.int IntKind.u64 0))] := by kernel_rfl
@[go_sem] theorem Try.zo99 : zeroOK Try.prog 99 = true := by kernel_rfl
@[go_sem] theorem Try.cl100 : Try.prog.cellsOf 100 = 3 := by kernel_rfl
@[go_sem] theorem Try.by100 : Try.prog.bytesOf 100 = 32 := by kernel_rfl
attribute [go_sem] Try.underlying100
@[go_sem] theorem Try.ze100 : zeroOf Try.prog 100 = some [CV.d (D.lit (Value.string ⟨#[]⟩)), CV.d (D.lit (Value.int IntKind.i64 0)), CV.d (D.lit (Value.int IntKind.i64 0))] := by kernel_rfl
@[go_sem] theorem Try.zo100 : zeroOK Try.prog 100 = true := by kernel_rfl
@[go_sem] theorem Try.pl100 : structPl Try.prog 100 = some [(0, 1), (1, 1), (2, 1)] := by kernel_rfl
attribute [go_sem] Try.stoodInHeld100 Try.eqGuardType100
@[go_sem] theorem Try.cl101 : Try.prog.cellsOf 101 = 3 := by kernel_rfl
@[go_sem] theorem Try.by101 : Try.prog.bytesOf 101 = 32 := by kernel_rfl
attribute [go_sem] Try.underlying101
@[go_sem] theorem Try.ze101 : zeroOf Try.prog 101 = some [CV.d (D.lit (Value.string ⟨#[]⟩)), CV.d (D.lit (Value.int IntKind.i64 0)), CV.d (D.lit (Value.int IntKind.i64 0))] := by kernel_rfl
@[go_sem] theorem Try.zo101 : zeroOK Try.prog 101 = true := by kernel_rfl
@[go_sem] theorem Try.pl101 : structPl Try.prog 101 = some [(0, 1), (1, 1), (2, 1)] := by kernel_rfl
attribute [go_sem] Try.stoodInHeld101 Try.eqGuardType101
@[go_sem] theorem Try.cl104 : Try.prog.cellsOf 104 = 1 := by kernel_rfl
@[go_sem] theorem Try.by104 : Try.prog.bytesOf 104 = 4 := by kernel_rfl
attribute [go_sem] Try.underlying104
@[go_sem] theorem Try.ze104 : zeroOf Try.prog 104 = some [CV.d (D.lit (Value.int IntKind.u32 0))] := by kernel_rfl
@[go_sem] theorem Try.zo104 : zeroOK Try.prog 104 = true := by kernel_rfl
@[go_sem] theorem Try.cl106 : Try.prog.cellsOf 106 = 1 := by kernel_rfl
@[go_sem] theorem Try.by106 : Try.prog.bytesOf 106 = 8 := by kernel_rfl
attribute [go_sem] Try.underlying106
@[go_sem] theorem Try.ze106 : zeroOf Try.prog 106 = some [CV.d (D.lit (Value.int IntKind.i64 0))] := by kernel_rfl
@[go_sem] theorem Try.zo106 : zeroOK Try.prog 106 = true := by kernel_rfl
@[go_sem] theorem Try.pl106 : structPl Try.prog 106 = some [(0, 1)] := by kernel_rfl
attribute [go_sem] Try.stoodInHeld106 Try.eqGuardType106
@[go_sem] theorem Try.cl107 : Try.prog.cellsOf 107 = 1 := by kernel_rfl
@[go_sem] theorem Try.by107 : Try.prog.bytesOf 107 = 8 := by kernel_rfl
attribute [go_sem] Try.underlying107
@[go_sem] theorem Try.ze107 : zeroOf Try.prog 107 = some [CV.d (D.lit (Value.int IntKind.i64 0))] := by kernel_rfl
@[go_sem] theorem Try.zo107 : zeroOK Try.prog 107 = true := by kernel_rfl
@[go_sem] theorem Try.pl107 : structPl Try.prog 107 = some [(0, 1)] := by kernel_rfl
attribute [go_sem] Try.stoodInHeld107 Try.eqGuardType107
@[go_sem] theorem Try.cl110 : Try.prog.cellsOf 110 = 256 := by kernel_rfl
@[go_sem] theorem Try.by110 : Try.prog.bytesOf 110 = 1024 := by kernel_rfl
attribute [go_sem] Try.underlying110
@[go_sem] theorem Try.cl114 : Try.prog.cellsOf 114 = 0 := by kernel_rfl
@[go_sem] theorem Try.by114 : Try.prog.bytesOf 114 = 0 := by kernel_rfl
attribute [go_sem] Try.underlying114
@[go_sem] theorem Try.ze114 : zeroOf Try.prog 114 = some [] := by kernel_rfl
@[go_sem] theorem Try.zo114 : zeroOK Try.prog 114 = true := by kernel_rfl
@[go_sem] theorem Try.cl115 : Try.prog.cellsOf 115 = 0 := by kernel_rfl
@[go_sem] theorem Try.by115 : Try.prog.bytesOf 115 = 0 := by kernel_rfl
attribute [go_sem] Try.underlying115
@[go_sem] theorem Try.ze115 : zeroOf Try.prog 115 = some [] := by kernel_rfl
@[go_sem] theorem Try.zo115 : zeroOK Try.prog 115 = true := by kernel_rfl
@[go_sem] theorem Try.pl115 : structPl Try.prog 115 = some [(0, 0)] := by kernel_rfl
attribute [go_sem] Try.stoodInHeld115 Try.eqGuardType115
@[go_sem] theorem Try.cl120 : Try.prog.cellsOf 120 = 1 := by kernel_rfl
@[go_sem] theorem Try.by120 : Try.prog.bytesOf 120 = 8 := by kernel_rfl
attribute [go_sem] Try.underlying120
@[go_sem] theorem Try.ze120 : zeroOf Try.prog 120 = some [CV.d (D.lit (Value.pointer none))] := by kernel_rfl
@[go_sem] theorem Try.zo120 : zeroOK Try.prog 120 = true := by kernel_rfl
@[go_sem] theorem Try.cl125 : Try.prog.cellsOf 125 = 1 := by kernel_rfl
@[go_sem] theorem Try.by125 : Try.prog.bytesOf 125 = 8 := by kernel_rfl
attribute [go_sem] Try.underlying125
@[go_sem] theorem Try.ze125 : zeroOf Try.prog 125 = some [CV.d (D.lit (Value.pointer none))] := by kernel_rfl
@[go_sem] theorem Try.zo125 : zeroOK Try.prog 125 = true := by kernel_rfl
end Go.Proofs

namespace Go.Proofs
open Go.PW
def dB (b : Bool) : RT := .d (.lit (.bool b))
def pA (x : List D) : PV := .agg (x.map .d)
def pD (x : D) : PV := .c (.d x)
@[go_sem] theorem pA_eq (x : List D) : pA x = .agg (x.map .d) := rfl
@[go_sem] theorem pD_eq (x : D) : pD x = .c (.d x) := rfl
@[go_sem] theorem dB_eq (b : Bool) : dB b = .d (.lit (.bool b)) := rfl
def dS (l : List UInt8) : D := .lit (.string ⟨l.toArray⟩)
def dI (n : Int) : D := .lit (.int .i64 n)
@[go_sem] theorem dS_eq (l : List UInt8) : dS l = .lit (.string ⟨l.toArray⟩) := rfl
@[go_sem] theorem dI_eq (n : Int) : dI n = .lit (.int .i64 n) := rfl
theorem Try.mixed : Try.prog.follows .mixedOrders = true := by kernel_rfl
theorem Try.pure {f : FuncId} {fn : Func} {c : Code} {md : List Nat} (hf : Try.prog.funcs[f]? = some fn) (hb : fn.body = some c) (hext : ∀ (args : Array Value) (w : World), (callFunc f args).run Try.prog w = .ok (.enter f args) w)
    (hc : codeOK (envOf Try.prog [] 0 md []) fn.ntmps c = true) {args : List PV} (hcl : args.all PV.closed = true) (hn : args.length ≤ fn.ntmps) {r : RV}
    (h : VC (envOf Try.prog [] 0 md []) noH noA c ⟨Ret Try.prog fn r, Ret Try.prog fn r, fun _ _ => False⟩ ⟨entry args, noH, noA⟩) : PureOK Try.prog f args r :=
  pure_ok (envOf_ok Try.mixed) hf hb hext hc hcl hn h
@[go_sem] theorem Try.bytesT : isBytes Try.prog 88 = true := by kernel_rfl
@[go_sem] theorem Try.strT : isStr Try.prog 9 = true := by kernel_rfl
theorem Try.appBytes : AppT Try.prog 88 5 1 1 := ⟨Try.underlying88, Try.cl5, Try.by5, Try.zo5, by decide, by decide⟩
theorem take_next {α : Type} {l : List α} {i : Nat} {x : α} (h : l[i]? = some x) : l.take (i + 1) = l.take i ++ [x] := by rw [List.take_add_one, h]; rfl
end Go.Proofs

namespace Go.Proofs
open Go.PW
theorem u32_nat {n : Nat} (h : n < 4294967296) : IntKind.u32.wrap (n : Int) = n := Go.IntWalk.u32_in _ (by omega)
theorem u8_nat (n : Nat) : IntKind.u8.wrap (n : Int) = ((n % 256 : Nat) : Int) := by rw [IntKind.wrap_u8]; omega
theorem xor_lt {m n : Nat} (hm : m < 4294967296) (hn : n < 4294967296) : m ^^^ n < 4294967296 := Nat.xor_lt_two_pow (n := 32) hm hn
theorem iXor_u32 {m n : Nat} (hm : m < 4294967296) (hn : n < 4294967296) : iXor .u32 (m : Int) (n : Int) = ((m ^^^ n : Nat) : Int) := by
  show IntKind.u32.wrap ((BitVec.ofInt 32 (m : Int) ^^^ BitVec.ofInt 32 (n : Int)).toNat : Int) = _
  rw [BitVec.ofInt_natCast, BitVec.ofInt_natCast, BitVec.toNat_xor, BitVec.toNat_ofNat, BitVec.toNat_ofNat, Nat.mod_eq_of_lt hm, Nat.mod_eq_of_lt hn, u32_nat (xor_lt hm hn)]
theorem iXor_u8 {m n : Nat} (hm : m < 256) (hn : n < 256) : iXor .u8 (m : Int) (n : Int) = ((m ^^^ n : Nat) : Int) := by
  show IntKind.u8.wrap ((BitVec.ofInt 8 (m : Int) ^^^ BitVec.ofInt 8 (n : Int)).toNat : Int) = _
  have hx : m ^^^ n < 256 := Nat.xor_lt_two_pow (n := 8) hm hn
  rw [BitVec.ofInt_natCast, BitVec.ofInt_natCast, BitVec.toNat_xor, BitVec.toNat_ofNat, BitVec.toNat_ofNat, Nat.mod_eq_of_lt hm, Nat.mod_eq_of_lt hn, u8_nat, Nat.mod_eq_of_lt hx]
theorem iNot_u32 {m : Nat} (hm : m < 4294967296) : iNot .u32 (m : Int) = ((4294967295 ^^^ m : Nat) : Int) := iXor_u32 (m := 4294967295) (by decide) hm
theorem iAnd_u32 {m : Nat} (hm : m < 4294967296) : iAnd .u32 (m : Int) 1 = ((m % 2 : Nat) : Int) := by
  show IntKind.u32.wrap ((BitVec.ofInt 32 (m : Int) &&& BitVec.ofInt 32 ((1 : Nat) : Int)).toNat : Int) = _
  rw [BitVec.ofInt_natCast, BitVec.ofInt_natCast, BitVec.toNat_and, BitVec.toNat_ofNat, BitVec.toNat_ofNat, Nat.mod_eq_of_lt hm, show 1 % 2 ^ 32 = 1 from rfl, Nat.and_one_is_mod, u32_nat (by omega)]
theorem iShr_u32 (m n : Nat) (h : n ≤ 32) : iShr .u32 (m : Int) n = ((m / 2 ^ n : Nat) : Int) := by
  show Int.fdiv (m : Int) (2 ^ min n 32) = _
  rw [Nat.min_eq_left h, Int.fdiv_eq_ediv_of_nonneg _ (Int.le_of_lt (Int.pow_pos (by decide))), Int.natCast_ediv, Int.natCast_pow]
  rfl
def st1 (n : Nat) : Nat := if n % 2 = 1 then (n / 2) ^^^ 3988292384 else n / 2
def stK : Nat → Nat → Nat
  | 0, n => n
  | k + 1, n => st1 (stK k n)
def st8 (n : Nat) : Nat := stK 8 n
def crcTbl : List Nat := [0, 1996959894, 3993919788, 2567524794, 124634137, 1886057615, 3915621685, 2657392035, 249268274, 2044508324, 3772115230, 2547177864, 162941995, 2125561021, 3887607047, 2428444049, 498536548, 1789927666, 4089016648, 2227061214, 450548861, 1843258603, 4107580753, 2211677639, 325883990, 1684777152, 4251122042, 2321926636, 335633487, 1661365465, 4195302755, 2366115317, 997073096, 1281953886, 3579855332, 2724688242, 1006888145, 1258607687, 3524101629, 2768942443, 901097722, 1119000684, 3686517206, 2898065728, 853044451, 1172266101, 3705015759, 2882616665, 651767980, 1373503546, 3369554304, 3218104598, 565507253, 1454621731, 3485111705, 3099436303, 671266974, 1594198024, 3322730930, 2970347812, 795835527, 1483230225, 3244367275, 3060149565, 1994146192, 31158534, 2563907772, 4023717930, 1907459465, 112637215, 2680153253, 3904427059, 2013776290, 251722036, 2517215374, 3775830040, 2137656763, 141376813, 2439277719, 3865271297, 1802195444, 476864866, 2238001368, 4066508878, 1812370925, 453092731, 2181625025, 4111451223, 1706088902, 314042704, 2344532202, 4240017532, 1658658271, 366619977, 2362670323, 4224994405, 1303535960, 984961486, 2747007092, 3569037538, 1256170817, 1037604311, 2765210733, 3554079995, 1131014506, 879679996, 2909243462, 3663771856, 1141124467, 855842277, 2852801631, 3708648649, 1342533948, 654459306, 3188396048, 3373015174, 1466479909, 544179635, 3110523913, 3462522015, 1591671054, 702138776, 2966460450, 3352799412, 1504918807, 783551873, 3082640443, 3233442989, 3988292384, 2596254646, 62317068, 1957810842, 3939845945, 2647816111, 81470997, 1943803523, 3814918930, 2489596804, 225274430, 2053790376, 3826175755, 2466906013, 167816743, 2097651377, 4027552580, 2265490386, 503444072, 1762050814, 4150417245, 2154129355, 426522225, 1852507879, 4275313526, 2312317920, 282753626, 1742555852, 4189708143, 2394877945, 397917763, 1622183637, 3604390888, 2714866558, 953729732, 1340076626, 3518719985, 2797360999, 1068828381, 1219638859, 3624741850, 2936675148, 906185462, 1090812512, 3747672003, 2825379669, 829329135, 1181335161, 3412177804, 3160834842, 628085408, 1382605366, 3423369109, 3138078467, 570562233, 1426400815, 3317316542, 2998733608, 733239954, 1555261956, 3268935591, 3050360625, 752459403, 1541320221, 2607071920, 3965973030, 1969922972, 40735498, 2617837225, 3943577151, 1913087877, 83908371, 2512341634, 3803740692, 2075208622, 213261112, 2463272603, 3855990285, 2094854071, 198958881, 2262029012, 4057260610, 1759359992, 534414190, 2176718541, 4139329115, 1873836001, 414664567, 2282248934, 4279200368, 1711684554, 285281116, 2405801727, 4167216745, 1634467795, 376229701, 2685067896, 3608007406, 1308918612, 956543938, 2808555105, 3495958263, 1231636301, 1047427035, 2932959818, 3654703836, 1088359270, 936918000, 2847714899, 3736837829, 1202900863, 817233897, 3183342108, 3401237130, 1404277552, 615818150, 3134207493, 3453421203, 1423857449, 601450431, 3009837614, 3294710456, 1567103746, 711928724, 3020668471, 3272380065, 1510334235, 755167117]
theorem tbl_len : crcTbl.length = 256 := by decide +kernel
theorem tbl_all : (List.range 256).all (fun i => crcTbl[i]? == some (st8 i)) = true := by decide +kernel
theorem tbl_at {i : Nat} (h : i < 256) : crcTbl[i]? = some (st8 i) := by
  have := List.all_eq_true.1 tbl_all i (List.mem_range.2 h)
  simpa using this
theorem st1_lt {n : Nat} (h : n < 4294967296) : st1 n < 4294967296 := by
  unfold st1
  split
  · exact xor_lt (by omega) (by decide)
  · omega
theorem stK_lt {n : Nat} (h : n < 4294967296) : ∀ k, stK k n < 4294967296
  | 0 => h
  | k + 1 => st1_lt (stK_lt h k)
theorem tbl_lt {i n : Nat} (h : crcTbl[i]? = some n) : n < 4294967296 := by
  have hi : i < 256 := by have := (List.getElem?_eq_some_iff.1 h).1; rwa [tbl_len] at this
  rw [tbl_at hi] at h
  cases h
  exact stK_lt (by omega) 8
def tblAt (i : Nat) : Nat := (crcTbl[i]?).getD 0
def crcStep (n : Nat) (b : UInt8) : Nat := tblAt ((n % 256) ^^^ b.toNat) ^^^ (n / 256)
def crcMore (s : Nat) (l : List UInt8) : Nat := 4294967295 ^^^ (l.foldl crcStep (4294967295 ^^^ s))
theorem xor_byte {m : Nat} {b : UInt8} (hm : m < 256) : m ^^^ b.toNat < 256 := Nat.xor_lt_two_pow (n := 8) hm b.toNat_lt
theorem tblAt_lt (i : Nat) : tblAt i < 4294967296 := by
  unfold tblAt
  cases h : crcTbl[i]? with
  | none => decide
  | some n => exact tbl_lt h
theorem crcStep_lt {n : Nat} (h : n < 4294967296) (b : UInt8) : crcStep n b < 4294967296 := xor_lt (tblAt_lt _) (by omega)
theorem crcFold_lt : ∀ (l : List UInt8) {n : Nat}, n < 4294967296 → l.foldl crcStep n < 4294967296
  | [], _, h => h
  | b :: l, _, h => crcFold_lt l (crcStep_lt h b)
theorem crcMore_lt {s : Nat} (l : List UInt8) (h : s < 4294967296) : crcMore s l < 4294967296 := xor_lt (by decide) (crcFold_lt l (xor_lt (by decide) h))
def u32D (n : Nat) : D := .lit (.int .u32 n)
def u32C (n : Nat) : CV := .d (u32D n)
theorem Ret_cell {P : Program} {fn : Func} {S : St} {t : Nat} {T : TypeId} {cs : List D} (hr : fn.results.toList = [.cell t T]) (h : loadS P none S.H S.A T (S.ρ t) = some (.agg (cs.map .d))) : Ret P fn (.one (.agg cs)) S :=
  ⟨True.intro, [none], Apart_one, by rw [hr]; exact ⟨_, h, by show PV.frz (.agg (cs.map .d)) = _; simp [PV.frz, CV.frz], rfl⟩⟩
def tblC (i : Nat) : List CV := (crcTbl.take i).map u32C ++ List.replicate (256 - i) (u32C 0)
theorem Try.zeTbl : zeroOf Try.prog 110 = some (tblC 0) := by kernel_rfl
theorem wk_isD {H' : HMap} {A A' : AMap} : ∀ {cs : List CV}, cs.all CV.isD = true → wkCells H' A A' cs cs
  | [], _ => True.intro
  | c :: r, h => by
    simp only [List.all_cons, Bool.and_eq_true] at h
    exact ⟨.inr (.inl ⟨rfl, isD_ok h.1⟩), wk_isD h.2⟩
theorem tblC_isD (i : Nat) : (tblC i).all CV.isD = true := by
  unfold tblC
  rw [List.all_append, Bool.and_eq_true]
  exact ⟨List.all_eq_true.2 fun c hc => by obtain ⟨n, _, rfl⟩ := List.mem_map.1 hc; rfl, List.all_eq_true.2 fun c hc => by rw [List.eq_of_mem_replicate hc]; rfl⟩
@[go_sem] theorem wk_tbl {H' : HMap} {A A' : AMap} {i : Nat} : wkCells H' A A' (tblC i) (tblC i) = True := eq_true (wk_isD (tblC_isD i))
theorem tblC_len {i : Nat} (h : i ≤ 256) : (tblC i).length = 256 := by simp [tblC, tbl_len]; omega
theorem tblC_next {i : Nat} (h : i < 256) : splice (tblC i) i [u32C (st8 i)] = tblC (i + 1) := by
  have hl : ((crcTbl.take i).map u32C).length = i := by simp [tbl_len]; omega
  have e : List.replicate (256 - i) (u32C 0) = u32C 0 :: List.replicate (256 - (i + 1)) (u32C 0) := by rw [show 256 - i = (256 - (i + 1)) + 1 by omega]; rfl
  unfold splice tblC
  rw [take_next (tbl_at h), List.map_append, e, List.take_append_of_le_length (by omega), List.take_of_length_le (by omega), List.drop_append, hl]
  simp [tbl_len]
  omega
theorem tblC_all : tblC 256 = crcTbl.map u32C := by unfold tblC; rw [List.take_of_length_le (by rw [tbl_len]; exact Nat.le_refl _)]; simp
set_option maxRecDepth 8000 in
set_option maxHeartbeats 8000000 in
theorem Try.kTable : PureOK Try.prog 87 [] (.one (.agg (crcTbl.map u32D))) := by
  refine Try.pure (md := []) Try.func87 rfl Try.call87 (by kernel_rfl) (by rfl) (by exact Nat.le_of_ble_eq_true rfl) ?_
  have c256 : ((256 : Nat) : Int) = 256 := rfl
  have c8 : ((8 : Nat) : Int) = 8 := rfl
  repeat' (first
   |with_reducible first|refine vSq fun K hK=>?_|refine vRg ?_|refine vBl ?_|refine vSc ?_|refine vIf ?_|refine vSk ?_|refine vEx ?_|refine vRt ?_
   |(with_reducible first|refine gNt (fun h=>?_) (fun h=>?_)|refine gCs (fun h=>?_) (fun h=>?_))<;>(try simp only[h])
   |with_reducible first|(refine hK _ ?_;clear hK K)|(clear hK K;refine hK _ ?_;clear hK K)|(clear hK K;clear hK K;refine hK _ ?_;clear hK K)|(clear hK K;clear hK K;clear hK K;refine hK _ ?_;clear hK K)
   |(with_reducible refine todo ?_;simp +decide only[go_sem, Try.zeTbl]))
  refine VC_range 256 (fun _ => True) (fun i => frame [(0, .c (.ptr 0 0)), (1, .c (.ptr 1 0)), (5, pD (.lit (.int .i64 i)))] [(0, tblC 0), (1, tblC i)] []) True.intro ?_ ?_
  · refine Weak_frame ?_ ?_ ?_ <;> simp +decide only [go_sem]
    exact ⟨wkP_ptr (by simp [hOf]), wkP_ptr (by simp [hOf])⟩
  · intro i hi hI
    rcases Nat.lt_or_ge i 256 with hlt | hge
    · have hd : ((i : Int) < 256) = True := eq_true (by omega)
      have hwi := int_next hlt (by decide)
      have hlT : (i < 256) = True := eq_true hlt
      have hu : IntKind.u32.wrap (i : Int) = (i : Int) := u32_nat (by omega)
      repeat' (first
       |with_reducible first|refine vSq fun K hK=>?_|refine vRg ?_|refine vBl ?_|refine vSc ?_|refine vIf ?_|refine vSk ?_|refine vEx ?_|refine vRt ?_
       |(with_reducible first|refine gNt (fun h=>?_) (fun h=>?_)|refine gCs (fun h=>?_) (fun h=>?_))<;>(try simp only[h])
       |with_reducible first|(refine hK _ ?_;clear hK K)|(clear hK K;refine hK _ ?_;clear hK K)|(clear hK K;clear hK K;refine hK _ ?_;clear hK K)|(clear hK K;clear hK K;clear hK K;refine hK _ ?_;clear hK K)
       |(with_reducible refine todo ?_;simp +decide only[go_sem, hd, hu]))
      refine VC_range 8 (fun _ => True) (fun k => frame [(0, .c (.ptr 0 0)), (1, .c (.ptr 1 0)), (2, pD (.lit (.int .i64 i))), (3, pD (u32D (stK k i))), (5, pD (.lit (.int .i64 i))), (10, pD (.lit (.int .i64 k)))] [(0, tblC 0), (1, tblC i)] []) True.intro ?_ ?_
      · refine Weak_frame ?_ ?_ ?_ <;> simp +decide only [go_sem, stK, u32D]
        exact ⟨wkP_ptr (by simp [hOf]), wkP_ptr (by simp [hOf])⟩
      · intro k hk hK'
        rcases Nat.lt_or_ge k 8 with hlt2 | hge2
        · have hd2 : ((k : Int) < 8) = True := eq_true (by omega)
          have hwk := int_next hlt2 (by decide)
          have hn := stK_lt (n := i) (by omega) k
          have hnx : stK (k + 1) i = st1 (stK k i) := rfl
          generalize stK k i = n at *
          have ha := iAnd_u32 hn
          have hs := iShr_u32 n 1 (by decide)
          have h2 : n / 2 ^ 1 = n / 2 := rfl
          rw [h2] at hs
          rcases Nat.mod_two_eq_zero_or_one n with h0 | h0
          · have hst : st1 n = n / 2 := by unfold st1; rw [if_neg (by omega)]
            rw [h0] at ha
            repeat' (first
             |with_reducible first|refine vSq fun K hK=>?_|refine vRg ?_|refine vBl ?_|refine vSc ?_|refine vIf ?_|refine vSk ?_|refine vEx ?_|refine vRt ?_
             |(with_reducible first|refine gNt (fun h=>?_) (fun h=>?_)|refine gCs (fun h=>?_) (fun h=>?_))<;>(try simp only[h])
             |with_reducible first|(refine hK _ ?_;clear hK K)|(clear hK K;refine hK _ ?_;clear hK K)|(clear hK K;clear hK K;refine hK _ ?_;clear hK K)|(clear hK K;clear hK K;clear hK K;refine hK _ ?_;clear hK K)
             |(with_reducible refine todo ?_;simp +decide only[go_sem, hd2, hwk, u32D, ha, hs]))
            refine Next_of hlt2 True.intro (Weak_frame ?_ ?_ ?_) <;> simp +decide only [go_sem, hnx, hst]
            exact ⟨wkP_ptr (by simp [hOf]), wkP_ptr (by simp [hOf])⟩
          · have hst : st1 n = (n / 2) ^^^ 3988292384 := by unfold st1; rw [if_pos h0]
            have hx : iXor .u32 ((n / 2 : Nat) : Int) 3988292384 = ((n / 2 ^^^ 3988292384 : Nat) : Int) := iXor_u32 (n := 3988292384) (by omega) (by decide)
            rw [h0] at ha
            repeat' (first
             |with_reducible first|refine vSq fun K hK=>?_|refine vRg ?_|refine vBl ?_|refine vSc ?_|refine vIf ?_|refine vSk ?_|refine vEx ?_|refine vRt ?_
             |(with_reducible first|refine gNt (fun h=>?_) (fun h=>?_)|refine gCs (fun h=>?_) (fun h=>?_))<;>(try simp only[h])
             |with_reducible first|(refine hK _ ?_;clear hK K)|(clear hK K;refine hK _ ?_;clear hK K)|(clear hK K;clear hK K;refine hK _ ?_;clear hK K)|(clear hK K;clear hK K;clear hK K;refine hK _ ?_;clear hK K)
             |(with_reducible refine todo ?_;simp +decide only[go_sem, hd2, hwk, u32D, ha, hs, hx]))
            refine Next_of hlt2 True.intro (Weak_frame ?_ ?_ ?_) <;> simp +decide only [go_sem, hnx, hst]
            exact ⟨wkP_ptr (by simp [hOf]), wkP_ptr (by simp [hOf])⟩
        · have hd2 : ((k : Int) < 8) = False := eq_false (by omega)
          have hk8 : k = 8 := by omega
          subst hk8
          have hlen := tblC_len hi
          have hle : (i + 1 ≤ 256) = True := eq_true (by omega)
          have hsp : (tblC i).take i ++ [CV.d (u32D (stK 8 i))] ++ (tblC i).drop (i + 1) = tblC (i + 1) := tblC_next hlt
          repeat' (first
           |with_reducible first|refine vSq fun K hK=>?_|refine vRg ?_|refine vBl ?_|refine vSc ?_|refine vIf ?_|refine vSk ?_|refine vEx ?_|refine vRt ?_
           |(with_reducible first|refine gNt (fun h=>?_) (fun h=>?_)|refine gCs (fun h=>?_) (fun h=>?_))<;>(try simp only[h])
           |with_reducible first|(refine hK _ ?_;clear hK K)|(clear hK K;refine hK _ ?_;clear hK K)|(clear hK K;clear hK K;refine hK _ ?_;clear hK K)|(clear hK K;clear hK K;clear hK K;refine hK _ ?_;clear hK K)
           |(with_reducible refine todo ?_;simp +decide only[go_sem, hwi, hlT, hlen, hle, hsp, c8]))
          refine Next_of hlt True.intro (Weak_frame ?_ ?_ ?_) <;> simp +decide only [go_sem]
          exact ⟨wkP_ptr (by simp [hOf]), wkP_ptr (by simp [hOf])⟩
    · have hd : ((i : Int) < 256) = False := eq_false (by omega)
      have hi256 : i = 256 := by omega
      subst hi256
      have q1 : (tblC 256).take 256 = tblC 256 := List.take_of_length_le (by rw [tblC_len (Nat.le_refl _)]; exact Nat.le_refl _)
      have q2 : (tblC 0).drop 256 = [] := List.drop_of_length_le (by rw [tblC_len (by decide)]; exact Nat.le_refl _)
      have q3 := tblC_len (Nat.le_refl 256)
      have q4 := tblC_len (Nat.zero_le 256)
      repeat' (first
       |with_reducible first|refine vSq fun K hK=>?_|refine vRg ?_|refine vBl ?_|refine vSc ?_|refine vIf ?_|refine vSk ?_|refine vEx ?_|refine vRt ?_
       |(with_reducible first|refine gNt (fun h=>?_) (fun h=>?_)|refine gCs (fun h=>?_) (fun h=>?_))<;>(try simp only[h])
       |with_reducible first|(refine hK _ ?_;clear hK K)|(clear hK K;refine hK _ ?_;clear hK K)|(clear hK K;clear hK K;refine hK _ ?_;clear hK K)|(clear hK K;clear hK K;clear hK K;refine hK _ ?_;clear hK K)
       |(with_reducible refine todo ?_;simp +decide only[go_sem, c256, q1, q2, q3, q4]))
      refine Ret_cell rfl ?_
      simp +decide only [go_sem, q1]
      rw [tblC_all, List.map_map]
      rfl
end Go.Proofs
