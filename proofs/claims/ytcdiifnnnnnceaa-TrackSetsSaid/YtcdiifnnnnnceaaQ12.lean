import Derived.Test.YtcdiifnnnnnceaaQ11
import Derived.Test.YtcdiifnnnnnceaaProg
import Derived.KernelRfl

/-
  Closed facts on the types of this translation. Written by a program (gen_types.py).
-/



namespace Go.Proofs
open Go.PW
@[go_sem] theorem Try.cl2 : Try.prog.cellsOf 2 = 1 := by kernel_rfl
@[go_sem] theorem Try.by2 : Try.prog.bytesOf 2 = 8 := by kernel_rfl
attribute [go_sem] Try.underlying2
@[go_sem] theorem Try.ze2 : zeroOf Try.prog 2 = some [CV.d (D.lit (Value.int IntKind.i64 0))] := by kernel_rfl
@[go_sem] theorem Try.zo2 : zeroOK Try.prog 2 = true := by kernel_rfl
@[go_sem] theorem Try.cl3 : Try.prog.cellsOf 3 = 1 := by kernel_rfl
@[go_sem] theorem Try.by3 : Try.prog.bytesOf 3 = 8 := by kernel_rfl
attribute [go_sem] Try.underlying3
@[go_sem] theorem Try.ze3 : zeroOf Try.prog 3 = some [CV.d (D.lit (Value.int IntKind.i64 0))] := by kernel_rfl
@[go_sem] theorem Try.zo3 : zeroOK Try.prog 3 = true := by kernel_rfl
@[go_sem] theorem Try.cl4 : Try.prog.cellsOf 4 = 1 := by kernel_rfl
@[go_sem] theorem Try.by4 : Try.prog.bytesOf 4 = 1 := by kernel_rfl
attribute [go_sem] Try.underlying4
@[go_sem] theorem Try.ze4 : zeroOf Try.prog 4 = some [CV.d (D.lit (Value.bool false))] := by kernel_rfl
@[go_sem] theorem Try.zo4 : zeroOK Try.prog 4 = true := by kernel_rfl
@[go_sem] theorem Try.cl5 : Try.prog.cellsOf 5 = 1 := by kernel_rfl
@[go_sem] theorem Try.by5 : Try.prog.bytesOf 5 = 1 := by kernel_rfl
attribute [go_sem] Try.underlying5
@[go_sem] theorem Try.ze5 : zeroOf Try.prog 5 = some [CV.d (D.lit (Value.int IntKind.u8 0))] := by kernel_rfl
@[go_sem] theorem Try.zo5 : zeroOK Try.prog 5 = true := by kernel_rfl
@[go_sem] theorem Try.cl9 : Try.prog.cellsOf 9 = 1 := by kernel_rfl
@[go_sem] theorem Try.by9 : Try.prog.bytesOf 9 = 16 := by kernel_rfl
attribute [go_sem] Try.underlying9
@[go_sem] theorem Try.ze9 : zeroOf Try.prog 9 = some [CV.d (D.lit (Value.string ⟨#[]⟩))] := by kernel_rfl
@[go_sem] theorem Try.zo9 : zeroOK Try.prog 9 = true := by kernel_rfl
@[go_sem] theorem Try.cl12 : Try.prog.cellsOf 12 = 1 := by kernel_rfl
@[go_sem] theorem Try.by12 : Try.prog.bytesOf 12 = 8 := by kernel_rfl
attribute [go_sem] Try.underlying12
@[go_sem] theorem Try.ze12 : zeroOf Try.prog 12 = some [CV.d (D.lit (Value.int IntKind.u64 0))] := by kernel_rfl
@[go_sem] theorem Try.zo12 : zeroOK Try.prog 12 = true := by kernel_rfl
@[go_sem] theorem Try.cl13 : Try.prog.cellsOf 13 = 2 := by kernel_rfl
@[go_sem] theorem Try.by13 : Try.prog.bytesOf 13 = 24 := by kernel_rfl
attribute [go_sem] Try.underlying13
@[go_sem] theorem Try.ze13 : zeroOf Try.prog 13 = some [CV.d (D.lit (Value.string ⟨#[]⟩)), CV.d (D.lit (Value.int IntKind.u64 0))] := by kernel_rfl
@[go_sem] theorem Try.zo13 : zeroOK Try.prog 13 = true := by kernel_rfl
@[go_sem] theorem Try.pl13 : structPl Try.prog 13 = some [(0, 1), (1, 1)] := by kernel_rfl
attribute [go_sem] Try.stoodInHeld13 Try.eqGuardType13
@[go_sem] theorem Try.cl21 : Try.prog.cellsOf 21 = 1 := by kernel_rfl
@[go_sem] theorem Try.by21 : Try.prog.bytesOf 21 = 4 := by kernel_rfl
attribute [go_sem] Try.underlying21
@[go_sem] theorem Try.ze21 : zeroOf Try.prog 21 = some [CV.d (D.lit (Value.int IntKind.i32 0))] := by kernel_rfl
@[go_sem] theorem Try.zo21 : zeroOK Try.prog 21 = true := by kernel_rfl
@[go_sem] theorem Try.cl22 : Try.prog.cellsOf 22 = 1 := by kernel_rfl
@[go_sem] theorem Try.by22 : Try.prog.bytesOf 22 = 24 := by kernel_rfl
attribute [go_sem] Try.underlying22
@[go_sem] theorem Try.ze22 : zeroOf Try.prog 22 = some [CV.full []] := by kernel_rfl
@[go_sem] theorem Try.zo22 : zeroOK Try.prog 22 = true := by kernel_rfl
@[go_sem] theorem Try.cl25 : Try.prog.cellsOf 25 = 1 := by kernel_rfl
@[go_sem] theorem Try.by25 : Try.prog.bytesOf 25 = 24 := by kernel_rfl
attribute [go_sem] Try.underlying25
@[go_sem] theorem Try.ze25 : zeroOf Try.prog 25 = some [CV.full []] := by kernel_rfl
@[go_sem] theorem Try.zo25 : zeroOK Try.prog 25 = true := by kernel_rfl
@[go_sem] theorem Try.cl29 : Try.prog.cellsOf 29 = 1 := by kernel_rfl
@[go_sem] theorem Try.by29 : Try.prog.bytesOf 29 = 24 := by kernel_rfl
attribute [go_sem] Try.underlying29
@[go_sem] theorem Try.ze29 : zeroOf Try.prog 29 = some [CV.full []] := by kernel_rfl
@[go_sem] theorem Try.zo29 : zeroOK Try.prog 29 = true := by kernel_rfl
@[go_sem] theorem Try.cl31 : Try.prog.cellsOf 31 = 1 := by kernel_rfl
@[go_sem] theorem Try.by31 : Try.prog.bytesOf 31 = 24 := by kernel_rfl
attribute [go_sem] Try.underlying31
@[go_sem] theorem Try.ze31 : zeroOf Try.prog 31 = some [CV.full []] := by kernel_rfl
@[go_sem] theorem Try.zo31 : zeroOK Try.prog 31 = true := by kernel_rfl
@[go_sem] theorem Try.cl42 : Try.prog.cellsOf 42 = 2 := by kernel_rfl
@[go_sem] theorem Try.by42 : Try.prog.bytesOf 42 = 16 := by kernel_rfl
attribute [go_sem] Try.underlying42
@[go_sem] theorem Try.ze42 : zeroOf Try.prog 42 = some [CV.d (D.lit (Value.int IntKind.i64 0)), CV.d (D.lit (Value.int IntKind.i64 0))] := by kernel_rfl
@[go_sem] theorem Try.zo42 : zeroOK Try.prog 42 = true := by kernel_rfl
@[go_sem] theorem Try.pl42 : structPl Try.prog 42 = some [(0, 1), (1, 1)] := by kernel_rfl
attribute [go_sem] Try.stoodInHeld42 Try.eqGuardType42
@[go_sem] theorem Try.cl43 : Try.prog.cellsOf 43 = 2 := by kernel_rfl
@[go_sem] theorem Try.by43 : Try.prog.bytesOf 43 = 16 := by kernel_rfl
attribute [go_sem] Try.underlying43
@[go_sem] theorem Try.ze43 : zeroOf Try.prog 43 = some [CV.d (D.lit (Value.int IntKind.i64 0)), CV.d (D.lit (Value.int IntKind.i64 0))] := by kernel_rfl
@[go_sem] theorem Try.zo43 : zeroOK Try.prog 43 = true := by kernel_rfl
@[go_sem] theorem Try.pl43 : structPl Try.prog 43 = some [(0, 1), (1, 1)] := by kernel_rfl
attribute [go_sem] Try.stoodInHeld43 Try.eqGuardType43
@[go_sem] theorem Try.cl44 : Try.prog.cellsOf 44 = 1 := by kernel_rfl
@[go_sem] theorem Try.by44 : Try.prog.bytesOf 44 = 24 := by kernel_rfl
attribute [go_sem] Try.underlying44
@[go_sem] theorem Try.ze44 : zeroOf Try.prog 44 = some [CV.full []] := by kernel_rfl
@[go_sem] theorem Try.zo44 : zeroOK Try.prog 44 = true := by kernel_rfl
@[go_sem] theorem Try.cl45 : Try.prog.cellsOf 45 = 3 := by kernel_rfl
@[go_sem] theorem Try.by45 : Try.prog.bytesOf 45 = 40 := by kernel_rfl
attribute [go_sem] Try.underlying45
@[go_sem] theorem Try.ze45 : zeroOf Try.prog 45 = some [CV.d (D.lit (Value.int IntKind.i64 0)), CV.d (D.lit (Value.int IntKind.i64 0)), CV.full []] := by kernel_rfl
@[go_sem] theorem Try.zo45 : zeroOK Try.prog 45 = true := by kernel_rfl
@[go_sem] theorem Try.pl45 : structPl Try.prog 45 = some [(0, 2), (2, 1)] := by kernel_rfl
attribute [go_sem] Try.stoodInHeld45 Try.eqGuardType45
@[go_sem] theorem Try.cl46 : Try.prog.cellsOf 46 = 3 := by kernel_rfl
@[go_sem] theorem Try.by46 : Try.prog.bytesOf 46 = 40 := by kernel_rfl
attribute [go_sem] Try.underlying46
@[go_sem] theorem Try.ze46 : zeroOf Try.prog 46 = some [CV.d (D.lit (Value.int IntKind.i64 0)), CV.d (D.lit (Value.int IntKind.i64 0)), CV.full []] := by kernel_rfl
@[go_sem] theorem Try.zo46 : zeroOK Try.prog 46 = true := by kernel_rfl
@[go_sem] theorem Try.pl46 : structPl Try.prog 46 = some [(0, 2), (2, 1)] := by kernel_rfl
attribute [go_sem] Try.stoodInHeld46 Try.eqGuardType46
@[go_sem] theorem Try.cl47 : Try.prog.cellsOf 47 = 1 := by kernel_rfl
@[go_sem] theorem Try.by47 : Try.prog.bytesOf 47 = 8 := by kernel_rfl
attribute [go_sem] Try.underlying47
@[go_sem] theorem Try.ze47 : zeroOf Try.prog 47 = some [CV.d (D.lit (Value.int IntKind.i64 0))] := by kernel_rfl
@[go_sem] theorem Try.zo47 : zeroOK Try.prog 47 = true := by kernel_rfl
@[go_sem] theorem Try.cl53 : Try.prog.cellsOf 53 = 1 := by kernel_rfl
@[go_sem] theorem Try.by53 : Try.prog.bytesOf 53 = 24 := by kernel_rfl
attribute [go_sem] Try.underlying53
@[go_sem] theorem Try.ze53 : zeroOf Try.prog 53 = some [CV.full []] := by kernel_rfl
@[go_sem] theorem Try.zo53 : zeroOK Try.prog 53 = true := by kernel_rfl
@[go_sem] theorem Try.cl55 : Try.prog.cellsOf 55 = 1 := by kernel_rfl
@[go_sem] theorem Try.by55 : Try.prog.bytesOf 55 = 24 := by kernel_rfl
attribute [go_sem] Try.underlying55
@[go_sem] theorem Try.ze55 : zeroOf Try.prog 55 = some [CV.full []] := by kernel_rfl
@[go_sem] theorem Try.zo55 : zeroOK Try.prog 55 = true := by kernel_rfl
@[go_sem] theorem Try.cl60 : Try.prog.cellsOf 60 = 1 := by kernel_rfl
@[go_sem] theorem Try.by60 : Try.prog.bytesOf 60 = 24 := by kernel_rfl
attribute [go_sem] Try.underlying60
@[go_sem] theorem Try.ze60 : zeroOf Try.prog 60 = some [CV.full []] := by kernel_rfl
@[go_sem] theorem Try.zo60 : zeroOK Try.prog 60 = true := by kernel_rfl
@[go_sem] theorem Try.cl64 : Try.prog.cellsOf 64 = 3 := by kernel_rfl
@[go_sem] theorem Try.by64 : Try.prog.bytesOf 64 = 40 := by kernel_rfl
attribute [go_sem] Try.underlying64
@[go_sem] theorem Try.ze64 : zeroOf Try.prog 64 = some [CV.d (D.lit (Value.int IntKind.i64 0)), CV.d (D.lit (Value.int IntKind.i64 0)), CV.full []] := by kernel_rfl
@[go_sem] theorem Try.zo64 : zeroOK Try.prog 64 = true := by kernel_rfl
@[go_sem] theorem Try.pl64 : structPl Try.prog 64 = some [(0, 2), (2, 1)] := by kernel_rfl
attribute [go_sem] Try.stoodInHeld64 Try.eqGuardType64
@[go_sem] theorem Try.cl65 : Try.prog.cellsOf 65 = 3 := by kernel_rfl
@[go_sem] theorem Try.by65 : Try.prog.bytesOf 65 = 40 := by kernel_rfl
attribute [go_sem] Try.underlying65
@[go_sem] theorem Try.ze65 : zeroOf Try.prog 65 = some [CV.d (D.lit (Value.int IntKind.i64 0)), CV.d (D.lit (Value.int IntKind.i64 0)), CV.full []] := by kernel_rfl
@[go_sem] theorem Try.zo65 : zeroOK Try.prog 65 = true := by kernel_rfl
@[go_sem] theorem Try.pl65 : structPl Try.prog 65 = some [(0, 2), (2, 1)] := by kernel_rfl
attribute [go_sem] Try.stoodInHeld65 Try.eqGuardType65
@[go_sem] theorem Try.cl67 : Try.prog.cellsOf 67 = 5 := by kernel_rfl
@[go_sem] theorem Try.by67 : Try.prog.bytesOf 67 = 56 := by kernel_rfl
attribute [go_sem] Try.underlying67
@[go_sem] theorem Try.ze67 : zeroOf Try.prog 67 = some [CV.d (D.lit (Value.int IntKind.i64 0)), CV.d (D.lit (Value.int IntKind.i64 0)), CV.d (D.lit (Value.int IntKind.i64 0)), CV.d (D.lit (Value.int IntKind.i64 0)), CV.full []] := by kernel_rfl
@[go_sem] theorem Try.zo67 : zeroOK Try.prog 67 = true := by kernel_rfl
@[go_sem] theorem Try.pl67 : structPl Try.prog 67 = some [(0, 2), (2, 3)] := by kernel_rfl
attribute [go_sem] Try.stoodInHeld67 Try.eqGuardType67
@[go_sem] theorem Try.cl68 : Try.prog.cellsOf 68 = 5 := by kernel_rfl
@[go_sem] theorem Try.by68 : Try.prog.bytesOf 68 = 56 := by kernel_rfl
attribute [go_sem] Try.underlying68
@[go_sem] theorem Try.ze68 : zeroOf Try.prog 68 = some [CV.d (D.lit (Value.int IntKind.i64 0)), CV.d (D.lit (Value.int IntKind.i64 0)), CV.d (D.lit (Value.int IntKind.i64 0)), CV.d (D.lit (Value.int IntKind.i64 0)), CV.full []] := by kernel_rfl
@[go_sem] theorem Try.zo68 : zeroOK Try.prog 68 = true := by kernel_rfl
@[go_sem] theorem Try.pl68 : structPl Try.prog 68 = some [(0, 2), (2, 3)] := by kernel_rfl
attribute [go_sem] Try.stoodInHeld68 Try.eqGuardType68
@[go_sem] theorem Try.cl73 : Try.prog.cellsOf 73 = 5 := by kernel_rfl
@[go_sem] theorem Try.by73 : Try.prog.bytesOf 73 = 48 := by kernel_rfl
attribute [go_sem] Try.underlying73
@[go_sem] theorem Try.ze73 : zeroOf Try.prog 73 = some [CV.d (D.lit (Value.int IntKind.u8 0)), CV.d (D.lit (Value.bool false)), CV.d (D.lit (Value.int IntKind.i64 0)), CV.d (D.lit (Value.int IntKind.i64 0)), CV.full []] := by kernel_rfl
@[go_sem] theorem Try.zo73 : zeroOK Try.prog 73 = true := by kernel_rfl
@[go_sem] theorem Try.pl73 : structPl Try.prog 73 = some [(0, 1), (1, 1), (2, 2), (4, 1)] := by kernel_rfl
attribute [go_sem] Try.stoodInHeld73 Try.eqGuardType73
@[go_sem] theorem Try.cl74 : Try.prog.cellsOf 74 = 5 := by kernel_rfl
@[go_sem] theorem Try.by74 : Try.prog.bytesOf 74 = 48 := by kernel_rfl
attribute [go_sem] Try.underlying74
@[go_sem] theorem Try.ze74 : zeroOf Try.prog 74 = some [CV.d (D.lit (Value.int IntKind.u8 0)), CV.d (D.lit (Value.bool false)), CV.d (D.lit (Value.int IntKind.i64 0)), CV.d (D.lit (Value.int IntKind.i64 0)), CV.full []] := by kernel_rfl
@[go_sem] theorem Try.zo74 : zeroOK Try.prog 74 = true := by kernel_rfl
@[go_sem] theorem Try.pl74 : structPl Try.prog 74 = some [(0, 1), (1, 1), (2, 2), (4, 1)] := by kernel_rfl
attribute [go_sem] Try.stoodInHeld74 Try.eqGuardType74
@[go_sem] theorem Try.cl78 : Try.prog.cellsOf 78 = 1 := by kernel_rfl
@[go_sem] theorem Try.by78 : Try.prog.bytesOf 78 = 8 := by kernel_rfl
attribute [go_sem] Try.underlying78
@[go_sem] theorem Try.ze78 : zeroOf Try.prog 78 = some [CV.d (D.lit (Value.int IntKind.u64 0))] := by kernel_rfl
@[go_sem] theorem Try.zo78 : zeroOK Try.prog 78 = true := by kernel_rfl
@[go_sem] theorem Try.cl79 : Try.prog.cellsOf 79 = 4 := by kernel_rfl
@[go_sem] theorem Try.by79 : Try.prog.bytesOf 79 = 40 := by kernel_rfl
attribute [go_sem] Try.underlying79
@[go_sem] theorem Try.ze79 : zeroOf Try.prog 79 = some [CV.d (D.lit (Value.int IntKind.i64 0)), CV.d (D.lit (Value.int IntKind.i64 0)), CV.d (D.lit (Value.int IntKind.u64 0)), CV.d (D.lit (Value.string ⟨#[]⟩))] := by kernel_rfl
@[go_sem] theorem Try.zo79 : zeroOK Try.prog 79 = true := by kernel_rfl
@[go_sem] theorem Try.pl79 : structPl Try.prog 79 = some [(0, 1), (1, 1), (2, 1), (3, 1)] := by kernel_rfl
attribute [go_sem] Try.stoodInHeld79 Try.eqGuardType79
@[go_sem] theorem Try.cl80 : Try.prog.cellsOf 80 = 4 := by kernel_rfl
@[go_sem] theorem Try.by80 : Try.prog.bytesOf 80 = 40 := by kernel_rfl
attribute [go_sem] Try.underlying80
@[go_sem] theorem Try.ze80 : zeroOf Try.prog 80 = some [CV.d (D.lit (Value.int IntKind.i64 0)), CV.d (D.lit (Value.int IntKind.i64 0)), CV.d (D.lit (Value.int IntKind.u64 0)), CV.d (D.lit (Value.string ⟨#[]⟩))] := by kernel_rfl
@[go_sem] theorem Try.zo80 : zeroOK Try.prog 80 = true := by kernel_rfl
@[go_sem] theorem Try.pl80 : structPl Try.prog 80 = some [(0, 1), (1, 1), (2, 1), (3, 1)] := by kernel_rfl
attribute [go_sem] Try.stoodInHeld80 Try.eqGuardType80
@[go_sem] theorem Try.cl81 : Try.prog.cellsOf 81 = 3 := by kernel_rfl
@[go_sem] theorem Try.by81 : Try.prog.bytesOf 81 = 40 := by kernel_rfl
attribute [go_sem] Try.underlying81
@[go_sem] theorem Try.ze81 : zeroOf Try.prog 81 = some [CV.d (D.lit (Value.int IntKind.i64 0)), CV.d (D.lit (Value.int IntKind.i64 0)), CV.full []] := by kernel_rfl
@[go_sem] theorem Try.zo81 : zeroOK Try.prog 81 = true := by kernel_rfl
@[go_sem] theorem Try.pl81 : structPl Try.prog 81 = some [(0, 2), (2, 1)] := by kernel_rfl
attribute [go_sem] Try.stoodInHeld81 Try.eqGuardType81
@[go_sem] theorem Try.cl82 : Try.prog.cellsOf 82 = 5 := by kernel_rfl
@[go_sem] theorem Try.by82 : Try.prog.bytesOf 82 = 56 := by kernel_rfl
attribute [go_sem] Try.underlying82
@[go_sem] theorem Try.ze82 : zeroOf Try.prog 82 = some [CV.d (D.lit (Value.int IntKind.i64 0)), CV.d (D.lit (Value.int IntKind.i64 0)), CV.d (D.lit (Value.int IntKind.i64 0)), CV.d (D.lit (Value.int IntKind.i64 0)), CV.full []] := by kernel_rfl
@[go_sem] theorem Try.zo82 : zeroOK Try.prog 82 = true := by kernel_rfl
@[go_sem] theorem Try.pl82 : structPl Try.prog 82 = some [(0, 2), (2, 3)] := by kernel_rfl
attribute [go_sem] Try.stoodInHeld82 Try.eqGuardType82
@[go_sem] theorem Try.cl83 : Try.prog.cellsOf 83 = 5 := by kernel_rfl
@[go_sem] theorem Try.by83 : Try.prog.bytesOf 83 = 56 := by kernel_rfl
attribute [go_sem] Try.underlying83
@[go_sem] theorem Try.ze83 : zeroOf Try.prog 83 = some [CV.d (D.lit (Value.int IntKind.i64 0)), CV.d (D.lit (Value.int IntKind.i64 0)), CV.d (D.lit (Value.int IntKind.i64 0)), CV.d (D.lit (Value.int IntKind.i64 0)), CV.full []] := by kernel_rfl
@[go_sem] theorem Try.zo83 : zeroOK Try.prog 83 = true := by kernel_rfl
@[go_sem] theorem Try.pl83 : structPl Try.prog 83 = some [(0, 2), (2, 3)] := by kernel_rfl
attribute [go_sem] Try.stoodInHeld83 Try.eqGuardType83
@[go_sem] theorem Try.cl101 : Try.prog.cellsOf 101 = 3 := by kernel_rfl
@[go_sem] theorem Try.by101 : Try.prog.bytesOf 101 = 40 := by kernel_rfl
attribute [go_sem] Try.underlying101
@[go_sem] theorem Try.ze101 : zeroOf Try.prog 101 = some [CV.d (D.lit (Value.int IntKind.i64 0)), CV.d (D.lit (Value.int IntKind.i64 0)), CV.full []] := by kernel_rfl
@[go_sem] theorem Try.zo101 : zeroOK Try.prog 101 = true := by kernel_rfl
@[go_sem] theorem Try.pl101 : structPl Try.prog 101 = some [(0, 2), (2, 1)] := by kernel_rfl
attribute [go_sem] Try.stoodInHeld101 Try.eqGuardType101
@[go_sem] theorem Try.cl102 : Try.prog.cellsOf 102 = 3 := by kernel_rfl
@[go_sem] theorem Try.by102 : Try.prog.bytesOf 102 = 40 := by kernel_rfl
attribute [go_sem] Try.underlying102
@[go_sem] theorem Try.ze102 : zeroOf Try.prog 102 = some [CV.d (D.lit (Value.int IntKind.i64 0)), CV.d (D.lit (Value.int IntKind.i64 0)), CV.full []] := by kernel_rfl
@[go_sem] theorem Try.zo102 : zeroOK Try.prog 102 = true := by kernel_rfl
@[go_sem] theorem Try.pl102 : structPl Try.prog 102 = some [(0, 2), (2, 1)] := by kernel_rfl
attribute [go_sem] Try.stoodInHeld102 Try.eqGuardType102
@[go_sem] theorem Try.cl111 : Try.prog.cellsOf 111 = 2 := by kernel_rfl
@[go_sem] theorem Try.by111 : Try.prog.bytesOf 111 = 16 := by kernel_rfl
attribute [go_sem] Try.underlying111
@[go_sem] theorem Try.ze111 : zeroOf Try.prog 111 = some [CV.d (D.lit (Value.int IntKind.i64 0)), CV.d (D.lit (Value.int IntKind.i64 0))] := by kernel_rfl
@[go_sem] theorem Try.zo111 : zeroOK Try.prog 111 = true := by kernel_rfl
@[go_sem] theorem Try.cl112 : Try.prog.cellsOf 112 = 1 := by kernel_rfl
@[go_sem] theorem Try.by112 : Try.prog.bytesOf 112 = 24 := by kernel_rfl
attribute [go_sem] Try.underlying112
@[go_sem] theorem Try.ze112 : zeroOf Try.prog 112 = some [CV.full []] := by kernel_rfl
@[go_sem] theorem Try.zo112 : zeroOK Try.prog 112 = true := by kernel_rfl
@[go_sem] theorem Try.cl117 : Try.prog.cellsOf 117 = 1 := by kernel_rfl
@[go_sem] theorem Try.by117 : Try.prog.bytesOf 117 = 8 := by kernel_rfl
attribute [go_sem] Try.underlying117
@[go_sem] theorem Try.ze117 : zeroOf Try.prog 117 = some [CV.d (D.lit (Value.float FloatKind.f64 0))] := by kernel_rfl
@[go_sem] theorem Try.zo117 : zeroOK Try.prog 117 = true := by kernel_rfl
@[go_sem] theorem Try.cl124 : Try.prog.cellsOf 124 = 0 := by kernel_rfl
@[go_sem] theorem Try.by124 : Try.prog.bytesOf 124 = 0 := by kernel_rfl
attribute [go_sem] Try.underlying124
@[go_sem] theorem Try.ze124 : zeroOf Try.prog 124 = some [] := by kernel_rfl
@[go_sem] theorem Try.zo124 : zeroOK Try.prog 124 = true := by kernel_rfl
@[go_sem] theorem Try.cl125 : Try.prog.cellsOf 125 = 0 := by kernel_rfl
@[go_sem] theorem Try.by125 : Try.prog.bytesOf 125 = 0 := by kernel_rfl
attribute [go_sem] Try.underlying125
@[go_sem] theorem Try.ze125 : zeroOf Try.prog 125 = some [] := by kernel_rfl
@[go_sem] theorem Try.zo125 : zeroOK Try.prog 125 = true := by kernel_rfl
@[go_sem] theorem Try.pl125 : structPl Try.prog 125 = some [(0, 0)] := by kernel_rfl
attribute [go_sem] Try.stoodInHeld125 Try.eqGuardType125
@[go_sem] theorem Try.cl128 : Try.prog.cellsOf 128 = 1 := by kernel_rfl
@[go_sem] theorem Try.by128 : Try.prog.bytesOf 128 = 4 := by kernel_rfl
attribute [go_sem] Try.underlying128
@[go_sem] theorem Try.ze128 : zeroOf Try.prog 128 = some [CV.d (D.lit (Value.int IntKind.u32 0))] := by kernel_rfl
@[go_sem] theorem Try.zo128 : zeroOK Try.prog 128 = true := by kernel_rfl
@[go_sem] theorem Try.cl132 : Try.prog.cellsOf 132 = 1 := by kernel_rfl
@[go_sem] theorem Try.by132 : Try.prog.bytesOf 132 = 8 := by kernel_rfl
attribute [go_sem] Try.underlying132
@[go_sem] theorem Try.ze132 : zeroOf Try.prog 132 = some [CV.d (D.lit (Value.pointer none))] := by kernel_rfl
@[go_sem] theorem Try.zo132 : zeroOK Try.prog 132 = true := by kernel_rfl
@[go_sem] theorem Try.cl137 : Try.prog.cellsOf 137 = 1 := by kernel_rfl
@[go_sem] theorem Try.by137 : Try.prog.bytesOf 137 = 8 := by kernel_rfl
attribute [go_sem] Try.underlying137
@[go_sem] theorem Try.ze137 : zeroOf Try.prog 137 = some [CV.d (D.lit (Value.pointer none))] := by kernel_rfl
@[go_sem] theorem Try.zo137 : zeroOK Try.prog 137 = true := by kernel_rfl
end Go.Proofs

/-
  Values, rows, spans and pieces, as the abstract machine has them.
-/

namespace Go.Proofs
open Go.PW

structure Val where
  kind : Int
  num : Int
  bits : Int
  str : ByteArray

abbrev Row := List Val

structure Piece where
  lo : Int
  hi : Int
  row : Row

def Val.enc (v : Val) : List D := [.lit (.int .i64 v.kind), .lit (.int .i64 v.num), .lit (.int .u64 v.bits), .lit (.string v.str)]
def encRow (r : Row) : D := .sl (r.map Val.enc)
def Piece.enc (p : Piece) : List D := [.lit (.int .i64 p.lo), .lit (.int .i64 p.hi), encRow p.row]
def encPieces (ps : List Piece) : D := .sl (ps.map Piece.enc)
def encSpan (a b : Int) : List D := [.lit (.int .i64 a), .lit (.int .i64 b)]

attribute [go_sem] Val.enc encRow Piece.enc encPieces encSpan

def dB (b : Bool) : RT := .d (.lit (.bool b))
def pA (x : List D) : PV := .agg (x.map .d)
def pD (x : D) : PV := .c (.d x)
@[go_sem] theorem pA_eq (x : List D) : pA x = .agg (x.map .d) := rfl
@[go_sem] theorem pD_eq (x : D) : pD x = .c (.d x) := rfl
@[go_sem] theorem dB_eq (b : Bool) : dB b = .d (.lit (.bool b)) := rfl

section eqs
variable {a b c a' b' c' : Int} {s s' : ByteArray}
@[go_sem] theorem Try.eqVal : binS Try.prog .eql 80 (.agg [.d (.lit (.int .i64 a)), .d (.lit (.int .i64 b)), .d (.lit (.int .u64 c)), .d (.lit (.string s))]) (.agg [.d (.lit (.int .i64 a')), .d (.lit (.int .i64 b')), .d (.lit (.int .u64 c')), .d (.lit (.string s'))]) =
    some (lit (.bool ((a == a') && ((b == b') && ((c == c') && ((s.toList == s'.toList) && true)))))) := by kernel_rfl
@[go_sem] theorem Try.neVal : binS Try.prog .neq 80 (.agg [.d (.lit (.int .i64 a)), .d (.lit (.int .i64 b)), .d (.lit (.int .u64 c)), .d (.lit (.string s))]) (.agg [.d (.lit (.int .i64 a')), .d (.lit (.int .i64 b')), .d (.lit (.int .u64 c')), .d (.lit (.string s'))]) =
    some (lit (.bool (!((a == a') && ((b == b') && ((c == c') && ((s.toList == s'.toList) && true))))))) := by kernel_rfl
@[go_sem] theorem Try.eqSpan : binS Try.prog .eql 43 (.agg [.d (.lit (.int .i64 a)), .d (.lit (.int .i64 b))]) (.agg [.d (.lit (.int .i64 a')), .d (.lit (.int .i64 b'))]) =
    some (lit (.bool ((a == a') && ((b == b') && true)))) := by kernel_rfl
@[go_sem] theorem Try.neSpan : binS Try.prog .neq 43 (.agg [.d (.lit (.int .i64 a)), .d (.lit (.int .i64 b))]) (.agg [.d (.lit (.int .i64 a')), .d (.lit (.int .i64 b'))]) =
    some (lit (.bool (!((a == a') && ((b == b') && true))))) := by kernel_rfl
end eqs

theorem Try.appVals : AppT Try.prog 44 80 4 40 := ⟨Try.underlying44, Try.cl80, Try.by80, Try.zo80, by decide, by decide⟩
theorem Try.appPieces : AppT Try.prog 31 46 3 40 := ⟨Try.underlying31, Try.cl46, Try.by46, Try.zo46, by decide, by decide⟩
theorem Try.appSpans : AppT Try.prog 112 43 2 16 := ⟨Try.underlying112, Try.cl43, Try.by43, Try.zo43, by decide, by decide⟩

theorem szPieces (ps : List Piece) : Szd 3 (ps.map Piece.enc) := fun e he => by
  obtain ⟨p, _, rfl⟩ := List.mem_map.1 he
  rfl
theorem szRow (r : Row) : Szd 4 (r.map Val.enc) := fun e he => by
  obtain ⟨p, _, rfl⟩ := List.mem_map.1 he
  rfl
theorem take_next {α : Type} {l : List α} {i : Nat} {x : α} (h : l[i]? = some x) : l.take (i + 1) = l.take i ++ [x] := by rw [List.take_add_one, h]; rfl

theorem Try.mixed : Try.prog.follows .mixedOrders = true := by kernel_rfl

/-- Of functions that take data. -/
theorem Try.pure {f : FuncId} {fn : Func} {c : Code} {md : List Nat} (hf : Try.prog.funcs[f]? = some fn) (hb : fn.body = some c) (hext : ∀ (args : Array Value) (w : World), (callFunc f args).run Try.prog w = .ok (.enter f args) w)
    (hc : codeOK (envOf Try.prog [] 0 md []) fn.ntmps c = true) {args : List PV} (hcl : args.all PV.closed = true) (hn : args.length ≤ fn.ntmps) {r : RV}
    (h : VC (envOf Try.prog [] 0 md []) noH noA c ⟨Ret Try.prog fn r, Ret Try.prog fn r, fun _ _ => False⟩ ⟨entry args, noH, noA⟩) : PureOK Try.prog f args r :=
  pure_ok (envOf_ok Try.mixed) hf hb hext hc hcl hn h
end Go.Proofs

/-
  Functions of Go's library that the model answers itself: the bits of a float.
-/

namespace Go.Proofs
open Go.PW

theorem run_ext {P : Program} {f : FuncId} {fn : Func} {e : Array Value → Sem Value} (hf : P.funcs[f]? = some fn) (hb : fn.body = none) (hn : (fn.name == "runtime.NumGoroutine") = false) (h0 : Extern.findNext fn = none) (h1 : Extern.find fn = some e)
    (vals : Array Value) {v : Value} (hv : e vals = .pure v) (w : World) : ∃ w', (callFunc f vals).run P w = .ok (.value v) w' ∧ w'.heap = w.heap ∧ w'.os = w.os ∧ w'.tape = w.tape ∧ w'.output = w.output := by
  unfold callFunc
  simp only [Sem.run_bind, run_program, Result.andThen_ok, hf, hn, hb, h0, h1, Option.isNone_none, if_true, Bool.false_eq_true, if_false, hv]
  exact ⟨_, rfl, rfl, rfl, rfl, rfl⟩

theorem ext_ok {P : Program} {f : FuncId} {fn : Func} {e : Array Value → Sem Value} (hf : P.funcs[f]? = some fn) (hb : fn.body = none) (hn : (fn.name == "runtime.NumGoroutine") = false) (h0 : Extern.findNext fn = none) (h1 : Extern.find fn = some e)
    {x v : Value} (hv : e #[x] = .pure v) (hv1 : v.oneCell' = true) : PureOK P f [pD (.lit x)] (.one (.d (.lit v))) := by
  refine ⟨rfl, fun C w vals hC har => .inr ?_⟩
  obtain ⟨hl, hr⟩ := har
  obtain ⟨u, hu, hp⟩ := hr 0 _ rfl
  have hp : DRep C (.lit x) u := hp
  cases hp
  have hvals : vals = #[x] := by
    apply Array.ext'
    match h : vals.toList, hl with
    | [a], _ => rw [h] at hu; simp at hu; rw [hu]
  subst hvals
  obtain ⟨w', h1, h2, h3, h4, h5⟩ := run_ext hf hb hn h0 h1 _ hv w
  refine ⟨v, w', h1, gOnly C, ?_, ?_, .same h2 h3 h4 h5⟩
  · exact DRep.lit v hv1
  · exact MRel.same ⟨hC, fun id b hb => (by cases hb), fun κ ar hA => (by cases hA), fun b o ho => (by cases ho)⟩ h2

theorem Try.kFrombits (n : Int) : PureOK Try.prog 82 [pD (.lit (.int .u64 n))] (.one (.d (.lit (.float .f64 n.toNat)))) :=
  ext_ok Try.func82 rfl (by kernel_rfl) (by kernel_rfl) (e := Extern.MathFloatBits.float64frombits) (by kernel_rfl) rfl rfl

theorem Try.kBits (n : Nat) : PureOK Try.prog 85 [pD (.lit (.float .f64 n))] (.one (.d (.lit (.int .u64 n)))) :=
  ext_ok Try.func85 rfl (by kernel_rfl) (by kernel_rfl) (e := Extern.MathFloatBits.float64bits) (by kernel_rfl) rfl rfl
end Go.Proofs

/-
  Spans.
-/

namespace Go.Proofs
open Go.PW

def Span.right (a b : Int) : Bool := decide (0 ≤ a) && decide (a < b) && decide (b ≤ 1099511627776)
def Span.has (a b n : Int) : Bool := Span.right a b && decide (a ≤ n) && decide (n < b)

set_option maxRecDepth 8000 in
set_option maxHeartbeats 400000 in
theorem Try.spanRight (a b : Int) : PureOK Try.prog 38 [pA (encSpan a b)] (.one (dB (Span.right a b))) := by
  refine Try.pure (md := []) Try.func38 rfl Try.call38 (by kernel_rfl) (by rfl) (by exact Nat.le_of_ble_eq_true rfl) ?_
  refine VC_seq fun K hK => VC_region ?_
  simp only [go_sem]
  refine hK _ ?_; clear hK K
  refine VC_seq fun K hK => VC_region ?_
  simp +decide only [go_sem]
  repeat' (refine GuardP_cases (fun h => ?_) (fun h => ?_) <;> simp +decide only [go_sem, h])
  all_goals (refine hK _ ?_; clear hK K; refine Ret_d rfl ?_; simp +decide only [go_sem, Span.right, *])

set_option maxRecDepth 8000 in
set_option maxHeartbeats 400000 in
theorem Try.spanHas (a b n : Int) : PureOK Try.prog 48 [pA (encSpan a b), pD (.lit (.int .i64 n))] (.one (dB (Span.has a b n))) := by
  refine Try.pure (md := []) Try.func48 rfl Try.call48 (by kernel_rfl) (by rfl) (by exact Nat.le_of_ble_eq_true rfl) ?_
  refine VC_seq fun K hK => VC_region ?_
  simp +decide only [go_sem]
  refine hK _ ?_; clear hK K
  refine VC_seq fun K hK => VC_region ?_
  simp +decide only [go_sem]
  refine call_pure (Try.spanRight a b) rfl rfl (fun _ => rfl) ?_
  simp +decide only [go_sem]
  repeat' (refine GuardP_cases (fun h => ?_) (fun h => ?_) <;> simp +decide only [go_sem, h])
  all_goals (refine hK _ ?_; clear hK K; refine Ret_d rfl ?_; simp +decide only [go_sem, Span.has, *])
end Go.Proofs

/-
  Values.
-/

namespace Go.Proofs
open Go.PW

def isNaN (b : Nat) : Bool := FloatKind.f64.format.order b b != some .eq
def canonF (b : Nat) : Int := if isNaN b then 9221120237041090560 else if FloatKind.f64.format.order b 0 == some .eq then 0 else b

set_option maxRecDepth 8000 in
set_option maxHeartbeats 400000 in
theorem Try.kIsNaN (b : Nat) : PureOK Try.prog 84 [pD (.lit (.float .f64 b))] (.one (dB (isNaN b))) := by
  refine Try.pure (md := []) Try.func84 rfl Try.call84 (by kernel_rfl) (by rfl) (by exact Nat.le_of_ble_eq_true rfl) ?_
  repeat' (first
    | with_reducible refine VC_seq fun K hK => ?_
    | with_reducible refine W_region ?_
    | with_reducible refine VC_block ?_
    | with_reducible refine VC_scope ?_
    | with_reducible refine VC_if ?_
    | with_reducible refine VC_skip ?_
    | with_reducible refine VC_exit ?_
    | with_reducible refine VC_ret ?_
    | (with_reducible refine G_not (fun h => ?_) (fun h => ?_) <;> (try simp only [h]))
    | (with_reducible refine G_cases (fun h => ?_) (fun h => ?_) <;> (try simp only [h]))
    | (with_reducible refine hK _ ?_; clear hK K)
    | (clear hK K; with_reducible refine hK _ ?_; clear hK K)
    | (clear hK K; clear hK K; with_reducible refine hK _ ?_; clear hK K)
    | (clear hK K; clear hK K; clear hK K; with_reducible refine hK _ ?_; clear hK K)
    | (with_reducible refine todo ?_; simp +decide only [go_sem]))
  refine Ret_d rfl ?_
  simp +decide only [go_sem, isNaN]

set_option maxRecDepth 8000 in
set_option maxHeartbeats 400000 in
theorem Try.kCanonical (b : Nat) : PureOK Try.prog 81 [pD (.lit (.float .f64 b))] (.one (.d (.lit (.int .u64 (canonF b))))) := by
  refine Try.pure (md := []) Try.func81 rfl Try.call81 (by kernel_rfl) (by rfl) (by exact Nat.le_of_ble_eq_true rfl) ?_
  repeat' (first
    | with_reducible refine VC_seq fun K hK => ?_
    | with_reducible refine W_region ?_
    | with_reducible refine VC_block ?_
    | with_reducible refine VC_scope ?_
    | with_reducible refine VC_if ?_
    | with_reducible refine VC_skip ?_
    | with_reducible refine VC_exit ?_
    | with_reducible refine VC_ret ?_
    | (with_reducible refine G_not (fun h => ?_) (fun h => ?_) <;> (try simp only [h]))
    | (with_reducible refine G_cases (fun h => ?_) (fun h => ?_) <;> (try simp only [h]))
    | refine C_pure (Try.kIsNaN b) rfl rfl (fun _ => rfl) ?_
    | refine C_pure (Try.kBits b) rfl rfl (fun _ => rfl) ?_
    | (with_reducible refine hK _ ?_; clear hK K)
    | (clear hK K; with_reducible refine hK _ ?_; clear hK K)
    | (clear hK K; clear hK K; with_reducible refine hK _ ?_; clear hK K)
    | (clear hK K; clear hK K; clear hK K; with_reducible refine hK _ ?_; clear hK K)
    | (with_reducible refine todo ?_; simp +decide only [go_sem]))
  all_goals (refine Ret_d rfl ?_; simp +decide only [go_sem, canonF, *])

/-- Cell by cell. -/
def Val.same (v w : Val) : Bool := (v.kind == w.kind) && ((v.num == w.num) && ((v.bits == w.bits) && (v.str.toList == w.str.toList)))

/-- The value as it stands in no other way. -/
def Val.canon (v : Val) : Option Val :=
  if (v.kind == 0) = true then some ⟨v.kind, 0, 0, ⟨#[]⟩⟩
  else if (v.kind == 1) = true then some ⟨v.kind, iAnd .i64 v.num 1, 0, ⟨#[]⟩⟩
  else if (v.kind == 2) = true then some ⟨v.kind, v.num, 0, ⟨#[]⟩⟩
  else if (v.kind == 3) = true then some ⟨v.kind, 0, canonF v.bits.toNat, ⟨#[]⟩⟩
  else if (v.kind == 4) = true then some ⟨v.kind, 0, 0, v.str⟩
  else if (v.kind == 5) = true then some ⟨v.kind, 0, 0, v.str⟩
  else none

def Val.right (v : Val) : Bool :=
  match v.canon with
  | some w => v.same w && decide ((v.str.size : Int) ≤ 4096)
  | none => false

set_option maxRecDepth 8000 in
set_option maxHeartbeats 1000000 in
theorem Try.kValue (v : Val) : PureOK Try.prog 76 [pA v.enc] (.one (dB v.right)) := by
  refine Try.pure (md := []) Try.func76 rfl Try.call76 (by kernel_rfl) (by rfl) (by exact Nat.le_of_ble_eq_true rfl) ?_
  repeat' (first
    | with_reducible refine VC_seq fun K hK => ?_
    | with_reducible refine W_region ?_
    | with_reducible refine VC_block ?_
    | with_reducible refine VC_scope ?_
    | with_reducible refine VC_if ?_
    | with_reducible refine VC_skip ?_
    | with_reducible refine VC_exit ?_
    | with_reducible refine VC_ret ?_
    | (with_reducible refine G_not (fun h => ?_) (fun h => ?_) <;> (try simp only [h]))
    | (with_reducible refine G_cases (fun h => ?_) (fun h => ?_) <;> (try simp only [h]))
    | refine C_pure (Try.kFrombits v.bits) rfl rfl (fun _ => rfl) ?_
    | refine C_pure (Try.kCanonical v.bits.toNat) rfl rfl (fun _ => rfl) ?_
    | (with_reducible refine hK _ ?_; clear hK K)
    | (clear hK K; with_reducible refine hK _ ?_; clear hK K)
    | (clear hK K; clear hK K; with_reducible refine hK _ ?_; clear hK K)
    | (clear hK K; clear hK K; clear hK K; with_reducible refine hK _ ?_; clear hK K)
    | (with_reducible refine todo ?_; simp +decide only [go_sem]))
  all_goals (refine Ret_d rfl ?_; simp +decide only [go_sem, Val.right, Val.canon, Val.same, *])
end Go.Proofs
