/-
  Parts of the proof, laid together: PwT.
-/
import Derived.Test.YtemecklglapleaaGreatQ18
import Derived.Test.YtemecklglapleaaGreatProg
import Derived.KernelRfl

namespace Go.Proofs
open Go.PW
@[go_sem] theorem Tryz.cl2 : Tryz.prog.cellsOf 2 = 1 := by kernel_rfl
@[go_sem] theorem Tryz.by2 : Tryz.prog.bytesOf 2 = 8 := by kernel_rfl
attribute [go_sem] Tryz.underlying2
@[go_sem] theorem Tryz.ze2 : zzm Tryz.prog 2 = some [CV.d (D.lit (Value.int IntKind.i64 0))] := by kernel_rfl
@[go_sem] theorem Tryz.zo2 : zzt Tryz.prog 2 = true := by kernel_rfl
@[go_sem] theorem Tryz.cl3 : Tryz.prog.cellsOf 3 = 1 := by kernel_rfl
@[go_sem] theorem Tryz.by3 : Tryz.prog.bytesOf 3 = 8 := by kernel_rfl
attribute [go_sem] Tryz.underlying3
@[go_sem] theorem Tryz.ze3 : zzm Tryz.prog 3 = some [CV.d (D.lit (Value.int IntKind.i64 0))] := by kernel_rfl
@[go_sem] theorem Tryz.zo3 : zzt Tryz.prog 3 = true := by kernel_rfl
@[go_sem] theorem Tryz.cl4 : Tryz.prog.cellsOf 4 = 1 := by kernel_rfl
@[go_sem] theorem Tryz.by4 : Tryz.prog.bytesOf 4 = 1 := by kernel_rfl
attribute [go_sem] Tryz.underlying4
@[go_sem] theorem Tryz.ze4 : zzm Tryz.prog 4 = some [CV.d (D.lit (Value.bool false))] := by kernel_rfl
@[go_sem] theorem Tryz.zo4 : zzt Tryz.prog 4 = true := by kernel_rfl
@[go_sem] theorem Tryz.cl5 : Tryz.prog.cellsOf 5 = 1 := by kernel_rfl
@[go_sem] theorem Tryz.by5 : Tryz.prog.bytesOf 5 = 1 := by kernel_rfl
attribute [go_sem] Tryz.underlying5
@[go_sem] theorem Tryz.ze5 : zzm Tryz.prog 5 = some [CV.d (D.lit (Value.int IntKind.u8 0))] := by kernel_rfl
@[go_sem] theorem Tryz.zo5 : zzt Tryz.prog 5 = true := by kernel_rfl
@[go_sem] theorem Tryz.cl9 : Tryz.prog.cellsOf 9 = 1 := by kernel_rfl
@[go_sem] theorem Tryz.by9 : Tryz.prog.bytesOf 9 = 16 := by kernel_rfl
attribute [go_sem] Tryz.underlying9
@[go_sem] theorem Tryz.ze9 : zzm Tryz.prog 9 = some [CV.d (D.lit (Value.string ⟨#[]⟩))] := by kernel_rfl
@[go_sem] theorem Tryz.zo9 : zzt Tryz.prog 9 = true := by kernel_rfl
@[go_sem] theorem Tryz.cl12 : Tryz.prog.cellsOf 12 = 1 := by kernel_rfl
@[go_sem] theorem Tryz.by12 : Tryz.prog.bytesOf 12 = 8 := by kernel_rfl
attribute [go_sem] Tryz.underlying12
@[go_sem] theorem Tryz.ze12 : zzm Tryz.prog 12 = some [CV.d (D.lit (Value.int IntKind.u64 0))] := by kernel_rfl
@[go_sem] theorem Tryz.zo12 : zzt Tryz.prog 12 = true := by kernel_rfl
@[go_sem] theorem Tryz.cl13 : Tryz.prog.cellsOf 13 = 2 := by kernel_rfl
@[go_sem] theorem Tryz.by13 : Tryz.prog.bytesOf 13 = 24 := by kernel_rfl
attribute [go_sem] Tryz.underlying13
@[go_sem] theorem Tryz.ze13 : zzm Tryz.prog 13 = some [CV.d (D.lit (Value.string ⟨#[]⟩)), CV.d (D.lit (Value.int IntKind.u64 0))] := by kernel_rfl
@[go_sem] theorem Tryz.zo13 : zzt Tryz.prog 13 = true := by kernel_rfl
@[go_sem] theorem Tryz.pl13 : zz2 Tryz.prog 13 = some [(0, 1), (1, 1)] := by kernel_rfl
attribute [go_sem] Tryz.stoodInHeld13 Tryz.eqGuardType13
@[go_sem] theorem Tryz.cl21 : Tryz.prog.cellsOf 21 = 1 := by kernel_rfl
@[go_sem] theorem Tryz.by21 : Tryz.prog.bytesOf 21 = 4 := by kernel_rfl
attribute [go_sem] Tryz.underlying21
@[go_sem] theorem Tryz.ze21 : zzm Tryz.prog 21 = some [CV.d (D.lit (Value.int IntKind.i32 0))] := by kernel_rfl
@[go_sem] theorem Tryz.zo21 : zzt Tryz.prog 21 = true := by kernel_rfl
@[go_sem] theorem Tryz.cl22 : Tryz.prog.cellsOf 22 = 1 := by kernel_rfl
@[go_sem] theorem Tryz.by22 : Tryz.prog.bytesOf 22 = 24 := by kernel_rfl
attribute [go_sem] Tryz.underlying22
@[go_sem] theorem Tryz.ze22 : zzm Tryz.prog 22 = some [CV.full []] := by kernel_rfl
@[go_sem] theorem Tryz.zo22 : zzt Tryz.prog 22 = true := by kernel_rfl
@[go_sem] theorem Tryz.cl23 : Tryz.prog.cellsOf 23 = 1 := by kernel_rfl
@[go_sem] theorem Tryz.by23 : Tryz.prog.bytesOf 23 = 24 := by kernel_rfl
attribute [go_sem] Tryz.underlying23
@[go_sem] theorem Tryz.ze23 : zzm Tryz.prog 23 = some [CV.full []] := by kernel_rfl
@[go_sem] theorem Tryz.zo23 : zzt Tryz.prog 23 = true := by kernel_rfl
@[go_sem] theorem Tryz.cl26 : Tryz.prog.cellsOf 26 = 1 := by kernel_rfl
@[go_sem] theorem Tryz.by26 : Tryz.prog.bytesOf 26 = 8 := by kernel_rfl
attribute [go_sem] Tryz.underlying26
@[go_sem] theorem Tryz.ze26 : zzm Tryz.prog 26 = some [CV.d (D.lit (Value.int IntKind.u64 0))] := by kernel_rfl
@[go_sem] theorem Tryz.zo26 : zzt Tryz.prog 26 = true := by kernel_rfl
@[go_sem] theorem Tryz.cl27 : Tryz.prog.cellsOf 27 = 4 := by kernel_rfl
@[go_sem] theorem Tryz.by27 : Tryz.prog.bytesOf 27 = 40 := by kernel_rfl
attribute [go_sem] Tryz.underlying27
@[go_sem] theorem Tryz.ze27 : zzm Tryz.prog 27 = some [CV.d (D.lit (Value.int IntKind.i64 0)), CV.d (D.lit (Value.int IntKind.i64 0)), CV.d (D.lit (Value.int IntKind.u64 0)), CV.d (D.lit (Value.string ⟨#[]⟩))] := by kernel_rfl
@[go_sem] theorem Tryz.zo27 : zzt Tryz.prog 27 = true := by kernel_rfl
@[go_sem] theorem Tryz.pl27 : zz2 Tryz.prog 27 = some [(0, 1), (1, 1), (2, 1), (3, 1)] := by kernel_rfl
attribute [go_sem] Tryz.stoodInHeld27 Tryz.eqGuardType27
@[go_sem] theorem Tryz.cl28 : Tryz.prog.cellsOf 28 = 4 := by kernel_rfl
@[go_sem] theorem Tryz.by28 : Tryz.prog.bytesOf 28 = 40 := by kernel_rfl
attribute [go_sem] Tryz.underlying28
@[go_sem] theorem Tryz.ze28 : zzm Tryz.prog 28 = some [CV.d (D.lit (Value.int IntKind.i64 0)), CV.d (D.lit (Value.int IntKind.i64 0)), CV.d (D.lit (Value.int IntKind.u64 0)), CV.d (D.lit (Value.string ⟨#[]⟩))] := by kernel_rfl
@[go_sem] theorem Tryz.zo28 : zzt Tryz.prog 28 = true := by kernel_rfl
@[go_sem] theorem Tryz.pl28 : zz2 Tryz.prog 28 = some [(0, 1), (1, 1), (2, 1), (3, 1)] := by kernel_rfl
attribute [go_sem] Tryz.stoodInHeld28 Tryz.eqGuardType28
@[go_sem] theorem Tryz.cl29 : Tryz.prog.cellsOf 29 = 1 := by kernel_rfl
@[go_sem] theorem Tryz.by29 : Tryz.prog.bytesOf 29 = 24 := by kernel_rfl
attribute [go_sem] Tryz.underlying29
@[go_sem] theorem Tryz.ze29 : zzm Tryz.prog 29 = some [CV.full []] := by kernel_rfl
@[go_sem] theorem Tryz.zo29 : zzt Tryz.prog 29 = true := by kernel_rfl
@[go_sem] theorem Tryz.cl30 : Tryz.prog.cellsOf 30 = 1 := by kernel_rfl
@[go_sem] theorem Tryz.by30 : Tryz.prog.bytesOf 30 = 24 := by kernel_rfl
attribute [go_sem] Tryz.underlying30
@[go_sem] theorem Tryz.ze30 : zzm Tryz.prog 30 = some [CV.full []] := by kernel_rfl
@[go_sem] theorem Tryz.zo30 : zzt Tryz.prog 30 = true := by kernel_rfl
@[go_sem] theorem Tryz.cl33 : Tryz.prog.cellsOf 33 = 1 := by kernel_rfl
@[go_sem] theorem Tryz.by33 : Tryz.prog.bytesOf 33 = 24 := by kernel_rfl
attribute [go_sem] Tryz.underlying33
@[go_sem] theorem Tryz.ze33 : zzm Tryz.prog 33 = some [CV.full []] := by kernel_rfl
@[go_sem] theorem Tryz.zo33 : zzt Tryz.prog 33 = true := by kernel_rfl
@[go_sem] theorem Tryz.cl34 : Tryz.prog.cellsOf 34 = 3 := by kernel_rfl
@[go_sem] theorem Tryz.by34 : Tryz.prog.bytesOf 34 = 40 := by kernel_rfl
attribute [go_sem] Tryz.underlying34
@[go_sem] theorem Tryz.ze34 : zzm Tryz.prog 34 = some [CV.d (D.lit (Value.int IntKind.i64 0)), CV.d (D.lit (Value.int IntKind.i64 0)), CV.full []] := by kernel_rfl
@[go_sem] theorem Tryz.zo34 : zzt Tryz.prog 34 = true := by kernel_rfl
@[go_sem] theorem Tryz.pl34 : zz2 Tryz.prog 34 = some [(0, 1), (1, 1), (2, 1)] := by kernel_rfl
attribute [go_sem] Tryz.stoodInHeld34 Tryz.eqGuardType34
@[go_sem] theorem Tryz.cl35 : Tryz.prog.cellsOf 35 = 3 := by kernel_rfl
@[go_sem] theorem Tryz.by35 : Tryz.prog.bytesOf 35 = 40 := by kernel_rfl
attribute [go_sem] Tryz.underlying35
@[go_sem] theorem Tryz.ze35 : zzm Tryz.prog 35 = some [CV.d (D.lit (Value.int IntKind.i64 0)), CV.d (D.lit (Value.int IntKind.i64 0)), CV.full []] := by kernel_rfl
@[go_sem] theorem Tryz.zo35 : zzt Tryz.prog 35 = true := by kernel_rfl
@[go_sem] theorem Tryz.pl35 : zz2 Tryz.prog 35 = some [(0, 1), (1, 1), (2, 1)] := by kernel_rfl
attribute [go_sem] Tryz.stoodInHeld35 Tryz.eqGuardType35
@[go_sem] theorem Tryz.cl36 : Tryz.prog.cellsOf 36 = 2 := by kernel_rfl
@[go_sem] theorem Tryz.by36 : Tryz.prog.bytesOf 36 = 16 := by kernel_rfl
attribute [go_sem] Tryz.underlying36
@[go_sem] theorem Tryz.ze36 : zzm Tryz.prog 36 = some [CV.d (D.lit (Value.int IntKind.i64 0)), CV.d (D.lit (Value.int IntKind.i64 0))] := by kernel_rfl
@[go_sem] theorem Tryz.zo36 : zzt Tryz.prog 36 = true := by kernel_rfl
@[go_sem] theorem Tryz.pl36 : zz2 Tryz.prog 36 = some [(0, 1), (1, 1)] := by kernel_rfl
attribute [go_sem] Tryz.stoodInHeld36 Tryz.eqGuardType36
@[go_sem] theorem Tryz.cl37 : Tryz.prog.cellsOf 37 = 2 := by kernel_rfl
@[go_sem] theorem Tryz.by37 : Tryz.prog.bytesOf 37 = 16 := by kernel_rfl
attribute [go_sem] Tryz.underlying37
@[go_sem] theorem Tryz.ze37 : zzm Tryz.prog 37 = some [CV.d (D.lit (Value.int IntKind.i64 0)), CV.d (D.lit (Value.int IntKind.i64 0))] := by kernel_rfl
@[go_sem] theorem Tryz.zo37 : zzt Tryz.prog 37 = true := by kernel_rfl
@[go_sem] theorem Tryz.pl37 : zz2 Tryz.prog 37 = some [(0, 1), (1, 1)] := by kernel_rfl
attribute [go_sem] Tryz.stoodInHeld37 Tryz.eqGuardType37
@[go_sem] theorem Tryz.cl38 : Tryz.prog.cellsOf 38 = 1 := by kernel_rfl
@[go_sem] theorem Tryz.by38 : Tryz.prog.bytesOf 38 = 24 := by kernel_rfl
attribute [go_sem] Tryz.underlying38
@[go_sem] theorem Tryz.ze38 : zzm Tryz.prog 38 = some [CV.full []] := by kernel_rfl
@[go_sem] theorem Tryz.zo38 : zzt Tryz.prog 38 = true := by kernel_rfl
@[go_sem] theorem Tryz.cl39 : Tryz.prog.cellsOf 39 = 3 := by kernel_rfl
@[go_sem] theorem Tryz.by39 : Tryz.prog.bytesOf 39 = 48 := by kernel_rfl
attribute [go_sem] Tryz.underlying39
@[go_sem] theorem Tryz.ze39 : zzm Tryz.prog 39 = some [CV.d (D.lit (Value.string ⟨#[]⟩)), CV.full [], CV.d (D.lit (Value.int IntKind.i64 0))] := by kernel_rfl
@[go_sem] theorem Tryz.zo39 : zzt Tryz.prog 39 = true := by kernel_rfl
@[go_sem] theorem Tryz.pl39 : zz2 Tryz.prog 39 = some [(0, 1), (1, 1), (2, 1)] := by kernel_rfl
attribute [go_sem] Tryz.stoodInHeld39 Tryz.eqGuardType39
@[go_sem] theorem Tryz.cl40 : Tryz.prog.cellsOf 40 = 3 := by kernel_rfl
@[go_sem] theorem Tryz.by40 : Tryz.prog.bytesOf 40 = 48 := by kernel_rfl
attribute [go_sem] Tryz.underlying40
@[go_sem] theorem Tryz.ze40 : zzm Tryz.prog 40 = some [CV.d (D.lit (Value.string ⟨#[]⟩)), CV.full [], CV.d (D.lit (Value.int IntKind.i64 0))] := by kernel_rfl
@[go_sem] theorem Tryz.zo40 : zzt Tryz.prog 40 = true := by kernel_rfl
@[go_sem] theorem Tryz.pl40 : zz2 Tryz.prog 40 = some [(0, 1), (1, 1), (2, 1)] := by kernel_rfl
attribute [go_sem] Tryz.stoodInHeld40 Tryz.eqGuardType40
@[go_sem] theorem Tryz.cl41 : Tryz.prog.cellsOf 41 = 8 := by kernel_rfl
@[go_sem] theorem Tryz.by41 : Tryz.prog.bytesOf 41 = 112 := by kernel_rfl
attribute [go_sem] Tryz.underlying41
@[go_sem] theorem Tryz.ze41 : zzm Tryz.prog 41 = some [CV.d (D.lit (Value.int IntKind.i64 0)), CV.d (D.lit (Value.string ⟨#[]⟩)), CV.full [], CV.d (D.lit (Value.int IntKind.i64 0)), CV.d (D.lit (Value.int IntKind.i64 0)), CV.d (D.lit (Value.string ⟨#[]⟩)), CV.full [], CV.d (D.lit (Value.int IntKind.i64 0))] := by kernel_rfl
@[go_sem] theorem Tryz.zo41 : zzt Tryz.prog 41 = true := by kernel_rfl
@[go_sem] theorem Tryz.pl41 : zz2 Tryz.prog 41 = some [(0, 1), (1, 1), (2, 1), (3, 2), (5, 3)] := by kernel_rfl
attribute [go_sem] Tryz.stoodInHeld41 Tryz.eqGuardType41
@[go_sem] theorem Tryz.cl42 : Tryz.prog.cellsOf 42 = 8 := by kernel_rfl
@[go_sem] theorem Tryz.by42 : Tryz.prog.bytesOf 42 = 112 := by kernel_rfl
attribute [go_sem] Tryz.underlying42
@[go_sem] theorem Tryz.ze42 : zzm Tryz.prog 42 = some [CV.d (D.lit (Value.int IntKind.i64 0)), CV.d (D.lit (Value.string ⟨#[]⟩)), CV.full [], CV.d (D.lit (Value.int IntKind.i64 0)), CV.d (D.lit (Value.int IntKind.i64 0)), CV.d (D.lit (Value.string ⟨#[]⟩)), CV.full [], CV.d (D.lit (Value.int IntKind.i64 0))] := by kernel_rfl
@[go_sem] theorem Tryz.zo42 : zzt Tryz.prog 42 = true := by kernel_rfl
@[go_sem] theorem Tryz.pl42 : zz2 Tryz.prog 42 = some [(0, 1), (1, 1), (2, 1), (3, 2), (5, 3)] := by kernel_rfl
attribute [go_sem] Tryz.stoodInHeld42 Tryz.eqGuardType42
@[go_sem] theorem Tryz.cl43 : Tryz.prog.cellsOf 43 = 1 := by kernel_rfl
@[go_sem] theorem Tryz.by43 : Tryz.prog.bytesOf 43 = 8 := by kernel_rfl
attribute [go_sem] Tryz.underlying43
@[go_sem] theorem Tryz.ze43 : zzm Tryz.prog 43 = some [CV.d (D.lit (Value.int IntKind.i64 0))] := by kernel_rfl
@[go_sem] theorem Tryz.zo43 : zzt Tryz.prog 43 = true := by kernel_rfl
@[go_sem] theorem Tryz.cl51 : Tryz.prog.cellsOf 51 = 1 := by kernel_rfl
@[go_sem] theorem Tryz.by51 : Tryz.prog.bytesOf 51 = 24 := by kernel_rfl
attribute [go_sem] Tryz.underlying51
@[go_sem] theorem Tryz.ze51 : zzm Tryz.prog 51 = some [CV.full []] := by kernel_rfl
@[go_sem] theorem Tryz.zo51 : zzt Tryz.prog 51 = true := by kernel_rfl
@[go_sem] theorem Tryz.cl54 : Tryz.prog.cellsOf 54 = 1 := by kernel_rfl
@[go_sem] theorem Tryz.by54 : Tryz.prog.bytesOf 54 = 24 := by kernel_rfl
attribute [go_sem] Tryz.underlying54
@[go_sem] theorem Tryz.ze54 : zzm Tryz.prog 54 = some [CV.full []] := by kernel_rfl
@[go_sem] theorem Tryz.zo54 : zzt Tryz.prog 54 = true := by kernel_rfl
@[go_sem] theorem Tryz.cl55 : Tryz.prog.cellsOf 55 = 1 := by kernel_rfl
@[go_sem] theorem Tryz.by55 : Tryz.prog.bytesOf 55 = 24 := by kernel_rfl
attribute [go_sem] Tryz.underlying55
@[go_sem] theorem Tryz.ze55 : zzm Tryz.prog 55 = some [CV.full []] := by kernel_rfl
@[go_sem] theorem Tryz.zo55 : zzt Tryz.prog 55 = true := by kernel_rfl
@[go_sem] theorem Tryz.cl56 : Tryz.prog.cellsOf 56 = 11 := by kernel_rfl
@[go_sem] theorem Tryz.by56 : Tryz.prog.bytesOf 56 = 144 := by kernel_rfl
attribute [go_sem] Tryz.underlying56
@[go_sem] theorem Tryz.ze56 : zzm Tryz.prog 56 = some [CV.d (D.lit (Value.int IntKind.i64 0)), CV.d (D.lit (Value.string ⟨#[]⟩)), CV.full [], CV.d (D.lit (Value.int IntKind.i64 0)), CV.d (D.lit (Value.int IntKind.i64 0)), CV.d (D.lit (Value.int IntKind.i64 0)), CV.d (D.lit (Value.int IntKind.i64 0)), CV.full [], CV.full [], CV.d (D.lit (Value.int IntKind.i64 0)), CV.d (D.lit (Value.bool false))] := by kernel_rfl
@[go_sem] theorem Tryz.zo56 : zzt Tryz.prog 56 = true := by kernel_rfl
@[go_sem] theorem Tryz.pl56 : zz2 Tryz.prog 56 = some [(0, 1), (1, 1), (2, 1), (3, 1), (4, 1), (5, 2), (7, 1), (8, 1), (9, 1), (10, 1)] := by kernel_rfl
attribute [go_sem] Tryz.stoodInHeld56 Tryz.eqGuardType56
@[go_sem] theorem Tryz.cl57 : Tryz.prog.cellsOf 57 = 11 := by kernel_rfl
@[go_sem] theorem Tryz.by57 : Tryz.prog.bytesOf 57 = 144 := by kernel_rfl
attribute [go_sem] Tryz.underlying57
@[go_sem] theorem Tryz.ze57 : zzm Tryz.prog 57 = some [CV.d (D.lit (Value.int IntKind.i64 0)), CV.d (D.lit (Value.string ⟨#[]⟩)), CV.full [], CV.d (D.lit (Value.int IntKind.i64 0)), CV.d (D.lit (Value.int IntKind.i64 0)), CV.d (D.lit (Value.int IntKind.i64 0)), CV.d (D.lit (Value.int IntKind.i64 0)), CV.full [], CV.full [], CV.d (D.lit (Value.int IntKind.i64 0)), CV.d (D.lit (Value.bool false))] := by kernel_rfl
@[go_sem] theorem Tryz.zo57 : zzt Tryz.prog 57 = true := by kernel_rfl
@[go_sem] theorem Tryz.pl57 : zz2 Tryz.prog 57 = some [(0, 1), (1, 1), (2, 1), (3, 1), (4, 1), (5, 2), (7, 1), (8, 1), (9, 1), (10, 1)] := by kernel_rfl
attribute [go_sem] Tryz.stoodInHeld57 Tryz.eqGuardType57
@[go_sem] theorem Tryz.cl59 : Tryz.prog.cellsOf 59 = 6 := by kernel_rfl
@[go_sem] theorem Tryz.by59 : Tryz.prog.bytesOf 59 = 72 := by kernel_rfl
attribute [go_sem] Tryz.underlying59
@[go_sem] theorem Tryz.ze59 : zzm Tryz.prog 59 = some [CV.d (D.lit (Value.string ⟨#[]⟩)), CV.d (D.lit (Value.int IntKind.i64 0)), CV.d (D.lit (Value.int IntKind.i64 0)), CV.d (D.lit (Value.int IntKind.i64 0)), CV.d (D.lit (Value.int IntKind.i64 0)), CV.full []] := by kernel_rfl
@[go_sem] theorem Tryz.zo59 : zzt Tryz.prog 59 = true := by kernel_rfl
@[go_sem] theorem Tryz.pl59 : zz2 Tryz.prog 59 = some [(0, 1), (1, 2), (3, 2), (5, 1)] := by kernel_rfl
attribute [go_sem] Tryz.stoodInHeld59 Tryz.eqGuardType59
@[go_sem] theorem Tryz.cl60 : Tryz.prog.cellsOf 60 = 6 := by kernel_rfl
@[go_sem] theorem Tryz.by60 : Tryz.prog.bytesOf 60 = 72 := by kernel_rfl
attribute [go_sem] Tryz.underlying60
@[go_sem] theorem Tryz.ze60 : zzm Tryz.prog 60 = some [CV.d (D.lit (Value.string ⟨#[]⟩)), CV.d (D.lit (Value.int IntKind.i64 0)), CV.d (D.lit (Value.int IntKind.i64 0)), CV.d (D.lit (Value.int IntKind.i64 0)), CV.d (D.lit (Value.int IntKind.i64 0)), CV.full []] := by kernel_rfl
@[go_sem] theorem Tryz.zo60 : zzt Tryz.prog 60 = true := by kernel_rfl
@[go_sem] theorem Tryz.pl60 : zz2 Tryz.prog 60 = some [(0, 1), (1, 2), (3, 2), (5, 1)] := by kernel_rfl
attribute [go_sem] Tryz.stoodInHeld60 Tryz.eqGuardType60
@[go_sem] theorem Tryz.cl61 : Tryz.prog.cellsOf 61 = 3 := by kernel_rfl
@[go_sem] theorem Tryz.by61 : Tryz.prog.bytesOf 61 = 40 := by kernel_rfl
attribute [go_sem] Tryz.underlying61
@[go_sem] theorem Tryz.ze61 : zzm Tryz.prog 61 = some [CV.d (D.lit (Value.int IntKind.i64 0)), CV.d (D.lit (Value.int IntKind.i64 0)), CV.full []] := by kernel_rfl
@[go_sem] theorem Tryz.zo61 : zzt Tryz.prog 61 = true := by kernel_rfl
@[go_sem] theorem Tryz.pl61 : zz2 Tryz.prog 61 = some [(0, 2), (2, 1)] := by kernel_rfl
attribute [go_sem] Tryz.stoodInHeld61 Tryz.eqGuardType61
@[go_sem] theorem Tryz.cl62 : Tryz.prog.cellsOf 62 = 3 := by kernel_rfl
@[go_sem] theorem Tryz.by62 : Tryz.prog.bytesOf 62 = 40 := by kernel_rfl
attribute [go_sem] Tryz.underlying62
@[go_sem] theorem Tryz.ze62 : zzm Tryz.prog 62 = some [CV.d (D.lit (Value.int IntKind.i64 0)), CV.d (D.lit (Value.int IntKind.i64 0)), CV.full []] := by kernel_rfl
@[go_sem] theorem Tryz.zo62 : zzt Tryz.prog 62 = true := by kernel_rfl
@[go_sem] theorem Tryz.pl62 : zz2 Tryz.prog 62 = some [(0, 2), (2, 1)] := by kernel_rfl
attribute [go_sem] Tryz.stoodInHeld62 Tryz.eqGuardType62
@[go_sem] theorem Tryz.cl64 : Tryz.prog.cellsOf 64 = 1 := by kernel_rfl
@[go_sem] theorem Tryz.by64 : Tryz.prog.bytesOf 64 = 24 := by kernel_rfl
attribute [go_sem] Tryz.underlying64
@[go_sem] theorem Tryz.ze64 : zzm Tryz.prog 64 = some [CV.full []] := by kernel_rfl
@[go_sem] theorem Tryz.zo64 : zzt Tryz.prog 64 = true := by kernel_rfl
@[go_sem] theorem Tryz.cl68 : Tryz.prog.cellsOf 68 = 1 := by kernel_rfl
@[go_sem] theorem Tryz.by68 : Tryz.prog.bytesOf 68 = 8 := by kernel_rfl
attribute [go_sem] Tryz.underlying68
@[go_sem] theorem Tryz.ze68 : zzm Tryz.prog 68 = some [CV.d (D.lit (Value.pointer none))] := by kernel_rfl
@[go_sem] theorem Tryz.zo68 : zzt Tryz.prog 68 = true := by kernel_rfl
@[go_sem] theorem Tryz.cl70 : Tryz.prog.cellsOf 70 = 5 := by kernel_rfl
@[go_sem] theorem Tryz.by70 : Tryz.prog.bytesOf 70 = 56 := by kernel_rfl
attribute [go_sem] Tryz.underlying70
@[go_sem] theorem Tryz.ze70 : zzm Tryz.prog 70 = some [CV.d (D.lit (Value.int IntKind.i64 0)), CV.d (D.lit (Value.int IntKind.i64 0)), CV.d (D.lit (Value.int IntKind.i64 0)), CV.full [], CV.d (D.lit (Value.int IntKind.i64 0))] := by kernel_rfl
@[go_sem] theorem Tryz.zo70 : zzt Tryz.prog 70 = true := by kernel_rfl
@[go_sem] theorem Tryz.pl70 : zz2 Tryz.prog 70 = some [(0, 1), (1, 3), (4, 1)] := by kernel_rfl
attribute [go_sem] Tryz.stoodInHeld70 Tryz.eqGuardType70
@[go_sem] theorem Tryz.cl71 : Tryz.prog.cellsOf 71 = 5 := by kernel_rfl
@[go_sem] theorem Tryz.by71 : Tryz.prog.bytesOf 71 = 56 := by kernel_rfl
attribute [go_sem] Tryz.underlying71
@[go_sem] theorem Tryz.ze71 : zzm Tryz.prog 71 = some [CV.d (D.lit (Value.int IntKind.i64 0)), CV.d (D.lit (Value.int IntKind.i64 0)), CV.d (D.lit (Value.int IntKind.i64 0)), CV.full [], CV.d (D.lit (Value.int IntKind.i64 0))] := by kernel_rfl
@[go_sem] theorem Tryz.zo71 : zzt Tryz.prog 71 = true := by kernel_rfl
@[go_sem] theorem Tryz.pl71 : zz2 Tryz.prog 71 = some [(0, 1), (1, 3), (4, 1)] := by kernel_rfl
attribute [go_sem] Tryz.stoodInHeld71 Tryz.eqGuardType71
@[go_sem] theorem Tryz.cl82 : Tryz.prog.cellsOf 82 = 1 := by kernel_rfl
@[go_sem] theorem Tryz.by82 : Tryz.prog.bytesOf 82 = 24 := by kernel_rfl
attribute [go_sem] Tryz.underlying82
@[go_sem] theorem Tryz.ze82 : zzm Tryz.prog 82 = some [CV.full []] := by kernel_rfl
@[go_sem] theorem Tryz.zo82 : zzt Tryz.prog 82 = true := by kernel_rfl
@[go_sem] theorem Tryz.cl85 : Tryz.prog.cellsOf 85 = 1 := by kernel_rfl
@[go_sem] theorem Tryz.by85 : Tryz.prog.bytesOf 85 = 8 := by kernel_rfl
attribute [go_sem] Tryz.underlying85
@[go_sem] theorem Tryz.ze85 : zzm Tryz.prog 85 = some [CV.d (D.lit (Value.pointer none))] := by kernel_rfl
@[go_sem] theorem Tryz.zo85 : zzt Tryz.prog 85 = true := by kernel_rfl
@[go_sem] theorem Tryz.cl86 : Tryz.prog.cellsOf 86 = 16 := by kernel_rfl
@[go_sem] theorem Tryz.by86 : Tryz.prog.bytesOf 86 = 224 := by kernel_rfl
attribute [go_sem] Tryz.underlying86
@[go_sem] theorem Tryz.ze86 : zzm Tryz.prog 86 = some [CV.d (D.lit (Value.int IntKind.i64 0)), CV.d (D.lit (Value.string ⟨#[]⟩)), CV.full [], CV.d (D.lit (Value.int IntKind.i64 0)), CV.d (D.lit (Value.int IntKind.i64 0)), CV.d (D.lit (Value.int IntKind.i64 0)), CV.d (D.lit (Value.int IntKind.i64 0)), CV.full [], CV.full [], CV.d (D.lit (Value.int IntKind.i64 0)), CV.d (D.lit (Value.bool false)), CV.full [], CV.d (D.lit (Value.string ⟨#[]⟩)), CV.full [], CV.d (D.lit (Value.int IntKind.i64 0)), CV.d (D.lit (Value.int IntKind.i64 0))] := by kernel_rfl
@[go_sem] theorem Tryz.zo86 : zzt Tryz.prog 86 = true := by kernel_rfl
@[go_sem] theorem Tryz.pl86 : zz2 Tryz.prog 86 = some [(0, 11), (11, 1), (12, 3), (15, 1)] := by kernel_rfl
attribute [go_sem] Tryz.stoodInHeld86 Tryz.eqGuardType86
@[go_sem] theorem Tryz.cl87 : Tryz.prog.cellsOf 87 = 16 := by kernel_rfl
@[go_sem] theorem Tryz.by87 : Tryz.prog.bytesOf 87 = 224 := by kernel_rfl
attribute [go_sem] Tryz.underlying87
@[go_sem] theorem Tryz.ze87 : zzm Tryz.prog 87 = some [CV.d (D.lit (Value.int IntKind.i64 0)), CV.d (D.lit (Value.string ⟨#[]⟩)), CV.full [], CV.d (D.lit (Value.int IntKind.i64 0)), CV.d (D.lit (Value.int IntKind.i64 0)), CV.d (D.lit (Value.int IntKind.i64 0)), CV.d (D.lit (Value.int IntKind.i64 0)), CV.full [], CV.full [], CV.d (D.lit (Value.int IntKind.i64 0)), CV.d (D.lit (Value.bool false)), CV.full [], CV.d (D.lit (Value.string ⟨#[]⟩)), CV.full [], CV.d (D.lit (Value.int IntKind.i64 0)), CV.d (D.lit (Value.int IntKind.i64 0))] := by kernel_rfl
@[go_sem] theorem Tryz.zo87 : zzt Tryz.prog 87 = true := by kernel_rfl
@[go_sem] theorem Tryz.pl87 : zz2 Tryz.prog 87 = some [(0, 11), (11, 1), (12, 3), (15, 1)] := by kernel_rfl
attribute [go_sem] Tryz.stoodInHeld87 Tryz.eqGuardType87
@[go_sem] theorem Tryz.cl93 : Tryz.prog.cellsOf 93 = 3 := by kernel_rfl
@[go_sem] theorem Tryz.by93 : Tryz.prog.bytesOf 93 = 32 := by kernel_rfl
attribute [go_sem] Tryz.underlying93
@[go_sem] theorem Tryz.ze93 : zzm Tryz.prog 93 = some [CV.d (D.lit (Value.string ⟨#[]⟩)), CV.d (D.lit (Value.int IntKind.i64 0)), CV.d (D.lit (Value.bool false))] := by kernel_rfl
@[go_sem] theorem Tryz.zo93 : zzt Tryz.prog 93 = true := by kernel_rfl
@[go_sem] theorem Tryz.pl93 : zz2 Tryz.prog 93 = some [(0, 1), (1, 1), (2, 1)] := by kernel_rfl
attribute [go_sem] Tryz.stoodInHeld93 Tryz.eqGuardType93
@[go_sem] theorem Tryz.cl94 : Tryz.prog.cellsOf 94 = 3 := by kernel_rfl
@[go_sem] theorem Tryz.by94 : Tryz.prog.bytesOf 94 = 32 := by kernel_rfl
attribute [go_sem] Tryz.underlying94
@[go_sem] theorem Tryz.ze94 : zzm Tryz.prog 94 = some [CV.d (D.lit (Value.string ⟨#[]⟩)), CV.d (D.lit (Value.int IntKind.i64 0)), CV.d (D.lit (Value.bool false))] := by kernel_rfl
@[go_sem] theorem Tryz.zo94 : zzt Tryz.prog 94 = true := by kernel_rfl
@[go_sem] theorem Tryz.pl94 : zz2 Tryz.prog 94 = some [(0, 1), (1, 1), (2, 1)] := by kernel_rfl
attribute [go_sem] Tryz.stoodInHeld94 Tryz.eqGuardType94
@[go_sem] theorem Tryz.cl95 : Tryz.prog.cellsOf 95 = 1 := by kernel_rfl
@[go_sem] theorem Tryz.by95 : Tryz.prog.bytesOf 95 = 24 := by kernel_rfl
attribute [go_sem] Tryz.underlying95
@[go_sem] theorem Tryz.ze95 : zzm Tryz.prog 95 = some [CV.full []] := by kernel_rfl
@[go_sem] theorem Tryz.zo95 : zzt Tryz.prog 95 = true := by kernel_rfl
@[go_sem] theorem Tryz.cl96 : Tryz.prog.cellsOf 96 = 4 := by kernel_rfl
@[go_sem] theorem Tryz.by96 : Tryz.prog.bytesOf 96 = 48 := by kernel_rfl
attribute [go_sem] Tryz.underlying96
@[go_sem] theorem Tryz.ze96 : zzm Tryz.prog 96 = some [CV.d (D.lit (Value.int IntKind.i64 0)), CV.d (D.lit (Value.int IntKind.i64 0)), CV.d (D.lit (Value.int IntKind.i64 0)), CV.full []] := by kernel_rfl
@[go_sem] theorem Tryz.zo96 : zzt Tryz.prog 96 = true := by kernel_rfl
@[go_sem] theorem Tryz.pl96 : zz2 Tryz.prog 96 = some [(0, 1), (1, 1), (2, 1), (3, 1)] := by kernel_rfl
attribute [go_sem] Tryz.stoodInHeld96 Tryz.eqGuardType96
@[go_sem] theorem Tryz.cl97 : Tryz.prog.cellsOf 97 = 4 := by kernel_rfl
@[go_sem] theorem Tryz.by97 : Tryz.prog.bytesOf 97 = 48 := by kernel_rfl
attribute [go_sem] Tryz.underlying97
@[go_sem] theorem Tryz.ze97 : zzm Tryz.prog 97 = some [CV.d (D.lit (Value.int IntKind.i64 0)), CV.d (D.lit (Value.int IntKind.i64 0)), CV.d (D.lit (Value.int IntKind.i64 0)), CV.full []] := by kernel_rfl
@[go_sem] theorem Tryz.zo97 : zzt Tryz.prog 97 = true := by kernel_rfl
@[go_sem] theorem Tryz.pl97 : zz2 Tryz.prog 97 = some [(0, 1), (1, 1), (2, 1), (3, 1)] := by kernel_rfl
attribute [go_sem] Tryz.stoodInHeld97 Tryz.eqGuardType97
@[go_sem] theorem Tryz.cl99 : Tryz.prog.cellsOf 99 = 1 := by kernel_rfl
@[go_sem] theorem Tryz.by99 : Tryz.prog.bytesOf 99 = 24 := by kernel_rfl
attribute [go_sem] Tryz.underlying99
@[go_sem] theorem Tryz.ze99 : zzm Tryz.prog 99 = some [CV.full []] := by kernel_rfl
@[go_sem] theorem Tryz.zo99 : zzt Tryz.prog 99 = true := by kernel_rfl
@[go_sem] theorem Tryz.cl100 : Tryz.prog.cellsOf 100 = 1 := by kernel_rfl
@[go_sem] theorem Tryz.by100 : Tryz.prog.bytesOf 100 = 24 := by kernel_rfl
attribute [go_sem] Tryz.underlying100
@[go_sem] theorem Tryz.ze100 : zzm Tryz.prog 100 = some [CV.full []] := by kernel_rfl
@[go_sem] theorem Tryz.zo100 : zzt Tryz.prog 100 = true := by kernel_rfl
@[go_sem] theorem Tryz.cl101 : Tryz.prog.cellsOf 101 = 3 := by kernel_rfl
@[go_sem] theorem Tryz.by101 : Tryz.prog.bytesOf 101 = 64 := by kernel_rfl
attribute [go_sem] Tryz.underlying101
@[go_sem] theorem Tryz.ze101 : zzm Tryz.prog 101 = some [CV.d (D.lit (Value.string ⟨#[]⟩)), CV.full [], CV.full []] := by kernel_rfl
@[go_sem] theorem Tryz.zo101 : zzt Tryz.prog 101 = true := by kernel_rfl
@[go_sem] theorem Tryz.pl101 : zz2 Tryz.prog 101 = some [(0, 1), (1, 1), (2, 1)] := by kernel_rfl
attribute [go_sem] Tryz.stoodInHeld101 Tryz.eqGuardType101
@[go_sem] theorem Tryz.cl102 : Tryz.prog.cellsOf 102 = 3 := by kernel_rfl
@[go_sem] theorem Tryz.by102 : Tryz.prog.bytesOf 102 = 64 := by kernel_rfl
attribute [go_sem] Tryz.underlying102
@[go_sem] theorem Tryz.ze102 : zzm Tryz.prog 102 = some [CV.d (D.lit (Value.string ⟨#[]⟩)), CV.full [], CV.full []] := by kernel_rfl
@[go_sem] theorem Tryz.zo102 : zzt Tryz.prog 102 = true := by kernel_rfl
@[go_sem] theorem Tryz.pl102 : zz2 Tryz.prog 102 = some [(0, 1), (1, 1), (2, 1)] := by kernel_rfl
attribute [go_sem] Tryz.stoodInHeld102 Tryz.eqGuardType102
@[go_sem] theorem Tryz.cl103 : Tryz.prog.cellsOf 103 = 1 := by kernel_rfl
@[go_sem] theorem Tryz.by103 : Tryz.prog.bytesOf 103 = 8 := by kernel_rfl
attribute [go_sem] Tryz.underlying103
@[go_sem] theorem Tryz.ze103 : zzm Tryz.prog 103 = some [CV.d (D.lit (Value.pointer none))] := by kernel_rfl
@[go_sem] theorem Tryz.zo103 : zzt Tryz.prog 103 = true := by kernel_rfl
@[go_sem] theorem Tryz.cl104 : Tryz.prog.cellsOf 104 = 1 := by kernel_rfl
@[go_sem] theorem Tryz.by104 : Tryz.prog.bytesOf 104 = 24 := by kernel_rfl
attribute [go_sem] Tryz.underlying104
@[go_sem] theorem Tryz.ze104 : zzm Tryz.prog 104 = some [CV.full []] := by kernel_rfl
@[go_sem] theorem Tryz.zo104 : zzt Tryz.prog 104 = true := by kernel_rfl
@[go_sem] theorem Tryz.cl105 : Tryz.prog.cellsOf 105 = 1 := by kernel_rfl
@[go_sem] theorem Tryz.by105 : Tryz.prog.bytesOf 105 = 24 := by kernel_rfl
attribute [go_sem] Tryz.underlying105
@[go_sem] theorem Tryz.ze105 : zzm Tryz.prog 105 = some [CV.full []] := by kernel_rfl
@[go_sem] theorem Tryz.zo105 : zzt Tryz.prog 105 = true := by kernel_rfl
@[go_sem] theorem Tryz.cl106 : Tryz.prog.cellsOf 106 = 4 := by kernel_rfl
@[go_sem] theorem Tryz.by106 : Tryz.prog.bytesOf 106 = 72 := by kernel_rfl
attribute [go_sem] Tryz.underlying106
@[go_sem] theorem Tryz.ze106 : zzm Tryz.prog 106 = some [CV.d (D.lit (Value.string ⟨#[]⟩)), CV.full [], CV.full [], CV.d (D.lit (Value.bool false))] := by kernel_rfl
@[go_sem] theorem Tryz.zo106 : zzt Tryz.prog 106 = true := by kernel_rfl
@[go_sem] theorem Tryz.pl106 : zz2 Tryz.prog 106 = some [(0, 1), (1, 1), (2, 1), (3, 1)] := by kernel_rfl
attribute [go_sem] Tryz.stoodInHeld106 Tryz.eqGuardType106
@[go_sem] theorem Tryz.cl107 : Tryz.prog.cellsOf 107 = 4 := by kernel_rfl
@[go_sem] theorem Tryz.by107 : Tryz.prog.bytesOf 107 = 72 := by kernel_rfl
attribute [go_sem] Tryz.underlying107
@[go_sem] theorem Tryz.ze107 : zzm Tryz.prog 107 = some [CV.d (D.lit (Value.string ⟨#[]⟩)), CV.full [], CV.full [], CV.d (D.lit (Value.bool false))] := by kernel_rfl
@[go_sem] theorem Tryz.zo107 : zzt Tryz.prog 107 = true := by kernel_rfl
@[go_sem] theorem Tryz.pl107 : zz2 Tryz.prog 107 = some [(0, 1), (1, 1), (2, 1), (3, 1)] := by kernel_rfl
attribute [go_sem] Tryz.stoodInHeld107 Tryz.eqGuardType107
@[go_sem] theorem Tryz.cl111 : Tryz.prog.cellsOf 111 = 1 := by kernel_rfl
@[go_sem] theorem Tryz.by111 : Tryz.prog.bytesOf 111 = 24 := by kernel_rfl
attribute [go_sem] Tryz.underlying111
@[go_sem] theorem Tryz.ze111 : zzm Tryz.prog 111 = some [CV.full []] := by kernel_rfl
@[go_sem] theorem Tryz.zo111 : zzt Tryz.prog 111 = true := by kernel_rfl
@[go_sem] theorem Tryz.cl137 : Tryz.prog.cellsOf 137 = 3 := by kernel_rfl
@[go_sem] theorem Tryz.by137 : Tryz.prog.bytesOf 137 = 40 := by kernel_rfl
attribute [go_sem] Tryz.underlying137
@[go_sem] theorem Tryz.ze137 : zzm Tryz.prog 137 = some [CV.d (D.lit (Value.int IntKind.i64 0)), CV.d (D.lit (Value.int IntKind.i64 0)), CV.full []] := by kernel_rfl
@[go_sem] theorem Tryz.zo137 : zzt Tryz.prog 137 = true := by kernel_rfl
@[go_sem] theorem Tryz.pl137 : zz2 Tryz.prog 137 = some [(0, 2), (2, 1)] := by kernel_rfl
attribute [go_sem] Tryz.stoodInHeld137 Tryz.eqGuardType137
@[go_sem] theorem Tryz.cl138 : Tryz.prog.cellsOf 138 = 5 := by kernel_rfl
@[go_sem] theorem Tryz.by138 : Tryz.prog.bytesOf 138 = 56 := by kernel_rfl
attribute [go_sem] Tryz.underlying138
@[go_sem] theorem Tryz.ze138 : zzm Tryz.prog 138 = some [CV.d (D.lit (Value.int IntKind.i64 0)), CV.d (D.lit (Value.int IntKind.i64 0)), CV.d (D.lit (Value.int IntKind.i64 0)), CV.d (D.lit (Value.int IntKind.i64 0)), CV.full []] := by kernel_rfl
@[go_sem] theorem Tryz.zo138 : zzt Tryz.prog 138 = true := by kernel_rfl
@[go_sem] theorem Tryz.pl138 : zz2 Tryz.prog 138 = some [(0, 2), (2, 3)] := by kernel_rfl
attribute [go_sem] Tryz.stoodInHeld138 Tryz.eqGuardType138
@[go_sem] theorem Tryz.cl139 : Tryz.prog.cellsOf 139 = 5 := by kernel_rfl
@[go_sem] theorem Tryz.by139 : Tryz.prog.bytesOf 139 = 56 := by kernel_rfl
attribute [go_sem] Tryz.underlying139
@[go_sem] theorem Tryz.ze139 : zzm Tryz.prog 139 = some [CV.d (D.lit (Value.int IntKind.i64 0)), CV.d (D.lit (Value.int IntKind.i64 0)), CV.d (D.lit (Value.int IntKind.i64 0)), CV.d (D.lit (Value.int IntKind.i64 0)), CV.full []] := by kernel_rfl
@[go_sem] theorem Tryz.zo139 : zzt Tryz.prog 139 = true := by kernel_rfl
@[go_sem] theorem Tryz.pl139 : zz2 Tryz.prog 139 = some [(0, 2), (2, 3)] := by kernel_rfl
attribute [go_sem] Tryz.stoodInHeld139 Tryz.eqGuardType139
@[go_sem] theorem Tryz.cl143 : Tryz.prog.cellsOf 143 = 1 := by kernel_rfl
@[go_sem] theorem Tryz.by143 : Tryz.prog.bytesOf 143 = 8 := by kernel_rfl
attribute [go_sem] Tryz.underlying143
@[go_sem] theorem Tryz.ze143 : zzm Tryz.prog 143 = some [CV.d (D.lit (Value.float FloatKind.f64 0))] := by kernel_rfl
@[go_sem] theorem Tryz.zo143 : zzt Tryz.prog 143 = true := by kernel_rfl
@[go_sem] theorem Tryz.cl147 : Tryz.prog.cellsOf 147 = 1 := by kernel_rfl
@[go_sem] theorem Tryz.by147 : Tryz.prog.bytesOf 147 = 24 := by kernel_rfl
attribute [go_sem] Tryz.underlying147
@[go_sem] theorem Tryz.ze147 : zzm Tryz.prog 147 = some [CV.full []] := by kernel_rfl
@[go_sem] theorem Tryz.zo147 : zzt Tryz.prog 147 = true := by kernel_rfl
@[go_sem] theorem Tryz.cl153 : Tryz.prog.cellsOf 153 = 6 := by kernel_rfl
@[go_sem] theorem Tryz.by153 : Tryz.prog.bytesOf 153 = 56 := by kernel_rfl
attribute [go_sem] Tryz.underlying153
@[go_sem] theorem Tryz.ze153 : zzm Tryz.prog 153 = some [CV.d (D.lit (Value.int IntKind.i64 0)), CV.d (D.lit (Value.int IntKind.i64 0)), CV.d (D.lit (Value.int IntKind.i64 0)), CV.d (D.lit (Value.int IntKind.i64 0)), CV.d (D.lit (Value.int IntKind.u64 0)), CV.d (D.lit (Value.string ⟨#[]⟩))] := by kernel_rfl
@[go_sem] theorem Tryz.zo153 : zzt Tryz.prog 153 = true := by kernel_rfl
@[go_sem] theorem Tryz.pl153 : zz2 Tryz.prog 153 = some [(0, 1), (1, 1), (2, 4)] := by kernel_rfl
attribute [go_sem] Tryz.stoodInHeld153 Tryz.eqGuardType153
@[go_sem] theorem Tryz.cl154 : Tryz.prog.cellsOf 154 = 6 := by kernel_rfl
@[go_sem] theorem Tryz.by154 : Tryz.prog.bytesOf 154 = 56 := by kernel_rfl
attribute [go_sem] Tryz.underlying154
@[go_sem] theorem Tryz.ze154 : zzm Tryz.prog 154 = some [CV.d (D.lit (Value.int IntKind.i64 0)), CV.d (D.lit (Value.int IntKind.i64 0)), CV.d (D.lit (Value.int IntKind.i64 0)), CV.d (D.lit (Value.int IntKind.i64 0)), CV.d (D.lit (Value.int IntKind.u64 0)), CV.d (D.lit (Value.string ⟨#[]⟩))] := by kernel_rfl
@[go_sem] theorem Tryz.zo154 : zzt Tryz.prog 154 = true := by kernel_rfl
@[go_sem] theorem Tryz.pl154 : zz2 Tryz.prog 154 = some [(0, 1), (1, 1), (2, 4)] := by kernel_rfl
attribute [go_sem] Tryz.stoodInHeld154 Tryz.eqGuardType154
@[go_sem] theorem Tryz.cl160 : Tryz.prog.cellsOf 160 = 4 := by kernel_rfl
@[go_sem] theorem Tryz.by160 : Tryz.prog.bytesOf 160 = 56 := by kernel_rfl
attribute [go_sem] Tryz.underlying160
@[go_sem] theorem Tryz.ze160 : zzm Tryz.prog 160 = some [CV.d (D.lit (Value.int IntKind.i64 0)), CV.d (D.lit (Value.string ⟨#[]⟩)), CV.full [], CV.d (D.lit (Value.int IntKind.i64 0))] := by kernel_rfl
@[go_sem] theorem Tryz.zo160 : zzt Tryz.prog 160 = true := by kernel_rfl
@[go_sem] theorem Tryz.pl160 : zz2 Tryz.prog 160 = some [(0, 1), (1, 3)] := by kernel_rfl
attribute [go_sem] Tryz.stoodInHeld160 Tryz.eqGuardType160
@[go_sem] theorem Tryz.cl161 : Tryz.prog.cellsOf 161 = 4 := by kernel_rfl
@[go_sem] theorem Tryz.by161 : Tryz.prog.bytesOf 161 = 56 := by kernel_rfl
attribute [go_sem] Tryz.underlying161
@[go_sem] theorem Tryz.ze161 : zzm Tryz.prog 161 = some [CV.d (D.lit (Value.int IntKind.i64 0)), CV.d (D.lit (Value.string ⟨#[]⟩)), CV.full [], CV.d (D.lit (Value.int IntKind.i64 0))] := by kernel_rfl
@[go_sem] theorem Tryz.zo161 : zzt Tryz.prog 161 = true := by kernel_rfl
@[go_sem] theorem Tryz.pl161 : zz2 Tryz.prog 161 = some [(0, 1), (1, 3)] := by kernel_rfl
attribute [go_sem] Tryz.stoodInHeld161 Tryz.eqGuardType161
@[go_sem] theorem Tryz.cl170 : Tryz.prog.cellsOf 170 = 7 := by kernel_rfl
@[go_sem] theorem Tryz.by170 : Tryz.prog.bytesOf 170 = 7 := by kernel_rfl
attribute [go_sem] Tryz.underlying170
@[go_sem] theorem Tryz.ze170 : zzm Tryz.prog 170 = some [CV.d (D.lit (Value.bool false)), CV.d (D.lit (Value.bool false)), CV.d (D.lit (Value.bool false)), CV.d (D.lit (Value.bool false)), CV.d (D.lit (Value.bool false)), CV.d (D.lit (Value.bool false)), CV.d (D.lit (Value.bool false))] := by kernel_rfl
@[go_sem] theorem Tryz.zo170 : zzt Tryz.prog 170 = true := by kernel_rfl
@[go_sem] theorem Tryz.cl175 : Tryz.prog.cellsOf 175 = 1 := by kernel_rfl
@[go_sem] theorem Tryz.by175 : Tryz.prog.bytesOf 175 = 8 := by kernel_rfl
attribute [go_sem] Tryz.underlying175
@[go_sem] theorem Tryz.ze175 : zzm Tryz.prog 175 = some [CV.d (D.lit (Value.map none))] := by kernel_rfl
@[go_sem] theorem Tryz.zo175 : zzt Tryz.prog 175 = true := by kernel_rfl
@[go_sem] theorem Tryz.cl181 : Tryz.prog.cellsOf 181 = 0 := by kernel_rfl
@[go_sem] theorem Tryz.by181 : Tryz.prog.bytesOf 181 = 0 := by kernel_rfl
attribute [go_sem] Tryz.underlying181
@[go_sem] theorem Tryz.ze181 : zzm Tryz.prog 181 = some [] := by kernel_rfl
@[go_sem] theorem Tryz.zo181 : zzt Tryz.prog 181 = true := by kernel_rfl
@[go_sem] theorem Tryz.cl182 : Tryz.prog.cellsOf 182 = 0 := by kernel_rfl
@[go_sem] theorem Tryz.by182 : Tryz.prog.bytesOf 182 = 0 := by kernel_rfl
attribute [go_sem] Tryz.underlying182
@[go_sem] theorem Tryz.ze182 : zzm Tryz.prog 182 = some [] := by kernel_rfl
@[go_sem] theorem Tryz.zo182 : zzt Tryz.prog 182 = true := by kernel_rfl
@[go_sem] theorem Tryz.pl182 : zz2 Tryz.prog 182 = some [(0, 0)] := by kernel_rfl
attribute [go_sem] Tryz.stoodInHeld182 Tryz.eqGuardType182
@[go_sem] theorem Tryz.cl185 : Tryz.prog.cellsOf 185 = 1 := by kernel_rfl
@[go_sem] theorem Tryz.by185 : Tryz.prog.bytesOf 185 = 4 := by kernel_rfl
attribute [go_sem] Tryz.underlying185
@[go_sem] theorem Tryz.ze185 : zzm Tryz.prog 185 = some [CV.d (D.lit (Value.int IntKind.u32 0))] := by kernel_rfl
@[go_sem] theorem Tryz.zo185 : zzt Tryz.prog 185 = true := by kernel_rfl
@[go_sem] theorem Tryz.cl189 : Tryz.prog.cellsOf 189 = 1 := by kernel_rfl
@[go_sem] theorem Tryz.by189 : Tryz.prog.bytesOf 189 = 8 := by kernel_rfl
attribute [go_sem] Tryz.underlying189
@[go_sem] theorem Tryz.ze189 : zzm Tryz.prog 189 = some [CV.d (D.lit (Value.pointer none))] := by kernel_rfl
@[go_sem] theorem Tryz.zo189 : zzt Tryz.prog 189 = true := by kernel_rfl
@[go_sem] theorem Tryz.cl196 : Tryz.prog.cellsOf 196 = 1 := by kernel_rfl
@[go_sem] theorem Tryz.by196 : Tryz.prog.bytesOf 196 = 8 := by kernel_rfl
attribute [go_sem] Tryz.underlying196
@[go_sem] theorem Tryz.ze196 : zzm Tryz.prog 196 = some [CV.d (D.lit (Value.pointer none))] := by kernel_rfl
@[go_sem] theorem Tryz.zo196 : zzt Tryz.prog 196 = true := by kernel_rfl
end Go.Proofs
