/-
  Parts of the proof, laid together: PwT, PwWb, PwV, PwFa.
-/
import Derived.Test.YtemecklglapleaaGreatQ18
import Derived.Test.YtemecklglapleaaGreatProg
import Derived.KernelRfl

set_option maxHeartbeats 16000000
namespace Go.Proofs
open Go.PW
attribute [go_sem] Tryz.underlying2
@[go_sem] theorem Tryz.cl3 : Tryz.prog.cellsOf 3 = 1 := by kernel_rfl
@[go_sem] theorem Tryz.by3 : Tryz.prog.bytesOf 3 = 8 := by kernel_rfl
attribute [go_sem] Tryz.underlying3
@[go_sem] theorem Tryz.ze3 : zzm Tryz.prog 3 = some [CV.d (D.lit (Value.int IntKind.i64 0))] := by kernel_rfl
@[go_sem] theorem Tryz.zo3 : zzt Tryz.prog 3 = true := by kernel_rfl
@[go_sem] theorem Tryz.cl4 : Tryz.prog.cellsOf 4 = 1 := by kernel_rfl
attribute [go_sem] Tryz.underlying4
@[go_sem] theorem Tryz.cl5 : Tryz.prog.cellsOf 5 = 1 := by kernel_rfl
@[go_sem] theorem Tryz.by5 : Tryz.prog.bytesOf 5 = 1 := by kernel_rfl
attribute [go_sem] Tryz.underlying5
@[go_sem] theorem Tryz.ze5 : zzm Tryz.prog 5 = some [CV.d (D.lit (Value.int IntKind.u8 0))] := by kernel_rfl
@[go_sem] theorem Tryz.zo5 : zzt Tryz.prog 5 = true := by kernel_rfl
@[go_sem] theorem Tryz.cl9 : Tryz.prog.cellsOf 9 = 1 := by kernel_rfl
@[go_sem] theorem Tryz.by9 : Tryz.prog.bytesOf 9 = 16 := by kernel_rfl
attribute [go_sem] Tryz.underlying9
@[go_sem] theorem Tryz.ze9 : zzm Tryz.prog 9 = some [CV.d (D.lit (Value.string ⟨#[]⟩))] := by kernel_rfl
@[go_sem] theorem Tryz.zo9 : zzt Tryz.prog 9 = true := by kernel_rfl
attribute [go_sem] Tryz.underlying12
attribute [go_sem] Tryz.underlying13
attribute [go_sem] Tryz.stoodInHeld13 Tryz.eqGuardType13
attribute [go_sem] Tryz.underlying21
attribute [go_sem] Tryz.underlying22
@[go_sem] theorem Tryz.cl23 : Tryz.prog.cellsOf 23 = 1 := by kernel_rfl
attribute [go_sem] Tryz.underlying23
@[go_sem] theorem Tryz.cl26 : Tryz.prog.cellsOf 26 = 1 := by kernel_rfl
attribute [go_sem] Tryz.underlying26
attribute [go_sem] Tryz.underlying27
attribute [go_sem] Tryz.stoodInHeld27 Tryz.eqGuardType27
@[go_sem] theorem Tryz.cl28 : Tryz.prog.cellsOf 28 = 4 := by kernel_rfl
@[go_sem] theorem Tryz.by28 : Tryz.prog.bytesOf 28 = 40 := by kernel_rfl
attribute [go_sem] Tryz.underlying28
@[go_sem] theorem Tryz.ze28 : zzm Tryz.prog 28 = some [CV.d (D.lit (Value.int IntKind.i64 0)), CV.d (D.lit (Value.int IntKind.i64 0)), CV.d (D.lit (Value.int IntKind.u64 0)), CV.d (D.lit (Value.string ⟨#[]⟩))] := by kernel_rfl
@[go_sem] theorem Tryz.zo28 : zzt Tryz.prog 28 = true := by kernel_rfl
@[go_sem] theorem Tryz.pl28 : zz2 Tryz.prog 28 = some [(0, 1), (1, 1), (2, 1), (3, 1)] := by kernel_rfl
attribute [go_sem] Tryz.stoodInHeld28 Tryz.eqGuardType28
@[go_sem] theorem Tryz.cl29 : Tryz.prog.cellsOf 29 = 1 := by kernel_rfl
attribute [go_sem] Tryz.underlying29
@[go_sem] theorem Tryz.cl30 : Tryz.prog.cellsOf 30 = 1 := by kernel_rfl
@[go_sem] theorem Tryz.by30 : Tryz.prog.bytesOf 30 = 24 := by kernel_rfl
attribute [go_sem] Tryz.underlying30
@[go_sem] theorem Tryz.ze30 : zzm Tryz.prog 30 = some [CV.full []] := by kernel_rfl
@[go_sem] theorem Tryz.zo30 : zzt Tryz.prog 30 = true := by kernel_rfl
@[go_sem] theorem Tryz.cl33 : Tryz.prog.cellsOf 33 = 1 := by kernel_rfl
attribute [go_sem] Tryz.underlying33
attribute [go_sem] Tryz.underlying34
attribute [go_sem] Tryz.stoodInHeld34 Tryz.eqGuardType34
@[go_sem] theorem Tryz.cl35 : Tryz.prog.cellsOf 35 = 3 := by kernel_rfl
@[go_sem] theorem Tryz.by35 : Tryz.prog.bytesOf 35 = 40 := by kernel_rfl
attribute [go_sem] Tryz.underlying35
@[go_sem] theorem Tryz.ze35 : zzm Tryz.prog 35 = some [CV.d (D.lit (Value.int IntKind.i64 0)), CV.d (D.lit (Value.int IntKind.i64 0)), CV.full []] := by kernel_rfl
@[go_sem] theorem Tryz.zo35 : zzt Tryz.prog 35 = true := by kernel_rfl
@[go_sem] theorem Tryz.pl35 : zz2 Tryz.prog 35 = some [(0, 1), (1, 1), (2, 1)] := by kernel_rfl
attribute [go_sem] Tryz.stoodInHeld35 Tryz.eqGuardType35
attribute [go_sem] Tryz.underlying36
attribute [go_sem] Tryz.stoodInHeld36 Tryz.eqGuardType36
@[go_sem] theorem Tryz.cl37 : Tryz.prog.cellsOf 37 = 2 := by kernel_rfl
@[go_sem] theorem Tryz.by37 : Tryz.prog.bytesOf 37 = 16 := by kernel_rfl
attribute [go_sem] Tryz.underlying37
@[go_sem] theorem Tryz.ze37 : zzm Tryz.prog 37 = some [CV.d (D.lit (Value.int IntKind.i64 0)), CV.d (D.lit (Value.int IntKind.i64 0))] := by kernel_rfl
@[go_sem] theorem Tryz.zo37 : zzt Tryz.prog 37 = true := by kernel_rfl
@[go_sem] theorem Tryz.pl37 : zz2 Tryz.prog 37 = some [(0, 1), (1, 1)] := by kernel_rfl
attribute [go_sem] Tryz.stoodInHeld37 Tryz.eqGuardType37
@[go_sem] theorem Tryz.cl38 : Tryz.prog.cellsOf 38 = 1 := by kernel_rfl
attribute [go_sem] Tryz.underlying38
attribute [go_sem] Tryz.underlying39
attribute [go_sem] Tryz.stoodInHeld39 Tryz.eqGuardType39
@[go_sem] theorem Tryz.cl40 : Tryz.prog.cellsOf 40 = 3 := by kernel_rfl
attribute [go_sem] Tryz.underlying40
@[go_sem] theorem Tryz.ze40 : zzm Tryz.prog 40 = some [CV.d (D.lit (Value.string ⟨#[]⟩)), CV.full [], CV.d (D.lit (Value.int IntKind.i64 0))] := by kernel_rfl
@[go_sem] theorem Tryz.pl40 : zz2 Tryz.prog 40 = some [(0, 1), (1, 1), (2, 1)] := by kernel_rfl
attribute [go_sem] Tryz.stoodInHeld40 Tryz.eqGuardType40
attribute [go_sem] Tryz.underlying41
attribute [go_sem] Tryz.stoodInHeld41 Tryz.eqGuardType41
@[go_sem] theorem Tryz.cl42 : Tryz.prog.cellsOf 42 = 8 := by kernel_rfl
attribute [go_sem] Tryz.underlying42
@[go_sem] theorem Tryz.ze42 : zzm Tryz.prog 42 = some [CV.d (D.lit (Value.int IntKind.i64 0)), CV.d (D.lit (Value.string ⟨#[]⟩)), CV.full [], CV.d (D.lit (Value.int IntKind.i64 0)), CV.d (D.lit (Value.int IntKind.i64 0)), CV.d (D.lit (Value.string ⟨#[]⟩)), CV.full [], CV.d (D.lit (Value.int IntKind.i64 0))] := by kernel_rfl
@[go_sem] theorem Tryz.pl42 : zz2 Tryz.prog 42 = some [(0, 1), (1, 1), (2, 1), (3, 2), (5, 3)] := by kernel_rfl
attribute [go_sem] Tryz.stoodInHeld42 Tryz.eqGuardType42
@[go_sem] theorem Tryz.cl43 : Tryz.prog.cellsOf 43 = 1 := by kernel_rfl
attribute [go_sem] Tryz.underlying43
@[go_sem] theorem Tryz.ze43 : zzm Tryz.prog 43 = some [CV.d (D.lit (Value.int IntKind.i64 0))] := by kernel_rfl
attribute [go_sem] Tryz.underlying51
@[go_sem] theorem Tryz.cl54 : Tryz.prog.cellsOf 54 = 1 := by kernel_rfl
attribute [go_sem] Tryz.underlying54
@[go_sem] theorem Tryz.cl55 : Tryz.prog.cellsOf 55 = 1 := by kernel_rfl
attribute [go_sem] Tryz.underlying55
attribute [go_sem] Tryz.underlying56
attribute [go_sem] Tryz.stoodInHeld56 Tryz.eqGuardType56
@[go_sem] theorem Tryz.cl57 : Tryz.prog.cellsOf 57 = 11 := by kernel_rfl
attribute [go_sem] Tryz.underlying57
@[go_sem] theorem Tryz.ze57 : zzm Tryz.prog 57 = some [CV.d (D.lit (Value.int IntKind.i64 0)), CV.d (D.lit (Value.string ⟨#[]⟩)), CV.full [], CV.d (D.lit (Value.int IntKind.i64 0)), CV.d (D.lit (Value.int IntKind.i64 0)), CV.d (D.lit (Value.int IntKind.i64 0)), CV.d (D.lit (Value.int IntKind.i64 0)), CV.full [], CV.full [], CV.d (D.lit (Value.int IntKind.i64 0)), CV.d (D.lit (Value.bool false))] := by kernel_rfl
@[go_sem] theorem Tryz.pl57 : zz2 Tryz.prog 57 = some [(0, 1), (1, 1), (2, 1), (3, 1), (4, 1), (5, 2), (7, 1), (8, 1), (9, 1), (10, 1)] := by kernel_rfl
attribute [go_sem] Tryz.stoodInHeld57 Tryz.eqGuardType57
attribute [go_sem] Tryz.underlying59
attribute [go_sem] Tryz.stoodInHeld59 Tryz.eqGuardType59
@[go_sem] theorem Tryz.cl60 : Tryz.prog.cellsOf 60 = 6 := by kernel_rfl
@[go_sem] theorem Tryz.by60 : Tryz.prog.bytesOf 60 = 72 := by kernel_rfl
attribute [go_sem] Tryz.underlying60
@[go_sem] theorem Tryz.ze60 : zzm Tryz.prog 60 = some [CV.d (D.lit (Value.string ⟨#[]⟩)), CV.d (D.lit (Value.int IntKind.i64 0)), CV.d (D.lit (Value.int IntKind.i64 0)), CV.d (D.lit (Value.int IntKind.i64 0)), CV.d (D.lit (Value.int IntKind.i64 0)), CV.full []] := by kernel_rfl
@[go_sem] theorem Tryz.zo60 : zzt Tryz.prog 60 = true := by kernel_rfl
@[go_sem] theorem Tryz.pl60 : zz2 Tryz.prog 60 = some [(0, 1), (1, 2), (3, 2), (5, 1)] := by kernel_rfl
attribute [go_sem] Tryz.stoodInHeld60 Tryz.eqGuardType60
attribute [go_sem] Tryz.underlying61
attribute [go_sem] Tryz.stoodInHeld61 Tryz.eqGuardType61
@[go_sem] theorem Tryz.cl62 : Tryz.prog.cellsOf 62 = 3 := by kernel_rfl
@[go_sem] theorem Tryz.by62 : Tryz.prog.bytesOf 62 = 40 := by kernel_rfl
attribute [go_sem] Tryz.underlying62
@[go_sem] theorem Tryz.ze62 : zzm Tryz.prog 62 = some [CV.d (D.lit (Value.int IntKind.i64 0)), CV.d (D.lit (Value.int IntKind.i64 0)), CV.full []] := by kernel_rfl
@[go_sem] theorem Tryz.zo62 : zzt Tryz.prog 62 = true := by kernel_rfl
@[go_sem] theorem Tryz.pl62 : zz2 Tryz.prog 62 = some [(0, 2), (2, 1)] := by kernel_rfl
attribute [go_sem] Tryz.stoodInHeld62 Tryz.eqGuardType62
@[go_sem] theorem Tryz.cl64 : Tryz.prog.cellsOf 64 = 1 := by kernel_rfl
attribute [go_sem] Tryz.underlying64
@[go_sem] theorem Tryz.ze64 : zzm Tryz.prog 64 = some [CV.full []] := by kernel_rfl
attribute [go_sem] Tryz.underlying68
attribute [go_sem] Tryz.underlying70
attribute [go_sem] Tryz.stoodInHeld70 Tryz.eqGuardType70
@[go_sem] theorem Tryz.cl71 : Tryz.prog.cellsOf 71 = 5 := by kernel_rfl
attribute [go_sem] Tryz.underlying71
attribute [go_sem] Tryz.stoodInHeld71 Tryz.eqGuardType71
attribute [go_sem] Tryz.underlying82
attribute [go_sem] Tryz.underlying85
attribute [go_sem] Tryz.underlying86
attribute [go_sem] Tryz.stoodInHeld86 Tryz.eqGuardType86
attribute [go_sem] Tryz.underlying87
@[go_sem] theorem Tryz.ze87 : zzm Tryz.prog 87 = some [CV.d (D.lit (Value.int IntKind.i64 0)), CV.d (D.lit (Value.string ⟨#[]⟩)), CV.full [], CV.d (D.lit (Value.int IntKind.i64 0)), CV.d (D.lit (Value.int IntKind.i64 0)), CV.d (D.lit (Value.int IntKind.i64 0)), CV.d (D.lit (Value.int IntKind.i64 0)), CV.full [], CV.full [], CV.d (D.lit (Value.int IntKind.i64 0)), CV.d (D.lit (Value.bool false)), CV.full [], CV.d (D.lit (Value.string ⟨#[]⟩)), CV.full [], CV.d (D.lit (Value.int IntKind.i64 0)), CV.d (D.lit (Value.int IntKind.i64 0))] := by kernel_rfl
@[go_sem] theorem Tryz.pl87 : zz2 Tryz.prog 87 = some [(0, 11), (11, 1), (12, 3), (15, 1)] := by kernel_rfl
attribute [go_sem] Tryz.stoodInHeld87 Tryz.eqGuardType87
attribute [go_sem] Tryz.underlying93
attribute [go_sem] Tryz.stoodInHeld93 Tryz.eqGuardType93
@[go_sem] theorem Tryz.cl94 : Tryz.prog.cellsOf 94 = 3 := by kernel_rfl
@[go_sem] theorem Tryz.by94 : Tryz.prog.bytesOf 94 = 32 := by kernel_rfl
attribute [go_sem] Tryz.underlying94
@[go_sem] theorem Tryz.ze94 : zzm Tryz.prog 94 = some [CV.d (D.lit (Value.string ⟨#[]⟩)), CV.d (D.lit (Value.int IntKind.i64 0)), CV.d (D.lit (Value.bool false))] := by kernel_rfl
@[go_sem] theorem Tryz.zo94 : zzt Tryz.prog 94 = true := by kernel_rfl
@[go_sem] theorem Tryz.pl94 : zz2 Tryz.prog 94 = some [(0, 1), (1, 1), (2, 1)] := by kernel_rfl
attribute [go_sem] Tryz.stoodInHeld94 Tryz.eqGuardType94
@[go_sem] theorem Tryz.cl95 : Tryz.prog.cellsOf 95 = 1 := by kernel_rfl
attribute [go_sem] Tryz.underlying95
attribute [go_sem] Tryz.underlying96
attribute [go_sem] Tryz.stoodInHeld96 Tryz.eqGuardType96
attribute [go_sem] Tryz.underlying97
@[go_sem] theorem Tryz.ze97 : zzm Tryz.prog 97 = some [CV.d (D.lit (Value.int IntKind.i64 0)), CV.d (D.lit (Value.int IntKind.i64 0)), CV.d (D.lit (Value.int IntKind.i64 0)), CV.full []] := by kernel_rfl
@[go_sem] theorem Tryz.pl97 : zz2 Tryz.prog 97 = some [(0, 1), (1, 1), (2, 1), (3, 1)] := by kernel_rfl
attribute [go_sem] Tryz.stoodInHeld97 Tryz.eqGuardType97
@[go_sem] theorem Tryz.cl99 : Tryz.prog.cellsOf 99 = 1 := by kernel_rfl
attribute [go_sem] Tryz.underlying99
@[go_sem] theorem Tryz.cl100 : Tryz.prog.cellsOf 100 = 1 := by kernel_rfl
attribute [go_sem] Tryz.underlying100
attribute [go_sem] Tryz.underlying101
attribute [go_sem] Tryz.stoodInHeld101 Tryz.eqGuardType101
attribute [go_sem] Tryz.underlying102
@[go_sem] theorem Tryz.ze102 : zzm Tryz.prog 102 = some [CV.d (D.lit (Value.string ⟨#[]⟩)), CV.full [], CV.full []] := by kernel_rfl
@[go_sem] theorem Tryz.pl102 : zz2 Tryz.prog 102 = some [(0, 1), (1, 1), (2, 1)] := by kernel_rfl
attribute [go_sem] Tryz.stoodInHeld102 Tryz.eqGuardType102
@[go_sem] theorem Tryz.cl103 : Tryz.prog.cellsOf 103 = 1 := by kernel_rfl
@[go_sem] theorem Tryz.by103 : Tryz.prog.bytesOf 103 = 8 := by kernel_rfl
attribute [go_sem] Tryz.underlying103
@[go_sem] theorem Tryz.ze103 : zzm Tryz.prog 103 = some [CV.d (D.lit (Value.pointer none))] := by kernel_rfl
@[go_sem] theorem Tryz.zo103 : zzt Tryz.prog 103 = true := by kernel_rfl
@[go_sem] theorem Tryz.cl104 : Tryz.prog.cellsOf 104 = 1 := by kernel_rfl
attribute [go_sem] Tryz.underlying104
@[go_sem] theorem Tryz.cl105 : Tryz.prog.cellsOf 105 = 1 := by kernel_rfl
attribute [go_sem] Tryz.underlying105
attribute [go_sem] Tryz.underlying106
attribute [go_sem] Tryz.stoodInHeld106 Tryz.eqGuardType106
@[go_sem] theorem Tryz.cl107 : Tryz.prog.cellsOf 107 = 4 := by kernel_rfl
@[go_sem] theorem Tryz.by107 : Tryz.prog.bytesOf 107 = 72 := by kernel_rfl
attribute [go_sem] Tryz.underlying107
@[go_sem] theorem Tryz.ze107 : zzm Tryz.prog 107 = some [CV.d (D.lit (Value.string ⟨#[]⟩)), CV.full [], CV.full [], CV.d (D.lit (Value.bool false))] := by kernel_rfl
@[go_sem] theorem Tryz.zo107 : zzt Tryz.prog 107 = true := by kernel_rfl
@[go_sem] theorem Tryz.pl107 : zz2 Tryz.prog 107 = some [(0, 1), (1, 1), (2, 1), (3, 1)] := by kernel_rfl
attribute [go_sem] Tryz.stoodInHeld107 Tryz.eqGuardType107
attribute [go_sem] Tryz.underlying111
@[go_sem] theorem Tryz.cl137 : Tryz.prog.cellsOf 137 = 3 := by kernel_rfl
@[go_sem] theorem Tryz.by137 : Tryz.prog.bytesOf 137 = 40 := by kernel_rfl
attribute [go_sem] Tryz.underlying137
@[go_sem] theorem Tryz.ze137 : zzm Tryz.prog 137 = some [CV.d (D.lit (Value.int IntKind.i64 0)), CV.d (D.lit (Value.int IntKind.i64 0)), CV.full []] := by kernel_rfl
@[go_sem] theorem Tryz.zo137 : zzt Tryz.prog 137 = true := by kernel_rfl
@[go_sem] theorem Tryz.pl137 : zz2 Tryz.prog 137 = some [(0, 2), (2, 1)] := by kernel_rfl
attribute [go_sem] Tryz.stoodInHeld137 Tryz.eqGuardType137
attribute [go_sem] Tryz.underlying138
attribute [go_sem] Tryz.stoodInHeld138 Tryz.eqGuardType138
@[go_sem] theorem Tryz.cl139 : Tryz.prog.cellsOf 139 = 5 := by kernel_rfl
@[go_sem] theorem Tryz.by139 : Tryz.prog.bytesOf 139 = 56 := by kernel_rfl
attribute [go_sem] Tryz.underlying139
@[go_sem] theorem Tryz.ze139 : zzm Tryz.prog 139 = some [CV.d (D.lit (Value.int IntKind.i64 0)), CV.d (D.lit (Value.int IntKind.i64 0)), CV.d (D.lit (Value.int IntKind.i64 0)), CV.d (D.lit (Value.int IntKind.i64 0)), CV.full []] := by kernel_rfl
@[go_sem] theorem Tryz.zo139 : zzt Tryz.prog 139 = true := by kernel_rfl
@[go_sem] theorem Tryz.pl139 : zz2 Tryz.prog 139 = some [(0, 2), (2, 3)] := by kernel_rfl
attribute [go_sem] Tryz.stoodInHeld139 Tryz.eqGuardType139
attribute [go_sem] Tryz.underlying143
attribute [go_sem] Tryz.underlying147
attribute [go_sem] Tryz.underlying153
attribute [go_sem] Tryz.stoodInHeld153 Tryz.eqGuardType153
attribute [go_sem] Tryz.underlying154
attribute [go_sem] Tryz.stoodInHeld154 Tryz.eqGuardType154
attribute [go_sem] Tryz.underlying160
attribute [go_sem] Tryz.stoodInHeld160 Tryz.eqGuardType160
@[go_sem] theorem Tryz.cl161 : Tryz.prog.cellsOf 161 = 4 := by kernel_rfl
@[go_sem] theorem Tryz.by161 : Tryz.prog.bytesOf 161 = 56 := by kernel_rfl
attribute [go_sem] Tryz.underlying161
@[go_sem] theorem Tryz.ze161 : zzm Tryz.prog 161 = some [CV.d (D.lit (Value.int IntKind.i64 0)), CV.d (D.lit (Value.string ⟨#[]⟩)), CV.full [], CV.d (D.lit (Value.int IntKind.i64 0))] := by kernel_rfl
@[go_sem] theorem Tryz.zo161 : zzt Tryz.prog 161 = true := by kernel_rfl
@[go_sem] theorem Tryz.pl161 : zz2 Tryz.prog 161 = some [(0, 1), (1, 3)] := by kernel_rfl
attribute [go_sem] Tryz.stoodInHeld161 Tryz.eqGuardType161
attribute [go_sem] Tryz.underlying170
attribute [go_sem] Tryz.underlying175
attribute [go_sem] Tryz.underlying181
attribute [go_sem] Tryz.underlying182
attribute [go_sem] Tryz.stoodInHeld182 Tryz.eqGuardType182
attribute [go_sem] Tryz.underlying185
attribute [go_sem] Tryz.underlying189
attribute [go_sem] Tryz.underlying196
end Go.Proofs
namespace Go.PW
variable {P : Program} {g g' : Gh} {H H' : HMap} {A A' : AMap} {w : World}
theorem zwu.re {β β' : Nat → Option Nat} {l : List (Nat × Nat)} {vs : Array Value} {hk : Nat → Prop} (hβ : ∀ i, hk i → β' i = β i) (hl : ∀ p ∈ l, hk p.1) (h : zwu β l vs) : zwu β' l vs :=
 h.mono fun p hp b hb => by rw [hβ _ (hl p hp)]; exact hb
theorem CRep.re {hk : Nat → Prop} {tk : Tok → Prop} (hC : g'.C = g.C) (hπ : g'.π = g.π) (hβ : ∀ i, hk i → g'.β i = g.β i) (hτ : ∀ κ, tk κ → g'.τ κ = g.τ κ ∧ A' κ = A κ) {c : CV} {v : Value} (hok : c.ok hk tk) (hr : CRep g A c v) : CRep g' A' c v := by
 cases c with
 | any => trivial
 | skip => exact hr
 | d x => show DRep g'.C g'.π x v; rw [hC, hπ]; exact hr
 | full els => exact ⟨by rw [hC, hπ]; exact hr.1, hr.2⟩
 | own κ els =>
   obtain ⟨h1, h2⟩ := hτ κ hok
   obtain ⟨hd, sz, n, hA, hl, ht⟩ := hr
   exact ⟨by rw [hC, hπ]; exact hd, sz, n, by rw [h2]; exact hA, hl, by rw [h1]; exact ht⟩
 | mt κ sz n =>
   obtain ⟨h1, h2⟩ := hτ κ hok
   obtain ⟨a, cap, els, q1, q2, hA, q4, q5⟩ := hr
   exact ⟨a, cap, els, q1, q2, by rw [h2]; exact hA, q4, by rw [h1]; exact q5⟩
 | tv κ sz n L =>
   obtain ⟨h1, h2⟩ := hτ κ hok
   obtain ⟨a, cap, els, q1, q2, hA, q4, q5⟩ := hr
   exact ⟨a, cap, els, q1, q2, by rw [h2]; exact hA, q4, by rw [h1]; exact q5⟩
 | ptr id off =>
   obtain ⟨b, hb, e⟩ := hr
   exact ⟨b, by rw [hβ id hok]; exact hb, e⟩
 | eptr e off =>
   obtain ⟨b, o, hv, hc⟩ := hr
   exact ⟨b, o, hv, by rw [hC, hπ]; exact hc⟩
 | mptr κ sz n i off =>
   obtain ⟨h1, h2⟩ := hτ κ hok
   obtain ⟨b, els, q1, hA, q4, q5⟩ := hr
   exact ⟨b, els, q1, by rw [h2]; exact hA, q4, by rw [h1]; exact q5⟩
 | fn f caps =>
   obtain ⟨vs, h1, h2, h3⟩ := hr
   refine ⟨vs, h1, h2, fun k p hk => ?_⟩
   obtain ⟨b, hb, e⟩ := h3 k p hk
   exact ⟨b, by rw [hβ _ (hok p (Zme hk))]; exact hb, e⟩
 | mpr κ =>
   obtain ⟨h1, h2⟩ := hτ κ hok
   obtain ⟨hb, hv, m, hA, hmp⟩ := hr
   exact ⟨hb, by rw [h1]; exact hv, m, by rw [h2]; exact hA, hmp⟩
 | itr κ bi => exact hr
 | sit κ =>
   obtain ⟨h1, h2⟩ := hτ κ hok
   obtain ⟨hb, hv, s, pos, hA⟩ := hr
   exact ⟨hb, by rw [h1]; exact hv, s, pos, by rw [h2]; exact hA⟩
 | vsl id n =>
   obtain ⟨b, hb, e⟩ := hr
   exact ⟨b, by rw [hβ id hok]; exact hb, e⟩
 | bfn f fst caps =>
   obtain ⟨us, vs, e, h1, h2⟩ := hr
   exact ⟨us, vs, e, h1.re hβ hok.1, h2.re hβ hok.2⟩
theorem zq8.re {hk : Nat → Prop} {tk : Tok → Prop} (hC : g'.C = g.C) (hπ : g'.π = g.π) (hβ : ∀ i, hk i → g'.β i = g.β i) (hτ : ∀ κ, tk κ → g'.τ κ = g.τ κ ∧ A' κ = A κ) {cs : List CV} {vs : List Value} (hok : ∀ c ∈ cs, c.ok hk tk) (hr : zq8 g A cs vs) : zq8 g' A' cs vs :=
 ⟨hr.1, fun k c hk => let ⟨v, hv, r⟩ := hr.2 k c hk; ⟨v, hv, CRep.re hC hπ hβ hτ (hok c (Zme hk)) r⟩⟩
theorem PRep.re {hk : Nat → Prop} {tk : Tok → Prop} (hC : g'.C = g.C) (hπ : g'.π = g.π) (hβ : ∀ i, hk i → g'.β i = g.β i) (hτ : ∀ κ, tk κ → g'.τ κ = g.τ κ ∧ A' κ = A κ) {p : PV} {v : Value} (hok : p.oks hk tk) (hr : PRep g A p v) : PRep g' A' p v := by
 have tv : ∀ (x : TV) (u : Value), x.oks hk tk → TRep g A x u → TRep g' A' x u := fun x u hx hu => by
  cases x with
  | c x => exact CRep.re hC hπ hβ hτ hx hu
  | agg cs => obtain ⟨arr, e, r⟩ := hu; exact ⟨arr, e, zq8.re hC hπ hβ hτ hx r⟩
 cases p with
 | c x => exact CRep.re hC hπ hβ hτ hok hr
 | agg cs => obtain ⟨arr, e, r⟩ := hr; exact ⟨arr, e, zq8.re hC hπ hβ hτ hok r⟩
 | tup xs => obtain ⟨arr, e, hs, r⟩ := hr; exact ⟨arr, e, hs, fun k x hk => let ⟨u, hu, t⟩ := r k x hk; ⟨u, hu, tv x u (hok x (Zme hk)) t⟩⟩
def own0 (H : HMap) : Option Own → Option Own
 | some (.var i) => (match H i with
   | none => none
   | some _ => some (.var i))
 | o => o
def own2 (H : HMap) (x y : Option Own) : Option Own :=
 match x with
 | some (.var i) => (match H i with
   | none => some (.var i)
   | some _ => y)
 | _ => y
theorem y0t {f : FuncId} {n : Nat} {args : List PV} {v : PV} (h : zqf P f n H A args v H' A') (hw : Wf H A) (hargs : ∀ x ∈ args, x.oks (fun i => H i ≠ none) (fun κ => A κ ≠ none)) {H2 H2' : HMap} (ext : ∀ id, H id ≠ none → H2 id = H id)
 (e1 : ∀ id, H id = none → H2 id ≠ none → H2' id = H2 id ∧ H' id = none) (e2 : ∀ id, H id ≠ none ∨ H2 id = none → H2' id = H' id) : zqf P f n H2 A args v H2' A' := by
 intro g w vals hm hd hab har
 have habH : Above n H A := fun i hi => by
  obtain ⟨x1, x2⟩ := hab i hi
  refine ⟨?_, x2⟩
  cases hh : H i with
  | none => rfl
  | some cs => rw [ext i (by rw [hh]; simp), hh] at x1; cases x1
 let g0 : Gh := { g with β := fun i => (match H i with | none => none | some _ => g.β i), O := fun b => own0 H (g.O b) }
 have hk : ∀ i, H i ≠ none → g0.β i = g.β i := fun i hi => by
  show (match H i with | none => none | some _ => g.β i) = _
  cases hh : H i with
  | none => exact (hi hh).elim
  | some _ => rfl
 have hk0 : ∀ i, H i = none → g0.β i = none := fun i hi => by
  show (match H i with | none => none | some _ => g.β i) = _
  rw [hi]
 have ov : ∀ b i, g.O b = some (.var i) → H i ≠ none → g0.O b = some (.var i) := fun b i ho hi => by
  show own0 H (g.O b) = _
  rw [ho]
  cases hh : H i with
  | none => exact (hi hh).elim
  | some _ => simp only [own0, hh]
 have ol : ∀ b i, g.O b = some (.var i) → H i = none → g0.O b = none := fun b i ho hi => by
  show own0 H (g.O b) = _
  rw [ho]
  simp only [own0, hi]
 have ot : ∀ b κ, g.O b = some (.tok κ) → g0.O b = some (.tok κ) := fun b κ ho => by
  show own0 H (g.O b) = _
  rw [ho]; rfl
 have on : ∀ b, g.O b = none → g0.O b = none := fun b ho => by
  show own0 H (g.O b) = _
  rw [ho]; rfl
 have os : ∀ b o, g0.O b = some o → g.O b = some o := fun b o ho => by
  cases hb : g.O b with
  | none => rw [on b hb] at ho; cases ho
  | some o' =>
    cases o' with
    | tok κ => rw [ot b κ hb] at ho; exact ho
    | var i =>
      by_cases hi : H i = none
      · rw [ol b i hb hi] at ho; cases ho
      · rw [ov b i hb hi] at ho; exact ho
 have hmH : MRel g0 H A w := by
  refine ⟨hm.com, fun i b' hi => ?_, fun κ ar hA => (hm.tok κ ar hA).frame rfl (fun _ _ _ h => h) rfl (fun b' ho => ⟨ot b' κ ho, rfl, fun _ => rfl⟩), fun b' o ho => hm.own b' o (os b' o ho)⟩
  have hne : H i ≠ none := fun e => by rw [hk0 i e] at hi; cases hi
  rw [hk i hne] at hi
  obtain ⟨ho, hC, cs', vs, e, fz, hH, hh, hu, hr⟩ := hm.var i b' hi
  rw [ext i hne] at hH
  exact ⟨ov b' i ho hne, hC, cs', vs, e, fz, hH, hh, hu, zq8.re (g := g) (g' := g0) (hk := fun i => H i ≠ none) (tk := fun _ => True) rfl rfl hk (fun _ _ => ⟨rfl, rfl⟩) (fun c hc => zwl (fun _ h => h) (fun _ _ => Zti) (hw i cs' c hH hc)) hr⟩
 have hdH : zjk g0 H := hk0
 have harH : zjm g0 A args vals.toList := ⟨har.1, fun k x hx => by
  obtain ⟨u, hu, hr⟩ := har.2 k x hx
  exact ⟨u, hu, PRep.re (g := g) (g' := g0) (hk := fun i => H i ≠ none) (tk := fun κ => A κ ≠ none) rfl rfl hk (fun _ _ => ⟨rfl, rfl⟩) (hargs x (Zme hx)) hr⟩⟩
 refine z14.mono (h g0 w vals hmH hdH habH harH) fun u w' ⟨g', r1, r2, r3, r4⟩ => ?_
 let g2 : Gh := { g' with β := fun i => (match H i with | none => (match g.β i with | some b => some b | none => g'.β i) | some _ => g'.β i), O := fun b => own2 H (g.O b) (g'.O b) }
 have bs : ∀ i, H i ≠ none → g2.β i = g'.β i := fun i hi => by
  show (match H i with | none => (match g.β i with | some b => some b | none => g'.β i) | some _ => g'.β i) = _
  cases hh : H i with
  | none => exact (hi hh).elim
  | some _ => rfl
 have bl : ∀ i b, H i = none → g.β i = some b → g2.β i = some b := fun i b hi hb => by
  show (match H i with | none => (match g.β i with | some b => some b | none => g'.β i) | some _ => g'.β i) = _
  rw [hi, hb]
 have bn : ∀ i, H i = none → g.β i = none → g2.β i = g'.β i := fun i hi hb => by
  show (match H i with | none => (match g.β i with | some b => some b | none => g'.β i) | some _ => g'.β i) = _
  rw [hi, hb]
 have loc : ∀ i b, H i = none → g.β i = some b → H2 i ≠ none ∧ H2' i = H2 i ∧ H' i = none ∧ g'.β i = none := fun i b hi hb => by
  have h2 : H2 i ≠ none := fun e => by rw [hd i e] at hb; cases hb
  obtain ⟨x1, x2⟩ := e1 i hi h2
  exact ⟨h2, x1, x2, r4 i x2⟩
 have pl : ∀ b i, g.O b = some (.var i) → H i = none → g2.O b = some (.var i) ∧ g'.O b = none ∧ b < w.heap.size := fun b i ho hi => by
  have hlt := hm.own b _ ho
  refine ⟨?_, r3.own b hlt (ol b i ho hi), hlt⟩
  show own2 H (g.O b) (g'.O b) = _
  rw [ho]
  simp only [own2, hi]
 have pn : ∀ b, (∀ i, g.O b = some (.var i) → H i ≠ none) → g2.O b = g'.O b := fun b hb => by
  show own2 H (g.O b) (g'.O b) = _
  cases ho : g.O b with
  | none => rfl
  | some o =>
    cases o with
    | tok κ => rfl
    | var i =>
      cases hh : H i with
      | none => exact (hb i ho hh).elim
      | some _ => simp only [own2, hh]
 have ps : ∀ b o, g'.O b = some o → g2.O b = some o := fun b o ho => by
  rw [pn b (fun i h1 h2 => by rw [(pl b i h1 h2).2.1] at ho; cases ho)]
  exact ho
 have hM' : Mono g' A' g2 A' := ⟨fun _ _ _ h => h, fun i b' hi => by
  cases hh : H i with
  | none =>
    cases hb : g.β i with
    | none => rw [bn i hh hb]; exact hi
    | some b => rw [(loc i b hh hb).2.2.2] at hi; cases hi
  | some _ => rw [bs i (by rw [hh]; simp)]; exact hi, fun κ ar h => ⟨ar, h, zkg.refl _ _⟩, fun _ _ h => h⟩
 have hM : Mono g A g2 A' := ⟨fun b' o v hc => r3.mono.C b' o v hc, fun i b' hi => by
  cases hh : H i with
  | none => exact bl i b' hh hi
  | some _ => exact hM'.β i b' (r3.mono.β i b' (by rw [hk i (by rw [hh]; simp)]; exact hi)), r3.mono.τ, r3.mono.π⟩
 refine ⟨g2, PRep.mono hM' r1, ⟨r2.com, fun i b' hi => ?_, fun κ ar hA => (r2.tok κ ar hA).frame rfl (fun _ _ _ h => h) rfl (fun b' ho => ⟨ps b' _ ho, rfl, fun _ => rfl⟩), fun b' o ho => ?_⟩,
  ⟨hM, fun b' hb' ho => r3.frame b' hb' (on b' ho), fun b' hb' ho => ?_, fun b' hb' ho o => r3.old b' hb' (on b' ho) o, r3.size, r3.os, r3.tape, r3.output, r3.np⟩, fun i hi => ?_⟩
 · have rest : g'.β i = some b' → (H i ≠ none ∨ g.β i = none) → g2.O b' = some (.var i) ∧ (∀ o, g2.C b' o = none) ∧ ∃ cs vs e fz, H2' i = some cs ∧ w'.heap[b']? = some (.cells vs e fz) ∧ Unfz vs.size fz ∧ zq8 g2 A' cs vs.toList := fun hi' hor => by
    obtain ⟨ho, hC, cs', vs, e', fz, hH, hh, hu, hr⟩ := r2.var i b' hi'
    refine ⟨ps b' _ ho, hC, cs', vs, e', fz, ?_, hh, hu, hr.mono hM'⟩
    rw [e2 i ?_]
    · exact hH
    · rcases hor with hor | hor
      · exact .inl hor
      · by_cases x : H i = none
        · right
          cases x2 : H2 i with
          | none => rfl
          | some _ => rw [(e1 i x (by rw [x2]; simp)).2] at hH; cases hH
        · exact .inl x
   cases hh : H i with
   | none =>
     cases hb : g.β i with
     | none => exact rest (by rw [← bn i hh hb]; exact hi) (.inr hb)
     | some b =>
       rw [bl i b hh hb] at hi
       have eb : b = b' := Option.some.inj hi
       subst eb
       obtain ⟨x1, x2, x3, x4⟩ := loc i b hh hb
       obtain ⟨hob, hCb, cs, vs0, e0, fz0, hH0, hh0, hu0, hr0⟩ := hm.var i b hb
       obtain ⟨y1, y2, y3⟩ := pl b i hob hh
       have y4 := ol b i hob hh
       exact ⟨y1, fun o => by
        show g'.C b o = none
        rw [r3.old b y3 y4 o]; exact hCb o, cs, vs0, e0, fz0, by rw [x2]; exact hH0, by rw [r3.frame b y3 y4]; exact hh0, hu0, hr0.mono hM⟩
   | some _ => exact rest (by rw [← bs i (by rw [hh]; simp)]; exact hi) (.inl (by rw [hh]; simp))
 · cases ho' : g'.O b' with
   | some o' => exact r2.own b' o' ho'
   | none =>
     cases hb : g.O b' with
     | some o' => exact Nat.lt_of_lt_of_le (hm.own b' o' hb) r3.size
     | none =>
       rw [pn b' (fun i h1 => by rw [hb] at h1; cases h1), ho'] at ho
       cases ho
 · rw [pn b' (fun i h1 => by rw [ho] at h1; cases h1)]
   exact r3.own b' hb' (on b' ho)
 · cases hh : H i with
   | none =>
     cases hb : g.β i with
     | some b =>
       obtain ⟨x1, x2, _⟩ := loc i b hh hb
       rw [x2] at hi
       exact (x1 hi).elim
     | none =>
       rw [bn i hh hb]
       cases x2 : H2 i with
       | some _ => rw [(e1 i hh (by rw [x2]; simp)).1, x2] at hi; cases hi
       | none => exact r4 i (by rw [← e2 i (.inr x2)]; exact hi)
   | some _ =>
     rw [bs i (by rw [hh]; simp)]
     exact r4 i (by rw [← e2 i (.inl (by rw [hh]; simp))]; exact hi)
def yx4 (A : AMap) : Option Own → Option Own
 | some (.tok κ) => (match A κ with
   | none => none
   | some _ => some (.tok κ))
 | o => o
def y10 (A : AMap) (x y : Option Own) : Option Own :=
 match x with
 | some (.tok κ) => (match A κ with
   | none => some (.tok κ)
   | some _ => y)
 | _ => y
open Classical in
theorem y3o {f : FuncId} {n : Nat} {args : List PV} {v : PV} (h : zqf P f n H A args v H' A') (hw : Wf H A) (hargs : ∀ x ∈ args, x.oks (fun i => H i ≠ none) (fun κ => A κ ≠ none)) {A2 A2' : AMap} (ext : ∀ κ, A κ ≠ none → A2 κ = A κ)
 (e1 : ∀ κ, A κ = none → A2 κ ≠ none → A2' κ = A2 κ ∧ A' κ = none) (e2 : ∀ κ, A κ ≠ none ∨ A2 κ = none → A2' κ = A' κ) : zqf P f n H A2 args v H' A2' := by
 intro g w vals hm hd hab har
 have habA : Above n H A := fun i hi => by
  obtain ⟨x1, x2⟩ := hab i hi
  refine ⟨x1, fun k => ?_⟩
  cases hh : A (i, k) with
  | none => rfl
  | some ar => have := x2 k; rw [ext (i, k) (by rw [hh]; simp), hh] at this; cases this
 let g0 : Gh := { g with O := fun b => yx4 A (g.O b) }
 have ov : ∀ b i, g.O b = some (.var i) → g0.O b = some (.var i) := fun b i ho => by
  show yx4 A (g.O b) = _
  rw [ho]; rfl
 have ot : ∀ b κ, g.O b = some (.tok κ) → A κ ≠ none → g0.O b = some (.tok κ) := fun b κ ho hi => by
  show yx4 A (g.O b) = _
  rw [ho]
  cases hh : A κ with
  | none => exact (hi hh).elim
  | some _ => simp only [yx4, hh]
 have ol : ∀ b κ, g.O b = some (.tok κ) → A κ = none → g0.O b = none := fun b κ ho hi => by
  show yx4 A (g.O b) = _
  rw [ho]
  simp only [yx4, hi]
 have on : ∀ b, g.O b = none → g0.O b = none := fun b ho => by
  show yx4 A (g.O b) = _
  rw [ho]; rfl
 have os : ∀ b o, g0.O b = some o → g.O b = some o := fun b o ho => by
  cases hb : g.O b with
  | none => rw [on b hb] at ho; cases ho
  | some o' =>
    cases o' with
    | var i => rw [ov b i hb] at ho; exact ho
    | tok κ =>
      by_cases hi : A κ = none
      · rw [ol b κ hb hi] at ho; cases ho
      · rw [ot b κ hb hi] at ho; exact ho
 have re : ∀ κ, A κ ≠ none → g0.τ κ = g.τ κ ∧ A κ = A2 κ := fun κ hk => ⟨rfl, (ext κ hk).symm⟩
 have hmH : MRel g0 H A w := by
  refine ⟨hm.com, fun i b' hi => ?_, fun κ ar hA => ?_, fun b' o ho => hm.own b' o (os b' o ho)⟩
  · obtain ⟨ho, hC, cs', vs, e, fz, hH, hh, hu, hr⟩ := hm.var i b' hi
    exact ⟨ov b' i ho, hC, cs', vs, e, fz, hH, hh, hu, zq8.re (g := g) (g' := g0) (hk := fun _ => True) (tk := fun κ => A κ ≠ none) rfl rfl (fun _ _ => rfl) re (fun c hc => zwl (fun _ _ => Zti) (fun _ h => h) (hw i cs' c hH hc)) hr⟩
  · have hne : A κ ≠ none := by rw [hA]; simp
    exact (hm.tok κ ar (by rw [ext κ hne]; exact hA)).frame rfl (fun _ _ _ h => h) rfl (fun b' ho => ⟨ot b' κ ho hne, rfl, fun _ => rfl⟩)
 have harH : zjm g0 A args vals.toList := ⟨har.1, fun k x hx => by
  obtain ⟨u, hu, hr⟩ := har.2 k x hx
  exact ⟨u, hu, PRep.re (g := g) (g' := g0) (hk := fun i => H i ≠ none) (tk := fun κ => A κ ≠ none) rfl rfl (fun _ _ => rfl) re (hargs x (Zme hx)) hr⟩⟩
 refine z14.mono (h g0 w vals hmH hd habA harH) fun u w' ⟨g', r1, r2, r3, r4⟩ => ?_
 let g2 : Gh := { g' with τ := fun κ => if A κ = none ∧ A2 κ ≠ none then g.τ κ else g'.τ κ, O := fun b => y10 A (g.O b) (g'.O b) }
 have tl : ∀ κ, A κ = none → A2 κ ≠ none → g2.τ κ = g.τ κ := fun κ h1 h2 => if_pos ⟨h1, h2⟩
 have ts : ∀ κ, (A κ ≠ none ∨ A2 κ = none) → g2.τ κ = g'.τ κ := fun κ h => if_neg fun ⟨h1, h2⟩ => h.elim (fun x => x h1) (fun x => h2 x)
 have loc : ∀ κ, A κ = none → A2 κ ≠ none → A2' κ = A2 κ ∧ A' κ = none := e1
 have pl : ∀ b κ, g.O b = some (.tok κ) → A κ = none → g2.O b = some (.tok κ) ∧ g'.O b = none ∧ b < w.heap.size := fun b κ ho hi => by
  have hlt := hm.own b _ ho
  refine ⟨?_, r3.own b hlt (ol b κ ho hi), hlt⟩
  show y10 A (g.O b) (g'.O b) = _
  rw [ho]
  simp only [y10, hi]
 have pn : ∀ b, (∀ κ, g.O b = some (.tok κ) → A κ ≠ none) → g2.O b = g'.O b := fun b hb => by
  show y10 A (g.O b) (g'.O b) = _
  cases ho : g.O b with
  | none => rfl
  | some o =>
    cases o with
    | var i => rfl
    | tok κ =>
      cases hh : A κ with
      | none => exact (hb κ ho hh).elim
      | some _ => simp only [y10, hh]
 have ps : ∀ b o, g'.O b = some o → g2.O b = some o := fun b o ho => by
  rw [pn b (fun i h1 h2 => by rw [(pl b i h1 h2).2.1] at ho; cases ho)]
  exact ho
 have dec : ∀ κ, (A κ = none ∧ A2 κ ≠ none) ∨ (A κ ≠ none ∨ A2 κ = none) := fun κ => by
  by_cases h1 : A κ = none
  · by_cases h2 : A2 κ = none
    · exact .inr (.inr h2)
    · exact .inl ⟨h1, h2⟩
  · exact .inr (.inl h1)
 have hloc : ∀ κ, A κ = none → g'.π = g.π ∨ κ ≠ (0, 0) := fun κ hk => by
  by_cases hn : z15 A
  · exact .inl (r3.np hn).1
  · refine .inr fun e => ?_
    subst e
    refine hn fun κ0 n0 e0 => ?_
    have := (hmH.tok κ0 _ e0).1
    rw [this, hk] at e0
    cases e0
 have hM' : Mono g' A' g2 A2' := ⟨fun _ _ _ h => h, fun _ _ h => h, fun κ ar hA => by
  rcases dec κ with ⟨h1, h2⟩ | hor
  · rw [(loc κ h1 h2).2] at hA; cases hA
  · exact ⟨ar, by rw [e2 κ hor]; exact hA, by rw [ts κ hor]; exact zkg.refl _ _⟩, fun _ _ h => h⟩
 have hMτ : ∀ κ ar, A2 κ = some ar → ∃ ar', A2' κ = some ar' ∧ zkg ar (g.τ κ) ar' (g2.τ κ) := fun κ ar hA => by
  rcases dec κ with ⟨h1, h2⟩ | hor
  · exact ⟨ar, by rw [(loc κ h1 h2).1]; exact hA, by rw [tl κ h1 h2]; exact zkg.refl _ _⟩
  · rcases hor with hor | hor
    · obtain ⟨ar', q1, q2⟩ := r3.mono.τ κ ar (by rw [← ext κ hor]; exact hA)
      exact ⟨ar', by rw [e2 κ (.inl hor)]; exact q1, by rw [ts κ (.inl hor)]; exact q2⟩
    · rw [hor] at hA; cases hA
 have hM : Mono g A2 g2 A2' := ⟨fun b' o v hc => r3.mono.C b' o v hc, fun i b' hi => r3.mono.β i b' hi, hMτ, r3.mono.π⟩
 refine ⟨g2, PRep.mono hM' r1, ⟨r2.com, fun i b' hi => ?_, fun κ ar hA => ?_, fun b' o ho => ?_⟩,
  ⟨hM, fun b' hb' ho => r3.frame b' hb' (on b' ho), fun b' hb' ho => ?_, fun b' hb' ho o => r3.old b' hb' (on b' ho) o, r3.size, r3.os, r3.tape, r3.output, fun hn => by
    have hnA : z15 A := fun κ n e => hn κ n (by rw [ext κ (by rw [e]; simp)]; exact e)
    refine ⟨(r3.np hnA).1, fun κ n e => ?_⟩
    rcases dec κ with ⟨h1, h2⟩ | hor
    · rw [(loc κ h1 h2).1] at e; exact hn κ n e
    · rw [e2 κ hor] at e; exact (r3.np hnA).2 κ n e⟩, r4⟩
 · obtain ⟨ho, hC, cs', vs, e', fz, hH, hh, hu, hr⟩ := r2.var i b' hi
   exact ⟨ps b' _ ho, hC, cs', vs, e', fz, hH, hh, hu, hr.mono hM'⟩
 · rcases dec κ with ⟨h1, h2⟩ | hor
   · rw [(loc κ h1 h2).1] at hA
     exact zqa.frameP (tl κ h1 h2) (fun b o v hc => r3.mono.C b o v hc) r3.mono.π (hloc κ h1) (fun b ho => by
      obtain ⟨y1, y2, y3⟩ := pl b κ ho h1
      have y4 := ol b κ ho h1
      exact ⟨y1, r3.frame b y3 y4, fun o => r3.old b y3 y4 o⟩) (hm.tok κ ar hA)
   · rw [e2 κ hor] at hA
     exact (r2.tok κ ar hA).frame (ts κ hor) (fun _ _ _ h => h) rfl (fun b ho => ⟨ps b _ ho, rfl, fun _ => rfl⟩)
 · cases ho' : g'.O b' with
   | some o' => exact r2.own b' o' ho'
   | none =>
     cases hb : g.O b' with
     | some o' => exact Nat.lt_of_lt_of_le (hm.own b' o' hb) r3.size
     | none =>
       rw [pn b' (fun i h1 => by rw [hb] at h1; cases h1), ho'] at ho
       cases ho
 · rw [pn b' (fun i h1 => by rw [ho] at h1; cases h1)]
   exact r3.own b' hb' (on b' ho)
theorem y21 {E : Env} {fb : Option (List Nat)} {l1 l2 L : List Oper} {S : St} {K : St → Prop} (hL : l1 ++ l2 = L) (h : Todo (RunV E fb L.toArray L S K)) : RunV E fb (List.append l1 l2).toArray (List.append l1 l2) S K := by
 subst hL; exact h
end Go.PW
namespace Go.Proofs
open Go.PW
structure Val where
 kind : Int
 num : Int
 bits : Int
 str : ByteArray
abbrev Row := List Val
structure Piece where
 lo : Int
 hi : Int
 row : Row
def Val.enc (v : Val) : List D := [.lit (.int .i64 v.kind), .lit (.int .i64 v.num), .lit (.int .u64 v.bits), .lit (.string v.str)]
def zz4 (r : Row) : D := .sl (r.map Val.enc)
def Piece.enc (p : Piece) : List D := [.lit (.int .i64 p.lo), .lit (.int .i64 p.hi), zz4 p.row]
def zzk (ps : List Piece) : D := .sl (ps.map Piece.enc)
def zqj (a b : Int) : List D := [.lit (.int .i64 a), .lit (.int .i64 b)]
attribute [go_sem] Val.enc zz4 Piece.enc zzk zqj
def dB (b : Bool) : RT := .d (.lit (.bool b))
def pA (x : List D) : PV := .agg (x.map .d)
def pD (x : D) : PV := .c (.d x)
@[go_sem] theorem xvg (x : List D) : pA x = .agg (x.map .d) := rfl
@[go_sem] theorem xvh (x : D) : pD x = .c (.d x) := rfl
@[go_sem] theorem xk4 (b : Bool) : dB b = .d (.lit (.bool b)) := rfl
def dS (l : List UInt8) : D := .lit (.string ⟨l.toArray⟩)
def dI (n : Int) : D := .lit (.int .i64 n)
@[go_sem] theorem xk6 (l : List UInt8) : dS l = .lit (.string ⟨l.toArray⟩) := rfl
@[go_sem] theorem xk5 (n : Int) : dI n = .lit (.int .i64 n) := rfl
section eqs
variable {a b c a' b' c' : Int} {s s' : ByteArray}
@[go_sem] theorem Tryz.eqVal : binS Tryz.prog .eql 28 (.agg [.d (.lit (.int .i64 a)), .d (.lit (.int .i64 b)), .d (.lit (.int .u64 c)), .d (.lit (.string s))]) (.agg [.d (.lit (.int .i64 a')), .d (.lit (.int .i64 b')), .d (.lit (.int .u64 c')), .d (.lit (.string s'))]) =
 some (lit (.bool ((a == a') && ((b == b') && ((c == c') && ((s.toList == s'.toList) && true)))))) := by kernel_rfl
@[go_sem] theorem Tryz.neVal : binS Tryz.prog .neq 28 (.agg [.d (.lit (.int .i64 a)), .d (.lit (.int .i64 b)), .d (.lit (.int .u64 c)), .d (.lit (.string s))]) (.agg [.d (.lit (.int .i64 a')), .d (.lit (.int .i64 b')), .d (.lit (.int .u64 c')), .d (.lit (.string s'))]) =
 some (lit (.bool (!((a == a') && ((b == b') && ((c == c') && ((s.toList == s'.toList) && true))))))) := by kernel_rfl
@[go_sem] theorem Tryz.eqSpan : binS Tryz.prog .eql 37 (.agg [.d (.lit (.int .i64 a)), .d (.lit (.int .i64 b))]) (.agg [.d (.lit (.int .i64 a')), .d (.lit (.int .i64 b'))]) =
 some (lit (.bool ((a == a') && ((b == b') && true)))) := by kernel_rfl
@[go_sem] theorem Tryz.neSpan : binS Tryz.prog .neq 37 (.agg [.d (.lit (.int .i64 a)), .d (.lit (.int .i64 b))]) (.agg [.d (.lit (.int .i64 a')), .d (.lit (.int .i64 b'))]) =
 some (lit (.bool (!((a == a') && ((b == b') && true))))) := by kernel_rfl
end eqs
theorem Tryz.appVals : AppT Tryz.prog 29 28 4 40 := ⟨Tryz.underlying29, Tryz.cl28, Tryz.by28, Tryz.zo28, by decide, by decide⟩
theorem Tryz.appPieces : AppT Tryz.prog 30 62 3 40 := ⟨Tryz.underlying30, Tryz.cl62, Tryz.by62, Tryz.zo62, by decide, by decide⟩
theorem Tryz.appSpans : AppT Tryz.prog 82 37 2 16 := ⟨Tryz.underlying82, Tryz.cl37, Tryz.by37, Tryz.zo37, by decide, by decide⟩
theorem zqm (ps : List Piece) : Szd 3 (ps.map Piece.enc) := fun e he => by
 obtain ⟨p, _, rfl⟩ := List.mem_map.1 he
 rfl
theorem yq3 (r : Row) : Szd 4 (r.map Val.enc) := fun e he => by
 obtain ⟨p, _, rfl⟩ := List.mem_map.1 he
 rfl
theorem zzw {α : Type} {l : List α} {i : Nat} {x : α} (h : l[i]? = some x) : l.take (i + 1) = l.take i ++ [x] := by rw [List.take_add_one, h]; rfl
theorem Tryz.mixed : Tryz.prog.follows .mixedOrders = true := by kernel_rfl
theorem Tryz.pure {f : FuncId} {fn : Func} {c : Code} {md : List Nat} (hf : Tryz.prog.funcs[f]? = some fn) (hb : fn.body = some c) (hext : ∀ (args : Array Value) (w : World), (callFunc f args).run Tryz.prog w = .ok (.enter f args) w)
 (hc : zkh (envOf Tryz.prog [] 0 md []) fn.ntmps c = true) {args : List PV} (hcl : args.all PV.closed = true) (hn : args.length ≤ fn.ntmps) {r : RV}
 (h : VC (envOf Tryz.prog [] 0 md []) noH noA c ⟨Ret Tryz.prog fn r, Ret Tryz.prog fn r, fun _ _ => False⟩ ⟨entry args, noH, noA⟩) : zzr Tryz.prog f args r :=
 zvs (zzx Tryz.mixed) hf hb hext hc hcl hn h
end Go.Proofs
namespace Go.Proofs
open Go.PW
def Span.right (a b : Int) : Bool := decide (0 ≤ a) && decide (a < b) && decide (b ≤ 1099511627776)
def Span.has (a b n : Int) : Bool := Span.right a b && decide (a ≤ n) && decide (n < b)
set_option maxRecDepth 8000 in
theorem Tryz.spanRight (a b : Int) : zzr Tryz.prog 31 [pA (zqj a b)] (.one (dB (Span.right a b))) := by
 refine Tryz.pure (md := []) Tryz.func31 rfl Tryz.call31 (by kernel_rfl) (by rfl) (by exact Zle rfl) ?_
 refine vSq fun K hK => z0a ?_
 simp only [go_sem]
 refine hK _ ?_; clear hK K
 refine vSq fun K hK => z0a ?_
 simp +decide only [go_sem]
 repeat' (refine zw7 (fun h => ?_) (fun h => ?_) <;> simp +decide only [go_sem, h])
 all_goals (refine hK _ ?_; clear hK K; refine zzs rfl ?_; simp +decide only [go_sem, Span.right, *])
set_option maxRecDepth 8000 in
theorem Tryz.spanHas (a b n : Int) : zzr Tryz.prog 84 [pA (zqj a b), pD (.lit (.int .i64 n))] (.one (dB (Span.has a b n))) := by
 refine Tryz.pure (md := []) Tryz.func84 rfl Tryz.call84 (by kernel_rfl) (by rfl) (by exact Zle rfl) ?_
 refine vSq fun K hK => z0a ?_
 simp +decide only [go_sem]
 refine hK _ ?_; clear hK K
 refine vSq fun K hK => z0a ?_
 simp +decide only [go_sem]
 refine yzb (Tryz.spanRight a b) rfl rfl (fun _ => rfl) ?_
 simp +decide only [go_sem]
 repeat' (refine zw7 (fun h => ?_) (fun h => ?_) <;> simp +decide only [go_sem, h])
 all_goals (refine hK _ ?_; clear hK K; refine zzs rfl ?_; simp +decide only [go_sem, Span.has, *])
end Go.Proofs
