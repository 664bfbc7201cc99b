/-
  Parts of the proof, laid together: PwRm.
-/
import Derived.Test.YthkngcankpnhlaaQ37

namespace Go.Proofs
open Go.PW
theorem Try.appB : AppT Try.prog 30 4 1 1 := ⟨Try.underlying30, Try.cl4, Try.by4, Try.zo4, by decide, by decide⟩
theorem szd_bools (l : List Bool) : Szd 1 (bools l) := fun e he => by obtain ⟨w, _, rfl⟩ := List.mem_map.1 he; rfl
theorem bools_len (l : List Bool) : (bools l).length = l.length := by simp [bools]
theorem bools_app (a b : List Bool) : bools (a ++ b) = bools a ++ bools b := List.map_append
theorem bools_take (l : List Bool) (n : Nat) : (bools l).take (n - 0) = bools (l.take n) := by rw [Nat.sub_zero]; exact (List.map_take).symm
section px
variable {Q Q' : Dk → Lg → Bool → Prop} {H : HMap} {A : AMap} {k k' did pid : Nat} {N logs M : Nat} {ch ch' : List (Int × List UInt8)} {b b' : Nat → List UInt8}
set_option maxRecDepth 8000 in
set_option maxHeartbeats 8000000 in
theorem Try.xDo3 (off : Nat) (h : QX Q H A k did pid N logs ch b) (o : OpP) (hk : k + 4 ≤ off) (k3 : o.kind = 3) {v : Int} (hc : QSO Q' (off + 1000) Try.prog 20 H A [.c (.ptr pid 0)] (pD (.lit (.int .i64 v))) k' did pid N logs ch' b') (hk' : k' ≤ k + 3) :
    QSO Q' off Try.prog 23 H A [.c (.ptr pid 0), .agg (oPC o)] (.tup [.c (.d (.lit (.int .i64 0))), .c (.d (dS [])), .c (.d (.lit (.int .i64 v)))]) k' did pid N logs ch' b' := by
  obtain ⟨n1, n2, n3, n4, n5, n6, n7, n8, n9, hw, hab0, hd0, hp0, lo, ks, hct⟩ := h.nums
  obtain ⟨HW, AW, e, hx, q4, q5⟩ := hc
  obtain ⟨_, _, _, _, _, _, _, _, _, hw', hab', _⟩ := hx.nums
  have n3 : H (off + 3) = none := (hab0 _ (by omega)).1
  have n3' : HW (off + 3) = none := (hab' _ (by omega)).1
  have e' := eff_frame (id := off + 3) (cs := oPC o) e hw (oks_ptr1 hp0) n3 n3'
  have ab3 : Above (off + 1000) (upd H (off + 3) (some (oPC o))) A := Above_updH (Above_mono hab0 (by omega)) (by omega)
  have p0 : (o.kind == 0) = false := eqf (by omega)
  have p1 : (o.kind == 1) = false := eqf (by omega)
  have p2 : (o.kind == 2) = false := eqf (by omega)
  have p3 : (o.kind == 3) = true := by rw [k3]; rfl
  unfold oPC at e' ab3
  refine ⟨HW, AW, ?_, hx, q4, q5⟩
  refine effr_ok (E := envOf Try.prog [14, 11, 15, 20, 19, 12] off [] []) (envOf_ok Try.mixed) Try.func23 rfl Try.call23 (by kernel_rfl) (by exact Nat.le_of_ble_eq_true rfl) (fun hab => ?_)
  unfold oPC
  repeat' (first
   |with_reducible first|refine vSq fun K hK=>?_|refine vRg ?_|refine vBl ?_|refine vSc ?_|refine vIf ?_|refine vSk ?_|refine vEx ?_|refine vRt ?_
   |(with_reducible first|refine gNt (fun h=>?_) (fun h=>?_)|refine gCs (fun h=>?_) (fun h=>?_))<;>(try simp only[h])
   |refine And.intro n3 ?_
   |refine C_call rfl e' rfl ab3 ?_
   |with_reducible first|(refine hK _ ?_;clear hK K)|(clear hK K;refine hK _ ?_;clear hK K)|(clear hK K;clear hK K;refine hK _ ?_;clear hK K)|(clear hK K;clear hK K;clear hK K;refine hK _ ?_;clear hK K)
   |(with_reducible refine todo ?_;simp +decide only[go_sem, p0, p1, p2, p3]))
  exact RetR_sub rfl wk_trip oks_trip hw' (fun j hj => upd_other _ _ fun e => hj (by rw [e]; exact n3')) (fun _ _ => rfl) q4 q5
theorem QX.ptr (h : QX Q H A k did pid N logs ch b) {X Y : AMap} : PV.wk (hOver [] H) X Y (.c (.ptr did 0)) (.c (.ptr did 0)) = True ∧ PV.wk (hOver [] H) X Y (.c (.ptr pid 0)) (.c (.ptr pid 0)) = True := by
  obtain ⟨_, _, _, _, _, _, _, _, _, _, _, h1, h2, _⟩ := h.nums
  exact ⟨eq_true (wkP_ptr (by show H did ≠ none; exact h1)), eq_true (wkP_ptr (by show H pid ≠ none; exact h2))⟩
theorem QX.wf (h : QX Q H A k did pid N logs ch b) : Wf H A ∧ (∀ j, j < 200 → ∀ q, A (j, q) = none) ∧ H did ≠ none ∧ H pid ≠ none := by
  obtain ⟨_, _, _, _, _, _, _, _, _, hw, _, h1, h2, lo, _⟩ := h.nums
  exact ⟨hw, fun j hj => (lo j hj).2, h1, h2⟩
theorem QX.ab (h : QX Q H A k did pid N logs ch b) (hk : k ≤ 1000) : Above (0 + 1000) H A := by
  obtain ⟨_, _, _, _, _, _, _, _, _, _, hab, _⟩ := h.nums
  exact Above_mono hab (by omega)
theorem QX.fit (h : QX Q H A k did pid 60 40 ch b) : needN (recK ch (60 - 40)).length ≤ 40 - 2 := by
  obtain ⟨_, _, _, _, _, _, _, _, _, _, _, _, _, _, ks, _⟩ := h.nums
  have hle := ks.le
  have hr := recK_le (by omega) ks.find 20 (by omega)
  show needN (recK ch 20).length ≤ 38
  unfold needN
  omega
theorem DY.wf (h : DY H A k did N logs M b) : Wf H A ∧ (∀ j, j < 200 → ∀ q, A (j, q) = none) ∧ H did ≠ none ∧ Above k H A := by
  obtain ⟨κm, κc, d, L, _, _, lo, _⟩ := h
  exact ⟨L.wf, fun j hj => (lo j hj).2, by rw [L.dk.h]; simp, L.ab⟩
end px
structure ASt where
  i : Nat
  k : Nat
  M : Nat
  H : HMap
  A : AMap
  ch : List (Int × List UInt8)
  b : Nat → List UInt8
structure AV (pid : Nat) (y : ASt) : Prop where
  px : QX (LV 40 60 y.M False) y.H y.A y.k 200 pid 60 40 y.ch y.b
  k : y.k ≤ 214 + 3 * y.i
  m : y.M ≤ 2 + y.i
  i : y.i ≤ 30
def FrA (before script : List OpP) (fuse pid : Nat) (y : ASt) : St :=
  over [(0, .c (.d (.sl (opsP before)))), (1, .c (.d (.sl (opsP script)))), (2, pD (.lit (.int .u8 fuse))), (7, .c (.ptr 200 0)), (9, .c (.ptr pid 0)), (11, pD (.lit (.int .i64 y.i)))] [] y.H y.A
structure BSt where
  i : Nat
  H : HMap
  A : AMap
  ch : List (Int × List UInt8)
  L : List Bool
structure BV (k M pid : Nat) (b : Nat → List UInt8) (y : BSt) : Prop where
  px : QX (LV 40 60 M False) y.H y.A k 200 pid 60 40 y.ch b
  l : y.L.length ≤ 20 * y.i
  i : y.i ≤ 30
def FrB (script : List OpP) (fuse pid : Nat) (b : Nat → List UInt8) (y : BSt) : St :=
  overA [(1, .c (.d (.sl (opsP script)))), (2, pD (.lit (.int .u8 fuse))), (7, .c (.ptr 200 0)), (9, .c (.ptr pid 0)), (12, .c (.d (.sl (textsD (pgsL b [] (60 - 40)))))), (13, .c (.own (121, 0) (bools y.L))), (14, pD (.lit (.int .i64 y.i)))] [] [((121, 0), .co 1 y.L.length)] y.H y.A
theorem pgsL_ct (b : Nat → List UInt8) (ch : List (Int × List UInt8)) (n : Nat) : pgsL (ct b ch) [] n = pgsL b ch n := rfl
set_option maxRecDepth 8000 in
set_option maxHeartbeats 64000000 in
theorem Try.kPagerAtomic (before script : List OpP) (fuse : Nat) (hfz : fuse < 256) : PureOK Try.prog 6 [.c (.d (.sl (opsP before))), .c (.d (.sl (opsP script))), pD (.lit (.int .u8 fuse))] (.one (.d (.lit (.bool true)))) := by
  have e0 := Try.kKnown
  obtain ⟨H1, A1, e1, L1, lo1, lo2⟩ := Try.sNew 200 60 (by omega) (by omega)
  have D1 := DY.new (logs := 40) L1 (by omega) (by omega) (by omega) (by omega) (by omega) (fun j hj => ⟨lo1 j (by omega), fun q => lo2 _ (by show j ≠ 200; omega)⟩)
  obtain ⟨pid, H2, A2, e2, P2, _, _⟩ := Try.xOpen 1000 D1 (by omega) (by omega) (by omega)
  have P2 : QX (LV 40 60 2 False) H2 A2 214 200 pid 60 40 [] knZ := P2
  have b1 : Above 1000 H1 A1 := Above_mono L1.ab (by omega)
  have hlb := opsP_len before
  have hls := opsP_len script
  refine pure_eff rfl (effr_ok (E := envOf Try.prog [9, 10, 23, 24, 20, 19, 26, 28, 27] 0 [] []) (envOf_ok Try.mixed) Try.func6 rfl Try.call6 (by kernel_rfl) (by exact Nat.le_of_ble_eq_true rfl) (fun hab => ?_))
  repeat' (first
   |with_reducible first|refine vSq fun K hK=>?_|refine vRg ?_|refine vBl ?_|refine vSc ?_|refine vIf ?_|refine vSk ?_|refine vEx ?_|refine vRt ?_
   |(with_reducible first|refine gNt (fun h=>?_) (fun h=>?_)|refine gCs (fun h=>?_) (fun h=>?_))<;>(try simp only[h])
   |refine C_call rfl e1 rfl (Above_mono hab (by omega)) ?_
   |refine C_call rfl e2 rfl b1 ?_
   |with_reducible first|(refine hK _ ?_;clear hK K)|(clear hK K;refine hK _ ?_;clear hK K)|(clear hK K;clear hK K;refine hK _ ?_;clear hK K)|(clear hK K;clear hK K;clear hK K;refine hK _ ?_;clear hK K)
   |(with_reducible refine todo ?_;simp +decide only[go_sem, zne]))
  have rest : ∀ y : ASt, AV pid y → ∀ S : St, S.H = y.H → S.A = y.A → S.ρ 1 = .c (.d (.sl (opsP script))) → S.ρ 2 = pD (.lit (.int .u8 fuse)) → S.ρ 7 = .c (.ptr 200 0) → S.ρ 9 = .c (.ptr pid 0) → K S := by
    rintro ⟨i, k, M, H, A, ch, b⟩ ⟨P, hk, hM, hi⟩ ⟨ρ, HS, AS⟩ rfl rfl r1 r2 r7 r9
    simp only at P hk hM hi r1 r2 r7 r9
    refine hK _ ?_
    clear hK
    obtain ⟨HB, AB, eB, PB, _, _⟩ := Try.xAbort 1000 P
    have g1 := Try.xPages 1000 PB
    have abP := P.ab (by omega)
    have abB := PB.ab (by omega)
    have hp0 := PB.wf.2.2.2
    repeat' (first
     |with_reducible first|refine vSq fun K hK=>?_|refine vRg ?_|refine vBl ?_|refine vSc ?_|refine vIf ?_|refine vSk ?_|refine vEx ?_|refine vRt ?_
     |(with_reducible first|refine gNt (fun h=>?_) (fun h=>?_)|refine gCs (fun h=>?_) (fun h=>?_))<;>(try simp only[h])
     |refine C_call rfl eB rfl abP ?_
     |refine C_call rfl g1 rfl abB ?_
     |with_reducible first|(refine hK _ ?_;clear hK K)|(clear hK K;refine hK _ ?_;clear hK K)|(clear hK K;clear hK K;refine hK _ ?_;clear hK K)|(clear hK K;clear hK K;clear hK K;refine hK _ ?_;clear hK K)
     |(with_reducible refine todo ?_;simp +decide only[go_sem, r9]))
    have rest2 : ∀ y : BSt, BV k M pid b y → ∀ S : St, S.H = y.H → S.A = upd y.A (121, 0) (some (.co 1 y.L.length)) → S.ρ 2 = pD (.lit (.int .u8 fuse)) → S.ρ 7 = .c (.ptr 200 0) → S.ρ 9 = .c (.ptr pid 0) → S.ρ 12 = .c (.d (.sl (textsD (pgsL b [] (60 - 40))))) → S.ρ 13 = .c (.own (121, 0) (bools y.L)) → K S := by
      rintro ⟨i2, H, A, ch, L⟩ ⟨P, hL, hi2⟩ ⟨ρ, HS, AS⟩ rfl hSA r2 r7 r9 r12 r13
      simp only at P hL hi2 hSA r2 r7 r9 r12 r13
      subst hSA
      refine hK _ ?_
      clear hK
      have q1 := Try.xPages 1000 P
      obtain ⟨HF, AF, eF, PF, _, _⟩ := Try.xFuse (Q' := LV 40 60 M True) 1000 P ((fuse % 50 : Nat) : Int) (fun _ _ _ h => h.fuse _)
      have c50 : Int.tmod (fuse : Int) 50 = ((fuse % 50 : Nat) : Int) := tmod_nat fuse 50
      have cfz : IntKind.i64.wrap (fuse : Int) = (fuse : Int) := Go.IntWalk.i64_in _ (by omega)
      have up : ∀ {X : HMap} {Y : AMap} {k2 pid2 : Nat} {c : List (Int × List UInt8)} {bb : Nat → List UInt8} {Q : Dk → Lg → Bool → Prop}, QX Q X Y k2 200 pid2 60 40 c bb → k2 ≤ 1000 → Above (0 + 1000) X (upd Y (121, 0) (some (.co 1 L.length))) := fun h hk => Above_updA (h.ab hk) (by show 121 < 1000; omega)
      have bl := bools_len L
      have lift1 : ∀ {X X' : HMap} {Y Y' : AMap} {kx kx' px px' : Nat} {c c' : List (Int × List UInt8)} {bx bx' : Nat → List UInt8} {Q Q' : Dk → Lg → Bool → Prop} {f : FuncId} {args : List PV} {v : PV}, QX Q X Y kx 200 px 60 40 c bx → QX Q' X' Y' kx' 200 px' 60 40 c' bx' → EffOK Try.prog f 1000 X Y args v X' Y' → (∀ x ∈ args, x.oks (fun i => X i ≠ none) (fun κ => Y κ ≠ none)) →
          EffOK Try.prog f 1000 X (upd Y (121, 0) (some (.co 1 L.length))) args v X' (upd Y' (121, 0) (some (.co 1 L.length))) := fun h h' e ha => eff_frameA e h.wf.1 ha (h.wf.2.1 121 (by omega) 0) (h'.wf.2.1 121 (by omega) 0)
      have q1' := lift1 P P q1 (oks_ptr1 P.wf.2.2.2)
      have eF' := lift1 P PF eF (oks_args (l := [.lit (.int .i64 ((fuse % 50 : Nat) : Int))]) P.wf.2.2.1)
      have abP := up P (by omega)
      have abF := up PF (by omega)
      have hmin : ∀ (X : List Int), (if (X.length : Int) < (L.length : Int) then (X.length : Int) else (L.length : Int)) = ((min L.length X.length : Nat) : Int) := fun X => by split <;> omega
      refine Classical.byContradiction fun hno => ?_
      have tail : ∀ {HC : HMap} {AC : AMap} {cC : List (Int × List UInt8)} {bC bf : Nat → List UInt8} {QC : Dk → Lg → Bool → Prop} {v : Int} {X : List Int} {HX : HMap} {AX : AMap}, QX QC HC AC (k + 3) 200 pid 60 40 cC bC → EffOK Try.prog 20 1000 HF AF [.c (.ptr pid 0)] (pD (.lit (.int .i64 v))) HC AC →
          EffOK Try.prog 28 1000 HC AC [.c (.ptr 200 0)] (.c (.d (.sl (ints X)))) HC AC → EffOK Try.prog 27 1000 HC AC [.c (.ptr 200 0), .c (.d (.sl (bools (L.take (min L.length X.length)))))] (pD (.lit (.int .i64 0))) HX AX → DY HX AX (k + 4) 200 60 40 (M + 1) bf →
          ((v = 0 ∧ bf = ct b ch) ∨ (v = 6 ∧ (bf = b ∨ bf = ct b ch))) → False := fun {HC AC cC bC bf QC v X HX AX} PC eC eD eX DX hcase => by
        have iX := ints_len X
        have hmx := hmin X
        obtain ⟨p2, HO, AO, eO, PO, _, _⟩ := Try.xOpen 1000 DX (by omega) (by omega) (by omega)
        have q2 := Try.xPages 1000 PO
        have eC' := lift1 PF PC eC (oks_ptr1 PF.wf.2.2.2)
        have eD' := lift1 PC PC eD (oks_ptr1 PC.wf.2.2.1)
        have wX := DX.wf
        have eX' := eff_frameA (κ := (121, 0)) (ar := .co 1 L.length) eX PC.wf.1 (oks_args (l := [.sl (bools (L.take (min L.length X.length)))]) PC.wf.2.2.1) (PC.wf.2.1 121 (by omega) 0) (wX.2.1 121 (by omega) 0)
        have eO' := eff_frameA (κ := (121, 0)) (ar := .co 1 L.length) eO wX.1 (oks_args (l := [.lit (.int .i64 ((40 : Nat) : Int))]) wX.2.2.1) (wX.2.1 121 (by omega) 0) (PO.wf.2.1 121 (by omega) 0)
        have q2' := lift1 PO PO q2 (oks_ptr1 PO.wf.2.2.2)
        have abC := up PC (by omega)
        have abX : Above (0 + 1000) HX (upd AX (121, 0) (some (.co 1 L.length))) := Above_updA (Above_mono wX.2.2.2 (by omega)) (by show 121 < 1000; omega)
        have abO := up PO (by omega)
        have eT := Try.kTexts (pgsL bf [] (60 - 40)) (pgsL b ch (60 - 40)) (by rw [pgsL_len]; omega)
        have eW := Try.kTexts (pgsL bf [] (60 - 40)) (pgsL b [] (60 - 40)) (by rw [pgsL_len]; omega)
        have hT : bf = ct b ch → (pgsL bf [] (60 - 40) == pgsL b ch (60 - 40)) = true := fun e => by rw [e, pgsL_ct]; exact beq_self_eq_true _
        have hW : bf = b → (pgsL bf [] (60 - 40) == pgsL b [] (60 - 40)) = true := fun e => by rw [e]; exact beq_self_eq_true _
        unfold tx at eT eW
        have hlo : ∀ j, j < 200 → j ≠ 121 → ∀ q, upd AO (121, 0) (some (.co 1 L.length)) (j, q) = none := fun j hj h q => by rw [upd_other _ _ (tok_ne (by show j ≠ 121; omega))]; exact PO.wf.2.1 j hj q
        have btk := bools_take L (min L.length X.length)
        generalize upd AO (121, 0) (some (.co 1 L.length)) = AE at eO' q2' abO hlo
        rcases hcase with ⟨rfl, hbf⟩ | ⟨rfl, hbf⟩
        · rw [hT hbf] at eT
          clear eW
          refine hno ?_
          repeat' (first
           |with_reducible first|refine vSq fun K hK=>?_|refine vRg ?_|refine vBl ?_|refine vSc ?_|refine vIf ?_|refine vSk ?_|refine vEx ?_|refine vRt ?_
           |(with_reducible first|refine gNt (fun h=>?_) (fun h=>?_)|refine gCs (fun h=>?_) (fun h=>?_))<;>(try simp only[h])
           |refine C_call rfl q1' rfl abP ?_
           |refine C_call rfl eF' rfl abP ?_
           |refine C_call rfl eC' rfl abF ?_
           |refine C_call rfl eD' rfl abC ?_
           |refine C_call rfl eX' rfl abC ?_
           |refine C_call rfl eO' rfl abX ?_
           |refine C_call rfl q2' rfl abO ?_
           |refine C_pure eT rfl rfl (fun k => hlo _ (Nat.le_of_ble_eq_true rfl) (by decide) k) ?_
           |refine C_pure e0 rfl rfl (fun k => hlo _ (Nat.le_of_ble_eq_true rfl) (by decide) k) ?_
           |(refine W_slc (els := bools L) (l := 0) (h := min L.length X.length) Try.appB rfl rfl (by simp [optNat, natOf?, intOf?]) (Nat.zero_le _) (by rw [bl]; exact Nat.min_le_left _ _) (szd_bools _) ?_)
           |with_reducible first|(refine hK _ ?_;clear hK K)|(clear hK K;refine hK _ ?_;clear hK K)|(clear hK K;clear hK K;refine hK _ ?_;clear hK K)|(clear hK K;clear hK K;clear hK K;refine hK _ ?_;clear hK K)
           |(with_reducible refine todo ?_;simp +decide only[go_sem, r2, r7, r9, r13, c50, cfz, zne, iX, bl, hmx, btk]))
          exact RetR_same rfl (by simp +decide only [go_sem]) True.intro (fun i cs c h => by cases h) (fun i h => (h rfl).elim) (fun i h => (h rfl).elim)
        · have z6e : ((6 : Int) == 0) = false := rfl
          cases hw : (pgsL bf [] (60 - 40) == pgsL b [] (60 - 40)) with
          | true =>
            rw [hw] at eW
            clear eT
            refine hno ?_
            repeat' (first
             |with_reducible first|refine vSq fun K hK=>?_|refine vRg ?_|refine vBl ?_|refine vSc ?_|refine vIf ?_|refine vSk ?_|refine vEx ?_|refine vRt ?_
             |(with_reducible first|refine gNt (fun h=>?_) (fun h=>?_)|refine gCs (fun h=>?_) (fun h=>?_))<;>(try simp only[h])
             |refine C_call rfl q1' rfl abP ?_
             |refine C_call rfl eF' rfl abP ?_
             |refine C_call rfl eC' rfl abF ?_
             |refine C_call rfl eD' rfl abC ?_
             |refine C_call rfl eX' rfl abC ?_
             |refine C_call rfl eO' rfl abX ?_
             |refine C_call rfl q2' rfl abO ?_
             |refine C_pure eW rfl rfl (fun k => hlo _ (Nat.le_of_ble_eq_true rfl) (by decide) k) ?_
             |refine C_pure e0 rfl rfl (fun k => hlo _ (Nat.le_of_ble_eq_true rfl) (by decide) k) ?_
             |(refine W_slc (els := bools L) (l := 0) (h := min L.length X.length) Try.appB rfl rfl (by simp [optNat, natOf?, intOf?]) (Nat.zero_le _) (by rw [bl]; exact Nat.min_le_left _ _) (szd_bools _) ?_)
             |with_reducible first|(refine hK _ ?_;clear hK K)|(clear hK K;refine hK _ ?_;clear hK K)|(clear hK K;clear hK K;refine hK _ ?_;clear hK K)|(clear hK K;clear hK K;clear hK K;refine hK _ ?_;clear hK K)
             |(with_reducible refine todo ?_;simp +decide only[go_sem, r2, r7, r9, r12, r13, c50, cfz, zne, z6e, iX, bl, hmx, btk]))
            exact RetR_same rfl (by simp +decide only [go_sem]) True.intro (fun i cs c h => by cases h) (fun i h => (h rfl).elim) (fun i h => (h rfl).elim)
          | false =>
            rw [hw] at eW
            have z63 : ((6 : Int) != 3) = true := rfl
            rw [hT (hbf.resolve_left fun e => by rw [hW e] at hw; cases hw)] at eT
            refine hno ?_
            repeat' (first
             |with_reducible first|refine vSq fun K hK=>?_|refine vRg ?_|refine vBl ?_|refine vSc ?_|refine vIf ?_|refine vSk ?_|refine vEx ?_|refine vRt ?_
             |(with_reducible first|refine gNt (fun h=>?_) (fun h=>?_)|refine gCs (fun h=>?_) (fun h=>?_))<;>(try simp only[h])
             |refine C_call rfl q1' rfl abP ?_
             |refine C_call rfl eF' rfl abP ?_
             |refine C_call rfl eC' rfl abF ?_
             |refine C_call rfl eD' rfl abC ?_
             |refine C_call rfl eX' rfl abC ?_
             |refine C_call rfl eO' rfl abX ?_
             |refine C_call rfl q2' rfl abO ?_
             |refine C_pure eT rfl rfl (fun k => hlo _ (Nat.le_of_ble_eq_true rfl) (by decide) k) ?_
             |refine C_pure eW rfl rfl (fun k => hlo _ (Nat.le_of_ble_eq_true rfl) (by decide) k) ?_
             |refine C_pure e0 rfl rfl (fun k => hlo _ (Nat.le_of_ble_eq_true rfl) (by decide) k) ?_
             |(refine W_slc (els := bools L) (l := 0) (h := min L.length X.length) Try.appB rfl rfl (by simp [optNat, natOf?, intOf?]) (Nat.zero_le _) (by rw [bl]; exact Nat.min_le_left _ _) (szd_bools _) ?_)
             |with_reducible first|(refine hK _ ?_;clear hK K)|(clear hK K;refine hK _ ?_;clear hK K)|(clear hK K;clear hK K;refine hK _ ?_;clear hK K)|(clear hK K;clear hK K;clear hK K;refine hK _ ?_;clear hK K)
             |(with_reducible refine todo ?_;simp +decide only[go_sem, r2, r7, r9, r12, r13, c50, cfz, zne, z6e, z63, iX, bl, hmx, btk]))
            exact RetR_same rfl (by simp +decide only [go_sem]) True.intro (fun i cs c h => by cases h) (fun i h => (h rfl).elim) (fun i h => (h rfl).elim)
      obtain ⟨_, ⟨rfl, HC, AC, eC, PC, _, _⟩ | ⟨rfl, _, bd, HC, AC, eC, PC, _, _⟩⟩ := Try.xCommit 1000 PF (by omega) (by omega) (by omega) (fun _ => PF.fit)
      · obtain ⟨X, eD, hX, hcr⟩ := Try.xCrashAny 1000 PC
        obtain ⟨d9, l9, x9, q9, s9, r9', HX, AX, eX, hD⟩ := hcr (L.take (min L.length X.length)) (by rw [List.length_take]; omega)
        exact tail PC eC eD eX (hD (M + 1) _ (q9.crash (by omega) s9 r9' _)) (.inl ⟨rfl, rfl⟩)
      · obtain ⟨X, eD, hX, hcr⟩ := Try.xCrashAny 1000 PC
        obtain ⟨d9, l9, x9, q9, s9, r9', HX, AX, eX, hD⟩ := hcr (L.take (min L.length X.length)) (by rw [List.length_take]; omega)
        rcases q9.2 (L.take (min L.length X.length)) with h | h
        · exact tail PC eC eD eX (hD (M + 1) _ h) (.inr ⟨rfl, .inl rfl⟩)
        · exact tail PC eC eD eX (hD (M + 1) _ h) (.inr ⟨rfl, .inr rfl⟩)
    refine VC_while (ι := BSt) (BV k M pid b) (FrB script fuse pid b) (fun y => 30 - y.i) ⟨0, HB, AB, [], []⟩ ⟨PB, Nat.zero_le _, Nat.zero_le _⟩ ?_ ?_
    · have w := fun {X Y : AMap} => PB.ptr (X := X) (Y := Y)
      have ha := PB.wf.2.1 121 (by omega) 0
      unfold FrB
      refine Weak_overA PB.wf.1 kp_nil (fun _ _ => rfl) (fun q hq => by rw [List.mem_singleton.1 hq]; exact ha) ?_ ?_ ?_ (fun i hi => (hi rfl).elim) (fun τ h => (h rfl).elim)
      · simp +decide only [go_sem, w, r1, r2, r7, r9]
        exact wkP_new ha (sz := 1) (if_pos rfl)
      · simp +decide only [go_sem]
      · simp +decide only [go_sem, ha]
    · rintro ⟨i2, H, A, ch, L⟩ hy
      have hrest := rest2 _ hy
      obtain ⟨P, hL, hi⟩ := hy
      simp only at P hL hi hrest
      clear hK rest2
      have hnx : IntKind.i64.wrap ((i2 : Int) + 1) = ((i2 + 1 : Nat) : Int) := by rw [Go.IntWalk.i64_in _ (by omega)]; omega
      have ha := P.wf.2.1 121 (by omega) 0
      unfold FrB
      by_cases q1 : i2 < script.length
      · have f1 : ((i2 : Int) < ((opsP script).length : Int)) = True := eq_true (by rw [hls]; omega)
        by_cases q2 : i2 < 30
        · have f2 : ((i2 : Int) < 30) = True := eq_true (by omega)
          have hg := opsP_get q1
          generalize script[i2] = o at hg
          have bl := bools_len L
          have bl2 := bools_len o.keep
          have blt := bools_len (o.keep.take (min o.keep.length 20))
          have hlt : (o.keep.take (min o.keep.length 20)).length ≤ 20 := by rw [List.length_take]; omega
          have hmin : (if (20 : Int) < (o.keep.length : Int) then 20 else (o.keep.length : Int)) = ((min o.keep.length 20 : Nat) : Int) := by split <;> omega
          have btk := bools_take o.keep (min o.keep.length 20)
          have hoth : ∀ {A' : AMap}, A' (121, 0) = none → ∀ κ, A' κ ≠ none → κ ≠ (121, 0) := fun h κ hκ e => hκ (by rw [e]; exact h)
          have nxt : ∀ {H' : HMap} {A' : AMap} {ch' : List (Int × List UInt8)} {S : St}, QX (LV 40 60 M False) H' A' k 200 pid 60 40 ch' b → S.H = H' → (∀ κ, κ ≠ (121, 0) → S.A κ = A' κ) → S.A (121, 0) = some (.co 1 (L ++ o.keep.take (min o.keep.length 20)).length) → S.ρ 1 = .c (.d (.sl (opsP script))) → S.ρ 2 = pD (.lit (.int .u8 fuse)) → S.ρ 7 = .c (.ptr 200 0) → S.ρ 9 = .c (.ptr pid 0) → S.ρ 12 = .c (.d (.sl (textsD (pgsL b [] (60 - 40))))) → S.ρ 13 = .c (.own (121, 0) (bools L ++ bools (o.keep.take (min o.keep.length 20)))) → S.ρ 14 = pD (.lit (.int .i64 (i2 + 1 : Nat))) →
              ∃ j : {y : BSt // BV k M pid b y}, Weak noH noA S (FrB script fuse pid b j.1) ∧ 30 - j.1.i < 30 - i2 := fun {H'} {A'} {ch'} {S} hx y3 y4 y4' y5 y6 y7 y8 y9 y10 y11 => by
            refine ⟨⟨⟨i2 + 1, H', A', ch', L ++ o.keep.take (min o.keep.length 20)⟩, ⟨hx, by show (L ++ _).length ≤ 20 * (i2 + 1); rw [List.length_append]; omega, by show i2 + 1 ≤ 30; omega⟩⟩, ?_, by show 30 - (i2 + 1) < 30 - i2; omega⟩
            have w := fun {X Y : AMap} => hx.ptr (X := X) (Y := Y)
            have ha' := hx.wf.2.1 121 (by omega) 0
            unfold FrB
            refine Weak_overA hx.wf.1 (fun j _ => by rw [y3]) (fun κ hκ => y4 κ (hoth ha' κ hκ)) (fun q hq => by rw [List.mem_singleton.1 hq]; exact ha') ?_ ?_ ?_ (fun i hi => (hi rfl).elim) (fun τ h => (h rfl).elim)
            · simp +decide only [go_sem, w, y5, y6, y7, y8, y9, y10, y11, bools_app]
              exact wkP_own (by rw [aOver_hd]; simp) (by rw [y4', List.length_append]; exact aOver_hd)
            · simp +decide only [go_sem]
            · simp +decide only [go_sem, y4']
          have abP : Above (0 + 1000) H (upd A (121, 0) (some (.co 1 L.length))) := Above_updA (P.ab (by omega)) (by show 121 < 1000; omega)
          have haco : ∀ {A' : AMap}, (upd A' (121, 0) (some (Arr.co 1 L.length))) (121, 0) = some (.co 1 (bools L).length) := fun {A'} => by rw [upd_same, bl]
          have hSame : some (Arr.co 1 ((bools L).length + (bools (o.keep.take (min o.keep.length 20))).length)) = some (.co 1 (L ++ o.keep.take (min o.keep.length 20)).length) := by rw [bl, blt, List.length_append]
          by_cases q3 : o.kind < 3 ∧ o.s.length < 200
          · have f3 : (o.kind < 3) = True := eq_true q3.1
            have f4 : ((o.s.length : Int) < 200) = True := eq_true (by omega)
            obtain ⟨x, y, z, ch', HD, AD, ed, PD, _, _⟩ := Try.xDo 1000 P o (by omega) (by omega)
            have ed' := eff_frameA (κ := (121, 0)) (ar := .co 1 L.length) ed P.wf.1 (fun x hx => by
              simp only [List.mem_cons, List.not_mem_nil, or_false] at hx
              rcases hx with rfl | rfl
              · exact P.wf.2.2.2
              · intro c hc
                unfold oPC at hc
                simp only [List.mem_cons, List.not_mem_nil, or_false] at hc
                rcases hc with rfl | rfl | rfl | rfl <;> exact True.intro) ha (PD.wf.2.1 121 (by omega) 0)
            unfold oPC at ed'
            repeat' (first
             |with_reducible first|refine vSq fun K hK=>?_|refine vRg ?_|refine vBl ?_|refine vSc ?_|refine vIf ?_|refine vSk ?_|refine vEx ?_|refine vRt ?_
             |(with_reducible first|refine gNt (fun h=>?_) (fun h=>?_)|refine gCs (fun h=>?_) (fun h=>?_))<;>(try simp only[h])
             |refine C_call rfl ed' rfl abP ?_
             |(refine W_slc (els := bools o.keep) (l := 0) (h := min o.keep.length 20) Try.appB rfl rfl (by simp [optNat, natOf?, intOf?]) (Nat.zero_le _) (by rw [bl2]; exact Nat.min_le_left _ _) (szd_bools _) ?_)
             |(refine W_own Try.appB rfl (szd_bools _) (szd_bools _) (by rw [bl, blt]; omega) haco ?_)
             |with_reducible first|(refine hK _ ?_;clear hK K)|(clear hK K;refine hK _ ?_;clear hK K)|(clear hK K;clear hK K;refine hK _ ?_;clear hK K)|(clear hK K;clear hK K;clear hK K;refine hK _ ?_;clear hK K)
             |(with_reducible refine todo ?_;simp +decide only[go_sem, f1, f2, f3, f4, hg, hnx, bl2, hmin, btk]))
            exact nxt PD rfl (fun κ h => by show upd _ _ _ κ = _; rw [upd_other _ _ h, upd_other _ _ h]) hSame rfl rfl rfl rfl rfl rfl rfl
          · by_cases q4 : o.kind < 3
            · have f3 : (o.kind < 3) = True := eq_true q4
              have f4 : ((o.s.length : Int) < 200) = False := eq_false (by omega)
              repeat' (first
               |with_reducible first|refine vSq fun K hK=>?_|refine vRg ?_|refine vBl ?_|refine vSc ?_|refine vIf ?_|refine vSk ?_|refine vEx ?_|refine vRt ?_
               |(with_reducible first|refine gNt (fun h=>?_) (fun h=>?_)|refine gCs (fun h=>?_) (fun h=>?_))<;>(try simp only[h])
               |(refine W_slc (els := bools o.keep) (l := 0) (h := min o.keep.length 20) Try.appB rfl rfl (by simp [optNat, natOf?, intOf?]) (Nat.zero_le _) (by rw [bl2]; exact Nat.min_le_left _ _) (szd_bools _) ?_)
               |(refine W_own Try.appB rfl (szd_bools _) (szd_bools _) (by rw [bl, blt]; omega) haco ?_)
               |with_reducible first|(refine hK _ ?_;clear hK K)|(clear hK K;refine hK _ ?_;clear hK K)|(clear hK K;clear hK K;refine hK _ ?_;clear hK K)|(clear hK K;clear hK K;clear hK K;refine hK _ ?_;clear hK K)
               |(with_reducible refine todo ?_;simp +decide only[go_sem, f1, f2, f3, f4, hg, hnx, bl2, hmin, btk]))
              exact nxt P rfl (fun κ h => by show upd _ _ _ κ = _; rw [upd_other _ _ h]; exact if_neg h) hSame rfl rfl rfl rfl rfl rfl rfl
            · have f3 : (o.kind < 3) = False := eq_false q4
              repeat' (first
               |with_reducible first|refine vSq fun K hK=>?_|refine vRg ?_|refine vBl ?_|refine vSc ?_|refine vIf ?_|refine vSk ?_|refine vEx ?_|refine vRt ?_
               |(with_reducible first|refine gNt (fun h=>?_) (fun h=>?_)|refine gCs (fun h=>?_) (fun h=>?_))<;>(try simp only[h])
               |(refine W_slc (els := bools o.keep) (l := 0) (h := min o.keep.length 20) Try.appB rfl rfl (by simp [optNat, natOf?, intOf?]) (Nat.zero_le _) (by rw [bl2]; exact Nat.min_le_left _ _) (szd_bools _) ?_)
               |(refine W_own Try.appB rfl (szd_bools _) (szd_bools _) (by rw [bl, blt]; omega) haco ?_)
               |with_reducible first|(refine hK _ ?_;clear hK K)|(clear hK K;refine hK _ ?_;clear hK K)|(clear hK K;clear hK K;refine hK _ ?_;clear hK K)|(clear hK K;clear hK K;clear hK K;refine hK _ ?_;clear hK K)
               |(with_reducible refine todo ?_;simp +decide only[go_sem, f1, f2, f3, hg, hnx, bl2, hmin, btk]))
              exact nxt P rfl (fun κ h => by show upd _ _ _ κ = _; rw [upd_other _ _ h]; exact if_neg h) hSame rfl rfl rfl rfl rfl rfl rfl
        · have f2 : ((i2 : Int) < 30) = False := eq_false (by omega)
          repeat' (first
           |with_reducible first|refine vSq fun K hK=>?_|refine vRg ?_|refine vBl ?_|refine vSc ?_|refine vIf ?_|refine vSk ?_|refine vEx ?_|refine vRt ?_
           |(with_reducible first|refine gNt (fun h=>?_) (fun h=>?_)|refine gCs (fun h=>?_) (fun h=>?_))<;>(try simp only[h])
           |with_reducible first|(refine hK _ ?_;clear hK K)|(clear hK K;refine hK _ ?_;clear hK K)|(clear hK K;clear hK K;refine hK _ ?_;clear hK K)|(clear hK K;clear hK K;clear hK K;refine hK _ ?_;clear hK K)
           |(with_reducible refine todo ?_;simp +decide only[go_sem, f1, f2]))
          exact hrest _ rfl rfl rfl rfl rfl rfl rfl
      · have f1 : ((i2 : Int) < ((opsP script).length : Int)) = False := eq_false (by rw [hls]; omega)
        repeat' (first
         |with_reducible first|refine vSq fun K hK=>?_|refine vRg ?_|refine vBl ?_|refine vSc ?_|refine vIf ?_|refine vSk ?_|refine vEx ?_|refine vRt ?_
         |(with_reducible first|refine gNt (fun h=>?_) (fun h=>?_)|refine gCs (fun h=>?_) (fun h=>?_))<;>(try simp only[h])
         |with_reducible first|(refine hK _ ?_;clear hK K)|(clear hK K;refine hK _ ?_;clear hK K)|(clear hK K;clear hK K;refine hK _ ?_;clear hK K)|(clear hK K;clear hK K;clear hK K;refine hK _ ?_;clear hK K)
         |(with_reducible refine todo ?_;simp +decide only[go_sem, f1]))
        exact hrest _ rfl rfl rfl rfl rfl rfl rfl
  refine VC_while (ι := ASt) (AV pid) (FrA before script fuse pid) (fun y => 30 - y.i) ⟨0, 214, 2, H2, A2, [], knZ⟩ ⟨P2, by show 214 ≤ 214 + 3 * 0; omega, by show 2 ≤ 2 + 0; omega, by show 0 ≤ 30; omega⟩ ?_ ?_
  · have w := fun {X Y : AMap} => P2.ptr (X := X) (Y := Y)
    unfold FrA
    refine Weak_overG P2.wf.1 (fun _ _ => rfl) rfl ?_ ?_ (fun i hi => (hi rfl).elim) (fun τ h => (h rfl).elim)
    · simp +decide only [go_sem, w]
    · simp +decide only [go_sem]
  · rintro ⟨i, k, M, H, A, ch, b⟩ hy
    have hrest := rest _ hy
    obtain ⟨P, hk, hM, hi⟩ := hy
    simp only at P hk hM hi hrest
    clear hK rest
    have hnx : IntKind.i64.wrap ((i : Int) + 1) = ((i + 1 : Nat) : Int) := by rw [Go.IntWalk.i64_in _ (by omega)]; omega
    unfold FrA
    by_cases q1 : i < before.length
    · have f1 : ((i : Int) < ((opsP before).length : Int)) = True := eq_true (by rw [hlb]; omega)
      by_cases q2 : i < 30
      · have f2 : ((i : Int) < 30) = True := eq_true (by omega)
        have hg := opsP_get q1
        generalize before[i] = o at hg
        have nxt : ∀ {H' : HMap} {A' : AMap} {k' M' : Nat} {ch' : List (Int × List UInt8)} {b' : Nat → List UInt8} {S : St}, QX (LV 40 60 M' False) H' A' k' 200 pid 60 40 ch' b' → k' ≤ k + 3 → M' ≤ M + 1 → S.H = H' → S.A = A' → S.ρ 0 = .c (.d (.sl (opsP before))) → S.ρ 1 = .c (.d (.sl (opsP script))) → S.ρ 2 = pD (.lit (.int .u8 fuse)) → S.ρ 7 = .c (.ptr 200 0) → S.ρ 9 = .c (.ptr pid 0) → S.ρ 11 = pD (.lit (.int .i64 (i + 1 : Nat))) →
            ∃ j : {y : ASt // AV pid y}, Weak noH noA S (FrA before script fuse pid j.1) ∧ 30 - j.1.i < 30 - i := fun {H'} {A'} {k'} {M'} {ch'} {b'} {S} hx y1 y2 y3 y4 y5 y6 y7 y8 y9 y10 => by
          refine ⟨⟨⟨i + 1, k', M', H', A', ch', b'⟩, ⟨hx, by show k' ≤ 214 + 3 * (i + 1); omega, by show M' ≤ 2 + (i + 1); omega, by show i + 1 ≤ 30; omega⟩⟩, ?_, by show 30 - (i + 1) < 30 - i; omega⟩
          have w := fun {X Y : AMap} => hx.ptr (X := X) (Y := Y)
          unfold FrA
          refine Weak_overG hx.wf.1 (fun j _ => by rw [y3]) y4 ?_ ?_ (fun i hi => (hi rfl).elim) (fun τ h => (h rfl).elim)
          · simp +decide only [go_sem, w, y5, y6, y7, y8, y9, y10]
          · simp +decide only [go_sem]
        have abP := P.ab (by omega)
        by_cases q3 : o.kind < 5 ∧ o.s.length < 200
        · have f3 : (o.kind < 5) = True := eq_true q3.1
          have f4 : ((o.s.length : Int) < 200) = True := eq_true (by omega)
          by_cases k3 : o.kind = 3
          · obtain ⟨_, ⟨rfl, hC⟩ | ⟨_, h, _⟩⟩ := Try.xCommit (0 + 1000 + 1000) P (by omega) (by omega) (by omega) (fun _ => P.fit)
            case inr => exact h.elim
            obtain ⟨HD, AD, ed, PD, _, _⟩ := Try.xDo3 1000 P o (by omega) k3 hC (by omega)
            unfold oPC at ed
            repeat' (first
             |with_reducible first|refine vSq fun K hK=>?_|refine vRg ?_|refine vBl ?_|refine vSc ?_|refine vIf ?_|refine vSk ?_|refine vEx ?_|refine vRt ?_
             |(with_reducible first|refine gNt (fun h=>?_) (fun h=>?_)|refine gCs (fun h=>?_) (fun h=>?_))<;>(try simp only[h])
             |refine C_call rfl ed rfl abP ?_
             |with_reducible first|(refine hK _ ?_;clear hK K)|(clear hK K;refine hK _ ?_;clear hK K)|(clear hK K;clear hK K;refine hK _ ?_;clear hK K)|(clear hK K;clear hK K;clear hK K;refine hK _ ?_;clear hK K)
             |(with_reducible refine todo ?_;simp +decide only[go_sem, f1, f2, f3, f4, hg, hnx]))
            exact nxt PD (by omega) (by omega) rfl rfl rfl rfl rfl rfl rfl rfl
          · obtain ⟨x, y, z, ch', HD, AD, ed, PD, _, _⟩ := Try.xDo 1000 P o (by omega) k3
            unfold oPC at ed
            repeat' (first
             |with_reducible first|refine vSq fun K hK=>?_|refine vRg ?_|refine vBl ?_|refine vSc ?_|refine vIf ?_|refine vSk ?_|refine vEx ?_|refine vRt ?_
             |(with_reducible first|refine gNt (fun h=>?_) (fun h=>?_)|refine gCs (fun h=>?_) (fun h=>?_))<;>(try simp only[h])
             |refine C_call rfl ed rfl abP ?_
             |with_reducible first|(refine hK _ ?_;clear hK K)|(clear hK K;refine hK _ ?_;clear hK K)|(clear hK K;clear hK K;refine hK _ ?_;clear hK K)|(clear hK K;clear hK K;clear hK K;refine hK _ ?_;clear hK K)
             |(with_reducible refine todo ?_;simp +decide only[go_sem, f1, f2, f3, f4, hg, hnx]))
            exact nxt PD (by omega) (by omega) rfl rfl rfl rfl rfl rfl rfl rfl
        · by_cases q4 : o.kind < 5
          · have f3 : (o.kind < 5) = True := eq_true q4
            have f4 : ((o.s.length : Int) < 200) = False := eq_false (by omega)
            repeat' (first
             |with_reducible first|refine vSq fun K hK=>?_|refine vRg ?_|refine vBl ?_|refine vSc ?_|refine vIf ?_|refine vSk ?_|refine vEx ?_|refine vRt ?_
             |(with_reducible first|refine gNt (fun h=>?_) (fun h=>?_)|refine gCs (fun h=>?_) (fun h=>?_))<;>(try simp only[h])
             |with_reducible first|(refine hK _ ?_;clear hK K)|(clear hK K;refine hK _ ?_;clear hK K)|(clear hK K;clear hK K;refine hK _ ?_;clear hK K)|(clear hK K;clear hK K;clear hK K;refine hK _ ?_;clear hK K)
             |(with_reducible refine todo ?_;simp +decide only[go_sem, f1, f2, f3, f4, hg, hnx]))
            exact nxt P (by omega) (by omega) rfl rfl rfl rfl rfl rfl rfl rfl
          · have f3 : (o.kind < 5) = False := eq_false q4
            repeat' (first
             |with_reducible first|refine vSq fun K hK=>?_|refine vRg ?_|refine vBl ?_|refine vSc ?_|refine vIf ?_|refine vSk ?_|refine vEx ?_|refine vRt ?_
             |(with_reducible first|refine gNt (fun h=>?_) (fun h=>?_)|refine gCs (fun h=>?_) (fun h=>?_))<;>(try simp only[h])
             |with_reducible first|(refine hK _ ?_;clear hK K)|(clear hK K;refine hK _ ?_;clear hK K)|(clear hK K;clear hK K;refine hK _ ?_;clear hK K)|(clear hK K;clear hK K;clear hK K;refine hK _ ?_;clear hK K)
             |(with_reducible refine todo ?_;simp +decide only[go_sem, f1, f2, f3, hg, hnx]))
            exact nxt P (by omega) (by omega) rfl rfl rfl rfl rfl rfl rfl rfl
      · have f2 : ((i : Int) < 30) = False := eq_false (by omega)
        repeat' (first
         |with_reducible first|refine vSq fun K hK=>?_|refine vRg ?_|refine vBl ?_|refine vSc ?_|refine vIf ?_|refine vSk ?_|refine vEx ?_|refine vRt ?_
         |(with_reducible first|refine gNt (fun h=>?_) (fun h=>?_)|refine gCs (fun h=>?_) (fun h=>?_))<;>(try simp only[h])
         |with_reducible first|(refine hK _ ?_;clear hK K)|(clear hK K;refine hK _ ?_;clear hK K)|(clear hK K;clear hK K;refine hK _ ?_;clear hK K)|(clear hK K;clear hK K;clear hK K;refine hK _ ?_;clear hK K)
         |(with_reducible refine todo ?_;simp +decide only[go_sem, f1, f2]))
        exact hrest _ rfl rfl rfl rfl rfl rfl
    · have f1 : ((i : Int) < ((opsP before).length : Int)) = False := eq_false (by rw [hlb]; omega)
      repeat' (first
       |with_reducible first|refine vSq fun K hK=>?_|refine vRg ?_|refine vBl ?_|refine vSc ?_|refine vIf ?_|refine vSk ?_|refine vEx ?_|refine vRt ?_
       |(with_reducible first|refine gNt (fun h=>?_) (fun h=>?_)|refine gCs (fun h=>?_) (fun h=>?_))<;>(try simp only[h])
       |with_reducible first|(refine hK _ ?_;clear hK K)|(clear hK K;refine hK _ ?_;clear hK K)|(clear hK K;clear hK K;refine hK _ ?_;clear hK K)|(clear hK K;clear hK K;clear hK K;refine hK _ ?_;clear hK K)
       |(with_reducible refine todo ?_;simp +decide only[go_sem, f1]))
      exact hrest _ rfl rfl rfl rfl rfl rfl
end Go.Proofs
