/-
  Parts of the proof, laid together: PwRn.
-/
import Derived.Test.YthkngcankpnhlaaQ37

namespace Go.Proofs
open Go.PW
section px
variable {Q : Dk → Lg → Bool → Prop} {H : HMap} {A : AMap} {k did pid lid : Nat} {κp : Tok} {N logs M : Nat} {p : Pg} {ch : List (Int × List UInt8)} {b b1 b2 : Nat → List UInt8}
set_option maxRecDepth 8000 in
set_option maxHeartbeats 8000000 in
theorem Try.kPgCommitH (off : Nat) (hw : Wf H A) (hp : PgAt H A pid did lid κp p) (hh : p.halted = true) : EffOK Try.prog 20 off H A [.c (.ptr pid 0)] (pD (.lit (.int .i64 6))) H A := by
  refine effr_ok (E := envOf Try.prog [33, 7000000 + 41, 42, 19, 5000000 + 43, 6000000 + 78] off [] []) (envOf_ok Try.mixed) Try.func20 rfl Try.call20 (by kernel_rfl) (by exact Nat.le_of_ble_eq_true rfl) (fun hab => ?_)
  have hph := hp.h
  unfold encPg at hph
  have hpo := hp.lt hab
  have n1 : H (off + 1) = none := (hab _ (by omega)).1
  have p1 : (pid = off + 1) = False := eq_false (by omega)
  have hw1 : Wf (upd H (off + 1) (some [.ptr pid 0])) A := Wf_set hw (fun x hx => by rw [List.mem_singleton.1 hx]; exact upd_keepH _ (by rw [hp.h]; simp)) (fun _ h => h)
  have hp1 : PgAt (upd H (off + 1) (some [.ptr pid 0])) A pid did lid κp p := hp.mv (upd_other _ _ (by omega)) rfl
  have ab1 : Above (off + 1000) (upd H (off + 1) (some [.ptr pid 0])) A := Above_updH (Above_mono hab (by omega)) (by omega)
  have kt := Try.kThere (off + 1000) hw1 hp1
  repeat' (first
   |with_reducible first|refine vSq fun K hK=>?_|refine vRg ?_|refine vBl ?_|refine vSc ?_|refine vIf ?_|refine vSk ?_|refine vEx ?_|refine vRt ?_
   |(with_reducible first|refine gNt (fun h=>?_) (fun h=>?_)|refine gCs (fun h=>?_) (fun h=>?_))<;>(try simp only[h])
   |refine And.intro n1 ?_
   |refine C_call rfl kt rfl ab1 ?_
   |with_reducible first|(refine hK _ ?_;clear hK K)|(clear hK K;refine hK _ ?_;clear hK K)|(clear hK K;clear hK K;refine hK _ ?_;clear hK K)|(clear hK K;clear hK K;clear hK K;refine hK _ ?_;clear hK K)
   |(with_reducible refine todo ?_;simp +decide only[go_sem, hph, hh, p1]))
  exact RetR_sub rfl (wk_c (.inr (.inl ⟨rfl, True.intro⟩))) True.intro hw (fun j hj => upd_other _ _ fun e => hj (by rw [e]; exact n1)) (fun _ _ => rfl) (fun _ h => h) (fun _ h => h)
theorem Try.xCommitH (off : Nat) (h : QX (HT logs N M b1 b2) H A k did pid N logs ch b) : EffOK Try.prog 20 off H A [.c (.ptr pid 0)] (pD (.lit (.int .i64 6))) H A := by
  obtain ⟨lid, κm, κc, κr, κp, d, l, p, hx, rfl, hb, hq⟩ := h
  exact Try.kPgCommitH off hx.lw.wf hx.pg hq.1
end px
structure NSt where
  i : Nat
  k : Nat
  M : Nat
  pid : Nat
  H : HMap
  A : AMap
  ch : List (Int × List UInt8)
  b : Nat → List UInt8
  was : List (List UInt8)
  thn : List (List UInt8)
  Q : Dk → Lg → Bool → Prop
def NM (M : Nat) (b : Nat → List UInt8) (was thn : List (List UInt8)) (Q : Dk → Lg → Bool → Prop) : Prop :=
  (Q = LV 40 60 M True ∧ was = pgsL b [] (60 - 40) ∧ thn = pgsL b [] (60 - 40)) ∨ ∃ b1 b2, Q = HT 40 60 M b1 b2 ∧ was = pgsL b1 [] (60 - 40) ∧ (thn = pgsL b2 [] (60 - 40) ∨ pgsL b1 [] (60 - 40) = pgsL b2 [] (60 - 40))
structure NV (y : NSt) : Prop where
  px : QX y.Q y.H y.A y.k 200 y.pid 60 40 y.ch y.b
  md : NM y.M y.b y.was y.thn y.Q
  len : y.was.length = 20 ∧ y.thn.length = 20
  k : y.k ≤ 214 + 14 * y.i
  m : y.M ≤ 2 + 2 * y.i
  i : y.i ≤ 40
def FrN (ops : List OpP) (y : NSt) : St :=
  over [(0, .c (.d (.sl (opsP ops)))), (3, .c (.ptr 200 0)), (5, .c (.ptr y.pid 0)), (7, .c (.d (.sl (textsD y.was)))), (8, .c (.d (.sl (textsD y.thn)))), (9, pD (.lit (.int .i64 y.i)))] [] y.H y.A
theorem NM.fuse {M : Nat} {b : Nat → List UInt8} {was thn : List (List UInt8)} {Q : Dk → Lg → Bool → Prop} (h : NM M b was thn Q) (n : Int) : ∀ d l x, Q d l x → Q (fuseD d n) l x := by
  rcases h with ⟨rfl, _⟩ | ⟨b1, b2, rfl, _⟩
  · exact fun _ _ _ h => h.fuse n
  · exact fun _ _ _ h => h.fuse n
set_option maxRecDepth 8000 in
set_option maxHeartbeats 64000000 in
theorem Try.kPagerLives (ops : List OpP) : PureOK Try.prog 7 [.c (.d (.sl (opsP ops)))] (.one (.d (.lit (.bool true)))) := by
  have e0 := Try.kKnown
  obtain ⟨H1, A1, e1, L1, lo1, lo2⟩ := Try.sNew 200 60 (by omega) (by omega)
  have D1 := DY.new (logs := 40) L1 (by omega) (by omega) (by omega) (by omega) (by omega) (fun j hj => ⟨lo1 j (by omega), fun q => lo2 _ (by show j ≠ 200; omega)⟩)
  obtain ⟨pid, H2, A2, e2, P2, _, _⟩ := Try.xOpen 1000 D1 (by omega) (by omega) (by omega)
  have P2 : QX (LV 40 60 2 False) H2 A2 214 200 pid 60 40 [] knZ := P2
  have P2 : QX (LV 40 60 2 True) H2 A2 214 200 pid 60 40 [] knZ := P2.up (Nat.le_refl _) (fun d l x h => h.mono (Nat.le_refl _) (fun h => h.elim))
  have b1 : Above 1000 H1 A1 := Above_mono L1.ab (by omega)
  have g2 := Try.xPages 1000 P2
  have abP2 := P2.ab (by omega)
  have hll := opsP_len ops
  refine pure_eff rfl (effr_ok (E := envOf Try.prog [9, 10, 23, 24, 20, 26, 2000000 + 28, 27] 0 [] []) (envOf_ok Try.mixed) Try.func7 rfl Try.call7 (by kernel_rfl) (by exact Nat.le_of_ble_eq_true rfl) (fun hab => ?_))
  repeat' (first
   |with_reducible first|refine vSq fun K hK=>?_|refine vRg ?_|refine vBl ?_|refine vSc ?_|refine vIf ?_|refine vSk ?_|refine vEx ?_|refine vRt ?_
   |(with_reducible first|refine gNt (fun h=>?_) (fun h=>?_)|refine gCs (fun h=>?_) (fun h=>?_))<;>(try simp only[h])
   |refine C_call rfl e1 rfl (Above_mono hab (by omega)) ?_
   |refine C_call rfl e2 rfl b1 ?_
   |refine C_call rfl g2 rfl abP2 ?_
   |with_reducible first|(refine hK _ ?_;clear hK K)|(clear hK K;refine hK _ ?_;clear hK K)|(clear hK K;clear hK K;refine hK _ ?_;clear hK K)|(clear hK K;clear hK K;clear hK K;refine hK _ ?_;clear hK K)
   |(with_reducible refine todo ?_;simp +decide only[go_sem, zne]))
  refine VC_while (ι := NSt) NV (FrN ops) (fun y => 40 - y.i) ⟨0, 214, 2, pid, H2, A2, [], knZ, pgsL knZ [] (60 - 40), pgsL knZ [] (60 - 40), LV 40 60 2 True⟩ ⟨P2, .inl ⟨rfl, rfl, rfl⟩, ⟨pgsL_len _ _ _, pgsL_len _ _ _⟩, by show 214 ≤ 214 + 14 * 0; omega, by show 2 ≤ 2 + 2 * 0; omega, by show 0 ≤ 40; omega⟩ ?_ ?_
  · have w := fun {X Y : AMap} => P2.ptr (X := X) (Y := Y)
    unfold FrN
    refine Weak_overG P2.wf.1 (fun _ _ => rfl) rfl ?_ ?_ (fun i hi => (hi rfl).elim) (fun τ h => (h rfl).elim)
    · simp +decide only [go_sem, w]
    · simp +decide only [go_sem]
  · rintro ⟨i, k, M, pid, H, A, ch, b, was, thn, Q⟩ ⟨P, md, ⟨ln1, ln2⟩, hk, hM, hi⟩
    simp only at P md ln1 ln2 hk hM hi
    have hnx : IntKind.i64.wrap ((i : Int) + 1) = ((i + 1 : Nat) : Int) := by rw [Go.IntWalk.i64_in _ (by omega)]; omega
    have low := P.wf.2.1
    have hlo10 : ∀ {X : HMap} {Y : AMap} {kx px : Nat} {c : List (Int × List UInt8)} {bx : Nat → List UInt8} {QX' : Dk → Lg → Bool → Prop}, QX QX' X Y kx 200 px 60 40 c bx → X 10 = none := fun h => by
      obtain ⟨_, _, _, _, _, _, _, _, _, _, _, _, _, lo, _⟩ := h.nums
      exact (lo 10 (by omega)).1
    have h10 := hlo10 P
    unfold FrN
    by_cases q1 : i < ops.length
    · have f1 : ((i : Int) < ((opsP ops).length : Int)) = True := eq_true (by rw [hll]; omega)
      by_cases q2 : i < 40
      · have f2 : ((i : Int) < 40) = True := eq_true (by omega)
        have hg := opsP_get q1
        generalize ops[i] = o at hg
        have nxt : ∀ {H' : HMap} {A' : AMap} {k' M' pid' : Nat} {ch' : List (Int × List UInt8)} {b' : Nat → List UInt8} {was' thn' : List (List UInt8)} {Q' : Dk → Lg → Bool → Prop} {S : St}, QX Q' H' A' k' 200 pid' 60 40 ch' b' → NM M' b' was' thn' Q' → was'.length = 20 → thn'.length = 20 → k' ≤ k + 14 → M' ≤ M + 2 → S.H = upd H' 10 (some (oPC o)) → S.A = A' →
            S.ρ 0 = .c (.d (.sl (opsP ops))) → S.ρ 3 = .c (.ptr 200 0) → S.ρ 5 = .c (.ptr pid' 0) → S.ρ 7 = .c (.d (.sl (textsD was'))) → S.ρ 8 = .c (.d (.sl (textsD thn'))) → S.ρ 9 = pD (.lit (.int .i64 (i + 1 : Nat))) →
            ∃ j : {y : NSt // NV y}, Weak noH noA S (FrN ops j.1) ∧ 40 - j.1.i < 40 - i := fun {H'} {A'} {k'} {M'} {pid'} {ch'} {b'} {was'} {thn'} {Q'} {S} hx hm l1 l2 y1 y2 y3 y4 y5 y6 y7 y8 y9 y10 => by
          refine ⟨⟨⟨i + 1, k', M', pid', H', A', ch', b', was', thn', Q'⟩, ⟨hx, hm, ⟨l1, l2⟩, by show k' ≤ 214 + 14 * (i + 1); omega, by show M' ≤ 2 + 2 * (i + 1); omega, by show i + 1 ≤ 40; omega⟩⟩, ?_, by show 40 - (i + 1) < 40 - i; omega⟩
          have w := fun {X Y : AMap} => hx.ptr (X := X) (Y := Y)
          have x10 := hlo10 hx
          unfold FrN
          refine Weak_overG hx.wf.1 (fun j hj => by rw [y3]; exact upd_other _ _ fun e => hj (by rw [e]; exact x10)) y4 ?_ ?_ (fun i hi => (hi rfl).elim) (fun τ h => (h rfl).elim)
          · simp +decide only [go_sem, w, y5, y6, y7, y8, y9, y10]
          · simp +decide only [go_sem]
        have lift1 : ∀ {X X' : HMap} {Y Y' : AMap} {kx kx' px px' : Nat} {c c' : List (Int × List UInt8)} {bx bx' : Nat → List UInt8} {Q1 Q2 : Dk → Lg → Bool → Prop} {f : FuncId} {args : List PV} {v : PV}, QX Q1 X Y kx 200 px 60 40 c bx → QX Q2 X' Y' kx' 200 px' 60 40 c' bx' → EffOK Try.prog f 1000 X Y args v X' Y' → (∀ x ∈ args, x.oks (fun i => X i ≠ none) (fun κ => Y κ ≠ none)) →
            EffOK Try.prog f 1000 (upd X 10 (some (oPC o))) Y args v (upd X' 10 (some (oPC o))) Y' := fun h h' e ha => eff_frame e h.wf.1 ha (hlo10 h) (hlo10 h')
        have up : ∀ {X : HMap} {Y : AMap} {k2 pid2 : Nat} {c : List (Int × List UInt8)} {bb : Nat → List UInt8} {Q : Dk → Lg → Bool → Prop}, QX Q X Y k2 200 pid2 60 40 c bb → k2 ≤ 1000 → Above (0 + 1000) (upd X 10 (some (oPC o))) Y := fun h hk => Above_updH (h.ab hk) (by omega)
        have abP := up P (by omega)
        by_cases k6 : o.kind = 6
        · have p6 : (o.kind == 6) = true := by rw [k6]; rfl
          have p5 : (o.kind != 5) = true := by rw [k6]; rfl
          obtain ⟨HF, AF, eF, PF, _, _⟩ := Try.xFuse (Q' := Q) 1000 P o.n (md.fuse o.n)
          have eF' := lift1 P PF eF (oks_args (l := [.lit (.int .i64 o.n)]) P.wf.2.2.1)
          unfold oPC at eF' abP
          repeat' (first
           |with_reducible first|refine vSq fun K hK=>?_|refine vRg ?_|refine vBl ?_|refine vSc ?_|refine vIf ?_|refine vSk ?_|refine vEx ?_|refine vRt ?_
           |(with_reducible first|refine gNt (fun h=>?_) (fun h=>?_)|refine gCs (fun h=>?_) (fun h=>?_))<;>(try simp only[h])
           |refine And.intro h10 ?_
           |refine C_call rfl eF' rfl abP ?_
           |with_reducible first|(refine hK _ ?_;clear hK K)|(clear hK K;refine hK _ ?_;clear hK K)|(clear hK K;clear hK K;refine hK _ ?_;clear hK K)|(clear hK K;clear hK K;clear hK K;refine hK _ ?_;clear hK K)
           |(with_reducible refine todo ?_;simp +decide only[go_sem, f1, f2, hg, h10, hnx, upd_twice, p6, p5]))
          exact nxt PF md ln1 ln2 (by omega) (by omega) rfl rfl rfl rfl rfl rfl rfl rfl
        · have p6 : (o.kind == 6) = false := eqf k6
          by_cases k3 : o.kind = 3
          · have p3 : (o.kind == 3) = true := by rw [k3]; rfl
            have p5 : (o.kind != 5) = true := by rw [k3]; rfl
            have g1 := Try.xPages 1000 P
            have g1' := lift1 P P g1 (oks_ptr1 P.wf.2.2.2)
            have z6e : ((6 : Int) == 0) = false := rfl
            have z63 : ((6 : Int) != 3) = true := rfl
            have eT := Try.kTexts was thn (by omega)
            have hpl := pgsL_len b ch (60 - 40)
            unfold tx at eT
            rcases md with ⟨rfl, hw, ht⟩ | ⟨b1, b2, rfl, hw, ht⟩
            · obtain ⟨_, ⟨rfl, HC, AC, eC, PC, _, _⟩ | ⟨rfl, _, bd, HC, AC, eC, PC, _, _⟩⟩ := Try.xCommit 1000 P (by omega) (by omega) (by omega) (fun _ => P.fit)
              · have eC' := lift1 P PC eC (oks_ptr1 P.wf.2.2.2)
                unfold oPC at g1' eC' abP
                clear eT
                repeat' (first
                 |with_reducible first|refine vSq fun K hK=>?_|refine vRg ?_|refine vBl ?_|refine vSc ?_|refine vIf ?_|refine vSk ?_|refine vEx ?_|refine vRt ?_
                 |(with_reducible first|refine gNt (fun h=>?_) (fun h=>?_)|refine gCs (fun h=>?_) (fun h=>?_))<;>(try simp only[h])
                 |refine And.intro h10 ?_
                 |refine C_call rfl g1' rfl abP ?_
                 |refine C_call rfl eC' rfl abP ?_
                 |with_reducible first|(refine hK _ ?_;clear hK K)|(clear hK K;refine hK _ ?_;clear hK K)|(clear hK K;clear hK K;refine hK _ ?_;clear hK K)|(clear hK K;clear hK K;clear hK K;refine hK _ ?_;clear hK K)
                 |(with_reducible refine todo ?_;simp +decide only[go_sem, f1, f2, hg, h10, hnx, upd_twice, p6, p3, p5]))
                exact nxt PC (.inl ⟨rfl, (pgsL_ct b ch (60 - 40)).symm, (pgsL_ct b ch (60 - 40)).symm⟩) hpl hpl (by omega) (by omega) rfl rfl rfl rfl rfl rfl rfl rfl
              · have eC' := lift1 P PC eC (oks_ptr1 P.wf.2.2.2)
                rw [show (was == thn) = true by rw [hw, ht]; exact beq_self_eq_true _] at eT
                unfold oPC at g1' eC' abP
                have lowC : ∀ j, j < 200 → ∀ q, AC (j, q) = none := PC.wf.2.1
                repeat' (first
                 |with_reducible first|refine vSq fun K hK=>?_|refine vRg ?_|refine vBl ?_|refine vSc ?_|refine vIf ?_|refine vSk ?_|refine vEx ?_|refine vRt ?_
                 |(with_reducible first|refine gNt (fun h=>?_) (fun h=>?_)|refine gCs (fun h=>?_) (fun h=>?_))<;>(try simp only[h])
                 |refine And.intro h10 ?_
                 |refine C_call rfl g1' rfl abP ?_
                 |refine C_call rfl eC' rfl abP ?_
                 |refine C_pure eT rfl rfl (fun k => lowC _ (Nat.le_of_ble_eq_true rfl) k) ?_
                 |with_reducible first|(refine hK _ ?_;clear hK K)|(clear hK K;refine hK _ ?_;clear hK K)|(clear hK K;clear hK K;refine hK _ ?_;clear hK K)|(clear hK K;clear hK K;clear hK K;refine hK _ ?_;clear hK K)
                 |(with_reducible refine todo ?_;simp +decide only[go_sem, f1, f2, hg, h10, hnx, upd_twice, p6, p3, p5, z6e, z63]))
                exact nxt PC (.inr ⟨b, ct b ch, rfl, hw, .inl (pgsL_ct b ch (60 - 40)).symm⟩) ln1 hpl (by omega) (by omega) rfl rfl rfl rfl rfl rfl rfl rfl
            · have eC := Try.xCommitH 1000 P
              have eC' := lift1 P P eC (oks_ptr1 P.wf.2.2.2)
              unfold oPC at g1' eC' abP
              cases hq : (was == thn) with
              | true =>
                rw [hq] at eT
                repeat' (first
                 |with_reducible first|refine vSq fun K hK=>?_|refine vRg ?_|refine vBl ?_|refine vSc ?_|refine vIf ?_|refine vSk ?_|refine vEx ?_|refine vRt ?_
                 |(with_reducible first|refine gNt (fun h=>?_) (fun h=>?_)|refine gCs (fun h=>?_) (fun h=>?_))<;>(try simp only[h])
                 |refine And.intro h10 ?_
                 |refine C_call rfl g1' rfl abP ?_
                 |refine C_call rfl eC' rfl abP ?_
                 |refine C_pure eT rfl rfl (fun k => low _ (Nat.le_of_ble_eq_true rfl) k) ?_
                 |with_reducible first|(refine hK _ ?_;clear hK K)|(clear hK K;refine hK _ ?_;clear hK K)|(clear hK K;clear hK K;refine hK _ ?_;clear hK K)|(clear hK K;clear hK K;clear hK K;refine hK _ ?_;clear hK K)
                 |(with_reducible refine todo ?_;simp +decide only[go_sem, f1, f2, hg, h10, hnx, upd_twice, p6, p3, p5, z6e, z63]))
                have hq' : was = thn := by simpa using hq
                exact nxt P (.inr ⟨b1, b2, rfl, hw, .inr (ht.elim (fun h => by rw [← hw, hq', h]) id)⟩) ln1 hpl (by omega) (by omega) rfl rfl rfl rfl rfl rfl rfl rfl
              | false =>
                rw [hq] at eT
                repeat' (first
                 |with_reducible first|refine vSq fun K hK=>?_|refine vRg ?_|refine vBl ?_|refine vSc ?_|refine vIf ?_|refine vSk ?_|refine vEx ?_|refine vRt ?_
                 |(with_reducible first|refine gNt (fun h=>?_) (fun h=>?_)|refine gCs (fun h=>?_) (fun h=>?_))<;>(try simp only[h])
                 |refine And.intro h10 ?_
                 |refine C_call rfl g1' rfl abP ?_
                 |refine C_call rfl eC' rfl abP ?_
                 |refine C_pure eT rfl rfl (fun k => low _ (Nat.le_of_ble_eq_true rfl) k) ?_
                 |with_reducible first|(refine hK _ ?_;clear hK K)|(clear hK K;refine hK _ ?_;clear hK K)|(clear hK K;clear hK K;refine hK _ ?_;clear hK K)|(clear hK K;clear hK K;clear hK K;refine hK _ ?_;clear hK K)
                 |(with_reducible refine todo ?_;simp +decide only[go_sem, f1, f2, hg, h10, hnx, upd_twice, p6, p3, p5, z6e, z63]))
                exact nxt P (.inr ⟨b1, b2, rfl, hw, ht⟩) ln1 ln2 (by omega) (by omega) rfl rfl rfl rfl rfl rfl rfl rfl
          · have p3 : (o.kind == 3) = false := eqf k3
            by_cases k5 : o.kind = 5
            · have p5 : (o.kind != 5) = false := by rw [k5]; rfl
              have f3 : (o.kind < 5) = False := eq_false (by omega)
              obtain ⟨X, eD, hX, hcr⟩ := Try.xCrashAny 1000 P
              have iX := ints_len X
              have bl := bools_len o.keep
              obtain ⟨d9, l9, x9, q9, s9, r9, HX, AX, eX, hD⟩ := hcr (o.keep.take (min o.keep.length X.length)) (by rw [List.length_take]; omega)
              have hbf : ∃ bf, RX 40 60 M bf (crD d9 (o.keep.take (min o.keep.length X.length))) ∧ (pgsL bf [] (60 - 40) = was ∨ pgsL bf [] (60 - 40) = thn) := by
                rcases md with ⟨rfl, hw, _⟩ | ⟨b1, b2, rfl, hw, ht⟩
                · exact ⟨b, q9.crash (by omega) s9 r9 _, .inl hw.symm⟩
                · rcases q9.2 (o.keep.take (min o.keep.length X.length)) with h | h
                  · exact ⟨b1, h, .inl hw.symm⟩
                  · exact ⟨b2, h, ht.elim (fun e => .inr e.symm) (fun e => .inl (e.symm.trans hw.symm))⟩
              obtain ⟨bf, hrx, hlw⟩ := hbf
              have DX := hD M bf hrx
              obtain ⟨p2, HO, AO, eO, PO, _, _⟩ := Try.xOpen 1000 DX (by omega) (by omega) (by omega)
              have PO : QX (LV 40 60 (M + 2) True) HO AO (k + 1 + 13) 200 p2 60 40 [] bf := PO.up (Nat.le_refl _) (fun d l x h => h.mono (Nat.le_refl _) (fun h => h.elim))
              have q2 := Try.xPages 1000 PO
              have wX := DX.wf
              have hX10 : HX 10 = none := by
                obtain ⟨_, _, _, _, _, _, lo, _⟩ := DX
                exact (lo 10 (by omega)).1
              have eD' := lift1 P P eD (oks_ptr1 P.wf.2.2.1)
              have eX' := eff_frame (id := 10) (cs := oPC o) eX P.wf.1 (oks_args (l := [.sl (bools (o.keep.take (min o.keep.length X.length)))]) P.wf.2.2.1) h10 hX10
              have eO' := eff_frame (id := 10) (cs := oPC o) eO wX.1 (oks_args (l := [.lit (.int .i64 ((40 : Nat) : Int))]) wX.2.2.1) hX10 (hlo10 PO)
              have q2' := lift1 PO PO q2 (oks_ptr1 PO.wf.2.2.2)
              have abX : Above (0 + 1000) (upd HX 10 (some (oPC o))) AX := Above_updH (Above_mono wX.2.2.2 (by omega)) (by omega)
              have abO := up PO (by omega)
              have hpl := pgsL_len bf [] (60 - 40)
              have eW := Try.kTexts (pgsL bf [] (60 - 40)) was (by omega)
              have eT := Try.kTexts (pgsL bf [] (60 - 40)) thn (by omega)
              have lowO : ∀ j, j < 200 → ∀ q, AO (j, q) = none := PO.wf.2.1
              have hmin : (if (X.length : Int) < (o.keep.length : Int) then (X.length : Int) else (o.keep.length : Int)) = ((min o.keep.length X.length : Nat) : Int) := by split <;> omega
              have btk := bools_take o.keep (min o.keep.length X.length)
              unfold tx at eW eT
              unfold oPC at eD' eX' eO' q2' abP abX abO
              cases hw : (pgsL bf [] (60 - 40) == was) with
              | true =>
                rw [hw] at eW
                clear eT
                repeat' (first
                 |with_reducible first|refine vSq fun K hK=>?_|refine vRg ?_|refine vBl ?_|refine vSc ?_|refine vIf ?_|refine vSk ?_|refine vEx ?_|refine vRt ?_
                 |(with_reducible first|refine gNt (fun h=>?_) (fun h=>?_)|refine gCs (fun h=>?_) (fun h=>?_))<;>(try simp only[h])
                 |refine And.intro h10 ?_
                 |refine C_quiet rfl rfl eD' rfl abP ?_
                 |refine C_call rfl eX' rfl abP ?_
                 |refine C_call rfl eO' rfl abX ?_
                 |refine C_call rfl q2' rfl abO ?_
                 |refine C_pure eW rfl rfl (fun k => lowO _ (Nat.le_of_ble_eq_true rfl) k) ?_
                 |(refine W_slc (els := bools o.keep) (l := 0) (h := min o.keep.length X.length) Try.appB rfl rfl (by simp [optNat, natOf?, intOf?]) (Nat.zero_le _) (by rw [bl]; exact Nat.min_le_left _ _) (szd_bools _) ?_)
                 |with_reducible first|(refine hK _ ?_;clear hK K)|(clear hK K;refine hK _ ?_;clear hK K)|(clear hK K;clear hK K;refine hK _ ?_;clear hK K)|(clear hK K;clear hK K;clear hK K;refine hK _ ?_;clear hK K)
                 |(with_reducible refine todo ?_;simp +decide only[go_sem, f1, f2, f3, hg, h10, hnx, upd_twice, p6, p3, p5, iX, bl, hmin, btk, zne]))
                exact nxt PO (.inl ⟨rfl, rfl, rfl⟩) hpl hpl (by omega) (by omega) rfl rfl rfl rfl rfl rfl rfl rfl
              | false =>
                rw [hw] at eW
                rw [show (pgsL bf [] (60 - 40) == thn) = true from hlw.elim (fun e => by rw [e, beq_self_eq_true] at hw; cases hw) (fun e => by rw [e]; exact beq_self_eq_true _)] at eT
                repeat' (first
                 |with_reducible first|refine vSq fun K hK=>?_|refine vRg ?_|refine vBl ?_|refine vSc ?_|refine vIf ?_|refine vSk ?_|refine vEx ?_|refine vRt ?_
                 |(with_reducible first|refine gNt (fun h=>?_) (fun h=>?_)|refine gCs (fun h=>?_) (fun h=>?_))<;>(try simp only[h])
                 |refine And.intro h10 ?_
                 |refine C_quiet rfl rfl eD' rfl abP ?_
                 |refine C_call rfl eX' rfl abP ?_
                 |refine C_call rfl eO' rfl abX ?_
                 |refine C_call rfl q2' rfl abO ?_
                 |refine C_pure eW rfl rfl (fun k => lowO _ (Nat.le_of_ble_eq_true rfl) k) ?_
                 |refine C_pure eT rfl rfl (fun k => lowO _ (Nat.le_of_ble_eq_true rfl) k) ?_
                 |(refine W_slc (els := bools o.keep) (l := 0) (h := min o.keep.length X.length) Try.appB rfl rfl (by simp [optNat, natOf?, intOf?]) (Nat.zero_le _) (by rw [bl]; exact Nat.min_le_left _ _) (szd_bools _) ?_)
                 |with_reducible first|(refine hK _ ?_;clear hK K)|(clear hK K;refine hK _ ?_;clear hK K)|(clear hK K;clear hK K;refine hK _ ?_;clear hK K)|(clear hK K;clear hK K;clear hK K;refine hK _ ?_;clear hK K)
                 |(with_reducible refine todo ?_;simp +decide only[go_sem, f1, f2, f3, hg, h10, hnx, upd_twice, p6, p3, p5, iX, bl, hmin, btk, zne]))
                exact nxt PO (.inl ⟨rfl, rfl, rfl⟩) hpl hpl (by omega) (by omega) rfl rfl rfl rfl rfl rfl rfl rfl
            · have p5 : (o.kind != 5) = true := by rw [bne_iff_ne]; exact k5
              by_cases q4 : o.kind < 5
              · have f3 : (o.kind < 5) = True := eq_true q4
                by_cases q5 : o.s.length < 200
                · have f4 : ((o.s.length : Int) < 200) = True := eq_true (by omega)
                  obtain ⟨x, y, z, ch', HD, AD, ed, PD, _, _⟩ := Try.xDo 1000 P o (by omega) k3
                  have ed' := lift1 P PD ed (fun x hx => by
                    simp only [List.mem_cons, List.not_mem_nil, or_false] at hx
                    rcases hx with rfl | rfl
                    · exact P.wf.2.2.2
                    · intro c hc
                      unfold oPC at hc
                      simp only [List.mem_cons, List.not_mem_nil, or_false] at hc
                      rcases hc with rfl | rfl | rfl | rfl <;> exact True.intro)
                  unfold oPC at ed' abP
                  repeat' (first
                   |with_reducible first|refine vSq fun K hK=>?_|refine vRg ?_|refine vBl ?_|refine vSc ?_|refine vIf ?_|refine vSk ?_|refine vEx ?_|refine vRt ?_
                   |(with_reducible first|refine gNt (fun h=>?_) (fun h=>?_)|refine gCs (fun h=>?_) (fun h=>?_))<;>(try simp only[h])
                   |refine And.intro h10 ?_
                   |refine C_call rfl ed' rfl abP ?_
                   |with_reducible first|(refine hK _ ?_;clear hK K)|(clear hK K;refine hK _ ?_;clear hK K)|(clear hK K;clear hK K;refine hK _ ?_;clear hK K)|(clear hK K;clear hK K;clear hK K;refine hK _ ?_;clear hK K)
                   |(with_reducible refine todo ?_;simp +decide only[go_sem, f1, f2, f3, f4, hg, h10, hnx, upd_twice, p6, p3, p5]))
                  exact nxt PD md ln1 ln2 (by omega) (by omega) rfl rfl rfl rfl rfl rfl rfl rfl
                · have f4 : ((o.s.length : Int) < 200) = False := eq_false (by omega)
                  repeat' (first
                   |with_reducible first|refine vSq fun K hK=>?_|refine vRg ?_|refine vBl ?_|refine vSc ?_|refine vIf ?_|refine vSk ?_|refine vEx ?_|refine vRt ?_
                   |(with_reducible first|refine gNt (fun h=>?_) (fun h=>?_)|refine gCs (fun h=>?_) (fun h=>?_))<;>(try simp only[h])
                   |refine And.intro h10 ?_
                   |with_reducible first|(refine hK _ ?_;clear hK K)|(clear hK K;refine hK _ ?_;clear hK K)|(clear hK K;clear hK K;refine hK _ ?_;clear hK K)|(clear hK K;clear hK K;clear hK K;refine hK _ ?_;clear hK K)
                   |(with_reducible refine todo ?_;simp +decide only[go_sem, f1, f2, f3, f4, hg, h10, hnx, upd_twice, p6, p3, p5]))
                  exact nxt P md ln1 ln2 (by omega) (by omega) rfl rfl rfl rfl rfl rfl rfl rfl
              · have f3 : (o.kind < 5) = False := eq_false q4
                repeat' (first
                 |with_reducible first|refine vSq fun K hK=>?_|refine vRg ?_|refine vBl ?_|refine vSc ?_|refine vIf ?_|refine vSk ?_|refine vEx ?_|refine vRt ?_
                 |(with_reducible first|refine gNt (fun h=>?_) (fun h=>?_)|refine gCs (fun h=>?_) (fun h=>?_))<;>(try simp only[h])
                 |refine And.intro h10 ?_
                 |with_reducible first|(refine hK _ ?_;clear hK K)|(clear hK K;refine hK _ ?_;clear hK K)|(clear hK K;clear hK K;refine hK _ ?_;clear hK K)|(clear hK K;clear hK K;clear hK K;refine hK _ ?_;clear hK K)
                 |(with_reducible refine todo ?_;simp +decide only[go_sem, f1, f2, f3, hg, h10, hnx, upd_twice, p6, p3, p5]))
                exact nxt P md ln1 ln2 (by omega) (by omega) rfl rfl rfl rfl rfl rfl rfl rfl
      · have f2 : ((i : Int) < 40) = False := eq_false (by omega)
        repeat' (first
         |with_reducible first|refine vSq fun K hK=>?_|refine vRg ?_|refine vBl ?_|refine vSc ?_|refine vIf ?_|refine vSk ?_|refine vEx ?_|refine vRt ?_
         |(with_reducible first|refine gNt (fun h=>?_) (fun h=>?_)|refine gCs (fun h=>?_) (fun h=>?_))<;>(try simp only[h])
         |refine C_pure e0 rfl rfl (fun k => low _ (Nat.le_of_ble_eq_true rfl) k) ?_
         |with_reducible first|(refine hK _ ?_;clear hK K)|(clear hK K;refine hK _ ?_;clear hK K)|(clear hK K;clear hK K;refine hK _ ?_;clear hK K)|(clear hK K;clear hK K;clear hK K;refine hK _ ?_;clear hK K)
         |(with_reducible refine todo ?_;simp +decide only[go_sem, f1, f2]))
        exact RetR_same rfl (by simp +decide only [go_sem]) True.intro (fun i cs c h => by cases h) (fun i h => (h rfl).elim) (fun i h => (h rfl).elim)
    · have f1 : ((i : Int) < ((opsP ops).length : Int)) = False := eq_false (by rw [hll]; omega)
      repeat' (first
       |with_reducible first|refine vSq fun K hK=>?_|refine vRg ?_|refine vBl ?_|refine vSc ?_|refine vIf ?_|refine vSk ?_|refine vEx ?_|refine vRt ?_
       |(with_reducible first|refine gNt (fun h=>?_) (fun h=>?_)|refine gCs (fun h=>?_) (fun h=>?_))<;>(try simp only[h])
       |refine C_pure e0 rfl rfl (fun k => low _ (Nat.le_of_ble_eq_true rfl) k) ?_
       |with_reducible first|(refine hK _ ?_;clear hK K)|(clear hK K;refine hK _ ?_;clear hK K)|(clear hK K;clear hK K;refine hK _ ?_;clear hK K)|(clear hK K;clear hK K;clear hK K;refine hK _ ?_;clear hK K)
       |(with_reducible refine todo ?_;simp +decide only[go_sem, f1]))
      exact RetR_same rfl (by simp +decide only [go_sem]) True.intro (fun i cs c h => by cases h) (fun i h => (h rfl).elim) (fun i h => (h rfl).elim)
end Go.Proofs
