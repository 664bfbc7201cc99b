import Derived.Test.YtfcffhhipkbkmaaQ37
import Derived.Test.YtfcffhhipkbkmaaQ36

/-
  WalResets: the law's body.
-/


namespace Go.Proofs
open Go.PW
structure RSt where
  i : Nat
  H : HMap
  A : AMap
  l : Lg
  d : Dk
structure RI (y : RSt) : Prop where
  L : LW y.H y.A 203 200 (200, 0) (201, 1) y.d
  g : LgAt y.H y.A 201 200 (201, 0) y.l
  lo : ∀ τ : Tok, τ.1 < 200 → y.A τ = none
  a : y.A (202, 0) = some (.co 1 (textsD y.l.recs).length)
  hr : y.l.recs.length ≤ y.i
  p : PR y.l y.d
def FrR (ls : List (List UInt8)) (n : Nat) (keep : List Bool) (y : RSt) : St := over [(0, .c (.d (.sl (textsD ls)))), (1, pD (.lit (.int .u8 n))), (2, .c (.d (.sl (bools keep)))), (7, .c (.ptr 200 0)), (9, .c (.ptr 201 0)), (11, .c (.own (202, 0) (textsD y.l.recs))), (12, pD (.lit (.int .i64 y.i)))] [] y.H y.A
theorem RI.fin {ls : List (List UInt8)} {n m : Nat} {keep : List Bool} {S : St} {i : Nat} {H' : HMap} {A' : AMap} {l : Lg} {d : Dk} (hy : RI ⟨i + 1, H', A', l, d⟩) (hi : i < m) (hS : S.H = H') (hA : S.A = A') (h11 : S.ρ 11 = .c (.own (202, 0) (textsD l.recs)))
    (p0 : S.ρ 0 = .c (.d (.sl (textsD ls)))) (p1 : S.ρ 1 = pD (.lit (.int .u8 n))) (p2 : S.ρ 2 = .c (.d (.sl (bools keep)))) (p7 : S.ρ 7 = .c (.ptr 200 0)) (p9 : S.ρ 9 = .c (.ptr 201 0)) (p12 : S.ρ 12 = pD (.lit (.int .i64 (i + 1 : Nat)))) :
    ∃ j : {y : RSt // RI y}, Weak noH noA S (FrR ls n keep j.1) ∧ m - j.1.i < m - i := by
  subst hS; subst hA
  refine ⟨⟨_, hy⟩, Weak_gen hy.L.wf (fun _ _ => rfl) (fun _ _ => rfl) (fun _ h => .inl h) ?_, by show m - (i + 1) < m - i; omega⟩
  have w1 : S.H 200 ≠ none := by have := hy.L.dk.h; simp only at this; rw [this]; simp
  have w2 : S.H 201 ≠ none := by have := hy.g.h; simp only at this; rw [this]; simp
  have w3 : S.A (202, 0) ≠ none := by have := hy.a; simp only at this; rw [this]; simp
  refine ⟨?_, ?_, ?_, ?_, ?_, ?_, ?_, True.intro⟩
  · rw [p0, wkP_d]; exact True.intro
  · rw [p1]; unfold pD; rw [wkP_d]; exact True.intro
  · rw [p2, wkP_d]; exact True.intro
  · rw [p7]; exact wkP_ptr w1
  · rw [p9]; exact wkP_ptr w2
  · rw [h11]; exact wkP_own w3 rfl
  · rw [p12]; unfold pD; rw [wkP_d]; exact True.intro
set_option maxRecDepth 8000 in
set_option maxHeartbeats 64000000 in
theorem Try.kResets (ls : List (List UInt8)) (n : Nat) (hn : n < 256) (keep : List Bool) : PureOK Try.prog 8 [.c (.d (.sl (textsD ls))), pD (.lit (.int .u8 n)), .c (.d (.sl (bools keep)))] (.one (.d (.lit (.bool true)))) := by
  have e0 := Try.kKnown
  obtain ⟨H1, A1, e1, L1, r1, r2⟩ := Try.sNew 200 40 (by omega) (by omega)
  obtain ⟨H2, A2, e2, L2, g2, _, r3, r4, r5⟩ := Try.sOpen L1 (by omega) (op_new (f := 0) (n := 40) (N := 40) (by omega) (by omega) (by omega) (by omega)) rfl
  rw [opL_new] at g2
  have L2 : LW H2 A2 202 200 (200, 0) (201, 1) (nextD (newD 40) 0 1 0) := L2
  have hpr : PR ⟨0, 38, 1, 0, 0, [], false⟩ (nextD (newD 40) 0 1 0) := ⟨[], _, PI.fresh (by omega) (by omega) (by omega) (by omega), rfl, rfl, rfl⟩
  have hll := textsD_len ls
  have n2 : A2 (202, 0) = none := (L2.ab 202 (by omega)).2 0
  have hA2 : ∀ τ, A2 τ ≠ none → upd A2 (202, 0) (some (.co 1 0)) τ = A2 τ := fun τ h => upd_other _ _ (fun e => h (by rw [e]; exact n2))
  have hy0 : RI ⟨0, H2, upd A2 (202, 0) (some (.co 1 0)), ⟨0, 38, 1, 0, 0, [], false⟩, nextD (newD 40) 0 1 0⟩ := by
    refine ⟨⟨Wf_arr L2.wf upd_keep, Above_updA (Above_mono L2.ab (by show 202 ≤ 203; omega)) (by show 202 < 203; omega), L2.dk.h, ?_, ?_⟩, g2.mv rfl ?_, fun τ hτ => ?_, by show upd A2 (202, 0) (some (.co 1 0)) (202, 0) = _; rw [upd_same]; rfl, Nat.le_refl _, hpr⟩
    · show upd A2 (202, 0) (some (.co 1 0)) (200, 0) = _
      rw [upd_other _ _ (tok_ne (by show 200 ≠ 202; omega))]; exact L2.dk.m
    · show upd A2 (202, 0) (some (.co 1 0)) (201, 1) = _
      rw [upd_other _ _ (tok_ne (by show 201 ≠ 202; omega))]; exact L2.dk.c
    · show upd A2 (202, 0) (some (.co 1 0)) (201, 0) = _
      rw [upd_other _ _ (tok_ne (by show 201 ≠ 202; omega))]
    · show upd A2 (202, 0) (some (.co 1 0)) τ = none
      rw [upd_other _ _ (tok_ne (by show τ.1 ≠ 202; omega)), r4 _ (tok_ne (by show τ.1 ≠ 200; omega)) (tok_ne (by show τ.1 ≠ 200; omega)) (by omega)]; exact r2 _ (by omega)
  refine pure_eff rfl (effr_ok (E := envOf Try.prog [22, 14, 15, 16, 17, 23, 26, 18, 19, 2000000 + 24] 0 [] []) (envOf_ok Try.mixed) Try.func8 rfl Try.call8 (by kernel_rfl) (by exact Nat.le_of_ble_eq_true rfl) (fun hab => ?_))
  by_cases q0 : 10 < ls.length
  · have f0 : ((10 : Int) < ((textsD ls).length : Int)) = True := eq_true (by rw [hll]; omega)
    repeat' (first
      | with_reducible refine VC_seq fun K hK => ?_
      | with_reducible refine W_region ?_
      | with_reducible refine VC_block ?_
      | with_reducible refine VC_scope ?_
      | with_reducible refine VC_if ?_
      | with_reducible refine VC_skip ?_
      | with_reducible refine VC_exit ?_
      | with_reducible refine VC_ret ?_
      | (with_reducible refine G_not (fun h => ?_) (fun h => ?_) <;> (try simp only [h]))
      | (with_reducible refine G_cases (fun h => ?_) (fun h => ?_) <;> (try simp only [h]))
      | refine C_call rfl e1 rfl (Above_mono hab (by omega)) ?_
      | (refine C_pure e0 rfl rfl (fun q => r2 _ (by show _ ≠ 200; exact Nat.ne_of_lt (Nat.le_of_ble_eq_true rfl))) ?_)
      | (with_reducible refine hK _ ?_; clear hK K)
      | (clear hK K; with_reducible refine hK _ ?_; clear hK K)
      | (clear hK K; clear hK K; with_reducible refine hK _ ?_; clear hK K)
      | (clear hK K; clear hK K; clear hK K; with_reducible refine hK _ ?_; clear hK K)
      | (with_reducible refine todo ?_; simp +decide only [go_sem, zne, f0]))
    exact RetR_same rfl (by simp +decide only [go_sem]) True.intro wf0 (fun i h => (h rfl).elim) (fun i h => (h rfl).elim)
  · have f0 : ((10 : Int) < ((textsD ls).length : Int)) = False := eq_false (by rw [hll]; omega)
    repeat' (first
      | with_reducible refine VC_seq fun K hK => ?_
      | with_reducible refine W_region ?_
      | with_reducible refine VC_block ?_
      | with_reducible refine VC_scope ?_
      | with_reducible refine VC_if ?_
      | with_reducible refine VC_skip ?_
      | with_reducible refine VC_exit ?_
      | with_reducible refine VC_ret ?_
      | (with_reducible refine G_not (fun h => ?_) (fun h => ?_) <;> (try simp only [h]))
      | (with_reducible refine G_cases (fun h => ?_) (fun h => ?_) <;> (try simp only [h]))
      | refine C_call rfl e1 rfl (Above_mono hab (by omega)) ?_
      | refine C_call rfl e2 rfl (Above_mono L1.ab (by omega)) ?_
      | (with_reducible refine hK _ ?_; clear hK K)
      | (clear hK K; with_reducible refine hK _ ?_; clear hK K)
      | (clear hK K; clear hK K; with_reducible refine hK _ ?_; clear hK K)
      | (clear hK K; clear hK K; clear hK K; with_reducible refine hK _ ?_; clear hK K)
      | (with_reducible refine todo ?_; simp +decide only [go_sem, zne, f0]))
    refine VC_while (ι := RSt) RI (FrR ls n keep) (fun y => ls.length - y.i) ⟨0, H2, upd A2 (202, 0) (some (.co 1 0)), ⟨0, 38, 1, 0, 0, [], false⟩, nextD (newD 40) 0 1 0⟩ hy0 ?_ ?_
    · have w1 : ∀ {X Y : AMap}, PV.wk (hOver [] H2) X Y (.c (.ptr 200 0)) (.c (.ptr 200 0)) = True := eq_true (wkP_ptr (by show H2 200 ≠ none; rw [L2.dk.h]; simp))
      have w2 := fun {X Y : AMap} => g2.ptr (A1 := X) (A2 := Y)
      have w3 : PV.wk (hOver [] H2) A2 (upd A2 (202, 0) (some (.co 1 0))) (.c (.own (202, 0) (textsD []))) (.c (.full [])) = True := eq_true (wkP_new n2 (upd_same _ _ _))
      refine Weak_gen L2.wf (fun _ _ => rfl) hA2 (fun τ h => ?_) ?_
      · show upd A2 (202, 0) (some (.co 1 0)) τ = none ∨ _
        by_cases e : τ = (202, 0)
        · exact .inr ⟨1, by show upd A2 (202, 0) (some (.co 1 0)) τ = _; rw [e, upd_same]⟩
        · rw [upd_other _ _ e]; exact .inl h
      · simp +decide only [go_sem, w1, w2, w3]
    · rintro y hy
      obtain ⟨i, H, A, l, d⟩ := y
      have L := hy.L
      have g := hy.g
      have lo := hy.lo
      have ha := hy.a
      have hr := hy.hr
      have hp := hy.p
      simp only at L g lo ha hr hp
      obtain ⟨s1, s2, s3, s4, s5, s6, s7, s8, s9⟩ := hp.spec
      have hrl := textsD_len l.recs
      have hab1 : Above (0 + 1000) H A := Above_mono L.ab (by omega)
      unfold FrR
      by_cases q1 : i < ls.length
      · have f1 : ((i : Int) < ((textsD ls).length : Int)) = True := eq_true (by rw [hll]; omega)
        have hg := textsD_get q1
        have hnx : IntKind.i64.wrap ((i : Int) + 1) = ((i + 1 : Nat) : Int) := by rw [Go.IntWalk.i64_in _ (by omega)]; omega
        generalize ls[i] = s at hg
        have hsame : RI ⟨i + 1, H, A, l, d⟩ := ⟨L, g, lo, ha, by show l.recs.length ≤ i + 1; omega, hp⟩
        by_cases q3 : s.length < 500
        · have f3 : ((s.length : Int) < 500) = True := eq_true (by omega)
          by_cases q4 : l.used + needN s.length ≤ l.places
          · have hpl := partsL_len s
            obtain ⟨HA, AA, ea, LA, gA, _, _, fA, _⟩ := Try.sAppend L g s4 s (by omega) q4 (by omega) (by omega) (by omega) (by omega) (by omega) (by omega) s7
            have haa : AA (202, 0) = some (.co 1 (textsD l.recs).length) := by rw [fA _ (tok_ne (by show 202 ≠ 201; omega)) (tok_ne (by show 202 ≠ 201; omega))]; exact ha
            have hb16 : ∀ {y : List D}, ((textsD l.recs).length + [y].length) * 16 ≤ 140737488355328 := by
              intro y
              rw [hrl, List.length_singleton]; omega
            have w12 : textsD (l.recs ++ [s]) = textsD l.recs ++ [[dS s]] := textsD_app _ _
            have hnew : RI ⟨i + 1, HA, upd AA (202, 0) (some (.co 1 ((textsD l.recs).length + 1))), { l with recs := l.recs ++ [s], used := l.used + (partsL s).length }, apD l s (partsL s).length (partsL s) d (partsL s).length⟩ :=
              ⟨LA.tok (tok_ne (by show 202 ≠ 200; omega)) (tok_ne (by show 202 ≠ 201; omega)) (by show 202 < 203; omega), gA.mv (H' := HA) (A' := upd AA (202, 0) (some (.co 1 ((textsD l.recs).length + 1)))) rfl (upd_other _ _ (tok_ne (a := (201, 0)) (b := (202, 0)) (by show 201 ≠ 202; omega))), fun τ h => by
                show upd AA (202, 0) (some (.co 1 ((textsD l.recs).length + 1))) τ = none
                rw [upd_other _ _ (tok_ne (by show τ.1 ≠ 202; omega)), fA _ (tok_ne (by show τ.1 ≠ 201; omega)) (tok_ne (by show τ.1 ≠ 201; omega))]; exact lo τ h,
                by show upd AA (202, 0) (some (.co 1 ((textsD l.recs).length + 1))) (202, 0) = some (.co 1 (textsD (l.recs ++ [s])).length); rw [upd_same, w12, List.length_append]; rfl, by show (l.recs ++ [s]).length ≤ i + 1; rw [List.length_append, List.length_singleton]; omega, hp.append s (by omega)⟩
            repeat' (first
              | with_reducible refine VC_seq fun K hK => ?_
              | with_reducible refine W_region ?_
              | with_reducible refine VC_block ?_
              | with_reducible refine VC_scope ?_
              | with_reducible refine VC_if ?_
              | with_reducible refine VC_skip ?_
              | with_reducible refine VC_exit ?_
              | with_reducible refine VC_ret ?_
              | (with_reducible refine G_not (fun h => ?_) (fun h => ?_) <;> (try simp only [h]))
              | (with_reducible refine G_cases (fun h => ?_) (fun h => ?_) <;> (try simp only [h]))
              | refine C_call rfl ea rfl hab1 ?_
              | refine W_own Try.appT rfl (szd_texts _) (szOne rfl) hb16 haa ?_
              | (with_reducible refine hK _ ?_; clear hK K)
              | (clear hK K; with_reducible refine hK _ ?_; clear hK K)
              | (clear hK K; clear hK K; with_reducible refine hK _ ?_; clear hK K)
              | (clear hK K; clear hK K; clear hK K; with_reducible refine hK _ ?_; clear hK K)
              | (with_reducible refine todo ?_; simp +decide only [go_sem, f1, f3, hg, hnx]))
            exact RI.fin hnew q1 rfl rfl (by show _ = PV.c (.own (202, 0) (textsD (l.recs ++ [s]))); rw [w12]; rfl) rfl rfl rfl rfl rfl rfl
          · have ea := Try.kAppendF 1000 L.wf g s4 s (by omega) (by omega) (by omega) (by omega)
            repeat' (first
              | with_reducible refine VC_seq fun K hK => ?_
              | with_reducible refine W_region ?_
              | with_reducible refine VC_block ?_
              | with_reducible refine VC_scope ?_
              | with_reducible refine VC_if ?_
              | with_reducible refine VC_skip ?_
              | with_reducible refine VC_exit ?_
              | with_reducible refine VC_ret ?_
              | (with_reducible refine G_not (fun h => ?_) (fun h => ?_) <;> (try simp only [h]))
              | (with_reducible refine G_cases (fun h => ?_) (fun h => ?_) <;> (try simp only [h]))
              | refine C_call rfl ea rfl hab1 ?_
              | (with_reducible refine hK _ ?_; clear hK K)
              | (clear hK K; with_reducible refine hK _ ?_; clear hK K)
              | (clear hK K; clear hK K; with_reducible refine hK _ ?_; clear hK K)
              | (clear hK K; clear hK K; clear hK K; with_reducible refine hK _ ?_; clear hK K)
              | (with_reducible refine todo ?_; simp +decide only [go_sem, f1, f3, hg, hnx, z30]))
            exact RI.fin hsame q1 rfl rfl rfl rfl rfl rfl rfl rfl rfl
        · have f3 : ((s.length : Int) < 500) = False := eq_false (by omega)
          repeat' (first
            | with_reducible refine VC_seq fun K hK => ?_
            | with_reducible refine W_region ?_
            | with_reducible refine VC_block ?_
            | with_reducible refine VC_scope ?_
            | with_reducible refine VC_if ?_
            | with_reducible refine VC_skip ?_
            | with_reducible refine VC_exit ?_
            | with_reducible refine VC_ret ?_
            | (with_reducible refine G_not (fun h => ?_) (fun h => ?_) <;> (try simp only [h]))
            | (with_reducible refine G_cases (fun h => ?_) (fun h => ?_) <;> (try simp only [h]))
            | (with_reducible refine hK _ ?_; clear hK K)
            | (clear hK K; with_reducible refine hK _ ?_; clear hK K)
            | (clear hK K; clear hK K; with_reducible refine hK _ ?_; clear hK K)
            | (clear hK K; clear hK K; clear hK K; with_reducible refine hK _ ?_; clear hK K)
            | (with_reducible refine todo ?_; simp +decide only [go_sem, f1, f3, hg, hnx]))
          exact RI.fin hsame q1 rfl rfl rfl rfl rfl rfl rfl rfl rfl
      · have f1 : ((i : Int) < ((textsD ls).length : Int)) = False := eq_false (by rw [hll]; omega)
        have c1 : IntKind.i64.wrap (n : Int) = (n : Int) := Go.IntWalk.i64_in _ (by omega)
        have c2 : Int.tmod (n : Int) 3 = ((n % 3 : Nat) : Int) := tmod_nat n 3
        have hq3 : n % 3 < 3 := by omega
        generalize n % 3 = q at *
        obtain ⟨HB, AB, eb, LB, gB, _, fB, _⟩ := Try.sCommit L (by omega) g s4 (by omega) (by omega) s7
        have gB := gB _ _ _ g
        obtain ⟨HF, AF, ef, hAF, LF, fF⟩ := Try.sFuse LB (by rw [show (flD d).n = d.n from rfl]; omega) ((q : Nat) : Int)
        subst hAF
        have gF : LgAt HF AF 201 200 (201, 0) l := gB.mv (fF 201 (by omega)) rfl
        have loB : ∀ τ : Tok, τ.1 < 200 → AF τ = none := fun τ h => by rw [fB τ (tok_ne (by show τ.1 ≠ 200; omega)) (by omega)]; exact lo τ h
        have hfn : (fuseD (flD d) ((q : Nat) : Int)).n = 40 := s6
        have hfc : (fuseD (flD d) ((q : Nat) : Int)).cache.length = 0 := rfl
        -- the Reset
        obtain ⟨gR, HR, AR, kR, κR, dR, eR, LR, hk1, hk2, loR, hdn, hdc, hout⟩ : ∃ gR HR AR kR κR dR, EffOK Try.prog 17 1000 HF AF [.c (.ptr 201 0)] (pD (.lit (.int .i64 gR))) HR AR ∧ LW HR AR kR 200 (200, 0) κR dR ∧ 203 ≤ kR ∧ kR ≤ 300 ∧ (∀ τ : Tok, τ.1 < 200 → AR τ = none) ∧ dR.n = 40 ∧ dR.cache.length ≤ 1 ∧ RRes l dR gR := by
          have hq : q = 0 ∨ q = 1 ∨ q = 2 := by omega
          rcases hq with rfl | rfl | rfl
          · obtain ⟨HR, AR, eR, hAR, LR⟩ := Try.sResetB0 LF gF s4 (by omega) (by omega) (by omega) rfl
            subst hAR
            exact ⟨6, HR, AR, _, _, _, eR, LR, by omega, by omega, loB, hfn, by omega, hp.res0 _⟩
          · obtain ⟨HR, AR, eR, LR, fR⟩ := Try.sResetB1 LF gF s4 (by omega) (by omega) (by omega) (by omega) rfl rfl
            rw [s1, s3] at LR
            exact ⟨6, HR, AR, _, _, _, eR, LR, by omega, by omega, fun τ h => by rw [fR τ (tok_ne (by show τ.1 ≠ 203; omega))]; exact loB τ h, hfn, by show (_ ++ [_]).length ≤ 1; rw [List.length_append]; exact Nat.le_refl _, hp.res1 _⟩
          · obtain ⟨HR, AR, eR, LR, _, _, _, fR, _⟩ := Try.sResetG LF (by omega) gF s4 (by omega) (by omega) (by omega) (by omega) rfl rfl
            rw [s1, s3] at LR
            exact ⟨0, HR, AR, _, _, _, eR, LR, by omega, by omega, fun τ h => by rw [fR τ (tok_ne (by show τ.1 ≠ 200; omega)) (tok_ne (by show τ.1 ≠ 203; omega)) (by omega)]; exact loB τ h, hfn, Nat.zero_le _, hp.res2 _⟩
        have kd := Try.kDirty 1000 LR.wf LR.dk (by omega) (by omega)
        have hdl : (ints (dR.cache.map (·.1))).length = dR.cache.length := by simp [ints]
        have hbl : (bools keep).length = keep.length := by simp [bools]
        obtain ⟨HD, AD, ed, LD, _, _, fD, _⟩ := Try.sCrash LR (by omega) (by omega) (keep.take (min keep.length dR.cache.length)) (by rw [List.length_take]; omega)
        obtain ⟨t0, b0, t1, b1, R, o1, o2⟩ := hout (keep.take (min keep.length dR.cache.length))
        obtain ⟨HE, AE, ee, LE, gE, _, _, fE, _⟩ := Try.sOpen LD (by omega) o1 rfl
        generalize opL 0 40 t0 b0 t1 b1 R = l2 at *
        generalize nextD (crD dR (keep.take (min keep.length dR.cache.length))) 0 (opT t0 t1 + 1) (opB t0 b0 t1 b1) = d2 at *
        have hab2 : Above (0 + 1000) HB AF := Above_mono LB.ab (by omega)
        have hab3 : Above (0 + 1000) HF AF := Above_mono LF.ab (by omega)
        have hab4 : Above (0 + 1000) HR AR := Above_mono LR.ab (by omega)
        have hab5 : Above (0 + 1000) HD AD := Above_mono LD.ab (by omega)
        have hab6 : Above (0 + 1000) HE AE := Above_mono LE.ab (by omega)
        have loE : ∀ τ : Tok, τ.1 < 200 → AE τ = none := fun τ h => by
          rw [fE τ (tok_ne (by show τ.1 ≠ 200; omega)) (tok_ne (by show τ.1 ≠ kR; omega)) (by omega), fD τ (tok_ne (by show τ.1 ≠ 200; omega)) (by omega)]; exact loR τ h
        have hsb : (bools keep).take (min keep.length dR.cache.length - 0) = bools (keep.take (min keep.length dR.cache.length)) := by
          rw [Nat.sub_zero]; exact (List.map_take).symm
        have hmin : (if (dR.cache.length : Int) < (keep.length : Int) then (dR.cache.length : Int) else (keep.length : Int)) = ((min keep.length dR.cache.length : Nat) : Int) := by split <;> omega
        have hr2 := textsD_len l2.recs
        have eg := Try.kGen 1000 LE.wf gE
        have er := Try.kRecords 1000 LE.wf gE (by rcases o2 with ⟨_, x1, _⟩ | ⟨_, ⟨x1, _⟩ | ⟨x1, _⟩⟩ <;> rw [x1] <;> first | (simp; done) | omega)
        have v3 : (((textsD []).length : Int) == 0) = true := rfl
        have v2 : (((3 : Nat) : Int) == 3) = true := rfl
        have v4 : (((2 : Nat) : Int) == 3) = false := rfl
        have v5 : (((2 : Nat) : Int) == 2) = true := rfl
        rcases o2 with ⟨rfl, x1, x2⟩ | ⟨rfl, ⟨x1, x2⟩ | ⟨x1, x2⟩⟩ <;> rw [x1] at er <;> rw [x2] at eg
        · repeat' (first
            | with_reducible refine VC_seq fun K hK => ?_
            | with_reducible refine W_region ?_
            | with_reducible refine VC_block ?_
            | with_reducible refine VC_scope ?_
            | with_reducible refine VC_if ?_
            | with_reducible refine VC_skip ?_
            | with_reducible refine VC_exit ?_
            | with_reducible refine VC_ret ?_
            | (with_reducible refine G_not (fun h => ?_) (fun h => ?_) <;> (try simp only [h]))
            | (with_reducible refine G_cases (fun h => ?_) (fun h => ?_) <;> (try simp only [h]))
            | refine C_call rfl eb rfl hab1 ?_
            | refine C_call rfl ef rfl hab2 ?_
            | refine C_call rfl eR rfl hab3 ?_
            | refine C_quiet rfl rfl kd rfl hab4 ?_
            | refine C_call rfl ed rfl hab4 ?_
            | refine C_call rfl ee rfl hab5 ?_
            | refine C_call rfl er rfl hab6 ?_
            | refine C_call rfl eg rfl hab6 ?_
            | refine C_pure e0 rfl rfl (fun q => loE _ (Nat.le_of_ble_eq_true rfl)) ?_
            | (refine W_slc (els := bools keep) (l := 0) (h := min keep.length dR.cache.length) Try.appB rfl rfl (by simp [optNat, natOf?, intOf?]) (Nat.zero_le _) (by rw [hbl]; exact Nat.min_le_left _ _) (fun e he => by obtain ⟨w, _, rfl⟩ := List.mem_map.1 he; rfl) ?_)
            | (with_reducible refine hK _ ?_; clear hK K)
            | (clear hK K; with_reducible refine hK _ ?_; clear hK K)
            | (clear hK K; clear hK K; with_reducible refine hK _ ?_; clear hK K)
            | (clear hK K; clear hK K; clear hK K; with_reducible refine hK _ ?_; clear hK K)
            | (with_reducible refine todo ?_; simp +decide only [go_sem, f1, c1, c2, hdl, hbl, hsb, hmin, zne, v2, v3]))
          exact RetR_same rfl (by simp +decide only [go_sem]) True.intro wf0 (fun i h => (h rfl).elim) (fun i h => (h rfl).elim)
        · repeat' (first
            | with_reducible refine VC_seq fun K hK => ?_
            | with_reducible refine W_region ?_
            | with_reducible refine VC_block ?_
            | with_reducible refine VC_scope ?_
            | with_reducible refine VC_if ?_
            | with_reducible refine VC_skip ?_
            | with_reducible refine VC_exit ?_
            | with_reducible refine VC_ret ?_
            | (with_reducible refine G_not (fun h => ?_) (fun h => ?_) <;> (try simp only [h]))
            | (with_reducible refine G_cases (fun h => ?_) (fun h => ?_) <;> (try simp only [h]))
            | refine C_call rfl eb rfl hab1 ?_
            | refine C_call rfl ef rfl hab2 ?_
            | refine C_call rfl eR rfl hab3 ?_
            | refine C_quiet rfl rfl kd rfl hab4 ?_
            | refine C_call rfl ed rfl hab4 ?_
            | refine C_call rfl ee rfl hab5 ?_
            | refine C_call rfl er rfl hab6 ?_
            | refine C_call rfl eg rfl hab6 ?_
            | refine C_pure e0 rfl rfl (fun q => loE _ (Nat.le_of_ble_eq_true rfl)) ?_
            | (refine W_slc (els := bools keep) (l := 0) (h := min keep.length dR.cache.length) Try.appB rfl rfl (by simp [optNat, natOf?, intOf?]) (Nat.zero_le _) (by rw [hbl]; exact Nat.min_le_left _ _) (fun e he => by obtain ⟨w, _, rfl⟩ := List.mem_map.1 he; rfl) ?_)
            | (with_reducible refine hK _ ?_; clear hK K)
            | (clear hK K; with_reducible refine hK _ ?_; clear hK K)
            | (clear hK K; clear hK K; with_reducible refine hK _ ?_; clear hK K)
            | (clear hK K; clear hK K; clear hK K; with_reducible refine hK _ ?_; clear hK K)
            | (with_reducible refine todo ?_; simp +decide only [go_sem, f1, c1, c2, hdl, hbl, hsb, hmin, zne, z6e, v2, v3]))
          exact RetR_same rfl (by simp +decide only [go_sem]) True.intro wf0 (fun i h => (h rfl).elim) (fun i h => (h rfl).elim)
        · have e9 := Try.kTexts l.recs l.recs (by omega)
          rw [show (l.recs == l.recs) = true by simp] at e9
          unfold tx at e9
          cases hz : ((l.recs.length : Int) == 0) with
          | true =>
            repeat' (first
              | with_reducible refine VC_seq fun K hK => ?_
              | with_reducible refine W_region ?_
              | with_reducible refine VC_block ?_
              | with_reducible refine VC_scope ?_
              | with_reducible refine VC_if ?_
              | with_reducible refine VC_skip ?_
              | with_reducible refine VC_exit ?_
              | with_reducible refine VC_ret ?_
              | (with_reducible refine G_not (fun h => ?_) (fun h => ?_) <;> (try simp only [h]))
              | (with_reducible refine G_cases (fun h => ?_) (fun h => ?_) <;> (try simp only [h]))
              | refine C_call rfl eb rfl hab1 ?_
              | refine C_call rfl ef rfl hab2 ?_
              | refine C_call rfl eR rfl hab3 ?_
              | refine C_quiet rfl rfl kd rfl hab4 ?_
              | refine C_call rfl ed rfl hab4 ?_
              | refine C_call rfl ee rfl hab5 ?_
              | refine C_call rfl er rfl hab6 ?_
              | refine C_call rfl eg rfl hab6 ?_
              | refine C_pure e9 rfl rfl (fun q => loE _ (Nat.le_of_ble_eq_true rfl)) ?_
              | refine C_pure e0 rfl rfl (fun q => loE _ (Nat.le_of_ble_eq_true rfl)) ?_
              | (refine W_slc (els := bools keep) (l := 0) (h := min keep.length dR.cache.length) Try.appB rfl rfl (by simp [optNat, natOf?, intOf?]) (Nat.zero_le _) (by rw [hbl]; exact Nat.min_le_left _ _) (fun e he => by obtain ⟨w, _, rfl⟩ := List.mem_map.1 he; rfl) ?_)
              | (with_reducible refine hK _ ?_; clear hK K)
              | (clear hK K; with_reducible refine hK _ ?_; clear hK K)
              | (clear hK K; clear hK K; with_reducible refine hK _ ?_; clear hK K)
              | (clear hK K; clear hK K; clear hK K; with_reducible refine hK _ ?_; clear hK K)
              | (with_reducible refine todo ?_; simp +decide only [go_sem, f1, c1, c2, hdl, hbl, hsb, hmin, zne, z6e, hrl, hz, v4, v5]))
            exact RetR_same rfl (by simp +decide only [go_sem]) True.intro wf0 (fun i h => (h rfl).elim) (fun i h => (h rfl).elim)
          | false =>
            repeat' (first
              | with_reducible refine VC_seq fun K hK => ?_
              | with_reducible refine W_region ?_
              | with_reducible refine VC_block ?_
              | with_reducible refine VC_scope ?_
              | with_reducible refine VC_if ?_
              | with_reducible refine VC_skip ?_
              | with_reducible refine VC_exit ?_
              | with_reducible refine VC_ret ?_
              | (with_reducible refine G_not (fun h => ?_) (fun h => ?_) <;> (try simp only [h]))
              | (with_reducible refine G_cases (fun h => ?_) (fun h => ?_) <;> (try simp only [h]))
              | refine C_call rfl eb rfl hab1 ?_
              | refine C_call rfl ef rfl hab2 ?_
              | refine C_call rfl eR rfl hab3 ?_
              | refine C_quiet rfl rfl kd rfl hab4 ?_
              | refine C_call rfl ed rfl hab4 ?_
              | refine C_call rfl ee rfl hab5 ?_
              | refine C_call rfl er rfl hab6 ?_
              | refine C_call rfl eg rfl hab6 ?_
              | refine C_pure e9 rfl rfl (fun q => loE _ (Nat.le_of_ble_eq_true rfl)) ?_
              | refine C_pure e0 rfl rfl (fun q => loE _ (Nat.le_of_ble_eq_true rfl)) ?_
              | (refine W_slc (els := bools keep) (l := 0) (h := min keep.length dR.cache.length) Try.appB rfl rfl (by simp [optNat, natOf?, intOf?]) (Nat.zero_le _) (by rw [hbl]; exact Nat.min_le_left _ _) (fun e he => by obtain ⟨w, _, rfl⟩ := List.mem_map.1 he; rfl) ?_)
              | (with_reducible refine hK _ ?_; clear hK K)
              | (clear hK K; with_reducible refine hK _ ?_; clear hK K)
              | (clear hK K; clear hK K; with_reducible refine hK _ ?_; clear hK K)
              | (clear hK K; clear hK K; clear hK K; with_reducible refine hK _ ?_; clear hK K)
              | (with_reducible refine todo ?_; simp +decide only [go_sem, f1, c1, c2, hdl, hbl, hsb, hmin, zne, z6e, hrl, hz, v5]))
            exact RetR_same rfl (by simp +decide only [go_sem]) True.intro wf0 (fun i h => (h rfl).elim) (fun i h => (h rfl).elim)
end Go.Proofs
