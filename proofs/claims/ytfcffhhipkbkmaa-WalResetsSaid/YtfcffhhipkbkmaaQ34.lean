import Derived.Test.YtfcffhhipkbkmaaQ33

/-
  WalLives: the law's body.
-/

namespace Go.Proofs
open Go.PW
theorem z01 : ((0 : Int) == 1) = false := rfl
set_option maxRecDepth 8000 in
set_option maxHeartbeats 64000000 in
theorem Try.kLives (ops : List OpW) : PureOK Try.prog 6 [.c (.d (.sl (opsD ops)))] (.one (.d (.lit (.bool true)))) := by
  have e0 := Try.kKnown
  obtain ⟨H1, A1, e1, L1, r1, r2⟩ := Try.sNew 200 40 (by omega) (by omega)
  obtain ⟨H2, A2, e2, L2, g2, _, r3, r4, r5⟩ := Try.sOpen L1 (by omega) (op_new (f := 1) (n := 39) (N := 40) (by omega) (by omega) (by omega) (by omega)) rfl
  rw [opL_new] at g2
  have L2 : LW H2 A2 202 200 (200, 0) (201, 1) (nextD (newD 40) 1 1 0) := L2
  have hll := opsD_len ops
  have n2 : A2 (202, 0) = none := (L2.ab 202 (by omega)).2 0
  have hA2 : ∀ τ, A2 τ ≠ none → upd A2 (202, 0) (some (.co 1 0)) τ = A2 τ := fun τ h => upd_other _ _ (fun e => h (by rw [e]; exact n2))
  have hy0 : LV ⟨0, 203, 201, (201, 0), (201, 1), (202, 0), H2, upd A2 (202, 0) (some (.co 1 0)), ⟨1, 37, 1, 0, 0, [], false⟩, nextD (newD 40) 1 1 0, 0⟩ := by
    refine ⟨⟨Wf_arr L2.wf upd_keep, Above_updA (Above_mono L2.ab (by show 202 ≤ 203; omega)) (by show 202 < 203; omega), L2.dk.h, ?_, ?_⟩, g2.mv rfl ?_, fun j hj => ⟨?_, fun q => ?_⟩, by show upd A2 (202, 0) (some (.co 1 0)) (202, 0) = _; rw [upd_same]; rfl, ⟨tok_ne (by show 202 ≠ 201; omega), tok_ne (by show 202 ≠ 201; omega), tok_ne (by show 202 ≠ 200; omega)⟩, ⟨by show 202 ≤ 203; omega, by show 203 ≤ 203 + 4 * 0; omega⟩, by show 0 ≤ 60; omega, ?_⟩
    · show upd A2 (202, 0) (some (.co 1 0)) (200, 0) = _
      rw [upd_other _ _ (tok_ne (by show 200 ≠ 202; omega))]; exact L2.dk.m
    · show upd A2 (202, 0) (some (.co 1 0)) (201, 1) = _
      rw [upd_other _ _ (tok_ne (by show 201 ≠ 202; omega))]; exact L2.dk.c
    · show upd A2 (202, 0) (some (.co 1 0)) (201, 0) = _
      rw [upd_other _ _ (tok_ne (by show 201 ≠ 202; omega))]
    · show H2 j = none
      rw [r3 j (by omega) (by omega)]; exact r1 j (by omega)
    · show upd A2 (202, 0) (some (.co 1 0)) (j, q) = none
      have nj : ∀ m p, j ≠ m → (j, q) ≠ ((m, p) : Tok) := fun m p h => tok_ne h
      rw [upd_other _ _ (nj 202 0 (by omega)), r4 _ (nj 200 0 (by omega)) (nj 200 1 (by omega)) (by show j < 201; omega)]; exact r2 _ (by show j ≠ 200; omega)
    · exact ⟨1, 0, [], [], _, PI.fresh (by omega) (by omega) (by omega) (by omega), rfl, rfl, rfl, by omega, rfl⟩
  refine pure_eff rfl (effr_ok (E := envOf Try.prog [22, 14, 15, 16, 23, 18, 17, 2000000 + 24] 0 [] []) (envOf_ok Try.mixed) Try.func6 rfl Try.call6 (by kernel_rfl) (by exact Nat.le_of_ble_eq_true rfl) (fun hab => ?_))
  repeat' (first
    | with_reducible refine VC_seq fun K hK => ?_
    | with_reducible refine W_region ?_
    | with_reducible refine VC_block ?_
    | with_reducible refine VC_scope ?_
    | with_reducible refine VC_if ?_
    | with_reducible refine VC_skip ?_
    | with_reducible refine VC_exit ?_
    | with_reducible refine VC_ret ?_
    | (with_reducible refine G_not (fun h => ?_) (fun h => ?_) <;> (try simp only [h]))
    | (with_reducible refine G_cases (fun h => ?_) (fun h => ?_) <;> (try simp only [h]))
    | refine C_call rfl e1 rfl (Above_mono hab (by omega)) ?_
    | refine C_call rfl e2 rfl (Above_mono L1.ab (by omega)) ?_
    | (with_reducible refine hK _ ?_; clear hK K)
    | (clear hK K; with_reducible refine hK _ ?_; clear hK K)
    | (clear hK K; clear hK K; with_reducible refine hK _ ?_; clear hK K)
    | (clear hK K; clear hK K; clear hK K; with_reducible refine hK _ ?_; clear hK K)
    | (with_reducible refine todo ?_; simp +decide only [go_sem, zne]))
  refine VC_while (ι := LSt) LV (FrL ops) (fun y => 60 - y.i) ⟨0, 203, 201, (201, 0), (201, 1), (202, 0), H2, upd A2 (202, 0) (some (.co 1 0)), ⟨1, 37, 1, 0, 0, [], false⟩, nextD (newD 40) 1 1 0, 0⟩ hy0 ?_ ?_
  · have w1 : ∀ {X Y : AMap}, PV.wk (hOver [] H2) X Y (.c (.ptr 200 0)) (.c (.ptr 200 0)) = True := eq_true (wkP_ptr (by show H2 200 ≠ none; rw [L2.dk.h]; simp))
    have w2 := fun {X Y : AMap} => g2.ptr (A1 := X) (A2 := Y)
    have w3 : PV.wk (hOver [] H2) A2 (upd A2 (202, 0) (some (.co 1 0))) (.c (.own (202, 0) (textsD []))) (.c (.full [])) = True := eq_true (wkP_new n2 (upd_same _ _ _))
    refine Weak_gen L2.wf (fun _ _ => rfl) hA2 (fun τ h => ?_) ?_
    · show upd A2 (202, 0) (some (.co 1 0)) τ = none ∨ _
      by_cases e : τ = (202, 0)
      · exact .inr ⟨1, by show upd A2 (202, 0) (some (.co 1 0)) τ = _; rw [e, upd_same]⟩
      · rw [upd_other _ _ e]; exact .inl h
    · simp +decide only [go_sem, w1, w2, w3]
  · rintro y hy
    obtain ⟨i, k, lid, κr, κc, κa, H, A, l, d, sure⟩ := y
    have L := hy.L
    have g := hy.g
    have lo := hy.lo
    have ha := hy.a
    obtain ⟨na1, na2, na3⟩ := hy.na
    obtain ⟨k1, k2⟩ := hy.k0
    have hi := hy.hi
    obtain ⟨s1, s2, s3, s4, s5, s6, s7, s8, s9, s10⟩ := hy.p.spec
    simp only at L g lo ha na1 na2 na3 k1 k2 hi s1 s2 s3 s4 s5 s6 s7 s8 s9 s10
    have h10 : H 10 = none := (lo 10 (by omega)).1
    have hnx : IntKind.i64.wrap ((i : Int) + 1) = ((i + 1 : Nat) : Int) := by rw [Go.IntWalk.i64_in _ (by omega)]; omega
    unfold FrL
    by_cases q1 : i < ops.length
    · have f1 : ((i : Int) < ((opsD ops).length : Int)) = True := eq_true (by rw [hll]; omega)
      have hg := opsD_get q1
      generalize ops[i] = o at hg
      by_cases q2 : i < 60
      · have f2 : ((i : Int) < 60) = True := eq_true (by omega)
        obtain ⟨L', g'⟩ := hy.loc o
        simp only at L' g'
        have hl200 : 200 ≤ lid := Nat.le_of_not_lt fun h => by have := g.h; rw [(lo _ h).1] at this; cases this
        have hab1 : Above (0 + 1000) (upd H 10 (some (oC o))) A := Above_mono L'.ab (by omega)
        have hst := hy.next (c := oC o) (A'' := A) L' g' g' (fun j _ _ _ => rfl) (fun τ h => h) hl200 (fun _ _ => rfl) (Above_mono L'.ab (Nat.le_refl k)) (fun τ h => (lo τ.1 h).2 τ.2) ha ⟨na1, na2, na3⟩ ⟨k1, by show k ≤ 203 + 4 * (i + 1); omega⟩ q2 (hy.p.mono (Nat.le_succ i))
        have w8 : PV.wk (hOver [] (upd (upd H 10 (some (oC o))) 10 none)) A A (.c (.own κa (textsD l.recs))) (.c (.own κa (textsD l.recs))) := wkP_own (by rw [ha]; simp) rfl
        have hfinS : ∀ {S : St}, S.H = upd H 10 (some (oC o)) → S.A = A → S.ρ 8 = .c (.own κa (textsD l.recs)) → S.ρ 0 = .c (.d (.sl (opsD ops))) → S.ρ 3 = .c (.ptr 200 0) → S.ρ 5 = .c (.ptr lid 0) → S.ρ 7 = pD (.lit (.int .i64 sure)) → S.ρ 9 = pD (.lit (.int .i64 (i + 1 : Nat))) → _ := fun {S} x1 x2 x3 x4 x5 x6 x7 x8 => LV.fin (ops := ops) (i' := i) hst q2 rfl x1 x2 (fun _ _ => rfl) (fun _ h => .inl h) (by rw [x3]; exact w8) x4 x5 x6 x7 x8
        have hka : κa.1 < k := Nat.lt_of_not_le fun h => by rw [(L.ab κa.1 h).2 κa.2] at ha; cases ha
        have lokr : ∀ τ : Tok, τ.1 < 200 → τ ≠ κr ∧ τ ≠ κc ∧ τ ≠ κa ∧ τ ≠ (200, 0) := fun τ h => by
          have hz := (lo τ.1 h).2 τ.2
          exact ⟨(fun e => by have h2 := g.r; rw [← e, hz] at h2; cases h2), (fun e => by have h2 := L.dk.c; rw [← e, hz] at h2; cases h2), (fun e => by have h2 := ha; rw [← e, hz] at h2; cases h2), tok_ne (by show τ.1 ≠ 200; omega)⟩
        have hrl := textsD_len l.recs
        have o10 : upd H 10 (some (oC o)) 10 = some (oC o) := upd_same _ _ _
        by_cases k0 : o.kind = 0
        · have p0 : (o.kind == 0) = true := by rw [k0]; rfl
          have p1 : (o.kind == 1) = false := by rw [k0]; rfl
          have p2 : (o.kind == 2) = false := by rw [k0]; rfl
          have p3 : (o.kind != 3) = true := by rw [k0]; rfl
          by_cases qs : o.s.length < 1000
          · have fs : ((o.s.length : Int) < 1000) = True := eq_true (by omega)
            by_cases q4 : l.used + needN o.s.length ≤ l.places
            · obtain ⟨HA, AA, ea, LA, gA, _, fH, fA, fK⟩ := Try.sAppend L' g' s4 o.s (by omega) q4 (by omega) (by omega) (by omega) (by omega) (by omega) (by omega) s7
              have haa : AA κa = some (.co 1 (textsD l.recs).length) := by rw [fA κa na2 na1]; exact ha
              have hb16 : ∀ {y : List D}, ((textsD l.recs).length + [y].length) * 16 ≤ 140737488355328 := by
                intro y
                rw [hrl, List.length_singleton]; omega
              have LA3 := LA.tok (κ := κa) (x := .co 1 ((textsD l.recs).length + 1)) na3 na2 hka
              have gA3 := gA.mv (H' := HA) (A' := upd AA κa (some (.co 1 ((textsD l.recs).length + 1)))) rfl (upd_other _ _ na1.symm)
              have hnx2 := hy.next (c := oC o) (A'' := upd AA κa (some (.co 1 ((textsD l.recs).length + 1)))) LA3 gA3 gA3 (fun j x1 x2 _ => fH j x1 x2) (fun τ h => upd_keep τ (fK τ h)) hl200 (fun _ _ => rfl) LA3.ab (fun τ h => by
                obtain ⟨z1, z2, z3, _⟩ := lokr τ h
                rw [upd_other _ _ z3, fA τ z2 z1]; exact (lo τ.1 h).2 τ.2) (by rw [upd_same, textsD_app, List.length_append]; rfl) ⟨na1, na2, na3⟩ ⟨k1, by show k ≤ 203 + 4 * (i + 1); omega⟩ q2 ((hy.p.append o.s (by show l.used + _ ≤ 37; rw [partsL_len]; omega)).mono (Nat.le_succ i))
              have h8 : PV.wk (hOver [] (upd HA 10 none)) (upd AA κa (some (.co 1 ((textsD l.recs).length + 1)))) (upd AA κa (some (.co 1 ((textsD l.recs).length + 1)))) (.c (.own κa (textsD (l.recs ++ [o.s])))) (.c (.own κa (textsD l.recs ++ [[dS o.s]]))) := by
                rw [textsD_app]
                exact wkP_own (by rw [upd_same]; simp) rfl
              have hA10 : HA 10 = some (oC o) := by rw [fH 10 (by omega) (by omega)]; exact o10
              unfold oC at ea hab1 hA10
              repeat' (first
                | with_reducible refine VC_seq fun K hK => ?_
                | with_reducible refine W_region ?_
                | with_reducible refine VC_block ?_
                | with_reducible refine VC_scope ?_
                | with_reducible refine VC_if ?_
                | with_reducible refine VC_skip ?_
                | with_reducible refine VC_exit ?_
                | with_reducible refine VC_ret ?_
                | (with_reducible refine G_not (fun h => ?_) (fun h => ?_) <;> (try simp only [h]))
                | (with_reducible refine G_cases (fun h => ?_) (fun h => ?_) <;> (try simp only [h]))
                | refine And.intro h10 ?_
                | refine C_call rfl ea rfl hab1 ?_
                | refine W_own Try.appT rfl (szd_texts _) (szOne rfl) hb16 haa ?_
                | (with_reducible refine hK _ ?_; clear hK K)
                | (clear hK K; with_reducible refine hK _ ?_; clear hK K)
                | (clear hK K; clear hK K; with_reducible refine hK _ ?_; clear hK K)
                | (clear hK K; clear hK K; clear hK K; with_reducible refine hK _ ?_; clear hK K)
                | (with_reducible refine todo ?_; simp +decide only [go_sem, f1, f2, hg, h10, hnx, upd_twice, p0, p1, p2, p3, fs, hA10]))
              exact LV.fin (ops := ops) hnx2 q2 rfl rfl rfl (fun _ _ => rfl) (fun _ h => .inl h) h8 rfl rfl rfl rfl rfl
            · have ea := Try.kAppendF 1000 L'.wf g' s4 o.s (by omega) (by omega) (by omega) (by omega)
              unfold oC at ea hab1
              repeat' (first
                | with_reducible refine VC_seq fun K hK => ?_
                | with_reducible refine W_region ?_
                | with_reducible refine VC_block ?_
                | with_reducible refine VC_scope ?_
                | with_reducible refine VC_if ?_
                | with_reducible refine VC_skip ?_
                | with_reducible refine VC_exit ?_
                | with_reducible refine VC_ret ?_
                | (with_reducible refine G_not (fun h => ?_) (fun h => ?_) <;> (try simp only [h]))
                | (with_reducible refine G_cases (fun h => ?_) (fun h => ?_) <;> (try simp only [h]))
                | refine And.intro h10 ?_
                | refine C_call rfl ea rfl hab1 ?_
                | (with_reducible refine hK _ ?_; clear hK K)
                | (clear hK K; with_reducible refine hK _ ?_; clear hK K)
                | (clear hK K; clear hK K; with_reducible refine hK _ ?_; clear hK K)
                | (clear hK K; clear hK K; clear hK K; with_reducible refine hK _ ?_; clear hK K)
                | (with_reducible refine todo ?_; simp +decide only [go_sem, f1, f2, hg, h10, hnx, upd_twice, p0, p1, p2, p3, fs, z30]))
              exact hfinS rfl rfl rfl rfl rfl rfl rfl rfl
          · have fs : ((o.s.length : Int) < 1000) = False := eq_false (by omega)
            repeat' (first
              | with_reducible refine VC_seq fun K hK => ?_
              | with_reducible refine W_region ?_
              | with_reducible refine VC_block ?_
              | with_reducible refine VC_scope ?_
              | with_reducible refine VC_if ?_
              | with_reducible refine VC_skip ?_
              | with_reducible refine VC_exit ?_
              | with_reducible refine VC_ret ?_
              | (with_reducible refine G_not (fun h => ?_) (fun h => ?_) <;> (try simp only [h]))
              | (with_reducible refine G_cases (fun h => ?_) (fun h => ?_) <;> (try simp only [h]))
              | refine And.intro h10 ?_
              | (with_reducible refine hK _ ?_; clear hK K)
              | (clear hK K; with_reducible refine hK _ ?_; clear hK K)
              | (clear hK K; clear hK K; with_reducible refine hK _ ?_; clear hK K)
              | (clear hK K; clear hK K; clear hK K; with_reducible refine hK _ ?_; clear hK K)
              | (with_reducible refine todo ?_; simp +decide only [go_sem, f1, f2, hg, h10, hnx, upd_twice, p0, p1, p2, p3, fs]))
            exact hfinS rfl rfl rfl rfl rfl rfl rfl rfl
        · have p0 : (o.kind == 0) = false := by simpa using k0
          by_cases k1 : o.kind = 1
          · have p1 : (o.kind == 1) = true := by rw [k1]; rfl
            have p2 : (o.kind == 2) = false := by rw [k1]; rfl
            have p3 : (o.kind != 3) = true := by rw [k1]; rfl
            obtain ⟨HB, AB, eb, LB, gB, fH, fA, fK⟩ := Try.sCommit L' (by omega) g' s4 (by omega) (by omega) s7
            have gB := gB _ _ _ g'
            have hnx2 := hy.next (c := oC o) (A'' := AB) LB gB gB (fun j x1 _ _ => fH j x1) fK hl200 (fun _ _ => rfl) LB.ab (fun τ h => by
              obtain ⟨_, _, _, z4⟩ := lokr τ h
              rw [fA τ z4 (by omega)]; exact (lo τ.1 h).2 τ.2) (by rw [fA κa na3 hka]; exact ha) ⟨na1, tok_ne (by show κa.1 ≠ k; omega), na3⟩ ⟨by show 202 ≤ k + 1; omega, by show k + 1 ≤ 203 + 4 * (i + 1); omega⟩ q2 (hy.p.commit.mono (Nat.le_succ i))
            have h8 : PV.wk (hOver [] (upd HB 10 none)) AB AB (.c (.own κa (textsD l.recs))) (.c (.own κa (textsD l.recs))) := wkP_own (by rw [fA κa na3 hka, ha]; simp) rfl
            have hA10 : HB 10 = some (oC o) := by rw [fH 10 (by omega)]; exact o10
            unfold oC at eb hab1 hA10
            repeat' (first
              | with_reducible refine VC_seq fun K hK => ?_
              | with_reducible refine W_region ?_
              | with_reducible refine VC_block ?_
              | with_reducible refine VC_scope ?_
              | with_reducible refine VC_if ?_
              | with_reducible refine VC_skip ?_
              | with_reducible refine VC_exit ?_
              | with_reducible refine VC_ret ?_
              | (with_reducible refine G_not (fun h => ?_) (fun h => ?_) <;> (try simp only [h]))
              | (with_reducible refine G_cases (fun h => ?_) (fun h => ?_) <;> (try simp only [h]))
              | refine And.intro h10 ?_
              | refine C_call rfl eb rfl hab1 ?_
              | (with_reducible refine hK _ ?_; clear hK K)
              | (clear hK K; with_reducible refine hK _ ?_; clear hK K)
              | (clear hK K; clear hK K; with_reducible refine hK _ ?_; clear hK K)
              | (clear hK K; clear hK K; clear hK K; with_reducible refine hK _ ?_; clear hK K)
              | (with_reducible refine todo ?_; simp +decide only [go_sem, f1, f2, hg, h10, hnx, upd_twice, p0, p1, p2, p3, hA10, hrl]))
            exact LV.fin (ops := ops) hnx2 q2 rfl rfl rfl (fun _ _ => rfl) (fun _ h => .inl h) h8 rfl rfl rfl rfl rfl
          · have p1 : (o.kind == 1) = false := by simpa using k1
            by_cases k2 : o.kind = 2
            · have p2 : (o.kind == 2) = true := by rw [k2]; rfl
              have p3 : (o.kind != 3) = true := by rw [k2]; rfl
              obtain ⟨HC, AC, ec, LC, gC, _, fH, fA, fK⟩ := Try.sReset L' (by omega) g' s4 (by omega) (by omega) (by omega) (by omega) s7
              have nC : AC (k + 1, 0) = none := (LC.ab (k + 1) (Nat.le_refl _)).2 0
              have cAA : ∀ τ, AC τ ≠ none → upd AC (k + 1, 0) (some (.co 1 0)) τ = AC τ := fun τ h => upd_other _ _ (fun e => h (by rw [e]; exact nC))
              have hnx2 := hy.next (c := oC o) (A'' := upd AC (k + 1, 0) (some (.co 1 0))) (k'' := k + 2) (κa' := (k + 1, 0)) LC gC gC (fun j x1 x2 _ => fH j x1 x2) fK hl200 cAA (Above_updA (Above_mono LC.ab (Nat.le_succ _)) (by show k + 1 < k + 2; omega)) (fun τ h => by
                obtain ⟨_, z2, _, z4⟩ := lokr τ h
                rw [upd_other _ _ (tok_ne (by show τ.1 ≠ k + 1; omega)), fA τ z4 z2 (by omega)]; exact (lo τ.1 h).2 τ.2) (by rw [upd_same]; rfl) ⟨tok_ne (by show k + 1 ≠ k; omega), tok_ne (by show k + 1 ≠ k; omega), tok_ne (by show k + 1 ≠ 200; omega)⟩ ⟨by show 202 ≤ k + 2; omega, by show k + 2 ≤ 203 + 4 * (i + 1); omega⟩ q2 (hy.p.reset hi)
              have h8 : PV.wk (hOver [] (upd HC 10 none)) AC (upd AC (k + 1, 0) (some (.co 1 0))) (.c (.own (k + 1, 0) (textsD []))) (.c (.full [])) := wkP_new nC (upd_same _ _ _)
              have hA10 : HC 10 = some (oC o) := by rw [fH 10 (by omega) (by omega)]; exact o10
              unfold oC at ec hab1 hA10
              repeat' (first
                | with_reducible refine VC_seq fun K hK => ?_
                | with_reducible refine W_region ?_
                | with_reducible refine VC_block ?_
                | with_reducible refine VC_scope ?_
                | with_reducible refine VC_if ?_
                | with_reducible refine VC_skip ?_
                | with_reducible refine VC_exit ?_
                | with_reducible refine VC_ret ?_
                | (with_reducible refine G_not (fun h => ?_) (fun h => ?_) <;> (try simp only [h]))
                | (with_reducible refine G_cases (fun h => ?_) (fun h => ?_) <;> (try simp only [h]))
                | refine And.intro h10 ?_
                | refine C_call rfl ec rfl hab1 ?_
                | (with_reducible refine hK _ ?_; clear hK K)
                | (clear hK K; with_reducible refine hK _ ?_; clear hK K)
                | (clear hK K; clear hK K; with_reducible refine hK _ ?_; clear hK K)
                | (clear hK K; clear hK K; clear hK K; with_reducible refine hK _ ?_; clear hK K)
                | (with_reducible refine todo ?_; simp +decide only [go_sem, f1, f2, hg, h10, hnx, upd_twice, p0, p1, p2, p3, hA10, z01]))
              have cA3 : ∀ τ, AC τ = none → upd AC (k + 1, 0) (some (.co 1 0)) τ = none ∨ ∃ sz, upd AC (k + 1, 0) (some (.co 1 0)) τ = some (.co sz 0) := fun τ h => by
                by_cases e : τ = (k + 1, 0)
                · exact .inr ⟨1, by rw [e]; exact upd_same _ _ _⟩
                · exact .inl (by rw [upd_other _ _ e]; exact h)
              exact LV.fin (ops := ops) hnx2 q2 rfl rfl rfl cAA cA3 h8 rfl rfl rfl rfl rfl
            · have p2 : (o.kind == 2) = false := by simpa using k2
              by_cases k3 : o.kind = 3
              · have p3 : (o.kind != 3) = false := by rw [k3]; rfl
                have kd := Try.kDirty 1000 L'.wf L'.dk (by omega) (by omega)
                have hdl : (ints (d.cache.map (·.1))).length = d.cache.length := by simp [ints]
                have hbl : (bools o.keep).length = o.keep.length := by simp [bools]
                obtain ⟨HD, AD, ed, LD, gD, fH1, fA1, fK1⟩ := Try.sCrash L' (by omega) (by omega) (o.keep.take (min o.keep.length d.cache.length)) (by rw [List.length_take]; omega)
                obtain ⟨t0, b0, t1, b1, R, c1, c2, c3, c4⟩ := hy.p.crash hi (o.keep.take (min o.keep.length d.cache.length))
                simp only at c2 c3 c4
                obtain ⟨HE, AE, ee, LE, gE, gO, fH2, fA2, fK2⟩ := Try.sOpen LD (by omega) c1 rfl
                have gO := gO _ _ _ (gD _ _ _ g')
                obtain ⟨_, _, _, _, _, _, _, _, c5, _⟩ := c2.spec
                generalize opL 1 39 t0 b0 t1 b1 R = l2 at *
                generalize nextD (crD d (o.keep.take (min o.keep.length d.cache.length))) 1 (opT t0 t1 + 1) (opB t0 b0 t1 b1) = d2 at *
                obtain ⟨HF, AF, ef, hHF, LF, aF, fA3, fK3⟩ := Try.sRecords LE gE (by omega)
                rw [hHF] at ef
                have hr2 := textsD_len l2.recs
                have gF := gE.mv (H' := HE) (A' := AF) rfl (fA3 (k + 1, 0) (by show k + 1 < k + 2; omega))
                have gO2 := gO.mv (H' := HE) (A' := AF) rfl (fA3 κr (by have := (gO.lt LE.ab).2; omega))
                have hkeepA : ∀ τ : Tok, τ ≠ (200, 0) → τ ≠ κc → τ.1 < k → AF τ = A τ := fun τ x1 x2 x3 => by
                  rw [fA3 τ (by omega), fA2 τ x1 (tok_ne (by show τ.1 ≠ k; omega)) (by omega), fA1 τ x1 x3]
                have hnx2 := hy.next (c := oC o) (A'' := AF) (κa' := (k + 1 + 1, 0)) LF gF gO2 (fun j x1 x2 x3 => by rw [fH2 j x1 x3, fH1 j x1]) (fun τ h => fK3 τ (fK2 τ (fK1 τ h))) (by omega) (fun _ _ => rfl) LF.ab (fun τ h => by
                  obtain ⟨_, z2, _, z4⟩ := lokr τ h
                  rw [hkeepA τ z4 z2 (by omega)]; exact (lo τ.1 h).2 τ.2) aF ⟨tok_ne (by show k + 1 + 1 ≠ k + 1; omega), tok_ne (by show k + 1 + 1 ≠ k + 1; omega), tok_ne (by show k + 1 + 1 ≠ 200; omega)⟩ ⟨by show 202 ≤ k + 1 + 1 + 1; omega, by show k + 1 + 1 + 1 ≤ 203 + 4 * (i + 1); omega⟩ q2 c2
                have h8 : PV.wk (hOver [] (upd HE 10 none)) AF AF (.c (.own (k + 1 + 1, 0) (textsD l2.recs))) (.c (.own (k + 1 + 1, 0) (textsD l2.recs))) := wkP_own (by rw [aF]; simp) rfl
                have hll2 : l2.recs.length ≤ l.recs.length := by
                  have := congrArg List.length c4
                  rw [List.length_take] at this; omega
                have f5 : ((l2.recs.length : Int) < (sure : Int)) = False := eq_false (by omega)
                have f6 : ((l.recs.length : Int) < (l2.recs.length : Int)) = False := eq_false (by omega)
                have hab2 : Above (0 + 1000) HD AD := Above_mono LD.ab (by omega)
                have hab3 : Above (0 + 1000) HE AE := Above_mono LE.ab (by omega)
                have e9 := Try.kTexts l2.recs l2.recs (by omega)
                rw [show (l2.recs == l2.recs) = true by simp] at e9
                unfold tx at e9
                have hsl : (textsD l.recs).take (l2.recs.length - 0) = textsD l2.recs := by
                  rw [Nat.sub_zero]
                  conv => rhs; rw [c4]
                  exact (List.map_take).symm
                have hsb : (bools o.keep).take (min o.keep.length d.cache.length - 0) = bools (o.keep.take (min o.keep.length d.cache.length)) := by
                  rw [Nat.sub_zero]; exact (List.map_take).symm
                have hmin : (if (d.cache.length : Int) < (o.keep.length : Int) then (d.cache.length : Int) else (o.keep.length : Int)) = ((min o.keep.length d.cache.length : Nat) : Int) := by split <;> omega
                unfold oC at ed hab1 kd
                repeat' (first
                  | with_reducible refine VC_seq fun K hK => ?_
                  | with_reducible refine W_region ?_
                  | with_reducible refine VC_block ?_
                  | with_reducible refine VC_scope ?_
                  | with_reducible refine VC_if ?_
                  | with_reducible refine VC_skip ?_
                  | with_reducible refine VC_exit ?_
                  | with_reducible refine VC_ret ?_
                  | (with_reducible refine G_not (fun h => ?_) (fun h => ?_) <;> (try simp only [h]))
                  | (with_reducible refine G_cases (fun h => ?_) (fun h => ?_) <;> (try simp only [h]))
                  | refine And.intro h10 ?_
                  | refine C_quiet rfl rfl kd rfl hab1 ?_
                  | refine C_call rfl ed rfl hab1 ?_
                  | refine C_call rfl ee rfl hab2 ?_
                  | refine C_call rfl ef rfl hab3 ?_
                  | refine C_pure e9 rfl rfl (fun q => (hnx2.2.lo _ (Nat.le_of_ble_eq_true rfl)).2 q) ?_
                  | (refine W_slc (els := bools o.keep) (l := 0) (h := min o.keep.length d.cache.length) Try.appB rfl rfl (by simp [optNat, natOf?, intOf?]) (Nat.zero_le _) (by rw [hbl]; exact Nat.min_le_left _ _) (fun e he => by obtain ⟨w, _, rfl⟩ := List.mem_map.1 he; rfl) ?_)
                  | (refine W_slc (els := textsD l.recs) (l := 0) (h := l2.recs.length) Try.appT rfl rfl (by simp [optNat, natOf?, intOf?]) (Nat.zero_le _) (by rw [hrl]; exact hll2) (szd_texts _) ?_)
                  | (with_reducible refine hK _ ?_; clear hK K)
                  | (clear hK K; with_reducible refine hK _ ?_; clear hK K)
                  | (clear hK K; clear hK K; with_reducible refine hK _ ?_; clear hK K)
                  | (clear hK K; clear hK K; clear hK K; with_reducible refine hK _ ?_; clear hK K)
                  | (with_reducible refine todo ?_; simp +decide only [go_sem, f1, f2, hg, h10, hnx, upd_twice, p0, p1, p2, p3, hdl, hbl, hr2, hrl, f5, f6, hsl, hsb, hmin, zne]))
                exact LV.fin (ops := ops) hnx2 q2 rfl rfl rfl (fun _ _ => rfl) (fun _ h => .inl h) h8 rfl rfl rfl rfl rfl
              · have p3 : (o.kind != 3) = true := by simpa using k3
                repeat' (first
                  | with_reducible refine VC_seq fun K hK => ?_
                  | with_reducible refine W_region ?_
                  | with_reducible refine VC_block ?_
                  | with_reducible refine VC_scope ?_
                  | with_reducible refine VC_if ?_
                  | with_reducible refine VC_skip ?_
                  | with_reducible refine VC_exit ?_
                  | with_reducible refine VC_ret ?_
                  | (with_reducible refine G_not (fun h => ?_) (fun h => ?_) <;> (try simp only [h]))
                  | (with_reducible refine G_cases (fun h => ?_) (fun h => ?_) <;> (try simp only [h]))
                  | refine And.intro h10 ?_
                  | (with_reducible refine hK _ ?_; clear hK K)
                  | (clear hK K; with_reducible refine hK _ ?_; clear hK K)
                  | (clear hK K; clear hK K; with_reducible refine hK _ ?_; clear hK K)
                  | (clear hK K; clear hK K; clear hK K; with_reducible refine hK _ ?_; clear hK K)
                  | (with_reducible refine todo ?_; simp +decide only [go_sem, f1, f2, hg, h10, hnx, upd_twice, p0, p1, p2, p3]))
                exact hfinS rfl rfl rfl rfl rfl rfl rfl rfl
      · have f2 : ((i : Int) < 60) = False := eq_false (by omega)
        repeat' (first
          | with_reducible refine VC_seq fun K hK => ?_
          | with_reducible refine W_region ?_
          | with_reducible refine VC_block ?_
          | with_reducible refine VC_scope ?_
          | with_reducible refine VC_if ?_
          | with_reducible refine VC_skip ?_
          | with_reducible refine VC_exit ?_
          | with_reducible refine VC_ret ?_
          | (with_reducible refine G_not (fun h => ?_) (fun h => ?_) <;> (try simp only [h]))
          | (with_reducible refine G_cases (fun h => ?_) (fun h => ?_) <;> (try simp only [h]))
          | refine C_pure e0 rfl rfl (fun q => (lo _ (Nat.le_of_ble_eq_true rfl)).2 q) ?_
          | (with_reducible refine hK _ ?_; clear hK K)
          | (clear hK K; with_reducible refine hK _ ?_; clear hK K)
          | (clear hK K; clear hK K; with_reducible refine hK _ ?_; clear hK K)
          | (clear hK K; clear hK K; clear hK K; with_reducible refine hK _ ?_; clear hK K)
          | (with_reducible refine todo ?_; simp +decide only [go_sem, f1, f2]))
        exact RetR_same rfl (by simp +decide only [go_sem]) True.intro wf0 (fun i h => (h rfl).elim) (fun i h => (h rfl).elim)
    · have f1 : ((i : Int) < ((opsD ops).length : Int)) = False := eq_false (by rw [hll]; omega)
      repeat' (first
        | with_reducible refine VC_seq fun K hK => ?_
        | with_reducible refine W_region ?_
        | with_reducible refine VC_block ?_
        | with_reducible refine VC_scope ?_
        | with_reducible refine VC_if ?_
        | with_reducible refine VC_skip ?_
        | with_reducible refine VC_exit ?_
        | with_reducible refine VC_ret ?_
        | (with_reducible refine G_not (fun h => ?_) (fun h => ?_) <;> (try simp only [h]))
        | (with_reducible refine G_cases (fun h => ?_) (fun h => ?_) <;> (try simp only [h]))
        | refine C_pure e0 rfl rfl (fun q => (lo _ (Nat.le_of_ble_eq_true rfl)).2 q) ?_
        | (with_reducible refine hK _ ?_; clear hK K)
        | (clear hK K; with_reducible refine hK _ ?_; clear hK K)
        | (clear hK K; clear hK K; with_reducible refine hK _ ?_; clear hK K)
        | (clear hK K; clear hK K; clear hK K; with_reducible refine hK _ ?_; clear hK K)
        | (with_reducible refine todo ?_; simp +decide only [go_sem, f1]))
      exact RetR_same rfl (by simp +decide only [go_sem]) True.intro wf0 (fun i h => (h rfl).elim) (fun i h => (h rfl).elim)
end Go.Proofs
