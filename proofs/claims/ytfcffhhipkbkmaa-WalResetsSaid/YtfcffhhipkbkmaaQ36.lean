import Derived.Test.YtfcffhhipkbkmaaQ35
import Derived.Test.YtfcffhhipkbkmaaQ34

/-
  WalSafe: the law's body.
-/


namespace Go.Proofs
open Go.PW
theorem z63 : ((6 : Int) != 3) = true := rfl
theorem z6e : ((6 : Int) == 0) = false := rfl
theorem z33 : ((3 : Int) != 3) = false := rfl
set_option maxRecDepth 8000 in
set_option maxHeartbeats 64000000 in
theorem Try.kSafe (ops : List OpW) (fz : Int) (keep : List Bool) : PureOK Try.prog 7 [.c (.d (.sl (opsD ops))), pD (.lit (.int .i64 fz)), .c (.d (.sl (bools keep)))] (.one (.d (.lit (.bool true)))) := by
  have e0 := Try.kKnown
  obtain ⟨H1, A1, e1, L1, r1, r2⟩ := Try.sNew 200 40 (by omega) (by omega)
  obtain ⟨H2, A2, e2, L2, g2, _, r3, r4, r5⟩ := Try.sOpen L1 (by omega) (op_new (f := 3) (n := 30) (N := 40) (by omega) (by omega) (by omega) (by omega)) rfl
  rw [opL_new] at g2
  have L2 : LW H2 A2 202 200 (200, 0) (201, 1) (nextD (newD 40) 3 1 0) := L2
  have pi2 : PI (nextD (newD 40) 3 1 0) 3 30 40 1 0 [] [] (fun _ => none) := PI.fresh (by omega) (by omega) (by omega) (by omega)
  obtain ⟨H3, A3, e3, hA3, L3, r6⟩ := Try.sFuse L2 (by rw [pi2.dn]; omega) fz
  subst hA3
  have g3 : LgAt H3 A3 201 200 (201, 0) ⟨3, 28, 1, 0, 0, [], false⟩ := g2.mv (r6 201 (by omega)) rfl
  have hps : PS ⟨3, 28, 1, 0, 0, [], false⟩ (nextD (newD 40) 3 1 0) 0 [] := ⟨[], [], _, [], pi2, rfl, rfl, fun _ => ⟨rfl, rfl, rfl⟩⟩
  have hll := opsD_len ops
  have n3 : A3 (202, 0) = none := (L3.ab 202 (by omega)).2 0
  have hA3 : ∀ τ, A3 τ ≠ none → upd A3 (202, 0) (some (.co 1 0)) τ = A3 τ := fun τ h => upd_other _ _ (fun e => h (by rw [e]; exact n3))
  have hy0 : SV ⟨0, 203, (201, 1), H3, upd A3 (202, 0) (some (.co 1 0)), ⟨3, 28, 1, 0, 0, [], false⟩, fuseD (nextD (newD 40) 3 1 0) fz, [], []⟩ := by
    refine ⟨⟨Wf_arr L3.wf upd_keep, Above_updA (Above_mono L3.ab (by show 202 ≤ 203; omega)) (by show 202 < 203; omega), L3.dk.h, ?_, ?_⟩, g3.mv rfl ?_, fun j hj => ⟨?_, fun q => ?_⟩, by show upd A3 (202, 0) (some (.co 1 0)) (202, 0) = _; rw [upd_same]; rfl, tok_ne (by show 201 ≠ 202; omega), ⟨by show 203 ≤ 203; omega, by show 203 ≤ 203 + 0; omega⟩, by show 0 ≤ 31; omega, Nat.le_refl _, hps.fuse fz⟩
    · show upd A3 (202, 0) (some (.co 1 0)) (200, 0) = _
      rw [upd_other _ _ (tok_ne (by show 200 ≠ 202; omega))]; exact L3.dk.m
    · show upd A3 (202, 0) (some (.co 1 0)) (201, 1) = _
      rw [upd_other _ _ (tok_ne (by show 201 ≠ 202; omega))]; exact L3.dk.c
    · show upd A3 (202, 0) (some (.co 1 0)) (201, 0) = _
      rw [upd_other _ _ (tok_ne (by show 201 ≠ 202; omega))]
    · show H3 j = none
      rw [r6 j (by omega), r3 j (by omega) (by omega)]; exact r1 j (by omega)
    · show upd A3 (202, 0) (some (.co 1 0)) (j, q) = none
      have nj : ∀ m p, j ≠ m → (j, q) ≠ ((m, p) : Tok) := fun m p h => tok_ne h
      rw [upd_other _ _ (nj 202 0 (by omega)), r4 _ (nj 200 0 (by omega)) (nj 200 1 (by omega)) (by show j < 201; omega)]; exact r2 _ (by show j ≠ 200; omega)
  refine pure_eff rfl (effr_ok (E := envOf Try.prog [22, 14, 15, 16, 23, 26, 18, 19, 2000000 + 24] 0 [] []) (envOf_ok Try.mixed) Try.func7 rfl Try.call7 (by kernel_rfl) (by exact Nat.le_of_ble_eq_true rfl) (fun hab => ?_))
  repeat' (first
    | with_reducible refine VC_seq fun K hK => ?_
    | with_reducible refine W_region ?_
    | with_reducible refine VC_block ?_
    | with_reducible refine VC_scope ?_
    | with_reducible refine VC_if ?_
    | with_reducible refine VC_skip ?_
    | with_reducible refine VC_exit ?_
    | with_reducible refine VC_ret ?_
    | (with_reducible refine G_not (fun h => ?_) (fun h => ?_) <;> (try simp only [h]))
    | (with_reducible refine G_cases (fun h => ?_) (fun h => ?_) <;> (try simp only [h]))
    | refine C_call rfl e1 rfl (Above_mono hab (by omega)) ?_
    | refine C_call rfl e2 rfl (Above_mono L1.ab (by omega)) ?_
    | refine C_call rfl e3 rfl (Above_mono L2.ab (by omega)) ?_
    | (with_reducible refine hK _ ?_; clear hK K)
    | (clear hK K; with_reducible refine hK _ ?_; clear hK K)
    | (clear hK K; clear hK K; with_reducible refine hK _ ?_; clear hK K)
    | (clear hK K; clear hK K; clear hK K; with_reducible refine hK _ ?_; clear hK K)
    | (with_reducible refine todo ?_; simp +decide only [go_sem, zne]))
  refine VC_while (ι := SSt) SV (FrS ops keep) (fun y => 40 - y.i) ⟨0, 203, (201, 1), H3, upd A3 (202, 0) (some (.co 1 0)), ⟨3, 28, 1, 0, 0, [], false⟩, fuseD (nextD (newD 40) 3 1 0) fz, [], []⟩ hy0 ?_ ?_
  · have w1 : ∀ {X Y : AMap}, PV.wk (hOver [] H3) X Y (.c (.ptr 200 0)) (.c (.ptr 200 0)) = True := eq_true (wkP_ptr (by show H3 200 ≠ none; rw [L3.dk.h]; simp))
    have w2 := fun {X Y : AMap} => g3.ptr (A1 := X) (A2 := Y)
    have w3 : PV.wk (hOver [] H3) A3 (upd A3 (202, 0) (some (.co 1 0))) (.c (.own (202, 0) (textsD []))) (.c (.full [])) = True := eq_true (wkP_new n3 (upd_same _ _ _))
    have w4 : textsD [] = [] := rfl
    refine Weak_gen L3.wf (fun _ _ => rfl) hA3 (fun τ h => ?_) ?_
    · show upd A3 (202, 0) (some (.co 1 0)) τ = none ∨ _
      by_cases e : τ = (202, 0)
      · exact .inr ⟨1, by show upd A3 (202, 0) (some (.co 1 0)) τ = _; rw [e, upd_same]⟩
      · rw [upd_other _ _ e]; exact .inl h
    · rw [w4] at w3
      simp +decide only [go_sem, w1, w2, w3, w4]
  · rintro y hy
    obtain ⟨i, k, κc, H, A, l, d, sure, all⟩ := y
    have L := hy.L
    have g := hy.g
    have lo := hy.lo
    have ha := hy.a
    have nc := hy.nc
    obtain ⟨k1, k2⟩ := hy.k0
    have hi := hy.hi
    have hall := hy.hall
    have hp := hy.p
    simp only at L g lo ha nc k1 k2 hi hall hp
    obtain ⟨s6, s8⟩ := hp.dn
    have h14 : H 14 = none := (lo 14 (by omega)).1
    have hral := textsD_len all
    have hrsu := textsD_len sure
    unfold FrS
    by_cases q12 : i < ops.length ∧ i < 30
    · obtain ⟨q1, q2⟩ := q12
      have hnx : IntKind.i64.wrap ((i : Int) + 1) = ((i + 1 : Nat) : Int) := by rw [Go.IntWalk.i64_in _ (by omega)]; omega
      have w31 : IntKind.i64.wrap ((30 : Int) + 1) = ((31 : Nat) : Int) := rfl
      have f1 : ((i : Int) < ((opsD ops).length : Int)) = True := eq_true (by rw [hll]; omega)
      have f2 : ((i : Int) < 30) = True := eq_true (by omega)
      have hg := opsD_get q1
      generalize ops[i] = o at hg
      obtain ⟨L', g'⟩ := hy.loc o
      simp only at L' g'
      have hab1 : Above (0 + 1000) (upd H 14 (some (oC o))) A := Above_mono L'.ab (by omega)
      have hloA : ∀ τ : Tok, τ.1 < 200 → A τ = none := fun τ h => (lo τ.1 h).2 τ.2
      have nκ : ∀ τ : Tok, τ.1 < 200 → τ ≠ κc ∧ τ ≠ (202, 0) ∧ τ ≠ (201, 0) ∧ τ ≠ (200, 0) := fun τ h => by
        have hz := (lo τ.1 h).2 τ.2
        exact ⟨(fun e => by have h2 := L.dk.c; rw [← e, hz] at h2; cases h2), tok_ne (by show τ.1 ≠ 202; omega), tok_ne (by show τ.1 ≠ 201; omega), tok_ne (by show τ.1 ≠ 200; omega)⟩
      have o14 : upd H 14 (some (oC o)) 14 = some (oC o) := upd_same _ _ _
      have w11 : ∀ {G : HMap} {B : AMap}, PV.wk G B B (.c (.d (.sl (textsD sure)))) (.c (.d (.sl (textsD sure)))) := fun {G B} => by rw [wkP_d]; exact True.intro
      have hst := hy.next (c := oC o) (i' := i + 1) L' g' (fun j _ _ => rfl) (fun τ h => h) hloA ha nc ⟨k1, by show k ≤ 203 + (i + 1); omega⟩ (by omega) (by show all.length ≤ i + 1; omega) hp
      have hfinS : ∀ {S : St}, S.H = upd H 14 (some (oC o)) → S.A = A → S.ρ 11 = .c (.d (.sl (textsD sure))) → S.ρ 12 = .c (.own (202, 0) (textsD all)) → S.ρ 0 = .c (.d (.sl (opsD ops))) → S.ρ 2 = .c (.d (.sl (bools keep))) → S.ρ 7 = .c (.ptr 200 0) → S.ρ 9 = .c (.ptr 201 0) → S.ρ 13 = pD (.lit (.int .i64 (i + 1 : Nat))) → _ := fun {S} x1 x2 x3 x4 x5 x6 x7 x8 x9 => SV.fin (ops := ops) (keep := keep) (i := i) hst (Nat.lt_succ_self i) x1 x2 (by rw [x3]; exact w11) x4 x5 x6 x7 x8 x9
      by_cases k0 : o.kind = 0
      · have p0 : (o.kind == 0) = true := by rw [k0]; rfl
        have p1 : (o.kind == 1) = false := by rw [k0]; rfl
        by_cases qs : o.s.length < 1000
        · have fs : ((o.s.length : Int) < 1000) = True := eq_true (by omega)
          have hb16 : ∀ {y : List D}, ((textsD all).length + [y].length) * 16 ≤ 140737488355328 := by
            intro y
            rw [hral, List.length_singleton]; omega
          have w12 : textsD (all ++ [o.s]) = textsD all ++ [[dS o.s]] := textsD_app _ _
          -- what is appended, and what is noted
          have note : ∀ {HA : HMap} {AA : AMap} {l' : Lg} {d' : Dk} {i' : Nat}, LW HA AA k 200 (200, 0) κc d' → LgAt HA AA 201 200 (201, 0) l' → (∀ j, j ≠ 200 → j ≠ 201 → HA j = upd H 14 (some (oC o)) j) → (∀ τ, A τ ≠ none → AA τ ≠ none) → (∀ τ : Tok, τ.1 < 200 → AA τ = none) → i + 1 ≤ i' → i' ≤ 31 → PS l' d' sure.length (all ++ [o.s]) →
              Wf (upd HA 14 none) (upd AA (202, 0) (some (.co 1 ((textsD all).length + 1)))) ∧ SV ⟨i', k, κc, upd HA 14 none, upd AA (202, 0) (some (.co 1 ((textsD all).length + 1))), l', d', sure, all ++ [o.s]⟩ := fun {HA AA l' d' i'} LA gA fH fK fL hi1 hi2 hps => by
            have LA3 := LA.tok (κ := (202, 0)) (x := .co 1 ((textsD all).length + 1)) (tok_ne (by show 202 ≠ 200; omega)) nc.symm (by show 202 < k; omega)
            refine hy.next (c := oC o) LA3 (gA.mv rfl (upd_other _ _ (tok_ne (by show 201 ≠ 202; omega)))) fH (fun τ h => upd_keep τ (fK τ h)) (fun τ h => by rw [upd_other _ _ (nκ τ h).2.1]; exact fL τ h) (by rw [upd_same, w12, List.length_append]; rfl) nc ⟨k1, by show k ≤ 203 + i'; omega⟩ hi2 (by rw [List.length_append, List.length_singleton]; omega) hps
          cases hh : l.halted with
          | true =>
            have ea := Try.kAppendH 1000 L'.wf g' hh o.s
            have hn := note (i' := 31) L' g' (fun j _ _ => rfl) (fun τ h => h) hloA (by omega) (by omega) (hp.appendH hh o.s)
            have haa : A (202, 0) = some (.co 1 (textsD all).length) := ha
            unfold oC at ea hab1
            repeat' (first
              | with_reducible refine VC_seq fun K hK => ?_
              | with_reducible refine W_region ?_
              | with_reducible refine VC_block ?_
              | with_reducible refine VC_scope ?_
              | with_reducible refine VC_if ?_
              | with_reducible refine VC_skip ?_
              | with_reducible refine VC_exit ?_
              | with_reducible refine VC_ret ?_
              | (with_reducible refine G_not (fun h => ?_) (fun h => ?_) <;> (try simp only [h]))
              | (with_reducible refine G_cases (fun h => ?_) (fun h => ?_) <;> (try simp only [h]))
              | refine And.intro h14 ?_
              | refine C_call rfl ea rfl hab1 ?_
              | refine W_own Try.appT rfl (szd_texts _) (szOne rfl) hb16 haa ?_
              | (with_reducible refine hK _ ?_; clear hK K)
              | (clear hK K; with_reducible refine hK _ ?_; clear hK K)
              | (clear hK K; clear hK K; with_reducible refine hK _ ?_; clear hK K)
              | (clear hK K; clear hK K; clear hK K; with_reducible refine hK _ ?_; clear hK K)
              | (with_reducible refine todo ?_; simp +decide only [go_sem, f1, f2, hg, h14, w31, upd_twice, p0, p1, fs, z6e, z63]))
            exact SV.fin (ops := ops) (keep := keep) hn (by omega) rfl rfl w11 (by rw [w12]; rfl) rfl rfl rfl rfl rfl
          | false =>
            obtain ⟨s1, s2, s3, s5, s9⟩ := hp.spec hh
            by_cases q4 : l.used + needN o.s.length ≤ l.places
            · have hpl := partsL_len o.s
              rcases first_true (fun k => burnt (apD l o.s (partsL o.s).length (partsL o.s) d k)) (partsL o.s).length with hbs | ⟨k0', hk0, hbs, hbb⟩
              · obtain ⟨HA, AA, ea, LA, gA, _, fH, fA, fK⟩ := Try.sAppendG L' g' hh o.s (by omega) q4 (by omega) (by omega) (by omega) (by omega) (by omega) (by omega) hbs
                have hn := note (i' := i + 1) LA gA fH fK (fun τ h => by rw [fA τ (nκ τ h).1 (nκ τ h).2.2.1]; exact hloA τ h) (by omega) (by omega) (hp.append hh o.s (by omega))
                have haa : AA (202, 0) = some (.co 1 (textsD all).length) := by rw [fA _ nc.symm (tok_ne (by show 202 ≠ 201; omega))]; exact ha
                have hA14 : HA 14 = some (oC o) := by rw [fH 14 (by omega) (by omega)]; exact o14
                unfold oC at ea hab1 hA14
                repeat' (first
                  | with_reducible refine VC_seq fun K hK => ?_
                  | with_reducible refine W_region ?_
                  | with_reducible refine VC_block ?_
                  | with_reducible refine VC_scope ?_
                  | with_reducible refine VC_if ?_
                  | with_reducible refine VC_skip ?_
                  | with_reducible refine VC_exit ?_
                  | with_reducible refine VC_ret ?_
                  | (with_reducible refine G_not (fun h => ?_) (fun h => ?_) <;> (try simp only [h]))
                  | (with_reducible refine G_cases (fun h => ?_) (fun h => ?_) <;> (try simp only [h]))
                  | refine And.intro h14 ?_
                  | refine C_call rfl ea rfl hab1 ?_
                  | refine W_own Try.appT rfl (szd_texts _) (szOne rfl) hb16 haa ?_
                  | (with_reducible refine hK _ ?_; clear hK K)
                  | (clear hK K; with_reducible refine hK _ ?_; clear hK K)
                  | (clear hK K; clear hK K; with_reducible refine hK _ ?_; clear hK K)
                  | (clear hK K; clear hK K; clear hK K; with_reducible refine hK _ ?_; clear hK K)
                  | (with_reducible refine todo ?_; simp +decide only [go_sem, f1, f2, hg, h14, hnx, upd_twice, p0, p1, fs, hA14]))
                exact SV.fin (ops := ops) (keep := keep) hn (Nat.lt_succ_self i) rfl rfl w11 (by rw [w12]; rfl) rfl rfl rfl rfl rfl
              · obtain ⟨HA, AA, ea, LA, gA, fH, fA, fK⟩ := Try.sAppendB L' g' hh o.s (by omega) q4 (by omega) (by omega) (by omega) (by omega) (by omega) k0' hk0 hbs hbb
                have hn := note (i' := 31) LA gA fH fK (fun τ h => by rw [fA τ (nκ τ h).1]; exact hloA τ h) (by omega) (by omega) (hp.appendB hh o.s (by omega) k0' (by omega))
                have haa : AA (202, 0) = some (.co 1 (textsD all).length) := by rw [fA _ nc.symm]; exact ha
                have hA14 : HA 14 = some (oC o) := by rw [fH 14 (by omega) (by omega)]; exact o14
                unfold oC at ea hab1 hA14
                repeat' (first
                  | with_reducible refine VC_seq fun K hK => ?_
                  | with_reducible refine W_region ?_
                  | with_reducible refine VC_block ?_
                  | with_reducible refine VC_scope ?_
                  | with_reducible refine VC_if ?_
                  | with_reducible refine VC_skip ?_
                  | with_reducible refine VC_exit ?_
                  | with_reducible refine VC_ret ?_
                  | (with_reducible refine G_not (fun h => ?_) (fun h => ?_) <;> (try simp only [h]))
                  | (with_reducible refine G_cases (fun h => ?_) (fun h => ?_) <;> (try simp only [h]))
                  | refine And.intro h14 ?_
                  | refine C_call rfl ea rfl hab1 ?_
                  | refine W_own Try.appT rfl (szd_texts _) (szOne rfl) hb16 haa ?_
                  | (with_reducible refine hK _ ?_; clear hK K)
                  | (clear hK K; with_reducible refine hK _ ?_; clear hK K)
                  | (clear hK K; clear hK K; with_reducible refine hK _ ?_; clear hK K)
                  | (clear hK K; clear hK K; clear hK K; with_reducible refine hK _ ?_; clear hK K)
                  | (with_reducible refine todo ?_; simp +decide only [go_sem, f1, f2, hg, h14, w31, upd_twice, p0, p1, fs, hA14, z6e, z63]))
                exact SV.fin (ops := ops) (keep := keep) hn (by omega) rfl rfl w11 (by rw [w12]; rfl) rfl rfl rfl rfl rfl
            · have ea := Try.kAppendF 1000 L'.wf g' hh o.s (by omega) (by omega) (by omega) (by omega)
              unfold oC at ea hab1
              repeat' (first
                | with_reducible refine VC_seq fun K hK => ?_
                | with_reducible refine W_region ?_
                | with_reducible refine VC_block ?_
                | with_reducible refine VC_scope ?_
                | with_reducible refine VC_if ?_
                | with_reducible refine VC_skip ?_
                | with_reducible refine VC_exit ?_
                | with_reducible refine VC_ret ?_
                | (with_reducible refine G_not (fun h => ?_) (fun h => ?_) <;> (try simp only [h]))
                | (with_reducible refine G_cases (fun h => ?_) (fun h => ?_) <;> (try simp only [h]))
                | refine And.intro h14 ?_
                | refine C_call rfl ea rfl hab1 ?_
                | (with_reducible refine hK _ ?_; clear hK K)
                | (clear hK K; with_reducible refine hK _ ?_; clear hK K)
                | (clear hK K; clear hK K; with_reducible refine hK _ ?_; clear hK K)
                | (clear hK K; clear hK K; clear hK K; with_reducible refine hK _ ?_; clear hK K)
                | (with_reducible refine todo ?_; simp +decide only [go_sem, f1, f2, hg, h14, hnx, upd_twice, p0, p1, fs, z30, z33]))
              exact hfinS rfl rfl rfl rfl rfl rfl rfl rfl rfl
        · have fs : ((o.s.length : Int) < 1000) = False := eq_false (by omega)
          repeat' (first
            | with_reducible refine VC_seq fun K hK => ?_
            | with_reducible refine W_region ?_
            | with_reducible refine VC_block ?_
            | with_reducible refine VC_scope ?_
            | with_reducible refine VC_if ?_
            | with_reducible refine VC_skip ?_
            | with_reducible refine VC_exit ?_
            | with_reducible refine VC_ret ?_
            | (with_reducible refine G_not (fun h => ?_) (fun h => ?_) <;> (try simp only [h]))
            | (with_reducible refine G_cases (fun h => ?_) (fun h => ?_) <;> (try simp only [h]))
            | refine And.intro h14 ?_
            | (with_reducible refine hK _ ?_; clear hK K)
            | (clear hK K; with_reducible refine hK _ ?_; clear hK K)
            | (clear hK K; clear hK K; with_reducible refine hK _ ?_; clear hK K)
            | (clear hK K; clear hK K; clear hK K; with_reducible refine hK _ ?_; clear hK K)
            | (with_reducible refine todo ?_; simp +decide only [go_sem, f1, f2, hg, h14, hnx, upd_twice, p0, p1, fs]))
          exact hfinS rfl rfl rfl rfl rfl rfl rfl rfl rfl
      · have p0 : (o.kind == 0) = false := by simpa using k0
        by_cases k1' : o.kind = 1
        · have p1 : (o.kind == 1) = true := by rw [k1']; rfl
          cases hh : l.halted with
          | true =>
            have eb := Try.kCommitH 1000 L'.wf g' hh
            unfold oC at eb hab1
            repeat' (first
              | with_reducible refine VC_seq fun K hK => ?_
              | with_reducible refine W_region ?_
              | with_reducible refine VC_block ?_
              | with_reducible refine VC_scope ?_
              | with_reducible refine VC_if ?_
              | with_reducible refine VC_skip ?_
              | with_reducible refine VC_exit ?_
              | with_reducible refine VC_ret ?_
              | (with_reducible refine G_not (fun h => ?_) (fun h => ?_) <;> (try simp only [h]))
              | (with_reducible refine G_cases (fun h => ?_) (fun h => ?_) <;> (try simp only [h]))
              | refine And.intro h14 ?_
              | refine C_call rfl eb rfl hab1 ?_
              | (with_reducible refine hK _ ?_; clear hK K)
              | (clear hK K; with_reducible refine hK _ ?_; clear hK K)
              | (clear hK K; clear hK K; with_reducible refine hK _ ?_; clear hK K)
              | (clear hK K; clear hK K; clear hK K; with_reducible refine hK _ ?_; clear hK K)
              | (with_reducible refine todo ?_; simp +decide only [go_sem, f1, f2, hg, h14, hnx, upd_twice, p0, p1, z6e]))
            exact hfinS rfl rfl rfl rfl rfl rfl rfl rfl rfl
          | false =>
            cases hb : burnt d with
            | true =>
              obtain ⟨HB, AB, eb, hAB, LB, gB, fH⟩ := Try.sCommitB L' g' hh (by omega) hb
              subst hAB
              have hn := hy.next (c := oC o) (i' := i + 1) LB gB (fun j _ x2 => fH j x2) (fun τ h => h) hloA ha nc ⟨k1, by show k ≤ 203 + (i + 1); omega⟩ (by omega) (by show all.length ≤ i + 1; omega) hp.halt
              unfold oC at eb hab1
              repeat' (first
                | with_reducible refine VC_seq fun K hK => ?_
                | with_reducible refine W_region ?_
                | with_reducible refine VC_block ?_
                | with_reducible refine VC_scope ?_
                | with_reducible refine VC_if ?_
                | with_reducible refine VC_skip ?_
                | with_reducible refine VC_exit ?_
                | with_reducible refine VC_ret ?_
                | (with_reducible refine G_not (fun h => ?_) (fun h => ?_) <;> (try simp only [h]))
                | (with_reducible refine G_cases (fun h => ?_) (fun h => ?_) <;> (try simp only [h]))
                | refine And.intro h14 ?_
                | refine C_call rfl eb rfl hab1 ?_
                | (with_reducible refine hK _ ?_; clear hK K)
                | (clear hK K; with_reducible refine hK _ ?_; clear hK K)
                | (clear hK K; clear hK K; with_reducible refine hK _ ?_; clear hK K)
                | (clear hK K; clear hK K; clear hK K; with_reducible refine hK _ ?_; clear hK K)
                | (with_reducible refine todo ?_; simp +decide only [go_sem, f1, f2, hg, h14, hnx, upd_twice, p0, p1, z6e]))
              exact SV.fin (ops := ops) (keep := keep) hn (Nat.lt_succ_self i) rfl rfl w11 rfl rfl rfl rfl rfl rfl
            | false =>
              obtain ⟨HB, AB, eb, LB, gB, fH, fA, fK⟩ := Try.sCommitG L' (by omega) g' hh (by omega) (by omega) hb
              have hn := hy.next (c := oC o) (i' := i + 1) (sure' := all) LB gB (fun j x1 _ => fH j x1) fK (fun τ h => by rw [fA τ (nκ τ h).2.2.2 (by omega)]; exact hloA τ h) (by rw [fA _ (tok_ne (by show 202 ≠ 200; omega)) (by show 202 < k; omega)]; exact ha) (tok_ne (by show k ≠ 202; omega)) ⟨by show 203 ≤ k + 1; omega, by show k + 1 ≤ 203 + (i + 1); omega⟩ (by omega) (by show all.length ≤ i + 1; omega) (hp.commit hh)
              have w11' : PV.wk (hOver [] (upd HB 14 none)) AB AB (.c (.d (.sl (textsD all)))) (.c (.own (202, 0) (textsD all))) := by rw [wkP_down]; exact True.intro
              unfold oC at eb hab1
              repeat' (first
                | with_reducible refine VC_seq fun K hK => ?_
                | with_reducible refine W_region ?_
                | with_reducible refine VC_block ?_
                | with_reducible refine VC_scope ?_
                | with_reducible refine VC_if ?_
                | with_reducible refine VC_skip ?_
                | with_reducible refine VC_exit ?_
                | with_reducible refine VC_ret ?_
                | (with_reducible refine G_not (fun h => ?_) (fun h => ?_) <;> (try simp only [h]))
                | (with_reducible refine G_cases (fun h => ?_) (fun h => ?_) <;> (try simp only [h]))
                | refine And.intro h14 ?_
                | refine C_call rfl eb rfl hab1 ?_
                | (with_reducible refine hK _ ?_; clear hK K)
                | (clear hK K; with_reducible refine hK _ ?_; clear hK K)
                | (clear hK K; clear hK K; with_reducible refine hK _ ?_; clear hK K)
                | (clear hK K; clear hK K; clear hK K; with_reducible refine hK _ ?_; clear hK K)
                | (with_reducible refine todo ?_; simp +decide only [go_sem, f1, f2, hg, h14, hnx, upd_twice, p0, p1]))
              exact SV.fin (ops := ops) (keep := keep) hn (Nat.lt_succ_self i) rfl rfl w11' rfl rfl rfl rfl rfl rfl
        · have p1 : (o.kind == 1) = false := by simpa using k1'
          repeat' (first
            | with_reducible refine VC_seq fun K hK => ?_
            | with_reducible refine W_region ?_
            | with_reducible refine VC_block ?_
            | with_reducible refine VC_scope ?_
            | with_reducible refine VC_if ?_
            | with_reducible refine VC_skip ?_
            | with_reducible refine VC_exit ?_
            | with_reducible refine VC_ret ?_
            | (with_reducible refine G_not (fun h => ?_) (fun h => ?_) <;> (try simp only [h]))
            | (with_reducible refine G_cases (fun h => ?_) (fun h => ?_) <;> (try simp only [h]))
            | refine And.intro h14 ?_
            | (with_reducible refine hK _ ?_; clear hK K)
            | (clear hK K; with_reducible refine hK _ ?_; clear hK K)
            | (clear hK K; clear hK K; with_reducible refine hK _ ?_; clear hK K)
            | (clear hK K; clear hK K; clear hK K; with_reducible refine hK _ ?_; clear hK K)
            | (with_reducible refine todo ?_; simp +decide only [go_sem, f1, f2, hg, h14, hnx, upd_twice, p0, p1]))
          exact hfinS rfl rfl rfl rfl rfl rfl rfl rfl rfl
    · have kd := Try.kDirty 1000 L.wf L.dk (by omega) (by omega)
      have hdl : (ints (d.cache.map (·.1))).length = d.cache.length := by simp [ints]
      have hbl : (bools keep).length = keep.length := by simp [bools]
      obtain ⟨HD, AD, ed, LD, gD, fH1, fA1, fK1⟩ := Try.sCrash L (by omega) (by omega) (keep.take (min keep.length d.cache.length)) (by rw [List.length_take]; omega)
      obtain ⟨t0, b0, t1, b1, R, c1, c2, c3, c4, c5, c6⟩ := hp.crash (keep.take (min keep.length d.cache.length))
      obtain ⟨HE, AE, ee, LE, gE, _, fH2, fA2, fK2⟩ := Try.sOpen LD (by omega) c1 rfl
      generalize opL 3 30 t0 b0 t1 b1 R = l2 at *
      generalize nextD (crD d (keep.take (min keep.length d.cache.length))) 3 (opT t0 t1 + 1) (opB t0 b0 t1 b1) = d2 at *
      have ef := Try.kRecords 1000 LE.wf gE (by omega)
      have eg := Try.kGen 1000 LE.wf gE
      rw [c2] at eg
      have hr2 := textsD_len l2.recs
      have f5 : ((sure.length : Int) ≤ (l2.recs.length : Int)) = True := eq_true (by omega)
      have f6 : ((l2.recs.length : Int) ≤ (all.length : Int)) = True := eq_true (by omega)
      have hab1 : Above (0 + 1000) H A := Above_mono L.ab (by omega)
      have hab2 : Above (0 + 1000) HD AD := Above_mono LD.ab (by omega)
      have hab3 : Above (0 + 1000) HE AE := Above_mono LE.ab (by omega)
      have e9 := Try.kTexts l2.recs l2.recs (by omega)
      rw [show (l2.recs == l2.recs) = true by simp] at e9
      unfold tx at e9
      have hsl : (textsD all).take (l2.recs.length - 0) = textsD l2.recs := by
        rw [Nat.sub_zero]
        conv => rhs; rw [c6]
        exact (List.map_take).symm
      have hsb : (bools keep).take (min keep.length d.cache.length - 0) = bools (keep.take (min keep.length d.cache.length)) := by
        rw [Nat.sub_zero]; exact (List.map_take).symm
      have hmin : (if (d.cache.length : Int) < (keep.length : Int) then (d.cache.length : Int) else (keep.length : Int)) = ((min keep.length d.cache.length : Nat) : Int) := by split <;> omega
      have loE : ∀ τ : Tok, τ.1 < 200 → AE τ = none := fun τ h => by
        have hz := (lo τ.1 h).2 τ.2
        rw [fA2 τ (tok_ne (by show τ.1 ≠ 200; omega)) (tok_ne (by show τ.1 ≠ k; omega)) (by omega), fA1 τ (tok_ne (by show τ.1 ≠ 200; omega)) (by omega)]; exact hz
      have z22 : (((2 : Nat) : Int) == 2) = true := rfl
      by_cases q1 : i < ops.length
      · have f1 : ((i : Int) < ((opsD ops).length : Int)) = True := eq_true (by rw [hll]; omega)
        have f2 : ((i : Int) < 30) = False := eq_false (by omega)
        repeat' (first
          | with_reducible refine VC_seq fun K hK => ?_
          | with_reducible refine W_region ?_
          | with_reducible refine VC_block ?_
          | with_reducible refine VC_scope ?_
          | with_reducible refine VC_if ?_
          | with_reducible refine VC_skip ?_
          | with_reducible refine VC_exit ?_
          | with_reducible refine VC_ret ?_
          | (with_reducible refine G_not (fun h => ?_) (fun h => ?_) <;> (try simp only [h]))
          | (with_reducible refine G_cases (fun h => ?_) (fun h => ?_) <;> (try simp only [h]))
          | refine C_quiet rfl rfl kd rfl hab1 ?_
          | refine C_call rfl ed rfl hab1 ?_
          | refine C_call rfl ee rfl hab2 ?_
          | refine C_call rfl ef rfl hab3 ?_
          | refine C_call rfl eg rfl hab3 ?_
          | refine C_pure e9 rfl rfl (fun q => loE _ (Nat.le_of_ble_eq_true rfl)) ?_
          | refine C_pure e0 rfl rfl (fun q => loE _ (Nat.le_of_ble_eq_true rfl)) ?_
          | (refine W_slc (els := bools keep) (l := 0) (h := min keep.length d.cache.length) Try.appB rfl rfl (by simp [optNat, natOf?, intOf?]) (Nat.zero_le _) (by rw [hbl]; exact Nat.min_le_left _ _) (fun e he => by obtain ⟨w, _, rfl⟩ := List.mem_map.1 he; rfl) ?_)
          | (refine W_slc (els := textsD all) (l := 0) (h := l2.recs.length) Try.appT rfl rfl (by simp [optNat, natOf?, intOf?]) (Nat.zero_le _) (by rw [hral]; exact c4) (szd_texts _) ?_)
          | (with_reducible refine hK _ ?_; clear hK K)
          | (clear hK K; with_reducible refine hK _ ?_; clear hK K)
          | (clear hK K; clear hK K; with_reducible refine hK _ ?_; clear hK K)
          | (clear hK K; clear hK K; clear hK K; with_reducible refine hK _ ?_; clear hK K)
          | (with_reducible refine todo ?_; simp +decide only [go_sem, f1, f2, hdl, hbl, hr2, hral, hrsu, f5, f6, hsl, hsb, hmin, zne, z22]))
        exact RetR_same rfl (by simp +decide only [go_sem]) True.intro wf0 (fun i h => (h rfl).elim) (fun i h => (h rfl).elim)
      · have f1 : ((i : Int) < ((opsD ops).length : Int)) = False := eq_false (by rw [hll]; omega)
        repeat' (first
          | with_reducible refine VC_seq fun K hK => ?_
          | with_reducible refine W_region ?_
          | with_reducible refine VC_block ?_
          | with_reducible refine VC_scope ?_
          | with_reducible refine VC_if ?_
          | with_reducible refine VC_skip ?_
          | with_reducible refine VC_exit ?_
          | with_reducible refine VC_ret ?_
          | (with_reducible refine G_not (fun h => ?_) (fun h => ?_) <;> (try simp only [h]))
          | (with_reducible refine G_cases (fun h => ?_) (fun h => ?_) <;> (try simp only [h]))
          | refine C_quiet rfl rfl kd rfl hab1 ?_
          | refine C_call rfl ed rfl hab1 ?_
          | refine C_call rfl ee rfl hab2 ?_
          | refine C_call rfl ef rfl hab3 ?_
          | refine C_call rfl eg rfl hab3 ?_
          | refine C_pure e9 rfl rfl (fun q => loE _ (Nat.le_of_ble_eq_true rfl)) ?_
          | refine C_pure e0 rfl rfl (fun q => loE _ (Nat.le_of_ble_eq_true rfl)) ?_
          | (refine W_slc (els := bools keep) (l := 0) (h := min keep.length d.cache.length) Try.appB rfl rfl (by simp [optNat, natOf?, intOf?]) (Nat.zero_le _) (by rw [hbl]; exact Nat.min_le_left _ _) (fun e he => by obtain ⟨w, _, rfl⟩ := List.mem_map.1 he; rfl) ?_)
          | (refine W_slc (els := textsD all) (l := 0) (h := l2.recs.length) Try.appT rfl rfl (by simp [optNat, natOf?, intOf?]) (Nat.zero_le _) (by rw [hral]; exact c4) (szd_texts _) ?_)
          | (with_reducible refine hK _ ?_; clear hK K)
          | (clear hK K; with_reducible refine hK _ ?_; clear hK K)
          | (clear hK K; clear hK K; with_reducible refine hK _ ?_; clear hK K)
          | (clear hK K; clear hK K; clear hK K; with_reducible refine hK _ ?_; clear hK K)
          | (with_reducible refine todo ?_; simp +decide only [go_sem, f1, hdl, hbl, hr2, hral, hrsu, f5, f6, hsl, hsb, hmin, zne, z22]))
        exact RetR_same rfl (by simp +decide only [go_sem]) True.intro wf0 (fun i h => (h rfl).elim) (fun i h => (h rfl).elim)
end Go.Proofs
