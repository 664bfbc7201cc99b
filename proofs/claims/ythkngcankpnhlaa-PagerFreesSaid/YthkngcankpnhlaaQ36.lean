import Derived.Test.YthkngcankpnhlaaQ35

/-
  PagerFrees: the law's body.
-/

namespace Go.Proofs
open Go.PW
@[go_sem] theorem B_bneqF {P : Program} {T : TypeId} {a b : Bool} (h : P.underlying T = some .bool) : binS P .neq T (.c (.d (.lit (.bool a)))) (.c (.d (.lit (.bool b)))) = some (lit (.bool (!(a == b)))) := by
  simp [binS, eqS, h]
@[go_sem] theorem B_beqF {P : Program} {T : TypeId} {a b : Bool} (h : P.underlying T = some .bool) : binS P .eql T (.c (.d (.lit (.bool a)))) (.c (.d (.lit (.bool b)))) = some (lit (.bool (a == b))) := by
  simp [binS, eqS, h]
structure FrS where
  i : Nat
  H : HMap
  A : AMap
  ch : List (Int × List UInt8)
  l : List Bool
/-- What holds ahead of each call. -/
structure FrV (m : Nat) (y : FrS) : Prop where
  px : PX y.H y.A 203 200 202 (10 + m) 10 1 y.ch knZ
  i : y.i ≤ 80
  n : y.l.length = m
  z : y.l.getD 0 true = true
  f : ∀ j, j < m → isF (ct knZ y.ch 0) j = !y.l.getD j true
def FrF (m : Nat) (sc : List UInt8) (y : FrS) : St :=
  over [(1, .c (.d (.sl (bytesEls sc)))), (5, pD (.lit (.int .i64 m))), (8, .c (.ptr 202 0)), (10, .c (.mt (48, 0) 1 m)), (11, pD (.lit (.int .i64 y.i)))] [] y.H (upd y.A (48, 0) (some (.mu 1 (bools y.l))))
theorem FrV.lo {m : Nat} {y : FrS} (h : FrV m y) : Wf y.H y.A ∧ (∀ j, j < 200 → y.H j = none ∧ ∀ q, y.A (j, q) = none) ∧ Above 203 y.H y.A ∧ y.H 202 ≠ none ∧ (ct knZ y.ch 0).length = 128 := by
  obtain ⟨_, _, n3, _, _, _, _, _, _, _, hw, hab, _, hp, lo, _, hl⟩ := h.px.nums
  exact ⟨hw, lo, hab, hp, hl 0 (by omega)⟩
set_option maxRecDepth 8000 in
set_option maxHeartbeats 64000000 in
theorem Try.kPagerFrees (n : Nat) (hn : n < 256) (sc : List UInt8) : PureOK Try.prog 3 [pD (.lit (.int .u8 n)), .c (.d (.sl (bytesEls sc)))] (.one (.d (.lit (.bool true)))) := by
  have e0 := Try.kKnown
  obtain ⟨m, hm⟩ : ∃ m : Nat, m = 2 + n % 40 := ⟨_, rfl⟩
  have c1 : Int.tmod (n : Int) 40 = ((n % 40 : Nat) : Int) := tmod_nat n 40
  have c2 : IntKind.i64.wrap ((n : Int)) = (n : Int) := Go.IntWalk.i64_in _ (by omega)
  have c3 : IntKind.i64.wrap ((2 : Int) + ((n % 40 : Nat) : Int)) = ((m : Nat) : Int) := by rw [Go.IntWalk.i64_in _ (by omega)]; omega
  have c4 : IntKind.i64.wrap ((10 : Int) + (m : Int)) = ((10 + m : Nat) : Int) := by rw [Go.IntWalk.i64_in _ (by omega)]; omega
  obtain ⟨H1, A1, e1, L1, lo1, lo2⟩ := Try.sNew 200 (10 + m) (by omega) (by omega)
  have D1 := DX.new (logs := 10) L1 (by omega) (by omega) (by omega) (by omega) (by omega) (fun j hj => ⟨lo1 j (by omega), fun q => lo2 _ (by show j ≠ 200; omega)⟩)
  obtain ⟨H2, A2, e2, P2⟩ := Try.pOpen 1000 D1 (by omega)
  have P2 : PX H2 A2 203 200 202 (10 + m) 10 1 [] knZ := P2
  have b1 : Above 1000 H1 A1 := Above_mono L1.ab (by omega)
  have hsl := bytesEls_length sc
  have hy0 : FrV m ⟨0, H2, A2, [], (List.replicate m false).set 0 true⟩ := by
    refine ⟨P2, by show 0 ≤ 80; omega, by show ((List.replicate m false).set 0 true).length = m; rw [List.length_set, List.length_replicate], ?_, fun j hj => ?_⟩
    · show ((List.replicate m false).set 0 true).getD 0 true = true
      rw [getD_set (by rw [List.length_replicate]; omega), if_pos rfl]
    · show isF (ct knZ [] 0) j = !((List.replicate m false).set 0 true).getD j true
      rw [getD_set (by rw [List.length_replicate]; omega), show ct knZ [] 0 = zeros from rfl, isF_zeros]
      by_cases e : j = 0
      · rw [if_pos e, e]; rfl
      · rw [if_neg e, List.getD_eq_getElem?_getD, List.getElem?_replicate, if_pos hj]
        simpa using e
  have hA2 : A2 (48, 0) = none := (hy0.lo.2.1 48 (by omega)).2 0
  have hl0 : ((List.replicate m false).set 0 true).length = m := by rw [List.length_set, List.length_replicate]
  refine pure_eff rfl (effr_ok (E := envOf Try.prog [9, 10, 11, 12, 14, 15, 2000000 + 16, 17, 4000000 + 30] 0 [48] [35]) (envOf_ok Try.mixed) Try.func3 rfl Try.call3 (by kernel_rfl) (by exact Nat.le_of_ble_eq_true rfl) (fun hab => ?_))
  have hi0 : idxE Try.prog 4 0 (.c (.mt (48, 0) 1 m)) = some (.c (.mptr (48, 0) 1 m 0 0)) := by
    show (if 0 < m ∧ 1 = Try.prog.cellsOf 4 then _ else none) = _
    rw [if_pos ⟨by omega, by rw [Try.cl4]⟩]
  have hbl0 : (m = (bools (List.replicate m false)).length) = True := eq_true (by rw [bools_len, List.length_replicate])
  have hg0 : (bools (List.replicate m false))[0]? = some [.lit (.bool false)] := by
    rw [bools_get (by rw [List.length_replicate]; omega), List.getD_eq_getElem?_getD, List.getElem?_replicate, if_pos (by omega)]; rfl
  have hb := bools_rep m false
  repeat' (first
   | with_reducible first | refine VC_seq fun K hK => ?_ | refine W_region ?_ | refine VC_block ?_ | refine VC_scope ?_ | refine VC_if ?_ | refine VC_skip ?_ | refine VC_exit ?_ | refine VC_ret ?_
   | (with_reducible first | refine G_not (fun h => ?_) (fun h => ?_) | refine G_cases (fun h => ?_) (fun h => ?_)) <;> (try simp only [h])
   | refine C_call rfl e1 rfl (Above_mono hab (by omega)) ?_
   | refine C_call rfl e2 rfl b1 ?_
   | (refine W_mksm Try.underlying30 Try.ze4 Try.cl4 (by omega) (by omega) (by show m * Try.prog.bytesOf 4 ≤ _; rw [Try.by4]; omega) hA2 ?_)
   | with_reducible first | (refine hK _ ?_; clear hK K) | (clear hK K; refine hK _ ?_; clear hK K) | (clear hK K; clear hK K; refine hK _ ?_; clear hK K) | (clear hK K; clear hK K; clear hK K; refine hK _ ?_; clear hK K)
   | (with_reducible refine todo ?_; simp +decide only [go_sem, c1, c2, c3, c4, zne, hb, hi0, hbl0, hg0, bools_set, upd_twice]))
  refine VC_while (ι := FrS) (FrV m) (FrF m sc) (fun y => 80 - y.i) ⟨0, H2, A2, [], (List.replicate m false).set 0 true⟩ hy0 ?_ ?_
  · have w : ∀ {X Y : AMap}, PV.wk (hOver [] H2) X Y (.c (.ptr 202 0)) (.c (.ptr 202 0)) = True := eq_true (wkP_ptr (by show H2 202 ≠ none; exact hy0.lo.2.2.2.1))
    have w2 : PV.wk (hOver [] H2) (upd A2 (48, 0) (some (.mu 1 (bools ((List.replicate m false).set 0 true))))) (upd A2 (48, 0) (some (.mu 1 (bools ((List.replicate m false).set 0 true))))) (.c (.mt (48, 0) 1 m)) (.c (.mt (48, 0) 1 m)) = True := eq_true (wk_c (.inr (.inl ⟨rfl, by rw [upd_same]; simp, rfl⟩)))
    unfold FrF
    refine Weak_overG (Wf_arr hy0.lo.1 upd_keep) (fun _ _ => rfl) rfl ?_ ?_ (fun i hi => (hi rfl).elim) (fun τ h => (h rfl).elim)
    · simp +decide only [go_sem, w, w2]
    · simp +decide only [go_sem]
  · rintro ⟨i, H, A, ch, l⟩ hy
    obtain ⟨hw, lo, hab0, hp0, h128⟩ := hy.lo
    obtain ⟨P, hi, hl, hz, hf⟩ := hy
    simp only at P hi hl hz hf hw lo hab0 hp0 h128
    have hnx : IntKind.i64.wrap ((i : Int) + 1) = ((i + 1 : Nat) : Int) := by rw [Go.IntWalk.i64_in _ (by omega)]; omega
    have hA0 : A (48, 0) = none := (lo 48 (by omega)).2 0
    unfold FrF
    by_cases q1 : i < sc.length
    · have f1 : ((i : Int) < ((bytesEls sc).length : Int)) = True := eq_true (by rw [hsl]; omega)
      by_cases q2 : i < 80
      · have f2 : ((i : Int) < 80) = True := eq_true (by omega)
        have hg := bytesEls_get q1
        have hcc : sc[i].toNat < 256 := sc[i].toNat_lt
        generalize sc[i].toNat = c at hg hcc
        have d1 : IntKind.i64.wrap ((c : Int)) = (c : Int) := Go.IntWalk.i64_in _ (by omega)
        have d2 : Int.tmod (c : Int) (m : Int) = ((c % m : Nat) : Int) := tmod_nat c m
        have d3 : ((m : Int) = 0) = False := eq_false (by omega)
        have hkm : c % m < m := Nat.mod_lt _ (by omega)
        repeat' (first
         | with_reducible first | refine VC_seq fun K hK => ?_ | refine W_region ?_ | refine VC_block ?_ | refine VC_scope ?_ | refine VC_if ?_ | refine VC_skip ?_ | refine VC_exit ?_ | refine VC_ret ?_
         | (with_reducible first | refine G_not (fun h => ?_) (fun h => ?_) | refine G_cases (fun h => ?_) (fun h => ?_)) <;> (try simp only [h])
         | with_reducible first | (refine hK _ ?_; clear hK K) | (clear hK K; refine hK _ ?_; clear hK K) | (clear hK K; clear hK K; refine hK _ ?_; clear hK K) | (clear hK K; clear hK K; clear hK K; refine hK _ ?_; clear hK K)
         | (with_reducible refine todo ?_; simp +decide only [go_sem, f1, f2, hg, d1, d2, d3]))
        rename_i K2 hK2
        have hidx : ∀ t, t < m → idxE Try.prog 4 t (.c (.mt (48, 0) 1 m)) = some (.c (.mptr (48, 0) 1 m t 0)) := fun t ht => by
          show (if t < m ∧ 1 = Try.prog.cellsOf 4 then _ else none) = _
          rw [if_pos ⟨ht, by rw [Try.cl4]⟩]
        have back : ∀ (H' : HMap) (A' : AMap) (ch' : List (Int × List UInt8)) (l' : List Bool), FrV m ⟨i + 1, H', A', ch', l'⟩ → ∀ S : St, S.H = H' → S.A = upd A' (48, 0) (some (.mu 1 (bools l'))) → S.ρ 1 = .c (.d (.sl (bytesEls sc))) → S.ρ 5 = pD (.lit (.int .i64 m)) → S.ρ 8 = .c (.ptr 202 0) → S.ρ 10 = .c (.mt (48, 0) 1 m) → S.ρ 11 = pD (.lit (.int .i64 i)) → K2 S := by
          rintro H' A' ch' l' hv ⟨ρ, HS, AS⟩ rfl rfl r1 r5 r8 r10 r11
          simp only at r1 r5 r8 r10 r11
          refine hK2 _ ?_
          clear hK hK2
          repeat' (first
           | with_reducible first | refine VC_seq fun K hK => ?_ | refine W_region ?_ | refine VC_block ?_ | refine VC_scope ?_ | refine VC_if ?_ | refine VC_skip ?_ | refine VC_exit ?_ | refine VC_ret ?_
           | (with_reducible first | refine G_not (fun h => ?_) (fun h => ?_) | refine G_cases (fun h => ?_) (fun h => ?_)) <;> (try simp only [h])
           | with_reducible first | (refine hK _ ?_; clear hK K) | (clear hK K; refine hK _ ?_; clear hK K) | (clear hK K; clear hK K; refine hK _ ?_; clear hK K) | (clear hK K; clear hK K; clear hK K; refine hK _ ?_; clear hK K)
           | (with_reducible refine todo ?_; simp +decide only [go_sem, r11, hnx]))
          refine ⟨⟨⟨i + 1, HS, A', ch', l'⟩, hv⟩, ?_, by show 80 - (i + 1) < 80 - i; omega⟩
          have w : ∀ {X Y : AMap}, PV.wk (hOver [] HS) X Y (.c (.ptr 202 0)) (.c (.ptr 202 0)) = True := eq_true (wkP_ptr (by show HS 202 ≠ none; exact hv.lo.2.2.2.1))
          have w2 : PV.wk (hOver [] HS) (upd A' (48, 0) (some (.mu 1 (bools l')))) (upd A' (48, 0) (some (.mu 1 (bools l')))) (.c (.mt (48, 0) 1 m)) (.c (.mt (48, 0) 1 m)) = True := eq_true (wk_c (.inr (.inl ⟨rfl, by rw [upd_same]; simp, rfl⟩)))
          refine Weak_overG (Wf_arr hv.lo.1 upd_keep) (fun _ _ => rfl) rfl ?_ ?_ (fun i hi => (hi rfl).elim) (fun τ h => (h rfl).elim)
          · simp +decide only [go_sem, w, w2, r1, r5, r8, r10]
          · simp +decide only [go_sem]
        have rest1 : ∀ L, L ≤ m → (∀ j, j < L → l.getD j true = true) → (L < m → l.getD L true = false) → ∀ S : St, S.H = H → S.A = upd A (48, 0) (some (.mu 1 (bools l))) → S.ρ 1 = .c (.d (.sl (bytesEls sc))) → S.ρ 5 = pD (.lit (.int .i64 m)) → S.ρ 8 = .c (.ptr 202 0) → S.ρ 10 = .c (.mt (48, 0) 1 m) → S.ρ 11 = pD (.lit (.int .i64 i)) →
            S.ρ 12 = pD (.lit (.int .i64 (c % m : Nat))) → S.ρ 13 = pD (.lit (.int .i64 L)) → K S := by
          rintro L hL hL1 hL2 ⟨ρ, HS, AS⟩ rfl rfl r1 r5 r8 r10 r11 r12 r13
          simp only at r1 r5 r8 r10 r11 r12 r13
          refine hK _ ?_
          clear hK hK2
          refine VC_seq fun K3 hK3 => ?_
          have rest3 : ∀ (H' : HMap) (A' : AMap) (ch' : List (Int × List UInt8)) (l' : List Bool), FrV m ⟨i + 1, H', A', ch', l'⟩ → ∀ S : St, S.H = H' → S.A = upd A' (48, 0) (some (.mu 1 (bools l'))) → S.ρ 1 = .c (.d (.sl (bytesEls sc))) → S.ρ 5 = pD (.lit (.int .i64 m)) → S.ρ 8 = .c (.ptr 202 0) → S.ρ 10 = .c (.mt (48, 0) 1 m) → S.ρ 11 = pD (.lit (.int .i64 i)) → K3 S := by
            rintro H' A' ch' l' hv ⟨ρ', HS', AS'⟩ rfl rfl r1 r5 r8 r10 r11
            simp only at r1 r5 r8 r10 r11
            refine hK3 _ ?_
            clear hK3
            have hback := back _ _ _ _ hv
            obtain ⟨vw, vlo, vab, vp, v128⟩ := hv.lo
            obtain ⟨vP, _, vl, vz, vf⟩ := hv
            simp only at vP vl vz vf vw vlo vab vp v128
            have vA0 : A' (48, 0) = none := (vlo 48 (by omega)).2 0
            have vab2 : Above (0 + 1000) HS' (upd A' (48, 0) (some (.mu 1 (bools l')))) := Above_updA (Above_mono vab (by omega)) (by show 48 < 0 + 1000; omega)
            have vfr := eff_frameA (κ := (48, 0)) (ar := .mu 1 (bools l')) (Try.pFrees 1000 vP) vw (oks_ptr1 vp) vA0 vA0
            rw [show (10 + m - 10 : Nat) = m by omega, frees_cnt vf] at vfr
            have hbl : (m = (bools l').length) = True := eq_true (by rw [bools_len, vl])
            have w : ∀ {X Y : AMap}, PV.wk (hOver [] HS') X Y (.c (.ptr 202 0)) (.c (.ptr 202 0)) = True := eq_true (wkP_ptr (by show HS' 202 ≠ none; exact vp))
            have w2 : PV.wk (hOver [] HS') (upd A' (48, 0) (some (.mu 1 (bools l')))) (upd A' (48, 0) (some (.mu 1 (bools l')))) (.c (.mt (48, 0) 1 m)) (.c (.mt (48, 0) 1 m)) = True := eq_true (wk_c (.inr (.inl ⟨rfl, by rw [upd_same]; simp, rfl⟩)))
            repeat' (first
             | with_reducible first | refine VC_seq fun K hK => ?_ | refine W_region ?_ | refine VC_block ?_ | refine VC_scope ?_ | refine VC_if ?_ | refine VC_skip ?_ | refine VC_exit ?_ | refine VC_ret ?_
             | (with_reducible first | refine G_not (fun h => ?_) (fun h => ?_) | refine G_cases (fun h => ?_) (fun h => ?_)) <;> (try simp only [h])
             | with_reducible first | (refine hK _ ?_; clear hK K) | (clear hK K; refine hK _ ?_; clear hK K) | (clear hK K; clear hK K; refine hK _ ?_; clear hK K) | (clear hK K; clear hK K; clear hK K; refine hK _ ?_; clear hK K)
             | (with_reducible refine todo ?_; simp +decide only [go_sem]))
            refine VC_range m (fun _ => True) (fun t => over [(1, .c (.d (.sl (bytesEls sc)))), (5, pD (.lit (.int .i64 m))), (8, .c (.ptr 202 0)), (10, .c (.mt (48, 0) 1 m)), (11, pD (.lit (.int .i64 i))), (18, pD (.lit (.int .i64 (cntF l' t)))), (19, pD (.lit (.int .i64 t)))] [] HS' (upd A' (48, 0) (some (.mu 1 (bools l'))))) True.intro ?_ ?_
            · refine Weak_overG (Wf_arr vw upd_keep) (fun _ _ => rfl) rfl ?_ ?_ (fun i hi => (hi rfl).elim) (fun τ h => (h rfl).elim)
              · simp +decide only [go_sem, w, w2, r1, r5, r8, r10, r11, cntF]
              · simp +decide only [go_sem]
            · intro t ht _
              rcases Nat.lt_or_ge t m with ht2 | ht2
              · have hc := int_lt_true ht2
                have hnt := int_next ht2 (by omega)
                have hit := hidx t ht2
                have hgt := bools_get (l := l') (i := t) (by omega)
                have hcl := cntF_le l' t
                have ct1 : IntKind.i64.wrap ((cntF l' t : Int) + 1) = ((cntF l' t + 1 : Nat) : Int) := Go.IntWalk.i64_in _ (by omega)
                have kq := eff_frameA (κ := (48, 0)) (ar := .mu 1 (bools l')) (Try.pIsFree 1000 vP t (by omega)) vw (oks_args (l := [.lit (.int .i64 t)]) vp) vA0 vA0
                have vft := vf t ht2
                cases hb : l'.getD t true with
                | true =>
                  have ec : cntF l' (t + 1) = cntF l' t := by rw [show cntF l' (t + 1) = cntF l' t + (if l'.getD t true = false then 1 else 0) from rfl, hb]; rfl
                  rw [hb] at hgt vft
                  rw [vft] at kq
                  repeat' (first
                   | with_reducible first | refine VC_seq fun K hK => ?_ | refine W_region ?_ | refine VC_block ?_ | refine VC_scope ?_ | refine VC_if ?_ | refine VC_skip ?_ | refine VC_exit ?_ | refine VC_ret ?_
                   | (with_reducible first | refine G_not (fun h => ?_) (fun h => ?_) | refine G_cases (fun h => ?_) (fun h => ?_)) <;> (try simp only [h])
                   | refine C_quiet rfl rfl kq rfl vab2 ?_
                   | with_reducible first | (refine hK _ ?_; clear hK K) | (clear hK K; refine hK _ ?_; clear hK K) | (clear hK K; clear hK K; refine hK _ ?_; clear hK K) | (clear hK K; clear hK K; clear hK K; refine hK _ ?_; clear hK K)
                   | (with_reducible refine todo ?_; simp +decide only [go_sem, hc, hnt, hit, hbl, hgt]))
                  refine Next_of ht2 True.intro (Weak_overG (Wf_arr vw upd_keep) kp_nil rfl ?_ ?_ (fun i hi => (hi rfl).elim) (fun τ h => (h rfl).elim))
                  · simp +decide only [go_sem, w, w2, ec]
                  · simp +decide only [go_sem]
                | false =>
                  have ec : cntF l' (t + 1) = cntF l' t + 1 := by rw [show cntF l' (t + 1) = cntF l' t + (if l'.getD t true = false then 1 else 0) from rfl, hb]; rfl
                  rw [hb] at hgt vft
                  rw [vft] at kq
                  repeat' (first
                   | with_reducible first | refine VC_seq fun K hK => ?_ | refine W_region ?_ | refine VC_block ?_ | refine VC_scope ?_ | refine VC_if ?_ | refine VC_skip ?_ | refine VC_exit ?_ | refine VC_ret ?_
                   | (with_reducible first | refine G_not (fun h => ?_) (fun h => ?_) | refine G_cases (fun h => ?_) (fun h => ?_)) <;> (try simp only [h])
                   | refine C_quiet rfl rfl kq rfl vab2 ?_
                   | with_reducible first | (refine hK _ ?_; clear hK K) | (clear hK K; refine hK _ ?_; clear hK K) | (clear hK K; clear hK K; refine hK _ ?_; clear hK K) | (clear hK K; clear hK K; clear hK K; refine hK _ ?_; clear hK K)
                   | (with_reducible refine todo ?_; simp +decide only [go_sem, hc, hnt, hit, hbl, hgt, ct1]))
                  refine Next_of ht2 True.intro (Weak_overG (Wf_arr vw upd_keep) kp_nil rfl ?_ ?_ (fun i hi => (hi rfl).elim) (fun τ h => (h rfl).elim))
                  · simp +decide only [go_sem, w, w2, ec]
                  · simp +decide only [go_sem]
              · have hc := int_lt_false ht2
                obtain rfl : t = m := by omega
                have ceq : ((cntF l' t : Int) != (cntF l' t : Int)) = false := by simp
                repeat' (first
                 | with_reducible first | refine VC_seq fun K hK => ?_ | refine W_region ?_ | refine VC_block ?_ | refine VC_scope ?_ | refine VC_if ?_ | refine VC_skip ?_ | refine VC_exit ?_ | refine VC_ret ?_
                 | (with_reducible first | refine G_not (fun h => ?_) (fun h => ?_) | refine G_cases (fun h => ?_) (fun h => ?_)) <;> (try simp only [h])
                 | refine C_call rfl vfr rfl vab2 ?_
                 | with_reducible first | (refine hK _ ?_; clear hK K) | (clear hK K; refine hK _ ?_; clear hK K) | (clear hK K; clear hK K; refine hK _ ?_; clear hK K) | (clear hK K; clear hK K; clear hK K; refine hK _ ?_; clear hK K)
                 | (with_reducible refine todo ?_; simp +decide only [go_sem, hc, ceq]))
                exact hback _ rfl rfl rfl rfl rfl rfl rfl
          clear hK3 back
          have plo : ∀ {X : HMap} {Y : AMap} {T : Nat} {c : List (Int × List UInt8)} {b : Nat → List UInt8} (ar : Arr), PX X Y 203 200 202 (10 + m) 10 T c b → Wf X Y ∧ Y (48, 0) = none ∧ Above (0 + 1000) X (upd Y (48, 0) (some ar)) ∧ X 202 ≠ none ∧ ∀ j, j < 200 → j ≠ 48 → ∀ q, upd Y (48, 0) (some ar) (j, q) = none := fun ar h => by
            obtain ⟨_, _, _, _, _, _, _, _, _, _, xw, xab, _, xp, xlo, _⟩ := h.nums
            exact ⟨xw, (xlo 48 (by omega)).2 0, Above_updA (Above_mono xab (by omega)) (by show 48 < 0 + 1000; omega), xp, fun j h1 h2 q => (upd_other _ _ (tok_ne h2)).trans ((xlo j h1).2 q)⟩
          have hbl : (m = (bools l).length) = True := eq_true (by rw [bools_len, hl])
          have h8 : ∀ j, j < m → j / 8 < (ct knZ ch 0).length := fun j hj => by rw [h128]; omega
          obtain ⟨_, _, ab1, _, _⟩ := plo (.mu 1 (bools l)) P
          by_cases qc : c < 128
          · have f3 : ((c : Int) < 128) = True := eq_true (by omega)
            by_cases hLm : L < m
            · have hb := hL2 hLm
              have hL0 : L ≠ 0 := fun e => by rw [e, hz] at hb; cases hb
              have hfL : freeB (ct knZ ch 0) L = true := by
                have := hf L hLm
                rw [hb] at this
                unfold isF at this
                simp only [Bool.not_false, Bool.and_eq_true] at this
                exact this.2
              obtain ⟨HA, AA, eA, PA, _, _⟩ := Try.pAlloc 1000 P L hL0 (by omega) hfL (fun j h1 h2 => by
                have := hf j (by omega)
                rw [hL1 j h2] at this
                unfold isF at this
                have e : (j != 0) = true := by simpa using h1
                rw [e, Bool.true_and] at this
                exact this)
              obtain ⟨xw, xa, ab2, xp, lo2'⟩ := plo (.mu 1 (bools l)) PA
              have eA := eff_frameA (κ := (48, 0)) (ar := .mu 1 (bools l)) eA hw (oks_ptr1 hp0) hA0 xa
              have eR := Try.pRead 1000 PA L (by omega)
              rw [ct_put, if_pos rfl] at eR
              have eR := eff_frameA (κ := (48, 0)) (ar := .mu 1 (bools l)) eR xw (oks_args (l := [.lit (.int .i64 L)]) xp) xa xa
              have ePd := Try.kPad [] (by decide)
              rw [show pad [] = zeros by decide +kernel] at ePd
              obtain ⟨HW, AW, eW, PW, _, _⟩ := Try.pWrite 1000 PA L hL0 (by omega) [120] (by decide)
              obtain ⟨yw, ya, _, yp, _⟩ := plo (.mu 1 (bools l)) PW
              have eW := eff_frameA (κ := (48, 0)) (ar := .mu 1 (bools (l.set L true))) eW xw (oks_args (l := [.lit (.int .i64 L), dS [120]]) xp) xa ya
              obtain ⟨_, _, ab3, _, _⟩ := plo (.mu 1 (bools (l.set L true))) PA
              have hv : FrV m ⟨i + 1, HW, AW, putN (putN (putN ch ((0 : Nat) : Int) (flipB (ct knZ ch 0) L)) (L : Int) zeros) (L : Int) (pad [120]), l.set L true⟩ := by
                have e0 : ct knZ (putN (putN (putN ch ((0 : Nat) : Int) (flipB (ct knZ ch 0) L)) (L : Int) zeros) (L : Int) (pad [120])) 0 = flipB (ct knZ ch 0) L := by
                  rw [ct_put, if_neg hL0, ct_put, if_neg hL0, ct_put, if_pos rfl]
                refine ⟨PW, by show i + 1 ≤ 80; omega, by show (l.set L true).length = m; rw [List.length_set]; exact hl, by show (l.set L true).getD 0 true = true; rw [getD_set (by omega), if_neg (Ne.symm hL0)]; exact hz, fun j hj => ?_⟩
                show isF (ct knZ _ 0) j = !(l.set L true).getD j true
                rw [e0, isF_flip hL0 (h8 L hLm) (h8 j hj), getD_set (by omega)]
                by_cases e : j = L
                · rw [if_pos e, if_pos e, hf L hLm, hb]; rfl
                · rw [if_neg e, if_neg e]; exact hf j hj
              have hit := hidx L hLm
              have hgt := bools_get (l := l) (i := L) (by omega)
              have hLm' := int_lt_true hLm
              have u1 : ((L : Int) != (L : Int)) = false := by simp
              have u2 : (zeros == zeros) = true := beq_self_eq_true _
              generalize zeros = zs at *
              repeat' (first
               | with_reducible first | refine VC_seq fun K hK => ?_ | refine W_region ?_ | refine VC_block ?_ | refine VC_scope ?_ | refine VC_if ?_ | refine VC_skip ?_ | refine VC_exit ?_ | refine VC_ret ?_
               | (with_reducible first | refine G_not (fun h => ?_) (fun h => ?_) | refine G_cases (fun h => ?_) (fun h => ?_)) <;> (try simp only [h])
               | refine C_call rfl eA rfl ab1 ?_
               | refine C_call rfl eR rfl ab2 ?_
               | refine C_pure ePd rfl rfl (fun k => lo2' _ (Nat.le_of_ble_eq_true rfl) (Nat.ne_of_gt (Nat.le_of_ble_eq_true rfl)) k) ?_
               | refine C_call rfl eW rfl ab3 ?_
               | with_reducible first | (refine hK _ ?_; clear hK K) | (clear hK K; refine hK _ ?_; clear hK K) | (clear hK K; clear hK K; refine hK _ ?_; clear hK K) | (clear hK K; clear hK K; clear hK K; refine hK _ ?_; clear hK K)
               | (with_reducible refine todo ?_; simp +decide only [go_sem, r1, r5, r8, r10, r11, r13, hg, f3, hLm', u1, u2, hit, hbl, hgt, bools_set, upd_twice]))
              exact rest3 _ _ _ _ hv _ rfl rfl r1 r5 r8 r10 r11
            · obtain rfl : L = m := by omega
              have eA := eff_frameA (κ := (48, 0)) (ar := .mu 1 (bools l)) (Try.pAllocN 1000 P (fun j h1 h2 => by
                have := hf j (by omega)
                rw [hL1 j (by omega)] at this
                unfold isF at this
                have e : (j != 0) = true := by simpa using h1
                rw [e, Bool.true_and] at this
                exact this)) hw (oks_ptr1 hp0) hA0 hA0
              have eR := eff_frameA (κ := (48, 0)) (ar := .mu 1 (bools l)) (Try.pRead 1000 P 0 (by omega)) hw (oks_args (l := [.lit (.int .i64 ((0 : Nat) : Int))]) hp0) hA0 hA0
              have hLm' : ((L : Int) < (L : Int)) = False := eq_false (by omega)
              have z3 : ((3 : Int) == 0) = false := rfl
              have hv : FrV L ⟨i + 1, HS, A, ch, l⟩ := ⟨P, by show i + 1 ≤ 80; omega, hl, hz, hf⟩
              repeat' (first
               | with_reducible first | refine VC_seq fun K hK => ?_ | refine W_region ?_ | refine VC_block ?_ | refine VC_scope ?_ | refine VC_if ?_ | refine VC_skip ?_ | refine VC_exit ?_ | refine VC_ret ?_
               | (with_reducible first | refine G_not (fun h => ?_) (fun h => ?_) | refine G_cases (fun h => ?_) (fun h => ?_)) <;> (try simp only [h])
               | refine C_call rfl eA rfl ab1 ?_
               | refine C_call rfl eR rfl ab1 ?_
               | with_reducible first | (refine hK _ ?_; clear hK K) | (clear hK K; refine hK _ ?_; clear hK K) | (clear hK K; clear hK K; refine hK _ ?_; clear hK K) | (clear hK K; clear hK K; clear hK K; refine hK _ ?_; clear hK K)
               | (with_reducible refine todo ?_; simp +decide only [go_sem, r1, r5, r8, r11, r13, hg, f3, hLm', z3]))
              exact rest3 _ _ _ _ hv _ rfl rfl r1 r5 r8 r10 r11
          · have f3 : ((c : Int) < 128) = False := eq_false (by omega)
            have hv0 : FrV m ⟨i + 1, HS, A, ch, l⟩ := ⟨P, by show i + 1 ≤ 80; omega, hl, hz, hf⟩
            have a2 : ∀ x ∈ ([.c (.ptr 202 0), .c (.d (.lit (.int .i64 (c % m : Nat))))] : List PV), x.oks (fun i => HS i ≠ none) (fun κ => A κ ≠ none) := oks_args (l := [.lit (.int .i64 (c % m : Nat))]) hp0
            generalize c % m = q at *
            by_cases hq0 : q = 0
            · have hE : pgFrE (10 + m - 10) (ct knZ ch 0) (q : Int) = 1 := by
                unfold pgFrE pgRight
                have z : (if (q : Int) < 0 ∨ ((10 + m - 10 : Nat) : Int) ≤ (q : Int) then (2 : Int) else 0) = 0 := if_neg (by omega)
                rw [z, if_neg (by simp), if_pos (by omega)]
              have eF := Try.pFreeE 1000 P (q : Int) (by rw [hE]; decide)
              rw [hE] at eF
              have eF := eff_frameA (κ := (48, 0)) (ar := .mu 1 (bools l)) eF hw a2 hA0 hA0
              have z1 : ((1 : Int) == 0) = false := rfl
              repeat' (first
               | with_reducible first | refine VC_seq fun K hK => ?_ | refine W_region ?_ | refine VC_block ?_ | refine VC_scope ?_ | refine VC_if ?_ | refine VC_skip ?_ | refine VC_exit ?_ | refine VC_ret ?_
               | (with_reducible first | refine G_not (fun h => ?_) (fun h => ?_) | refine G_cases (fun h => ?_) (fun h => ?_)) <;> (try simp only [h])
               | refine C_call rfl eF rfl ab1 ?_
               | with_reducible first | (refine hK _ ?_; clear hK K) | (clear hK K; refine hK _ ?_; clear hK K) | (clear hK K; clear hK K; refine hK _ ?_; clear hK K) | (clear hK K; clear hK K; clear hK K; refine hK _ ?_; clear hK K)
               | (with_reducible refine todo ?_; simp +decide only [go_sem, r1, r8, r11, r12, hg, f3, z1]))
              exact rest3 _ _ _ _ hv0 _ rfl rfl r1 r5 r8 r10 r11
            · have hzr : (if (q : Int) < 0 ∨ ((10 + m - 10 : Nat) : Int) ≤ (q : Int) then (2 : Int) else 0) = 0 := if_neg (by omega)
              have hfq := hf q hkm
              have hqe : (q != 0) = true := by simpa using hq0
              unfold isF at hfq
              rw [hqe, Bool.true_and] at hfq
              cases hb : l.getD q true with
              | true =>
                rw [hb] at hfq
                obtain ⟨HF, AF, eF, PF, _, _⟩ := Try.pFree 1000 P q hq0 (by omega) hfq
                obtain ⟨xw, xa, ab2, xp, _⟩ := plo (.mu 1 (bools l)) PF
                have eF := eff_frameA (κ := (48, 0)) (ar := .mu 1 (bools l)) eF hw a2 hA0 xa
                have hv : FrV m ⟨i + 1, HF, AF, putN ch ((0 : Nat) : Int) (flipB (ct knZ ch 0) q), l.set q false⟩ := by
                  have e0 : ct knZ (putN ch ((0 : Nat) : Int) (flipB (ct knZ ch 0) q)) 0 = flipB (ct knZ ch 0) q := by rw [ct_put, if_pos rfl]
                  refine ⟨PF, by show i + 1 ≤ 80; omega, by show (l.set q false).length = m; rw [List.length_set]; exact hl, by show (l.set q false).getD 0 true = true; rw [getD_set (by omega), if_neg (Ne.symm hq0)]; exact hz, fun j hj => ?_⟩
                  show isF (ct knZ _ 0) j = !(l.set q false).getD j true
                  rw [e0, isF_flip hq0 (h8 q hkm) (h8 j hj), getD_set (by omega)]
                  by_cases e : j = q
                  · rw [if_pos e, if_pos e, hf q hkm, hb]; rfl
                  · rw [if_neg e, if_neg e]; exact hf j hj
                have hit := hidx q hkm
                have hgt := bools_get (l := l) (i := q) (by omega)
                rw [hb] at hgt
                have z1 : ((q : Int) == 0) = false := eqf (by omega)
                repeat' (first
                 | with_reducible first | refine VC_seq fun K hK => ?_ | refine W_region ?_ | refine VC_block ?_ | refine VC_scope ?_ | refine VC_if ?_ | refine VC_skip ?_ | refine VC_exit ?_ | refine VC_ret ?_
                 | (with_reducible first | refine G_not (fun h => ?_) (fun h => ?_) | refine G_cases (fun h => ?_) (fun h => ?_)) <;> (try simp only [h])
                 | refine C_call rfl eF rfl ab1 ?_
                 | with_reducible first | (refine hK _ ?_; clear hK K) | (clear hK K; refine hK _ ?_; clear hK K) | (clear hK K; clear hK K; refine hK _ ?_; clear hK K) | (clear hK K; clear hK K; clear hK K; refine hK _ ?_; clear hK K)
                 | (with_reducible refine todo ?_; simp +decide only [go_sem, r1, r8, r10, r11, r12, hg, f3, z1, hit, hbl, hgt, bools_set, upd_twice]))
                exact rest3 _ _ _ _ hv _ rfl rfl r1 r5 r8 r10 r11
              | false =>
                rw [hb] at hfq
                have hE : pgFrE (10 + m - 10) (ct knZ ch 0) (q : Int) = 6 := by
                  unfold pgFrE pgRight
                  rw [hzr, if_neg (by simp), if_neg (by omega), if_pos (by rw [Int.toNat_natCast]; exact hfq)]
                have eF := Try.pFreeE 1000 P (q : Int) (by rw [hE]; decide)
                rw [hE] at eF
                have eF := eff_frameA (κ := (48, 0)) (ar := .mu 1 (bools l)) eF hw a2 hA0 hA0
                have z1 : ((6 : Int) == 0) = false := rfl
                repeat' (first
                 | with_reducible first | refine VC_seq fun K hK => ?_ | refine W_region ?_ | refine VC_block ?_ | refine VC_scope ?_ | refine VC_if ?_ | refine VC_skip ?_ | refine VC_exit ?_ | refine VC_ret ?_
                 | (with_reducible first | refine G_not (fun h => ?_) (fun h => ?_) | refine G_cases (fun h => ?_) (fun h => ?_)) <;> (try simp only [h])
                 | refine C_call rfl eF rfl ab1 ?_
                 | with_reducible first | (refine hK _ ?_; clear hK K) | (clear hK K; refine hK _ ?_; clear hK K) | (clear hK K; clear hK K; refine hK _ ?_; clear hK K) | (clear hK K; clear hK K; clear hK K; refine hK _ ?_; clear hK K)
                 | (with_reducible refine todo ?_; simp +decide only [go_sem, r1, r8, r11, r12, hg, f3, z1]))
                exact rest3 _ _ _ _ hv0 _ rfl rfl r1 r5 r8 r10 r11
        clear hK hK2 back
        have hbl : (m = (bools l).length) = True := eq_true (by rw [bools_len, hl])
        have w : ∀ {X Y : AMap}, PV.wk (hOver [] H) X Y (.c (.ptr 202 0)) (.c (.ptr 202 0)) = True := eq_true (wkP_ptr (by show H 202 ≠ none; exact hp0))
        have w2 : PV.wk (hOver [] H) (upd A (48, 0) (some (.mu 1 (bools l)))) (upd A (48, 0) (some (.mu 1 (bools l)))) (.c (.mt (48, 0) 1 m)) (.c (.mt (48, 0) 1 m)) = True := eq_true (wk_c (.inr (.inl ⟨rfl, by rw [upd_same]; simp, rfl⟩)))
        refine VC_range m (fun t => ∀ j, j < t → l.getD j true = true) (fun t => over [(1, .c (.d (.sl (bytesEls sc)))), (5, pD (.lit (.int .i64 m))), (8, .c (.ptr 202 0)), (10, .c (.mt (48, 0) 1 m)), (11, pD (.lit (.int .i64 i))), (12, pD (.lit (.int .i64 (c % m : Nat)))), (13, pD (.lit (.int .i64 t)))] [] H (upd A (48, 0) (some (.mu 1 (bools l))))) (fun j hj => by omega) ?_ ?_
        · refine Weak_overG (Wf_arr hw upd_keep) (fun _ _ => rfl) rfl ?_ ?_ (fun i hi => (hi rfl).elim) (fun τ h => (h rfl).elim)
          · simp +decide only [go_sem, w, w2]
          · simp +decide only [go_sem]
        · intro t ht hI
          rcases Nat.lt_or_ge t m with ht2 | ht2
          · have hc := int_lt_true ht2
            have hnt := int_next ht2 (by omega)
            have hit := hidx t ht2
            have hgt := bools_get (l := l) (i := t) (by omega)
            cases hb : l.getD t true with
            | true =>
              rw [hb] at hgt
              repeat' (first
               | with_reducible first | refine VC_seq fun K hK => ?_ | refine W_region ?_ | refine VC_block ?_ | refine VC_scope ?_ | refine VC_if ?_ | refine VC_skip ?_ | refine VC_exit ?_ | refine VC_ret ?_
               | (with_reducible first | refine G_not (fun h => ?_) (fun h => ?_) | refine G_cases (fun h => ?_) (fun h => ?_)) <;> (try simp only [h])
               | with_reducible first | (refine hK _ ?_; clear hK K) | (clear hK K; refine hK _ ?_; clear hK K) | (clear hK K; clear hK K; refine hK _ ?_; clear hK K) | (clear hK K; clear hK K; clear hK K; refine hK _ ?_; clear hK K)
               | (with_reducible refine todo ?_; simp +decide only [go_sem, hc, hnt, hit, hbl, hgt]))
              refine Next_of ht2 (fun j hj => ?_) (Weak_overG (Wf_arr hw upd_keep) kp_nil rfl ?_ ?_ (fun i hi => (hi rfl).elim) (fun τ h => (h rfl).elim))
              · by_cases e : j = t
                · rw [e]; exact hb
                · exact hI j (by omega)
              · simp +decide only [go_sem, w, w2]
              · simp +decide only [go_sem]
            | false =>
              rw [hb] at hgt
              repeat' (first
               | with_reducible first | refine VC_seq fun K hK => ?_ | refine W_region ?_ | refine VC_block ?_ | refine VC_scope ?_ | refine VC_if ?_ | refine VC_skip ?_ | refine VC_exit ?_ | refine VC_ret ?_
               | (with_reducible first | refine G_not (fun h => ?_) (fun h => ?_) | refine G_cases (fun h => ?_) (fun h => ?_)) <;> (try simp only [h])
               | with_reducible first | (refine hK _ ?_; clear hK K) | (clear hK K; refine hK _ ?_; clear hK K) | (clear hK K; clear hK K; refine hK _ ?_; clear hK K) | (clear hK K; clear hK K; clear hK K; refine hK _ ?_; clear hK K)
               | (with_reducible refine todo ?_; simp +decide only [go_sem, hc, hit, hbl, hgt]))
              exact rest1 t ht hI (fun _ => hb) _ rfl rfl rfl rfl rfl rfl rfl rfl rfl
          · have hc := int_lt_false ht2
            repeat' (first
             | with_reducible first | refine VC_seq fun K hK => ?_ | refine W_region ?_ | refine VC_block ?_ | refine VC_scope ?_ | refine VC_if ?_ | refine VC_skip ?_ | refine VC_exit ?_ | refine VC_ret ?_
             | (with_reducible first | refine G_not (fun h => ?_) (fun h => ?_) | refine G_cases (fun h => ?_) (fun h => ?_)) <;> (try simp only [h])
             | with_reducible first | (refine hK _ ?_; clear hK K) | (clear hK K; refine hK _ ?_; clear hK K) | (clear hK K; clear hK K; refine hK _ ?_; clear hK K) | (clear hK K; clear hK K; clear hK K; refine hK _ ?_; clear hK K)
             | (with_reducible refine todo ?_; simp +decide only [go_sem, hc]))
            exact rest1 t ht hI (fun h => by omega) _ rfl rfl rfl rfl rfl rfl rfl rfl rfl
      · have f2 : ((i : Int) < 80) = False := eq_false (by omega)
        repeat' (first
         | with_reducible first | refine VC_seq fun K hK => ?_ | refine W_region ?_ | refine VC_block ?_ | refine VC_scope ?_ | refine VC_if ?_ | refine VC_skip ?_ | refine VC_exit ?_ | refine VC_ret ?_
         | (with_reducible first | refine G_not (fun h => ?_) (fun h => ?_) | refine G_cases (fun h => ?_) (fun h => ?_)) <;> (try simp only [h])
         | refine C_pure e0 rfl rfl (fun k => (upd_other _ _ (tok_ne (Nat.ne_of_gt (Nat.le_of_ble_eq_true rfl)))).trans ((lo _ (Nat.le_of_ble_eq_true rfl)).2 k)) ?_
         | with_reducible first | (refine hK _ ?_; clear hK K) | (clear hK K; refine hK _ ?_; clear hK K) | (clear hK K; clear hK K; refine hK _ ?_; clear hK K) | (clear hK K; clear hK K; clear hK K; refine hK _ ?_; clear hK K)
         | (with_reducible refine todo ?_; simp +decide only [go_sem, f1, f2]))
        exact RetR_same rfl (by simp +decide only [go_sem]) True.intro (fun i cs c h => by cases h) (fun i h => (h rfl).elim) (fun i h => (h rfl).elim)
    · have f1 : ((i : Int) < ((bytesEls sc).length : Int)) = False := eq_false (by rw [hsl]; omega)
      repeat' (first
       | with_reducible first | refine VC_seq fun K hK => ?_ | refine W_region ?_ | refine VC_block ?_ | refine VC_scope ?_ | refine VC_if ?_ | refine VC_skip ?_ | refine VC_exit ?_ | refine VC_ret ?_
       | (with_reducible first | refine G_not (fun h => ?_) (fun h => ?_) | refine G_cases (fun h => ?_) (fun h => ?_)) <;> (try simp only [h])
       | refine C_pure e0 rfl rfl (fun k => (upd_other _ _ (tok_ne (Nat.ne_of_gt (Nat.le_of_ble_eq_true rfl)))).trans ((lo _ (Nat.le_of_ble_eq_true rfl)).2 k)) ?_
       | with_reducible first | (refine hK _ ?_; clear hK K) | (clear hK K; refine hK _ ?_; clear hK K) | (clear hK K; clear hK K; refine hK _ ?_; clear hK K) | (clear hK K; clear hK K; clear hK K; refine hK _ ?_; clear hK K)
       | (with_reducible refine todo ?_; simp +decide only [go_sem, f1]))
      exact RetR_same rfl (by simp +decide only [go_sem]) True.intro (fun i cs c h => by cases h) (fun i h => (h rfl).elim) (fun i h => (h rfl).elim)
end Go.Proofs
