import Derived.Test.YthkngcankpnhlaaQ35

/-
  PagerReads: the law's body.
-/

namespace Go.Proofs
open Go.PW
@[go_sem] theorem B_bneq {P : Program} {T : TypeId} {a b : Bool} (h : P.underlying T = some .bool) : binS P .neq T (.c (.d (.lit (.bool a)))) (.c (.d (.lit (.bool b)))) = some (lit (.bool (!(a == b)))) := by
  simp [binS, eqS, h]
structure RSt where
  i : Nat
  k : Nat
  T : Nat
  H : HMap
  A : AMap
  ch : List (Int × List UInt8)
  b : Nat → List UInt8
structure RV (y : RSt) : Prop where
  px : PX y.H y.A y.k 200 202 60 40 y.T y.ch y.b
  k : y.k ≤ 203 + 3 * y.i
  t : y.T ≤ 1 + y.i
  i : y.i ≤ 30
def FrR (ops : List OpP) (page : Int) (s : List UInt8) (y : RSt) : St :=
  over [(0, .c (.d (.sl (opsP ops)))), (1, pD (.lit (.int .i64 page))), (2, pD (dS s)), (7, .c (.ptr 200 0)), (9, .c (.ptr 202 0)), (11, pD (.lit (.int .i64 y.i)))] [] y.H y.A
theorem px_ptr {H : HMap} {A : AMap} {k did pid N logs T : Nat} {ch : List (Int × List UInt8)} {b : Nat → List UInt8} (h : PX H A k did pid N logs T ch b) {X Y : AMap} : PV.wk (hOver [] H) X Y (.c (.ptr did 0)) (.c (.ptr did 0)) = True ∧ PV.wk (hOver [] H) X Y (.c (.ptr pid 0)) (.c (.ptr pid 0)) = True := by
  obtain ⟨_, _, _, _, _, _, _, _, _, _, _, _, h1, h2, _⟩ := h.nums
  exact ⟨eq_true (wkP_ptr (by show H did ≠ none; exact h1)), eq_true (wkP_ptr (by show H pid ≠ none; exact h2))⟩
/-- A commit that fits. -/
theorem Try.pCommitF {H : HMap} {A : AMap} {k T : Nat} {ch : List (Int × List UInt8)} {b : Nat → List UInt8} (off : Nat) (h : PX H A k 200 202 60 40 T ch b) (hk : k + 4 ≤ off) (hT : T < 1000000) :
    ∃ (k' T' : Nat) (b' : Nat → List UInt8), k' ≤ k + 3 ∧ PSO off Try.prog 20 H A [.c (.ptr 202 0)] (pD (.lit (.int .i64 0))) k' 200 202 60 40 T' [] b' := by
  obtain ⟨_, _, _, _, _, _, _, _, _, _, _, _, _, _, _, ks, _⟩ := h.nums
  by_cases h0 : ch = []
  · subst h0
    exact ⟨k, T, b, by omega, H, A, Try.pCommit0 off h rfl, h, fun _ h => h, fun _ h => h⟩
  · have hle := ks.le
    have hr := recK_le (by omega) ks.find 20 (by omega)
    have hn : needN (recK ch (60 - 40)).length ≤ 40 - 2 := by
      show needN (recK ch 20).length ≤ 38
      unfold needN
      omega
    exact ⟨k + 3, T + 1, ct b ch, by omega, Try.pCommit off h hk hT h0 (by show (recK ch 20).length ≤ 5000; omega) hn⟩
theorem pgsL_get {b : Nat → List UInt8} {ch : List (Int × List UInt8)} {n i : Nat} (h : i < n) : (textsD (pgsL b ch n))[i]? = some [dS (ct b ch i)] := by
  unfold textsD pgsL
  rw [List.getElem?_map, List.getElem?_map, List.getElem?_range h]; rfl
set_option maxRecDepth 8000 in
set_option maxHeartbeats 64000000 in
theorem Try.kPagerReads (ops : List OpP) (page : Int) (s : List UInt8) : PureOK Try.prog 5 [.c (.d (.sl (opsP ops))), pD (.lit (.int .i64 page)), pD (dS s)] (.one (.d (.lit (.bool true)))) := by
  have e0 := Try.kKnown
  obtain ⟨H1, A1, e1, L1, lo1, lo2⟩ := Try.sNew 200 60 (by omega) (by omega)
  have D1 := DX.new (logs := 40) L1 (by omega) (by omega) (by omega) (by omega) (by omega) (fun j hj => ⟨lo1 j (by omega), fun q => lo2 _ (by show j ≠ 200; omega)⟩)
  obtain ⟨H2, A2, e2, P2⟩ := Try.pOpen 1000 D1 (by omega)
  have P2 : PX H2 A2 203 200 202 60 40 1 [] knZ := P2
  have b1 : Above 1000 H1 A1 := Above_mono L1.ab (by omega)
  have hll := opsP_len ops
  have lo : ∀ {X : HMap} {Y : AMap} {k T : Nat} {c : List (Int × List UInt8)} {b : Nat → List UInt8}, PX X Y k 200 202 60 40 T c b → Wf X Y ∧ ∀ j, j < 200 → ∀ q, Y (j, q) = none := fun h => by
    obtain ⟨_, _, _, _, _, _, _, _, _, _, hw, _, _, _, h, _⟩ := h.nums
    exact ⟨hw, fun j hj => (h j hj).2⟩
  have ab : ∀ {X : HMap} {Y : AMap} {k T : Nat} {c : List (Int × List UInt8)} {b : Nat → List UInt8}, PX X Y k 200 202 60 40 T c b → k ≤ 1000 → Above (0 + 1000) X Y := fun h hk => by
    obtain ⟨_, _, _, _, _, _, _, _, _, _, _, hab, _⟩ := h.nums
    exact Above_mono hab (by omega)
  refine pure_eff rfl (effr_ok (E := envOf Try.prog [9, 10, 23, 24, 14, 20, 19] 0 [] []) (envOf_ok Try.mixed) Try.func5 rfl Try.call5 (by kernel_rfl) (by exact Nat.le_of_ble_eq_true rfl) (fun hab => ?_))
  by_cases hs : s.length ≤ 300
  · have f0 : ((300 : Int) < (s.length : Int)) = False := eq_false (by omega)
    repeat' (first
     | with_reducible first | refine VC_seq fun K hK => ?_ | refine W_region ?_ | refine VC_block ?_ | refine VC_scope ?_ | refine VC_if ?_ | refine VC_skip ?_ | refine VC_exit ?_ | refine VC_ret ?_
     | (with_reducible first | refine G_not (fun h => ?_) (fun h => ?_) | refine G_cases (fun h => ?_) (fun h => ?_)) <;> (try simp only [h])
     | refine C_call rfl e1 rfl (Above_mono hab (by omega)) ?_
     | refine C_call rfl e2 rfl b1 ?_
     | with_reducible first | (refine hK _ ?_; clear hK K) | (clear hK K; refine hK _ ?_; clear hK K) | (clear hK K; clear hK K; refine hK _ ?_; clear hK K) | (clear hK K; clear hK K; clear hK K; refine hK _ ?_; clear hK K)
     | (with_reducible refine todo ?_; simp +decide only [go_sem, zne, f0]))
    have rest : ∀ y : RSt, RV y → ∀ S : St, S.H = y.H → S.A = y.A → S.ρ 1 = pD (.lit (.int .i64 page)) → S.ρ 2 = pD (dS s) → S.ρ 9 = .c (.ptr 202 0) → K S := by
      rintro ⟨i, k, T, H, A, ch, b⟩ ⟨P, hk, hT, hi⟩ ⟨ρ, HS, AS⟩ rfl rfl r1 r2 r9
      simp only at P hk hT hi r1 r2 r9
      refine hK _ ?_
      clear hK
      obtain ⟨kC, TC, bC, c1, HC, AC, eC, PC, _, _⟩ := Try.pCommitF 1000 P (by omega) (by omega)
      have g1 := Try.pPages 1000 PC
      have abP := ab P (by omega)
      have abC := ab PC (by omega)
      by_cases hE : pgWrE (60 - 40) page s = 0
      · have hE2 := hE
        unfold pgWrE pgRight at hE2
        have hr : ¬ (page < 0 ∨ ((60 - 40 : Nat) : Int) ≤ page) := fun hc => by rw [if_pos hc, if_pos (by decide)] at hE2; cases hE2
        rw [if_neg hr, if_neg (by decide)] at hE2
        have hz : page ≠ 0 := fun hc => by rw [if_pos hc] at hE2; cases hE2
        rw [if_neg hz] at hE2
        have hs2 : ¬ 128 < s.length := fun hc => by rw [if_pos hc] at hE2; cases hE2
        obtain ⟨q, rfl⟩ : ∃ q : Nat, page = (q : Int) := ⟨page.toNat, by omega⟩
        obtain ⟨HW, AW, eW, PW, _, _⟩ := Try.pWrite 1000 PC q (by omega) (by omega) s (by omega)
        have g2 := Try.pPages 1000 PW
        obtain ⟨HB, AB, eB, PB, _, _⟩ := Try.pAbort 1000 PW
        have g3 := Try.pPages 1000 PB
        have abW := ab PW (by omega)
        have abB := ab PB (by omega)
        have eT := Try.kTexts (pgsL bC [] (60 - 40)) (pgsL bC [] (60 - 40)) (by rw [pgsL_len]; omega)
        rw [show (pgsL bC [] (60 - 40) == pgsL bC [] (60 - 40)) = true from beq_self_eq_true _] at eT
        have ePd := Try.kPad s (by omega)
        have hlo := (lo PB).2
        have w1 : ((1 : Int) ≤ (q : Int)) = True := eq_true (by omega)
        have w2 : ((q : Int) < 20) = True := eq_true (by omega)
        have w3 : ((s.length : Int) ≤ 128) = True := eq_true (by omega)
        have w4 : (((textsD (pgsL bC (putN [] (q : Int) (pad s)) (60 - 40))).length : Int) != 20) = false := by rw [textsD_len, pgsL_len]; rfl
        have gn : ∀ i, i < 20 → (textsD (pgsL bC (putN [] (q : Int) (pad s)) (60 - 40)))[i]? = some [dS (if q = i then pad s else bC i)] := fun i hi => by
          rw [pgsL_get hi, ct_put]; rfl
        have gw : ∀ i, i < 20 → (textsD (pgsL bC [] (60 - 40)))[i]? = some [dS (bC i)] := fun i hi => pgsL_get hi
        unfold tx at eT
        generalize textsD (pgsL bC (putN [] (q : Int) (pad s)) (60 - 40)) = Ln at *
        generalize textsD (pgsL bC [] (60 - 40)) = Lw at *
        generalize pad s = ps at *
        repeat' (first
         | with_reducible first | refine VC_seq fun K hK => ?_ | refine W_region ?_ | refine VC_block ?_ | refine VC_scope ?_ | refine VC_if ?_ | refine VC_skip ?_ | refine VC_exit ?_ | refine VC_ret ?_
         | (with_reducible first | refine G_not (fun h => ?_) (fun h => ?_) | refine G_cases (fun h => ?_) (fun h => ?_)) <;> (try simp only [h])
         | refine C_call rfl eC rfl abP ?_
         | refine C_call rfl g1 rfl abC ?_
         | refine C_call rfl eW rfl abC ?_
         | refine C_call rfl g2 rfl abW ?_
         | refine C_call rfl eB rfl abW ?_
         | refine C_call rfl g3 rfl abB ?_
         | refine C_pure eT rfl rfl (fun k => hlo _ (Nat.le_of_ble_eq_true rfl) k) ?_
         | with_reducible first | (refine hK _ ?_; clear hK K) | (clear hK K; refine hK _ ?_; clear hK K) | (clear hK K; clear hK K; refine hK _ ?_; clear hK K) | (clear hK K; clear hK K; clear hK K; refine hK _ ?_; clear hK K)
         | (with_reducible refine todo ?_; simp +decide only [go_sem, r1, r2, r9, w1, w2, w3, w4]))
        refine VC_range 20 (fun _ => True) (fun i => over [(1, pD (.lit (.int .i64 q))), (2, pD (dS s)), (12, .c (.d (.sl Lw))), (13, pD (.lit (.int .i64 0))), (14, .c (.d (.sl Ln))), (15, pD (.lit (.int .i64 i)))] [] HB AB) True.intro ?_ ?_
        · refine Weak_overG (lo PB).1 (fun _ _ => rfl) rfl ?_ ?_ (fun i hi => (hi rfl).elim) (fun τ h => (h rfl).elim)
          · simp +decide only [go_sem, r1, r2]
          · simp +decide only [go_sem]
        · intro j hj _
          rcases Nat.lt_or_ge j 20 with hj2 | hj2
          · have hc : ((j : Int) < 20) = True := eq_true (by omega)
            have hnx := int_next (n := 20) hj2 (by omega)
            have gnj := gn j hj2
            have gwj := gw j hj2
            by_cases hjq : q = j
            · subst hjq
              rw [if_pos rfl] at gnj
              have u1 : ((q : Int) != (q : Int)) = false := by simp
              have u2 : ((q : Int) == (q : Int)) = true := by simp
              have u3 : (ps == ps) = true := beq_self_eq_true _
              repeat' (first
               | with_reducible first | refine VC_seq fun K hK => ?_ | refine W_region ?_ | refine VC_block ?_ | refine VC_scope ?_ | refine VC_if ?_ | refine VC_skip ?_ | refine VC_exit ?_ | refine VC_ret ?_
               | (with_reducible first | refine G_not (fun h => ?_) (fun h => ?_) | refine G_cases (fun h => ?_) (fun h => ?_)) <;> (try simp only [h])
               | refine C_pure ePd rfl rfl (fun k => hlo _ (Nat.le_of_ble_eq_true rfl) k) ?_
               | with_reducible first | (refine hK _ ?_; clear hK K) | (clear hK K; refine hK _ ?_; clear hK K) | (clear hK K; clear hK K; refine hK _ ?_; clear hK K) | (clear hK K; clear hK K; clear hK K; refine hK _ ?_; clear hK K)
               | (with_reducible refine todo ?_; simp +decide only [go_sem, hc, hnx, gnj, u1, u2, u3, zne]))
              refine Next_of hj2 True.intro (Weak_overG (lo PB).1 kp_nil rfl ?_ ?_ (fun i hi => (hi rfl).elim) (fun τ h => (h rfl).elim))
              · simp +decide only [go_sem]
              · simp +decide only [go_sem]
            · rw [if_neg hjq] at gnj
              have u1 : ((j : Int) != (q : Int)) = true := by rw [bne_iff_ne]; omega
              have u2 : ((j : Int) == (q : Int)) = false := by rw [beq_eq_false_iff_ne]; omega
              have u3 : (bC j == bC j) = true := beq_self_eq_true _
              repeat' (first
               | with_reducible first | refine VC_seq fun K hK => ?_ | refine W_region ?_ | refine VC_block ?_ | refine VC_scope ?_ | refine VC_if ?_ | refine VC_skip ?_ | refine VC_exit ?_ | refine VC_ret ?_
               | (with_reducible first | refine G_not (fun h => ?_) (fun h => ?_) | refine G_cases (fun h => ?_) (fun h => ?_)) <;> (try simp only [h])
               | with_reducible first | (refine hK _ ?_; clear hK K) | (clear hK K; refine hK _ ?_; clear hK K) | (clear hK K; clear hK K; refine hK _ ?_; clear hK K) | (clear hK K; clear hK K; clear hK K; refine hK _ ?_; clear hK K)
               | (with_reducible refine todo ?_; simp +decide only [go_sem, hc, hnx, gnj, gwj, u1, u2, u3]))
              refine Next_of hj2 True.intro (Weak_overG (lo PB).1 kp_nil rfl ?_ ?_ (fun i hi => (hi rfl).elim) (fun τ h => (h rfl).elim))
              · simp +decide only [go_sem]
              · simp +decide only [go_sem]
          · have hc : ((j : Int) < 20) = False := eq_false (by omega)
            repeat' (first
             | with_reducible first | refine VC_seq fun K hK => ?_ | refine W_region ?_ | refine VC_block ?_ | refine VC_scope ?_ | refine VC_if ?_ | refine VC_skip ?_ | refine VC_exit ?_ | refine VC_ret ?_
             | (with_reducible first | refine G_not (fun h => ?_) (fun h => ?_) | refine G_cases (fun h => ?_) (fun h => ?_)) <;> (try simp only [h])
             | refine C_pure e0 rfl rfl (fun k => hlo _ (Nat.le_of_ble_eq_true rfl) k) ?_
             | with_reducible first | (refine hK _ ?_; clear hK K) | (clear hK K; refine hK _ ?_; clear hK K) | (clear hK K; clear hK K; refine hK _ ?_; clear hK K) | (clear hK K; clear hK K; clear hK K; refine hK _ ?_; clear hK K)
             | (with_reducible refine todo ?_; simp +decide only [go_sem, hc]))
            exact RetR_same rfl (by simp +decide only [go_sem]) True.intro (fun i cs c h => by cases h) (fun i h => (h rfl).elim) (fun i h => (h rfl).elim)
      · have eW := Try.pWriteE 1000 PC page s hE
        obtain ⟨HB, AB, eB, PB, _, _⟩ := Try.pAbort 1000 PC
        have g3 := Try.pPages 1000 PB
        have abB := ab PB (by omega)
        have eT := Try.kTexts (pgsL bC [] (60 - 40)) (pgsL bC [] (60 - 40)) (by rw [pgsL_len]; omega)
        rw [show (pgsL bC [] (60 - 40) == pgsL bC [] (60 - 40)) = true from beq_self_eq_true _] at eT
        have hlo := (lo PB).2
        have w0 : (pgWrE (60 - 40) page s == 0) = false := eqf hE
        have w0' : (pgWrE (60 - 40) page s != 0) = true := by rw [bne_iff_ne]; exact hE
        have w4 : (((textsD (pgsL bC [] (60 - 40))).length : Int) != 20) = false := by rw [textsD_len, pgsL_len]; rfl
        have gw : ∀ i, i < 20 → (textsD (pgsL bC [] (60 - 40)))[i]? = some [dS (bC i)] := fun i hi => pgsL_get hi
        have hb3 : (1 ≤ page → page < 20 → ¬ s.length ≤ 128) := fun x1 x2 x3 => hE (by
          unfold pgWrE pgRight
          have z : (if page < 0 ∨ ((60 - 40 : Nat) : Int) ≤ page then (2 : Int) else 0) = 0 := if_neg (by omega)
          rw [z, if_neg (by simp), if_neg (by omega), if_neg (by omega)])
        unfold tx at eT
        generalize pgWrE (60 - 40) page s = er at *
        generalize textsD (pgsL bC [] (60 - 40)) = Lw at *
        by_cases x1 : 1 ≤ page
        · have w1 : ((1 : Int) ≤ page) = True := eq_true x1
          by_cases x2 : page < 20
          · have w2 : (page < 20) = True := eq_true x2
            have w3 : ((s.length : Int) ≤ 128) = False := eq_false (fun h => hb3 x1 x2 (by omega))
            repeat' (first
             | with_reducible first | refine VC_seq fun K hK => ?_ | refine W_region ?_ | refine VC_block ?_ | refine VC_scope ?_ | refine VC_if ?_ | refine VC_skip ?_ | refine VC_exit ?_ | refine VC_ret ?_
             | (with_reducible first | refine G_not (fun h => ?_) (fun h => ?_) | refine G_cases (fun h => ?_) (fun h => ?_)) <;> (try simp only [h])
             | refine C_call rfl eC rfl abP ?_
             | refine C_call rfl g1 rfl abC ?_
             | refine C_call rfl eW rfl abC ?_
             | refine C_call rfl eB rfl abC ?_
             | refine C_call rfl g3 rfl abB ?_
             | refine C_pure eT rfl rfl (fun k => hlo _ (Nat.le_of_ble_eq_true rfl) k) ?_
             | with_reducible first | (refine hK _ ?_; clear hK K) | (clear hK K; refine hK _ ?_; clear hK K) | (clear hK K; clear hK K; refine hK _ ?_; clear hK K) | (clear hK K; clear hK K; clear hK K; refine hK _ ?_; clear hK K)
             | (with_reducible refine todo ?_; simp +decide only [go_sem, r1, r2, r9, w0, w1, w2, w3, w4]))
            refine VC_range 20 (fun _ => True) (fun i => over [(1, pD (.lit (.int .i64 page))), (2, pD (dS s)), (12, .c (.d (.sl Lw))), (13, pD (.lit (.int .i64 er))), (14, .c (.d (.sl Lw))), (15, pD (.lit (.int .i64 i)))] [] HB AB) True.intro ?_ ?_
            · refine Weak_overG (lo PB).1 (fun _ _ => rfl) rfl ?_ ?_ (fun i hi => (hi rfl).elim) (fun τ h => (h rfl).elim)
              · simp +decide only [go_sem, r1, r2]
              · simp +decide only [go_sem]
            · intro j hj _
              rcases Nat.lt_or_ge j 20 with hj2 | hj2
              · have hc : ((j : Int) < 20) = True := eq_true (by omega)
                have hnx := int_next (n := 20) hj2 (by omega)
                have gwj := gw j hj2
                have u3 : (bC j == bC j) = true := beq_self_eq_true _
                by_cases hjq : (j : Int) = page
                · have u1 : ((j : Int) != page) = false := by rw [hjq]; simp
                  have u2 : ((j : Int) == page) = true := by rw [hjq]; simp
                  repeat' (first
                   | with_reducible first | refine VC_seq fun K hK => ?_ | refine W_region ?_ | refine VC_block ?_ | refine VC_scope ?_ | refine VC_if ?_ | refine VC_skip ?_ | refine VC_exit ?_ | refine VC_ret ?_
                   | (with_reducible first | refine G_not (fun h => ?_) (fun h => ?_) | refine G_cases (fun h => ?_) (fun h => ?_)) <;> (try simp only [h])
                   | with_reducible first | (refine hK _ ?_; clear hK K) | (clear hK K; refine hK _ ?_; clear hK K) | (clear hK K; clear hK K; refine hK _ ?_; clear hK K) | (clear hK K; clear hK K; clear hK K; refine hK _ ?_; clear hK K)
                   | (with_reducible refine todo ?_; simp +decide only [go_sem, hc, hnx, gwj, u1, u2, u3, w0, w0']))
                  refine Next_of hj2 True.intro (Weak_overG (lo PB).1 kp_nil rfl ?_ ?_ (fun i hi => (hi rfl).elim) (fun τ h => (h rfl).elim))
                  · simp +decide only [go_sem]
                  · simp +decide only [go_sem]
                · have u1 : ((j : Int) != page) = true := by rw [bne_iff_ne]; exact hjq
                  have u2 : ((j : Int) == page) = false := eqf hjq
                  repeat' (first
                   | with_reducible first | refine VC_seq fun K hK => ?_ | refine W_region ?_ | refine VC_block ?_ | refine VC_scope ?_ | refine VC_if ?_ | refine VC_skip ?_ | refine VC_exit ?_ | refine VC_ret ?_
                   | (with_reducible first | refine G_not (fun h => ?_) (fun h => ?_) | refine G_cases (fun h => ?_) (fun h => ?_)) <;> (try simp only [h])
                   | with_reducible first | (refine hK _ ?_; clear hK K) | (clear hK K; refine hK _ ?_; clear hK K) | (clear hK K; clear hK K; refine hK _ ?_; clear hK K) | (clear hK K; clear hK K; clear hK K; refine hK _ ?_; clear hK K)
                   | (with_reducible refine todo ?_; simp +decide only [go_sem, hc, hnx, gwj, u1, u2, u3]))
                  refine Next_of hj2 True.intro (Weak_overG (lo PB).1 kp_nil rfl ?_ ?_ (fun i hi => (hi rfl).elim) (fun τ h => (h rfl).elim))
                  · simp +decide only [go_sem]
                  · simp +decide only [go_sem]
              · have hc : ((j : Int) < 20) = False := eq_false (by omega)
                repeat' (first
                 | with_reducible first | refine VC_seq fun K hK => ?_ | refine W_region ?_ | refine VC_block ?_ | refine VC_scope ?_ | refine VC_if ?_ | refine VC_skip ?_ | refine VC_exit ?_ | refine VC_ret ?_
                 | (with_reducible first | refine G_not (fun h => ?_) (fun h => ?_) | refine G_cases (fun h => ?_) (fun h => ?_)) <;> (try simp only [h])
                 | refine C_pure e0 rfl rfl (fun k => hlo _ (Nat.le_of_ble_eq_true rfl) k) ?_
                 | with_reducible first | (refine hK _ ?_; clear hK K) | (clear hK K; refine hK _ ?_; clear hK K) | (clear hK K; clear hK K; refine hK _ ?_; clear hK K) | (clear hK K; clear hK K; clear hK K; refine hK _ ?_; clear hK K)
                 | (with_reducible refine todo ?_; simp +decide only [go_sem, hc]))
                exact RetR_same rfl (by simp +decide only [go_sem]) True.intro (fun i cs c h => by cases h) (fun i h => (h rfl).elim) (fun i h => (h rfl).elim)
          · have w2 : (page < 20) = False := eq_false x2
            repeat' (first
             | with_reducible first | refine VC_seq fun K hK => ?_ | refine W_region ?_ | refine VC_block ?_ | refine VC_scope ?_ | refine VC_if ?_ | refine VC_skip ?_ | refine VC_exit ?_ | refine VC_ret ?_
             | (with_reducible first | refine G_not (fun h => ?_) (fun h => ?_) | refine G_cases (fun h => ?_) (fun h => ?_)) <;> (try simp only [h])
             | refine C_call rfl eC rfl abP ?_
             | refine C_call rfl g1 rfl abC ?_
             | refine C_call rfl eW rfl abC ?_
             | refine C_call rfl eB rfl abC ?_
             | refine C_call rfl g3 rfl abB ?_
             | refine C_pure eT rfl rfl (fun k => hlo _ (Nat.le_of_ble_eq_true rfl) k) ?_
             | with_reducible first | (refine hK _ ?_; clear hK K) | (clear hK K; refine hK _ ?_; clear hK K) | (clear hK K; clear hK K; refine hK _ ?_; clear hK K) | (clear hK K; clear hK K; clear hK K; refine hK _ ?_; clear hK K)
             | (with_reducible refine todo ?_; simp +decide only [go_sem, r1, r2, r9, w0, w1, w2, w4]))
            refine VC_range 20 (fun _ => True) (fun i => over [(1, pD (.lit (.int .i64 page))), (2, pD (dS s)), (12, .c (.d (.sl Lw))), (13, pD (.lit (.int .i64 er))), (14, .c (.d (.sl Lw))), (15, pD (.lit (.int .i64 i)))] [] HB AB) True.intro ?_ ?_
            · refine Weak_overG (lo PB).1 (fun _ _ => rfl) rfl ?_ ?_ (fun i hi => (hi rfl).elim) (fun τ h => (h rfl).elim)
              · simp +decide only [go_sem, r1, r2]
              · simp +decide only [go_sem]
            · intro j hj _
              rcases Nat.lt_or_ge j 20 with hj2 | hj2
              · have hc : ((j : Int) < 20) = True := eq_true (by omega)
                have hnx := int_next (n := 20) hj2 (by omega)
                have gwj := gw j hj2
                have u3 : (bC j == bC j) = true := beq_self_eq_true _
                by_cases hjq : (j : Int) = page
                · have u1 : ((j : Int) != page) = false := by rw [hjq]; simp
                  have u2 : ((j : Int) == page) = true := by rw [hjq]; simp
                  repeat' (first
                   | with_reducible first | refine VC_seq fun K hK => ?_ | refine W_region ?_ | refine VC_block ?_ | refine VC_scope ?_ | refine VC_if ?_ | refine VC_skip ?_ | refine VC_exit ?_ | refine VC_ret ?_
                   | (with_reducible first | refine G_not (fun h => ?_) (fun h => ?_) | refine G_cases (fun h => ?_) (fun h => ?_)) <;> (try simp only [h])
                   | with_reducible first | (refine hK _ ?_; clear hK K) | (clear hK K; refine hK _ ?_; clear hK K) | (clear hK K; clear hK K; refine hK _ ?_; clear hK K) | (clear hK K; clear hK K; clear hK K; refine hK _ ?_; clear hK K)
                   | (with_reducible refine todo ?_; simp +decide only [go_sem, hc, hnx, gwj, u1, u2, u3, w0, w0']))
                  refine Next_of hj2 True.intro (Weak_overG (lo PB).1 kp_nil rfl ?_ ?_ (fun i hi => (hi rfl).elim) (fun τ h => (h rfl).elim))
                  · simp +decide only [go_sem]
                  · simp +decide only [go_sem]
                · have u1 : ((j : Int) != page) = true := by rw [bne_iff_ne]; exact hjq
                  have u2 : ((j : Int) == page) = false := eqf hjq
                  repeat' (first
                   | with_reducible first | refine VC_seq fun K hK => ?_ | refine W_region ?_ | refine VC_block ?_ | refine VC_scope ?_ | refine VC_if ?_ | refine VC_skip ?_ | refine VC_exit ?_ | refine VC_ret ?_
                   | (with_reducible first | refine G_not (fun h => ?_) (fun h => ?_) | refine G_cases (fun h => ?_) (fun h => ?_)) <;> (try simp only [h])
                   | with_reducible first | (refine hK _ ?_; clear hK K) | (clear hK K; refine hK _ ?_; clear hK K) | (clear hK K; clear hK K; refine hK _ ?_; clear hK K) | (clear hK K; clear hK K; clear hK K; refine hK _ ?_; clear hK K)
                   | (with_reducible refine todo ?_; simp +decide only [go_sem, hc, hnx, gwj, u1, u2, u3]))
                  refine Next_of hj2 True.intro (Weak_overG (lo PB).1 kp_nil rfl ?_ ?_ (fun i hi => (hi rfl).elim) (fun τ h => (h rfl).elim))
                  · simp +decide only [go_sem]
                  · simp +decide only [go_sem]
              · have hc : ((j : Int) < 20) = False := eq_false (by omega)
                repeat' (first
                 | with_reducible first | refine VC_seq fun K hK => ?_ | refine W_region ?_ | refine VC_block ?_ | refine VC_scope ?_ | refine VC_if ?_ | refine VC_skip ?_ | refine VC_exit ?_ | refine VC_ret ?_
                 | (with_reducible first | refine G_not (fun h => ?_) (fun h => ?_) | refine G_cases (fun h => ?_) (fun h => ?_)) <;> (try simp only [h])
                 | refine C_pure e0 rfl rfl (fun k => hlo _ (Nat.le_of_ble_eq_true rfl) k) ?_
                 | with_reducible first | (refine hK _ ?_; clear hK K) | (clear hK K; refine hK _ ?_; clear hK K) | (clear hK K; clear hK K; refine hK _ ?_; clear hK K) | (clear hK K; clear hK K; clear hK K; refine hK _ ?_; clear hK K)
                 | (with_reducible refine todo ?_; simp +decide only [go_sem, hc]))
                exact RetR_same rfl (by simp +decide only [go_sem]) True.intro (fun i cs c h => by cases h) (fun i h => (h rfl).elim) (fun i h => (h rfl).elim)
        · have w1 : ((1 : Int) ≤ page) = False := eq_false x1
          repeat' (first
           | with_reducible first | refine VC_seq fun K hK => ?_ | refine W_region ?_ | refine VC_block ?_ | refine VC_scope ?_ | refine VC_if ?_ | refine VC_skip ?_ | refine VC_exit ?_ | refine VC_ret ?_
           | (with_reducible first | refine G_not (fun h => ?_) (fun h => ?_) | refine G_cases (fun h => ?_) (fun h => ?_)) <;> (try simp only [h])
           | refine C_call rfl eC rfl abP ?_
           | refine C_call rfl g1 rfl abC ?_
           | refine C_call rfl eW rfl abC ?_
           | refine C_call rfl eB rfl abC ?_
           | refine C_call rfl g3 rfl abB ?_
           | refine C_pure eT rfl rfl (fun k => hlo _ (Nat.le_of_ble_eq_true rfl) k) ?_
           | with_reducible first | (refine hK _ ?_; clear hK K) | (clear hK K; refine hK _ ?_; clear hK K) | (clear hK K; clear hK K; refine hK _ ?_; clear hK K) | (clear hK K; clear hK K; clear hK K; refine hK _ ?_; clear hK K)
           | (with_reducible refine todo ?_; simp +decide only [go_sem, r1, r2, r9, w0, w1, w4]))
          refine VC_range 20 (fun _ => True) (fun i => over [(1, pD (.lit (.int .i64 page))), (2, pD (dS s)), (12, .c (.d (.sl Lw))), (13, pD (.lit (.int .i64 er))), (14, .c (.d (.sl Lw))), (15, pD (.lit (.int .i64 i)))] [] HB AB) True.intro ?_ ?_
          · refine Weak_overG (lo PB).1 (fun _ _ => rfl) rfl ?_ ?_ (fun i hi => (hi rfl).elim) (fun τ h => (h rfl).elim)
            · simp +decide only [go_sem, r1, r2]
            · simp +decide only [go_sem]
          · intro j hj _
            rcases Nat.lt_or_ge j 20 with hj2 | hj2
            · have hc : ((j : Int) < 20) = True := eq_true (by omega)
              have hnx := int_next (n := 20) hj2 (by omega)
              have gwj := gw j hj2
              have u3 : (bC j == bC j) = true := beq_self_eq_true _
              by_cases hjq : (j : Int) = page
              · have u1 : ((j : Int) != page) = false := by rw [hjq]; simp
                have u2 : ((j : Int) == page) = true := by rw [hjq]; simp
                repeat' (first
                 | with_reducible first | refine VC_seq fun K hK => ?_ | refine W_region ?_ | refine VC_block ?_ | refine VC_scope ?_ | refine VC_if ?_ | refine VC_skip ?_ | refine VC_exit ?_ | refine VC_ret ?_
                 | (with_reducible first | refine G_not (fun h => ?_) (fun h => ?_) | refine G_cases (fun h => ?_) (fun h => ?_)) <;> (try simp only [h])
                 | with_reducible first | (refine hK _ ?_; clear hK K) | (clear hK K; refine hK _ ?_; clear hK K) | (clear hK K; clear hK K; refine hK _ ?_; clear hK K) | (clear hK K; clear hK K; clear hK K; refine hK _ ?_; clear hK K)
                 | (with_reducible refine todo ?_; simp +decide only [go_sem, hc, hnx, gwj, u1, u2, u3, w0, w0']))
                refine Next_of hj2 True.intro (Weak_overG (lo PB).1 kp_nil rfl ?_ ?_ (fun i hi => (hi rfl).elim) (fun τ h => (h rfl).elim))
                · simp +decide only [go_sem]
                · simp +decide only [go_sem]
              · have u1 : ((j : Int) != page) = true := by rw [bne_iff_ne]; exact hjq
                have u2 : ((j : Int) == page) = false := eqf hjq
                repeat' (first
                 | with_reducible first | refine VC_seq fun K hK => ?_ | refine W_region ?_ | refine VC_block ?_ | refine VC_scope ?_ | refine VC_if ?_ | refine VC_skip ?_ | refine VC_exit ?_ | refine VC_ret ?_
                 | (with_reducible first | refine G_not (fun h => ?_) (fun h => ?_) | refine G_cases (fun h => ?_) (fun h => ?_)) <;> (try simp only [h])
                 | with_reducible first | (refine hK _ ?_; clear hK K) | (clear hK K; refine hK _ ?_; clear hK K) | (clear hK K; clear hK K; refine hK _ ?_; clear hK K) | (clear hK K; clear hK K; clear hK K; refine hK _ ?_; clear hK K)
                 | (with_reducible refine todo ?_; simp +decide only [go_sem, hc, hnx, gwj, u1, u2, u3]))
                refine Next_of hj2 True.intro (Weak_overG (lo PB).1 kp_nil rfl ?_ ?_ (fun i hi => (hi rfl).elim) (fun τ h => (h rfl).elim))
                · simp +decide only [go_sem]
                · simp +decide only [go_sem]
            · have hc : ((j : Int) < 20) = False := eq_false (by omega)
              repeat' (first
               | with_reducible first | refine VC_seq fun K hK => ?_ | refine W_region ?_ | refine VC_block ?_ | refine VC_scope ?_ | refine VC_if ?_ | refine VC_skip ?_ | refine VC_exit ?_ | refine VC_ret ?_
               | (with_reducible first | refine G_not (fun h => ?_) (fun h => ?_) | refine G_cases (fun h => ?_) (fun h => ?_)) <;> (try simp only [h])
               | refine C_pure e0 rfl rfl (fun k => hlo _ (Nat.le_of_ble_eq_true rfl) k) ?_
               | with_reducible first | (refine hK _ ?_; clear hK K) | (clear hK K; refine hK _ ?_; clear hK K) | (clear hK K; clear hK K; refine hK _ ?_; clear hK K) | (clear hK K; clear hK K; clear hK K; refine hK _ ?_; clear hK K)
               | (with_reducible refine todo ?_; simp +decide only [go_sem, hc]))
              exact RetR_same rfl (by simp +decide only [go_sem]) True.intro (fun i cs c h => by cases h) (fun i h => (h rfl).elim) (fun i h => (h rfl).elim)
    refine VC_while (ι := RSt) RV (FrR ops page s) (fun y => 30 - y.i) ⟨0, 203, 1, H2, A2, [], knZ⟩ ⟨P2, by show 203 ≤ 203 + 3 * 0; omega, by show 1 ≤ 1 + 0; omega, by show 0 ≤ 30; omega⟩ ?_ ?_
    · have w := fun {X Y : AMap} => px_ptr P2 (X := X) (Y := Y)
      unfold FrR
      refine Weak_overG (lo P2).1 (fun _ _ => rfl) rfl ?_ ?_ (fun i hi => (hi rfl).elim) (fun τ h => (h rfl).elim)
      · simp +decide only [go_sem, w]
      · simp +decide only [go_sem]
    · rintro ⟨i, k, T, H, A, ch, b⟩ hy
      have hrest := rest _ hy
      obtain ⟨P, hk, hT, hi⟩ := hy
      simp only at P hk hT hi hrest
      clear hK rest
      have hnx : IntKind.i64.wrap ((i : Int) + 1) = ((i + 1 : Nat) : Int) := by rw [Go.IntWalk.i64_in _ (by omega)]; omega
      unfold FrR
      by_cases q1 : i < ops.length
      · have f1 : ((i : Int) < ((opsP ops).length : Int)) = True := eq_true (by rw [hll]; omega)
        by_cases q2 : i < 30
        · have f2 : ((i : Int) < 30) = True := eq_true (by omega)
          have hg := opsP_get q1
          generalize ops[i] = o at hg
          have nxt : ∀ {H' : HMap} {A' : AMap} {k' T' : Nat} {ch' : List (Int × List UInt8)} {b' : Nat → List UInt8} {S : St}, PX H' A' k' 200 202 60 40 T' ch' b' → k' ≤ k + 3 → T' ≤ T + 1 → S.H = H' → S.A = A' → S.ρ 0 = .c (.d (.sl (opsP ops))) → S.ρ 1 = pD (.lit (.int .i64 page)) → S.ρ 2 = pD (dS s) → S.ρ 7 = .c (.ptr 200 0) → S.ρ 9 = .c (.ptr 202 0) → S.ρ 11 = pD (.lit (.int .i64 (i + 1 : Nat))) →
              ∃ j : {y : RSt // RV y}, Weak noH noA S (FrR ops page s j.1) ∧ 30 - j.1.i < 30 - i := fun {H'} {A'} {k'} {T'} {ch'} {b'} {S} hx y1 y2 y3 y4 y5 y6 y7 y8 y9 y10 => by
            refine ⟨⟨⟨i + 1, k', T', H', A', ch', b'⟩, ⟨hx, by show k' ≤ 203 + 3 * (i + 1); omega, by show T' ≤ 1 + (i + 1); omega, by show i + 1 ≤ 30; omega⟩⟩, ?_, by show 30 - (i + 1) < 30 - i; omega⟩
            have w := fun {X Y : AMap} => px_ptr hx (X := X) (Y := Y)
            unfold FrR
            refine Weak_overG (lo hx).1 (fun j _ => by rw [y3]) y4 ?_ ?_ (fun i hi => (hi rfl).elim) (fun τ h => (h rfl).elim)
            · simp +decide only [go_sem, w, y5, y6, y7, y8, y9, y10]
            · simp +decide only [go_sem]
          by_cases q3 : o.kind < 5 ∧ o.s.length < 200
          · have f3 : (o.kind < 5) = True := eq_true q3.1
            have f4 : ((o.s.length : Int) < 200) = True := eq_true (by omega)
            obtain ⟨x, y, z, k', T', ch', b', d1, d2, d3, HD, AD, ed, PD, _, _⟩ := Try.pDo 1000 P (by omega) (by omega) (by omega) (by omega) o
            have abP := ab P (by omega)
            unfold oPC at ed
            repeat' (first
             | with_reducible first | refine VC_seq fun K hK => ?_ | refine W_region ?_ | refine VC_block ?_ | refine VC_scope ?_ | refine VC_if ?_ | refine VC_skip ?_ | refine VC_exit ?_ | refine VC_ret ?_
             | (with_reducible first | refine G_not (fun h => ?_) (fun h => ?_) | refine G_cases (fun h => ?_) (fun h => ?_)) <;> (try simp only [h])
             | refine C_call rfl ed rfl abP ?_
             | with_reducible first | (refine hK _ ?_; clear hK K) | (clear hK K; refine hK _ ?_; clear hK K) | (clear hK K; clear hK K; refine hK _ ?_; clear hK K) | (clear hK K; clear hK K; clear hK K; refine hK _ ?_; clear hK K)
             | (with_reducible refine todo ?_; simp +decide only [go_sem, f1, f2, f3, f4, hg, hnx]))
            exact nxt PD d1 d3 rfl rfl rfl rfl rfl rfl rfl rfl
          · by_cases q4 : o.kind < 5
            · have f3 : (o.kind < 5) = True := eq_true q4
              have f4 : ((o.s.length : Int) < 200) = False := eq_false (by omega)
              repeat' (first
               | with_reducible first | refine VC_seq fun K hK => ?_ | refine W_region ?_ | refine VC_block ?_ | refine VC_scope ?_ | refine VC_if ?_ | refine VC_skip ?_ | refine VC_exit ?_ | refine VC_ret ?_
               | (with_reducible first | refine G_not (fun h => ?_) (fun h => ?_) | refine G_cases (fun h => ?_) (fun h => ?_)) <;> (try simp only [h])
               | with_reducible first | (refine hK _ ?_; clear hK K) | (clear hK K; refine hK _ ?_; clear hK K) | (clear hK K; clear hK K; refine hK _ ?_; clear hK K) | (clear hK K; clear hK K; clear hK K; refine hK _ ?_; clear hK K)
               | (with_reducible refine todo ?_; simp +decide only [go_sem, f1, f2, f3, f4, hg, hnx]))
              exact nxt P (by omega) (by omega) rfl rfl rfl rfl rfl rfl rfl rfl
            · have f3 : (o.kind < 5) = False := eq_false q4
              repeat' (first
               | with_reducible first | refine VC_seq fun K hK => ?_ | refine W_region ?_ | refine VC_block ?_ | refine VC_scope ?_ | refine VC_if ?_ | refine VC_skip ?_ | refine VC_exit ?_ | refine VC_ret ?_
               | (with_reducible first | refine G_not (fun h => ?_) (fun h => ?_) | refine G_cases (fun h => ?_) (fun h => ?_)) <;> (try simp only [h])
               | with_reducible first | (refine hK _ ?_; clear hK K) | (clear hK K; refine hK _ ?_; clear hK K) | (clear hK K; clear hK K; refine hK _ ?_; clear hK K) | (clear hK K; clear hK K; clear hK K; refine hK _ ?_; clear hK K)
               | (with_reducible refine todo ?_; simp +decide only [go_sem, f1, f2, f3, hg, hnx]))
              exact nxt P (by omega) (by omega) rfl rfl rfl rfl rfl rfl rfl rfl
        · have f2 : ((i : Int) < 30) = False := eq_false (by omega)
          repeat' (first
           | with_reducible first | refine VC_seq fun K hK => ?_ | refine W_region ?_ | refine VC_block ?_ | refine VC_scope ?_ | refine VC_if ?_ | refine VC_skip ?_ | refine VC_exit ?_ | refine VC_ret ?_
           | (with_reducible first | refine G_not (fun h => ?_) (fun h => ?_) | refine G_cases (fun h => ?_) (fun h => ?_)) <;> (try simp only [h])
           | with_reducible first | (refine hK _ ?_; clear hK K) | (clear hK K; refine hK _ ?_; clear hK K) | (clear hK K; clear hK K; refine hK _ ?_; clear hK K) | (clear hK K; clear hK K; clear hK K; refine hK _ ?_; clear hK K)
           | (with_reducible refine todo ?_; simp +decide only [go_sem, f1, f2]))
          exact hrest _ rfl rfl rfl rfl rfl
      · have f1 : ((i : Int) < ((opsP ops).length : Int)) = False := eq_false (by rw [hll]; omega)
        repeat' (first
         | with_reducible first | refine VC_seq fun K hK => ?_ | refine W_region ?_ | refine VC_block ?_ | refine VC_scope ?_ | refine VC_if ?_ | refine VC_skip ?_ | refine VC_exit ?_ | refine VC_ret ?_
         | (with_reducible first | refine G_not (fun h => ?_) (fun h => ?_) | refine G_cases (fun h => ?_) (fun h => ?_)) <;> (try simp only [h])
         | with_reducible first | (refine hK _ ?_; clear hK K) | (clear hK K; refine hK _ ?_; clear hK K) | (clear hK K; clear hK K; refine hK _ ?_; clear hK K) | (clear hK K; clear hK K; clear hK K; refine hK _ ?_; clear hK K)
         | (with_reducible refine todo ?_; simp +decide only [go_sem, f1]))
        exact hrest _ rfl rfl rfl rfl rfl
  · have f0 : ((300 : Int) < (s.length : Int)) = True := eq_true (by omega)
    repeat' (first
     | with_reducible first | refine VC_seq fun K hK => ?_ | refine W_region ?_ | refine VC_block ?_ | refine VC_scope ?_ | refine VC_if ?_ | refine VC_skip ?_ | refine VC_exit ?_ | refine VC_ret ?_
     | (with_reducible first | refine G_not (fun h => ?_) (fun h => ?_) | refine G_cases (fun h => ?_) (fun h => ?_)) <;> (try simp only [h])
     | refine C_call rfl e1 rfl (Above_mono hab (by omega)) ?_
     | refine C_pure e0 rfl rfl (fun k => lo2 _ (Nat.ne_of_lt (Nat.le_of_ble_eq_true rfl))) ?_
     | with_reducible first | (refine hK _ ?_; clear hK K) | (clear hK K; refine hK _ ?_; clear hK K) | (clear hK K; clear hK K; refine hK _ ?_; clear hK K) | (clear hK K; clear hK K; clear hK K; refine hK _ ?_; clear hK K)
     | (with_reducible refine todo ?_; simp +decide only [go_sem, zne, f0]))
    exact RetR_same rfl (by simp +decide only [go_sem]) True.intro (fun i cs c h => by cases h) (fun i h => (h rfl).elim) (fun i h => (h rfl).elim)
end Go.Proofs
