import Derived.Test.YtkifoeiilkhnhaaQ39
import Derived.Test.YtkifoeiilkhnhaaQ23

/-
  HeapRoots: the law's body.
-/


namespace Go.Proofs
open Go.PW
structure QSt where
  i : Nat
  k : Nat
  T : Nat
  pid : Nat
  H : HMap
  A : AMap
  gs : List (List UInt8)
structure QV (y : QSt) : Prop where
  hy : HY y.H y.A y.k 200 y.pid (y.k + 20) 80 40 y.T 3 y.gs
  rg : RG y.gs
  k : y.k ≤ 203 + 6 * y.i ∧ 203 ≤ y.k
  t : y.T ≤ 1 + 2 * y.i
  i : y.i ≤ 20
  d : y.H 200 ≠ none
def FrQ (l : List (List UInt8)) (y : QSt) : St :=
  over [(0, .c (.d (.sl (textsD l)))), (3, .c (.ptr 200 0)), (5, .c (.ptr y.pid 0)), (7, .c (.ptr (y.k + 20) 0)), (9, pD (.lit (.int .i64 y.i)))] [] y.H y.A
theorem PY.did {H : HMap} {A : AMap} {k did pid N logs T m : Nat} {gs : List (List UInt8)} (h : PY H A k did pid N logs T m gs) : H did ≠ none ∧ did < k := by
  obtain ⟨ch, b, hx, _⟩ := h
  obtain ⟨_, _, _, _, _, _, n7, _, _, _, _, _, hd0, _⟩ := hx.nums
  exact ⟨hd0, n7⟩
theorem openG_rg {gs : List (List UInt8)} (h : RG gs) : openG gs = gs := by
  unfold openG
  rw [if_neg (by rw [h.one]; simp)]
section hy
variable {H : HMap} {A : AMap} {k pid T : Nat} {gs : List (List UInt8)}
/-- What one turn of the loop comes to. -/
theorem Try.turnR (h : HY H A k 200 pid (k + 20) 80 40 T 3 gs) (rg : RG gs) (hk : k ≤ 500) (hT : T ≤ 100) (s : List UInt8) (hs : s.length ≤ 500) :
    ∃ H1 A1 H2 A2 H3 A3 H4 A4 H5 A5 k' T' g2, EffOK Try.prog 11 1000 H A [.c (.ptr (k + 20) 0), pD (dS s)] (pD (.lit (.int .i64 0))) H1 A1 ∧
    EffOK Try.prog 21 1000 H1 A1 [.c (.ptr pid 0)] (pD (.lit (.int .i64 0))) H2 A2 ∧ EffOK Try.prog 14 1000 H2 A2 [.c (.ptr pid 0)] (pD (.lit (.int .i64 (frG g2)))) H2 A2 ∧
    EffOK Try.prog 12 1000 H2 A2 [.c (.ptr (k + 20) 0), pD (.lit (.int .i64 (s.length : Int)))] (pD (.lit (.int .i64 ((need s.length : Nat) : Int)))) H2 A2 ∧ frG g2 + need s.length = 38 ∧
    EffOK Try.prog 22 1000 H2 A2 [.c (.ptr 200 0), .c (.d (.sl []))] (pD (.lit (.int .i64 0))) H3 A3 ∧
    EffOK Try.prog 20 1000 H3 A3 [.c (.ptr 200 0), pD (.lit (.int .i64 40))] (.tup [.c (.ptr (k' - 1) 0), .c (.d (.lit (.int .i64 0)))]) H4 A4 ∧
    EffOK Try.prog 17 1000 H4 A4 [.c (.ptr (k' - 1) 0)] (.tup [.c (.ptr (k' + 20) 0), .c (.d (.lit (.int .i64 0)))]) (upd H5 (k + 20) (some [.ptr pid 0])) A5 ∧
    EffOK Try.prog 18 1000 (upd H5 (k + 20) (some [.ptr pid 0])) A5 [.c (.ptr (k' + 20) 0)] (.tup [.c (.d (dS s)), .c (.d (.lit (.int .i64 0)))]) (upd H5 (k + 20) (some [.ptr pid 0])) A5 ∧
    HY H5 A5 k' 200 (k' - 1) (k' + 20) 80 40 T' 3 g2 ∧ RG g2 ∧ (k' ≤ k + 6 ∧ k ≤ k') ∧ T' ≤ T + 2 ∧ H5 (k + 20) = none ∧ H5 200 ≠ none ∧
    Above 1000 H A ∧ Above 1000 H1 A1 ∧ Above 1000 H2 A2 ∧ Above 1000 H3 A3 ∧ Above 1000 H4 A4 ∧ Above 1000 (upd H5 (k + 20) (some [.ptr pid 0])) A5 := by
  obtain ⟨g2, ids, eS, rg2, c2, r2, f2, i0, hrow⟩ := setRoot_ok rg hs
  have hn : need s.length ≤ 4 := by unfold need; omega
  obtain ⟨H1, A1, e1, hy1, _, _⟩ := Try.hSetRoot 1000 h (by omega) s
  rw [eS] at e1 hy1
  have hy1 := hy1.mono (m' := 24) (by omega)
  have ab := Above_mono h.nums.2.1 (show k + 20 + 1 ≤ 1000 by omega)
  have ab1 := Above_mono hy1.nums.2.1 (show k + 20 + 1 ≤ 1000 by omega)
  obtain ⟨H10, p1, hk1, l1, rfl⟩ := hy1
  obtain ⟨k2, T2, H2, A2, q1, q2, q3, e2, p2, _, _⟩ := Try.yCommit 1000 p1 (by omega) (by omega) (by omega) (by omega)
  obtain ⟨hw1, hab1, hp1, _⟩ := p1.nums
  obtain ⟨hw2, hab2, hp2, _, hl2, _, lo2, hpk2, _⟩ := p2.nums
  have n1 : H10 (k + 20) = none := (hab1 _ (by omega)).1
  have n2 : H2 (k + 20) = none := (hab2 _ (by omega)).1
  have e2' := eff_frame (cs := [.ptr pid 0]) e2 hw1 (oksP (l := []) hp1) n1 n2
  have hy2 : HY (upd H2 (k + 20) (some [.ptr pid 0])) A2 k2 200 pid (k + 20) 80 40 T2 0 g2 := ⟨H2, p2, by omega, l1, rfl⟩
  have e3 := Try.hFrees 1000 hy2
  have e4 := Try.hNeed 1000 hy2 (s.length : Int)
  rw [needI_nat (by omega)] at e4
  obtain ⟨hd2, hdk2⟩ := p2.did
  have ab2 := Above_mono hy2.nums.2.1 (show k + 20 + 1 ≤ 1000 by omega)
  obtain ⟨ch, b, hx, hcm, hgl, hg⟩ := p2
  have hch : ch = [] := List.eq_nil_of_length_eq_zero (by omega)
  subst hch
  obtain ⟨H3, A3, e5, D3⟩ := Try.pCrash 1000 hx (by omega)
  obtain ⟨H4, A4, e6, P4⟩ := Try.pOpen 1000 D3 (by omega)
  have hw3 : Wf H3 A3 ∧ Above (k2 + 1) H3 A3 ∧ H3 200 ≠ none := by
    obtain ⟨_, _, _, _, _, _, _, _, _, L, _⟩ := D3
    exact ⟨L.wf, L.ab, by rw [L.dk.h]; simp⟩
  have n3 : H3 (k + 20) = none := (hw3.2.1 _ (by omega)).1
  have e5' := eff_frame (cs := [.ptr pid 0]) e5 hw2 (oksP (l := [.sl []]) hd2) n2 n3
  have p4 : PY H4 A4 (k2 + 1 + 2) 200 (k2 + 1 + 1) 80 40 (T2 + 1) 0 g2 := ⟨[], b, P4, Nat.le_refl _, hgl, hg⟩
  obtain ⟨hw4, hab4, hp4, _⟩ := p4.nums
  have n4 : H4 (k + 20) = none := (hab4 _ (by omega)).1
  have e6' := eff_frame (cs := [.ptr pid 0]) e6 hw3.1 (oksP (l := [.lit (.int .i64 40)]) hw3.2.2) n3 n4
  have og := openG_rg rg2
  obtain ⟨H5, A5, e7, hy5, kh5, _⟩ := Try.hOpen 1000 p4 (by rw [rg2.len]; omega) (k2 + 1 + 2 + 20) (by omega) (by omega) (by rw [og]; exact rg2.p82)
  rw [og] at hy5
  have n5 : H5 (k + 20) = none := by
    obtain ⟨H50, p5, _, _, rfl⟩ := hy5
    obtain ⟨_, hab5, _⟩ := p5.nums
    rw [upd_other _ _ (by omega)]
    exact (hab5 _ (by omega)).1
  have hd5 : H5 200 ≠ none := kh5 200 p4.did.1
  have e7' := eff_frame (cs := [.ptr pid 0]) e7 hw4 (oksP (l := []) hp4) n4 n5
  have e8 := Try.hRoot 1000 hy5
  have hrv : rootV g2 = .tup [.c (.d (dS s)), .c (.d (.lit (.int .i64 0)))] := by
    unfold rootV getV
    rw [if_neg (by omega), r2, c2.row rg2.ok.big]
  rw [hrv] at e8
  obtain ⟨hw5, hab5, _, _, _, _, _, _, hh5⟩ := hy5.nums
  have e8' := eff_frame (cs := [.ptr pid 0]) e8 hw5 (oksP (l := []) hh5) n5 n5
  exact ⟨_, _, _, _, _, _, _, _, H5, A5, k2 + 3, T2 + 1, g2, e1, e2', e3, e4, f2, e5', e6', e7', e8', hy5.mono (by omega), rg2, ⟨by omega, by omega⟩, by omega, n5, hd5, ab, ab1, ab2, Above_updH (Above_mono hw3.2.1 (by omega)) (by omega), Above_updH (Above_mono hab4 (by omega)) (by omega), Above_updH (Above_mono hab5 (by omega)) (by omega)⟩
end hy
theorem hy_ptr {H : HMap} {A : AMap} {k did pid hid N logs T m : Nat} {gs : List (List UInt8)} (h : HY H A k did pid hid N logs T m gs) {X Y : AMap} : PV.wk (hOver [] H) X Y (.c (.ptr hid 0)) (.c (.ptr hid 0)) = True ∧ PV.wk (hOver [] H) X Y (.c (.ptr pid 0)) (.c (.ptr pid 0)) = True := by
  obtain ⟨_, _, _, h2, _, _, _, _, h1⟩ := h.nums
  exact ⟨eq_true (wkP_ptr (by show H hid ≠ none; exact h1)), eq_true (wkP_ptr (by show H pid ≠ none; exact h2))⟩
set_option maxRecDepth 8000 in
set_option maxHeartbeats 64000000 in
theorem Try.kHeapRoots (l : List (List UInt8)) : PureOK Try.prog 7 [.c (.d (.sl (textsD l)))] (.one (.d (.lit (.bool true)))) := by
  have e0 := Try.kKnown
  obtain ⟨H1, A1, e1, L1, lo1, lo2⟩ := Try.sNew 200 80 (by omega) (by omega)
  have D1 := DX.new (logs := 40) L1 (by omega) (by omega) (by omega) (by omega) (by omega) (fun j hj => ⟨lo1 j (by omega), fun q => lo2 _ (by show j ≠ 200; omega)⟩)
  obtain ⟨H2, A2, e2, P2⟩ := Try.pOpen 1000 D1 (by omega)
  have hln : (newG 40).length = 40 := List.length_replicate
  have Y2 : PY H2 A2 203 200 202 80 40 1 0 (newG 40) := ⟨[], _, P2, Nat.le_refl _, by omega, fun j hj => by rw [ct_nil, newG_at (by omega)]⟩
  have hr := openG_new (n := 40) (by omega) (by omega)
  obtain ⟨H3, A3, e3, Y3, kh3, _⟩ := Try.hOpen 1000 Y2 (by omega) 223 (by omega) (by omega) hr.root.1
  have hd3 : H3 200 ≠ none := kh3 200 Y2.did.1
  have R3 : RG (openG (newG 40)) := ⟨hr.ok, hr.len, hr.one, hr.root.1, .inl ⟨hr.root.2, hr.cnt⟩⟩
  generalize openG (newG 40) = g3 at *
  have ab1 : Above (0 + 1000) H1 A1 := Above_mono L1.ab (by omega)
  have ab2 : Above (0 + 1000) H2 A2 := Above_mono Y2.nums.2.1 (by omega)
  have hll := textsD_len l
  refine pure_eff rfl (effr_ok (E := envOf Try.prog [19, 20, 17, 11, 21, 2000000 + 14, 2000000 + 12, 22, 18] 0 [] []) (envOf_ok Try.mixed) Try.func7 rfl Try.call7 (by kernel_rfl) (by exact Nat.le_of_ble_eq_true rfl) (fun hab => ?_))
  by_cases hs : l.length ≤ 20
  · have f0 : ((20 : Int) < ((textsD l).length : Int)) = False := eq_false (by rw [hll]; omega)
    repeat' (first
     | with_reducible first | refine VC_seq fun K hK => ?_ | refine W_region ?_ | refine VC_block ?_ | refine VC_scope ?_ | refine VC_if ?_ | refine VC_skip ?_ | refine VC_exit ?_ | refine VC_ret ?_
     | (with_reducible first | refine G_not (fun h => ?_) (fun h => ?_) | refine G_cases (fun h => ?_) (fun h => ?_)) <;> (try simp only [h])
     | refine C_call rfl e1 rfl (Above_mono hab (by omega)) ?_
     | refine C_call rfl e2 rfl ab1 ?_
     | refine C_call rfl e3 rfl ab2 ?_
     | with_reducible first | (refine hK _ ?_; clear hK K) | (clear hK K; refine hK _ ?_; clear hK K) | (clear hK K; clear hK K; refine hK _ ?_; clear hK K) | (clear hK K; clear hK K; clear hK K; refine hK _ ?_; clear hK K)
     | (with_reducible refine todo ?_; simp +decide only [go_sem, zne, f0]))
    refine VC_while (ι := QSt) QV (FrQ l) (fun y => 20 - y.i) ⟨0, 203, 1, 202, H3, A3, g3⟩ ⟨Y3, R3, ⟨by show 203 ≤ 203 + 6 * 0; omega, Nat.le_refl _⟩, by show 1 ≤ 1 + 2 * 0; omega, by show 0 ≤ 20; omega, hd3⟩ ?_ ?_
    · have w := fun {X Y : AMap} => hy_ptr Y3 (X := X) (Y := Y)
      have wd : ∀ {X Y : AMap}, PV.wk (hOver [] H3) X Y (.c (.ptr 200 0)) (.c (.ptr 200 0)) = True := eq_true (wkP_ptr (by show H3 200 ≠ none; exact hd3))
      unfold FrQ
      refine Weak_overG Y3.nums.1 (fun _ _ => rfl) rfl ?_ ?_ (fun i hi => (hi rfl).elim) (fun τ h => (h rfl).elim)
      · simp +decide only [go_sem, w, wd]
      · simp +decide only [go_sem]
    · rintro ⟨i, k, T, pid, H, A, gs⟩ ⟨hy, rg, hk, hT, hi, hd⟩
      simp only at hy rg hk hT hi hd
      have hnx : IntKind.i64.wrap ((i : Int) + 1) = ((i + 1 : Nat) : Int) := by rw [Go.IntWalk.i64_in _ (by omega)]; omega
      have hlo := hy.lo (by omega)
      have abH : Above (0 + 1000) H A := Above_mono hy.nums.2.1 (by omega)
      have nxt : ∀ {k' T' pid' : Nat} {H' : HMap} {A' : AMap} {gs' : List (List UInt8)} {S : St}, i < 20 → HY H' A' k' 200 pid' (k' + 20) 80 40 T' 3 gs' → RG gs' → k' ≤ k + 6 ∧ k ≤ k' → T' ≤ T + 2 → H' 200 ≠ none → (∀ j, H' j ≠ none → S.H j = H' j) → S.A = A' → S.ρ 0 = .c (.d (.sl (textsD l))) → S.ρ 3 = .c (.ptr 200 0) → S.ρ 5 = .c (.ptr pid' 0) → S.ρ 7 = .c (.ptr (k' + 20) 0) → S.ρ 9 = pD (.lit (.int .i64 (i + 1 : Nat))) →
          ∃ j : {y : QSt // QV y}, Weak noH noA S (FrQ l j.1) ∧ 20 - j.1.i < 20 - i := fun {k'} {T'} {pid'} {H'} {A'} {gs'} {S} hi2 hx hg' hk' hT' hd' y1 y2 y3 y4 y5 y6 y7 => by
        refine ⟨⟨⟨i + 1, k', T', pid', H', A', gs'⟩, ⟨hx, hg', ⟨by show k' ≤ 203 + 6 * (i + 1); omega, by show 203 ≤ k'; omega⟩, by show T' ≤ 1 + 2 * (i + 1); omega, by show i + 1 ≤ 20; omega, hd'⟩⟩, ?_, by show 20 - (i + 1) < 20 - i; omega⟩
        have w := fun {X Y : AMap} => hy_ptr hx (X := X) (Y := Y)
        have wd : ∀ {X Y : AMap}, PV.wk (hOver [] H') X Y (.c (.ptr 200 0)) (.c (.ptr 200 0)) = True := eq_true (wkP_ptr (by show H' 200 ≠ none; exact hd'))
        unfold FrQ
        refine Weak_overG hx.nums.1 y1 y2 ?_ ?_ (fun i hi => (hi rfl).elim) (fun τ h => (h rfl).elim)
        · simp +decide only [go_sem, w, wd, y3, y4, y5, y6, y7]
        · simp +decide only [go_sem]
      unfold FrQ
      by_cases q1 : i < l.length
      · have f1 : ((i : Int) < ((textsD l).length : Int)) = True := eq_true (by rw [hll]; omega)
        have hgt := textsD_get q1
        generalize l[i] = s at hgt
        by_cases q2 : s.length ≤ 500
        · have f2 : ((500 : Int) < (s.length : Int)) = False := eq_false (by omega)
          obtain ⟨HA, AA, HB, AB, HC, AC, HD, AD, H5, A5, k', T', g2, t1, t2, t3, t4, t5, t6, t7, t8, t9, t10, t11, t12, t13, t14, t15, b0, b1, b2, b3, b4, b5⟩ := Try.turnR hy rg (by omega) (by omega) s q2
          have c1 : IntKind.i64.wrap ((38 : Int) - ((need s.length : Nat) : Int)) = ((frG g2 : Nat) : Int) := by rw [Go.IntWalk.i64_in _ (by omega)]; omega
          have c2 : (((frG g2 : Nat) : Int) != ((frG g2 : Nat) : Int)) = false := by simp
          have fin : ∀ j, H5 j ≠ none → upd H5 (k + 20) (some [.ptr pid 0]) j = H5 j := fun j hj => upd_other _ _ fun e => hj (by rw [e]; exact t14)
          generalize upd H5 (k + 20) (some [.ptr pid 0]) = HX at *
          repeat' (first
           | with_reducible first | refine VC_seq fun K hK => ?_ | refine W_region ?_ | refine VC_block ?_ | refine VC_scope ?_ | refine VC_if ?_ | refine VC_skip ?_ | refine VC_exit ?_ | refine VC_ret ?_
           | (with_reducible first | refine G_not (fun h => ?_) (fun h => ?_) | refine G_cases (fun h => ?_) (fun h => ?_)) <;> (try simp only [h])
           | refine C_call rfl t1 rfl b0 ?_
           | refine C_call rfl t2 rfl b1 ?_
           | refine C_quiet rfl rfl t3 rfl b2 ?_
           | refine C_quiet rfl rfl t4 rfl b2 ?_
           | refine C_call rfl t6 rfl b2 ?_
           | refine C_call rfl t7 rfl b3 ?_
           | refine C_call rfl t8 rfl b4 ?_
           | refine C_call rfl t9 rfl b5 ?_
           | with_reducible first | (refine hK _ ?_; clear hK K) | (clear hK K; refine hK _ ?_; clear hK K) | (clear hK K; clear hK K; refine hK _ ?_; clear hK K) | (clear hK K; clear hK K; clear hK K; refine hK _ ?_; clear hK K)
           | (with_reducible refine todo ?_; simp +decide only [go_sem, zne, f1, f2, hgt, hnx, c1, c2]))
          exact nxt (by omega) t10 t11 t12 t13 t15 fin rfl rfl rfl rfl rfl rfl
        · have f2 : ((500 : Int) < (s.length : Int)) = True := eq_true (by omega)
          repeat' (first
           | with_reducible first | refine VC_seq fun K hK => ?_ | refine W_region ?_ | refine VC_block ?_ | refine VC_scope ?_ | refine VC_if ?_ | refine VC_skip ?_ | refine VC_exit ?_ | refine VC_ret ?_
           | (with_reducible first | refine G_not (fun h => ?_) (fun h => ?_) | refine G_cases (fun h => ?_) (fun h => ?_)) <;> (try simp only [h])
           | with_reducible first | (refine hK _ ?_; clear hK K) | (clear hK K; refine hK _ ?_; clear hK K) | (clear hK K; clear hK K; refine hK _ ?_; clear hK K) | (clear hK K; clear hK K; clear hK K; refine hK _ ?_; clear hK K)
           | (with_reducible refine todo ?_; simp +decide only [go_sem, f1, f2, hgt, hnx]))
          exact nxt (by omega) hy rg ⟨by omega, Nat.le_refl _⟩ (by omega) hd (fun _ _ => rfl) rfl rfl rfl rfl rfl rfl
      · have f1 : ((i : Int) < ((textsD l).length : Int)) = False := eq_false (by rw [hll]; omega)
        repeat' (first
         | with_reducible first | refine VC_seq fun K hK => ?_ | refine W_region ?_ | refine VC_block ?_ | refine VC_scope ?_ | refine VC_if ?_ | refine VC_skip ?_ | refine VC_exit ?_ | refine VC_ret ?_
         | (with_reducible first | refine G_not (fun h => ?_) (fun h => ?_) | refine G_cases (fun h => ?_) (fun h => ?_)) <;> (try simp only [h])
         | refine C_pure e0 rfl rfl (fun k => (hlo _ (Nat.le_of_ble_eq_true rfl)).2 k) ?_
         | with_reducible first | (refine hK _ ?_; clear hK K) | (clear hK K; refine hK _ ?_; clear hK K) | (clear hK K; clear hK K; refine hK _ ?_; clear hK K) | (clear hK K; clear hK K; clear hK K; refine hK _ ?_; clear hK K)
         | (with_reducible refine todo ?_; simp +decide only [go_sem, f1]))
        exact RetR_same rfl (by simp +decide only [go_sem]) True.intro (fun i cs c h => by cases h) (fun i h => (h rfl).elim) (fun i h => (h rfl).elim)
  · have f0 : ((20 : Int) < ((textsD l).length : Int)) = True := eq_true (by rw [hll]; omega)
    repeat' (first
     | with_reducible first | refine VC_seq fun K hK => ?_ | refine W_region ?_ | refine VC_block ?_ | refine VC_scope ?_ | refine VC_if ?_ | refine VC_skip ?_ | refine VC_exit ?_ | refine VC_ret ?_
     | (with_reducible first | refine G_not (fun h => ?_) (fun h => ?_) | refine G_cases (fun h => ?_) (fun h => ?_)) <;> (try simp only [h])
     | refine C_call rfl e1 rfl (Above_mono hab (by omega)) ?_
     | refine C_pure e0 rfl rfl (fun k => lo2 _ (Nat.ne_of_lt (Nat.le_of_ble_eq_true rfl))) ?_
     | with_reducible first | (refine hK _ ?_; clear hK K) | (clear hK K; refine hK _ ?_; clear hK K) | (clear hK K; clear hK K; refine hK _ ?_; clear hK K) | (clear hK K; clear hK K; clear hK K; refine hK _ ?_; clear hK K)
     | (with_reducible refine todo ?_; simp +decide only [go_sem, zne, f0]))
    exact RetR_same rfl (by simp +decide only [go_sem]) True.intro (fun i cs c h => by cases h) (fun i h => (h rfl).elim) (fun i h => (h rfl).elim)
end Go.Proofs
