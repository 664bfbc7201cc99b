import Derived.Test.YtkifoeiilkhnhaaQ39

/-
  HeapKeeps: the law's body.
-/


namespace Go.Proofs
open Go.PW
theorem and_mask (x : Int) : ∃ m : Nat, iAnd .i64 x 65535 = (m : Int) ∧ m ≤ 65535 := by
  refine ⟨(BitVec.ofInt 64 x &&& BitVec.ofInt 64 65535).toNat, ?_, ?_⟩
  · unfold iAnd
    have h : (BitVec.ofInt 64 x &&& BitVec.ofInt 64 65535).toNat ≤ 65535 := by
      rw [BitVec.toNat_and]
      exact Nat.and_le_right
    show IntKind.i64.wrap (((BitVec.ofInt 64 x &&& BitVec.ofInt 64 65535).toNat : Nat) : Int) = _
    exact Go.IntWalk.i64_in _ (by omega)
  · rw [BitVec.toNat_and]
    exact Nat.and_le_right
theorem sumN_le {f : Nat → Rc} {k : Nat} : ∀ {n : Nat}, k ≤ n → sumN f k ≤ sumN f n
  | 0, h => by rw [show k = 0 by omega]; exact Nat.le_refl _
  | n + 1, h => by
    by_cases e : k = n + 1
    · rw [e]; exact Nat.le_refl _
    · have := sumN_le (f := f) (n := n) (show k ≤ n by omega)
      show _ ≤ sumN f n + (f n).1.length
      omega
theorem szd_set {E : List (List D)} {n : Nat} {e : List D} (h : Szd 1 E) (he : e.length = 1) : Szd 1 (E.set n e) := fun x hx => by
  rcases List.mem_or_eq_of_mem_set hx with hx | rfl
  · exact h x hx
  · exact he
theorem upd61 {A : AMap} {x y : Option Arr} : upd (upd A (61, 0) x) (66, 0) y (61, 0) = x := by
  rw [upd_other _ _ (by decide), upd_same]
theorem upd66 {A : AMap} {x y : Option Arr} : upd (upd A (61, 0) x) (66, 0) y (66, 0) = y := upd_same _ _ _
structure KSt where
  i : Nat
  H : HMap
  A : AMap
  gs : List (List UInt8)
  f : Nat → Rc
  n : Nat
  r : List Nat
  E1 : List (List D)
  E2 : List (List D)
structure KV (y : KSt) : Prop where
  z : HZ y.H y.A 203 200 202 210 110 10 1 y.gs
  g : KG y.gs y.f y.n y.r
  i : y.i ≤ 40
  le : y.n ≤ y.E1.length ∧ y.E1.length ≤ y.i ∧ y.E2.length = y.E1.length
  z1 : Szd 1 y.E1
  z2 : Szd 1 y.E2
  c : ∀ j, j < y.n → y.E1[j]? = some [.lit (.int .i64 (((y.f j).1.headD 0 : Nat) : Int))] ∧ y.E2[j]? = some [dS (y.f j).2] ∧ (y.f j).2.length ≤ 400
def oHC (o : OpH) : List CV := [.d (.lit (.int .i64 o.kind)), .d (.lit (.int .i64 o.n)), .d (dS o.s)]
def kTk (E1 E2 : List (List D)) : List (Tok × Arr) := [((61, 0), .mu 1 E1), ((66, 0), .mu 1 E2)]
def FrK (ops : List OpH) (y : KSt) : St :=
  overA [(0, .c (.d (.sl (opsH ops)))), (3, .c (.ptr 202 0)), (4, .c (.ptr 210 0)), (5, .c (.tv (61, 0) 1 y.n y.E1.length)), (6, .c (.tv (66, 0) 1 y.n y.E1.length)), (7, pD (.lit (.int .i64 y.r.length))), (8, pD (.lit (.int .i64 y.i)))] []
    [((61, 0), .mu 1 y.E1), ((66, 0), .mu 1 y.E2)] y.H y.A
theorem lift2 {P : Program} {f : FuncId} {args : List PV} {v : PV} {H H' : HMap} {A A' : AMap} (e : EffOK P f 1000 H A args v H' A') (hw : Wf H A) (lo : ∀ j, j < 200 → ∀ q, A (j, q) = none) (lo' : ∀ j, j < 200 → ∀ q, A' (j, q) = none)
    (ha : ∀ {tk : Tok → Prop}, ∀ x ∈ args, x.oks (fun i => H i ≠ none) tk) (a1 a2 : Arr) : EffOK P f 1000 H (aOver [((61, 0), a1), ((66, 0), a2)] A) args v H' (aOver [((61, 0), a1), ((66, 0), a2)] A') := by
  have e1 := eff_frameA (κ := (66, 0)) (ar := a2) e hw ha (lo 66 (by omega) 0) (lo' 66 (by omega) 0)
  exact eff_frameA (κ := (61, 0)) (ar := a1) e1 (Wf_arr hw upd_keep) ha (by rw [upd_other _ _ (by decide)]; exact lo 61 (by omega) 0) (by rw [upd_other _ _ (by decide)]; exact lo' 61 (by omega) 0)
theorem lift9 {P : Program} {f : FuncId} {args : List PV} {v : PV} {H H' : HMap} {A A' : AMap} (e : EffOK P f 1000 H A args v H' A') (hw : Wf H A) (h9 : H 9 = none) (h9' : H' 9 = none)
    (ha : ∀ {tk : Tok → Prop}, ∀ x ∈ args, x.oks (fun i => H i ≠ none) tk) (cs : List CV) : EffOK P f 1000 (upd H 9 (some cs)) A args v (upd H' 9 (some cs)) A' := eff_frame e hw ha h9 h9'
set_option maxRecDepth 8000 in
set_option maxHeartbeats 64000000 in
theorem Try.kHeapKeeps (ops : List OpH) : PureOK Try.prog 3 [.c (.d (.sl (opsH ops)))] (.one (.d (.lit (.bool true)))) := by
  have e0 := Try.kKnown
  obtain ⟨H1, A1, e1, P1⟩ := Try.zBegin 100 (by omega) (by omega)
  have P1 : HZ H1 A1 203 200 202 210 110 10 1 (openG (newG 100)) := P1
  have hll := opsH_len ops
  have nu := fun {H : HMap} {A : AMap} {gs : List (List UInt8)} (h : HZ H A 203 200 202 210 110 10 1 gs) => h.nums (by omega)
  have ab : ∀ {H : HMap} {A : AMap} {gs : List (List UInt8)}, HZ H A 203 200 202 210 110 10 1 gs → Above (0 + 1000) H A := fun h => Above_mono (nu h).2.1 (by omega)
  refine pure_eff rfl (effr_ok (E := envOf Try.prog [8, 9, 13, 10, 11, 12, 14] 0 [61, 66] []) (envOf_ok Try.mixed) Try.func3 rfl Try.call3 (by kernel_rfl) (by exact Nat.le_of_ble_eq_true rfl) (fun hab => ?_))
  repeat' (first
   | with_reducible first | refine VC_seq fun K hK => ?_ | refine W_region ?_ | refine VC_block ?_ | refine VC_scope ?_ | refine VC_if ?_ | refine VC_skip ?_ | refine VC_exit ?_ | refine VC_ret ?_
   | (with_reducible first | refine G_not (fun h => ?_) (fun h => ?_) | refine G_cases (fun h => ?_) (fun h => ?_)) <;> (try simp only [h])
   | refine C_call rfl e1 rfl (Above_mono hab (by omega)) ?_
   | with_reducible first | (refine hK _ ?_; clear hK K) | (clear hK K; refine hK _ ?_; clear hK K) | (clear hK K; clear hK K; refine hK _ ?_; clear hK K) | (clear hK K; clear hK K; clear hK K; refine hK _ ?_; clear hK K)
   | (with_reducible refine todo ?_; simp +decide only [go_sem]))
  have rest : ∀ S : St, (∀ q, S.A (166, q) = none) → K S := by
    rintro ⟨ρ, HS, AS⟩ h66
    refine hK _ ?_
    clear hK
    repeat' (first
     | with_reducible first | refine VC_seq fun K hK => ?_ | refine W_region ?_ | refine VC_block ?_ | refine VC_scope ?_ | refine VC_if ?_ | refine VC_skip ?_ | refine VC_exit ?_ | refine VC_ret ?_
     | (with_reducible first | refine G_not (fun h => ?_) (fun h => ?_) | refine G_cases (fun h => ?_) (fun h => ?_)) <;> (try simp only [h])
     | refine C_pure e0 rfl rfl h66 ?_
     | with_reducible first | (refine hK _ ?_; clear hK K) | (clear hK K; refine hK _ ?_; clear hK K) | (clear hK K; clear hK K; refine hK _ ?_; clear hK K) | (clear hK K; clear hK K; clear hK K; refine hK _ ?_; clear hK K)
     | (with_reducible refine todo ?_; simp +decide only [go_sem]))
    exact RetR_same rfl (by simp +decide only [go_sem]) True.intro (fun i cs c h => by cases h) (fun i h => (h rfl).elim) (fun i h => (h rfl).elim)
  refine VC_while (ι := KSt) KV (FrK ops) (fun y => 40 - y.i) ⟨0, H1, A1, _, fun _ => ([], []), 0, [], [], []⟩ ⟨P1, KG.new, Nat.zero_le _, ⟨Nat.le_refl _, Nat.le_refl _, rfl⟩, by simp [Szd], by simp [Szd], fun j hj => by cases hj⟩ ?_ ?_
  · have w := fun {X Y : AMap} => hz_ptr P1 (by omega) (X := X) (Y := Y)
    have l1 := (nu P1).2.2.2.2.2
    unfold FrK
    refine Weak_overA (nu P1).1 (fun _ _ => rfl) (fun κ hκ => rfl) (fun p hp => ?_) ?_ ?_ ?_ (fun i hi => (hi rfl).elim) (fun τ h => (h rfl).elim)
    · simp only [List.mem_cons, List.not_mem_nil, or_false] at hp
      rcases hp with rfl | rfl
      · exact (l1 61 (by omega)).2 0
      · exact (l1 66 (by omega)).2 0
    · simp +decide only [go_sem, w]
      exact ⟨wkP_newt ((l1 61 (by omega)).2 0) (if_pos rfl), wkP_newt ((l1 66 (by omega)).2 0) ((if_neg (by decide)).trans (if_pos rfl))⟩
    · simp +decide only [go_sem]
    · simp +decide only [go_sem, (l1 61 (by omega)).2 0, (l1 66 (by omega)).2 0]
  · rintro ⟨i, H, A, gs, f, n, r, E1, E2⟩ ⟨P, g, hi, ⟨q1, q2, q3⟩, z1, z2, hc⟩
    simp only at P g hi q1 q2 q3 z1 z2 hc
    clear hK
    have hnx : IntKind.i64.wrap ((i : Int) + 1) = ((i + 1 : Nat) : Int) := by rw [Go.IntWalk.i64_in _ (by omega)]; omega
    have lo := (nu P).2.2.2.2.2
    have h9 : H 9 = none := (lo 9 (by omega)).1
    have h166 : ∀ q, aOver [((61, 0), .mu 1 E1), ((66, 0), .mu 1 E2)] A (166, q) = none := fun q =>
      (if_neg (fun e => absurd (congrArg Prod.fst e) (show (166 : Nat) ≠ 61 by decide))).trans ((if_neg (fun e => absurd (congrArg Prod.fst e) (show (166 : Nat) ≠ 66 by decide))).trans ((lo 166 (by omega)).2 q))
    unfold FrK
    by_cases b1 : i < ops.length
    · have f1 : ((i : Int) < ((opsH ops).length : Int)) = True := eq_true (by rw [hll]; omega)
      by_cases b2 : i < 40
      · have f2 : ((i : Int) < 40) = True := eq_true (by omega)
        have hgt := opsH_get b1
        generalize ops[i] = o at hgt
        refine VC_seq fun K hK => ?_
        repeat' (first
         | with_reducible first | refine W_region ?_ | refine VC_block ?_ | refine VC_scope ?_ | refine VC_if ?_ | refine VC_skip ?_ | refine VC_exit ?_ | refine VC_ret ?_
         | (with_reducible first | refine G_not (fun h => ?_) (fun h => ?_) | refine G_cases (fun h => ?_) (fun h => ?_)) <;> (try simp only [h])
         | with_reducible first | (refine hK _ ?_; clear hK K) | (clear hK K; refine hK _ ?_; clear hK K) | (clear hK K; clear hK K; refine hK _ ?_; clear hK K) | (clear hK K; clear hK K; clear hK K; refine hK _ ?_; clear hK K)
         | (with_reducible refine todo ?_; simp +decide only [go_sem, f1, f2]))
        refine VC_seq fun K hK => ?_
        repeat' (first
         | with_reducible first | refine W_region ?_ | refine VC_block ?_ | refine VC_scope ?_ | refine VC_if ?_ | refine VC_skip ?_ | refine VC_exit ?_ | refine VC_ret ?_
         | (with_reducible first | refine G_not (fun h => ?_) (fun h => ?_) | refine G_cases (fun h => ?_) (fun h => ?_)) <;> (try simp only [h])
         | with_reducible first | (refine hK _ ?_; clear hK K) | (clear hK K; refine hK _ ?_; clear hK K) | (clear hK K; clear hK K; refine hK _ ?_; clear hK K) | (clear hK K; clear hK K; clear hK K; refine hK _ ?_; clear hK K)
         | (with_reducible refine todo ?_; simp +decide only [go_sem, f1, f2]))
        by_cases b4 : o.s.length ≤ 400
        · have f4 : ((400 : Int) < (o.s.length : Int)) = False := eq_false (by omega)
          refine VC_seq fun K hK => ?_
          repeat' (first
           | with_reducible first | refine W_region ?_ | refine VC_block ?_ | refine VC_scope ?_ | refine VC_if ?_ | refine VC_skip ?_ | refine VC_exit ?_ | refine VC_ret ?_
           | (with_reducible first | refine G_not (fun h => ?_) (fun h => ?_) | refine G_cases (fun h => ?_) (fun h => ?_)) <;> (try simp only [h])
           | refine And.intro h9 ?_
           | with_reducible first | (refine hK _ ?_; clear hK K) | (clear hK K; refine hK _ ?_; clear hK K) | (clear hK K; clear hK K; refine hK _ ?_; clear hK K) | (clear hK K; clear hK K; clear hK K; refine hK _ ?_; clear hK K)
           | (with_reducible refine todo ?_; simp +decide only [go_sem]))
          refine VC_seq fun K hK => ?_
          repeat' (first
           | with_reducible first | refine W_region ?_ | refine VC_block ?_ | refine VC_scope ?_ | refine VC_if ?_ | refine VC_skip ?_ | refine VC_exit ?_ | refine VC_ret ?_
           | (with_reducible first | refine G_not (fun h => ?_) (fun h => ?_) | refine G_cases (fun h => ?_) (fun h => ?_)) <;> (try simp only [h])
           | refine And.intro h9 ?_
           | with_reducible first | (refine hK _ ?_; clear hK K) | (clear hK K; refine hK _ ?_; clear hK K) | (clear hK K; clear hK K; refine hK _ ?_; clear hK K) | (clear hK K; clear hK K; clear hK K; refine hK _ ?_; clear hK K)
           | (with_reducible refine todo ?_; simp +decide only [go_sem, hgt, upd_twice]))
          refine VC_seq fun K hK => ?_
          repeat' (first
           | with_reducible first | refine W_region ?_ | refine VC_block ?_ | refine VC_scope ?_ | refine VC_if ?_ | refine VC_skip ?_ | refine VC_exit ?_ | refine VC_ret ?_
           | (with_reducible first | refine G_not (fun h => ?_) (fun h => ?_) | refine G_cases (fun h => ?_) (fun h => ?_)) <;> (try simp only [h])
           | refine And.intro h9 ?_
           | with_reducible first | (refine hK _ ?_; clear hK K) | (clear hK K; refine hK _ ?_; clear hK K) | (clear hK K; clear hK K; refine hK _ ?_; clear hK K) | (clear hK K; clear hK K; clear hK K; refine hK _ ?_; clear hK K)
           | (with_reducible refine todo ?_; simp +decide only [go_sem]))
          refine VC_seq fun K hK => ?_
          repeat' (first
           | with_reducible first | refine W_region ?_ | refine VC_block ?_ | refine VC_scope ?_ | refine VC_if ?_ | refine VC_skip ?_ | refine VC_exit ?_ | refine VC_ret ?_
           | (with_reducible first | refine G_not (fun h => ?_) (fun h => ?_) | refine G_cases (fun h => ?_) (fun h => ?_)) <;> (try simp only [h])
           | with_reducible first | (refine hK _ ?_; clear hK K) | (clear hK K; refine hK _ ?_; clear hK K) | (clear hK K; clear hK K; refine hK _ ?_; clear hK K) | (clear hK K; clear hK K; clear hK K; refine hK _ ?_; clear hK K)
           | (with_reducible refine todo ?_; simp +decide only [go_sem, f4]))
          refine VC_seq fun K hK => ?_
          repeat' (first
           | with_reducible first | refine W_region ?_ | refine VC_block ?_ | refine VC_scope ?_ | refine VC_if ?_ | refine VC_skip ?_ | refine VC_exit ?_ | refine VC_ret ?_
           | (with_reducible first | refine G_not (fun h => ?_) (fun h => ?_) | refine G_cases (fun h => ?_) (fun h => ?_)) <;> (try simp only [h])
           | with_reducible first | (refine hK _ ?_; clear hK K) | (clear hK K; refine hK _ ?_; clear hK K) | (clear hK K; clear hK K; refine hK _ ?_; clear hK K) | (clear hK K; clear hK K; clear hK K; refine hK _ ?_; clear hK K)
           | (with_reducible refine todo ?_; simp +decide only [go_sem]))
          have tail : ∀ y : KSt, KV y → y.i = i + 1 → ∀ S : St, (∀ j, y.H j ≠ none → S.H j = y.H j) → (∀ κ, y.A κ ≠ none → S.A κ = y.A κ) → S.A (61, 0) = some (.mu 1 y.E1) → S.A (66, 0) = some (.mu 1 y.E2) →
              S.ρ 0 = .c (.d (.sl (opsH ops))) → S.ρ 3 = .c (.ptr 202 0) → S.ρ 4 = .c (.ptr 210 0) → S.ρ 5 = .c (.tv (61, 0) 1 y.n y.E1.length) → S.ρ 6 = .c (.tv (66, 0) 1 y.n y.E1.length) → S.ρ 7 = pD (.lit (.int .i64 y.r.length)) → S.ρ 8 = pD (.lit (.int .i64 i)) → K S := by
            clear P g q1 q2 q3 z1 z2 hc lo h9 h166
            rintro ⟨i', H, A, gs, f, n, r, E1, E2⟩ hy hi1 ⟨ρ, HS, AS⟩ s1 s2 s3 s4 r0 r3 r4 r5 r6 r7 r8
            have hy0 := hy
            obtain ⟨P, g, hi', ⟨q1, q2, q3⟩, z1, z2, hc⟩ := hy
            simp only at P g hi' hi1 q1 q2 q3 z1 z2 hc s1 s2 s3 s4 r0 r3 r4 r5 r6 r7 r8
            subst hi1
            refine hK _ ?_
            clear hK
            obtain ⟨hw, _, hh, hp, _, lo⟩ := nu P
            have hcnt := g.cnt
            have lo' : ∀ j, j < 200 → ∀ q, A (j, q) = none := fun j hj => (lo j hj).2
            have c30 : IntKind.i64.wrap ((2 : Int) + ((r.length : Nat) : Int)) = ((2 + r.length + sumN f 0 : Nat) : Int) := by rw [Go.IntWalk.i64_in _ (by omega)]; show _ = ((2 + r.length + 0 : Nat) : Int); omega
            obtain ⟨L, hL⟩ : ∃ L, E1.length = L := ⟨_, rfl⟩
            have hL1 : (L = E1.length) = True := eq_true hL.symm
            have hL2 : (L = E2.length) = True := eq_true (by omega)
            rw [hL] at r5 r6
            have eF := lift2 (Try.zFrees P) hw lo' lo' (oksP (l := []) hp) (.mu 1 E1) (.mu 1 E2)
            have eN := fun m : Int => lift2 (Try.zNeed P m) hw lo' lo' (oksP (l := [.lit (.int .i64 m)]) hh) (.mu 1 E1) (.mu 1 E2)
            have eG := fun m : Int => lift2 (Try.zGet P m) hw lo' lo' (oksP (l := [.lit (.int .i64 m)]) hh) (.mu 1 E1) (.mu 1 E2)
            have abA : Above (0 + 1000) H (aOver [((61, 0), .mu 1 E1), ((66, 0), .mu 1 E2)] A) := Above_updA (Above_updA (ab P) (by decide)) (by decide)
            have w := fun {X Y : AMap} => hz_ptr P (by omega) (X := X) (Y := Y)
            have n61 : A (61, 0) = none := lo' 61 (by omega) 0
            have n66 : A (66, 0) = none := lo' 66 (by omega) 0
            have hnew : ∀ p ∈ kTk E1 E2, A p.1 = none := fun p hp => by
              unfold kTk at hp
              simp only [List.mem_cons, List.not_mem_nil, or_false] at hp
              rcases hp with rfl | rfl
              · exact n61
              · exact n66
            unfold kTk at hnew
            repeat' (first
             | with_reducible first | refine VC_seq fun K hK => ?_ | refine W_region ?_ | refine VC_block ?_ | refine VC_scope ?_ | refine VC_if ?_ | refine VC_skip ?_ | refine VC_exit ?_ | refine VC_ret ?_
             | (with_reducible first | refine G_not (fun h => ?_) (fun h => ?_) | refine G_cases (fun h => ?_) (fun h => ?_)) <;> (try simp only [h])
             | with_reducible first | (refine hK _ ?_; clear hK K) | (clear hK K; refine hK _ ?_; clear hK K) | (clear hK K; clear hK K; refine hK _ ?_; clear hK K) | (clear hK K; clear hK K; clear hK K; refine hK _ ?_; clear hK K)
             | (with_reducible refine todo ?_; simp +decide only [go_sem, r7, c30]))
            refine VC_range n (fun _ => True) (fun k => overA [(0, .c (.d (.sl (opsH ops)))), (3, .c (.ptr 202 0)), (4, .c (.ptr 210 0)), (5, .c (.tv (61, 0) 1 n L)), (6, .c (.tv (66, 0) 1 n L)), (7, pD (.lit (.int .i64 r.length))), (8, pD (.lit (.int .i64 i))), (13, pD (.lit (.int .i64 ((2 + r.length + sumN f k : Nat) : Int)))), (14, pD (.lit (.int .i64 k)))] []
              [((61, 0), .mu 1 E1), ((66, 0), .mu 1 E2)] H A) True.intro ?_ ?_
            · have w5 : PV.wk (hOver [] H) AS (aOver [((61, 0), .mu 1 E1), ((66, 0), .mu 1 E2)] A) (.c (.tv (61, 0) 1 n L)) (.c (.tv (61, 0) 1 n L)) = True := eq_true (wk_c (.inr (.inl ⟨rfl, ⟨by simp [aOver], by rw [s3]; simp [aOver]⟩⟩)))
              have w6 : PV.wk (hOver [] H) AS (aOver [((61, 0), .mu 1 E1), ((66, 0), .mu 1 E2)] A) (.c (.tv (66, 0) 1 n L)) (.c (.tv (66, 0) 1 n L)) = True := eq_true (wk_c (.inr (.inl ⟨rfl, ⟨by simp [aOver], by rw [s4]; simp [aOver]⟩⟩)))
              refine Weak_overA hw (fun j hj => s1 j hj) (fun κ hκ => s2 κ hκ) hnew ?_ ?_ ?_ (fun i hi => (hi rfl).elim) (fun τ h => (h rfl).elim)
              · simp +decide only [go_sem, w, w5, w6, r0, r3, r4, r5, r6, r7, r8]
              · simp +decide only [go_sem]
              · simp +decide only [go_sem, s3, s4]
            · intro k hk _
              have w5 : PV.wk (hOver [] H) (aOver [((61, 0), .mu 1 E1), ((66, 0), .mu 1 E2)] A) (aOver [((61, 0), .mu 1 E1), ((66, 0), .mu 1 E2)] A) (.c (.tv (61, 0) 1 n L)) (.c (.tv (61, 0) 1 n L)) = True := eq_true (wk_c (.inr (.inl ⟨rfl, ⟨by simp [aOver], rfl⟩⟩)))
              have w6 : PV.wk (hOver [] H) (aOver [((61, 0), .mu 1 E1), ((66, 0), .mu 1 E2)] A) (aOver [((61, 0), .mu 1 E1), ((66, 0), .mu 1 E2)] A) (.c (.tv (66, 0) 1 n L)) (.c (.tv (66, 0) 1 n L)) = True := eq_true (wk_c (.inr (.inl ⟨rfl, ⟨by simp [aOver], rfl⟩⟩)))
              rcases Nat.lt_or_ge k n with hk2 | hk2
              · have hcc := int_lt_true hk2
                have hnk := int_next hk2 (by omega)
                obtain ⟨ck, cn⟩ := g.ch k hk2
                obtain ⟨d1, d2, d3⟩ := hc k hk2
                have eg := eG (((f k).1.headD 0 : Nat) : Int)
                rw [ck.row g.ok.big] at eg
                unfold getV at eg
                simp only at eg
                have en := eN (((f k).2.length : Nat) : Int)
                rw [needI_nat (by omega), ← cn] at en
                have hle := sumN_le (f := f) (show k + 1 ≤ n from hk2)
                have hs1 : sumN f (k + 1) = sumN f k + (f k).1.length := rfl
                have c37 : IntKind.i64.wrap (((2 + r.length + sumN f k : Nat) : Int) + (((f k).1.length : Nat) : Int)) = ((2 + r.length + sumN f (k + 1) : Nat) : Int) := by rw [Go.IntWalk.i64_in _ (by omega)]; omega
                have hi5 : idxE Try.prog 3 k (.c (.tv (61, 0) 1 n L)) = some (.c (.mptr (61, 0) 1 L k 0)) := by
                  show (if k < n ∧ 1 = Try.prog.cellsOf 3 then _ else none) = _
                  rw [if_pos ⟨hk2, by rw [Try.cl3]⟩]
                have hi6 : idxE Try.prog 9 k (.c (.tv (66, 0) 1 n L)) = some (.c (.mptr (66, 0) 1 L k 0)) := by
                  show (if k < n ∧ 1 = Try.prog.cellsOf 9 then _ else none) = _
                  rw [if_pos ⟨hk2, by rw [Try.cl9]⟩]
                generalize (f k).1.headD 0 = hd at *
                generalize (f k).1.length = m at *
                generalize (f k).2 = s at *
                repeat' (first
                 | with_reducible first | refine VC_seq fun K hK => ?_ | refine W_region ?_ | refine VC_block ?_ | refine VC_scope ?_ | refine VC_if ?_ | refine VC_skip ?_ | refine VC_exit ?_ | refine VC_ret ?_
                 | (with_reducible first | refine G_not (fun h => ?_) (fun h => ?_) | refine G_cases (fun h => ?_) (fun h => ?_)) <;> (try simp only [h])
                 | refine C_call rfl eg rfl abA ?_
                 | refine C_call rfl en rfl abA ?_
                 | with_reducible first | (refine hK _ ?_; clear hK K) | (clear hK K; refine hK _ ?_; clear hK K) | (clear hK K; clear hK K; refine hK _ ?_; clear hK K) | (clear hK K; clear hK K; clear hK K; refine hK _ ?_; clear hK K)
                 | (with_reducible refine todo ?_; simp +decide only [go_sem, hcc, hnk, hi5, hi6, hL1, hL2, d1, d2, c37, zne]))
                refine Next_of hk2 True.intro ?_
                refine Weak_overA hw kp_nil (fun κ hκ => aOver_old hκ hnew) hnew ?_ ?_ ?_ (fun i hi => (hi rfl).elim) (fun τ h => (h rfl).elim)
                · simp +decide only [go_sem, w, w5, w6]
                · simp +decide only [go_sem]
                · simp +decide only [go_sem]
              · have hcc := int_lt_false hk2
                obtain rfl : k = n := by omega
                have c38 : IntKind.i64.wrap ((100 : Int) - ((2 + r.length + sumN f k : Nat) : Int)) = ((frG gs : Nat) : Int) := by rw [Go.IntWalk.i64_in _ (by omega)]; omega
                have v38 : (((frG gs : Nat) : Int) != ((frG gs : Nat) : Int)) = false := by simp
                repeat' (first
                 | with_reducible first | refine VC_seq fun K hK => ?_ | refine W_region ?_ | refine VC_block ?_ | refine VC_scope ?_ | refine VC_if ?_ | refine VC_skip ?_ | refine VC_exit ?_ | refine VC_ret ?_
                 | (with_reducible first | refine G_not (fun h => ?_) (fun h => ?_) | refine G_cases (fun h => ?_) (fun h => ?_)) <;> (try simp only [h])
                 | refine C_call rfl eF rfl abA ?_
                 | with_reducible first | (refine hK _ ?_; clear hK K) | (clear hK K; refine hK _ ?_; clear hK K) | (clear hK K; clear hK K; refine hK _ ?_; clear hK K) | (clear hK K; clear hK K; clear hK K; refine hK _ ?_; clear hK K)
                 | (with_reducible refine todo ?_; simp +decide only [go_sem, hcc, hnx, c38, v38]))
                refine ⟨⟨_, hy0⟩, ?_, by show 40 - (i + 1) < 40 - i; omega⟩
                refine Weak_overA hw kp_nil (fun κ hκ => by exact aOver_old hκ hnew) (by exact hnew) ?_ ?_ ?_ (fun i hi => (hi rfl).elim) (fun τ h => (h rfl).elim)
                · simp +decide only [go_sem, w, w5, w6, hL]
                · simp +decide only [go_sem]
                · simp +decide only [go_sem]
          clear hK
          have lo' : ∀ j, j < 200 → ∀ q, A (j, q) = none := fun j hj => (lo j hj).2
          obtain ⟨hw, _, hh, hp, _, _⟩ := nu P
          have lft : ∀ {f' : FuncId} {args : List PV} {v : PV} {H' : HMap} {A' : AMap} {gs' : List (List UInt8)}, EffOK Try.prog f' 1000 H A args v H' A' → HZ H' A' 203 200 202 210 110 10 1 gs' → (∀ {tk : Tok → Prop}, ∀ x ∈ args, x.oks (fun i => H i ≠ none) tk) →
              EffOK Try.prog f' 1000 (upd H 9 (some (oHC o))) (aOver [((61, 0), .mu 1 E1), ((66, 0), .mu 1 E2)] A) args v (upd H' 9 (some (oHC o))) (aOver [((61, 0), .mu 1 E1), ((66, 0), .mu 1 E2)] A') := fun e P' ha => by
            obtain ⟨hw', _, _, _, _, l'⟩ := nu P'
            exact eff_frame (lift2 e hw lo' (fun j hj => (l' j hj).2) ha _ _) (Wf_arr hw (fun κ h => upd_keep κ (upd_keep κ h))) ha h9 (l' 9 (by omega)).1
          have ab9 : Above (0 + 1000) (upd H 9 (some (oHC o))) (aOver [((61, 0), .mu 1 E1), ((66, 0), .mu 1 E2)] A) := Above_updH (Above_updA (Above_updA (ab P) (by decide)) (by decide)) (by decide)
          have hT : ∀ {A' : AMap} {x y : Arr}, (∀ j, j < 200 → ∀ q, A' (j, q) = none) → ∀ κ, A' κ ≠ none → upd (upd (aOver [((61, 0), .mu 1 E1), ((66, 0), .mu 1 E2)] A') (61, 0) (some x)) (66, 0) (some y) κ = A' κ := fun {A'} {x} {y} l κ hκ => by
            have h1 : κ ≠ (61, 0) := fun e => hκ (by rw [e]; exact l 61 (by omega) 0)
            have h2 : κ ≠ (66, 0) := fun e => hκ (by rw [e]; exact l 66 (by omega) 0)
            rw [upd_other _ _ h2, upd_other _ _ h1]
            exact (if_neg h1).trans (if_neg h2)
          have hT0 : ∀ {A' : AMap}, (∀ j, j < 200 → ∀ q, A' (j, q) = none) → ∀ κ, A' κ ≠ none → aOver [((61, 0), .mu 1 E1), ((66, 0), .mu 1 E2)] A' κ = A' κ := fun {A'} l κ hκ => by
            have h1 : κ ≠ (61, 0) := fun e => hκ (by rw [e]; exact l 61 (by omega) 0)
            have h2 : κ ≠ (66, 0) := fun e => hκ (by rw [e]; exact l 66 (by omega) 0)
            exact (if_neg h1).trans (if_neg h2)
          have hH : ∀ {H' : HMap}, H' 9 = none → ∀ j, H' j ≠ none → upd H' 9 (some (oHC o)) j = H' j := fun {H'} h j hj => upd_other _ _ fun e => hj (by rw [e]; exact h)
          have same : ∀ {H' : HMap} {A' : AMap}, HZ H' A' 203 200 202 210 110 10 1 gs → KV ⟨i + 1, H', A', gs, f, n, r, E1, E2⟩ := fun P' => ⟨P', g, by show i + 1 ≤ 40; omega, ⟨q1, by show E1.length ≤ i + 1; omega, q3⟩, z1, z2, hc⟩
          have u66 : ((66, 0) : Tok) ≠ (61, 0) := by decide
          by_cases k0 : o.kind = 0
          · have t0 : (o.kind == 0) = true := by rw [k0]; rfl
            obtain ⟨H2, A2, e2, P2⟩ := Try.zPut P (by omega) o.s
            obtain ⟨_, _, _, _, _, l2⟩ := nu P2
            have l2' : ∀ j, j < 200 → ∀ q, A2 (j, q) = none := fun j hj => (l2 j hj).2
            have h92 : H2 9 = none := (l2 9 (by omega)).1
            have ee := lft e2 P2 (oksP (l := [dS o.s]) hh)
            rcases g.put (s := o.s) (by omega) with x | ⟨ids, g', x, G2⟩
            · rw [x] at ee P2
              unfold putV oHC at ee
              simp only at ee
              have z3 : ((3 : Int) == 0) = false := rfl
              unfold oHC at ab9 hH
              repeat' (first
               | with_reducible first | refine VC_seq fun K hK => ?_ | refine W_region ?_ | refine VC_block ?_ | refine VC_scope ?_ | refine VC_if ?_ | refine VC_skip ?_ | refine VC_exit ?_ | refine VC_ret ?_
               | (with_reducible first | refine G_not (fun h => ?_) (fun h => ?_) | refine G_cases (fun h => ?_) (fun h => ?_)) <;> (try simp only [h])
               | refine C_call rfl ee rfl ab9 ?_
               | with_reducible first | (refine hK _ ?_; clear hK K) | (clear hK K; refine hK _ ?_; clear hK K) | (clear hK K; clear hK K; refine hK _ ?_; clear hK K) | (clear hK K; clear hK K; clear hK K; refine hK _ ?_; clear hK K)
               | (with_reducible refine todo ?_; simp +decide only [go_sem, t0, z3]))
              exact tail ⟨i + 1, H2, A2, gs, f, n, r, E1, E2⟩ (same P2) rfl _ (hH h92) (hT0 l2') rfl rfl rfl rfl rfl rfl rfl rfl rfl
            · rw [x] at ee P2
              unfold putV oHC at ee
              simp only at ee
              unfold oHC at ab9 hH
              have fs : ∀ j, j < n → setF f n (ids, o.s) j = f j := fun j hj => if_neg (by omega)
              have fn : setF f n (ids, o.s) n = (ids, o.s) := if_pos rfl
              by_cases hnL : n = E1.length
              · have g1 : ∀ {e1 e2 : List D}, e1 = [.lit (.int .i64 ((ids.headD 0 : Nat) : Int))] → e2 = [dS o.s] → ∀ j, j < n + 1 → (E1 ++ [e1])[j]? = some [.lit (.int .i64 (((setF f n (ids, o.s) j).1.headD 0 : Nat) : Int))] ∧ (E2 ++ [e2])[j]? = some [dS (setF f n (ids, o.s) j).2] ∧ (setF f n (ids, o.s) j).2.length ≤ 400 := fun h1 h2 j hj => by
                  by_cases e : j = n
                  · subst e
                    rw [fn]
                    have x1 : ∀ (l : List (List D)) (v : List D), l.length = j → (l ++ [v])[j]? = some v := fun l v hl => by rw [← hl, List.getElem?_concat_length]
                    exact ⟨by rw [x1 E1 _ hnL.symm, h1], by rw [x1 E2 _ (by omega), h2], b4⟩
                  · rw [fs j (by omega), List.getElem?_append_left (by omega), List.getElem?_append_left (by omega)]
                    exact hc j (by omega)
                have kv : KV ⟨i + 1, H2, A2, g', setF f n (ids, o.s), n + 1, r, E1 ++ [[.lit (.int .i64 ((ids.headD 0 : Nat) : Int))]], E2 ++ [[dS o.s]]⟩ := by
                  refine ⟨P2, G2, by show i + 1 ≤ 40; omega, ⟨?_, ?_, ?_⟩, ?_, ?_, g1 rfl rfl⟩
                  · show n + 1 ≤ (E1 ++ [_]).length; rw [List.length_append, List.length_singleton]; omega
                  · show (E1 ++ [_]).length ≤ i + 1; rw [List.length_append, List.length_singleton]; omega
                  · show (E2 ++ [_]).length = (E1 ++ [_]).length; rw [List.length_append, List.length_append, List.length_singleton, List.length_singleton]; omega
                  · exact fun e he => by
                      rcases List.mem_append.1 he with he | he
                      · exact z1 e he
                      · rw [List.mem_singleton.1 he]; rfl
                  · exact fun e he => by
                      rcases List.mem_append.1 he with he | he
                      · exact z2 e he
                      · rw [List.mem_singleton.1 he]; rfl
                have tl := tail _ kv rfl
                rw [← hnL]
                have hl1 : (E1 ++ [[D.lit (.int .i64 ((ids.headD 0 : Nat) : Int))]]).length = n + 1 := by rw [List.length_append, List.length_singleton]; omega
                simp only [hl1] at tl
                repeat' (first
                 | with_reducible first | refine VC_seq fun K hK => ?_ | refine W_region ?_ | refine VC_block ?_ | refine VC_scope ?_ | refine VC_if ?_ | refine VC_skip ?_ | refine VC_exit ?_ | refine VC_ret ?_
                 | (with_reducible first | refine G_not (fun h => ?_) (fun h => ?_) | refine G_cases (fun h => ?_) (fun h => ?_)) <;> (try simp only [h])
                 | refine C_call rfl ee rfl ab9 ?_
                 | (refine W_tvE (els := E1) Try.appI rfl (szOne rfl) (by simp only [List.length_singleton]; omega) rfl hnL ?_)
                 | (refine W_tvE (els := E2) Try.appT rfl (szOne rfl) (by simp only [List.length_singleton]; omega) ((upd_other _ _ u66).trans rfl) (by omega) ?_)
                 | with_reducible first | (refine hK _ ?_; clear hK K) | (clear hK K; refine hK _ ?_; clear hK K) | (clear hK K; clear hK K; refine hK _ ?_; clear hK K) | (clear hK K; clear hK K; clear hK K; refine hK _ ?_; clear hK K)
                 | (with_reducible refine todo ?_; simp +decide only [go_sem, t0]))
                exact tl _ (hH h92) (hT l2') (upd61 (A := aOver [((61, 0), .mu 1 E1), ((66, 0), .mu 1 E2)] A2) (x := some (.mu 1 (E1 ++ [[.lit (.int .i64 ((ids.headD 0 : Nat) : Int))]]))) (y := some (.mu 1 (E2 ++ [[dS o.s]])))) (upd66 (A := aOver [((61, 0), .mu 1 E1), ((66, 0), .mu 1 E2)] A2) (x := some (.mu 1 (E1 ++ [[.lit (.int .i64 ((ids.headD 0 : Nat) : Int))]]))) (y := some (.mu 1 (E2 ++ [[dS o.s]])))) rfl rfl rfl (congrArg (fun x => PV.c (CV.tv (61, 0) 1 (x + 1) (x + 1))) hnL.symm) (congrArg (fun x => PV.c (CV.tv (66, 0) 1 (x + 1) (x + 1))) (show E2.length = n by omega)) rfl rfl
              · have hlt : n < E1.length := by omega
                have g1 : ∀ {e1 e2 : List D}, e1 = [.lit (.int .i64 ((ids.headD 0 : Nat) : Int))] → e2 = [dS o.s] → ∀ j, j < n + 1 → (E1.set n e1)[j]? = some [.lit (.int .i64 (((setF f n (ids, o.s) j).1.headD 0 : Nat) : Int))] ∧ (E2.set n e2)[j]? = some [dS (setF f n (ids, o.s) j).2] ∧ (setF f n (ids, o.s) j).2.length ≤ 400 := fun h1 h2 j hj => by
                  rw [List.getElem?_set, List.getElem?_set]
                  by_cases e : j = n
                  · subst e
                    rw [fn, if_pos rfl, if_pos rfl, if_pos hlt, if_pos (by omega), h1, h2]
                    exact ⟨rfl, rfl, b4⟩
                  · rw [fs j (by omega), if_neg (Ne.symm e), if_neg (Ne.symm e)]
                    exact hc j (by omega)
                have kv : KV ⟨i + 1, H2, A2, g', setF f n (ids, o.s), n + 1, r, E1.set n [.lit (.int .i64 ((ids.headD 0 : Nat) : Int))], E2.set n [dS o.s]⟩ := by
                  refine ⟨P2, G2, by show i + 1 ≤ 40; omega, ⟨?_, ?_, ?_⟩, szd_set z1 rfl, szd_set z2 rfl, g1 rfl rfl⟩
                  · show n + 1 ≤ (E1.set n _).length; rw [List.length_set]; omega
                  · show (E1.set n _).length ≤ i + 1; rw [List.length_set]; omega
                  · show (E2.set n _).length = (E1.set n _).length; rw [List.length_set, List.length_set]; exact q3
                have tl := tail _ kv rfl
                simp only [List.length_set] at tl
                repeat' (first
                 | with_reducible first | refine VC_seq fun K hK => ?_ | refine W_region ?_ | refine VC_block ?_ | refine VC_scope ?_ | refine VC_if ?_ | refine VC_skip ?_ | refine VC_exit ?_ | refine VC_ret ?_
                 | (with_reducible first | refine G_not (fun h => ?_) (fun h => ?_) | refine G_cases (fun h => ?_) (fun h => ?_)) <;> (try simp only [h])
                 | refine C_call rfl ee rfl ab9 ?_
                 | refine W_tv (els := E1) Try.appI rfl (szOne rfl) (by omega) rfl rfl hlt ?_
                 | refine W_tv (els := E2) Try.appT rfl (szOne rfl) (by omega) ((upd_other _ _ u66).trans rfl) q3.symm hlt ?_
                 | with_reducible first | (refine hK _ ?_; clear hK K) | (clear hK K; refine hK _ ?_; clear hK K) | (clear hK K; clear hK K; refine hK _ ?_; clear hK K) | (clear hK K; clear hK K; clear hK K; refine hK _ ?_; clear hK K)
                 | (with_reducible refine todo ?_; simp +decide only [go_sem, t0]))
                exact tl _ (hH h92) (hT l2') (upd61 (A := aOver [((61, 0), .mu 1 E1), ((66, 0), .mu 1 E2)] A2) (x := some (.mu 1 (E1.set n [.lit (.int .i64 ((ids.headD 0 : Nat) : Int))]))) (y := some (.mu 1 (E2.set n [dS o.s])))) (upd66 (A := aOver [((61, 0), .mu 1 E1), ((66, 0), .mu 1 E2)] A2) (x := some (.mu 1 (E1.set n [.lit (.int .i64 ((ids.headD 0 : Nat) : Int))]))) (y := some (.mu 1 (E2.set n [dS o.s])))) rfl rfl rfl rfl rfl rfl rfl
          · have t0 : (o.kind == 0) = false := eqfH k0
            by_cases k2 : o.kind = 2
            · have t2 : (o.kind == 2) = true := by rw [k2]; rfl
              by_cases hn0 : 0 < n
              · have c0 : ((0 : Int) < (n : Int)) = True := eq_true (by omega)
                obtain ⟨m, m1, m2⟩ := and_mask o.n
                have c1 : Int.tmod (m : Int) (n : Int) = ((m % n : Nat) : Int) := tmod_nat m n
                have c2 : ((n : Int) = 0) = False := eq_false (by omega)
                have hk : m % n < n := Nat.mod_lt _ hn0
                generalize m % n = k at *
                obtain ⟨x1, G2⟩ := g.drop hk
                obtain ⟨H2, A2, e2, P2⟩ := Try.zDrop P (by omega) (((f k).1.headD 0 : Nat) : Int)
                obtain ⟨_, _, _, _, _, l2⟩ := nu P2
                have l2' : ∀ j, j < 200 → ∀ q, A2 (j, q) = none := fun j hj => (l2 j hj).2
                have h92 : H2 9 = none := (l2 9 (by omega)).1
                have ee := lft e2 P2 (oksP (l := [.lit (.int .i64 (((f k).1.headD 0 : Nat) : Int))]) hh)
                rw [x1] at ee
                unfold oHC at ee ab9 hH
                simp only at ee
                obtain ⟨d1, d2, d3⟩ := hc k hk
                obtain ⟨d4, d5, d6⟩ := hc (n - 1) (by omega)
                have c3 : IntKind.i64.wrap ((n : Int) - 1) = ((n - 1 : Nat) : Int) := by rw [Go.IntWalk.i64_in _ (by omega)]; omega
                have idx5 : ∀ j, j < n → idxE Try.prog 3 j (.c (.tv (61, 0) 1 n E1.length)) = some (.c (.mptr (61, 0) 1 E1.length j 0)) := fun j hj => by
                  show (if j < n ∧ 1 = Try.prog.cellsOf 3 then _ else none) = _
                  rw [if_pos ⟨hj, by rw [Try.cl3]⟩]
                have idx6 : ∀ j, j < n → idxE Try.prog 9 j (.c (.tv (66, 0) 1 n E1.length)) = some (.c (.mptr (66, 0) 1 E1.length j 0)) := fun j hj => by
                  show (if j < n ∧ 1 = Try.prog.cellsOf 9 then _ else none) = _
                  rw [if_pos ⟨hj, by rw [Try.cl9]⟩]
                have i5k := idx5 k hk
                have i5l := idx5 (n - 1) (by omega)
                have i6k := idx6 k hk
                have i6l := idx6 (n - 1) (by omega)
                have hL2 : (E1.length = E2.length) = True := eq_true q3.symm
                have u1 : ∀ {e1 : List D} {e2 : List D}, e1 = [.lit (.int .i64 (((f (n - 1)).1.headD 0 : Nat) : Int))] → e2 = [dS (f (n - 1)).2] → ∀ j, j < n - 1 → (E1.set k e1)[j]? = some [.lit (.int .i64 (((setF f k (f (n - 1)) j).1.headD 0 : Nat) : Int))] ∧ (E2.set k e2)[j]? = some [dS (setF f k (f (n - 1)) j).2] ∧ (setF f k (f (n - 1)) j).2.length ≤ 400 := fun h1 h2 j hj => by
                  rw [List.getElem?_set, List.getElem?_set]
                  by_cases e : j = k
                  · subst e
                    rw [show setF f j (f (n - 1)) j = f (n - 1) from if_pos rfl, if_pos rfl, if_pos rfl, if_pos (by omega), if_pos (by omega), h1, h2]
                    exact ⟨rfl, rfl, d6⟩
                  · rw [show setF f k (f (n - 1)) j = f j from if_neg e, if_neg (Ne.symm e), if_neg (Ne.symm e)]
                    exact hc j (by omega)
                have kv : KV ⟨i + 1, H2, A2, dropG gs (((f k).1.headD 0 : Nat) : Int), setF f k (f (n - 1)), n - 1, r, E1.set k [.lit (.int .i64 (((f (n - 1)).1.headD 0 : Nat) : Int))], E2.set k [dS (f (n - 1)).2]⟩ := by
                  refine ⟨P2, G2, by show i + 1 ≤ 40; omega, ⟨?_, ?_, ?_⟩, szd_set z1 rfl, szd_set z2 rfl, u1 rfl rfl⟩
                  · show n - 1 ≤ (E1.set k _).length; rw [List.length_set]; omega
                  · show (E1.set k _).length ≤ i + 1; rw [List.length_set]; omega
                  · show (E2.set k _).length = (E1.set k _).length; rw [List.length_set, List.length_set]; exact q3
                have tl := tail _ kv rfl
                simp only [List.length_set] at tl
                repeat' (first
                 | with_reducible first | refine VC_seq fun K hK => ?_ | refine W_region ?_ | refine VC_block ?_ | refine VC_scope ?_ | refine VC_if ?_ | refine VC_skip ?_ | refine VC_exit ?_ | refine VC_ret ?_
                 | (with_reducible first | refine G_not (fun h => ?_) (fun h => ?_) | refine G_cases (fun h => ?_) (fun h => ?_)) <;> (try simp only [h])
                 | refine C_call rfl ee rfl ab9 ?_
                 | refine W_view (m := n - 1) Try.appI (by simp [optNat, natOf?, intOf?]) (by omega) ?_
                 | refine W_view (m := n - 1) Try.appT (by simp [optNat, natOf?, intOf?]) (by omega) ?_
                 | with_reducible first | (refine hK _ ?_; clear hK K) | (clear hK K; refine hK _ ?_; clear hK K) | (clear hK K; clear hK K; refine hK _ ?_; clear hK K) | (clear hK K; clear hK K; clear hK K; refine hK _ ?_; clear hK K)
                 | (with_reducible refine todo ?_; simp +decide only [go_sem, t0, t2, c0, m1, c1, c2, c3, d1, d2, d4, d5, i5k, i5l, i6k, i6l, hL2, zne]))
                exact tl _ (hH h92) (hT l2') (upd61 (A := aOver [((61, 0), .mu 1 E1), ((66, 0), .mu 1 E2)] A2) (x := some (.mu 1 (E1.set k [.lit (.int .i64 (((f (n - 1)).1.headD 0 : Nat) : Int))]))) (y := some (.mu 1 (E2.set k [dS (f (n - 1)).2])))) (upd66 (A := aOver [((61, 0), .mu 1 E1), ((66, 0), .mu 1 E2)] A2) (x := some (.mu 1 (E1.set k [.lit (.int .i64 (((f (n - 1)).1.headD 0 : Nat) : Int))]))) (y := some (.mu 1 (E2.set k [dS (f (n - 1)).2])))) rfl rfl rfl rfl rfl rfl rfl
              · have c0 : ((0 : Int) < (n : Int)) = False := eq_false (by omega)
                unfold oHC at hH
                repeat' (first
                 | with_reducible first | refine VC_seq fun K hK => ?_ | refine W_region ?_ | refine VC_block ?_ | refine VC_scope ?_ | refine VC_if ?_ | refine VC_skip ?_ | refine VC_exit ?_ | refine VC_ret ?_
                 | (with_reducible first | refine G_not (fun h => ?_) (fun h => ?_) | refine G_cases (fun h => ?_) (fun h => ?_)) <;> (try simp only [h])
                 | with_reducible first | (refine hK _ ?_; clear hK K) | (clear hK K; refine hK _ ?_; clear hK K) | (clear hK K; clear hK K; refine hK _ ?_; clear hK K) | (clear hK K; clear hK K; clear hK K; refine hK _ ?_; clear hK K)
                 | (with_reducible refine todo ?_; simp +decide only [go_sem, t0, t2, c0]))
                exact tail ⟨i + 1, H, A, gs, f, n, r, E1, E2⟩ (same P) rfl _ (hH h9) (hT0 lo') rfl rfl rfl rfl rfl rfl rfl rfl rfl
            · have t2 : (o.kind == 2) = false := eqfH k2
              by_cases k3 : o.kind = 3
              · have t3 : (o.kind == 3) = true := by rw [k3]; rfl
                obtain ⟨H2, A2, e2, P2⟩ := Try.zSetRoot P (by omega) o.s
                obtain ⟨_, _, hh2, _, _, l2⟩ := nu P2
                have l2' : ∀ j, j < 200 → ∀ q, A2 (j, q) = none := fun j hj => (l2 j hj).2
                have h92 : H2 9 = none := (l2 9 (by omega)).1
                have ee := lft e2 P2 (oksP (l := [dS o.s]) hh)
                rcases g.root (s := o.s) (by omega) with x | ⟨ids, g', x, G2, hl⟩
                · rw [x] at ee P2
                  unfold oHC at ee ab9 hH
                  simp only at ee
                  have z3 : ((3 : Int) == 0) = false := rfl
                  repeat' (first
                   | with_reducible first | refine VC_seq fun K hK => ?_ | refine W_region ?_ | refine VC_block ?_ | refine VC_scope ?_ | refine VC_if ?_ | refine VC_skip ?_ | refine VC_exit ?_ | refine VC_ret ?_
                   | (with_reducible first | refine G_not (fun h => ?_) (fun h => ?_) | refine G_cases (fun h => ?_) (fun h => ?_)) <;> (try simp only [h])
                   | refine C_call rfl ee rfl ab9 ?_
                   | with_reducible first | (refine hK _ ?_; clear hK K) | (clear hK K; refine hK _ ?_; clear hK K) | (clear hK K; clear hK K; refine hK _ ?_; clear hK K) | (clear hK K; clear hK K; clear hK K; refine hK _ ?_; clear hK K)
                   | (with_reducible refine todo ?_; simp +decide only [go_sem, t0, t2, t3, z3]))
                  exact tail ⟨i + 1, H2, A2, gs, f, n, r, E1, E2⟩ (same P2) rfl _ (hH h92) (hT0 l2') rfl rfl rfl rfl rfl rfl rfl rfl rfl
                · rw [x] at ee P2
                  obtain ⟨hw2, _⟩ := nu P2
                  have en := eff_frame (cs := oHC o) (lift2 (Try.zNeed P2 (o.s.length : Int)) hw2 l2' l2' (oksP (l := [.lit (.int .i64 (o.s.length : Int))]) hh2) (.mu 1 E1) (.mu 1 E2)) (Wf_arr hw2 (fun κ h => upd_keep κ (upd_keep κ h))) (oksP (l := [.lit (.int .i64 (o.s.length : Int))]) hh2) h92 h92
                  rw [needI_nat (by omega), ← hl] at en
                  have ab2 : Above (0 + 1000) (upd H2 9 (some (oHC o))) (aOver [((61, 0), .mu 1 E1), ((66, 0), .mu 1 E2)] A2) := Above_updH (Above_updA (Above_updA (ab P2) (by decide)) (by decide)) (by decide)
                  unfold oHC at ee en ab9 ab2 hH
                  simp only at ee
                  repeat' (first
                   | with_reducible first | refine VC_seq fun K hK => ?_ | refine W_region ?_ | refine VC_block ?_ | refine VC_scope ?_ | refine VC_if ?_ | refine VC_skip ?_ | refine VC_exit ?_ | refine VC_ret ?_
                   | (with_reducible first | refine G_not (fun h => ?_) (fun h => ?_) | refine G_cases (fun h => ?_) (fun h => ?_)) <;> (try simp only [h])
                   | refine C_call rfl ee rfl ab9 ?_
                   | refine C_call rfl en rfl ab2 ?_
                   | with_reducible first | (refine hK _ ?_; clear hK K) | (clear hK K; refine hK _ ?_; clear hK K) | (clear hK K; clear hK K; refine hK _ ?_; clear hK K) | (clear hK K; clear hK K; clear hK K; refine hK _ ?_; clear hK K)
                   | (with_reducible refine todo ?_; simp +decide only [go_sem, t0, t2, t3]))
                  exact tail ⟨i + 1, H2, A2, g', f, n, ids, E1, E2⟩ ⟨P2, G2, by show i + 1 ≤ 40; omega, ⟨q1, by show E1.length ≤ i + 1; omega, q3⟩, z1, z2, hc⟩ rfl _ (hH h92) (hT0 l2') rfl rfl rfl rfl rfl rfl rfl rfl rfl
              · have t3 : (o.kind == 3) = false := eqfH k3
                unfold oHC at hH
                repeat' (first
                 | with_reducible first | refine VC_seq fun K hK => ?_ | refine W_region ?_ | refine VC_block ?_ | refine VC_scope ?_ | refine VC_if ?_ | refine VC_skip ?_ | refine VC_exit ?_ | refine VC_ret ?_
                 | (with_reducible first | refine G_not (fun h => ?_) (fun h => ?_) | refine G_cases (fun h => ?_) (fun h => ?_)) <;> (try simp only [h])
                 | with_reducible first | (refine hK _ ?_; clear hK K) | (clear hK K; refine hK _ ?_; clear hK K) | (clear hK K; clear hK K; refine hK _ ?_; clear hK K) | (clear hK K; clear hK K; clear hK K; refine hK _ ?_; clear hK K)
                 | (with_reducible refine todo ?_; simp +decide only [go_sem, t0, t2, t3]))
                exact tail ⟨i + 1, H, A, gs, f, n, r, E1, E2⟩ (same P) rfl _ (hH h9) (hT0 lo') rfl rfl rfl rfl rfl rfl rfl rfl rfl
        · have f4 : ((400 : Int) < (o.s.length : Int)) = True := eq_true (by omega)
          have w := fun {X Y : AMap} => hz_ptr P (by omega) (X := X) (Y := Y)
          obtain ⟨hw, _, _, _, _, _⟩ := nu P
          have w5 : PV.wk (hOver [] H) (aOver [((61, 0), .mu 1 E1), ((66, 0), .mu 1 E2)] A) (aOver [((61, 0), .mu 1 E1), ((66, 0), .mu 1 E2)] A) (.c (.tv (61, 0) 1 n E1.length)) (.c (.tv (61, 0) 1 n E1.length)) = True := eq_true (wk_c (.inr (.inl ⟨rfl, ⟨by simp [aOver], rfl⟩⟩)))
          have w6 : PV.wk (hOver [] H) (aOver [((61, 0), .mu 1 E1), ((66, 0), .mu 1 E2)] A) (aOver [((61, 0), .mu 1 E1), ((66, 0), .mu 1 E2)] A) (.c (.tv (66, 0) 1 n E1.length)) (.c (.tv (66, 0) 1 n E1.length)) = True := eq_true (wk_c (.inr (.inl ⟨rfl, ⟨by simp [aOver], rfl⟩⟩)))
          have hnew : ∀ p ∈ kTk E1 E2, A p.1 = none := fun p hp => by
            unfold kTk at hp
            simp only [List.mem_cons, List.not_mem_nil, or_false] at hp
            rcases hp with rfl | rfl
            · exact (lo 61 (by omega)).2 0
            · exact (lo 66 (by omega)).2 0
          unfold kTk at hnew
          have hH : ∀ {cs : List CV} (j : Nat), H j ≠ none → upd H 9 (some cs) j = H j := fun {cs} j hj => upd_other _ _ fun e => hj (by rw [e]; exact h9)
          repeat' (first
           | with_reducible first | refine VC_seq fun K hK => ?_ | refine W_region ?_ | refine VC_block ?_ | refine VC_scope ?_ | refine VC_if ?_ | refine VC_skip ?_ | refine VC_exit ?_ | refine VC_ret ?_
           | (with_reducible first | refine G_not (fun h => ?_) (fun h => ?_) | refine G_cases (fun h => ?_) (fun h => ?_)) <;> (try simp only [h])
           | refine And.intro h9 ?_
           | with_reducible first | (refine hK _ ?_; clear hK K) | (clear hK K; refine hK _ ?_; clear hK K) | (clear hK K; clear hK K; refine hK _ ?_; clear hK K) | (clear hK K; clear hK K; clear hK K; refine hK _ ?_; clear hK K)
           | (with_reducible refine todo ?_; simp +decide only [go_sem, hgt, upd_twice, f4, hnx]))
          refine ⟨⟨⟨i + 1, H, A, gs, f, n, r, E1, E2⟩, ⟨P, g, by show i + 1 ≤ 40; omega, ⟨q1, by show E1.length ≤ i + 1; omega, q3⟩, z1, z2, hc⟩⟩, ?_, by show 40 - (i + 1) < 40 - i; omega⟩
          refine Weak_overA hw hH (fun κ hκ => aOver_old hκ hnew) hnew ?_ ?_ ?_ (fun i hi => (hi rfl).elim) (fun τ h => (h rfl).elim)
          · simp +decide only [go_sem, w, w5, w6]
          · simp +decide only [go_sem]
          · simp +decide only [go_sem]
      · have f2 : ((i : Int) < 40) = False := eq_false (by omega)
        repeat' (first
         | with_reducible first | refine VC_seq fun K hK => ?_ | refine W_region ?_ | refine VC_block ?_ | refine VC_scope ?_ | refine VC_if ?_ | refine VC_skip ?_ | refine VC_exit ?_ | refine VC_ret ?_
         | (with_reducible first | refine G_not (fun h => ?_) (fun h => ?_) | refine G_cases (fun h => ?_) (fun h => ?_)) <;> (try simp only [h])
         | with_reducible first | (refine hK _ ?_; clear hK K) | (clear hK K; refine hK _ ?_; clear hK K) | (clear hK K; clear hK K; refine hK _ ?_; clear hK K) | (clear hK K; clear hK K; clear hK K; refine hK _ ?_; clear hK K)
         | (with_reducible refine todo ?_; simp +decide only [go_sem, f1, f2]))
        exact rest _ h166
    · have f1 : ((i : Int) < ((opsH ops).length : Int)) = False := eq_false (by rw [hll]; omega)
      repeat' (first
       | with_reducible first | refine VC_seq fun K hK => ?_ | refine W_region ?_ | refine VC_block ?_ | refine VC_scope ?_ | refine VC_if ?_ | refine VC_skip ?_ | refine VC_exit ?_ | refine VC_ret ?_
       | (with_reducible first | refine G_not (fun h => ?_) (fun h => ?_) | refine G_cases (fun h => ?_) (fun h => ?_)) <;> (try simp only [h])
       | with_reducible first | (refine hK _ ?_; clear hK K) | (clear hK K; refine hK _ ?_; clear hK K) | (clear hK K; clear hK K; refine hK _ ?_; clear hK K) | (clear hK K; clear hK K; clear hK K; refine hK _ ?_; clear hK K)
       | (with_reducible refine todo ?_; simp +decide only [go_sem, f1]))
      exact rest _ h166
end Go.Proofs
