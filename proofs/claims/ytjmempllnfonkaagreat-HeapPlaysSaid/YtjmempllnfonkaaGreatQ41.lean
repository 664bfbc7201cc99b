/-
  Parts of the proof, laid together: PwOe.
-/
import Derived.Test.YtjmempllnfonkaaGreatQ40

namespace Go.Proofs
open Go.PW
@[go_sem] theorem B_bneqH {P : Program} {T : TypeId} {b : Bool} (h : P.underlying T = some .bool) : binS P .neq T (.c (.d (.lit (.bool b)))) (.c (.d (.lit (.bool b)))) = some (lit (.bool false)) := by
  simp only [binS, eqS, h, Option.map_some, beq_self_eq_true, Bool.not_true]
theorem Tryz.bPlay {H : HMap} {A : AMap} {k did pid hid N logs T m top xid : Nat} {gs : List (List UInt8)} {I : RI} {x : RS} (off : Nat) (h : BW H A k did pid hid N logs T m top gs I xid x) (ht : top ≤ off) (hkt : hid < off) (hx : x.1 = gs) (kd n : Int) (s : List UInt8) (h0 : 0 ≤ kd) (h4 : kd ≤ 4) :
    ∃ H' A' m' gs' y, EffOK Tryz.prog 17 off H A [.c (.ptr hid 0), .c (.ptr xid 0), .agg [.d (.lit (.int .i64 kd)), .d (.lit (.int .i64 n)), .d (dS s)]] (pD (.lit (.bool true))) H' A' ∧ BW H' A' k did pid hid N logs T m' top gs' I xid y ∧ y.1 = gs' := by
  have hk : kd = 0 ∨ kd = 1 ∨ kd = 2 ∨ kd = 3 ∨ kd = 4 := by omega
  rcases hk with rfl | rfl | rfl | rfl | rfl
  · obtain ⟨H', A', m', gs', y, e, b, hy, _⟩ := Tryz.bPlay0 off h ht hkt hx n s
    exact ⟨H', A', m', gs', y, e, b, hy⟩
  · exact ⟨H, A, m, gs, x, Tryz.bPlay1 off h ht hx n s, h, hx⟩
  · obtain ⟨H', A', m', gs', y, e, b, hy, _⟩ := Tryz.bPlay2 off h ht hkt hx n s
    exact ⟨H', A', m', gs', y, e, b, hy⟩
  · obtain ⟨H', A', m', gs', y, e, b, hy, _⟩ := Tryz.bPlay3 off h ht hkt hx n s
    exact ⟨H', A', m', gs', y, e, b, hy⟩
  · exact ⟨H, A, m, gs, x, Tryz.bPlay4 off h ht hx n s, h, hx⟩
theorem BW.len {H : HMap} {A : AMap} {k did pid hid N logs T m top xid : Nat} {gs : List (List UInt8)} {I : RI} {x : RS} (h : BW H A k did pid hid N logs T m top gs I xid x) : gs.length = N - logs := by
  obtain ⟨_, _, _, _, hy, _⟩ := h
  exact hy.nums.2.2.2.2.2.1
theorem Tryz.bReads {H : HMap} {A : AMap} {k did pid hid N logs T m top xid u : Nat} {gs : List (List UInt8)} {I : RI} {x : RS} (h : BW H A k did pid hid N logs T m top gs I xid x) (hx : x.1 = gs) (hu : H u = none) (cs : List CV) {j : Nat} (hj : j < gs.length) :
    EffOK Tryz.prog 18 1000 (upd H u (some cs)) A [.c (.ptr pid 0), pD (.lit (.int .i64 j))] (.tup [.c (.d (dS (pgAt gs j))), .c (.d (.lit (.int .i64 0)))]) (upd H u (some cs)) A ∧
    EffOK Tryz.prog 19 1000 (upd H u (some cs)) A [.c (.ptr I.pid 0), pD (.lit (.int .i64 j))] (.tup [.c (.d (dS (pgAt gs j))), .c (.d (.lit (.int .i64 0)))]) (upd H u (some cs)) A := by
  obtain ⟨hw, _, hrh, _, hp, _⟩ := h.nums
  have e1 := h.tell (off := 1000) (l := [.lit (.int .i64 j)]) (.inl rfl) (fun H0 A0 hy => Tryz.hRead 1000 hy j hj)
  have e2 := Tryz.nRead 1000 hw hrh.at_ j (by rw [hx]; exact hj)
  rw [hx] at e2
  exact ⟨eff_frame e1 hw (oksP (l := [.lit (.int .i64 j)]) hp) hu hu, eff_frame e2 hw (oksP (l := [.lit (.int .i64 j)]) hrh.at_.p0) hu hu⟩
structure BSt where
  i : Nat
  m : Nat
  H : HMap
  A : AMap
  gs : List (List UInt8)
  x : RS
structure BV (many : Nat) (y : BSt) : Prop where
  bw : BW y.H y.A 203 200 202 250 (10 + many) 10 1 y.m 304 y.gs (newI 302 300 301 many (300, 0) (300, 2)) 303 y.x
  xg : y.x.1 = y.gs
  i : y.i ≤ 40
def FrB (n : Nat) (ops : List OpH) (many : Nat) (y : BSt) : St :=
  over [(0, pD (.lit (.int .u8 n))), (1, .c (.d (.sl (opsH ops)))), (5, pD (.lit (.int .i64 many))), (10, .c (.ptr 202 0)), (12, .c (.ptr 302 0)), (16, .c (.ptr 250 0)), (18, .c (.ptr 303 0)), (20, pD (.lit (.int .i64 y.i)))] [] y.H y.A
def FrI (n : Nat) (ops : List OpH) (many i j : Nat) (H : HMap) (A : AMap) : St :=
  over [(0, pD (.lit (.int .u8 n))), (1, .c (.d (.sl (opsH ops)))), (5, pD (.lit (.int .i64 many))), (10, .c (.ptr 202 0)), (12, .c (.ptr 302 0)), (16, .c (.ptr 250 0)), (18, .c (.ptr 303 0)), (20, pD (.lit (.int .i64 i))), (22, pD (.lit (.int .i64 j)))] [] H A
theorem bw_ptr {H H' : HMap} {A : AMap} {N m many : Nat} {gs : List (List UInt8)} {κl κ' : Tok} {x : RS} (h : BW H A 203 200 202 250 N 10 1 m 304 gs (newI 302 300 301 many κl κ') 303 x) (hk : ∀ j, H j ≠ none → H' j ≠ none) {X Y : AMap} :
    PV.wk (hOver [] H') X Y (.c (.ptr 202 0)) (.c (.ptr 202 0)) = True ∧ PV.wk (hOver [] H') X Y (.c (.ptr 302 0)) (.c (.ptr 302 0)) = True ∧ PV.wk (hOver [] H') X Y (.c (.ptr 250 0)) (.c (.ptr 250 0)) = True ∧ PV.wk (hOver [] H') X Y (.c (.ptr 303 0)) (.c (.ptr 303 0)) = True := by
  obtain ⟨_, _, hrh, hn, hp, _⟩ := h.nums
  exact ⟨eq_true (wkP_ptr (by show H' 202 ≠ none; exact hk _ hp)), eq_true (wkP_ptr (by show H' 302 ≠ none; exact hk _ hrh.at_.p0)), eq_true (wkP_ptr (by show H' 250 ≠ none; exact hk _ hn)), eq_true (wkP_ptr (by show H' 303 ≠ none; exact hk _ hrh.h0))⟩
theorem oks_play {hk : Nat → Prop} {tk : Tok → Prop} {a b : Nat} (h1 : hk a) (h2 : hk b) {x y z : D} : ∀ v ∈ ([.c (.ptr a 0), .c (.ptr b 0), .agg [.d x, .d y, .d z]] : List PV), v.oks hk tk := fun v hv => by
  simp only [List.mem_cons, List.not_mem_nil, or_false] at hv
  rcases hv with rfl | rfl | rfl
  · exact h1
  · exact h2
  · intro c hc
    simp only [List.mem_cons, List.not_mem_nil, or_false] at hc
    rcases hc with rfl | rfl | rfl <;> exact True.intro
set_option maxRecDepth 8000 in
set_option maxHeartbeats 128000000 in
theorem Tryz.kHeapPlays (n : Nat) (hn : n < 256) (ops : List OpH) : PureOK Tryz.prog 3 [pD (.lit (.int .u8 n)), .c (.d (.sl (opsH ops)))] (.one (.d (.lit (.bool true)))) := by
  have e0 : ∀ {H : HMap} {A : AMap}, EffOK Tryz.prog 16 1000 H A [] (.c (.d (.lit (.bool true)))) H A := eff_pure Tryz.kKnown
  obtain ⟨many, hmany⟩ : ∃ m : Nat, m = 1 + n % 40 := ⟨_, rfl⟩
  have c1 : Int.tmod (n : Int) 40 = ((n % 40 : Nat) : Int) := tmod_nat n 40
  have c2 : IntKind.i64.wrap ((n : Int)) = (n : Int) := Go.IntWalk.i64_in _ (by omega)
  have c3 : IntKind.i64.wrap ((1 : Int) + ((n % 40 : Nat) : Int)) = (many : Int) := by rw [Go.IntWalk.i64_in _ (by omega)]; omega
  have c4 : IntKind.i64.wrap ((10 : Int) + (many : Int)) = ((10 + many : Nat) : Int) := by rw [Go.IntWalk.i64_in _ (by omega)]; omega
  obtain ⟨H1, A1, H2, A2, H3, A3, H4, A4, e1, e2, e3, e4, b1, b2, b3, P4⟩ := Tryz.bBegin many (by omega) (by omega)
  have ab4 : Above 1000 H4 A4 := Above_mono (P4.nums (by omega)).2.1 (by omega)
  have hll := opsH_len ops
  refine pure_eff rfl (effr_ok (E := envOf Tryz.prog [4, 5, 6, 7, 8, 9, 10, 11, 12, 13, 2000000 + 14, 2000000 + 15, 2000000 + 16, 17, 18, 19] 0 [] []) (envOf_ok Tryz.mixed) Tryz.func3 rfl Tryz.call3 (by kernel_rfl) (by exact Nat.le_of_ble_eq_true rfl) (fun hab => ?_))
  have ab0 : Above (0 + 1000) noH noA := Above_mono hab (by omega)
  have nno : ∀ er : Int, er ≠ 0 → (er != er) = false ∧ (er == 0) = false := fun er h => ⟨bne_self_eq_false _, by simpa using h⟩
  by_cases h200 : 200 ≤ n
  · have f1 : ((200 : Int) ≤ (n : Int)) = True := eq_true (by omega)
    obtain ⟨a, er, w, w', HA, AA, HB, AB, HC, AC, HD, AD, gs, x, m', t1, t2, t3, t4, y0, y1, y2, y3, PD, hx, hg⟩ := Tryz.bLay P4 (by omega) (by omega) (by omega) (by omega)
    obtain ⟨eo, HE, AE, HF, ho, t5, t6, y4, y5, lo⟩ := Tryz.bOpenN PD (by omega) (by omega) hx hg
    obtain ⟨u1, u2⟩ := nno eo ho
    repeat' (first
     |with_reducible first|refine vSq fun K hK=>?_|refine vRg ?_|refine vBl ?_|refine vSc ?_|refine vIf ?_|refine vSk ?_|refine vEx ?_|refine vRt ?_
     |(with_reducible first|refine gNt (fun h=>?_) (fun h=>?_)|refine gCs (fun h=>?_) (fun h=>?_))<;>(try simp only[h])
     |refine C_call rfl e1 rfl ab0 ?_
     |refine C_call rfl e2 rfl b1 ?_
     |refine C_call rfl e3 rfl b2 ?_
     |refine C_call rfl e4 rfl b3 ?_
     |refine C_call rfl t1 rfl y0 ?_
     |refine C_call rfl t2 rfl y1 ?_
     |refine C_call rfl t3 rfl y2 ?_
     |refine C_call rfl t4 rfl y3 ?_
     |refine C_call rfl t5 rfl y4 ?_
     |refine C_call rfl t6 rfl y5 ?_
     |with_reducible first|(refine hK _ ?_;clear hK K)|(clear hK K;refine hK _ ?_;clear hK K)|(clear hK K;clear hK K;refine hK _ ?_;clear hK K)|(clear hK K;clear hK K;clear hK K;refine hK _ ?_;clear hK K)
     |(with_reducible refine todo ?_;simp +decide only[go_sem, zne, c1, c2, c3, c4, f1, u1, u2]))
    refine VC_while (ι := Unit) (fun _ => True) (fun _ => frame [(1, .c (.d (.sl (opsH ops)))), (16, pD (.lit (.pointer none))), (20, pD (.lit (.int .i64 0)))] [] []) (fun _ => 0) () True.intro ?_ ?_
    · refine Weak_frame ?_ ?_ ?_ <;> simp +decide only [go_sem]
    · intro _ _
      repeat' (first
       |with_reducible first|refine vSq fun K hK=>?_|refine vRg ?_|refine vBl ?_|refine vSc ?_|refine vIf ?_|refine vSk ?_|refine vEx ?_|refine vRt ?_
       |(with_reducible first|refine gNt (fun h=>?_) (fun h=>?_)|refine gCs (fun h=>?_) (fun h=>?_))<;>(try simp only[h])
       |refine C_quiet rfl rfl e0 rfl ab0 ?_
       |with_reducible first|(refine hK _ ?_;clear hK K)|(clear hK K;refine hK _ ?_;clear hK K)|(clear hK K;clear hK K;refine hK _ ?_;clear hK K)|(clear hK K;clear hK K;clear hK K;refine hK _ ?_;clear hK K)
       |(with_reducible refine todo ?_;simp +decide only[go_sem]))
      all_goals exact RetR_same rfl (by simp +decide only [go_sem]) True.intro (fun i cs c h => by cases h) (fun i h => (h rfl).elim) (fun i h => (h rfl).elim)
  · have f1 : ((200 : Int) ≤ (n : Int)) = False := eq_false (by omega)
    by_cases hm : many = 1
    · obtain ⟨eo, HE, AE, HF, ho, t5, t6, y4, y5, lo⟩ := Tryz.bOpenN P4 (by omega) (by omega) rfl (.inl (by rw [newG_len]; omega))
      obtain ⟨u1, u2⟩ := nno eo ho
      repeat' (first
       |with_reducible first|refine vSq fun K hK=>?_|refine vRg ?_|refine vBl ?_|refine vSc ?_|refine vIf ?_|refine vSk ?_|refine vEx ?_|refine vRt ?_
       |(with_reducible first|refine gNt (fun h=>?_) (fun h=>?_)|refine gCs (fun h=>?_) (fun h=>?_))<;>(try simp only[h])
       |refine C_call rfl e1 rfl ab0 ?_
       |refine C_call rfl e2 rfl b1 ?_
       |refine C_call rfl e3 rfl b2 ?_
       |refine C_call rfl e4 rfl b3 ?_
       |refine C_call rfl t5 rfl y4 ?_
       |refine C_call rfl t6 rfl y5 ?_
       |with_reducible first|(refine hK _ ?_;clear hK K)|(clear hK K;refine hK _ ?_;clear hK K)|(clear hK K;clear hK K;refine hK _ ?_;clear hK K)|(clear hK K;clear hK K;clear hK K;refine hK _ ?_;clear hK K)
       |(with_reducible refine todo ?_;simp +decide only[go_sem, zne, c1, c2, c3, c4, f1, u1, u2]))
      refine VC_while (ι := Unit) (fun _ => True) (fun _ => frame [(1, .c (.d (.sl (opsH ops)))), (16, pD (.lit (.pointer none))), (20, pD (.lit (.int .i64 0)))] [] []) (fun _ => 0) () True.intro ?_ ?_
      · refine Weak_frame ?_ ?_ ?_ <;> simp +decide only [go_sem]
      · intro _ _
        repeat' (first
         |with_reducible first|refine vSq fun K hK=>?_|refine vRg ?_|refine vBl ?_|refine vSc ?_|refine vIf ?_|refine vSk ?_|refine vEx ?_|refine vRt ?_
         |(with_reducible first|refine gNt (fun h=>?_) (fun h=>?_)|refine gCs (fun h=>?_) (fun h=>?_))<;>(try simp only[h])
         |refine C_quiet rfl rfl e0 rfl ab0 ?_
         |with_reducible first|(refine hK _ ?_;clear hK K)|(clear hK K;refine hK _ ?_;clear hK K)|(clear hK K;clear hK K;refine hK _ ?_;clear hK K)|(clear hK K;clear hK K;clear hK K;refine hK _ ?_;clear hK K)
         |(with_reducible refine todo ?_;simp +decide only[go_sem]))
        all_goals exact RetR_same rfl (by simp +decide only [go_sem]) True.intro (fun i cs c h => by cases h) (fun i h => (h rfl).elim) (fun i h => (h rfl).elim)
    · obtain ⟨HE, AE, HF, t5, t6, y4, y5, BF⟩ := Tryz.bOpenY P4 (by omega) (by omega) (by omega) (by omega)
      have hxF : (openS (newG many, [])).1 = openG (newG many) := openS_1 (by show 2 ≤ (newG many).length; rw [newG_len]; omega)
      generalize openS (newG many, []) = xF at *
      generalize openG (newG many) = gF at *
      have BF : BW HF AE 203 200 202 250 (10 + many) 10 1 3 304 gF (newI 302 300 301 many (300, 0) (300, 2)) 303 xF := BF
      repeat' (first
       |with_reducible first|refine vSq fun K hK=>?_|refine vRg ?_|refine vBl ?_|refine vSc ?_|refine vIf ?_|refine vSk ?_|refine vEx ?_|refine vRt ?_
       |(with_reducible first|refine gNt (fun h=>?_) (fun h=>?_)|refine gCs (fun h=>?_) (fun h=>?_))<;>(try simp only[h])
       |refine C_call rfl e1 rfl ab0 ?_
       |refine C_call rfl e2 rfl b1 ?_
       |refine C_call rfl e3 rfl b2 ?_
       |refine C_call rfl e4 rfl b3 ?_
       |refine C_call rfl t5 rfl y4 ?_
       |refine C_call rfl t6 rfl y5 ?_
       |with_reducible first|(refine hK _ ?_;clear hK K)|(clear hK K;refine hK _ ?_;clear hK K)|(clear hK K;clear hK K;refine hK _ ?_;clear hK K)|(clear hK K;clear hK K;clear hK K;refine hK _ ?_;clear hK K)
       |(with_reducible refine todo ?_;simp +decide only[go_sem, zne, c1, c2, c3, c4, f1]))
      refine VC_while (ι := BSt) (BV many) (FrB n ops many) (fun y => 40 - y.i) ⟨0, 3, HF, AE, gF, xF⟩ ⟨BF, hxF, Nat.zero_le _⟩ ?_ ?_
      · have w := fun {X Y : AMap} => bw_ptr BF (fun _ h => h) (X := X) (Y := Y)
        unfold FrB
        refine Weak_overG BF.nums.1 (fun _ _ => rfl) rfl ?_ ?_ (fun i hi => (hi rfl).elim) (fun τ h => (h rfl).elim)
        · simp +decide only [go_sem, w]
        · simp +decide only [go_sem]
      · rintro ⟨i, m, H, A, gs, x⟩ ⟨B, hx, hi⟩
        simp only at B hx hi
        have hnx : IntKind.i64.wrap ((i : Int) + 1) = ((i + 1 : Nat) : Int) := by rw [Go.IntWalk.i64_in _ (by omega)]; omega
        have lo := B.lo (by omega)
        obtain ⟨hw, habt, hrh, hnn, hpp, hgg⟩ := B.nums
        have abH : Above 1000 H A := Above_mono habt (by omega)
        have u0 : H 21 = none := (lo 21 (by omega)).1
        have hl : gs.length = many := by rw [B.len]; omega
        have nxt : ∀ {m' : Nat} {H' : HMap} {A' : AMap} {gs' : List (List UInt8)} {y : RS} {S : St} {cs : List CV}, i < 40 → BW H' A' 203 200 202 250 (10 + many) 10 1 m' 304 gs' (newI 302 300 301 many (300, 0) (300, 2)) 303 y → y.1 = gs' → S.H = upd H' 21 (some cs) → S.A = A' → S.ρ 0 = pD (.lit (.int .u8 n)) → S.ρ 1 = .c (.d (.sl (opsH ops))) → S.ρ 5 = pD (.lit (.int .i64 many)) → S.ρ 10 = .c (.ptr 202 0) → S.ρ 12 = .c (.ptr 302 0) → S.ρ 16 = .c (.ptr 250 0) → S.ρ 18 = .c (.ptr 303 0) → S.ρ 20 = pD (.lit (.int .i64 (i + 1 : Nat))) →
            ∃ j : {y : BSt // BV many y}, Weak noH noA S (FrB n ops many j.1) ∧ 40 - j.1.i < 40 - i := fun {m'} {H'} {A'} {gs'} {y} {S} {cs} hi2 hb hy y1 y2 z0 z1 z5 z10 z12 z16 z18 z20 => by
          refine ⟨⟨⟨i + 1, m', H', A', gs', y⟩, ⟨hb, hy, by show i + 1 ≤ 40; omega⟩⟩, ?_, by show 40 - (i + 1) < 40 - i; omega⟩
          have w := fun {X Y : AMap} => bw_ptr hb (fun _ h => h) (X := X) (Y := Y)
          have h21 := (hb.lo (by omega) 21 (by omega)).1
          unfold FrB
          refine Weak_overG hb.nums.1 (fun j hj => by rw [y1]; exact upd_other _ _ fun e => hj (by rw [e]; exact h21)) y2 ?_ ?_ (fun i hi => (hi rfl).elim) (fun τ h => (h rfl).elim)
          · simp +decide only [go_sem, w, z0, z1, z5, z10, z12, z16, z18, z20]
          · simp +decide only [go_sem]
        unfold FrB
        by_cases q1 : i < ops.length
        · have f1 : ((i : Int) < ((opsH ops).length : Int)) = True := eq_true (by rw [hll]; omega)
          by_cases q2 : i < 40
          · have f2 : ((i : Int) < 40) = True := eq_true (by omega)
            have hgt := opsH_get q1
            generalize ops[i] = o at hgt
            by_cases q3 : 2000 < o.s.length
            · have f3 : ((2000 : Int) < (o.s.length : Int)) = True := eq_true (by omega)
              have abK : ∀ {c}, Above (0 + 1000) (upd H 21 (some c)) A := fun {c} => Above_updH abH (by omega)
              repeat' (first
               |with_reducible first|refine vSq fun K hK=>?_|refine vRg ?_|refine vBl ?_|refine vSc ?_|refine vIf ?_|refine vSk ?_|refine vEx ?_|refine vRt ?_
               |(with_reducible first|refine gNt (fun h=>?_) (fun h=>?_)|refine gCs (fun h=>?_) (fun h=>?_))<;>(try simp only[h])
               |refine And.intro u0 ?_
               |refine C_quiet rfl rfl e0 rfl abK ?_
               |with_reducible first|(refine hK _ ?_;clear hK K)|(clear hK K;refine hK _ ?_;clear hK K)|(clear hK K;clear hK K;refine hK _ ?_;clear hK K)|(clear hK K;clear hK K;clear hK K;refine hK _ ?_;clear hK K)
               |(with_reducible refine todo ?_;simp +decide only[go_sem, f1, f2, f3, hgt, upd_twice]))
              exact RetR_same rfl (by simp +decide only [go_sem]) True.intro (fun i cs c h => by cases h) (fun i h => (h rfl).elim) (fun i h => (h rfl).elim)
            · have f3 : ((2000 : Int) < (o.s.length : Int)) = False := eq_false (by omega)
              obtain ⟨cs, hcs⟩ : ∃ cs : List CV, cs = [.d (.lit (.int .i64 o.kind)), .d (.lit (.int .i64 o.n)), .d (dS o.s)] := ⟨_, rfl⟩
              have kp : ∀ {X : HMap} {c : List CV} j, X j ≠ none → upd X 21 (some c) j ≠ none := fun {X} {c} j hj => upd_keepH _ hj
              have wf1 : ∀ {X : HMap} {Y : AMap}, Wf X Y → Wf (upd X 21 (some cs)) Y := fun {X Y} h => Wf_set h (fun c hc => by
                rw [hcs] at hc
                simp only [List.mem_cons, List.not_mem_nil, or_false] at hc
                rcases hc with rfl | rfl | rfl <;> exact True.intro) (fun _ h => h)
              have ab1 : ∀ {X : HMap} {Y : AMap}, Above 1000 X Y → Above 1000 (upd X 21 (some cs)) Y := fun {X Y} h => Above_updH h (by omega)
              have w0 := wf1 hw
              have a0 := ab1 abH
              have ptr0 := fun {c : List CV} {X Y : AMap} => bw_ptr B (kp (c := c)) (X := X) (Y := Y)
              have n1 := eff_frame (id := 21) (cs := cs) (B.tell (off := 1000) (l := [.lit (.int .i64 (o.s.length : Int))]) (.inr rfl) (fun H0 A0 hy => Tryz.hNeed 1000 hy (o.s.length : Int))) hw (oksP (l := [.lit (.int .i64 (o.s.length : Int))]) hnn) u0 u0
              have n2 := eff_frame (id := 21) (cs := cs) (B.tell (off := 1000) (l := [.lit (.int .i64 o.n)]) (.inr rfl) (fun H0 A0 hy => Tryz.hNeed 1000 hy o.n)) hw (oksP (l := [.lit (.int .i64 o.n)]) hnn) u0 u0
              have n3 := eff_pure (n := 1000) (H := upd H 21 (some cs)) (A := A) (Tryz.rNeed (o.s.length : Int))
              have n4 := eff_pure (n := 1000) (H := upd H 21 (some cs)) (A := A) (Tryz.rNeed o.n)
              have v1 : (needI (o.s.length : Int) != needI (o.s.length : Int)) = false := bne_self_eq_false _
              have v2 : (needI o.n != needI o.n) = false := bne_self_eq_false _
              by_cases q4 : 0 ≤ o.kind ∧ o.kind ≤ 4
              · obtain ⟨k1, k2⟩ := q4
                have f4 : ((0 : Int) ≤ o.kind) = True := eq_true k1
                have f5 : (o.kind ≤ 4) = True := eq_true k2
                have f6 : (o.kind < 0) = False := eq_false (by omega)
                have f7 : ((4 : Int) < o.kind) = False := eq_false (by omega)
                obtain ⟨H2, A2, m2, g2, x2, ep, B2, hx2⟩ := Tryz.bPlay 1000 B (by omega) (by omega) hx o.kind o.n o.s k1 k2
                have u2 : H2 21 = none := (B2.lo (by omega) 21 (by omega)).1
                have ep := eff_frame (id := 21) (cs := cs) ep hw (oks_play hnn hrh.h0) u0 u2
                have w2 := wf1 B2.nums.1
                have a2 := ab1 (Above_mono B2.nums.2.1 (show 304 ≤ 1000 by omega))
                have l2 : g2.length = many := by rw [B2.len]; omega
                have ptr2 := fun {c : List CV} {X Y : AMap} => bw_ptr B2 (kp (c := c)) (X := X) (Y := Y)
                subst hcs
                repeat' (first
                 |with_reducible first|refine vSq fun K hK=>?_|refine vRg ?_|refine vBl ?_|refine vSc ?_|refine vIf ?_|refine vSk ?_|refine vEx ?_|refine vRt ?_
                 |(with_reducible first|refine gNt (fun h=>?_) (fun h=>?_)|refine gCs (fun h=>?_) (fun h=>?_))<;>(try simp only[h])
                 |refine And.intro u0 ?_
                 |refine C_quiet rfl rfl n1 rfl a0 ?_
                 |refine C_quiet rfl rfl n2 rfl a0 ?_
                 |refine C_quiet rfl rfl n3 rfl a0 ?_
                 |refine C_quiet rfl rfl n4 rfl a0 ?_
                 |refine C_call rfl ep rfl a0 ?_
                 |with_reducible first|(refine hK _ ?_;clear hK K)|(clear hK K;refine hK _ ?_;clear hK K)|(clear hK K;clear hK K;refine hK _ ?_;clear hK K)|(clear hK K;clear hK K;clear hK K;refine hK _ ?_;clear hK K)
                 |(with_reducible refine todo ?_;simp +decide only[go_sem, f1, f2, f3, f4, f5, f6, f7, v1, v2, hgt, upd_twice]))
                refine VC_range many (fun _ => True) (fun j => FrI n ops many i j (upd H2 21 (some [.d (.lit (.int .i64 o.kind)), .d (.lit (.int .i64 o.n)), .d (dS o.s)])) A2) True.intro ?_ ?_
                · unfold FrI
                  refine Weak_overG w2 (fun _ _ => rfl) rfl ?_ ?_ (fun i hi => (hi rfl).elim) (fun τ h => (h rfl).elim)
                  · simp +decide only [go_sem, ptr2]
                  · simp +decide only [go_sem]
                · intro j hj _
                  have hnj : IntKind.i64.wrap ((j : Int) + 1) = ((j + 1 : Nat) : Int) := by rw [Go.IntWalk.i64_in _ (by omega)]; omega
                  unfold FrI
                  rcases Nat.lt_or_ge j many with j2 | j2
                  · have f5 : ((j : Int) < (many : Int)) = True := eq_true (by omega)
                    obtain ⟨r1, r2⟩ := Tryz.bReads B2 hx2 u2 [.d (.lit (.int .i64 o.kind)), .d (.lit (.int .i64 o.n)), .d (dS o.s)] (by rw [l2]; exact j2)
                    generalize pgAt g2 j = t at *
                    repeat' (first
                     |with_reducible first|refine vSq fun K hK=>?_|refine vRg ?_|refine vBl ?_|refine vSc ?_|refine vIf ?_|refine vSk ?_|refine vEx ?_|refine vRt ?_
                     |(with_reducible first|refine gNt (fun h=>?_) (fun h=>?_)|refine gCs (fun h=>?_) (fun h=>?_))<;>(try simp only[h])
                     |refine C_call rfl r1 rfl a2 ?_
                     |refine C_call rfl r2 rfl a2 ?_
                     |with_reducible first|(refine hK _ ?_;clear hK K)|(clear hK K;refine hK _ ?_;clear hK K)|(clear hK K;clear hK K;refine hK _ ?_;clear hK K)|(clear hK K;clear hK K;clear hK K;refine hK _ ?_;clear hK K)
                     |(with_reducible refine todo ?_;simp +decide only[go_sem, f5, hnj]))
                    refine Next_of j2 True.intro ?_
                    refine Weak_overG w2 (fun _ _ => rfl) rfl ?_ ?_ (fun i hi => (hi rfl).elim) (fun τ h => (h rfl).elim)
                    · simp +decide only [go_sem, ptr2]
                    · simp +decide only [go_sem]
                  · have f5 : ((j : Int) < (many : Int)) = False := eq_false (by omega)
                    repeat' (first
                     |with_reducible first|refine vSq fun K hK=>?_|refine vRg ?_|refine vBl ?_|refine vSc ?_|refine vIf ?_|refine vSk ?_|refine vEx ?_|refine vRt ?_
                     |(with_reducible first|refine gNt (fun h=>?_) (fun h=>?_)|refine gCs (fun h=>?_) (fun h=>?_))<;>(try simp only[h])
                     |with_reducible first|(refine hK _ ?_;clear hK K)|(clear hK K;refine hK _ ?_;clear hK K)|(clear hK K;clear hK K;refine hK _ ?_;clear hK K)|(clear hK K;clear hK K;clear hK K;refine hK _ ?_;clear hK K)
                     |(with_reducible refine todo ?_;simp +decide only[go_sem, f5, hnx]))
                    exact nxt q2 B2 hx2 rfl rfl rfl rfl rfl rfl rfl rfl rfl rfl
              · by_cases q5 : o.kind < 0
                · have f4 : ((0 : Int) ≤ o.kind) = False := eq_false (by omega)
                  have f6 : (o.kind < 0) = True := eq_true (by omega)
                  by_cases q6 : o.n = 1
                  · have f8 : (o.n != 1) = false := by rw [q6]; rfl
                    subst hcs
                    repeat' (first
                     |with_reducible first|refine vSq fun K hK=>?_|refine vRg ?_|refine vBl ?_|refine vSc ?_|refine vIf ?_|refine vSk ?_|refine vEx ?_|refine vRt ?_
                     |(with_reducible first|refine gNt (fun h=>?_) (fun h=>?_)|refine gCs (fun h=>?_) (fun h=>?_))<;>(try simp only[h])
                     |refine And.intro u0 ?_
                     |refine C_quiet rfl rfl n1 rfl a0 ?_
                     |refine C_quiet rfl rfl n2 rfl a0 ?_
                     |refine C_quiet rfl rfl n3 rfl a0 ?_
                     |refine C_quiet rfl rfl n4 rfl a0 ?_
                     |with_reducible first|(refine hK _ ?_;clear hK K)|(clear hK K;refine hK _ ?_;clear hK K)|(clear hK K;clear hK K;refine hK _ ?_;clear hK K)|(clear hK K;clear hK K;clear hK K;refine hK _ ?_;clear hK K)
                     |(with_reducible refine todo ?_;simp +decide only[go_sem, f1, f2, f3, f4, f6, f8, v1, v2, hgt, upd_twice]))
                    refine VC_range many (fun _ => True) (fun j => FrI n ops many i j (upd H 21 (some [.d (.lit (.int .i64 o.kind)), .d (.lit (.int .i64 o.n)), .d (dS o.s)])) A) True.intro ?_ ?_
                    · unfold FrI
                      refine Weak_overG w0 (fun _ _ => rfl) rfl ?_ ?_ (fun i hi => (hi rfl).elim) (fun τ h => (h rfl).elim)
                      · simp +decide only [go_sem, ptr0]
                      · simp +decide only [go_sem]
                    · intro j hj _
                      have hnj : IntKind.i64.wrap ((j : Int) + 1) = ((j + 1 : Nat) : Int) := by rw [Go.IntWalk.i64_in _ (by omega)]; omega
                      unfold FrI
                      rcases Nat.lt_or_ge j many with j2 | j2
                      · have f5 : ((j : Int) < (many : Int)) = True := eq_true (by omega)
                        obtain ⟨r1, r2⟩ := Tryz.bReads B hx u0 [.d (.lit (.int .i64 o.kind)), .d (.lit (.int .i64 o.n)), .d (dS o.s)] (by rw [hl]; exact j2)
                        generalize pgAt gs j = t at *
                        repeat' (first
                         |with_reducible first|refine vSq fun K hK=>?_|refine vRg ?_|refine vBl ?_|refine vSc ?_|refine vIf ?_|refine vSk ?_|refine vEx ?_|refine vRt ?_
                         |(with_reducible first|refine gNt (fun h=>?_) (fun h=>?_)|refine gCs (fun h=>?_) (fun h=>?_))<;>(try simp only[h])
                         |refine C_call rfl r1 rfl a0 ?_
                         |refine C_call rfl r2 rfl a0 ?_
                         |with_reducible first|(refine hK _ ?_;clear hK K)|(clear hK K;refine hK _ ?_;clear hK K)|(clear hK K;clear hK K;refine hK _ ?_;clear hK K)|(clear hK K;clear hK K;clear hK K;refine hK _ ?_;clear hK K)
                         |(with_reducible refine todo ?_;simp +decide only[go_sem, f5, hnj]))
                        refine Next_of j2 True.intro ?_
                        refine Weak_overG w0 (fun _ _ => rfl) rfl ?_ ?_ (fun i hi => (hi rfl).elim) (fun τ h => (h rfl).elim)
                        · simp +decide only [go_sem, ptr0]
                        · simp +decide only [go_sem]
                      · have f5 : ((j : Int) < (many : Int)) = False := eq_false (by omega)
                        repeat' (first
                         |with_reducible first|refine vSq fun K hK=>?_|refine vRg ?_|refine vBl ?_|refine vSc ?_|refine vIf ?_|refine vSk ?_|refine vEx ?_|refine vRt ?_
                         |(with_reducible first|refine gNt (fun h=>?_) (fun h=>?_)|refine gCs (fun h=>?_) (fun h=>?_))<;>(try simp only[h])
                         |with_reducible first|(refine hK _ ?_;clear hK K)|(clear hK K;refine hK _ ?_;clear hK K)|(clear hK K;clear hK K;refine hK _ ?_;clear hK K)|(clear hK K;clear hK K;clear hK K;refine hK _ ?_;clear hK K)
                         |(with_reducible refine todo ?_;simp +decide only[go_sem, f5, hnx]))
                        exact nxt q2 B hx rfl rfl rfl rfl rfl rfl rfl rfl rfl rfl
                  · have f8 : (o.n != 1) = true := by simpa using q6
                    obtain ⟨H2, A2, ew, B2, _, _⟩ := B.prog (off := 1000) (l := [.lit (.int .i64 o.n), dS o.s]) (.inl rfl) (fun H0 A0 hy => Tryz.hWriteAny 1000 hy o.n o.s)
                    have u2 : H2 21 = none := (B2.lo (by omega) 21 (by omega)).1
                    have ew := eff_frame (id := 21) (cs := cs) ew hw (oksP (l := [.lit (.int .i64 o.n), dS o.s]) hpp) u0 u2
                    have a2 := ab1 (Above_mono B2.nums.2.1 (show 304 ≤ 1000 by omega))
                    obtain ⟨w2, _, r2, _⟩ := B2.nums
                    have ex := Tryz.nWrite 1000 w2 r2.at_ o.n o.s (by omega)
                    have B3 := B2.doc (y := writeS x o.n o.s) (fun L M q => q.up (q.at_.write o.n o.s) (by rw [writeS_1, writeG_len]))
                    have u3 := (B3.lo (by omega) 21 (by omega)).1
                    have ex := eff_frame (id := 21) (cs := cs) ex w2 (oksP (l := [.lit (.int .i64 o.n), dS o.s]) r2.at_.p0) u2 u3
                    have hx3 : (writeS x o.n o.s).1 = writeG gs o.n o.s := by rw [writeS_1, hx]
                    have l3 : (writeG gs o.n o.s).length = many := by rw [writeG_len]; exact hl
                    have w3 := wf1 B3.nums.1
                    have a3 := ab1 (Above_mono B3.nums.2.1 (show 304 ≤ 1000 by omega))
                    have ptr3 := fun {c : List CV} {X Y : AMap} => bw_ptr B3 (kp (c := c)) (X := X) (Y := Y)
                    generalize RI.up _ H2 (writeS x o.n o.s) = H3 at *
                    generalize writeS x o.n o.s = x3 at *
                    generalize writeG gs o.n o.s = g3 at *
                    subst hcs
                    repeat' (first
                     |with_reducible first|refine vSq fun K hK=>?_|refine vRg ?_|refine vBl ?_|refine vSc ?_|refine vIf ?_|refine vSk ?_|refine vEx ?_|refine vRt ?_
                     |(with_reducible first|refine gNt (fun h=>?_) (fun h=>?_)|refine gCs (fun h=>?_) (fun h=>?_))<;>(try simp only[h])
                     |refine And.intro u0 ?_
                     |refine C_quiet rfl rfl n1 rfl a0 ?_
                     |refine C_quiet rfl rfl n2 rfl a0 ?_
                     |refine C_quiet rfl rfl n3 rfl a0 ?_
                     |refine C_quiet rfl rfl n4 rfl a0 ?_
                     |refine C_call rfl ew rfl a0 ?_
                     |refine C_call rfl ex rfl a2 ?_
                     |with_reducible first|(refine hK _ ?_;clear hK K)|(clear hK K;refine hK _ ?_;clear hK K)|(clear hK K;clear hK K;refine hK _ ?_;clear hK K)|(clear hK K;clear hK K;clear hK K;refine hK _ ?_;clear hK K)
                     |(with_reducible refine todo ?_;simp +decide only[go_sem, f1, f2, f3, f4, f6, f8, v1, v2, hgt, upd_twice]))
                    refine VC_range many (fun _ => True) (fun j => FrI n ops many i j (upd H3 21 (some [.d (.lit (.int .i64 o.kind)), .d (.lit (.int .i64 o.n)), .d (dS o.s)])) A2) True.intro ?_ ?_
                    · unfold FrI
                      refine Weak_overG w3 (fun _ _ => rfl) rfl ?_ ?_ (fun i hi => (hi rfl).elim) (fun τ h => (h rfl).elim)
                      · simp +decide only [go_sem, ptr3]
                      · simp +decide only [go_sem]
                    · intro j hj _
                      have hnj : IntKind.i64.wrap ((j : Int) + 1) = ((j + 1 : Nat) : Int) := by rw [Go.IntWalk.i64_in _ (by omega)]; omega
                      unfold FrI
                      rcases Nat.lt_or_ge j many with j2 | j2
                      · have f5 : ((j : Int) < (many : Int)) = True := eq_true (by omega)
                        obtain ⟨r1, r2⟩ := Tryz.bReads B3 hx3 u3 [.d (.lit (.int .i64 o.kind)), .d (.lit (.int .i64 o.n)), .d (dS o.s)] (by rw [l3]; exact j2)
                        generalize pgAt g3 j = t at *
                        repeat' (first
                         |with_reducible first|refine vSq fun K hK=>?_|refine vRg ?_|refine vBl ?_|refine vSc ?_|refine vIf ?_|refine vSk ?_|refine vEx ?_|refine vRt ?_
                         |(with_reducible first|refine gNt (fun h=>?_) (fun h=>?_)|refine gCs (fun h=>?_) (fun h=>?_))<;>(try simp only[h])
                         |refine C_call rfl r1 rfl a3 ?_
                         |refine C_call rfl r2 rfl a3 ?_
                         |with_reducible first|(refine hK _ ?_;clear hK K)|(clear hK K;refine hK _ ?_;clear hK K)|(clear hK K;clear hK K;refine hK _ ?_;clear hK K)|(clear hK K;clear hK K;clear hK K;refine hK _ ?_;clear hK K)
                         |(with_reducible refine todo ?_;simp +decide only[go_sem, f5, hnj]))
                        refine Next_of j2 True.intro ?_
                        refine Weak_overG w3 (fun _ _ => rfl) rfl ?_ ?_ (fun i hi => (hi rfl).elim) (fun τ h => (h rfl).elim)
                        · simp +decide only [go_sem, ptr3]
                        · simp +decide only [go_sem]
                      · have f5 : ((j : Int) < (many : Int)) = False := eq_false (by omega)
                        repeat' (first
                         |with_reducible first|refine vSq fun K hK=>?_|refine vRg ?_|refine vBl ?_|refine vSc ?_|refine vIf ?_|refine vSk ?_|refine vEx ?_|refine vRt ?_
                         |(with_reducible first|refine gNt (fun h=>?_) (fun h=>?_)|refine gCs (fun h=>?_) (fun h=>?_))<;>(try simp only[h])
                         |with_reducible first|(refine hK _ ?_;clear hK K)|(clear hK K;refine hK _ ?_;clear hK K)|(clear hK K;clear hK K;refine hK _ ?_;clear hK K)|(clear hK K;clear hK K;clear hK K;refine hK _ ?_;clear hK K)
                         |(with_reducible refine todo ?_;simp +decide only[go_sem, f5, hnx]))
                        exact nxt q2 B3 hx3 rfl rfl rfl rfl rfl rfl rfl rfl rfl rfl
                · have f4 : ((0 : Int) ≤ o.kind) = True := eq_true (by omega)
                  have f5 : (o.kind ≤ 4) = False := eq_false (by omega)
                  have f6 : (o.kind < 0) = False := eq_false (by omega)
                  have f7 : ((4 : Int) < o.kind) = True := eq_true (by omega)
                  by_cases q6 : o.n = 1
                  · have f8 : (o.n != 1) = false := by rw [q6]; rfl
                    subst hcs
                    repeat' (first
                     |with_reducible first|refine vSq fun K hK=>?_|refine vRg ?_|refine vBl ?_|refine vSc ?_|refine vIf ?_|refine vSk ?_|refine vEx ?_|refine vRt ?_
                     |(with_reducible first|refine gNt (fun h=>?_) (fun h=>?_)|refine gCs (fun h=>?_) (fun h=>?_))<;>(try simp only[h])
                     |refine And.intro u0 ?_
                     |refine C_quiet rfl rfl n1 rfl a0 ?_
                     |refine C_quiet rfl rfl n2 rfl a0 ?_
                     |refine C_quiet rfl rfl n3 rfl a0 ?_
                     |refine C_quiet rfl rfl n4 rfl a0 ?_
                     |with_reducible first|(refine hK _ ?_;clear hK K)|(clear hK K;refine hK _ ?_;clear hK K)|(clear hK K;clear hK K;refine hK _ ?_;clear hK K)|(clear hK K;clear hK K;clear hK K;refine hK _ ?_;clear hK K)
                     |(with_reducible refine todo ?_;simp +decide only[go_sem, f1, f2, f3, f4, f5, f6, f7, f8, v1, v2, hgt, upd_twice]))
                    refine VC_range many (fun _ => True) (fun j => FrI n ops many i j (upd H 21 (some [.d (.lit (.int .i64 o.kind)), .d (.lit (.int .i64 o.n)), .d (dS o.s)])) A) True.intro ?_ ?_
                    · unfold FrI
                      refine Weak_overG w0 (fun _ _ => rfl) rfl ?_ ?_ (fun i hi => (hi rfl).elim) (fun τ h => (h rfl).elim)
                      · simp +decide only [go_sem, ptr0]
                      · simp +decide only [go_sem]
                    · intro j hj _
                      have hnj : IntKind.i64.wrap ((j : Int) + 1) = ((j + 1 : Nat) : Int) := by rw [Go.IntWalk.i64_in _ (by omega)]; omega
                      unfold FrI
                      rcases Nat.lt_or_ge j many with j2 | j2
                      · have f5 : ((j : Int) < (many : Int)) = True := eq_true (by omega)
                        obtain ⟨r1, r2⟩ := Tryz.bReads B hx u0 [.d (.lit (.int .i64 o.kind)), .d (.lit (.int .i64 o.n)), .d (dS o.s)] (by rw [hl]; exact j2)
                        generalize pgAt gs j = t at *
                        repeat' (first
                         |with_reducible first|refine vSq fun K hK=>?_|refine vRg ?_|refine vBl ?_|refine vSc ?_|refine vIf ?_|refine vSk ?_|refine vEx ?_|refine vRt ?_
                         |(with_reducible first|refine gNt (fun h=>?_) (fun h=>?_)|refine gCs (fun h=>?_) (fun h=>?_))<;>(try simp only[h])
                         |refine C_call rfl r1 rfl a0 ?_
                         |refine C_call rfl r2 rfl a0 ?_
                         |with_reducible first|(refine hK _ ?_;clear hK K)|(clear hK K;refine hK _ ?_;clear hK K)|(clear hK K;clear hK K;refine hK _ ?_;clear hK K)|(clear hK K;clear hK K;clear hK K;refine hK _ ?_;clear hK K)
                         |(with_reducible refine todo ?_;simp +decide only[go_sem, f5, hnj]))
                        refine Next_of j2 True.intro ?_
                        refine Weak_overG w0 (fun _ _ => rfl) rfl ?_ ?_ (fun i hi => (hi rfl).elim) (fun τ h => (h rfl).elim)
                        · simp +decide only [go_sem, ptr0]
                        · simp +decide only [go_sem]
                      · have f5 : ((j : Int) < (many : Int)) = False := eq_false (by omega)
                        repeat' (first
                         |with_reducible first|refine vSq fun K hK=>?_|refine vRg ?_|refine vBl ?_|refine vSc ?_|refine vIf ?_|refine vSk ?_|refine vEx ?_|refine vRt ?_
                         |(with_reducible first|refine gNt (fun h=>?_) (fun h=>?_)|refine gCs (fun h=>?_) (fun h=>?_))<;>(try simp only[h])
                         |with_reducible first|(refine hK _ ?_;clear hK K)|(clear hK K;refine hK _ ?_;clear hK K)|(clear hK K;clear hK K;refine hK _ ?_;clear hK K)|(clear hK K;clear hK K;clear hK K;refine hK _ ?_;clear hK K)
                         |(with_reducible refine todo ?_;simp +decide only[go_sem, f5, hnx]))
                        exact nxt q2 B hx rfl rfl rfl rfl rfl rfl rfl rfl rfl rfl
                  · have f8 : (o.n != 1) = true := by simpa using q6
                    obtain ⟨H2, A2, ew, B2, _, _⟩ := B.prog (off := 1000) (l := [.lit (.int .i64 o.n), dS o.s]) (.inl rfl) (fun H0 A0 hy => Tryz.hWriteAny 1000 hy o.n o.s)
                    have u2 : H2 21 = none := (B2.lo (by omega) 21 (by omega)).1
                    have ew := eff_frame (id := 21) (cs := cs) ew hw (oksP (l := [.lit (.int .i64 o.n), dS o.s]) hpp) u0 u2
                    have a2 := ab1 (Above_mono B2.nums.2.1 (show 304 ≤ 1000 by omega))
                    obtain ⟨w2, _, r2, _⟩ := B2.nums
                    have ex := Tryz.nWrite 1000 w2 r2.at_ o.n o.s (by omega)
                    have B3 := B2.doc (y := writeS x o.n o.s) (fun L M q => q.up (q.at_.write o.n o.s) (by rw [writeS_1, writeG_len]))
                    have u3 := (B3.lo (by omega) 21 (by omega)).1
                    have ex := eff_frame (id := 21) (cs := cs) ex w2 (oksP (l := [.lit (.int .i64 o.n), dS o.s]) r2.at_.p0) u2 u3
                    have hx3 : (writeS x o.n o.s).1 = writeG gs o.n o.s := by rw [writeS_1, hx]
                    have l3 : (writeG gs o.n o.s).length = many := by rw [writeG_len]; exact hl
                    have w3 := wf1 B3.nums.1
                    have a3 := ab1 (Above_mono B3.nums.2.1 (show 304 ≤ 1000 by omega))
                    have ptr3 := fun {c : List CV} {X Y : AMap} => bw_ptr B3 (kp (c := c)) (X := X) (Y := Y)
                    generalize RI.up _ H2 (writeS x o.n o.s) = H3 at *
                    generalize writeS x o.n o.s = x3 at *
                    generalize writeG gs o.n o.s = g3 at *
                    subst hcs
                    repeat' (first
                     |with_reducible first|refine vSq fun K hK=>?_|refine vRg ?_|refine vBl ?_|refine vSc ?_|refine vIf ?_|refine vSk ?_|refine vEx ?_|refine vRt ?_
                     |(with_reducible first|refine gNt (fun h=>?_) (fun h=>?_)|refine gCs (fun h=>?_) (fun h=>?_))<;>(try simp only[h])
                     |refine And.intro u0 ?_
                     |refine C_quiet rfl rfl n1 rfl a0 ?_
                     |refine C_quiet rfl rfl n2 rfl a0 ?_
                     |refine C_quiet rfl rfl n3 rfl a0 ?_
                     |refine C_quiet rfl rfl n4 rfl a0 ?_
                     |refine C_call rfl ew rfl a0 ?_
                     |refine C_call rfl ex rfl a2 ?_
                     |with_reducible first|(refine hK _ ?_;clear hK K)|(clear hK K;refine hK _ ?_;clear hK K)|(clear hK K;clear hK K;refine hK _ ?_;clear hK K)|(clear hK K;clear hK K;clear hK K;refine hK _ ?_;clear hK K)
                     |(with_reducible refine todo ?_;simp +decide only[go_sem, f1, f2, f3, f4, f5, f6, f7, f8, v1, v2, hgt, upd_twice]))
                    refine VC_range many (fun _ => True) (fun j => FrI n ops many i j (upd H3 21 (some [.d (.lit (.int .i64 o.kind)), .d (.lit (.int .i64 o.n)), .d (dS o.s)])) A2) True.intro ?_ ?_
                    · unfold FrI
                      refine Weak_overG w3 (fun _ _ => rfl) rfl ?_ ?_ (fun i hi => (hi rfl).elim) (fun τ h => (h rfl).elim)
                      · simp +decide only [go_sem, ptr3]
                      · simp +decide only [go_sem]
                    · intro j hj _
                      have hnj : IntKind.i64.wrap ((j : Int) + 1) = ((j + 1 : Nat) : Int) := by rw [Go.IntWalk.i64_in _ (by omega)]; omega
                      unfold FrI
                      rcases Nat.lt_or_ge j many with j2 | j2
                      · have f5 : ((j : Int) < (many : Int)) = True := eq_true (by omega)
                        obtain ⟨r1, r2⟩ := Tryz.bReads B3 hx3 u3 [.d (.lit (.int .i64 o.kind)), .d (.lit (.int .i64 o.n)), .d (dS o.s)] (by rw [l3]; exact j2)
                        generalize pgAt g3 j = t at *
                        repeat' (first
                         |with_reducible first|refine vSq fun K hK=>?_|refine vRg ?_|refine vBl ?_|refine vSc ?_|refine vIf ?_|refine vSk ?_|refine vEx ?_|refine vRt ?_
                         |(with_reducible first|refine gNt (fun h=>?_) (fun h=>?_)|refine gCs (fun h=>?_) (fun h=>?_))<;>(try simp only[h])
                         |refine C_call rfl r1 rfl a3 ?_
                         |refine C_call rfl r2 rfl a3 ?_
                         |with_reducible first|(refine hK _ ?_;clear hK K)|(clear hK K;refine hK _ ?_;clear hK K)|(clear hK K;clear hK K;refine hK _ ?_;clear hK K)|(clear hK K;clear hK K;clear hK K;refine hK _ ?_;clear hK K)
                         |(with_reducible refine todo ?_;simp +decide only[go_sem, f5, hnj]))
                        refine Next_of j2 True.intro ?_
                        refine Weak_overG w3 (fun _ _ => rfl) rfl ?_ ?_ (fun i hi => (hi rfl).elim) (fun τ h => (h rfl).elim)
                        · simp +decide only [go_sem, ptr3]
                        · simp +decide only [go_sem]
                      · have f5 : ((j : Int) < (many : Int)) = False := eq_false (by omega)
                        repeat' (first
                         |with_reducible first|refine vSq fun K hK=>?_|refine vRg ?_|refine vBl ?_|refine vSc ?_|refine vIf ?_|refine vSk ?_|refine vEx ?_|refine vRt ?_
                         |(with_reducible first|refine gNt (fun h=>?_) (fun h=>?_)|refine gCs (fun h=>?_) (fun h=>?_))<;>(try simp only[h])
                         |with_reducible first|(refine hK _ ?_;clear hK K)|(clear hK K;refine hK _ ?_;clear hK K)|(clear hK K;clear hK K;refine hK _ ?_;clear hK K)|(clear hK K;clear hK K;clear hK K;refine hK _ ?_;clear hK K)
                         |(with_reducible refine todo ?_;simp +decide only[go_sem, f5, hnx]))
                        exact nxt q2 B3 hx3 rfl rfl rfl rfl rfl rfl rfl rfl rfl rfl
          · have f2 : ((i : Int) < 40) = False := eq_false (by omega)
            repeat' (first
             |with_reducible first|refine vSq fun K hK=>?_|refine vRg ?_|refine vBl ?_|refine vSc ?_|refine vIf ?_|refine vSk ?_|refine vEx ?_|refine vRt ?_
             |(with_reducible first|refine gNt (fun h=>?_) (fun h=>?_)|refine gCs (fun h=>?_) (fun h=>?_))<;>(try simp only[h])
             |refine C_quiet rfl rfl e0 rfl abH ?_
             |with_reducible first|(refine hK _ ?_;clear hK K)|(clear hK K;refine hK _ ?_;clear hK K)|(clear hK K;clear hK K;refine hK _ ?_;clear hK K)|(clear hK K;clear hK K;clear hK K;refine hK _ ?_;clear hK K)
             |(with_reducible refine todo ?_;simp +decide only[go_sem, f1, f2]))
            exact RetR_same rfl (by simp +decide only [go_sem]) True.intro (fun i cs c h => by cases h) (fun i h => (h rfl).elim) (fun i h => (h rfl).elim)
        · have f1 : ((i : Int) < ((opsH ops).length : Int)) = False := eq_false (by rw [hll]; omega)
          repeat' (first
           |with_reducible first|refine vSq fun K hK=>?_|refine vRg ?_|refine vBl ?_|refine vSc ?_|refine vIf ?_|refine vSk ?_|refine vEx ?_|refine vRt ?_
           |(with_reducible first|refine gNt (fun h=>?_) (fun h=>?_)|refine gCs (fun h=>?_) (fun h=>?_))<;>(try simp only[h])
           |refine C_quiet rfl rfl e0 rfl abH ?_
           |with_reducible first|(refine hK _ ?_;clear hK K)|(clear hK K;refine hK _ ?_;clear hK K)|(clear hK K;clear hK K;refine hK _ ?_;clear hK K)|(clear hK K;clear hK K;clear hK K;refine hK _ ?_;clear hK K)
           |(with_reducible refine todo ?_;simp +decide only[go_sem, f1]))
          exact RetR_same rfl (by simp +decide only [go_sem]) True.intro (fun i cs c h => by cases h) (fun i h => (h rfl).elim) (fun i h => (h rfl).elim)
end Go.Proofs
