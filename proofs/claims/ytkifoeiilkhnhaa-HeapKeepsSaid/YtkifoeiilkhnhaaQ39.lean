import Derived.Test.YtkifoeiilkhnhaaQ38

/-
  HeapTwice: the law's body.
-/

namespace Go.Proofs
open Go.PW
/-- A call of a script. -/
structure OpH where
  kind : Int
  n : Int
  s : List UInt8
def OpH.enc (o : OpH) : List D := [.lit (.int .i64 o.kind), .lit (.int .i64 o.n), dS o.s]
def opsH (l : List OpH) : List (List D) := l.map OpH.enc
theorem opsH_get {l : List OpH} {i : Nat} (h : i < l.length) : (opsH l)[i]? = some [.lit (.int .i64 l[i].kind), .lit (.int .i64 l[i].n), dS l[i].s] := by
  unfold opsH; rw [List.getElem?_map, List.getElem?_eq_getElem h]; rfl
theorem opsH_len (l : List OpH) : (opsH l).length = l.length := by simp [opsH]
/-- What stays, whatever is put. -/
structure GV (n : Nat) (gs : List (List UInt8)) : Prop where
  ok : GOK gs
  len : gs.length = n
  one : isFG gs 1 = false
theorem GV.put {n : Nat} {gs : List (List UInt8)} (h : GV n gs) (s : List UInt8) : GV n (putG gs s).2.2 := by
  by_cases h1 : 100000 < s.length
  · unfold putG; rw [if_pos h1]; exact h
  · by_cases h2 : frG gs < need s.length
    · rw [putG_full (by omega) h2]; exact h
    · obtain ⟨ids, g', e, hp⟩ := putG_ok h.ok h.one (s := s) (by omega) (by omega)
      rw [e]
      have h2 := h.ok.two
      refine ⟨hp.ok, by rw [hp.len]; exact h.len, ?_⟩
      have hni : 1 ∉ ids := fun hm => by have := hp.was 1 hm; rw [h.one] at this; cases this
      rw [hp.bit 1 (by omega) hni]
      exact h.one
/-- The same record, put twice, and taken away. -/
theorem twice_ok {n : Nat} {gs : List (List UInt8)} (h : GV n gs) {s : List UInt8} (hs : s.length ≤ 100000) :
    (frG gs < need s.length ∧ putG gs s = (0, 3, gs)) ∨
    (∃ a g1, putG gs s = (a, 0, g1) ∧ frG g1 < need s.length ∧ frG gs = frG g1 + need s.length ∧ putG g1 s = (0, 3, g1)) ∨
    (∃ a b g1 g2 p q, putG gs s = (a, 0, g1) ∧ putG g1 s = (b, 0, g2) ∧ a ≠ b ∧ rowG g2 (a : Nat) = (p, s, 0) ∧ rowG (dropG g2 (a : Nat)) (b : Nat) = (q, s, 0) ∧ rowG (dropG g2 (a : Nat)) (a : Nat) = ([], [], 4) ∧ frG (dropG (dropG g2 (a : Nat)) (b : Nat)) = frG gs) := by
  by_cases h1 : frG gs < need s.length
  · exact .inl ⟨h1, putG_full hs h1⟩
  · obtain ⟨ids, g1, e1, p1⟩ := putG_ok h.ok h.one hs (by omega)
    have v1 : GV n g1 := by have := h.put s; rw [e1] at this; exact this
    by_cases h2 : frG g1 < need s.length
    · exact .inr (.inl ⟨_, g1, e1, h2, p1.cnt, putG_full hs h2⟩)
    · obtain ⟨js, g2, e2, p2⟩ := putG_ok v1.ok v1.one hs (by omega)
      have hdis : ∀ q ∈ ids, q ∉ js := fun q h1 h2 => by
        have := p2.was q h2
        rw [(p1.ch.mem q h1).2.2] at this
        cases this
      have c1 : Chain g2 ids s := p1.ch.mono p2.len fun q hq => by
        obtain ⟨a, b, c⟩ := p1.ch.mem q hq
        exact ⟨p2.pg q (by omega) (hdis q hq), p2.bit q b (hdis q hq)⟩
      have d1 := dropG_ok p2.ok c1
      have c2 : Chain (dropG g2 (ids.headD 0 : Nat)) js s := p2.ch.mono d1.len fun q hq => by
        obtain ⟨a, b, c⟩ := p2.ch.mem q hq
        exact ⟨d1.pg q (by omega), d1.bit q b fun hm => hdis q hm hq⟩
      have d2 := dropG_ok d1.ok c2
      have hhd : ∀ {l : List Nat}, l ≠ [] → l.headD 0 ∈ l := fun {l} hl => by
        cases l with
        | nil => exact (hl rfl).elim
        | cons a r => exact List.mem_cons_self ..
      have m1 := hhd p1.ch.ne
      have m2 := hhd p2.ch.ne
      refine .inr (.inr ⟨_, _, g1, g2, ids, js, e1, e2, fun e => hdis _ m1 (by rw [e]; exact m2), c1.row p2.ok.big, c2.row d1.ok.big, rowG_no (isRec_free (d1.now _ m1)), ?_⟩)
      have x1 := p1.cnt
      have x2 := p2.cnt
      have x3 := d1.cnt
      have x4 := d2.cnt
      have x5 := p1.n
      have x6 := p2.n
      omega
structure TSt where
  i : Nat
  H : HMap
  A : AMap
  gs : List (List UInt8)
structure TV (y : TSt) : Prop where
  z : HZ y.H y.A 203 200 202 210 110 10 1 y.gs
  g : GV 100 y.gs
  i : y.i ≤ 20
def FrT (ops : List OpH) (s : List UInt8) (y : TSt) : St :=
  over [(0, .c (.d (.sl (opsH ops)))), (1, pD (dS s)), (5, .c (.ptr 202 0)), (6, .c (.ptr 210 0)), (7, pD (.lit (.int .i64 y.i)))] [] y.H y.A
theorem hz_ptr {H : HMap} {A : AMap} {k did pid hid N logs T : Nat} {gs : List (List UInt8)} (h : HZ H A k did pid hid N logs T gs) (hh : 200 ≤ hid) {X Y : AMap} : PV.wk (hOver [] H) X Y (.c (.ptr hid 0)) (.c (.ptr hid 0)) = True ∧ PV.wk (hOver [] H) X Y (.c (.ptr pid 0)) (.c (.ptr pid 0)) = True := by
  obtain ⟨_, _, h1, h2, _⟩ := h.nums hh
  exact ⟨eq_true (wkP_ptr (by show H hid ≠ none; exact h1)), eq_true (wkP_ptr (by show H pid ≠ none; exact h2))⟩
theorem eqfH {a b : Int} (h : a ≠ b) : (a == b) = false := by simpa using h
set_option maxRecDepth 8000 in
set_option maxHeartbeats 64000000 in
theorem Try.kHeapTwice (ops : List OpH) (s : List UInt8) : PureOK Try.prog 6 [.c (.d (.sl (opsH ops))), pD (dS s)] (.one (.d (.lit (.bool true)))) := by
  have e0 := Try.kKnown
  obtain ⟨H1, A1, e1, P1⟩ := Try.zBegin 100 (by omega) (by omega)
  have hr := openG_new (n := 100) (by omega) (by omega)
  have hll := opsH_len ops
  have P1 : HZ H1 A1 203 200 202 210 110 10 1 (openG (newG 100)) := P1
  have G1 : GV 100 (openG (newG 100)) := ⟨hr.ok, hr.len, hr.one⟩
  generalize openG (newG 100) = g1 at *
  have nu := fun {H : HMap} {A : AMap} {gs : List (List UInt8)} (h : HZ H A 203 200 202 210 110 10 1 gs) => h.nums (by omega)
  have ab : ∀ {H : HMap} {A : AMap} {gs : List (List UInt8)}, HZ H A 203 200 202 210 110 10 1 gs → Above (0 + 1000) H A := fun h => Above_mono (nu h).2.1 (by omega)
  refine pure_eff rfl (effr_ok (E := envOf Try.prog [8, 9, 13, 10, 12, 14] 0 [] []) (envOf_ok Try.mixed) Try.func6 rfl Try.call6 (by kernel_rfl) (by exact Nat.le_of_ble_eq_true rfl) (fun hab => ?_))
  have l1 := (nu P1).2.2.2.2.2
  by_cases hs : s.length ≤ 1000
  · have f0 : ((1000 : Int) < (s.length : Int)) = False := eq_false (by omega)
    repeat' (first
     | with_reducible first | refine VC_seq fun K hK => ?_ | refine W_region ?_ | refine VC_block ?_ | refine VC_scope ?_ | refine VC_if ?_ | refine VC_skip ?_ | refine VC_exit ?_ | refine VC_ret ?_
     | (with_reducible first | refine G_not (fun h => ?_) (fun h => ?_) | refine G_cases (fun h => ?_) (fun h => ?_)) <;> (try simp only [h])
     | refine C_call rfl e1 rfl (Above_mono hab (by omega)) ?_
     | with_reducible first | (refine hK _ ?_; clear hK K) | (clear hK K; refine hK _ ?_; clear hK K) | (clear hK K; clear hK K; refine hK _ ?_; clear hK K) | (clear hK K; clear hK K; clear hK K; refine hK _ ?_; clear hK K)
     | (with_reducible refine todo ?_; simp +decide only [go_sem, f0]))
    have rest : ∀ y : TSt, TV y → ∀ S : St, S.H = y.H → S.A = y.A → S.ρ 1 = pD (dS s) → S.ρ 5 = .c (.ptr 202 0) → S.ρ 6 = .c (.ptr 210 0) → K S := by
      rintro ⟨i, H, A, gs⟩ ⟨P, hg, hi⟩ ⟨ρ, HS, AS⟩ rfl rfl r1 r5 r6
      simp only at P hg hi r1 r5 r6
      refine hK _ ?_
      clear hK
      have eF := Try.zFrees P
      have l0 := (nu P).2.2.2.2.2
      have nl : needI (s.length : Int) = ((need s.length : Nat) : Int) := needI_nat (by omega)
      have z3 : ((3 : Int) != 0) = true := rfl
      have nb : need s.length ≤ 10 := by unfold need; omega
      have c1 : IntKind.i64.wrap ((2 : Int) * ((need s.length : Nat) : Int)) = ((2 * need s.length : Nat) : Int) := by rw [Go.IntWalk.i64_in _ (by omega)]; omega
      rcases twice_ok hg (s := s) (by omega) with ⟨x1, x2⟩ | ⟨a, g1, x1, x2, x3, x4⟩ | ⟨a, b, g1, g2, p, q, x1, x2, x3, x4, x5, x6, x7⟩
      · obtain ⟨H2, A2, e2, P2⟩ := Try.zPut P (by omega) s
        rw [x2] at e2 P2
        obtain ⟨H3, A3, e3, P3⟩ := Try.zPut P2 (by omega) s
        rw [x2] at e3 P3
        have eN := Try.zNeed P3 (s.length : Int)
        rw [nl] at eN
        have l3 := (nu P3).2.2.2.2.2
        unfold putV at e2 e3
        simp only at e2 e3
        have c2 : ((frG gs : Int) < ((2 * need s.length : Nat) : Int)) = True := eq_true (by omega)
        repeat' (first
         | with_reducible first | refine VC_seq fun K hK => ?_ | refine W_region ?_ | refine VC_block ?_ | refine VC_scope ?_ | refine VC_if ?_ | refine VC_skip ?_ | refine VC_exit ?_ | refine VC_ret ?_
         | (with_reducible first | refine G_not (fun h => ?_) (fun h => ?_) | refine G_cases (fun h => ?_) (fun h => ?_)) <;> (try simp only [h])
         | refine C_call rfl eF rfl (ab P) ?_
         | refine C_call rfl e2 rfl (ab P) ?_
         | refine C_call rfl e3 rfl (ab P2) ?_
         | refine C_call rfl eN rfl (ab P3) ?_
         | refine C_pure e0 rfl rfl (fun k => (l3 _ (Nat.le_of_ble_eq_true rfl)).2 k) ?_
         | with_reducible first | (refine hK _ ?_; clear hK K) | (clear hK K; refine hK _ ?_; clear hK K) | (clear hK K; clear hK K; refine hK _ ?_; clear hK K) | (clear hK K; clear hK K; clear hK K; refine hK _ ?_; clear hK K)
         | (with_reducible refine todo ?_; simp +decide only [go_sem, r1, r5, r6, z3, c1, c2]))
        exact RetR_same rfl (by simp +decide only [go_sem]) True.intro (fun i cs c h => by cases h) (fun i h => (h rfl).elim) (fun i h => (h rfl).elim)
      · obtain ⟨H2, A2, e2, P2⟩ := Try.zPut P (by omega) s
        rw [x1] at e2 P2
        obtain ⟨H3, A3, e3, P3⟩ := Try.zPut P2 (by omega) s
        rw [x4] at e3 P3
        have eN := Try.zNeed P3 (s.length : Int)
        rw [nl] at eN
        have l3 := (nu P3).2.2.2.2.2
        unfold putV at e2 e3
        simp only at e2 e3
        have c2 : ((frG gs : Int) < ((2 * need s.length : Nat) : Int)) = True := eq_true (by omega)
        repeat' (first
         | with_reducible first | refine VC_seq fun K hK => ?_ | refine W_region ?_ | refine VC_block ?_ | refine VC_scope ?_ | refine VC_if ?_ | refine VC_skip ?_ | refine VC_exit ?_ | refine VC_ret ?_
         | (with_reducible first | refine G_not (fun h => ?_) (fun h => ?_) | refine G_cases (fun h => ?_) (fun h => ?_)) <;> (try simp only [h])
         | refine C_call rfl eF rfl (ab P) ?_
         | refine C_call rfl e2 rfl (ab P) ?_
         | refine C_call rfl e3 rfl (ab P2) ?_
         | refine C_call rfl eN rfl (ab P3) ?_
         | refine C_pure e0 rfl rfl (fun k => (l3 _ (Nat.le_of_ble_eq_true rfl)).2 k) ?_
         | with_reducible first | (refine hK _ ?_; clear hK K) | (clear hK K; refine hK _ ?_; clear hK K) | (clear hK K; clear hK K; refine hK _ ?_; clear hK K) | (clear hK K; clear hK K; clear hK K; refine hK _ ?_; clear hK K)
         | (with_reducible refine todo ?_; simp +decide only [go_sem, r1, r5, r6, zne, z3, c1, c2]))
        exact RetR_same rfl (by simp +decide only [go_sem]) True.intro (fun i cs c h => by cases h) (fun i h => (h rfl).elim) (fun i h => (h rfl).elim)
      · obtain ⟨H2, A2, e2, P2⟩ := Try.zPut P (by omega) s
        rw [x1] at e2 P2
        obtain ⟨H3, A3, e3, P3⟩ := Try.zPut P2 (by omega) s
        rw [x2] at e3 P3
        obtain ⟨H4, A4, e4, P4⟩ := Try.zDrop P3 (by omega) ((a : Nat) : Int)
        rw [x4] at e4
        have e5 := Try.zGet P4 ((b : Nat) : Int)
        rw [x5] at e5
        have e6 := Try.zGet P4 ((a : Nat) : Int)
        rw [x6] at e6
        obtain ⟨H5, A5, e7, P5⟩ := Try.zDrop P4 (by omega) ((b : Nat) : Int)
        rw [x5] at e7
        have e8 := Try.zFrees P5
        rw [x7] at e8
        have l5 := (nu P5).2.2.2.2.2
        unfold putV at e2 e3
        unfold getV at e5 e6
        simp only at e2 e3 e4 e5 e6 e7
        have u1 : ((a : Int) != (b : Int)) = true := by rw [bne_iff_ne]; omega
        have u2 : (s == s) = true := beq_self_eq_true _
        have u3 : ((frG gs : Int) == (frG gs : Int)) = true := beq_self_eq_true _
        generalize dropG (dropG g2 (a : Nat)) (b : Nat) = g4 at *
        generalize dropG g2 (a : Nat) = g3 at *
        generalize frG gs = fr at *
        repeat' (first
         | with_reducible first | refine VC_seq fun K hK => ?_ | refine W_region ?_ | refine VC_block ?_ | refine VC_scope ?_ | refine VC_if ?_ | refine VC_skip ?_ | refine VC_exit ?_ | refine VC_ret ?_
         | (with_reducible first | refine G_not (fun h => ?_) (fun h => ?_) | refine G_cases (fun h => ?_) (fun h => ?_)) <;> (try simp only [h])
         | refine C_call rfl eF rfl (ab P) ?_
         | refine C_call rfl e2 rfl (ab P) ?_
         | refine C_call rfl e3 rfl (ab P2) ?_
         | refine C_call rfl e4 rfl (ab P3) ?_
         | refine C_call rfl e5 rfl (ab P4) ?_
         | refine C_call rfl e6 rfl (ab P4) ?_
         | refine C_call rfl e7 rfl (ab P4) ?_
         | refine C_call rfl e8 rfl (ab P5) ?_
         | refine C_pure e0 rfl rfl (fun k => (l5 _ (Nat.le_of_ble_eq_true rfl)).2 k) ?_
         | with_reducible first | (refine hK _ ?_; clear hK K) | (clear hK K; refine hK _ ?_; clear hK K) | (clear hK K; clear hK K; refine hK _ ?_; clear hK K) | (clear hK K; clear hK K; clear hK K; refine hK _ ?_; clear hK K)
         | (with_reducible refine todo ?_; simp +decide only [go_sem, r1, r5, r6, zne, u1, u2, u3]))
        exact RetR_same rfl (by simp +decide only [go_sem]) True.intro (fun i cs c h => by cases h) (fun i h => (h rfl).elim) (fun i h => (h rfl).elim)
    refine VC_while (ι := TSt) TV (FrT ops s) (fun y => 20 - y.i) ⟨0, H1, A1, g1⟩ ⟨P1, G1, by show 0 ≤ 20; omega⟩ ?_ ?_
    · have w := fun {X Y : AMap} => hz_ptr P1 (by omega) (X := X) (Y := Y)
      unfold FrT
      refine Weak_overG (nu P1).1 (fun _ _ => rfl) rfl ?_ ?_ (fun i hi => (hi rfl).elim) (fun τ h => (h rfl).elim)
      · simp +decide only [go_sem, w]
      · simp +decide only [go_sem]
    · rintro ⟨i, H, A, gs⟩ hy
      have hrest := rest _ hy
      obtain ⟨P, hg, hi⟩ := hy
      simp only at P hg hi hrest
      clear hK rest
      have hnx : IntKind.i64.wrap ((i : Int) + 1) = ((i + 1 : Nat) : Int) := by rw [Go.IntWalk.i64_in _ (by omega)]; omega
      unfold FrT
      have nxt : ∀ {H' : HMap} {A' : AMap} {gs' : List (List UInt8)} {S : St}, i < 20 → HZ H' A' 203 200 202 210 110 10 1 gs' → GV 100 gs' → S.H = H' → S.A = A' → S.ρ 0 = .c (.d (.sl (opsH ops))) → S.ρ 1 = pD (dS s) → S.ρ 5 = .c (.ptr 202 0) → S.ρ 6 = .c (.ptr 210 0) → S.ρ 7 = pD (.lit (.int .i64 (i + 1 : Nat))) →
          ∃ j : {y : TSt // TV y}, Weak noH noA S (FrT ops s j.1) ∧ 20 - j.1.i < 20 - i := fun {H'} {A'} {gs'} {S} hi2 hx hg' y1 y2 y3 y4 y5 y6 y7 => by
        refine ⟨⟨⟨i + 1, H', A', gs'⟩, ⟨hx, hg', by show i + 1 ≤ 20; omega⟩⟩, ?_, by show 20 - (i + 1) < 20 - i; omega⟩
        have w := fun {X Y : AMap} => hz_ptr hx (by omega) (X := X) (Y := Y)
        unfold FrT
        refine Weak_overG (nu hx).1 (fun j _ => by rw [y1]) y2 ?_ ?_ (fun i hi => (hi rfl).elim) (fun τ h => (h rfl).elim)
        · simp +decide only [go_sem, w, y3, y4, y5, y6, y7]
        · simp +decide only [go_sem]
      by_cases q1 : i < ops.length
      · have f1 : ((i : Int) < ((opsH ops).length : Int)) = True := eq_true (by rw [hll]; omega)
        by_cases q2 : i < 20
        · have f2 : ((i : Int) < 20) = True := eq_true (by omega)
          have hgt := opsH_get q1
          generalize ops[i] = o at hgt
          by_cases q3 : o.kind = 0
          · have f3 : (o.kind == 0) = true := by rw [q3]; rfl
            by_cases q4 : o.s.length ≤ 250
            · have f4 : ((o.s.length : Int) ≤ 250) = True := eq_true (by omega)
              obtain ⟨H2, A2, e2, P2⟩ := Try.zPut P (by omega) o.s
              have g2 := hg.put o.s
              unfold putV at e2
              have abP := ab P
              repeat' (first
               | with_reducible first | refine VC_seq fun K hK => ?_ | refine W_region ?_ | refine VC_block ?_ | refine VC_scope ?_ | refine VC_if ?_ | refine VC_skip ?_ | refine VC_exit ?_ | refine VC_ret ?_
               | (with_reducible first | refine G_not (fun h => ?_) (fun h => ?_) | refine G_cases (fun h => ?_) (fun h => ?_)) <;> (try simp only [h])
               | refine C_call rfl e2 rfl abP ?_
               | with_reducible first | (refine hK _ ?_; clear hK K) | (clear hK K; refine hK _ ?_; clear hK K) | (clear hK K; clear hK K; refine hK _ ?_; clear hK K) | (clear hK K; clear hK K; clear hK K; refine hK _ ?_; clear hK K)
               | (with_reducible refine todo ?_; simp +decide only [go_sem, f1, f2, f3, f4, hgt, hnx]))
              exact nxt q2 P2 g2 rfl rfl rfl rfl rfl rfl rfl
            · have f4 : ((o.s.length : Int) ≤ 250) = False := eq_false (by omega)
              repeat' (first
               | with_reducible first | refine VC_seq fun K hK => ?_ | refine W_region ?_ | refine VC_block ?_ | refine VC_scope ?_ | refine VC_if ?_ | refine VC_skip ?_ | refine VC_exit ?_ | refine VC_ret ?_
               | (with_reducible first | refine G_not (fun h => ?_) (fun h => ?_) | refine G_cases (fun h => ?_) (fun h => ?_)) <;> (try simp only [h])
               | with_reducible first | (refine hK _ ?_; clear hK K) | (clear hK K; refine hK _ ?_; clear hK K) | (clear hK K; clear hK K; refine hK _ ?_; clear hK K) | (clear hK K; clear hK K; clear hK K; refine hK _ ?_; clear hK K)
               | (with_reducible refine todo ?_; simp +decide only [go_sem, f1, f2, f3, f4, hgt, hnx]))
              exact nxt q2 P hg rfl rfl rfl rfl rfl rfl rfl
          · have f3 : (o.kind == 0) = false := eqfH q3
            repeat' (first
             | with_reducible first | refine VC_seq fun K hK => ?_ | refine W_region ?_ | refine VC_block ?_ | refine VC_scope ?_ | refine VC_if ?_ | refine VC_skip ?_ | refine VC_exit ?_ | refine VC_ret ?_
             | (with_reducible first | refine G_not (fun h => ?_) (fun h => ?_) | refine G_cases (fun h => ?_) (fun h => ?_)) <;> (try simp only [h])
             | with_reducible first | (refine hK _ ?_; clear hK K) | (clear hK K; refine hK _ ?_; clear hK K) | (clear hK K; clear hK K; refine hK _ ?_; clear hK K) | (clear hK K; clear hK K; clear hK K; refine hK _ ?_; clear hK K)
             | (with_reducible refine todo ?_; simp +decide only [go_sem, f1, f2, f3, hgt, hnx]))
            exact nxt q2 P hg rfl rfl rfl rfl rfl rfl rfl
        · have f2 : ((i : Int) < 20) = False := eq_false (by omega)
          repeat' (first
           | with_reducible first | refine VC_seq fun K hK => ?_ | refine W_region ?_ | refine VC_block ?_ | refine VC_scope ?_ | refine VC_if ?_ | refine VC_skip ?_ | refine VC_exit ?_ | refine VC_ret ?_
           | (with_reducible first | refine G_not (fun h => ?_) (fun h => ?_) | refine G_cases (fun h => ?_) (fun h => ?_)) <;> (try simp only [h])
           | with_reducible first | (refine hK _ ?_; clear hK K) | (clear hK K; refine hK _ ?_; clear hK K) | (clear hK K; clear hK K; refine hK _ ?_; clear hK K) | (clear hK K; clear hK K; clear hK K; refine hK _ ?_; clear hK K)
           | (with_reducible refine todo ?_; simp +decide only [go_sem, f1, f2]))
          exact hrest _ rfl rfl rfl rfl rfl
      · have f1 : ((i : Int) < ((opsH ops).length : Int)) = False := eq_false (by rw [hll]; omega)
        repeat' (first
         | with_reducible first | refine VC_seq fun K hK => ?_ | refine W_region ?_ | refine VC_block ?_ | refine VC_scope ?_ | refine VC_if ?_ | refine VC_skip ?_ | refine VC_exit ?_ | refine VC_ret ?_
         | (with_reducible first | refine G_not (fun h => ?_) (fun h => ?_) | refine G_cases (fun h => ?_) (fun h => ?_)) <;> (try simp only [h])
         | with_reducible first | (refine hK _ ?_; clear hK K) | (clear hK K; refine hK _ ?_; clear hK K) | (clear hK K; clear hK K; refine hK _ ?_; clear hK K) | (clear hK K; clear hK K; clear hK K; refine hK _ ?_; clear hK K)
         | (with_reducible refine todo ?_; simp +decide only [go_sem, f1]))
        exact hrest _ rfl rfl rfl rfl rfl
  · have f0 : ((1000 : Int) < (s.length : Int)) = True := eq_true (by omega)
    repeat' (first
     | with_reducible first | refine VC_seq fun K hK => ?_ | refine W_region ?_ | refine VC_block ?_ | refine VC_scope ?_ | refine VC_if ?_ | refine VC_skip ?_ | refine VC_exit ?_ | refine VC_ret ?_
     | (with_reducible first | refine G_not (fun h => ?_) (fun h => ?_) | refine G_cases (fun h => ?_) (fun h => ?_)) <;> (try simp only [h])
     | refine C_call rfl e1 rfl (Above_mono hab (by omega)) ?_
     | refine C_pure e0 rfl rfl (fun k => (l1 _ (Nat.le_of_ble_eq_true rfl)).2 k) ?_
     | with_reducible first | (refine hK _ ?_; clear hK K) | (clear hK K; refine hK _ ?_; clear hK K) | (clear hK K; clear hK K; refine hK _ ?_; clear hK K) | (clear hK K; clear hK K; clear hK K; refine hK _ ?_; clear hK K)
     | (with_reducible refine todo ?_; simp +decide only [go_sem, f0]))
    exact RetR_same rfl (by simp +decide only [go_sem]) True.intro (fun i cs c h => by cases h) (fun i h => (h rfl).elim) (fun i h => (h rfl).elim)
end Go.Proofs

/-
  HeapRoots: what SetRoot makes of the pages; Commit, Crash, Open beside a heap.
-/

namespace Go.Proofs
open Go.PW
/-- Pages in which a root lies, or none. -/
structure RG (gs : List (List UInt8)) : Prop where
  ok : GOK gs
  len : gs.length = 40
  one : isFG gs 1 = false
  p82 : (pgAt gs 1).getD 0 0 = 82
  root : (rootG gs = 0 ∧ frG gs = 38) ∨ ∃ ids s, Chain gs ids s ∧ rootG gs = ids.headD 0 ∧ frG gs + ids.length = 38 ∧ ids.length ≤ 4
theorem rootP {id : Nat} (h : id < 65536) : (pad (82 :: two id)).getD 0 0 = 82 ∧ numB ((pad (82 :: two id)).getD 1 0) ((pad (82 :: two id)).getD 2 0) = id := by
  have hl : (82 :: two id).length = 3 := rfl
  refine ⟨by rw [pad_get (by omega)]; rfl, ?_⟩
  rw [pad_get (by omega), pad_get (by omega)]
  exact num_two h
theorem setRoot_ok {gs : List (List UInt8)} (h : RG gs) {s : List UInt8} (hs : s.length ≤ 500) :
    ∃ g2 ids, setRootG gs s = (0, g2) ∧ RG g2 ∧ Chain g2 ids s ∧ rootG g2 = ids.headD 0 ∧ frG g2 + need s.length = 38 ∧ ids.headD 0 ≠ 0 ∧ (rowG (putG gs s).2.2 ((rootG (putG gs s).2.2 : Nat) : Int)).1.length ≤ 4 := by
  have hn : need s.length ≤ 4 := by unfold need; omega
  have h40 := h.len
  have hfr : 34 ≤ frG gs := by
    rcases h.root with ⟨_, h1⟩ | ⟨ids, s0, _, _, h1, h2⟩ <;> omega
  obtain ⟨ids, g1, e1, p1⟩ := putG_ok h.ok h.one (s := s) (by omega) (by omega)
  have h1n : 1 ∉ ids := fun hm => by have := p1.was 1 hm; rw [h.one] at this; cases this
  have r1 : rootG g1 = rootG gs := by unfold rootG; rw [p1.pg 1 (by omega) h1n]
  have hhd : ids.headD 0 ∈ ids := by
    have := p1.ch.ne
    cases ids with
    | nil => exact (this rfl).elim
    | cons a r => exact List.mem_cons_self ..
  obtain ⟨m2, m3, _⟩ := p1.ch.mem _ hhd
  have big := p1.ok.big
  obtain ⟨q1, q2⟩ := rootP (id := ids.headD 0) (by omega)
  have hpl : (pad (82 :: two (ids.headD 0))).length = 128 := pad_len (by show 3 ≤ 128; omega)
  have one1 : isFG g1 1 = false := by rw [p1.bit 1 (by omega) h1n]; exact h.one
  -- what is true of the pages behind Drop
  have fin : ∀ g2 : List (List UInt8), GOK g2 → g2.length = 40 → isFG g2 1 = false → Chain g2 ids s → frG g2 + need s.length = 38 →
      RG (g2.set 1 (pad (82 :: two (ids.headD 0)))) ∧ Chain (g2.set 1 (pad (82 :: two (ids.headD 0)))) ids s ∧ rootG (g2.set 1 (pad (82 :: two (ids.headD 0)))) = ids.headD 0 ∧ frG (g2.set 1 (pad (82 :: two (ids.headD 0)))) + need s.length = 38 := fun g2 ok l2 o2 c2 f2 => by
    have pg1 : pgAt (g2.set 1 (pad (82 :: two (ids.headD 0)))) 1 = pad (82 :: two (ids.headD 0)) := by rw [pgAt_set _ _ _ _ (by omega), if_pos rfl]
    have cc : Chain (g2.set 1 (pad (82 :: two (ids.headD 0)))) ids s := c2.mono List.length_set fun p hp => by
      obtain ⟨a, b, c⟩ := c2.mem p hp
      exact ⟨by rw [pgAt_set _ _ _ _ (by omega), if_neg (by omega)], isFG_set (by omega) (by omega) p⟩
    have rr : rootG (g2.set 1 (pad (82 :: two (ids.headD 0)))) = ids.headD 0 := by unfold rootG; rw [pg1, q2]
    have ff : frG (g2.set 1 (pad (82 :: two (ids.headD 0)))) = frG g2 := by
      unfold frG
      rw [List.length_set, pgAt_set _ _ _ _ (by omega), if_neg (by omega)]
    have nn := p1.n
    exact ⟨⟨ok.set (by omega) hpl, by rw [List.length_set]; exact l2, by rw [isFG_set (by omega) (by omega)]; exact o2, by rw [pg1]; exact q1, .inr ⟨ids, s, cc, rr, by omega, by omega⟩⟩, cc, rr, by omega⟩
  have hc := p1.cnt
  rcases h.root with ⟨z1, z2⟩ | ⟨ids0, s0, c0, z1, z2, z3⟩
  · obtain ⟨f1, f2, f3, f4⟩ := fin g1 p1.ok (by rw [p1.len]; exact h40) one1 p1.ch (by omega)
    refine ⟨_, ids, ?_, f1, f2, f3, f4, by omega, ?_⟩
    · unfold setRootG
      rw [e1]
      simp only
      rw [if_neg (by simp), r1, z1, dropG_0]
    · rw [e1]
      simp only
      rw [r1, z1, rowG_no (isRec_0 g1)]
      exact Nat.zero_le _
  · have hdis : ∀ q ∈ ids0, q ∉ ids := fun q h1 h2 => by
      have := p1.was q h2
      rw [(c0.mem q h1).2.2] at this
      cases this
    have c1 : Chain g1 ids0 s0 := c0.mono p1.len fun q hq => by
      obtain ⟨a, b, c⟩ := c0.mem q hq
      exact ⟨p1.pg q (by omega) (hdis q hq), p1.bit q b (hdis q hq)⟩
    have d1 := dropG_ok p1.ok c1
    have c2 : Chain (dropG g1 (ids0.headD 0 : Nat)) ids s := p1.ch.mono d1.len fun q hq => by
      obtain ⟨a, b, c⟩ := p1.ch.mem q hq
      exact ⟨d1.pg q (by omega), d1.bit q b fun hm => hdis q hm hq⟩
    have hl2 : (dropG g1 (ids0.headD 0 : Nat)).length = 40 := by rw [d1.len, p1.len]; exact h40
    have o2 : isFG (dropG g1 (ids0.headD 0 : Nat)) 1 = false := by
      rw [d1.bit 1 (by rw [p1.len]; omega) fun hm => by have := (c0.mem 1 hm).1; omega]
      exact one1
    have hdc := d1.cnt
    obtain ⟨f1, f2, f3, f4⟩ := fin _ d1.ok hl2 o2 c2 (by omega)
    refine ⟨_, ids, ?_, f1, f2, f3, f4, by omega, ?_⟩
    · unfold setRootG
      rw [e1]
      simp only
      rw [if_neg (by simp), r1, z1]
    · rw [e1]
      simp only
      rw [r1, z1, c1.row p1.ok.big]
      exact z3
/-- How many of the first pages are changed. -/
def cntK (m : List (Int × List UInt8)) : Nat → Nat
  | 0 => 0
  | k + 1 => cntK m k + if (findN (k : Int) m 0).isSome = true then 1 else 0
theorem recK_cnt {m : List (Int × List UInt8)} (hlen : ∀ k r, findN k m 0 = some r → r.2.length ≤ 128) : ∀ k, (recK m k).length ≤ 11 + 150 * cntK m k
  | 0 => by
    have := uintB_len m.length
    unfold recK
    omega
  | k + 1 => by
    have ih := recK_cnt hlen k
    unfold recK cntK
    cases hf : findN (k : Int) m 0 with
    | none => simp only [Option.isSome_none]; rw [if_neg (by simp)]; exact ih
    | some r =>
      simp only [Option.isSome_some]
      rw [if_pos True.intro]
      have h1 := uintB_len k
      have h2 := bareL_len r.2
      have h3 := hlen _ _ hf
      have h4 := uintB_len (bareL r.2).length
      rw [List.length_append, List.length_append]
      unfold textB
      rw [List.length_append]
      omega
theorem findN_some {k : Int} {m : List (Int × List UInt8)} : (findN k m 0).isSome = (valR k m).isSome := by
  rw [← valR_find]
  cases findN k m 0 <;> rfl
theorem cntK_eq (m : List (Int × List UInt8)) : ∀ n, cntK m n = cntP (fun j => (valR (j : Int) m).isSome) n
  | 0 => rfl
  | n + 1 => by
    unfold cntK cntP
    rw [cntK_eq m n, findN_some]
theorem cntP_or {p q : Nat → Bool} : ∀ n, cntP (fun j => p j || q j) n ≤ cntP p n + cntP q n
  | 0 => Nat.le_refl _
  | n + 1 => by
    have := cntP_or (p := p) (q := q) n
    unfold cntP
    cases p n <;> cases q n <;> simp <;> omega
theorem cntP_one (k : Int) : ∀ n, cntP (fun j => decide (k = (j : Int))) n ≤ if 0 ≤ k ∧ k < (n : Int) then 1 else 0
  | 0 => by
    unfold cntP
    exact Nat.zero_le _
  | n + 1 => by
    have := cntP_one k n
    unfold cntP
    by_cases e : k = (n : Int)
    · rw [if_neg (by omega)] at this
      rw [if_pos (by simpa using e), if_pos (by omega)]
      omega
    · rw [if_neg (by simpa using e)]
      split at this
      · rw [if_pos (by omega)]; omega
      · omega
theorem cntK_le : ∀ (m : List (Int × List UInt8)) (n : Nat), cntK m n ≤ m.length
  | [], n => by
    rw [cntK_eq]
    have : cntP (fun j => (valR (j : Int) []).isSome) n = 0 := by
      induction n with
      | zero => rfl
      | succ n ih => unfold cntP; rw [ih]; rfl
    omega
  | p :: m, n => by
    have ih := cntK_le m n
    rw [cntK_eq] at ih ⊢
    have e : (fun j : Nat => (valR (j : Int) (p :: m)).isSome) = fun j : Nat => decide (p.1 = (j : Int)) || (valR (j : Int) m).isSome := by
      funext j
      show (if p.1 = (j : Int) then some p.2 else valR (j : Int) m).isSome = _
      by_cases h : p.1 = (j : Int)
      · rw [if_pos h, decide_eq_true h]; rfl
      · rw [if_neg h, decide_eq_false h, Bool.false_or]
    rw [e]
    have h1 := cntP_or (p := fun j => decide (p.1 = (j : Int))) (q := fun j => (valR (j : Int) m).isSome) n
    have h2 := cntP_one p.1 n
    simp only [List.length_cons]
    split at h2 <;> omega
section hy
variable {H : HMap} {A : AMap} {k did pid hid N logs T m : Nat} {gs : List (List UInt8)}
/-- A commit that fits. -/
theorem Try.yCommit (off : Nat) (h : PY H A k did pid N logs T m gs) (hk : k + 4 ≤ off) (hT : T < 1000000) (hm : m ≤ 24) (hl : 40 ≤ logs) :
    ∃ k' T' H' A', k' ≤ k + 3 ∧ k ≤ k' ∧ T' ≤ T + 1 ∧ EffOK Try.prog 21 off H A [.c (.ptr pid 0)] (pD (.lit (.int .i64 0))) H' A' ∧ PY H' A' k' did pid N logs T' 0 gs ∧ (∀ j, H j ≠ none → H' j ≠ none) ∧ ∀ τ, A τ ≠ none → A' τ ≠ none := by
  obtain ⟨ch, b, hx, hcm, hgl, hg⟩ := h
  obtain ⟨_, _, _, _, _, _, _, _, _, _, _, _, _, _, _, ks, _⟩ := hx.nums
  by_cases h0 : ch = []
  · subst h0
    exact ⟨k, T, H, A, by omega, Nat.le_refl _, by omega, Try.pCommit0 off hx rfl, ⟨[], b, hx, Nat.le_refl _, hgl, hg⟩, fun _ h => h, fun _ h => h⟩
  · have h1 := recK_cnt ks.find (N - logs)
    have h2 := cntK_le ch (N - logs)
    have hn : needN (recK ch (N - logs)).length ≤ logs - 2 := by
      unfold needN
      omega
    obtain ⟨H', A', e, hx', kh, ka⟩ := Try.pCommit off hx hk hT h0 (by omega) hn
    exact ⟨k + 3, T + 1, H', A', by omega, by omega, by omega, e, ⟨[], _, hx', Nat.le_refl _, hgl, fun j hj => by rw [ct_nil]; exact hg j hj⟩, kh, ka⟩
end hy
end Go.Proofs

/-
  HeapKeeps, in plain words: many records, and a root, beside one another.
-/

namespace Go.Proofs
open Go.PW
abbrev Rc := List Nat × List UInt8
/-- How many pages so many records have. -/
def sumN (f : Nat → Rc) : Nat → Nat
  | 0 => 0
  | n + 1 => sumN f n + (f n).1.length
theorem sumN_same {f f' : Nat → Rc} : ∀ {n : Nat}, (∀ i, i < n → f' i = f i) → sumN f' n = sumN f n
  | 0, _ => rfl
  | n + 1, h => by
    unfold sumN
    rw [sumN_same (n := n) (fun i hi => h i (by omega)), h n (by omega)]
def setF (f : Nat → Rc) (k : Nat) (v : Rc) (i : Nat) : Rc := if i = k then v else f i
theorem sumN_set {f : Nat → Rc} {k : Nat} {v : Rc} : ∀ {n : Nat}, k < n → sumN (setF f k v) n + (f k).1.length = sumN f n + v.1.length
  | 0, h => by omega
  | n + 1, h => by
    unfold sumN
    by_cases e : k = n
    · subst e
      rw [sumN_same (f := f) (f' := setF f k v) (n := k) fun i hi => if_neg (by omega), show setF f k v k = v from if_pos rfl]
      omega
    · have ih := sumN_set (f := f) (v := v) (k := k) (n := n) (by omega)
      rw [show setF f k v n = f n from if_neg (Ne.symm e)]
      omega
/-- Records that lie beside one another: 'r' are the root's pages. -/
structure KG (gs : List (List UInt8)) (f : Nat → Rc) (n : Nat) (r : List Nat) : Prop where
  ok : GOK gs
  len : gs.length = 100
  one : isFG gs 1 = false
  ch : ∀ i, i < n → Chain gs (f i).1 (f i).2 ∧ (f i).1.length = need (f i).2.length
  rt : (rootG gs = 0 ∧ r = []) ∨ ∃ s, Chain gs r s ∧ rootG gs = r.headD 0
  dj : ∀ i j, i < n → j < n → i ≠ j → ∀ q ∈ (f i).1, q ∉ (f j).1
  dr : ∀ i, i < n → ∀ q ∈ (f i).1, q ∉ r
  cnt : frG gs + sumN f n + r.length = 98
theorem KG.new : KG (openG (newG 100)) (fun _ => ([], [])) 0 [] := by
  have hr := openG_new (n := 100) (by omega) (by omega)
  exact ⟨hr.ok, hr.len, hr.one, fun i hi => by omega, .inl ⟨hr.root.2, rfl⟩, fun i j hi => by omega, fun i hi => by omega, by rw [hr.cnt]; rfl⟩
/-- What is free is in no record. -/
theorem KG.free {gs : List (List UInt8)} {f : Nat → Rc} {n : Nat} {r : List Nat} (h : KG gs f n r) {q : Nat} (hq : isFG gs q = true) : (∀ i, i < n → q ∉ (f i).1) ∧ q ∉ r := by
  refine ⟨fun i hi hm => ?_, fun hm => ?_⟩
  · have := ((h.ch i hi).1.mem q hm).2.2
    rw [hq] at this; cases this
  · rcases h.rt with ⟨_, h0⟩ | ⟨s, h0, _⟩
    · rw [h0] at hm; cases hm
    · have := (h0.mem q hm).2.2
      rw [hq] at this; cases this
/-- A record is put. -/
theorem KG.put {gs : List (List UInt8)} {f : Nat → Rc} {n : Nat} {r : List Nat} (h : KG gs f n r) {s : List UInt8} (hs : s.length ≤ 100000) :
    putG gs s = (0, 3, gs) ∨ ∃ ids g', putG gs s = (ids.headD 0, 0, g') ∧ KG g' (setF f n (ids, s)) (n + 1) r := by
  by_cases hf : frG gs < need s.length
  · exact .inl (putG_full hs hf)
  · obtain ⟨ids, g', e, p⟩ := putG_ok h.ok h.one hs (by omega)
    refine .inr ⟨ids, g', e, ?_⟩
    have h100 := h.len
    have hni : ∀ q ∈ ids, (∀ i, i < n → q ∉ (f i).1) ∧ q ∉ r := fun q hq => h.free (p.was q hq)
    have keep : ∀ {l : List Nat} {t : List UInt8}, Chain gs l t → (∀ q ∈ l, q ∉ ids) → Chain g' l t := fun {l} {t} hc hn => hc.mono p.len fun q hq => by
      obtain ⟨a, b, c⟩ := hc.mem q hq
      exact ⟨p.pg q (by omega) (hn q hq), p.bit q b (hn q hq)⟩
    have h1n : 1 ∉ ids := fun hm => by have := p.was 1 hm; rw [h.one] at this; cases this
    have fs : ∀ i, i < n → setF f n (ids, s) i = f i := fun i hi => if_neg (by omega)
    have fn : setF f n (ids, s) n = (ids, s) := if_pos rfl
    refine ⟨p.ok, by rw [p.len]; exact h100, by rw [p.bit 1 (by omega) h1n]; exact h.one, fun i hi => ?_, ?_, fun i j hi hj hne q hq hm => ?_, fun i hi q hq hm => ?_, ?_⟩
    · by_cases e : i = n
      · subst e; rw [fn]; exact ⟨p.ch, p.n⟩
      · rw [fs i (by omega)]
        obtain ⟨c1, c2⟩ := h.ch i (by omega)
        exact ⟨keep c1 fun q hq hm => (hni q hm).1 i (by omega) hq, c2⟩
    · have r1 : rootG g' = rootG gs := by unfold rootG; rw [p.pg 1 (by omega) h1n]
      rcases h.rt with ⟨z1, z2⟩ | ⟨s0, c0, z1⟩
      · exact .inl ⟨by rw [r1]; exact z1, z2⟩
      · exact .inr ⟨s0, keep c0 fun q hq hm => (hni q hm).2 hq, by rw [r1]; exact z1⟩
    · by_cases e1 : i = n
      · subst e1
        rw [fn] at hq
        rw [fs j (by omega)] at hm
        exact (hni q hq).1 j (by omega) hm
      · rw [fs i (by omega)] at hq
        by_cases e2 : j = n
        · subst e2
          rw [fn] at hm
          exact (hni q hm).1 i (by omega) hq
        · rw [fs j (by omega)] at hm
          exact h.dj i j (by omega) (by omega) hne q hq hm
    · by_cases e1 : i = n
      · subst e1
        rw [fn] at hq
        exact (hni q hq).2 hm
      · rw [fs i (by omega)] at hq
        exact h.dr i (by omega) q hq hm
    · have h1 := h.cnt
      have h2 := p.cnt
      have h3 := p.n
      show frG g' + (sumN (setF f n (ids, s)) n + (setF f n (ids, s) n).1.length) + r.length = 98
      rw [sumN_same fs, fn, h3]
      omega
/-- A record is taken away: the last one comes to its place. -/
theorem KG.drop {gs : List (List UInt8)} {f : Nat → Rc} {n : Nat} {r : List Nat} (h : KG gs f n r) {k : Nat} (hk : k < n) :
    rowG gs ((f k).1.headD 0 : Nat) = ((f k).1, (f k).2, 0) ∧ KG (dropG gs ((f k).1.headD 0 : Nat)) (setF f k (f (n - 1))) (n - 1) r := by
  obtain ⟨ck, _⟩ := h.ch k hk
  have d := dropG_ok h.ok ck
  refine ⟨ck.row h.ok.big, ?_⟩
  generalize dropG gs ((f k).1.headD 0 : Nat) = g' at *
  have h100 := h.len
  have keep : ∀ {l : List Nat} {t : List UInt8}, Chain gs l t → (∀ q ∈ l, q ∉ (f k).1) → Chain g' l t := fun {l} {t} hc hn => hc.mono d.len fun q hq => by
    obtain ⟨a, b, c⟩ := hc.mem q hq
    exact ⟨d.pg q (by omega), d.bit q b (hn q hq)⟩
  have h1n : 1 ∉ (f k).1 := fun hm => by have := (ck.mem 1 hm).1; omega
  -- each record behind is one that was there, and not the one that goes
  have old : ∀ i, i < n - 1 → ∃ j, j < n ∧ j ≠ k ∧ setF f k (f (n - 1)) i = f j ∧ ∀ i', i' < n - 1 → i' ≠ i → ∀ j', setF f k (f (n - 1)) i' = f j' → True := fun i hi => by
    by_cases e : i = k
    · exact ⟨n - 1, by omega, by omega, if_pos e, fun _ _ _ _ _ => trivial⟩
    · exact ⟨i, by omega, e, if_neg e, fun _ _ _ _ _ => trivial⟩
  have src : ∀ i, i < n - 1 → ∃ j, j < n ∧ j ≠ k ∧ setF f k (f (n - 1)) i = f j ∧ j = (if i = k then n - 1 else i) := fun i hi => by
    by_cases e : i = k
    · exact ⟨n - 1, by omega, by omega, if_pos e, by rw [if_pos e]⟩
    · exact ⟨i, by omega, e, if_neg e, by rw [if_neg e]⟩
  clear old
  refine ⟨d.ok, by rw [d.len]; exact h100, by rw [d.bit 1 (by omega) h1n]; exact h.one, fun i hi => ?_, ?_, fun i j hi hj hne q hq hm => ?_, fun i hi q hq hm => ?_, ?_⟩
  · obtain ⟨j, j1, j2, j3, _⟩ := src i hi
    rw [j3]
    obtain ⟨c1, c2⟩ := h.ch j j1
    exact ⟨keep c1 (h.dj j k j1 hk j2), c2⟩
  · have r1 : rootG g' = rootG gs := by unfold rootG; rw [d.pg 1 (by omega)]
    rcases h.rt with ⟨z1, z2⟩ | ⟨s0, c0, z1⟩
    · exact .inl ⟨by rw [r1]; exact z1, z2⟩
    · exact .inr ⟨s0, keep c0 fun q hq hm => h.dr k hk q hm hq, by rw [r1]; exact z1⟩
  · obtain ⟨i', a1, a2, a3, a4⟩ := src i hi
    obtain ⟨j', b1, b2, b3, b4⟩ := src j hj
    rw [a3] at hq
    rw [b3] at hm
    refine h.dj i' j' a1 b1 (fun e => ?_) q hq hm
    rw [a4, b4] at e
    split at e <;> split at e <;> omega
  · obtain ⟨i', a1, a2, a3, a4⟩ := src i hi
    rw [a3] at hq
    exact h.dr i' a1 q hq hm
  · have h1 := h.cnt
    have h2 := d.cnt
    have hn : n = (n - 1) + 1 := by omega
    have h3 : sumN f n = sumN f (n - 1) + (f (n - 1)).1.length := by rw [hn]; rfl
    by_cases e : k = n - 1
    · have h4 : sumN (setF f k (f (n - 1))) (n - 1) = sumN f (n - 1) := sumN_same fun i hi => if_neg (by omega)
      rw [h4]
      subst e
      omega
    · have h4 := sumN_set (f := f) (k := k) (v := f (n - 1)) (n := n - 1) (by omega)
      omega
/-- The root is made anew. -/
theorem KG.root {gs : List (List UInt8)} {f : Nat → Rc} {n : Nat} {r : List Nat} (h : KG gs f n r) {s : List UInt8} (hs : s.length ≤ 100000) :
    setRootG gs s = (3, gs) ∨ ∃ ids g', setRootG gs s = (0, g') ∧ KG g' f n ids ∧ ids.length = need s.length := by
  by_cases hf : frG gs < need s.length
  · left
    unfold setRootG
    rw [putG_full hs hf]
    rfl
  · obtain ⟨ids, g1, e1, p⟩ := putG_ok h.ok h.one hs (by omega)
    right
    have h100 := h.len
    have hni : ∀ q ∈ ids, (∀ i, i < n → q ∉ (f i).1) ∧ q ∉ r := fun q hq => h.free (p.was q hq)
    have keep : ∀ {l : List Nat} {t : List UInt8}, Chain gs l t → (∀ q ∈ l, q ∉ ids) → Chain g1 l t := fun {l} {t} hc hn => hc.mono p.len fun q hq => by
      obtain ⟨a, b, c⟩ := hc.mem q hq
      exact ⟨p.pg q (by omega) (hn q hq), p.bit q b (hn q hq)⟩
    have h1n : 1 ∉ ids := fun hm => by have := p.was 1 hm; rw [h.one] at this; cases this
    have r1 : rootG g1 = rootG gs := by unfold rootG; rw [p.pg 1 (by omega) h1n]
    have one1 : isFG g1 1 = false := by rw [p.bit 1 (by omega) h1n]; exact h.one
    have hhd : ids.headD 0 ∈ ids := by
      have := p.ch.ne
      cases ids with
      | nil => exact (this rfl).elim
      | cons a l => exact List.mem_cons_self ..
    obtain ⟨m2, m3, _⟩ := p.ch.mem _ hhd
    have big := p.ok.big
    obtain ⟨_, q2⟩ := rootP (id := ids.headD 0) (by omega)
    have hpl : (pad (82 :: two (ids.headD 0))).length = 128 := pad_len (by show 3 ≤ 128; omega)
    have hc := p.cnt
    have hcn := h.cnt
    have hpn := p.n
    have fin : ∀ g2 : List (List UInt8), GOK g2 → g2.length = 100 → isFG g2 1 = false → (∀ i, i < n → Chain g2 (f i).1 (f i).2) → Chain g2 ids s → frG g2 + sumN f n + need s.length = 98 →
        KG (g2.set 1 (pad (82 :: two (ids.headD 0)))) f n ids := fun g2 ok l2 o2 cf c2 f2 => by
      have mv : ∀ {l : List Nat} {t : List UInt8}, Chain g2 l t → Chain (g2.set 1 (pad (82 :: two (ids.headD 0)))) l t := fun {l} {t} hc => hc.mono List.length_set fun q hq => by
        obtain ⟨a, b, c⟩ := hc.mem q hq
        exact ⟨by rw [pgAt_set _ _ _ _ (by omega), if_neg (by omega)], isFG_set (by omega) (by omega) q⟩
      have ff : frG (g2.set 1 (pad (82 :: two (ids.headD 0)))) = frG g2 := by
        unfold frG
        rw [List.length_set, pgAt_set _ _ _ _ (by omega), if_neg (by omega)]
      refine ⟨ok.set (by omega) hpl, by rw [List.length_set]; exact l2, by rw [isFG_set (by omega) (by omega)]; exact o2, fun i hi => ⟨mv (cf i hi), (h.ch i hi).2⟩, .inr ⟨s, mv c2, ?_⟩, h.dj, fun i hi q hq hm => (hni q hm).1 i hi hq, by rw [ff, hpn]; exact f2⟩
      unfold rootG
      rw [pgAt_set _ _ _ _ (by omega), if_pos rfl, q2]
    rcases h.rt with ⟨z1, z2⟩ | ⟨s0, c0, z1⟩
    · refine ⟨ids, _, ?_, fin g1 p.ok (by rw [p.len]; exact h100) one1 (fun i hi => keep (h.ch i hi).1 fun q hq hm => (hni q hm).1 i hi hq) p.ch ?_, hpn⟩
      · unfold setRootG
        rw [e1]
        simp only
        rw [if_neg (by simp), r1, z1, dropG_0]
      · rw [z2] at hcn
        simp only [List.length_nil] at hcn
        omega
    · have c1 : Chain g1 r s0 := keep c0 fun q hq hm => (hni q hm).2 hq
      have d := dropG_ok p.ok c1
      have kd : ∀ {l : List Nat} {t : List UInt8}, Chain g1 l t → (∀ q ∈ l, q ∉ r) → Chain (dropG g1 (r.headD 0 : Nat)) l t := fun {l} {t} hc hn => hc.mono d.len fun q hq => by
        obtain ⟨a, b, c⟩ := hc.mem q hq
        exact ⟨d.pg q (by omega), d.bit q b (hn q hq)⟩
      refine ⟨ids, _, ?_, fin (dropG g1 (r.headD 0 : Nat)) d.ok (by rw [d.len, p.len]; exact h100) ?_ (fun i hi => kd (keep (h.ch i hi).1 fun q hq hm => (hni q hm).1 i hi hq) (h.dr i hi)) (kd p.ch fun q hq => (hni q hq).2) ?_, hpn⟩
      · unfold setRootG
        rw [e1]
        simp only
        rw [if_neg (by simp), r1, z1]
      · rw [d.bit 1 (by rw [p.len]; omega) fun hm => by have := (c0.mem 1 hm).1; omega]
        exact one1
      · have hd := d.cnt
        omega
end Go.Proofs
