import Derived.Test.YthkngcankpnhlaaQ34

/-
  One call of a script.
-/

namespace Go.Proofs
open Go.PW
structure OpP where
  kind : Int
  n : Int
  s : List UInt8
  keep : List Bool
def OpP.enc (o : OpP) : List D := [.lit (.int .i64 o.kind), .lit (.int .i64 o.n), dS o.s, .sl (bools o.keep)]
def oPC (o : OpP) : List CV := [.d (.lit (.int .i64 o.kind)), .d (.lit (.int .i64 o.n)), .d (dS o.s), .d (.sl (bools o.keep))]
def opsP (l : List OpP) : List (List D) := l.map OpP.enc
theorem opsP_get {l : List OpP} {i : Nat} (h : i < l.length) : (opsP l)[i]? = some [.lit (.int .i64 l[i].kind), .lit (.int .i64 l[i].n), dS l[i].s, .sl (bools l[i].keep)] := by
  unfold opsP; rw [List.getElem?_map, List.getElem?_eq_getElem h]; rfl
theorem opsP_len (l : List OpP) : (opsP l).length = l.length := by simp [opsP]
theorem wk_trip {H' : HMap} {A A' : AMap} {x y z : D} : PV.wk H' A A' (.tup [.c (.d x), .c (.d y), .c (.d z)]) (.tup [.c (.d x), .c (.d y), .c (.d z)]) := by
  refine ⟨rfl, fun k a b h1 h2 => ?_⟩
  rw [h1] at h2
  cases h2
  match k, h1 with
  | 0, h => cases h; exact .inr (.inl ⟨rfl, True.intro⟩)
  | 1, h => cases h; exact .inr (.inl ⟨rfl, True.intro⟩)
  | 2, h => cases h; exact .inr (.inl ⟨rfl, True.intro⟩)
theorem oks_trip {hk : Nat → Prop} {tk : Tok → Prop} {x y z : D} : PV.oks hk tk (.tup [.c (.d x), .c (.d y), .c (.d z)]) := fun w hw => by
  simp only [List.mem_cons, List.not_mem_nil, or_false] at hw
  rcases hw with rfl | rfl | rfl <;> exact True.intro
theorem oks_args {hk : Nat → Prop} {tk : Tok → Prop} {id : Nat} (h : hk id) {l : List D} : ∀ x ∈ (.c (.ptr id 0) :: l.map fun d => (.c (.d d) : PV)), x.oks hk tk := fun x hx => by
  rcases List.mem_cons.1 hx with rfl | hx
  · exact h
  · obtain ⟨d, _, rfl⟩ := List.mem_map.1 hx
    exact True.intro
section pg
variable {H : HMap} {A : AMap} {k pid did lid : Nat} {κm κc κp : Tok} {N logs T : Nat} {d : Dk} {p : Pg} {ch : List (Int × List UInt8)} {b : Nat → List UInt8}
set_option maxRecDepth 8000 in
set_option maxHeartbeats 8000000 in
theorem Try.kPgReadE (off : Nat) (hw : Wf H A) (hp : PgAt H A pid did lid κp p) (hd : DkAt H A did κm κc d) (hl : p.logs ≤ d.n) (hn : d.n ≤ 4096) (page : Int) (he : pgRight (pgN d p) page ≠ 0) :
    EffOK Try.prog 12 off H A [.c (.ptr pid 0), pD (.lit (.int .i64 page))] (.tup [.c (.d (dS [])), .c (.d (.lit (.int .i64 (pgRight (pgN d p) page))))]) H A := by
  refine effr_ok (E := envOf Try.prog [36, 2000000 + 37] off [] []) (envOf_ok Try.mixed) Try.func12 rfl Try.call12 (by kernel_rfl) (by exact Nat.le_of_ble_eq_true rfl) (fun hab => ?_)
  have kr := Try.kPgRight (off + 1000) hw hp hd hl hn page
  have z : (pgRight (pgN d p) page != 0) = true := by simpa using he
  repeat' (first
   | with_reducible first | refine VC_seq fun K hK => ?_ | refine W_region ?_ | refine VC_block ?_ | refine VC_scope ?_ | refine VC_if ?_ | refine VC_skip ?_ | refine VC_exit ?_ | refine VC_ret ?_
   | (with_reducible first | refine G_not (fun h => ?_) (fun h => ?_) | refine G_cases (fun h => ?_) (fun h => ?_)) <;> (try simp only [h])
   | refine C_call rfl kr rfl (Above_mono hab (by omega)) ?_
   | with_reducible first | (refine hK _ ?_; clear hK K) | (clear hK K; refine hK _ ?_; clear hK K) | (clear hK K; clear hK K; refine hK _ ?_; clear hK K) | (clear hK K; clear hK K; clear hK K; refine hK _ ?_; clear hK K)
   | (with_reducible refine todo ?_; simp +decide only [go_sem, z]))
  exact RetR_same rfl wk_pair oks_pair hw kp_refl (fun _ _ => rfl)
theorem Try.pReadE (off : Nat) (h : PX H A k did pid N logs T ch b) (page : Int) (he : pgRight (N - logs) page ≠ 0) : EffOK Try.prog 12 off H A [.c (.ptr pid 0), pD (.lit (.int .i64 page))] (.tup [.c (.d (dS [])), .c (.d (.lit (.int .i64 (pgRight (N - logs) page))))]) H A := by
  obtain ⟨lid, κm, κc, κr, κp, d, l, p, hx, rfl, hb⟩ := h
  obtain ⟨n1, n2, n3, n4, n5, n6, n7, n8, _⟩ := hx.st.num
  rw [← n7] at he ⊢
  exact Try.kPgReadE off hx.lw.wf hx.pg hx.lw.dk (by rw [hx.st.p1]; omega) (by omega) page he
theorem firstF (s : List UInt8) (n : Nat) : (∀ i, i ≠ 0 → i < n → freeB s i = false) ∨ ∃ q, q ≠ 0 ∧ q < n ∧ freeB s q = true ∧ ∀ i, i ≠ 0 → i < q → freeB s i = false := by
  induction n with
  | zero => exact .inl fun i _ h => by omega
  | succ n ih =>
    rcases ih with ih | ⟨q, h1, h2, h3, h4⟩
    · by_cases h : n ≠ 0 ∧ freeB s n = true
      · exact .inr ⟨n, h.1, by omega, h.2, ih⟩
      · refine .inl fun i h1 h2 => ?_
        by_cases e : i = n
        · subst e
          cases hf : freeB s i with
          | false => rfl
          | true => exact (h ⟨h1, hf⟩).elim
        · exact ih i h1 (by omega)
    · exact .inr ⟨q, h1, by omega, h3, h4⟩
theorem needN_le {n m : Nat} (h : needN n ≤ m) : n ≤ 100 * m := by
  unfold needN at h
  omega
/-- What a call comes to, and what lies there. -/
def Call3 (off : Nat) (P : Program) (f : FuncId) (H : HMap) (A : AMap) (args : List PV) (k did pid N logs T : Nat) : Prop :=
  ∃ (x y z : D) (k' T' : Nat) (ch' : List (Int × List UInt8)) (b' : Nat → List UInt8), k' ≤ k + 3 ∧ k ≤ k' ∧ T' ≤ T + 1 ∧ PSO off P f H A args (.tup [.c (.d x), .c (.d y), .c (.d z)]) k' did pid N logs T' ch' b'
theorem Try.pCommitAny (off : Nat) (h : PX H A k did pid N logs T ch b) (hk : k + 4 ≤ off) (hT : T < 1000000) (hl : logs ≤ 50) (hN : N ≤ 600) :
    ∃ (e : Int) (k' T' : Nat) (ch' : List (Int × List UInt8)) (b' : Nat → List UInt8), k' ≤ k + 3 ∧ k ≤ k' ∧ T' ≤ T + 1 ∧ PSO off Try.prog 20 H A [.c (.ptr pid 0)] (pD (.lit (.int .i64 e))) k' did pid N logs T' ch' b' := by
  obtain ⟨n1, n2, n3, n4, n5, n6, n7, n8, n9, n10, hw, hab0, hd0, hp0, lo, ks, _⟩ := h.nums
  by_cases h0 : ch = []
  · exact ⟨0, k, T, ch, b, by omega, Nat.le_refl _, by omega, H, A, Try.pCommit0 off h h0, h, fun _ h => h, fun _ h => h⟩
  · by_cases hf : needN (recK ch (N - logs)).length ≤ logs - 2
    · have := needN_le hf
      exact ⟨0, k + 3, T + 1, [], ct b ch, by omega, by omega, by omega, Try.pCommit off h hk hT h0 (by omega) hf⟩
    · have := recK_len ks.find (N - logs)
      exact ⟨3, k, T, ch, b, by omega, Nat.le_refl _, by omega, H, A, Try.pCommitB off h h0 (by omega) hf, h, fun _ h => h, fun _ h => h⟩
theorem eqf {a b : Int} (h : a ≠ b) : (a == b) = false := by simpa using h
set_option maxRecDepth 8000 in
set_option maxHeartbeats 32000000 in
theorem Try.pDo (off : Nat) (h : PX H A k did pid N logs T ch b) (hk : k + 4 ≤ off) (hT : T < 1000000) (hl : logs ≤ 50) (hN : N ≤ 600) (o : OpP) :
    Call3 off Try.prog 23 H A [.c (.ptr pid 0), .agg (oPC o)] k did pid N logs T := by
  obtain ⟨n1, n2, n3, n4, n5, n6, n7, n8, n9, n10, hw, hab0, hd0, hp0, lo, ks, hct⟩ := h.nums
  have n3 : H (off + 3) = none := (hab0 _ (by omega)).1
  have hw3 : Wf (upd H (off + 3) (some (oPC o))) A := Wf_upd hw rfl
  have fin : ∀ {f : FuncId} {args : List PV} {v : PV} {H' : HMap} {A' : AMap} {k' T' : Nat} {ch' : List (Int × List UInt8)} {b' : Nat → List UInt8}, EffOK Try.prog f (off + 1000) H A args v H' A' → PX H' A' k' did pid N logs T' ch' b' → k' ≤ k + 3 → (∀ x ∈ args, x.oks (fun i => H i ≠ none) (fun κ => A κ ≠ none)) →
      EffOK Try.prog f (off + 1000) (upd H (off + 3) (some (oPC o))) A args v (upd H' (off + 3) (some (oPC o))) A' ∧ H' (off + 3) = none ∧ Wf H' A' := fun e hx hk' ha => by
    obtain ⟨_, _, _, _, _, _, _, _, _, _, hw', hab', _⟩ := hx.nums
    have n3' := (hab' (off + 3) (by omega)).1
    exact ⟨eff_frame e hw ha n3 n3', n3', hw'⟩
  have a1 : ∀ x ∈ ([.c (.ptr pid 0)] : List PV), x.oks (fun i => H i ≠ none) (fun κ => A κ ≠ none) := oks_ptr1 hp0
  have a2 : ∀ {y : D}, ∀ x ∈ ([.c (.ptr pid 0), .c (.d y)] : List PV), x.oks (fun i => H i ≠ none) (fun κ => A κ ≠ none) := fun {y} => oks_args (l := [y]) hp0
  have a3 : ∀ {y z : D}, ∀ x ∈ ([.c (.ptr pid 0), .c (.d y), .c (.d z)] : List PV), x.oks (fun i => H i ≠ none) (fun κ => A κ ≠ none) := fun {y z} => oks_args (l := [y, z]) hp0
  have ab3 : Above (off + 1000) (upd H (off + 3) (some (oPC o))) A := Above_updH (Above_mono hab0 (by omega)) (by omega)
  have run : ∀ (x y z : D) {H' : HMap} {A' : AMap} {k' T' : Nat} {ch' : List (Int × List UInt8)} {b' : Nat → List UInt8}, PX H' A' k' did pid N logs T' ch' b' → k' ≤ k + 3 → k ≤ k' → T' ≤ T + 1 → (∀ j, H j ≠ none → H' j ≠ none) → (∀ τ, A τ ≠ none → A' τ ≠ none) →
      EffOK Try.prog 23 off H A [.c (.ptr pid 0), .agg (oPC o)] (.tup [.c (.d x), .c (.d y), .c (.d z)]) H' A' → Call3 off Try.prog 23 H A [.c (.ptr pid 0), .agg (oPC o)] k did pid N logs T :=
    fun x y z {H'} {A'} {k'} {T'} {ch'} {b'} hx q1 q2 q3 q4 q5 e => ⟨x, y, z, k', T', ch', b', q1, q2, q3, H', A', e, hx, q4, q5⟩
  by_cases k0 : o.kind = 0
  · have p0 : (o.kind == 0) = true := by rw [k0]; rfl
    by_cases hE : pgWrE (N - logs) o.n o.s = 0
    · have hE2 := hE
      unfold pgWrE pgRight at hE2
      have hr : ¬ (o.n < 0 ∨ ((N - logs : Nat) : Int) ≤ o.n) := fun hc => by rw [if_pos hc, if_pos (by decide)] at hE2; cases hE2
      rw [if_neg hr, if_neg (by decide)] at hE2
      have hz : o.n ≠ 0 := fun hc => by rw [if_pos hc] at hE2; cases hE2
      rw [if_neg hz] at hE2
      have hs : ¬ 128 < o.s.length := fun hc => by rw [if_pos hc] at hE2; cases hE2
      obtain ⟨q, hq⟩ : ∃ q : Nat, o.n = (q : Int) := ⟨o.n.toNat, by omega⟩
      obtain ⟨HW, AW, e, hx, q4, q5⟩ := Try.pWrite (off + 1000) h q (by omega) (by omega) o.s (by omega)
      rw [← hq] at e
      obtain ⟨e', n3', hw'⟩ := fin e hx (by omega) a3
      unfold oPC at e' ab3
      refine run (.lit (.int .i64 0)) (dS []) (.lit (.int .i64 0)) hx (by omega) (by omega) (by omega) q4 q5 ?_
      refine effr_ok (E := envOf Try.prog [14, 11, 15, 20, 19, 12] off [] []) (envOf_ok Try.mixed) Try.func23 rfl Try.call23 (by kernel_rfl) (by exact Nat.le_of_ble_eq_true rfl) (fun hab => ?_)
      unfold oPC
      repeat' (first
       | with_reducible first | refine VC_seq fun K hK => ?_ | refine W_region ?_ | refine VC_block ?_ | refine VC_scope ?_ | refine VC_if ?_ | refine VC_skip ?_ | refine VC_exit ?_ | refine VC_ret ?_
       | (with_reducible first | refine G_not (fun h => ?_) (fun h => ?_) | refine G_cases (fun h => ?_) (fun h => ?_)) <;> (try simp only [h])
       | refine And.intro n3 ?_
       | refine C_call rfl e' rfl ab3 ?_
       | with_reducible first | (refine hK _ ?_; clear hK K) | (clear hK K; refine hK _ ?_; clear hK K) | (clear hK K; clear hK K; refine hK _ ?_; clear hK K) | (clear hK K; clear hK K; clear hK K; refine hK _ ?_; clear hK K)
       | (with_reducible refine todo ?_; simp +decide only [go_sem, p0]))
      exact RetR_sub rfl wk_trip oks_trip hw' (fun j hj => upd_other _ _ fun e => hj (by rw [e]; exact n3')) (fun _ _ => rfl) q4 q5
    · have e := Try.pWriteE (off + 1000) h o.n o.s hE
      have hx := h
      have q4 : ∀ j, H j ≠ none → H j ≠ none := fun _ h => h
      have q5 : ∀ τ, A τ ≠ none → A τ ≠ none := fun _ h => h
      obtain ⟨e', n3', hw'⟩ := fin e hx (by omega) a3
      unfold oPC at e' ab3
      refine run (.lit (.int .i64 0)) (dS []) (.lit (.int .i64 (pgWrE (N - logs) o.n o.s))) hx (by omega) (by omega) (by omega) q4 q5 ?_
      refine effr_ok (E := envOf Try.prog [14, 11, 15, 20, 19, 12] off [] []) (envOf_ok Try.mixed) Try.func23 rfl Try.call23 (by kernel_rfl) (by exact Nat.le_of_ble_eq_true rfl) (fun hab => ?_)
      unfold oPC
      repeat' (first
       | with_reducible first | refine VC_seq fun K hK => ?_ | refine W_region ?_ | refine VC_block ?_ | refine VC_scope ?_ | refine VC_if ?_ | refine VC_skip ?_ | refine VC_exit ?_ | refine VC_ret ?_
       | (with_reducible first | refine G_not (fun h => ?_) (fun h => ?_) | refine G_cases (fun h => ?_) (fun h => ?_)) <;> (try simp only [h])
       | refine And.intro n3 ?_
       | refine C_call rfl e' rfl ab3 ?_
       | with_reducible first | (refine hK _ ?_; clear hK K) | (clear hK K; refine hK _ ?_; clear hK K) | (clear hK K; clear hK K; refine hK _ ?_; clear hK K) | (clear hK K; clear hK K; clear hK K; refine hK _ ?_; clear hK K)
       | (with_reducible refine todo ?_; simp +decide only [go_sem, p0]))
      exact RetR_sub rfl wk_trip oks_trip hw' (fun j hj => upd_other _ _ fun e => hj (by rw [e]; exact n3')) (fun _ _ => rfl) q4 q5
  · have p0 : (o.kind == 0) = false := eqf k0
    by_cases k1 : o.kind = 1
    · have p1 : (o.kind == 1) = true := by rw [k1]; rfl
      rcases firstF (ct b ch 0) (N - logs) with hno | ⟨q, c1, c2, c3, c4⟩
      · have e := Try.pAllocN (off + 1000) h hno
        have hx := h
        have q4 : ∀ j, H j ≠ none → H j ≠ none := fun _ h => h
        have q5 : ∀ τ, A τ ≠ none → A τ ≠ none := fun _ h => h
        obtain ⟨e', n3', hw'⟩ := fin e hx (by omega) a1
        unfold oPC at e' ab3
        refine run (.lit (.int .i64 0)) (dS []) (.lit (.int .i64 3)) hx (by omega) (by omega) (by omega) q4 q5 ?_
        refine effr_ok (E := envOf Try.prog [14, 11, 15, 20, 19, 12] off [] []) (envOf_ok Try.mixed) Try.func23 rfl Try.call23 (by kernel_rfl) (by exact Nat.le_of_ble_eq_true rfl) (fun hab => ?_)
        unfold oPC
        repeat' (first
         | with_reducible first | refine VC_seq fun K hK => ?_ | refine W_region ?_ | refine VC_block ?_ | refine VC_scope ?_ | refine VC_if ?_ | refine VC_skip ?_ | refine VC_exit ?_ | refine VC_ret ?_
         | (with_reducible first | refine G_not (fun h => ?_) (fun h => ?_) | refine G_cases (fun h => ?_) (fun h => ?_)) <;> (try simp only [h])
         | refine And.intro n3 ?_
         | refine C_call rfl e' rfl ab3 ?_
         | with_reducible first | (refine hK _ ?_; clear hK K) | (clear hK K; refine hK _ ?_; clear hK K) | (clear hK K; clear hK K; refine hK _ ?_; clear hK K) | (clear hK K; clear hK K; clear hK K; refine hK _ ?_; clear hK K)
         | (with_reducible refine todo ?_; simp +decide only [go_sem, p0, p1]))
        exact RetR_sub rfl wk_trip oks_trip hw' (fun j hj => upd_other _ _ fun e => hj (by rw [e]; exact n3')) (fun _ _ => rfl) q4 q5
      · obtain ⟨HW, AW, e, hx, q4, q5⟩ := Try.pAlloc (off + 1000) h q c1 c2 c3 c4
        obtain ⟨e', n3', hw'⟩ := fin e hx (by omega) a1
        unfold oPC at e' ab3
        refine run (.lit (.int .i64 q)) (dS []) (.lit (.int .i64 0)) hx (by omega) (by omega) (by omega) q4 q5 ?_
        refine effr_ok (E := envOf Try.prog [14, 11, 15, 20, 19, 12] off [] []) (envOf_ok Try.mixed) Try.func23 rfl Try.call23 (by kernel_rfl) (by exact Nat.le_of_ble_eq_true rfl) (fun hab => ?_)
        unfold oPC
        repeat' (first
         | with_reducible first | refine VC_seq fun K hK => ?_ | refine W_region ?_ | refine VC_block ?_ | refine VC_scope ?_ | refine VC_if ?_ | refine VC_skip ?_ | refine VC_exit ?_ | refine VC_ret ?_
         | (with_reducible first | refine G_not (fun h => ?_) (fun h => ?_) | refine G_cases (fun h => ?_) (fun h => ?_)) <;> (try simp only [h])
         | refine And.intro n3 ?_
         | refine C_call rfl e' rfl ab3 ?_
         | with_reducible first | (refine hK _ ?_; clear hK K) | (clear hK K; refine hK _ ?_; clear hK K) | (clear hK K; clear hK K; refine hK _ ?_; clear hK K) | (clear hK K; clear hK K; clear hK K; refine hK _ ?_; clear hK K)
         | (with_reducible refine todo ?_; simp +decide only [go_sem, p0, p1]))
        exact RetR_sub rfl wk_trip oks_trip hw' (fun j hj => upd_other _ _ fun e => hj (by rw [e]; exact n3')) (fun _ _ => rfl) q4 q5
    · have p1 : (o.kind == 1) = false := eqf k1
      by_cases k2 : o.kind = 2
      · have p2 : (o.kind == 2) = true := by rw [k2]; rfl
        by_cases hE : pgFrE (N - logs) (ct b ch 0) o.n = 0
        · have hE2 := hE
          unfold pgFrE pgRight at hE2
          have hr : ¬ (o.n < 0 ∨ ((N - logs : Nat) : Int) ≤ o.n) := fun hc => by rw [if_pos hc, if_pos (by decide)] at hE2; cases hE2
          rw [if_neg hr, if_neg (by decide)] at hE2
          have hz : o.n ≠ 0 := fun hc => by rw [if_pos hc] at hE2; cases hE2
          rw [if_neg hz] at hE2
          obtain ⟨q, hq⟩ : ∃ q : Nat, o.n = (q : Int) := ⟨o.n.toNat, by omega⟩
          have hs : freeB (ct b ch 0) q = false := by
            cases hf : freeB (ct b ch 0) q with
            | false => rfl
            | true => rw [hq, Int.toNat_natCast, if_pos hf] at hE2; cases hE2
          obtain ⟨HW, AW, e, hx, q4, q5⟩ := Try.pFree (off + 1000) h q (by omega) (by omega) hs
          rw [← hq] at e
          obtain ⟨e', n3', hw'⟩ := fin e hx (by omega) a2
          unfold oPC at e' ab3
          refine run (.lit (.int .i64 0)) (dS []) (.lit (.int .i64 0)) hx (by omega) (by omega) (by omega) q4 q5 ?_
          refine effr_ok (E := envOf Try.prog [14, 11, 15, 20, 19, 12] off [] []) (envOf_ok Try.mixed) Try.func23 rfl Try.call23 (by kernel_rfl) (by exact Nat.le_of_ble_eq_true rfl) (fun hab => ?_)
          unfold oPC
          repeat' (first
           | with_reducible first | refine VC_seq fun K hK => ?_ | refine W_region ?_ | refine VC_block ?_ | refine VC_scope ?_ | refine VC_if ?_ | refine VC_skip ?_ | refine VC_exit ?_ | refine VC_ret ?_
           | (with_reducible first | refine G_not (fun h => ?_) (fun h => ?_) | refine G_cases (fun h => ?_) (fun h => ?_)) <;> (try simp only [h])
           | refine And.intro n3 ?_
           | refine C_call rfl e' rfl ab3 ?_
           | with_reducible first | (refine hK _ ?_; clear hK K) | (clear hK K; refine hK _ ?_; clear hK K) | (clear hK K; clear hK K; refine hK _ ?_; clear hK K) | (clear hK K; clear hK K; clear hK K; refine hK _ ?_; clear hK K)
           | (with_reducible refine todo ?_; simp +decide only [go_sem, p0, p1, p2]))
          exact RetR_sub rfl wk_trip oks_trip hw' (fun j hj => upd_other _ _ fun e => hj (by rw [e]; exact n3')) (fun _ _ => rfl) q4 q5
        · have e := Try.pFreeE (off + 1000) h o.n hE
          have hx := h
          have q4 : ∀ j, H j ≠ none → H j ≠ none := fun _ h => h
          have q5 : ∀ τ, A τ ≠ none → A τ ≠ none := fun _ h => h
          obtain ⟨e', n3', hw'⟩ := fin e hx (by omega) a2
          unfold oPC at e' ab3
          refine run (.lit (.int .i64 0)) (dS []) (.lit (.int .i64 (pgFrE (N - logs) (ct b ch 0) o.n))) hx (by omega) (by omega) (by omega) q4 q5 ?_
          refine effr_ok (E := envOf Try.prog [14, 11, 15, 20, 19, 12] off [] []) (envOf_ok Try.mixed) Try.func23 rfl Try.call23 (by kernel_rfl) (by exact Nat.le_of_ble_eq_true rfl) (fun hab => ?_)
          unfold oPC
          repeat' (first
           | with_reducible first | refine VC_seq fun K hK => ?_ | refine W_region ?_ | refine VC_block ?_ | refine VC_scope ?_ | refine VC_if ?_ | refine VC_skip ?_ | refine VC_exit ?_ | refine VC_ret ?_
           | (with_reducible first | refine G_not (fun h => ?_) (fun h => ?_) | refine G_cases (fun h => ?_) (fun h => ?_)) <;> (try simp only [h])
           | refine And.intro n3 ?_
           | refine C_call rfl e' rfl ab3 ?_
           | with_reducible first | (refine hK _ ?_; clear hK K) | (clear hK K; refine hK _ ?_; clear hK K) | (clear hK K; clear hK K; refine hK _ ?_; clear hK K) | (clear hK K; clear hK K; clear hK K; refine hK _ ?_; clear hK K)
           | (with_reducible refine todo ?_; simp +decide only [go_sem, p0, p1, p2]))
          exact RetR_sub rfl wk_trip oks_trip hw' (fun j hj => upd_other _ _ fun e => hj (by rw [e]; exact n3')) (fun _ _ => rfl) q4 q5
      · have p2 : (o.kind == 2) = false := eqf k2
        by_cases k3 : o.kind = 3
        · have p3 : (o.kind == 3) = true := by rw [k3]; rfl
          obtain ⟨er, k', T', ch', b', r1, r2, r3, HW, AW, e, hx, q4, q5⟩ := Try.pCommitAny (off + 1000) h (by omega) hT hl hN
          obtain ⟨e', n3', hw'⟩ := fin e hx (by omega) a1
          unfold oPC at e' ab3
          refine run (.lit (.int .i64 0)) (dS []) (.lit (.int .i64 er)) hx (by omega) (by omega) (by omega) q4 q5 ?_
          refine effr_ok (E := envOf Try.prog [14, 11, 15, 20, 19, 12] off [] []) (envOf_ok Try.mixed) Try.func23 rfl Try.call23 (by kernel_rfl) (by exact Nat.le_of_ble_eq_true rfl) (fun hab => ?_)
          unfold oPC
          repeat' (first
           | with_reducible first | refine VC_seq fun K hK => ?_ | refine W_region ?_ | refine VC_block ?_ | refine VC_scope ?_ | refine VC_if ?_ | refine VC_skip ?_ | refine VC_exit ?_ | refine VC_ret ?_
           | (with_reducible first | refine G_not (fun h => ?_) (fun h => ?_) | refine G_cases (fun h => ?_) (fun h => ?_)) <;> (try simp only [h])
           | refine And.intro n3 ?_
           | refine C_call rfl e' rfl ab3 ?_
           | with_reducible first | (refine hK _ ?_; clear hK K) | (clear hK K; refine hK _ ?_; clear hK K) | (clear hK K; clear hK K; refine hK _ ?_; clear hK K) | (clear hK K; clear hK K; clear hK K; refine hK _ ?_; clear hK K)
           | (with_reducible refine todo ?_; simp +decide only [go_sem, p0, p1, p2, p3]))
          exact RetR_sub rfl wk_trip oks_trip hw' (fun j hj => upd_other _ _ fun e => hj (by rw [e]; exact n3')) (fun _ _ => rfl) q4 q5
        · have p3 : (o.kind == 3) = false := eqf k3
          by_cases k4 : o.kind = 4
          · have p4 : (o.kind == 4) = true := by rw [k4]; rfl
            obtain ⟨HW, AW, e, hx, q4, q5⟩ := Try.pAbort (off + 1000) h
            obtain ⟨e', n3', hw'⟩ := fin e hx (by omega) a1
            unfold oPC at e' ab3
            refine run (.lit (.int .i64 0)) (dS []) (.lit (.int .i64 0)) hx (by omega) (by omega) (by omega) q4 q5 ?_
            refine effr_ok (E := envOf Try.prog [14, 11, 15, 20, 19, 12] off [] []) (envOf_ok Try.mixed) Try.func23 rfl Try.call23 (by kernel_rfl) (by exact Nat.le_of_ble_eq_true rfl) (fun hab => ?_)
            unfold oPC
            repeat' (first
             | with_reducible first | refine VC_seq fun K hK => ?_ | refine W_region ?_ | refine VC_block ?_ | refine VC_scope ?_ | refine VC_if ?_ | refine VC_skip ?_ | refine VC_exit ?_ | refine VC_ret ?_
             | (with_reducible first | refine G_not (fun h => ?_) (fun h => ?_) | refine G_cases (fun h => ?_) (fun h => ?_)) <;> (try simp only [h])
             | refine And.intro n3 ?_
             | refine C_call rfl e' rfl ab3 ?_
             | with_reducible first | (refine hK _ ?_; clear hK K) | (clear hK K; refine hK _ ?_; clear hK K) | (clear hK K; clear hK K; refine hK _ ?_; clear hK K) | (clear hK K; clear hK K; clear hK K; refine hK _ ?_; clear hK K)
             | (with_reducible refine todo ?_; simp +decide only [go_sem, p0, p1, p2, p3, p4]))
            exact RetR_sub rfl wk_trip oks_trip hw' (fun j hj => upd_other _ _ fun e => hj (by rw [e]; exact n3')) (fun _ _ => rfl) q4 q5
          · have p4 : (o.kind == 4) = false := eqf k4
            by_cases hE : pgRight (N - logs) o.n = 0
            · have hr : ¬ (o.n < 0 ∨ ((N - logs : Nat) : Int) ≤ o.n) := fun hc => by unfold pgRight at hE; rw [if_pos hc] at hE; cases hE
              obtain ⟨q, hq⟩ : ∃ q : Nat, o.n = (q : Int) := ⟨o.n.toNat, by omega⟩
              have e := Try.pRead (off + 1000) h q (by omega)
              rw [← hq] at e
              have hx := h
              have q4 : ∀ j, H j ≠ none → H j ≠ none := fun _ h => h
              have q5 : ∀ τ, A τ ≠ none → A τ ≠ none := fun _ h => h
              obtain ⟨e', n3', hw'⟩ := fin e hx (by omega) a2
              unfold oPC at e' ab3
              refine run (.lit (.int .i64 0)) (dS (ct b ch q)) (.lit (.int .i64 0)) hx (by omega) (by omega) (by omega) q4 q5 ?_
              refine effr_ok (E := envOf Try.prog [14, 11, 15, 20, 19, 12] off [] []) (envOf_ok Try.mixed) Try.func23 rfl Try.call23 (by kernel_rfl) (by exact Nat.le_of_ble_eq_true rfl) (fun hab => ?_)
              unfold oPC
              repeat' (first
               | with_reducible first | refine VC_seq fun K hK => ?_ | refine W_region ?_ | refine VC_block ?_ | refine VC_scope ?_ | refine VC_if ?_ | refine VC_skip ?_ | refine VC_exit ?_ | refine VC_ret ?_
               | (with_reducible first | refine G_not (fun h => ?_) (fun h => ?_) | refine G_cases (fun h => ?_) (fun h => ?_)) <;> (try simp only [h])
               | refine And.intro n3 ?_
               | refine C_call rfl e' rfl ab3 ?_
               | with_reducible first | (refine hK _ ?_; clear hK K) | (clear hK K; refine hK _ ?_; clear hK K) | (clear hK K; clear hK K; refine hK _ ?_; clear hK K) | (clear hK K; clear hK K; clear hK K; refine hK _ ?_; clear hK K)
               | (with_reducible refine todo ?_; simp +decide only [go_sem, p0, p1, p2, p3, p4]))
              exact RetR_sub rfl wk_trip oks_trip hw' (fun j hj => upd_other _ _ fun e => hj (by rw [e]; exact n3')) (fun _ _ => rfl) q4 q5
            · have e := Try.pReadE (off + 1000) h o.n hE
              have hx := h
              have q4 : ∀ j, H j ≠ none → H j ≠ none := fun _ h => h
              have q5 : ∀ τ, A τ ≠ none → A τ ≠ none := fun _ h => h
              obtain ⟨e', n3', hw'⟩ := fin e hx (by omega) a2
              unfold oPC at e' ab3
              refine run (.lit (.int .i64 0)) (dS []) (.lit (.int .i64 (pgRight (N - logs) o.n))) hx (by omega) (by omega) (by omega) q4 q5 ?_
              refine effr_ok (E := envOf Try.prog [14, 11, 15, 20, 19, 12] off [] []) (envOf_ok Try.mixed) Try.func23 rfl Try.call23 (by kernel_rfl) (by exact Nat.le_of_ble_eq_true rfl) (fun hab => ?_)
              unfold oPC
              repeat' (first
               | with_reducible first | refine VC_seq fun K hK => ?_ | refine W_region ?_ | refine VC_block ?_ | refine VC_scope ?_ | refine VC_if ?_ | refine VC_skip ?_ | refine VC_exit ?_ | refine VC_ret ?_
               | (with_reducible first | refine G_not (fun h => ?_) (fun h => ?_) | refine G_cases (fun h => ?_) (fun h => ?_)) <;> (try simp only [h])
               | refine And.intro n3 ?_
               | refine C_call rfl e' rfl ab3 ?_
               | with_reducible first | (refine hK _ ?_; clear hK K) | (clear hK K; refine hK _ ?_; clear hK K) | (clear hK K; clear hK K; refine hK _ ?_; clear hK K) | (clear hK K; clear hK K; clear hK K; refine hK _ ?_; clear hK K)
               | (with_reducible refine todo ?_; simp +decide only [go_sem, p0, p1, p2, p3, p4]))
              exact RetR_sub rfl wk_trip oks_trip hw' (fun j hj => upd_other _ _ fun e => hj (by rw [e]; exact n3')) (fun _ _ => rfl) q4 q5
end pg
end Go.Proofs
