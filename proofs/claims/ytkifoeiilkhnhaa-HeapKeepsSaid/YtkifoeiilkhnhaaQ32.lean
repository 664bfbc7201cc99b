import Derived.Test.YtkifoeiilkhnhaaQ31

/-
  The pager: Commit, whatever its steps come to.
-/

namespace Go.Proofs
open Go.PW
/-- Commit's own variables. -/
def Try.cmL (off pid lid : Nat) (s : List UInt8) : List (Nat × List CV) :=
  [(off + 47, [.fn 40 [(off + 1, 0), (off + 3, 0)], .bfn 42 [(lid, 0)] [], .fn 43 [(off + 1, 0)], .bfn 45 [(pid, 0)] []]), (off + 3, [.d (dS s)]), (off + 1, [.ptr pid 0])]
theorem callv_fn {E : Env} {H H' : HMap} {A A' : AMap} {f : FuncId} {caps : List (Nat × Nat)} {v : PV} {K : PV → HMap → AMap → Prop} (h : E.Γe f (E.off + 1000) H A (caps.map capPV) v H' A') (hab : Above (E.off + 1000) H A) (hK : K v H' A') : callvV E H A (.c (.fn f caps)) [] K := ⟨v, H', A', h, hab, hK⟩
theorem callv_bfn {E : Env} {H H' : HMap} {A A' : AMap} {f : FuncId} {fst : List (Nat × Nat)} {v : PV} {K : PV → HMap → AMap → Prop} (h : E.Γe f (E.off + 1000) H A (fst.map capPV) v H' A') (hab : Above (E.off + 1000) H A) (hK : K v H' A') : callvV E H A (.c (.bfn f fst [])) [] K :=
  ⟨v, H', A', by simpa using h, hab, hK⟩
/-- What Commit's steps come to. -/
structure Try.CmS (off : Nat) (pid did lid : Nat) (κp : Tok) (p : Pg) (s : List UInt8) (Hs : Nat → HMap) (As : Nat → AMap) (e : Nat → Int) (m : Nat) : Prop where
  wf : ∀ i, i ≤ 4 → Wf (Hs i) (As i)
  ab : ∀ i, i ≤ 4 → Above off (Hs i) (As i)
  pg : ∀ i, i ≤ 4 → PgAt (Hs i) (As i) pid did lid κp p
  lg : ∀ i, i ≤ 4 → Hs i lid ≠ none
  kH : ∀ i, i ≤ 4 → ∀ j, Hs 0 j ≠ none → Hs i j ≠ none
  kA : ∀ i, i ≤ 4 → ∀ τ, As 0 τ ≠ none → As i τ ≠ none
  sH : ∀ i, i < 4 → ∀ j, Hs i j ≠ none → Hs (i + 1) j ≠ none
  sA : ∀ i, i < 4 → ∀ τ, As i τ ≠ none → As (i + 1) τ ≠ none
  c0 : 0 ≤ m → EffOK Try.prog 41 (off + 2000) (Hs 0) (As 0) [.c (.ptr lid 0), pD (dS s)] (pD (.lit (.int .i64 (e 0)))) (Hs 1) (As 1)
  c1 : 1 ≤ m → EffOK Try.prog 42 (off + 1000) (Hs 1) (As 1) [.c (.ptr lid 0)] (pD (.lit (.int .i64 (e 1)))) (Hs 2) (As 2)
  c2 : 2 ≤ m → EffOK Try.prog 44 (off + 2000) (Hs 2) (As 2) [.c (.ptr pid 0), .c (.mpr κp)] (pD (.lit (.int .i64 (e 2)))) (Hs 3) (As 3)
  c3 : 3 ≤ m → EffOK Try.prog 45 (off + 1000) (Hs 3) (As 3) [.c (.ptr pid 0)] (pD (.lit (.int .i64 (e 3)))) (Hs 4) (As 4)
  m4 : m ≤ 4
  z : ∀ i, i < m → e i = 0
  nz : m < 4 → e m ≠ 0
section pg
variable {pid did lid : Nat} {κp : Tok} {p : Pg} {s : List UInt8} {Hs : Nat → HMap} {As : Nat → AMap} {e : Nat → Int} {m off : Nat}
theorem Try.CmS.lay (c : Try.CmS off pid did lid κp p s Hs As e m) (i : Nat) (hi : i ≤ 4) :
    hOver (Try.cmL off pid lid s) (Hs i) (off + 47) = some [.fn 40 [(off + 1, 0), (off + 3, 0)], .bfn 42 [(lid, 0)] [], .fn 43 [(off + 1, 0)], .bfn 45 [(pid, 0)] []] ∧
    hOver (Try.cmL off pid lid s) (Hs i) (off + 3) = some [.d (dS s)] ∧ hOver (Try.cmL off pid lid s) (Hs i) (off + 1) = some [.ptr pid 0] ∧ (∀ j, Hs i j ≠ none → hOver (Try.cmL off pid lid s) (Hs i) j = Hs i j) ∧ (∀ q ∈ Try.cmL off pid lid s, Hs i q.1 = none) := by
  have fr : ∀ q ∈ Try.cmL off pid lid s, Hs i q.1 = none := fun q hq => by
    unfold Try.cmL at hq
    simp only [List.mem_cons, List.not_mem_nil, or_false] at hq
    rcases hq with rfl | rfl | rfl
    · exact (c.ab i hi _ (Nat.le_add_right _ _)).1
    · exact (c.ab i hi _ (Nat.le_add_right _ _)).1
    · exact (c.ab i hi _ (Nat.le_add_right _ _)).1
  refine ⟨if_pos rfl, ?_, ?_, fun j hj => hOver_out fun q hq e => hj (by rw [← e]; exact fr q hq), fr⟩
  · show (if off + 3 = off + 47 then _ else if off + 3 = off + 3 then _ else _) = _
    rw [if_neg (by omega), if_pos rfl]
  · show (if off + 1 = off + 47 then _ else if off + 1 = off + 3 then _ else if off + 1 = off + 1 then _ else _) = _
    rw [if_neg (by omega), if_neg (by omega), if_pos rfl]
theorem Try.CmS.wfL (c : Try.CmS off pid did lid κp p s Hs As e m) (i : Nat) (hi : i ≤ 4) : Wf (hOver (Try.cmL off pid lid s) (Hs i)) (As i) := by
  obtain ⟨l1, l2, l3, l4, l5⟩ := c.lay i hi
  have hp : hOver (Try.cmL off pid lid s) (Hs i) pid ≠ none := by rw [l4 pid (by rw [(c.pg i hi).h]; simp), (c.pg i hi).h]; simp
  have hl : hOver (Try.cmL off pid lid s) (Hs i) lid ≠ none := by rw [l4 lid (c.lg i hi)]; exact c.lg i hi
  have h1 : hOver (Try.cmL off pid lid s) (Hs i) (off + 1) ≠ none := by rw [l3]; simp
  have h3 : hOver (Try.cmL off pid lid s) (Hs i) (off + 3) ≠ none := by rw [l2]; simp
  intro id cs x hid hx
  by_cases k : Hs i id = none
  · have hin : ∃ q ∈ Try.cmL off pid lid s, q.1 = id := by
      refine Classical.byContradiction fun hn => ?_
      rw [hOver_out (fun q hq e => hn ⟨q, hq, e⟩), k] at hid
      cases hid
    obtain ⟨q, hq, rfl⟩ := hin
    unfold Try.cmL at hq
    simp only [List.mem_cons, List.not_mem_nil, or_false] at hq
    rcases hq with rfl | rfl | rfl
    · rw [l1] at hid
      cases hid
      simp only [List.mem_cons, List.not_mem_nil, or_false] at hx
      rcases hx with rfl | rfl | rfl | rfl
      · intro q hq
        simp only [List.mem_cons, List.not_mem_nil, or_false] at hq
        rcases hq with rfl | rfl
        · exact h1
        · exact h3
      · exact ⟨fun q hq => by rw [List.mem_singleton.1 hq]; exact hl, fun q hq => by cases hq⟩
      · intro q hq
        rw [List.mem_singleton.1 hq]; exact h1
      · exact ⟨fun q hq => by rw [List.mem_singleton.1 hq]; exact hp, fun q hq => by cases hq⟩
    · rw [l2] at hid
      cases hid
      rw [List.mem_singleton.1 hx]; exact True.intro
    · rw [l3] at hid
      cases hid
      rw [List.mem_singleton.1 hx]; exact hp
  · rw [l4 id k] at hid
    exact ok_mono (fun j hj => by rw [l4 j hj]; exact hj) (fun _ h => h) (c.wf i hi id cs x hid hx)
theorem Try.CmS.abL (c : Try.CmS off pid did lid κp p s Hs As e m) (i : Nat) (hi : i ≤ 4) : Above (off + 1000) (hOver (Try.cmL off pid lid s) (Hs i)) (As i) := by
  intro j hj
  refine ⟨?_, (c.ab i hi j (by omega)).2⟩
  rw [hOver_out (fun q hq e => ?_)]
  · exact (c.ab i hi j (by omega)).1
  · unfold Try.cmL at hq
    simp only [List.mem_cons, List.not_mem_nil, or_false] at hq
    rcases hq with rfl | rfl | rfl <;> (simp only at e; omega)
theorem oks_ptr1 {hk : Nat → Prop} {tk : Tok → Prop} {id : Nat} (h : hk id) : ∀ x ∈ ([.c (.ptr id 0)] : List PV), x.oks hk tk := fun x hx => by rw [List.mem_singleton.1 hx]; exact h
/-- The steps, beside Commit's own variables. -/
theorem Try.CmS.call (c : Try.CmS off pid did lid κp p s Hs As e m) (i : Nat) (hi : i < 4) (him : i ≤ m) : ∃ fc : CV, sub [.fn 40 [(off + 1, 0), (off + 3, 0)], .bfn 42 [(lid, 0)] [], .fn 43 [(off + 1, 0)], .bfn 45 [(pid, 0)] []] i 1 = some [fc] ∧
    ∀ (effs : List FuncId) (md st : List Nat) (K : PV → HMap → AMap → Prop), Todo (K (pD (.lit (.int .i64 (e i)))) (hOver (Try.cmL off pid lid s) (Hs (i + 1))) (As (i + 1))) → callvV (envOf Try.prog effs off md st) (hOver (Try.cmL off pid lid s) (Hs i)) (As i) (.c fc) [] K := by
  obtain ⟨l1, l2, l3, l4, l5⟩ := c.lay i (by omega)
  obtain ⟨_, _, _, k4, k5⟩ := c.lay (i + 1) (by omega)
  have hpn : Hs i pid ≠ none := by rw [(c.pg i (by omega)).h]; simp
  have hpp : PgAt (hOver (Try.cmL off pid lid s) (Hs i)) (As i) pid did lid κp p := (c.pg i (by omega)).mv (l4 _ hpn) rfl
  have kH : ∀ j, hOver (Try.cmL off pid lid s) (Hs i) j ≠ none → hOver (Try.cmL off pid lid s) (Hs (i + 1)) j ≠ none := fun j hj => by
    by_cases x : Hs i j = none
    · by_cases hin : ∃ q ∈ Try.cmL off pid lid s, q.1 = j
      · exact (hOver_in (H' := Hs i) hin).2
      · rw [hOver_out (fun q hq e => hin ⟨q, hq, e⟩)] at hj
        exact (hj x).elim
    · have := c.sH i hi j x
      rw [k4 j this]
      exact this
  have hln := c.lg i (by omega)
  have ab := c.abL i (by omega)
  have wf := c.wf i (by omega)
  have wL := c.wfL (i + 1) (by omega)
  have sA := c.sA i hi
  match i, hi with
  | 0, _ =>
    refine ⟨_, rfl, fun effs md st K hK => callv_fn ?_ ab hK⟩
    exact Try.kStep1 (off + 1000) l3 l2 hpp (eff_lay _ (c.c0 him) wf (fun x hx => by
      simp only [List.mem_cons, List.not_mem_nil, or_false] at hx
      rcases hx with rfl | rfl
      · exact hln
      · exact True.intro) l5 k5) wL kH sA
  | 1, _ =>
    refine ⟨_, rfl, fun effs md st K hK => callv_bfn ?_ ab hK⟩
    exact eff_lay _ (c.c1 him) wf (oks_ptr1 hln) l5 k5
  | 2, _ =>
    refine ⟨_, rfl, fun effs md st K hK => callv_fn ?_ ab hK⟩
    exact Try.kStep2 (off + 1000) l3 hpp (eff_lay _ (c.c2 him) wf (fun x hx => by
      simp only [List.mem_cons, List.not_mem_nil, or_false] at hx
      rcases hx with rfl | rfl
      · exact hpn
      · show As _ κp ≠ none
        rw [(c.pg 2 (by omega)).m]; simp) l5 k5) wL kH sA
  | 3, _ =>
    refine ⟨_, rfl, fun effs md st K hK => callv_bfn ?_ ab hK⟩
    exact eff_lay _ (c.c3 him) wf (oks_ptr1 hpn) l5 k5
end pg
end Go.Proofs

/-
  The pager: Commit.
-/

namespace Go.Proofs
open Go.PW
theorem C_row {E : Env} {t n : Nat} {T : TypeId} {ps : List (Nat × PV)} {H : HMap} {cs : List CV} {K : PV → HMap → Prop} (h : bslC E.P T n ps = some cs) (h0 : H (E.off + t) = none) (hK : Todo (K (.c (.vsl (E.off + t) n)) (upd H (E.off + t) (some cs)))) : bslV E (some t) T n ps H K := by
  unfold bslV
  refine Opt.iff.2 ⟨t, rfl, ?_⟩
  rw [h]
  exact Opt.iff.2 ⟨cs, rfl, h0, hK⟩
theorem Try.clFn : Try.prog.cellsOf 56 = 1 := by kernel_rfl
theorem Try.bslF (a b l p : Nat) : bslC Try.prog 79 4 [(0, .c (.fn 40 [(a, 0), (b, 0)])), (1, .c (.bfn 42 [(l, 0)] [])), (2, .c (.fn 43 [(a, 0)])), (3, .c (.bfn 45 [(p, 0)] []))] =
    some [.fn 40 [(a, 0), (b, 0)], .bfn 42 [(l, 0)] [], .fn 43 [(a, 0)], .bfn 45 [(p, 0)] []] := by kernel_rfl
section pg
variable {pid did lid : Nat} {κm κc κp κr : Tok} {d : Dk} {p : Pg} {l : Lg} {Hs : Nat → HMap} {As : Nat → AMap} {e : Nat → Int} {m off : Nat}
set_option maxRecDepth 8000 in
set_option maxHeartbeats 32000000 in
theorem Try.kPgCommitG (c : Try.CmS off pid did lid κp p (recK p.ch (pgN d p)) Hs As e m) (hh : p.halted = false) (hne : p.ch ≠ []) (hd : DkAt (Hs 0) (As 0) did κm κc d) (hl : p.logs ≤ d.n) (hn : d.n ≤ 4096) (hlg : LgAt (Hs 0) (As 0) lid did κr l)
    (hfit : l.used + needN (recK p.ch (pgN d p)).length ≤ l.places) (hlp : l.places ≤ 1000) (hml : p.ch.length ≤ 1000000) (hlen : ∀ k r, findN k p.ch 0 = some r → r.2.length ≤ 128) (hrl : (recK p.ch (pgN d p)).length ≤ 100000)
    {v : PV} {H' : HMap} {A' : AMap} (hok : m = 4 → ∃ κm' κc' d', DkAt (Hs 4) (As 4) did κm' κc' d' ∧ p.logs ≤ d'.n ∧ d'.n ≤ 4096 ∧ v = pD (.lit (.int .i64 0)) ∧ H' = Hs 4 ∧ A' = upd (As 4) κp (some (.mp (encNS (delK p.ch (dirtyK p.ch (pgN d' p)))))))
    (hno : m < 4 → v = pD (.lit (.int .i64 (e m))) ∧ H' = upd (Hs (m + 1)) pid (some (encPg did lid κp { p with halted := true })) ∧ A' = As (m + 1)) :
    EffOK Try.prog 21 off (Hs 0) (As 0) [.c (.ptr pid 0)] v H' A' := by
  refine effr_ok (E := envOf Try.prog [37, 7000000 + 38, 39, 46, 5000000 + 68, 6000000 + 79] off [] []) (envOf_ok Try.mixed) Try.func21 rfl Try.call21 (by kernel_rfl) (by exact Nat.le_of_ble_eq_true rfl) (fun hab => ?_)
  have hp := c.pg 0 (Nat.zero_le _)
  have hw := c.wf 0 (Nat.zero_le _)
  have hph := hp.h
  unfold encPg at hph
  have hpo := hp.lt hab
  have hlo := hlg.lt hab
  have hdo := hd.lt hab
  have n1 : (Hs 0) (off + 1) = none := (hab _ (by omega)).1
  have n3 : (Hs 0) (off + 3) = none := (hab _ (by omega)).1
  have n47 : (Hs 0) (off + 47) = none := (hab _ (by omega)).1
  have p1 : (pid = off + 1) = False := eq_false (by omega)
  have p3 : (pid = off + 3) = False := eq_false (by omega)
  have hw1 : Wf (upd (Hs 0) (off + 1) (some [.ptr pid 0])) (As 0) := Wf_set hw (fun x hx => by rw [List.mem_singleton.1 hx]; exact upd_keepH _ (by rw [hp.h]; simp)) (fun _ h => h)
  have hp1 : PgAt (upd (Hs 0) (off + 1) (some [.ptr pid 0])) (As 0) pid did lid κp p := hp.mv (upd_other _ _ (by omega)) rfl
  have hd1 : DkAt (upd (Hs 0) (off + 1) (some [.ptr pid 0])) (As 0) did κm κc d := ⟨by rw [upd_other _ _ (by omega)]; exact hd.h, hd.m, hd.c⟩
  have ab1 : Above (off + 1000) (upd (Hs 0) (off + 1) (some [.ptr pid 0])) (As 0) := Above_updH (Above_mono hab (by omega)) (by omega)
  have kt := Try.kThere (off + 1000) hw1 hp1
  have kr := Try.kRecord (off + 1000) hw1 hp1 hd1 hl hn hp.m hml hlen
  generalize recK p.ch (pgN d p) = s at *
  have hw3 : Wf (upd (upd (Hs 0) (off + 1) (some [.ptr pid 0])) (off + 3) (some [.d (dS s)])) (As 0) := Wf_upd hw1 rfl
  have hl3 : LgAt (upd (upd (Hs 0) (off + 1) (some [.ptr pid 0])) (off + 3) (some [.d (dS s)])) (As 0) lid did κr l := hlg.mv (by rw [upd_other _ _ (by omega), upd_other _ _ (by omega)]) rfl
  have ab3 : Above (off + 1000) (upd (upd (Hs 0) (off + 1) (some [.ptr pid 0])) (off + 3) (some [.d (dS s)])) (As 0) := Above_updH ab1 (by omega)
  have kf := Try.kFits (off + 1000) hw3 hl3 s.length hrl (by omega) hlp
  have hft : decide (l.used + needN s.length ≤ l.places) = true := decide_eq_true hfit
  rw [hft] at kf
  have hlm : lenM Try.prog (As 0) [68] [.c (.mpr κp)] = some (.c (.d (.lit (.int .i64 p.ch.length)))) := by
    rw [lenM_of (P := Try.prog) (t := 68) Try.underlying68 hp.m]
    unfold encNS
    rw [List.length_map]
  have z0 : ((p.ch.length : Int) == 0) = false := by
    rw [beq_eq_false_iff_ne]
    have := List.length_pos_iff.2 hne
    omega
  have hbs := Try.bslF (off + 1) (off + 3) lid pid
  have e13 : ((off + 1 : Nat) == off + 3) = false := by rw [beq_eq_false_iff_ne]; omega
  have ep3 : ((pid : Nat) == off + 3) = false := by rw [beq_eq_false_iff_ne]; omega
  have hoks : ∀ x ∈ ([.c (.ptr pid 0), .c (.mpr κp)] : List PV), x.oks (fun i => upd (Hs 0) (off + 1) (some [.ptr pid 0]) i ≠ none) (fun τ => As 0 τ ≠ none) := fun x hx => by
    simp only [List.mem_cons, List.not_mem_nil, or_false] at hx
    rcases hx with rfl | rfl
    · exact upd_keepH _ (by rw [hp.h]; simp)
    · show As 0 κp ≠ none
      rw [hp.m]; simp
  have q31 : (off + 3 = off + 1) = False := eq_false (by omega)
  have q13 : (off + 1 = off + 3) = False := eq_false (by omega)
  have n47' : (upd (upd (Hs 0) (off + 1) (some [.ptr pid 0])) (off + 3) (some [.d (dS s)])) (off + 47) = none := by rw [upd_other _ _ (by omega), upd_other _ _ (by omega)]; exact n47
  repeat' (first
   | with_reducible first | refine VC_seq fun K hK => ?_ | refine W_region ?_ | refine VC_block ?_ | refine VC_scope ?_ | refine VC_if ?_ | refine VC_skip ?_ | refine VC_exit ?_ | refine VC_ret ?_
   | (with_reducible first | refine G_not (fun h => ?_) (fun h => ?_) | refine G_cases (fun h => ?_) (fun h => ?_)) <;> (try simp only [h])
   | refine C_row hbs n47' ?_
   | refine And.intro n1 ?_
   | refine And.intro n3 ?_
   | refine C_call rfl kf rfl ab3 ?_
   | refine C_call rfl kt rfl ab1 ?_
   | refine C_rmore rfl rfl kr hw1 hoks rfl ab1 ?_
   | with_reducible first | (refine hK _ ?_; clear hK K) | (clear hK K; refine hK _ ?_; clear hK K) | (clear hK K; clear hK K; refine hK _ ?_; clear hK K) | (clear hK K; clear hK K; clear hK K; refine hK _ ?_; clear hK K)
   | (with_reducible refine todo ?_; simp +decide only [go_sem, q31, q13, List.filterMap_cons, List.filterMap_nil, hph, hh, hlm, z0, p1, p3, e13, ep3, upd_twice]))
  have hpt : ∀ {G : HMap} {X Y : AMap} {j : Nat}, G j ≠ none → PV.wk G X Y (.c (.ptr j 0)) (.c (.ptr j 0)) = True := fun h => eq_true (wkP_ptr h)
  have hvs : ∀ {G : HMap} {X Y : AMap} {j n : Nat}, G j ≠ none → PV.wk G X Y (.c (.vsl j n)) (.c (.vsl j n)) = True := fun h => eq_true (wk_c (.inr (.inl ⟨rfl, h⟩)))
  have kHL : ∀ i, i ≤ 4 → ∀ j, Hs 0 j ≠ none → hOver (Try.cmL off pid lid s) (Hs i) j ≠ none := fun i hi j hj => by
    have := c.kH i hi j hj
    rw [(c.lay i hi).2.2.2.1 j this]
    exact this
  refine VC_range 4 (fun i => i ≤ m) (fun i => over [(1, .c (.ptr (off + 1) 0)), (48, .c (.vsl (off + 47) 4)), (49, pD (.lit (.int .i64 ((4 : Nat) : Int)))), (50, pD (.lit (.int .i64 i)))] [] (hOver (Try.cmL off pid lid s) (Hs i)) (As i)) (Nat.zero_le _) ?_ ?_
  · obtain ⟨l1, l2, l3, l4, l5⟩ := c.lay 0 (Nat.zero_le _)
    refine Weak_overG (c.wfL 0 (Nat.zero_le _)) (fun _ _ => rfl) rfl ?_ ?_ (kHL 0 (Nat.zero_le _)) (fun _ h => h)
    · have k1 : ∀ {X Y : AMap}, PV.wk (hOver [] (hOver (Try.cmL off pid lid s) (Hs 0))) X Y (.c (.ptr (off + 1) 0)) (.c (.ptr (off + 1) 0)) = True := hpt (by show hOver (Try.cmL off pid lid s) (Hs 0) (off + 1) ≠ none; rw [l3]; simp)
      have k2 : ∀ {X Y : AMap}, PV.wk (hOver [] (hOver (Try.cmL off pid lid s) (Hs 0))) X Y (.c (.vsl (off + 47) 4)) (.c (.vsl (off + 47) 4)) = True := hvs (by show hOver (Try.cmL off pid lid s) (Hs 0) (off + 47) ≠ none; rw [l1]; simp)
      simp +decide only [go_sem, k1, k2]
    · simp +decide only [go_sem]
  · intro i hi him
    obtain ⟨l1, l2, l3, l4, l5⟩ := c.lay i hi
    have hpi := c.pg i hi
    have hpL : hOver (Try.cmL off pid lid s) (Hs i) pid = some [.ptr did 0, .ptr lid 0, .d (.lit (.int .i64 p.logs)), .mpr κp, .d (.lit (.bool p.halted))] := by rw [l4 pid (by rw [hpi.h]; simp), hpi.h]; rfl
    have wL := c.wfL i hi
    have aL := c.abL i hi
    rcases Nat.lt_or_ge i 4 with hi2 | hi2
    · obtain ⟨fc, hsub, hcall⟩ := c.call i hi2 him
      obtain ⟨k1, k2, k3, k4, k5⟩ := c.lay (i + 1) (by omega)
      generalize [CV.fn 40 [(off + 1, 0), (off + 3, 0)], CV.bfn 42 [(lid, 0)] [], CV.fn 43 [(off + 1, 0)], CV.bfn 45 [(pid, 0)] []] = cl at hsub l1 k1
      have hs1 : (i + 1 ≤ cl.length) = True := eq_true (by unfold sub at hsub; split at hsub <;> first | assumption | cases hsub)
      have hs2 : List.take 1 (List.drop i cl) = [fc] := by
        unfold sub at hsub
        split at hsub
        · exact Option.some.inj hsub
        · cases hsub
      have hpj := c.pg (i + 1) (by omega)
      have hpR : hOver (Try.cmL off pid lid s) (Hs (i + 1)) pid = some [.ptr did 0, .ptr lid 0, .d (.lit (.int .i64 p.logs)), .mpr κp, .d (.lit (.bool p.halted))] := by rw [k4 pid (by rw [hpj.h]; simp), hpj.h]; rfl
      have wR := c.wfL (i + 1) (by omega)
      have hcc := int_lt_true hi2
      have hnx := int_next (n := 4) hi2 (by omega)
      have hi3 : (i < 4) = True := eq_true hi2
      by_cases hz : i = m
      · have ez : (e i != 0) = true := by rw [hz]; simpa using c.nz (by omega)
        obtain ⟨rv, rH, rA⟩ := hno (by omega)
        rw [rv, rH, rA, ← hz]
        repeat' (first
         | with_reducible first | refine VC_seq fun K hK => ?_ | refine W_region ?_ | refine VC_block ?_ | refine VC_scope ?_ | refine VC_if ?_ | refine VC_skip ?_ | refine VC_exit ?_ | refine VC_ret ?_
         | (with_reducible first | refine G_not (fun h => ?_) (fun h => ?_) | refine G_cases (fun h => ?_) (fun h => ?_)) <;> (try simp only [h])
         | refine hcall _ _ _ _ ?_
         | with_reducible first | (refine hK _ ?_; clear hK K) | (clear hK K; refine hK _ ?_; clear hK K) | (clear hK K; clear hK K; refine hK _ ?_; clear hK K) | (clear hK K; clear hK K; clear hK K; refine hK _ ?_; clear hK K)
         | (with_reducible refine todo ?_; simp +decide only [go_sem, l1, hcc, hi3, Try.clFn, Nat.mul_one, hs1, hs2, ez, k3, hpR, Try.underlying56]))
        have hpd : ∀ j, Hs 0 j ≠ none → upd (Hs (i + 1)) pid (some (encPg did lid κp { p with halted := true })) j ≠ none := fun j hj => upd_keepH _ (c.kH (i + 1) (by omega) j hj)
        refine RetR_sub rfl (wk_c (.inr (.inl ⟨rfl, True.intro⟩))) True.intro (Wf_set (c.wf (i + 1) (by omega)) (fun x hx => ?_) (fun _ h => h)) (fun j hj => ?_) (fun _ _ => rfl) hpd (c.kA (i + 1) (by omega))
        · have := c.wf (i + 1) (by omega) pid _ x hpj.h
          unfold encPg at hx this
          simp only [List.mem_cons, List.not_mem_nil, or_false] at hx this
          rcases hx with rfl | rfl | rfl | rfl | rfl
          · exact upd_keepH _ (this (.inl rfl))
          · exact upd_keepH _ (this (.inr (.inl rfl)))
          · exact True.intro
          · exact this (.inr (.inr (.inr (.inl rfl))))
          · exact True.intro
        · by_cases x : j = pid
          · subst x
            rw [upd_same]
            exact upd_same _ _ _
          · rw [upd_other _ _ x] at hj ⊢
            exact (upd_other _ _ x).trans (k4 j hj)
      · have ez : (e i != 0) = false := by rw [c.z i (by omega)]; rfl
        repeat' (first
         | with_reducible first | refine VC_seq fun K hK => ?_ | refine W_region ?_ | refine VC_block ?_ | refine VC_scope ?_ | refine VC_if ?_ | refine VC_skip ?_ | refine VC_exit ?_ | refine VC_ret ?_
         | (with_reducible first | refine G_not (fun h => ?_) (fun h => ?_) | refine G_cases (fun h => ?_) (fun h => ?_)) <;> (try simp only [h])
         | refine hcall _ _ _ _ ?_
         | with_reducible first | (refine hK _ ?_; clear hK K) | (clear hK K; refine hK _ ?_; clear hK K) | (clear hK K; clear hK K; refine hK _ ?_; clear hK K) | (clear hK K; clear hK K; clear hK K; refine hK _ ?_; clear hK K)
         | (with_reducible refine todo ?_; simp +decide only [go_sem, l1, hcc, hi3, Try.clFn, Nat.mul_one, hs1, hs2, ez, hnx, Try.underlying56]))
        have q1 : ∀ {X Y : AMap}, PV.wk (hOver [] (hOver (Try.cmL off pid lid s) (Hs (i + 1)))) X Y (.c (.ptr (off + 1) 0)) (.c (.ptr (off + 1) 0)) = True := hpt (by show hOver (Try.cmL off pid lid s) (Hs (i + 1)) (off + 1) ≠ none; rw [k3]; simp)
        have q2 : ∀ {X Y : AMap}, PV.wk (hOver [] (hOver (Try.cmL off pid lid s) (Hs (i + 1)))) X Y (.c (.vsl (off + 47) 4)) (.c (.vsl (off + 47) 4)) = True := hvs (by show hOver (Try.cmL off pid lid s) (Hs (i + 1)) (off + 47) ≠ none; rw [k1]; simp)
        refine Next_of hi2 (by omega) (Weak_overG wR (fun _ _ => rfl) rfl ?_ ?_ (kHL (i + 1) (by omega)) (c.kA (i + 1) (by omega)))
        · simp +decide only [go_sem, q1, q2]
        · simp +decide only [go_sem]
    · obtain rfl : i = 4 := by omega
      obtain ⟨κm', κc', d', dk', dl', dn', rv, rH, rA⟩ := hok (Nat.le_antisymm c.m4 him)
      have hlt4 := dk'.lt (c.ab 4 hi)
      have hdL : DkAt (hOver (Try.cmL off pid lid s) (Hs 4)) (As 4) did κm' κc' d' := ⟨by rw [l4 did (by rw [dk'.h]; simp)]; exact dk'.h, dk'.m, dk'.c⟩
      have hpL' : PgAt (hOver (Try.cmL off pid lid s) (Hs 4)) (As 4) pid did lid κp p := hpi.mv (l4 pid (by rw [hpi.h]; simp)) rfl
      have ka := Try.kPgAbort (off + 1000) wL hpL' hdL dl' dn'
      subst rv rH rA
      repeat' (first
       | with_reducible first | refine VC_seq fun K hK => ?_ | refine W_region ?_ | refine VC_block ?_ | refine VC_scope ?_ | refine VC_if ?_ | refine VC_skip ?_ | refine VC_exit ?_ | refine VC_ret ?_
       | (with_reducible first | refine G_not (fun h => ?_) (fun h => ?_) | refine G_cases (fun h => ?_) (fun h => ?_)) <;> (try simp only [h])
       | refine C_call rfl ka rfl aL ?_
       | with_reducible first | (refine hK _ ?_; clear hK K) | (clear hK K; refine hK _ ?_; clear hK K) | (clear hK K; clear hK K; refine hK _ ?_; clear hK K) | (clear hK K; clear hK K; clear hK K; refine hK _ ?_; clear hK K)
       | (with_reducible refine todo ?_; simp +decide only [go_sem, l3]))
      exact RetR_sub rfl (wk_c (.inr (.inl ⟨rfl, True.intro⟩))) True.intro (Wf_arr (c.wf 4 hi) upd_keep) (fun j hj => l4 j hj) (fun _ _ => rfl) (c.kH 4 hi) (fun τ h => upd_keep _ (c.kA 4 hi τ h))
end pg
end Go.Proofs

/-
  The pager: Commit where no fuse burns.
-/

namespace Go.Proofs
open Go.PW
theorem homeD_fused (d : Dk) (logs : Nat) (m : List (Int × List UInt8)) : ∀ k, (homeD d logs m k).fused = d.fused
  | 0 => rfl
  | k + 1 => by
    have ih := homeD_fused d logs m k
    unfold homeD
    split
    · exact ih
    · exact ih
section pg
variable {H : HMap} {A : AMap} {k pid did lid : Nat} {κm κc κp κr κ : Tok} {d : Dk} {p : Pg} {l : Lg} {m : List (Int × List UInt8)}
theorem Try.tHome (off : Nat) (hL : LW H A k did κm κc d) (hp : PgAt H A pid did lid κp p) (hl : p.logs ≤ d.n) (hn : d.n ≤ 4096) (hcl : d.cache.length ≤ 900000) (hm : A κ = some (.mp (encNS m))) (hlen : ∀ k r, findN k m 0 = some r → r.2.length ≤ 128)
    (hb : ∀ k r, k < pgN d p → findN (k : Int) m 0 = some r → burnt (homeD d p.logs m k) = false) :
    SOK off Try.prog 44 H A [.c (.ptr pid 0), .c (.mpr κ)] (pD (.lit (.int .i64 0))) fun H' A' => LW H' A' k did κm κc (homeD d p.logs m (pgN d p)) ∧ (∀ lid κr l, LgAt H A lid did κr l → LgAt H' A' lid did κr l) ∧ (∀ j, j ≠ did → H' j = H j) ∧ (∀ τ, τ ≠ κc → A' τ = A τ) ∧ ∀ τ, A τ ≠ none → A' τ ≠ none := by
  obtain ⟨n1, n2, n3⟩ := hL.ne
  have kc := Try.kHome off hL.wf hp hL.dk hl hn hcl hm hlen hb
  have hsp := homeD_spec d p.logs m (pgN d p)
  generalize homeD d p.logs m (pgN d p) = dn at *
  have kA : ∀ τ, A τ ≠ none → upd A κc (some (.co 2 dn.cache.length)) τ ≠ none := fun τ h => upd_keep _ h
  refine ⟨_, _, kc, ⟨?_, ?_, ?_⟩, ?_, fun j q1 => by rw [upd_other _ _ q1], fun τ q1 => by rw [upd_other _ _ q1], kA⟩
  · exact Wf_set hL.wf (DkAt.ok (kA κm (by rw [hL.dk.m]; simp)) (by rw [upd_same]; simp)) kA
  · exact Above_updA (Above_updH hL.ab n1) n3
  · exact ⟨upd_same _ _ _, by rw [upd_other _ _ hL.dk.ne.symm, hsp.2.2]; exact hL.dk.m, upd_same _ _ _⟩
  · intro lid κr l hl
    exact hl.mv (by rw [upd_other _ _ (hl.ne hL.dk)]) (by rw [upd_other _ _ (hl.nc hL.dk)])
/-- The disk behind a commit. -/
def cmD (d : Dk) (l : Lg) (p : Pg) (s : List UInt8) : Dk := nextD (flD (homeD (flD (apD l s (partsL s).length (partsL s) d (partsL s).length)) p.logs p.ch (pgN d p))) l.from_ (l.turn + 1) (l.turn + 1)
theorem cmD_n (d : Dk) (l : Lg) (p : Pg) (s : List UInt8) : (cmD d l p s).n = d.n := by
  show (homeD (flD (apD l s (partsL s).length (partsL s) d (partsL s).length)) p.logs p.ch (pgN d p)).n = d.n
  rw [(homeD_spec _ _ _ _).1]
  exact (apD_spec l s (partsL s).length (partsL s) d (partsL s).length).1
set_option maxRecDepth 8000 in
set_option maxHeartbeats 16000000 in
theorem Try.tCommitP (off : Nat) (hL : LW H A k did κm κc d) (hk : k + 4 ≤ off) (hp : PgAt H A pid did lid κp p) (hh : p.halted = false) (hne : p.ch ≠ []) (hl : LgAt H A lid did κr l) (hlh : l.halted = false) (hlogs : p.logs ≤ d.n) (hdn : d.n ≤ 4096) (hd0 : 0 < d.n)
    (hcl : d.cache.length ≤ 100000) (hrl : l.recs.length ≤ 1000000) (hf : d.fused = false) (hml : p.ch.length ≤ 100000) (hlen : ∀ k r, findN k p.ch 0 = some r → r.2.length ≤ 128) (hs : (recK p.ch (pgN d p)).length ≤ 5000) (hfit : l.used + needN (recK p.ch (pgN d p)).length ≤ l.places) (hlp : l.places ≤ 1000)
    (ht : l.turn + 1 < 9223372036854775807) (hin : l.from_ + 2 + l.places ≤ d.n) (hκp : κp ≠ κm) (hκr : κp ≠ κr) :
    SOK off Try.prog 21 H A [.c (.ptr pid 0)] (pD (.lit (.int .i64 0))) fun H' A' => LW H' A' (k + 3) did κm (k + 2, 0) (cmD d l p (recK p.ch (pgN d p))) ∧ LgAt H' A' lid did (k + 2, 1) { l with turn := l.turn + 1, base := l.turn + 1, used := 0, recs := [] } ∧
      PgAt H' A' pid did lid κp { p with ch := delK p.ch (dirtyK p.ch (pgN d p)) } ∧ (∀ j, j ≠ did → j ≠ lid → H' j = H j) ∧ (∀ τ, τ ≠ κm → τ ≠ κc → τ ≠ κr → τ ≠ κp → τ.1 < k → A' τ = A τ) ∧ (∀ j, H j ≠ none → H' j ≠ none) ∧ ∀ τ, A τ ≠ none → A' τ ≠ none := by
  have hsp := apD_spec l (recK p.ch (pgN d p)) (partsL (recK p.ch (pgN d p))).length (partsL (recK p.ch (pgN d p))) d (partsL (recK p.ch (pgN d p))).length
  obtain ⟨H1, A1, c0, L1, g1, _, f1, fa1, k1⟩ := Try.tAppend (off + 2000) hL hl hlh (recK p.ch (pgN d p)) hs hfit hlp (by omega) hin hdn (by omega) hrl hf
  have hpl := partsL_len (recK p.ch (pgN d p))
  obtain ⟨H2, A2, c1, L2, g2, f2, fa2, k2⟩ := Try.tCommit (off + 1000) L1 (by omega) g1 hlh (by rw [hsp.1]; exact hd0) (by rw [hsp.2.1]; omega) (by rw [hsp.2.2.1]; exact hf)
  have g2 := g2 _ _ _ g1
  have hpk := hp.lt hL.ab
  have q1 : pid ≠ did := hp.ne hL.dk
  have q2 : pid ≠ lid := hp.neL hl
  have q3 : κp ≠ κc := fun e => by have h1 := hp.m; rw [e, hL.dk.c] at h1; cases h1
  have hp1 : PgAt H1 A1 pid did lid κp p := hp.mv (f1 pid q1 q2) (fa1 κp q3 hκr)
  have hp2 : PgAt H2 A2 pid did lid κp p := hp1.mv (f2 pid q1) (fa2 κp hκp hpk.2)
  have n2 : (flD (apD l (recK p.ch (pgN d p)) (partsL (recK p.ch (pgN d p))).length (partsL (recK p.ch (pgN d p))) d (partsL (recK p.ch (pgN d p))).length)).n = d.n := hsp.1
  have fu2 : (flD (apD l (recK p.ch (pgN d p)) (partsL (recK p.ch (pgN d p))).length (partsL (recK p.ch (pgN d p))) d (partsL (recK p.ch (pgN d p))).length)).fused = false := hsp.2.2.1.trans hf
  have cl2 : (flD (apD l (recK p.ch (pgN d p)) (partsL (recK p.ch (pgN d p))).length (partsL (recK p.ch (pgN d p))) d (partsL (recK p.ch (pgN d p))).length)).cache.length = 0 := rfl
  have e3 : cmD d l p (recK p.ch (pgN d p)) = nextD (flD (homeD (flD (apD l (recK p.ch (pgN d p)) (partsL (recK p.ch (pgN d p))).length (partsL (recK p.ch (pgN d p))) d (partsL (recK p.ch (pgN d p))).length)) p.logs p.ch (pgN d p))) l.from_ (l.turn + 1) (l.turn + 1) := rfl
  generalize flD (apD l (recK p.ch (pgN d p)) (partsL (recK p.ch (pgN d p))).length (partsL (recK p.ch (pgN d p))) d (partsL (recK p.ch (pgN d p))).length) = d2 at *
  have epn : pgN d2 p = pgN d p := by unfold pgN; rw [n2]
  obtain ⟨H3, A3, c2, L3, g3, f3, fa3, k3⟩ := Try.tHome (off + 2000) L2 hp2 (by omega) (by omega) (by omega) hp2.m hlen (fun j r _ _ => burnt_no (by rw [homeD_fused]; exact fu2))
  have g3 := g3 _ _ _ g2
  have hp3 : PgAt H3 A3 pid did lid κp p := hp2.mv (f3 pid q1) (fa3 κp (tok_ne (by show κp.1 ≠ k; omega)))
  have hs3 := homeD_spec d2 p.logs p.ch (pgN d2 p)
  have hf3 : (homeD d2 p.logs p.ch (pgN d2 p)).fused = false := by rw [homeD_fused]; exact fu2
  have e3' : cmD d l p (recK p.ch (pgN d p)) = nextD (flD (homeD d2 p.logs p.ch (pgN d2 p))) l.from_ (l.turn + 1) (l.turn + 1) := by rw [epn]; exact e3
  have hpn4 : pgN d2 p ≤ 4096 := by unfold pgN; omega
  generalize homeD d2 p.logs p.ch (pgN d2 p) = d3 at *
  obtain ⟨H4, A4, c3, L4, g4, hp4, f4, fa4, kH4, k4⟩ := Try.tSettle (off + 1000) L3 (by omega) hp3 g3 hlh ht (by rw [hs3.1]; show l.from_ + 1 < d2.n; omega) (by omega) (by omega) hf3 hκp
  have e4 : cmD d l p (recK p.ch (pgN d p)) = nextD (flD d3) l.from_ (l.turn + 1) (l.turn + 1) := e3'
  have n4 : (cmD d l p (recK p.ch (pgN d p))).n = d.n := cmD_n _ _ _ _
  have pn4 : pgN (cmD d l p (recK p.ch (pgN d p))) p = pgN d p := congrArg (· - p.logs) n4
  have L4 : LW H4 A4 (k + 1 + 2) did κm (k + 1 + 1, 0) (cmD d l p (recK p.ch (pgN d p))) := by rw [e4]; exact L4
  have hd_ne : ∀ {H' : HMap} {A' : AMap} {κ1 κ2 : Tok} {d' : Dk}, DkAt H' A' did κ1 κ2 d' → H' did ≠ none := fun h => by rw [h.h]; simp
  have hl_ne : ∀ {H' : HMap} {A' : AMap} {κ1 : Tok} {l' : Lg}, LgAt H' A' lid did κ1 l' → H' lid ≠ none := fun h => by rw [h.h]; simp
  have s0 : ∀ j, H j ≠ none → H1 j ≠ none := fun j h => by
    by_cases x1 : j = did
    · rw [x1]; exact hd_ne L1.dk
    · by_cases x2 : j = lid
      · rw [x2]; exact hl_ne g1
      · rw [f1 j x1 x2]; exact h
  have s1 : ∀ j, H1 j ≠ none → H2 j ≠ none := fun j h => by
    by_cases x1 : j = did
    · rw [x1]; exact hd_ne L2.dk
    · rw [f2 j x1]; exact h
  have s2 : ∀ j, H2 j ≠ none → H3 j ≠ none := fun j h => by
    by_cases x1 : j = did
    · rw [x1]; exact hd_ne L3.dk
    · rw [f3 j x1]; exact h
  let Hs : Nat → HMap := fun i => match i with | 0 => H | 1 => H1 | 2 => H2 | 3 => H3 | _ => H4
  let As : Nat → AMap := fun i => match i with | 0 => A | 1 => A1 | 2 => A2 | 3 => A3 | _ => A4
  have C : ∀ R : Nat → HMap → AMap → Prop, R 0 H A → R 1 H1 A1 → R 2 H2 A2 → R 3 H3 A3 → R 4 H4 A4 → ∀ i, i ≤ 4 → R i (Hs i) (As i) := fun R r0 r1 r2 r3 r4 i hi => by
    match i, hi with
    | 0, _ => exact r0
    | 1, _ => exact r1
    | 2, _ => exact r2
    | 3, _ => exact r3
    | 4, _ => exact r4
  have cs : Try.CmS off pid did lid κp p (recK p.ch (pgN d p)) Hs As (fun _ => 0) 4 :=
    { wf := C (fun _ X Y => Wf X Y) hL.wf L1.wf L2.wf L3.wf L4.wf
      ab := C (fun _ X Y => Above off X Y) (Above_mono hL.ab (by omega)) (Above_mono L1.ab (by omega)) (Above_mono L2.ab (by omega)) (Above_mono L3.ab (by omega)) (Above_mono L4.ab (by omega))
      pg := C (fun _ X Y => PgAt X Y pid did lid κp p) hp hp1 hp2 hp3 hp4
      lg := C (fun _ X _ => X lid ≠ none) (hl_ne hl) (hl_ne g1) (hl_ne g2) (hl_ne g3) (hl_ne g4)
      kH := C (fun _ X _ => ∀ j, H j ≠ none → X j ≠ none) (fun _ h => h) s0 (fun j h => s1 j (s0 j h)) (fun j h => s2 j (s1 j (s0 j h))) (fun j h => kH4 j (s2 j (s1 j (s0 j h))))
      kA := C (fun _ _ Y => ∀ τ, A τ ≠ none → Y τ ≠ none) (fun _ h => h) k1 (fun τ h => k2 τ (k1 τ h)) (fun τ h => k3 τ (k2 τ (k1 τ h))) (fun τ h => k4 τ (k3 τ (k2 τ (k1 τ h))))
      sH := fun i hi => by
        match i, hi with
        | 0, _ => exact s0
        | 1, _ => exact s1
        | 2, _ => exact s2
        | 3, _ => exact kH4
      sA := fun i hi => by
        match i, hi with
        | 0, _ => exact k1
        | 1, _ => exact k2
        | 2, _ => exact k3
        | 3, _ => exact k4
      c0 := fun _ => c0
      c1 := fun _ => c1
      c2 := fun _ => c2
      c3 := fun _ => c3
      m4 := Nat.le_refl _
      z := fun _ _ => rfl
      nz := fun h => absurd h (Nat.lt_irrefl _) }
  refine ⟨H4, upd A4 κp (some (.mp (encNS (delK p.ch (dirtyK p.ch (pgN d p)))))), ?_, ?_, ?_, ?_, ?_, ?_, ?_, ?_⟩
  · exact Try.kPgCommitG cs hh hne hL.dk hlogs hdn hl hfit hlp (by omega) hlen (by omega) (fun _ => ⟨_, _, _, L4.dk, by rw [n4]; exact hlogs, by rw [n4]; exact hdn, rfl, rfl, by rw [pn4]; rfl⟩) (fun h => absurd h (Nat.lt_irrefl _))
  · have w := hp4.lt L4.ab
    have x1 : κp ≠ (k + 1 + 1, 0) := tok_ne (by show κp.1 ≠ k + 1 + 1; omega)
    exact ⟨Wf_arr L4.wf upd_keep, Above_updA L4.ab w.2, ⟨L4.dk.h, by rw [upd_other _ _ hκp.symm]; exact L4.dk.m, by rw [upd_other _ _ x1.symm]; exact L4.dk.c⟩⟩
  · exact g4.mv rfl (upd_other _ _ (tok_ne (by show k + 1 + 1 ≠ κp.1; omega)))
  · exact ⟨hp4.h, upd_same _ _ _⟩
  · intro j x1 x2
    rw [f4 j x1 x2, f3 j x1, f2 j x1, f1 j x1 x2]
  · intro τ x1 x2 x3 x4 x5
    rw [upd_other _ _ x4, fa4 τ x1 (by omega), fa3 τ (tok_ne (by show τ.1 ≠ k; omega)), fa2 τ x1 x5, fa1 τ x2 x3]
  · exact fun j h => kH4 j (s2 j (s1 j (s0 j h)))
  · exact fun τ h => upd_keep _ (k4 τ (k3 τ (k2 τ (k1 τ h))))
end pg
end Go.Proofs
