/-
  Parts of the proof, laid together: PwPp, PwPq, PwPr, PwPs, PwPt, PwPu, PwPv.
-/
import Derived.Test.YtghlemfokpfngaaQ32
import Derived.Test.YtghlemfokpfngaaQ28

namespace Go.Proofs
open Go.PW
def Try.cmL (off pid lid : Nat) (s : List UInt8) : List (Nat × List CV) :=
  [(off + 47, [.fn 32 [(off + 1, 0), (off + 3, 0)], .bfn 34 [(lid, 0)] [], .fn 35 [(off + 1, 0)], .bfn 37 [(pid, 0)] []]), (off + 3, [.d (dS s)]), (off + 1, [.ptr pid 0])]
theorem callv_fn {E : Env} {H H' : HMap} {A A' : AMap} {f : FuncId} {caps : List (Nat × Nat)} {v : PV} {K : PV → HMap → AMap → Prop} (h : E.Γe f (E.off + 1000) H A (caps.map capPV) v H' A') (hab : Above (E.off + 1000) H A) (hK : K v H' A') : callvV E H A (.c (.fn f caps)) [] K := ⟨v, H', A', h, hab, hK⟩
theorem callv_bfn {E : Env} {H H' : HMap} {A A' : AMap} {f : FuncId} {fst : List (Nat × Nat)} {v : PV} {K : PV → HMap → AMap → Prop} (h : E.Γe f (E.off + 1000) H A (fst.map capPV) v H' A') (hab : Above (E.off + 1000) H A) (hK : K v H' A') : callvV E H A (.c (.bfn f fst [])) [] K :=
  ⟨v, H', A', by simpa using h, hab, hK⟩
structure Try.CmS (off : Nat) (pid did lid : Nat) (κp : Tok) (p : Pg) (s : List UInt8) (Hs : Nat → HMap) (As : Nat → AMap) (e : Nat → Int) (m : Nat) : Prop where
  wf : ∀ i, i ≤ 4 → Wf (Hs i) (As i)
  ab : ∀ i, i ≤ 4 → Above off (Hs i) (As i)
  pg : ∀ i, i ≤ 4 → PgAt (Hs i) (As i) pid did lid κp p
  lg : ∀ i, i ≤ 4 → Hs i lid ≠ none
  kH : ∀ i, i ≤ 4 → ∀ j, Hs 0 j ≠ none → Hs i j ≠ none
  kA : ∀ i, i ≤ 4 → ∀ τ, As 0 τ ≠ none → As i τ ≠ none
  sH : ∀ i, i < 4 → ∀ j, Hs i j ≠ none → Hs (i + 1) j ≠ none
  sA : ∀ i, i < 4 → ∀ τ, As i τ ≠ none → As (i + 1) τ ≠ none
  c0 : 0 ≤ m → EffOK Try.prog 33 (off + 2000) (Hs 0) (As 0) [.c (.ptr lid 0), pD (dS s)] (pD (.lit (.int .i64 (e 0)))) (Hs 1) (As 1)
  c1 : 1 ≤ m → EffOK Try.prog 34 (off + 1000) (Hs 1) (As 1) [.c (.ptr lid 0)] (pD (.lit (.int .i64 (e 1)))) (Hs 2) (As 2)
  c2 : 2 ≤ m → EffOK Try.prog 36 (off + 2000) (Hs 2) (As 2) [.c (.ptr pid 0), .c (.mpr κp)] (pD (.lit (.int .i64 (e 2)))) (Hs 3) (As 3)
  c3 : 3 ≤ m → EffOK Try.prog 37 (off + 1000) (Hs 3) (As 3) [.c (.ptr pid 0)] (pD (.lit (.int .i64 (e 3)))) (Hs 4) (As 4)
  m4 : m ≤ 4
  z : ∀ i, i < m → e i = 0
  nz : m < 4 → e m ≠ 0
section pg
variable {pid did lid : Nat} {κp : Tok} {p : Pg} {s : List UInt8} {Hs : Nat → HMap} {As : Nat → AMap} {e : Nat → Int} {m off : Nat}
theorem Try.CmS.lay (c : Try.CmS off pid did lid κp p s Hs As e m) (i : Nat) (hi : i ≤ 4) :
    hOver (Try.cmL off pid lid s) (Hs i) (off + 47) = some [.fn 32 [(off + 1, 0), (off + 3, 0)], .bfn 34 [(lid, 0)] [], .fn 35 [(off + 1, 0)], .bfn 37 [(pid, 0)] []] ∧
    hOver (Try.cmL off pid lid s) (Hs i) (off + 3) = some [.d (dS s)] ∧ hOver (Try.cmL off pid lid s) (Hs i) (off + 1) = some [.ptr pid 0] ∧ (∀ j, Hs i j ≠ none → hOver (Try.cmL off pid lid s) (Hs i) j = Hs i j) ∧ (∀ q ∈ Try.cmL off pid lid s, Hs i q.1 = none) := by
  have fr : ∀ q ∈ Try.cmL off pid lid s, Hs i q.1 = none := fun q hq => by
    unfold Try.cmL at hq
    simp only [List.mem_cons, List.not_mem_nil, or_false] at hq
    rcases hq with rfl | rfl | rfl
    · exact (c.ab i hi _ (Nat.le_add_right _ _)).1
    · exact (c.ab i hi _ (Nat.le_add_right _ _)).1
    · exact (c.ab i hi _ (Nat.le_add_right _ _)).1
  refine ⟨if_pos rfl, ?_, ?_, fun j hj => hOver_out fun q hq e => hj (by rw [← e]; exact fr q hq), fr⟩
  · show (if off + 3 = off + 47 then _ else if off + 3 = off + 3 then _ else _) = _
    rw [if_neg (by omega), if_pos rfl]
  · show (if off + 1 = off + 47 then _ else if off + 1 = off + 3 then _ else if off + 1 = off + 1 then _ else _) = _
    rw [if_neg (by omega), if_neg (by omega), if_pos rfl]
theorem Try.CmS.wfL (c : Try.CmS off pid did lid κp p s Hs As e m) (i : Nat) (hi : i ≤ 4) : Wf (hOver (Try.cmL off pid lid s) (Hs i)) (As i) := by
  obtain ⟨l1, l2, l3, l4, l5⟩ := c.lay i hi
  have hp : hOver (Try.cmL off pid lid s) (Hs i) pid ≠ none := by rw [l4 pid (by rw [(c.pg i hi).h]; simp), (c.pg i hi).h]; simp
  have hl : hOver (Try.cmL off pid lid s) (Hs i) lid ≠ none := by rw [l4 lid (c.lg i hi)]; exact c.lg i hi
  have h1 : hOver (Try.cmL off pid lid s) (Hs i) (off + 1) ≠ none := by rw [l3]; simp
  have h3 : hOver (Try.cmL off pid lid s) (Hs i) (off + 3) ≠ none := by rw [l2]; simp
  intro id cs x hid hx
  by_cases k : Hs i id = none
  · have hin : ∃ q ∈ Try.cmL off pid lid s, q.1 = id := by
      refine Classical.byContradiction fun hn => ?_
      rw [hOver_out (fun q hq e => hn ⟨q, hq, e⟩), k] at hid
      cases hid
    obtain ⟨q, hq, rfl⟩ := hin
    unfold Try.cmL at hq
    simp only [List.mem_cons, List.not_mem_nil, or_false] at hq
    rcases hq with rfl | rfl | rfl
    · rw [l1] at hid
      cases hid
      simp only [List.mem_cons, List.not_mem_nil, or_false] at hx
      rcases hx with rfl | rfl | rfl | rfl
      · intro q hq
        simp only [List.mem_cons, List.not_mem_nil, or_false] at hq
        rcases hq with rfl | rfl
        · exact h1
        · exact h3
      · exact ⟨fun q hq => by rw [List.mem_singleton.1 hq]; exact hl, fun q hq => by cases hq⟩
      · intro q hq
        rw [List.mem_singleton.1 hq]; exact h1
      · exact ⟨fun q hq => by rw [List.mem_singleton.1 hq]; exact hp, fun q hq => by cases hq⟩
    · rw [l2] at hid
      cases hid
      rw [List.mem_singleton.1 hx]; exact True.intro
    · rw [l3] at hid
      cases hid
      rw [List.mem_singleton.1 hx]; exact hp
  · rw [l4 id k] at hid
    exact ok_mono (fun j hj => by rw [l4 j hj]; exact hj) (fun _ h => h) (c.wf i hi id cs x hid hx)
theorem Try.CmS.abL (c : Try.CmS off pid did lid κp p s Hs As e m) (i : Nat) (hi : i ≤ 4) : Above (off + 1000) (hOver (Try.cmL off pid lid s) (Hs i)) (As i) := by
  intro j hj
  refine ⟨?_, (c.ab i hi j (by omega)).2⟩
  rw [hOver_out (fun q hq e => ?_)]
  · exact (c.ab i hi j (by omega)).1
  · unfold Try.cmL at hq
    simp only [List.mem_cons, List.not_mem_nil, or_false] at hq
    rcases hq with rfl | rfl | rfl <;> (simp only at e; omega)
theorem oks_ptr1 {hk : Nat → Prop} {tk : Tok → Prop} {id : Nat} (h : hk id) : ∀ x ∈ ([.c (.ptr id 0)] : List PV), x.oks hk tk := fun x hx => by rw [List.mem_singleton.1 hx]; exact h
theorem Try.CmS.call (c : Try.CmS off pid did lid κp p s Hs As e m) (i : Nat) (hi : i < 4) (him : i ≤ m) : ∃ fc : CV, sub [.fn 32 [(off + 1, 0), (off + 3, 0)], .bfn 34 [(lid, 0)] [], .fn 35 [(off + 1, 0)], .bfn 37 [(pid, 0)] []] i 1 = some [fc] ∧
    ∀ (effs : List FuncId) (md st : List Nat) (K : PV → HMap → AMap → Prop), Todo (K (pD (.lit (.int .i64 (e i)))) (hOver (Try.cmL off pid lid s) (Hs (i + 1))) (As (i + 1))) → callvV (envOf Try.prog effs off md st) (hOver (Try.cmL off pid lid s) (Hs i)) (As i) (.c fc) [] K := by
  obtain ⟨l1, l2, l3, l4, l5⟩ := c.lay i (by omega)
  obtain ⟨_, _, _, k4, k5⟩ := c.lay (i + 1) (by omega)
  have hpn : Hs i pid ≠ none := by rw [(c.pg i (by omega)).h]; simp
  have hpp : PgAt (hOver (Try.cmL off pid lid s) (Hs i)) (As i) pid did lid κp p := (c.pg i (by omega)).mv (l4 _ hpn) rfl
  have kH : ∀ j, hOver (Try.cmL off pid lid s) (Hs i) j ≠ none → hOver (Try.cmL off pid lid s) (Hs (i + 1)) j ≠ none := fun j hj => by
    by_cases x : Hs i j = none
    · by_cases hin : ∃ q ∈ Try.cmL off pid lid s, q.1 = j
      · exact (hOver_in (H' := Hs i) hin).2
      · rw [hOver_out (fun q hq e => hin ⟨q, hq, e⟩)] at hj
        exact (hj x).elim
    · have := c.sH i hi j x
      rw [k4 j this]
      exact this
  have hln := c.lg i (by omega)
  have ab := c.abL i (by omega)
  have wf := c.wf i (by omega)
  have wL := c.wfL (i + 1) (by omega)
  have sA := c.sA i hi
  match i, hi with
  | 0, _ =>
    refine ⟨_, rfl, fun effs md st K hK => callv_fn ?_ ab hK⟩
    exact Try.kStep1 (off + 1000) l3 l2 hpp (eff_lay _ (c.c0 him) wf (fun x hx => by
      simp only [List.mem_cons, List.not_mem_nil, or_false] at hx
      rcases hx with rfl | rfl
      · exact hln
      · exact True.intro) l5 k5) wL kH sA
  | 1, _ =>
    refine ⟨_, rfl, fun effs md st K hK => callv_bfn ?_ ab hK⟩
    exact eff_lay _ (c.c1 him) wf (oks_ptr1 hln) l5 k5
  | 2, _ =>
    refine ⟨_, rfl, fun effs md st K hK => callv_fn ?_ ab hK⟩
    exact Try.kStep2 (off + 1000) l3 hpp (eff_lay _ (c.c2 him) wf (fun x hx => by
      simp only [List.mem_cons, List.not_mem_nil, or_false] at hx
      rcases hx with rfl | rfl
      · exact hpn
      · show As _ κp ≠ none
        rw [(c.pg 2 (by omega)).m]; simp) l5 k5) wL kH sA
  | 3, _ =>
    refine ⟨_, rfl, fun effs md st K hK => callv_bfn ?_ ab hK⟩
    exact eff_lay _ (c.c3 him) wf (oks_ptr1 hpn) l5 k5
end pg
end Go.Proofs

namespace Go.Proofs
open Go.PW
theorem C_row {E : Env} {t n : Nat} {T : TypeId} {ps : List (Nat × PV)} {H : HMap} {cs : List CV} {K : PV → HMap → Prop} (h : bslC E.P T n ps = some cs) (h0 : H (E.off + t) = none) (hK : Todo (K (.c (.vsl (E.off + t) n)) (upd H (E.off + t) (some cs)))) : bslV E (some t) T n ps H K := by
  unfold bslV
  refine Opt.iff.2 ⟨t, rfl, ?_⟩
  rw [h]
  exact Opt.iff.2 ⟨cs, rfl, h0, hK⟩
theorem Try.clFn : Try.prog.cellsOf 38 = 1 := by kernel_rfl
theorem Try.bslF (a b l p : Nat) : bslC Try.prog 69 4 [(0, .c (.fn 32 [(a, 0), (b, 0)])), (1, .c (.bfn 34 [(l, 0)] [])), (2, .c (.fn 35 [(a, 0)])), (3, .c (.bfn 37 [(p, 0)] []))] =
    some [.fn 32 [(a, 0), (b, 0)], .bfn 34 [(l, 0)] [], .fn 35 [(a, 0)], .bfn 37 [(p, 0)] []] := by kernel_rfl
section pg
variable {pid did lid : Nat} {κm κc κp κr : Tok} {d : Dk} {p : Pg} {l : Lg} {Hs : Nat → HMap} {As : Nat → AMap} {e : Nat → Int} {m off : Nat}
set_option maxRecDepth 8000 in
set_option maxHeartbeats 32000000 in
theorem Try.kPgCommitG (c : Try.CmS off pid did lid κp p (recK p.ch (pgN d p)) Hs As e m) (hh : p.halted = false) (hne : p.ch ≠ []) (hd : DkAt (Hs 0) (As 0) did κm κc d) (hl : p.logs ≤ d.n) (hn : d.n ≤ 4096) (hlg : LgAt (Hs 0) (As 0) lid did κr l)
    (hfit : l.used + needN (recK p.ch (pgN d p)).length ≤ l.places) (hlp : l.places ≤ 1000) (hml : p.ch.length ≤ 1000000) (hlen : ∀ k r, findN k p.ch 0 = some r → r.2.length ≤ 128) (hrl : (recK p.ch (pgN d p)).length ≤ 100000)
    {v : PV} {H' : HMap} {A' : AMap} (hok : m = 4 → ∃ κm' κc' d', DkAt (Hs 4) (As 4) did κm' κc' d' ∧ p.logs ≤ d'.n ∧ d'.n ≤ 4096 ∧ v = pD (.lit (.int .i64 0)) ∧ H' = Hs 4 ∧ A' = upd (As 4) κp (some (.mp (encNS (delK p.ch (dirtyK p.ch (pgN d' p)))))))
    (hno : m < 4 → v = pD (.lit (.int .i64 (e m))) ∧ H' = upd (Hs (m + 1)) pid (some (encPg did lid κp { p with halted := true })) ∧ A' = As (m + 1)) :
    EffOK Try.prog 9 off (Hs 0) (As 0) [.c (.ptr pid 0)] v H' A' := by
  refine effr_ok (E := envOf Try.prog [29, 7000000 + 30, 31, 18, 5000000 + 47, 6000000 + 69] off [] []) (envOf_ok Try.mixed) Try.func9 rfl Try.call9 (by kernel_rfl) (by exact Nat.le_of_ble_eq_true rfl) (fun hab => ?_)
  have hp := c.pg 0 (Nat.zero_le _)
  have hw := c.wf 0 (Nat.zero_le _)
  have hph := hp.h
  unfold encPg at hph
  have hpo := hp.lt hab
  have hlo := hlg.lt hab
  have hdo := hd.lt hab
  have n1 : (Hs 0) (off + 1) = none := (hab _ (by omega)).1
  have n3 : (Hs 0) (off + 3) = none := (hab _ (by omega)).1
  have n47 : (Hs 0) (off + 47) = none := (hab _ (by omega)).1
  have p1 : (pid = off + 1) = False := eq_false (by omega)
  have p3 : (pid = off + 3) = False := eq_false (by omega)
  have hw1 : Wf (upd (Hs 0) (off + 1) (some [.ptr pid 0])) (As 0) := Wf_set hw (fun x hx => by rw [List.mem_singleton.1 hx]; exact upd_keepH _ (by rw [hp.h]; simp)) (fun _ h => h)
  have hp1 : PgAt (upd (Hs 0) (off + 1) (some [.ptr pid 0])) (As 0) pid did lid κp p := hp.mv (upd_other _ _ (by omega)) rfl
  have hd1 : DkAt (upd (Hs 0) (off + 1) (some [.ptr pid 0])) (As 0) did κm κc d := ⟨by rw [upd_other _ _ (by omega)]; exact hd.h, hd.m, hd.c⟩
  have ab1 : Above (off + 1000) (upd (Hs 0) (off + 1) (some [.ptr pid 0])) (As 0) := Above_updH (Above_mono hab (by omega)) (by omega)
  have kt := Try.kThere (off + 1000) hw1 hp1
  have kr := Try.kRecord (off + 1000) hw1 hp1 hd1 hl hn hp.m hml hlen
  generalize recK p.ch (pgN d p) = s at *
  have hw3 : Wf (upd (upd (Hs 0) (off + 1) (some [.ptr pid 0])) (off + 3) (some [.d (dS s)])) (As 0) := Wf_upd hw1 rfl
  have hl3 : LgAt (upd (upd (Hs 0) (off + 1) (some [.ptr pid 0])) (off + 3) (some [.d (dS s)])) (As 0) lid did κr l := hlg.mv (by rw [upd_other _ _ (by omega), upd_other _ _ (by omega)]) rfl
  have ab3 : Above (off + 1000) (upd (upd (Hs 0) (off + 1) (some [.ptr pid 0])) (off + 3) (some [.d (dS s)])) (As 0) := Above_updH ab1 (by omega)
  have kf := Try.kFits (off + 1000) hw3 hl3 s.length hrl (by omega) hlp
  have hft : decide (l.used + needN s.length ≤ l.places) = true := decide_eq_true hfit
  rw [hft] at kf
  have hlm : lenM Try.prog (As 0) [47] [.c (.mpr κp)] = some (.c (.d (.lit (.int .i64 p.ch.length)))) := by
    rw [lenM_of (P := Try.prog) (t := 47) Try.underlying47 hp.m]
    unfold encNS
    rw [List.length_map]
  have z0 : ((p.ch.length : Int) == 0) = false := by
    rw [beq_eq_false_iff_ne]
    have := List.length_pos_iff.2 hne
    omega
  have hbs := Try.bslF (off + 1) (off + 3) lid pid
  have e13 : ((off + 1 : Nat) == off + 3) = false := by rw [beq_eq_false_iff_ne]; omega
  have ep3 : ((pid : Nat) == off + 3) = false := by rw [beq_eq_false_iff_ne]; omega
  have hoks : ∀ x ∈ ([.c (.ptr pid 0), .c (.mpr κp)] : List PV), x.oks (fun i => upd (Hs 0) (off + 1) (some [.ptr pid 0]) i ≠ none) (fun τ => As 0 τ ≠ none) := fun x hx => by
    simp only [List.mem_cons, List.not_mem_nil, or_false] at hx
    rcases hx with rfl | rfl
    · exact upd_keepH _ (by rw [hp.h]; simp)
    · show As 0 κp ≠ none
      rw [hp.m]; simp
  have q31 : (off + 3 = off + 1) = False := eq_false (by omega)
  have q13 : (off + 1 = off + 3) = False := eq_false (by omega)
  have n47' : (upd (upd (Hs 0) (off + 1) (some [.ptr pid 0])) (off + 3) (some [.d (dS s)])) (off + 47) = none := by rw [upd_other _ _ (by omega), upd_other _ _ (by omega)]; exact n47
  repeat' (first
   |with_reducible first|refine vSq fun K hK=>?_|refine vRg ?_|refine vBl ?_|refine vSc ?_|refine vIf ?_|refine vSk ?_|refine vEx ?_|refine vRt ?_
   |(with_reducible first|refine gNt (fun h=>?_) (fun h=>?_)|refine gCs (fun h=>?_) (fun h=>?_))<;>(try simp only[h])
   |refine C_row hbs n47' ?_
   |refine And.intro n1 ?_
   |refine And.intro n3 ?_
   |refine C_call rfl kf rfl ab3 ?_
   |refine C_call rfl kt rfl ab1 ?_
   |refine C_rmore rfl rfl kr hw1 hoks rfl ab1 ?_
   |with_reducible first|(refine hK _ ?_;clear hK K)|(clear hK K;refine hK _ ?_;clear hK K)|(clear hK K;clear hK K;refine hK _ ?_;clear hK K)|(clear hK K;clear hK K;clear hK K;refine hK _ ?_;clear hK K)
   |(with_reducible refine todo ?_;simp +decide only[go_sem, q31, q13, List.filterMap_cons, List.filterMap_nil, hph, hh, hlm, z0, p1, p3, e13, ep3, upd_twice]))
  have hpt : ∀ {G : HMap} {X Y : AMap} {j : Nat}, G j ≠ none → PV.wk G X Y (.c (.ptr j 0)) (.c (.ptr j 0)) = True := fun h => eq_true (wkP_ptr h)
  have hvs : ∀ {G : HMap} {X Y : AMap} {j n : Nat}, G j ≠ none → PV.wk G X Y (.c (.vsl j n)) (.c (.vsl j n)) = True := fun h => eq_true (wk_c (.inr (.inl ⟨rfl, h⟩)))
  have kHL : ∀ i, i ≤ 4 → ∀ j, Hs 0 j ≠ none → hOver (Try.cmL off pid lid s) (Hs i) j ≠ none := fun i hi j hj => by
    have := c.kH i hi j hj
    rw [(c.lay i hi).2.2.2.1 j this]
    exact this
  refine VC_range 4 (fun i => i ≤ m) (fun i => over [(1, .c (.ptr (off + 1) 0)), (48, .c (.vsl (off + 47) 4)), (49, pD (.lit (.int .i64 ((4 : Nat) : Int)))), (50, pD (.lit (.int .i64 i)))] [] (hOver (Try.cmL off pid lid s) (Hs i)) (As i)) (Nat.zero_le _) ?_ ?_
  · obtain ⟨l1, l2, l3, l4, l5⟩ := c.lay 0 (Nat.zero_le _)
    refine Weak_overG (c.wfL 0 (Nat.zero_le _)) (fun _ _ => rfl) rfl ?_ ?_ (kHL 0 (Nat.zero_le _)) (fun _ h => h)
    · have k1 : ∀ {X Y : AMap}, PV.wk (hOver [] (hOver (Try.cmL off pid lid s) (Hs 0))) X Y (.c (.ptr (off + 1) 0)) (.c (.ptr (off + 1) 0)) = True := hpt (by show hOver (Try.cmL off pid lid s) (Hs 0) (off + 1) ≠ none; rw [l3]; simp)
      have k2 : ∀ {X Y : AMap}, PV.wk (hOver [] (hOver (Try.cmL off pid lid s) (Hs 0))) X Y (.c (.vsl (off + 47) 4)) (.c (.vsl (off + 47) 4)) = True := hvs (by show hOver (Try.cmL off pid lid s) (Hs 0) (off + 47) ≠ none; rw [l1]; simp)
      simp +decide only [go_sem, k1, k2]
    · simp +decide only [go_sem]
  · intro i hi him
    obtain ⟨l1, l2, l3, l4, l5⟩ := c.lay i hi
    have hpi := c.pg i hi
    have hpL : hOver (Try.cmL off pid lid s) (Hs i) pid = some [.ptr did 0, .ptr lid 0, .d (.lit (.int .i64 p.logs)), .mpr κp, .d (.lit (.bool p.halted))] := by rw [l4 pid (by rw [hpi.h]; simp), hpi.h]; rfl
    have wL := c.wfL i hi
    have aL := c.abL i hi
    rcases Nat.lt_or_ge i 4 with hi2 | hi2
    · obtain ⟨fc, hsub, hcall⟩ := c.call i hi2 him
      obtain ⟨k1, k2, k3, k4, k5⟩ := c.lay (i + 1) (by omega)
      generalize [CV.fn 32 [(off + 1, 0), (off + 3, 0)], CV.bfn 34 [(lid, 0)] [], CV.fn 35 [(off + 1, 0)], CV.bfn 37 [(pid, 0)] []] = cl at hsub l1 k1
      have hs1 : (i + 1 ≤ cl.length) = True := eq_true (by unfold sub at hsub; split at hsub <;> first | assumption | cases hsub)
      have hs2 : List.take 1 (List.drop i cl) = [fc] := by
        unfold sub at hsub
        split at hsub
        · exact Option.some.inj hsub
        · cases hsub
      have hpj := c.pg (i + 1) (by omega)
      have hpR : hOver (Try.cmL off pid lid s) (Hs (i + 1)) pid = some [.ptr did 0, .ptr lid 0, .d (.lit (.int .i64 p.logs)), .mpr κp, .d (.lit (.bool p.halted))] := by rw [k4 pid (by rw [hpj.h]; simp), hpj.h]; rfl
      have wR := c.wfL (i + 1) (by omega)
      have hcc := int_lt_true hi2
      have hnx := int_next (n := 4) hi2 (by omega)
      have hi3 : (i < 4) = True := eq_true hi2
      by_cases hz : i = m
      · have ez : (e i != 0) = true := by rw [hz]; simpa using c.nz (by omega)
        obtain ⟨rv, rH, rA⟩ := hno (by omega)
        rw [rv, rH, rA, ← hz]
        repeat' (first
         |with_reducible first|refine vSq fun K hK=>?_|refine vRg ?_|refine vBl ?_|refine vSc ?_|refine vIf ?_|refine vSk ?_|refine vEx ?_|refine vRt ?_
         |(with_reducible first|refine gNt (fun h=>?_) (fun h=>?_)|refine gCs (fun h=>?_) (fun h=>?_))<;>(try simp only[h])
         |refine hcall _ _ _ _ ?_
         |with_reducible first|(refine hK _ ?_;clear hK K)|(clear hK K;refine hK _ ?_;clear hK K)|(clear hK K;clear hK K;refine hK _ ?_;clear hK K)|(clear hK K;clear hK K;clear hK K;refine hK _ ?_;clear hK K)
         |(with_reducible refine todo ?_;simp +decide only[go_sem, l1, hcc, hi3, Try.clFn, Nat.mul_one, hs1, hs2, ez, k3, hpR, Try.underlying38]))
        have hpd : ∀ j, Hs 0 j ≠ none → upd (Hs (i + 1)) pid (some (encPg did lid κp { p with halted := true })) j ≠ none := fun j hj => upd_keepH _ (c.kH (i + 1) (by omega) j hj)
        refine RetR_sub rfl (wk_c (.inr (.inl ⟨rfl, True.intro⟩))) True.intro (Wf_set (c.wf (i + 1) (by omega)) (fun x hx => ?_) (fun _ h => h)) (fun j hj => ?_) (fun _ _ => rfl) hpd (c.kA (i + 1) (by omega))
        · have := c.wf (i + 1) (by omega) pid _ x hpj.h
          unfold encPg at hx this
          simp only [List.mem_cons, List.not_mem_nil, or_false] at hx this
          rcases hx with rfl | rfl | rfl | rfl | rfl
          · exact upd_keepH _ (this (.inl rfl))
          · exact upd_keepH _ (this (.inr (.inl rfl)))
          · exact True.intro
          · exact this (.inr (.inr (.inr (.inl rfl))))
          · exact True.intro
        · by_cases x : j = pid
          · subst x
            rw [upd_same]
            exact upd_same _ _ _
          · rw [upd_other _ _ x] at hj ⊢
            exact (upd_other _ _ x).trans (k4 j hj)
      · have ez : (e i != 0) = false := by rw [c.z i (by omega)]; rfl
        repeat' (first
         |with_reducible first|refine vSq fun K hK=>?_|refine vRg ?_|refine vBl ?_|refine vSc ?_|refine vIf ?_|refine vSk ?_|refine vEx ?_|refine vRt ?_
         |(with_reducible first|refine gNt (fun h=>?_) (fun h=>?_)|refine gCs (fun h=>?_) (fun h=>?_))<;>(try simp only[h])
         |refine hcall _ _ _ _ ?_
         |with_reducible first|(refine hK _ ?_;clear hK K)|(clear hK K;refine hK _ ?_;clear hK K)|(clear hK K;clear hK K;refine hK _ ?_;clear hK K)|(clear hK K;clear hK K;clear hK K;refine hK _ ?_;clear hK K)
         |(with_reducible refine todo ?_;simp +decide only[go_sem, l1, hcc, hi3, Try.clFn, Nat.mul_one, hs1, hs2, ez, hnx, Try.underlying38]))
        have q1 : ∀ {X Y : AMap}, PV.wk (hOver [] (hOver (Try.cmL off pid lid s) (Hs (i + 1)))) X Y (.c (.ptr (off + 1) 0)) (.c (.ptr (off + 1) 0)) = True := hpt (by show hOver (Try.cmL off pid lid s) (Hs (i + 1)) (off + 1) ≠ none; rw [k3]; simp)
        have q2 : ∀ {X Y : AMap}, PV.wk (hOver [] (hOver (Try.cmL off pid lid s) (Hs (i + 1)))) X Y (.c (.vsl (off + 47) 4)) (.c (.vsl (off + 47) 4)) = True := hvs (by show hOver (Try.cmL off pid lid s) (Hs (i + 1)) (off + 47) ≠ none; rw [k1]; simp)
        refine Next_of hi2 (by omega) (Weak_overG wR (fun _ _ => rfl) rfl ?_ ?_ (kHL (i + 1) (by omega)) (c.kA (i + 1) (by omega)))
        · simp +decide only [go_sem, q1, q2]
        · simp +decide only [go_sem]
    · obtain rfl : i = 4 := by omega
      obtain ⟨κm', κc', d', dk', dl', dn', rv, rH, rA⟩ := hok (Nat.le_antisymm c.m4 him)
      have hlt4 := dk'.lt (c.ab 4 hi)
      have hdL : DkAt (hOver (Try.cmL off pid lid s) (Hs 4)) (As 4) did κm' κc' d' := ⟨by rw [l4 did (by rw [dk'.h]; simp)]; exact dk'.h, dk'.m, dk'.c⟩
      have hpL' : PgAt (hOver (Try.cmL off pid lid s) (Hs 4)) (As 4) pid did lid κp p := hpi.mv (l4 pid (by rw [hpi.h]; simp)) rfl
      have ka := Try.kPgAbort (off + 1000) wL hpL' hdL dl' dn'
      subst rv rH rA
      repeat' (first
       |with_reducible first|refine vSq fun K hK=>?_|refine vRg ?_|refine vBl ?_|refine vSc ?_|refine vIf ?_|refine vSk ?_|refine vEx ?_|refine vRt ?_
       |(with_reducible first|refine gNt (fun h=>?_) (fun h=>?_)|refine gCs (fun h=>?_) (fun h=>?_))<;>(try simp only[h])
       |refine C_call rfl ka rfl aL ?_
       |with_reducible first|(refine hK _ ?_;clear hK K)|(clear hK K;refine hK _ ?_;clear hK K)|(clear hK K;clear hK K;refine hK _ ?_;clear hK K)|(clear hK K;clear hK K;clear hK K;refine hK _ ?_;clear hK K)
       |(with_reducible refine todo ?_;simp +decide only[go_sem, l3]))
      exact RetR_sub rfl (wk_c (.inr (.inl ⟨rfl, True.intro⟩))) True.intro (Wf_arr (c.wf 4 hi) upd_keep) (fun j hj => l4 j hj) (fun _ _ => rfl) (c.kH 4 hi) (fun τ h => upd_keep _ (c.kA 4 hi τ h))
end pg
end Go.Proofs

namespace Go.Proofs
open Go.PW
theorem homeD_fused (d : Dk) (logs : Nat) (m : List (Int × List UInt8)) : ∀ k, (homeD d logs m k).fused = d.fused
  | 0 => rfl
  | k + 1 => by
    have ih := homeD_fused d logs m k
    unfold homeD
    split
    · exact ih
    · exact ih
section pg
variable {H : HMap} {A : AMap} {k pid did lid : Nat} {κm κc κp κr κ : Tok} {d : Dk} {p : Pg} {l : Lg} {m : List (Int × List UInt8)}
end pg
end Go.Proofs

namespace Go.Proofs
open Go.PW
def valR (k : Int) : List (Int × List UInt8) → Option (List UInt8)
  | [] => none
  | p :: m => if p.1 = k then some p.2 else valR k m
theorem valR_find (k : Int) : ∀ m, (findN k m 0).map (·.2) = valR k m
  | [] => rfl
  | p :: m => by
    have ih := valR_find k m
    unfold findN valR
    by_cases h : p.1 = k
    · rw [if_pos h, if_pos h]; rfl
    · rw [if_neg h, if_neg h, findN_shift, ← ih]
      cases findN k m 0 <;> rfl
theorem valR_put (j k : Int) (s : List UInt8) : ∀ m, valR j (putR k s m) = if k = j then some s else valR j m
  | [] => by
    show valR j [(k, s)] = _
    unfold valR
    rfl
  | p :: m => by
    have ih := valR_put j k s m
    unfold putR
    by_cases h : p.1 = k
    · rw [if_pos h]
      unfold valR
      subst h
      by_cases h2 : p.1 = j
      · simp [h2]
      · simp [h2]
    · rw [if_neg h]
      unfold valR
      rw [ih]
      by_cases h2 : p.1 = j
      · rw [if_pos h2, if_pos h2, if_neg (fun e => h (by rw [h2, e]))]
      · rw [if_neg h2, if_neg h2]
theorem valR_none {j : Int} : ∀ {m : List (Int × List UInt8)}, valR j m = none ↔ j ∉ keysN m
  | [] => by simp [valR, keysN]
  | p :: m => by
    have ih := valR_none (j := j) (m := m)
    unfold valR
    by_cases h : p.1 = j
    · rw [if_pos h]; simp [keysN, h]
    · rw [if_neg h, ih]
      simp [keysN, Ne.symm h]
theorem valR_mem {j : Int} {s : List UInt8} : ∀ {m : List (Int × List UInt8)}, valR j m = some s → (j, s) ∈ m
  | [], h => by cases h
  | p :: m, h => by
    unfold valR at h
    split at h
    · rename_i e
      cases h
      rw [← e]
      exact List.mem_cons_self
    · exact List.mem_cons_of_mem _ (valR_mem h)
structure KsOK (N : Nat) (m : List (Int × List UInt8)) : Prop where
  nd : (keysN m).Nodup
  rg : ∀ x ∈ m, 0 ≤ x.1 ∧ x.1 < (N : Int)
  len : ∀ x ∈ m, x.2.length = 128
theorem KsOK.nil (N : Nat) : KsOK N [] := ⟨List.nodup_nil, fun _ h => (by cases h), fun _ h => (by cases h)⟩
theorem putR_mem {k : Int} {s : List UInt8} : ∀ {m : List (Int × List UInt8)} {x}, x ∈ putR k s m → x = (k, s) ∨ x ∈ m
  | [], x, h => by
    have : x = (k, s) := by simpa [putR] using h
    exact .inl this
  | p :: m, x, h => by
    unfold putR at h
    split at h
    · rcases List.mem_cons.1 h with h | h
      · exact .inl h
      · exact .inr (List.mem_cons_of_mem _ h)
    · rcases List.mem_cons.1 h with h | h
      · exact .inr (by rw [h]; exact List.mem_cons_self)
      · exact (putR_mem h).imp id fun h => List.mem_cons_of_mem _ h
theorem KsOK.put {N : Nat} {m : List (Int × List UInt8)} (h : KsOK N m) {k : Nat} (hk : k < N) {s : List UInt8} (hs : s.length = 128) : KsOK N (putN m k s) := by
  rw [putN_R]
  refine ⟨putR_nd _ _ _ h.nd, fun x hx => ?_, fun x hx => ?_⟩
  · rcases putR_mem hx with rfl | hx
    · exact ⟨by show (0 : Int) ≤ (k : Int); omega, by show (k : Int) < (N : Int); omega⟩
    · exact h.rg x hx
  · rcases putR_mem hx with rfl | hx
    · exact hs
    · exact h.len x hx
theorem KsOK.find {N : Nat} {m : List (Int × List UInt8)} (h : KsOK N m) : ∀ k r, findN k m 0 = some r → r.2.length ≤ 128 := fun k r hr => by
  have h1 := valR_find k m
  rw [hr] at h1
  have := h.len _ (valR_mem h1.symm)
  simp only at this
  omega
theorem nodup_range_len : ∀ (N : Nat) (l : List Int), l.Nodup → (∀ x ∈ l, 0 ≤ x ∧ x < (N : Int)) → l.length ≤ N
  | 0, l, _, hr => by
    cases l with
    | nil => exact Nat.le_refl _
    | cons a l => have := hr a List.mem_cons_self; omega
  | N + 1, l, hn, hr => by
    by_cases h : (N : Int) ∈ l
    · have := nodup_range_len N (l.erase (N : Int)) (hn.erase _) (fun x hx => by
        obtain ⟨h1, h2⟩ := hn.mem_erase_iff.1 hx
        have := hr x h2
        omega)
      rw [List.length_erase_of_mem h] at this
      omega
    · have := nodup_range_len N l hn (fun x hx => by
        have h1 := hr x hx
        have : x ≠ (N : Int) := fun e => h (by rw [← e]; exact hx)
        omega)
      omega
theorem KsOK.le {N : Nat} {m : List (Int × List UInt8)} (h : KsOK N m) : m.length ≤ N := by
  have := nodup_range_len N (keysN m) h.nd (fun x hx => by
    obtain ⟨y, hy, rfl⟩ := List.mem_map.1 hx
    exact h.rg y hy)
  simpa [keysN] using this
theorem delR_not (k : Int) : ∀ m, (keysN m).Nodup → k ∉ keysN (delR k m)
  | [], _ => by simp [delR, keysN]
  | p :: m, h => by
    have h' : p.1 ∉ keysN m ∧ (keysN m).Nodup := List.nodup_cons.1 h
    unfold delR
    by_cases e : p.1 = k
    · rw [if_pos e, ← e]; exact h'.1
    · rw [if_neg e]
      show k ∉ p.1 :: keysN (delR k m)
      rw [List.mem_cons, not_or]
      exact ⟨fun h => e h.symm, delR_not k m h'.2⟩
theorem delK_spec : ∀ (l : List Int) (m : List (Int × List UInt8)), (keysN m).Nodup → ∀ j ∈ keysN (delK m l), j ∈ keysN m ∧ j ∉ l
  | [], m, _, j, h => ⟨h, by simp⟩
  | k :: l, m, hn, j, h => by
    have h' : j ∈ keysN (delK (delN m k) l) := h
    rw [delN_R] at h'
    obtain ⟨h1, h2⟩ := delK_spec l (delR k m) (delR_nd k m hn) j h'
    refine ⟨delR_keys k m j h1, ?_⟩
    rw [List.mem_cons, not_or]
    exact ⟨fun e => delR_not k m hn (e ▸ h1), h2⟩
theorem dirtyK_mem {m : List (Int × List UInt8)} {j : Nat} (h : (findN (j : Int) m 0).isSome = true) : ∀ {k}, j < k → (j : Int) ∈ dirtyK m k
  | 0, hk => by omega
  | k + 1, hk => by
    unfold dirtyK
    rw [List.mem_append]
    by_cases e : j = k
    · subst e
      right
      rw [if_pos h]; simp
    · exact .inl (dirtyK_mem h (by omega))
theorem KsOK.gone {N : Nat} {m : List (Int × List UInt8)} (h : KsOK N m) : delK m (dirtyK m N) = [] := by
  refine List.eq_nil_iff_forall_not_mem.2 fun x hx => ?_
  obtain ⟨h1, h2⟩ := delK_spec (dirtyK m N) m h.nd x.1 (List.mem_map.2 ⟨x, hx, rfl⟩)
  obtain ⟨y, hy, e⟩ := List.mem_map.1 h1
  have hr := h.rg y hy
  obtain ⟨j, hj⟩ : ∃ j : Nat, x.1 = (j : Int) := ⟨x.1.toNat, by rw [← e]; omega⟩
  rw [hj] at h1 h2
  refine h2 (dirtyK_mem ?_ (by omega))
  have h3 : valR (j : Int) m ≠ none := fun h0 => valR_none.1 h0 h1
  rw [← valR_find] at h3
  cases hf : findN (j : Int) m 0 with
  | none => rw [hf] at h3; exact (h3 rfl).elim
  | some _ => rfl
theorem pgRd_val (d : Dk) (p : Pg) (j : Nat) : pgRd d p j = (valR (j : Int) p.ch).getD (rd d ((p.logs + j : Nat) : Int)) := by
  unfold pgRd
  rw [← valR_find]
  cases findN (j : Int) p.ch 0 <;> rfl
theorem uintB_small {n : Nat} (h : n < 128) : (uintB n).length = 1 := by
  unfold uintB
  rw [uintK_small h]; rfl
theorem uintB_two {n : Nat} (h : n < 16384) : (uintB n).length ≤ 2 := by
  by_cases h2 : n < 128
  · rw [uintB_small h2]; omega
  · unfold uintB
    unfold uintK
    rw [if_neg h2, List.length_cons, uintK_small (by omega)]
    simp
theorem recK_le {m : List (Int × List UInt8)} (hm : m.length < 128) (hlen : ∀ k r, findN k m 0 = some r → r.2.length ≤ 128) : ∀ k, k ≤ 128 → (recK m k).length ≤ 1 + 131 * k
  | 0, _ => by
    unfold recK
    rw [uintB_small hm]; omega
  | k + 1, hk => by
    have ih := recK_le hm hlen k (by omega)
    unfold recK
    split
    · rename_i r hf
      have h1 := hlen _ _ hf
      have h2 := bareL_len r.2
      have h3 : (uintB k).length = 1 := uintB_small (by omega)
      have h4 := uintB_two (n := (bareL r.2).length) (by omega)
      unfold textB
      simp only [List.length_append]
      omega
    · omega
theorem rd_home_out {d : Dk} {logs : Nat} {m : List (Int × List UInt8)} {j : Int} : ∀ {K : Nat}, (∀ i, i < K → ((logs + i : Nat) : Int) ≠ j) → rd (homeD d logs m K) j = rd d j
  | 0, _ => rfl
  | K + 1, h => by
    have ih := rd_home_out (d := d) (logs := logs) (m := m) (j := j) (K := K) (fun i hi => h i (by omega))
    unfold homeD
    split
    · rw [rd_wr, if_neg (h K (by omega))]; exact ih
    · exact ih
theorem rd_home_in {d : Dk} {logs : Nat} {m : List (Int × List UInt8)} {i : Nat} : ∀ {K : Nat}, i < K → rd (homeD d logs m K) ((logs + i : Nat) : Int) = match valR (i : Int) m with
    | some s => pad s
    | none => rd d ((logs + i : Nat) : Int)
  | 0, h => by omega
  | K + 1, h => by
    by_cases e : i = K
    · subst e
      have ho := rd_home_out (d := d) (logs := logs) (m := m) (j := ((logs + i : Nat) : Int)) (K := i) (fun a ha => by omega)
      unfold homeD
      rw [← valR_find]
      cases hf : findN (i : Int) m 0 with
      | none => exact ho
      | some r => rw [rd_wr, if_pos rfl]; rfl
    · have ih := rd_home_in (d := d) (logs := logs) (m := m) (i := i) (K := K) (by omega)
      unfold homeD
      split
      · rw [rd_wr, if_neg (by omega)]; exact ih
      · exact ih
theorem rd_home_len {d : Dk} {logs : Nat} {m : List (Int × List UInt8)} (hd : ∀ j, (rd d j).length ≤ 128) (hm : ∀ k r, findN k m 0 = some r → r.2.length ≤ 128) (j : Int) : ∀ K, (rd (homeD d logs m K) j).length ≤ 128
  | 0 => hd j
  | K + 1 => by
    have ih := rd_home_len (logs := logs) hd hm j K
    unfold homeD
    split
    · rename_i r hf
      rw [rd_wr]
      split
      · rw [pad_len (hm _ _ hf)]; omega
      · exact ih
    · exact ih
theorem home_g {d : Dk} (h : DkG d) (logs : Nat) (m : List (Int × List UInt8)) : ∀ K, DkG (homeD d logs m K)
  | 0 => h
  | K + 1 => by
    have ih := home_g h logs m K
    unfold homeD
    split
    · exact ih.wr _ _
    · exact ih
theorem rd_ap {d : Dk} {l : Lg} {s : List UInt8} {m : Nat} {cut : List (List UInt8)} {j : Int} : ∀ {k : Nat}, (∀ i, i < k → ((l.from_ + 2 + (l.used + i) : Nat) : Int) ≠ j) → rd (apD l s m cut d k) j = rd d j
  | 0, _ => rfl
  | k + 1, h => by
    show rd (wrD _ _ _) j = _
    rw [rd_wr, if_neg (h k (by omega))]
    exact rd_ap fun i hi => h i (by omega)
theorem pad_full {s : List UInt8} (h : s.length = 128) : pad s = s := by
  unfold pad
  rw [List.drop_of_length_le (by rw [zeros_len]; omega), List.append_nil]
theorem PI.home {d : Dk} {f n N T B : Nat} {old : List (Nat × List UInt8)} {S : Nat → Option Pc} (h : PI d f n N T B old [] S) {logs K : Nat} {m : List (Int × List UInt8)} (hm : ∀ k r, findN k m 0 = some r → r.2.length ≤ 128) (hl : f + n ≤ logs) :
    PI (flD (homeD d logs m K)) f n N T B old [] S := by
  have hc : d.cache = [] := by
    cases hc : d.cache with
    | nil => rfl
    | cons w l =>
      obtain ⟨_, _, p, hp, _⟩ := h.cache 0 w (by rw [hc]; rfl)
      simp [pcs] at hp
  have hrd : ∀ j, rd d j = lkR j d.stays := fun j => by rw [rd_eq, hc]; rfl
  have hg := home_g h.g logs m K
  have hlk : ∀ j, lkR j (flD (homeD d logs m K)).stays = rd (homeD d logs m K) j := fun j => lk_fl hg j
  have hin : ∀ i, i < n → lkR ((f + i : Nat) : Int) (flD (homeD d logs m K)).stays = lkR ((f + i : Nat) : Int) d.stays := fun i hi => by
    rw [hlk, rd_home_out (fun a _ => by omega), hrd]
  have h1 := h.n1
  refine { h with g := hg.fl, dn := ?_, len := fun j => ?_, at_ := fun i hi => ?_, s0 := ?_, s1 := ?_, cache := fun k w hk => (by cases hk) }
  · show (homeD d logs m K).n = N
    rw [(homeD_spec d logs m K).1]; exact h.dn
  · rw [hlk]; exact rd_home_len (fun j => by rw [hrd]; exact h.len j) hm j K
  · have := hin (2 + i) (by omega)
    rw [← Nat.add_assoc] at this
    rw [this]; exact h.at_ i hi
  · rw [hin (T % 2) (by omega)]; exact h.s0
  · obtain ⟨t, b, ht, hs⟩ := h.s1
    exact ⟨t, b, ht, by rw [hin ((T + 1) % 2) (by omega)]; exact hs⟩
end Go.Proofs

namespace Go.Proofs
open Go.PW
section pg
variable {H : HMap} {A : AMap} {pid did lid : Nat} {κm κc κp κr : Tok} {d : Dk} {p : Pg} {l : Lg}
set_option maxRecDepth 8000 in
set_option maxHeartbeats 8000000 in
theorem Try.kPgCommit0 (off : Nat) (hw : Wf H A) (hp : PgAt H A pid did lid κp p) (hh : p.halted = false) (hne : p.ch = []) : EffOK Try.prog 9 off H A [.c (.ptr pid 0)] (pD (.lit (.int .i64 0))) H A := by
  refine effr_ok (E := envOf Try.prog [29, 7000000 + 30, 31, 18, 5000000 + 47, 6000000 + 69] off [] []) (envOf_ok Try.mixed) Try.func9 rfl Try.call9 (by kernel_rfl) (by exact Nat.le_of_ble_eq_true rfl) (fun hab => ?_)
  have hph := hp.h
  unfold encPg at hph
  have hpo := hp.lt hab
  have n1 : H (off + 1) = none := (hab _ (by omega)).1
  have p1 : (pid = off + 1) = False := eq_false (by omega)
  have hw1 : Wf (upd H (off + 1) (some [.ptr pid 0])) A := Wf_set hw (fun x hx => by rw [List.mem_singleton.1 hx]; exact upd_keepH _ (by rw [hp.h]; simp)) (fun _ h => h)
  have hp1 : PgAt (upd H (off + 1) (some [.ptr pid 0])) A pid did lid κp p := hp.mv (upd_other _ _ (by omega)) rfl
  have ab1 : Above (off + 1000) (upd H (off + 1) (some [.ptr pid 0])) A := Above_updH (Above_mono hab (by omega)) (by omega)
  have kt := Try.kThere (off + 1000) hw1 hp1
  have hlm : lenM Try.prog A [47] [.c (.mpr κp)] = some (.c (.d (.lit (.int .i64 ((0 : Nat) : Int))))) := by
    rw [lenM_of (P := Try.prog) (t := 47) Try.underlying47 hp.m, hne]
    rfl
  repeat' (first
   |with_reducible first|refine vSq fun K hK=>?_|refine vRg ?_|refine vBl ?_|refine vSc ?_|refine vIf ?_|refine vSk ?_|refine vEx ?_|refine vRt ?_
   |(with_reducible first|refine gNt (fun h=>?_) (fun h=>?_)|refine gCs (fun h=>?_) (fun h=>?_))<;>(try simp only[h])
   |refine And.intro n1 ?_
   |refine C_call rfl kt rfl ab1 ?_
   |with_reducible first|(refine hK _ ?_;clear hK K)|(clear hK K;refine hK _ ?_;clear hK K)|(clear hK K;clear hK K;refine hK _ ?_;clear hK K)|(clear hK K;clear hK K;clear hK K;refine hK _ ?_;clear hK K)
   |(with_reducible refine todo ?_;simp +decide only[go_sem, hph, hh, hlm, p1]))
  exact RetR_sub rfl (wk_c (.inr (.inl ⟨rfl, True.intro⟩))) True.intro hw (fun j hj => upd_other _ _ fun e => hj (by rw [e]; exact n1)) (fun _ _ => rfl) (fun _ h => h) (fun _ h => h)
end pg
end Go.Proofs

namespace Go.Proofs
open Go.PW
structure PSt (N logs T : Nat) (d : Dk) (l : Lg) (p : Pg) : Prop where
  pi : ∃ B S, PI d 0 logs N T B [] [] S
  lg : ∃ b, l = ⟨0, logs - 2, T, b, 0, [], false⟩
  fu : d.fused = false
  p1 : p.logs = logs
  p2 : p.halted = false
  ks : KsOK (N - logs) p.ch
  sec : ∀ j, j < N - logs → (rd d ((logs + j : Nat) : Int)).length = 128
  big : N ≤ logs + 1024 ∧ logs < N
def ct (b : Nat → List UInt8) (ch : List (Int × List UInt8)) (j : Nat) : List UInt8 := (valR (j : Int) ch).getD (b j)
theorem ct_put (b : Nat → List UInt8) (ch : List (Int × List UInt8)) (k : Nat) (s : List UInt8) (j : Nat) : ct b (putN ch k s) j = if k = j then s else ct b ch j := by
  unfold ct
  rw [putN_R, valR_put]
  by_cases e : k = j
  · rw [if_pos e, if_pos (by omega)]; rfl
  · rw [if_neg e, if_neg (by omega)]
structure PXs (H : HMap) (A : AMap) (k did pid lid : Nat) (κm κc κr κp : Tok) (N logs T : Nat) (d : Dk) (l : Lg) (p : Pg) : Prop where
  lw : LW H A k did κm κc d
  lg : LgAt H A lid did κr l
  pg : PgAt H A pid did lid κp p
  ne : κp ≠ κm
  st : PSt N logs T d l p
  lo : ∀ j, j < 200 → H j = none ∧ ∀ q, A (j, q) = none
section px
variable {H : HMap} {A : AMap} {k did pid lid : Nat} {κm κc κr κp : Tok} {N logs T : Nat} {d : Dk} {l : Lg} {p : Pg} {ch : List (Int × List UInt8)} {b : Nat → List UInt8}
def isF (s : List UInt8) (j : Nat) : Bool := j != 0 && freeB s j
end px
end Go.Proofs

namespace Go.Proofs
open Go.PW
theorem scan_no (t : Nat) : ∀ (k i : Nat) (x : Sc), scanK (fun _ => none) t k i x = x
  | 0, _, _ => rfl
  | _ + 1, _, _ => rfl
theorem op_new {N f n : Nat} (h1 : 4 ≤ n) (h2 : n ≤ 1000) (h3 : f + n ≤ N) (h4 : N ≤ 4096) : OpAt (newD N) f n 0 0 0 0 (fun _ => none) :=
  ⟨h1, h2, h3, h4, by show 0 + 1 ≤ _; omega, fun i _ => by rw [rd_new, zeros_len]; omega, by rw [rd_new]; exact tell_zeros, by rw [rd_new]; exact tell_zeros, fun i _ => by rw [rd_new]; exact at_zeros i⟩
theorem opL_new (f n : Nat) : opL f n 0 0 0 0 (fun _ => none) = ⟨f, n - 2, 1, 0, 0, [], false⟩ := by
  unfold opL opX
  rw [scan_no]; rfl
section px
variable {H : HMap} {A : AMap} {k did pid lid : Nat} {κm κc κr κp : Tok} {N logs T : Nat} {d : Dk} {l : Lg} {p : Pg} {ch : List (Int × List UInt8)} {b : Nat → List UInt8}
def DX (H : HMap) (A : AMap) (k did N logs T : Nat) (b : Nat → List UInt8) : Prop :=
  ∃ κm κc d t0 b0 t1 b1 R B, LW H A k did κm κc d ∧ OpAt d 0 logs t0 b0 t1 b1 R ∧ opL 0 logs t0 b0 t1 b1 R = ⟨0, logs - 2, T + 1, B, 0, [], false⟩ ∧ (∃ S, PI (nextD d 0 (opT t0 t1 + 1) (opB t0 b0 t1 b1)) 0 logs N (T + 1) B [] [] S) ∧
    d.fused = false ∧ DkG d ∧ (N ≤ logs + 1024 ∧ logs < N) ∧ (∀ j, j < N - logs → rd d ((logs + j : Nat) : Int) = b j ∧ (b j).length = 128) ∧ ∀ j, j < 200 → H j = none ∧ ∀ q, A (j, q) = none
end px
end Go.Proofs
