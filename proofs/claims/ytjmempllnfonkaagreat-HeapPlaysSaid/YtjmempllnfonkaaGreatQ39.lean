/-
  Parts of the proof, laid together: PwNt, PwNu, PwNv, PwNw, PwNo, PwNx, PwNy.
-/
import Derived.Test.YtjmempllnfonkaaGreatQ38
import Derived.Test.YtjmempllnfonkaaGreatQ34
import Derived.Test.YtjmempllnfonkaaGreatQ31
import Derived.Test.YtjmempllnfonkaaGreatQ35
import Derived.Test.YtjmempllnfonkaaGreatQ14
import Derived.Test.YtjmempllnfonkaaGreatQ36

namespace Go.Proofs
open Go.PW
section log
variable {H : HMap} {A : AMap} {rid lid n : Nat} {κl κw κ' : Tok} {d : Dk}
theorem RkAt.beside (h : RkAt H A rid κl κw d) {u : Nat} {c : List CV} (hu : H u = none) : RkAt (upd H u (some c)) A rid κl κw d :=
  ⟨by rw [upd_other _ _ (fun e => by have := h.h; rw [e, hu] at this; cases this)]; exact h.h, h.l, h.w⟩
theorem upd_comm {H : HMap} {i j : Nat} {a b : Option (List CV)} (h : i ≠ j) : upd (upd H i a) j b = upd (upd H j b) i a := by
  funext q
  by_cases e : q = j
  · subst e
    rw [upd_same, upd_other _ _ h.symm, upd_same]
  · rw [upd_other _ _ e]
    by_cases e2 : q = i
    · subst e2
      rw [upd_same, upd_same]
    · rw [upd_other _ _ e2, upd_other _ _ e2, upd_other _ _ e]
theorem encRl_ok {H : HMap} {A : AMap} {t b : Int} (hr : H rid ≠ none) : ∀ c ∈ encRl rid n t b, c.ok (fun i => H i ≠ none) (fun κ => A κ ≠ none) := fun c hc => by
  unfold encRl at hc
  simp only [List.mem_cons, List.not_mem_nil, or_false] at hc
  rcases hc with rfl | rfl | rfl | rfl | rfl | rfl | rfl | rfl
  · exact hr
  · exact True.intro
  · exact True.intro
  · exact True.intro
  · exact True.intro
  · exact True.intro
  · exact True.intro
  · exact True.intro
set_option maxRecDepth 8000 in
set_option maxHeartbeats 32000000 in
theorem Tryz.rLogOpen0 (off : Nat) (hw : Wf H A) (hn0 : H lid = none) (hd : RkAt H A rid κl κw d) (h4 : 4 ≤ n) (h5 : n ≤ 1000) (hn : n ≤ d.n) (hn2 : d.n ≤ 4096) (hg : DkG d) (hcl : d.cache = []) (hf : d.fused = false) (hκ : A κ' = none)
    (z0 : rd d ((0 : Nat) : Int) = zeros) (z1 : rd d ((1 : Nat) : Int) = zeros) (z2 : rd d ((2 : Nat) : Int) = zeros) :
    EffOK Tryz.prog 24 off H A [.c (.ptr rid 0), pD (.lit (.int .i64 0)), pD (.lit (.int .i64 n))] (.tup [.c (.ptr lid 0), .c (.d (.lit (.int .i64 0)))]) (upd (upd H rid (some (encRk κl κ' (slotD d)))) lid (some (encRl rid n 1 0)))
      (upd (upd (upd A κw (some (.co 2 1))) κl (some (.mu 1 (rdL (slotD d))))) κ' (some (.co 2 0))) := by
  refine effr_ok (E := envOf Tryz.prog [54, 63, 64] off [] []) (envOf_ok Tryz.mixed) Tryz.func24 rfl Tryz.call24 (by kernel_rfl) (by exact Nat.le_of_ble_eq_true rfl) (fun hab => ?_)
  have hab' := Above_mono hab (Nat.le_add_right off 1000)
  have hlt := hd.lt hab
  have hi' : H (off + 25) = none := (hab _ (Nat.le_add_right _ _)).1
  have hrid : H rid ≠ none := by rw [hd.h]; simp
  have hid := hd.h
  have nur : rid ≠ off + 25 := by omega
  have hw1 : Wf (upd H (off + 25) (some (encRl rid n 0 0))) A := Wf_set hw (encRl_ok (upd_keepH _ hrid)) (fun _ h => h)
  have hd1 := hd.beside (c := encRl rid n 0 0) hi'
  have ab1 : Above (off + 1000) (upd H (off + 25) (some (encRl rid n 0 0))) A := Above_updH hab' (by omega)
  have kr0 := Tryz.rRead (off + 1000) hw1 hd1 0 (by omega) (by rw [hcl]; decide)
  have kr1 := Tryz.rRead (off + 1000) hw1 hd1 1 (by omega) (by rw [hcl]; decide)
  rw [z0] at kr0
  rw [z1] at kr1
  have kt := Tryz.rTells0
  have ke := Tryz.rRecord0 (n := n) (off + 1000) hw1 (upd_same _ _ _) hd1 h4 hn hn2 (by rw [hcl]; decide) z2
  have kn := Tryz.rNext0 (n := n) (κ' := κ') (off + 1000) hw1 (upd_same _ _ _) hd1 (by omega) hg hcl hf hκ
  rw [upd_comm nur.symm, upd_twice] at kn
  have c1 : ((n : Int) < 4) = False := eq_false (by omega)
  have c2 : ((1000 : Int) < (n : Int)) = False := eq_false (by omega)
  have c3 : ((d.n : Int) < 0) = False := eq_false (by omega)
  have c4 : IntKind.i64.wrap ((d.n : Int) - 0) = (d.n : Int) := by rw [Int.sub_zero, Go.IntWalk.i64_in _ (by omega)]
  have c5 : ((d.n : Int) < (n : Int)) = False := eq_false (by omega)
  have c6 : IntKind.i64.wrap ((n : Int) - 2) = (n : Int) - 2 := Go.IntWalk.i64_in _ (by omega)
  have c7 : (0 < (n : Int) - 2) = True := eq_true (by omega)
  have hrid1 : upd H (off + 25) (some (encRl rid n 0 0)) rid = some (encRk κl κw d) := by rw [upd_other _ _ nur]; exact hid
  have hpr : ∀ {X Y : AMap}, PV.wk (hOver [] (upd H (off + 25) (some (encRl rid n 0 0)))) X Y (.c (.ptr rid 0)) (.c (.ptr rid 0)) = True := eq_true (wkP_ptr (by show upd H _ _ rid ≠ none; exact upd_keepH _ hrid))
  have hpu : ∀ {X Y : AMap}, PV.wk (hOver [] (upd H (off + 25) (some (encRl rid n 0 0)))) X Y (.c (.ptr (off + 25) 0)) (.c (.ptr (off + 25) 0)) = True := eq_true (wkP_ptr (by show upd H _ _ (off + 25) ≠ none; rw [upd_same]; simp))
  have fin : ∀ {S : St}, S.H = upd (upd H rid (some (encRk κl κ' (slotD d)))) (off + 25) (some (encRl rid n 1 0)) → S.A = upd (upd (upd A κw (some (.co 2 1))) κl (some (.mu 1 (rdL (slotD d))))) κ' (some (.co 2 0)) →
      resPVs Tryz.prog S (Tryz.f24).results.toList = some (.tup [.c (.ptr (off + 25) 0), .c (.d (.lit (.int .i64 0)))]) → RetR Tryz.prog Tryz.f24 H A (.tup [.c (.ptr lid 0), .c (.d (.lit (.int .i64 0)))]) (upd (upd H rid (some (encRk κl κ' (slotD d)))) lid (some (encRl rid n 1 0)))
        (upd (upd (upd A κw (some (.co 2 1))) κl (some (.mu 1 (rdL (slotD d))))) κ' (some (.co 2 0))) S := fun {S} y1 y2 y3 => by
    have kA : ∀ κ, A κ ≠ none → upd (upd (upd A κw (some (.co 2 1))) κl (some (.mu 1 (rdL (slotD d))))) κ' (some (.co 2 0)) κ ≠ none := fun κ h => upd_keep κ (upd_keep κ (upd_keep κ h))
    have hwX : Wf (upd H rid (some (encRk κl κ' (slotD d)))) (upd (upd (upd A κw (some (.co 2 1))) κl (some (.mu 1 (rdL (slotD d))))) κ' (some (.co 2 0))) :=
      Wf_set hw (encRk_ok (upd_keep κl (by rw [upd_same]; simp)) (by rw [upd_same]; simp)) kA
    have nlr : lid ≠ rid := fun e => hrid (by rw [← e]; exact hn0)
    have hX : upd H rid (some (encRk κl κ' (slotD d))) rid ≠ none := by rw [upd_same]; simp
    have n1 : upd H rid (some (encRk κl κ' (slotD d))) lid = none := by rw [upd_other _ _ nlr]; exact hn0
    have n2 : upd H rid (some (encRk κl κ' (slotD d))) (off + 25) = none := by rw [upd_other _ _ nur.symm]; exact hi'
    generalize upd (upd (upd A κw (some (.co 2 1))) κl (some (.mu 1 (rdL (slotD d))))) κ' (some (.co 2 0)) = Y at *
    generalize hXX : upd H rid (some (encRk κl κ' (slotD d))) = X at *
    have kHX : ∀ j, H j ≠ none → X j ≠ none := fun j hj => by rw [← hXX]; exact upd_keepH _ hj
    have him : (encRl rid n 1 0).map (CV.im (swp lid (off + 25)) (fun τ => τ)) = encRl rid n 1 0 := by
      show [CV.ptr (swp lid (off + 25) rid) 0, _, _, _, _, _, _, _] = _
      rw [show swp lid (off + 25) rid = rid from if_neg nlr.symm]; rfl
    have hcok : ∀ {i : Nat} {Z : AMap}, ∀ c ∈ encRl rid n 1 0, c.ok (fun j => upd X i (some (encRl rid n 1 0)) j ≠ none) (fun κ => Z κ ≠ none) := encRl_ok (upd_keepH _ hX)
    refine RetR_obj (H1 := X) (A1 := Y) (A'' := Y) (i' := off + 25) (h := fun τ => τ) (ds := encRl rid n 1 0) y3 ?_ (oks_pairP (by rw [upd_same]; simp)) hwX kHX kA n1 n2 hcok ?_ (by rw [y1]; exact upd_same _ _ _) ?_ (fun κ h => ⟨rfl, h⟩) (fun κ ar h => h) (fun i j _ _ h => h) (fun τ => .inr (.inl (by rw [y2])))
    · show PV.wk _ _ _ (.tup [.c (.ptr (swp lid (off + 25) lid) 0), _]) _
      rw [show swp lid (off + 25) lid = off + 25 from if_pos rfl]
      exact wk_pairP (by rw [upd_same]; simp)
    · intro i es hi
      have hne : i ≠ off + 25 := fun e => by rw [e, n2] at hi; cases hi
      refine ⟨es, by rw [y1, upd_other _ _ hne]; exact hi, wkC_same fun c hc => ok_mono upd_keepH (fun τ h => ⟨h, by rw [y2]⟩) (hwX i es c hi hc)⟩
    · rw [him]
      exact wkC_same (fun c hc => ok_mono (fun _ h => h) (fun τ h => ⟨h, by rw [y2]⟩) (hcok (Z := Y) c hc))
  unfold encRk at hrid1
  unfold encRl at kr0 kr1 ke kn hrid1 hpr hpu ab1 hw1
  generalize zeros = z at *
  repeat' (first
   |with_reducible first|refine vSq fun K hK=>?_|refine vRg ?_|refine vBl ?_|refine vSc ?_|refine vIf ?_|refine vSk ?_|refine vEx ?_|refine vRt ?_
   |(with_reducible first|refine gNt (fun h=>?_) (fun h=>?_)|refine gCs (fun h=>?_) (fun h=>?_))<;>(try simp only[h])
   |refine And.intro hi' ?_
   |refine C_call rfl kr0 rfl ab1 ?_
   |refine C_call rfl kr1 rfl ab1 ?_
   |refine C_pure kt rfl rfl (fun k => (hab _ (Nat.le_add_right _ _)).2 k) ?_
   |with_reducible first|(refine hK _ ?_;clear hK K)|(clear hK K;refine hK _ ?_;clear hK K)|(clear hK K;clear hK K;refine hK _ ?_;clear hK K)|(clear hK K;clear hK K;clear hK K;refine hK _ ?_;clear hK K)
   |(with_reducible refine todo ?_;simp +decide only[go_sem, hrid1, c1, c2, c3, c4, c5, upd_twice]))
  refine VC_while (ι := Unit) (fun _ => True) (fun _ => over [(0, .c (.ptr rid 0)), (2, pD (.lit (.int .i64 n))), (8, .c (.ptr (off + 25) 0)), (17, pD (.lit (.int .i64 0)))] [] (upd H (off + 25) (some [.ptr rid 0, .d (.lit (.int .i64 0)), .d (.lit (.int .i64 n)), .d (.lit (.int .i64 0)), .d (.lit (.int .i64 0)), .d (.lit (.int .i64 0)), .full [], .d (.lit (.bool false))])) A) (fun _ => 0) () True.intro ?_ ?_
  · refine Weak_overG hw1 (fun _ _ => rfl) rfl ?_ ?_ (fun i hi => upd_keepH _ hi) (fun _ h => h)
    · simp +decide only [go_sem, hpr, hpu]
    · simp +decide only [go_sem]
  · intro _ _
    repeat' (first
     |with_reducible first|refine vSq fun K hK=>?_|refine vRg ?_|refine vBl ?_|refine vSc ?_|refine vIf ?_|refine vSk ?_|refine vEx ?_|refine vRt ?_
     |(with_reducible first|refine gNt (fun h=>?_) (fun h=>?_)|refine gCs (fun h=>?_) (fun h=>?_))<;>(try simp only[h])
     |refine C_call rfl ke rfl ab1 ?_
     |refine C_call rfl kn rfl ab1 ?_
     |with_reducible first|(refine hK _ ?_;clear hK K)|(clear hK K;refine hK _ ?_;clear hK K)|(clear hK K;clear hK K;refine hK _ ?_;clear hK K)|(clear hK K;clear hK K;clear hK K;refine hK _ ?_;clear hK K)
     |(with_reducible refine todo ?_;simp +decide only[go_sem, c6, c7]))
    exact fin rfl rfl rfl
end log
end Go.Proofs

namespace Go.Proofs
open Go.PW
section log
variable {H : HMap} {A : AMap} {rid lid pid n : Nat} {κl κw κ' : Tok} {d : Dk}
theorem encRp_ok {H : HMap} {A : AMap} {W : List (Int × List UInt8)} {hlt : Bool} (h1 : H rid ≠ none) (h2 : H lid ≠ none) : ∀ c ∈ encRp rid lid n W hlt, c.ok (fun i => H i ≠ none) (fun κ => A κ ≠ none) := fun c hc => by
  unfold encRp at hc
  simp only [List.mem_cons, List.not_mem_nil, or_false] at hc
  rcases hc with rfl | rfl | rfl | rfl | rfl
  · exact h1
  · exact h2
  · exact True.intro
  · exact True.intro
  · exact True.intro
set_option maxRecDepth 8000 in
set_option maxHeartbeats 32000000 in
theorem Tryz.rPagerOpen0 (off : Nat) (hw : Wf H A) (hp0 : H pid = none) (hl0 : H lid = none) (hpl : pid ≠ lid) (hlo : lid < off) (hd : RkAt H A rid κl κw d) (h4 : 4 ≤ n) (h5 : n ≤ 1000) (hn : n + 1 ≤ d.n) (hn1 : d.n ≤ n + 1024) (hn2 : d.n ≤ 4096) (hg : DkG d) (hcl : d.cache = []) (hf : d.fused = false) (hκ : A κ' = none)
    (z0 : rd d ((0 : Nat) : Int) = zeros) (z1 : rd d ((1 : Nat) : Int) = zeros) (z2 : rd d ((2 : Nat) : Int) = zeros) :
    EffOK Tryz.prog 7 off H A [.c (.ptr rid 0), pD (.lit (.int .i64 n))] (.tup [.c (.ptr pid 0), .c (.d (.lit (.int .i64 0)))]) (upd (upd (upd H rid (some (encRk κl κ' (slotD d)))) lid (some (encRl rid n 1 0))) pid (some (encRp rid lid n [] false)))
      (upd (upd (upd A κw (some (.co 2 1))) κl (some (.mu 1 (rdL (slotD d))))) κ' (some (.co 2 0))) := by
  refine effr_ok (E := envOf Tryz.prog [24] off [] []) (envOf_ok Tryz.mixed) Tryz.func7 rfl Tryz.call7 (by kernel_rfl) (by exact Nat.le_of_ble_eq_true rfl) (fun hab => ?_)
  have hab' := Above_mono hab (Nat.le_add_right off 1000)
  have hlt := hd.lt hab
  have hi' : H (off + 13) = none := (hab _ (Nat.le_add_right _ _)).1
  have hrid : H rid ≠ none := by rw [hd.h]; simp
  have hid := hd.h
  have nur : rid ≠ off + 13 := by omega
  have nul : lid ≠ off + 13 := by omega
  have nlr : lid ≠ rid := fun e => hrid (by rw [← e]; exact hl0)
  have npr : pid ≠ rid := fun e => hrid (by rw [← e]; exact hp0)
  have fin : ∀ {S : St}, S.H = upd (upd (upd H rid (some (encRk κl κ' (slotD d)))) lid (some (encRl rid n 1 0))) (off + 13) (some [.ptr rid 0, .ptr lid 0, .d (.lit (.int .i64 n)), .full [], .d (.lit (.bool false))]) → S.A = upd (upd (upd A κw (some (.co 2 1))) κl (some (.mu 1 (rdL (slotD d))))) κ' (some (.co 2 0)) →
      resPVs Tryz.prog S (Tryz.f7).results.toList = some (.tup [.c (.ptr (off + 13) 0), .c (.d (.lit (.int .i64 0)))]) → RetR Tryz.prog Tryz.f7 H A (.tup [.c (.ptr pid 0), .c (.d (.lit (.int .i64 0)))]) (upd (upd (upd H rid (some (encRk κl κ' (slotD d)))) lid (some (encRl rid n 1 0))) pid (some (encRp rid lid n [] false))) (upd (upd (upd A κw (some (.co 2 1))) κl (some (.mu 1 (rdL (slotD d))))) κ' (some (.co 2 0))) S := fun {S} y1 y2 y3 => by
    have kA : ∀ κ, A κ ≠ none → (upd (upd (upd A κw (some (.co 2 1))) κl (some (.mu 1 (rdL (slotD d))))) κ' (some (.co 2 0))) κ ≠ none := fun κ h => upd_keep κ (upd_keep κ (upd_keep κ h))
    have hwR : Wf (upd H rid (some (encRk κl κ' (slotD d)))) (upd (upd (upd A κw (some (.co 2 1))) κl (some (.mu 1 (rdL (slotD d))))) κ' (some (.co 2 0))) :=
      Wf_set hw (encRk_ok (upd_keep κl (by rw [upd_same]; simp)) (by rw [upd_same]; simp)) kA
    have hwX : Wf (upd (upd H rid (some (encRk κl κ' (slotD d)))) lid (some (encRl rid n 1 0))) (upd (upd (upd A κw (some (.co 2 1))) κl (some (.mu 1 (rdL (slotD d))))) κ' (some (.co 2 0))) := Wf_set hwR (encRl_ok (upd_keepH _ (by rw [upd_same]; simp))) (fun _ h => h)
    have hX : (upd (upd H rid (some (encRk κl κ' (slotD d)))) lid (some (encRl rid n 1 0))) rid ≠ none := upd_keepH _ (by rw [upd_same]; simp)
    have hXl : (upd (upd H rid (some (encRk κl κ' (slotD d)))) lid (some (encRl rid n 1 0))) lid ≠ none := by rw [upd_same]; simp
    have n1 : (upd (upd H rid (some (encRk κl κ' (slotD d)))) lid (some (encRl rid n 1 0))) pid = none := by rw [upd_other _ _ hpl, upd_other _ _ npr]; exact hp0
    have n2 : (upd (upd H rid (some (encRk κl κ' (slotD d)))) lid (some (encRl rid n 1 0))) (off + 13) = none := by rw [upd_other _ _ nul.symm, upd_other _ _ nur.symm]; exact hi'
    have keepX : ∀ j, H j ≠ none → (upd (upd H rid (some (encRk κl κ' (slotD d)))) lid (some (encRl rid n 1 0))) j ≠ none := fun j hj => upd_keepH _ (upd_keepH _ hj)
    generalize upd (upd (upd A κw (some (.co 2 1))) κl (some (.mu 1 (rdL (slotD d))))) κ' (some (.co 2 0)) = Y at *
    generalize upd (upd H rid (some (encRk κl κ' (slotD d)))) lid (some (encRl rid n 1 0)) = X at *
    have him : (encRp rid lid n [] false).map (CV.im (swp pid (off + 13)) (fun τ => τ)) = encRp rid lid n [] false := by
      show [CV.ptr (swp pid (off + 13) rid) 0, CV.ptr (swp pid (off + 13) lid) 0, _, _, _] = _
      rw [show swp pid (off + 13) rid = rid from if_neg npr.symm, show swp pid (off + 13) lid = lid from if_neg hpl.symm]; rfl
    have hcok : ∀ {i : Nat} {Z : AMap}, ∀ c ∈ encRp rid lid n [] false, c.ok (fun j => upd X i (some (encRp rid lid n [] false)) j ≠ none) (fun κ => Z κ ≠ none) := encRp_ok (upd_keepH _ hX) (upd_keepH _ hXl)
    refine RetR_obj (H1 := X) (A1 := Y) (A'' := Y) (i' := off + 13) (h := fun τ => τ) (ds := [.ptr rid 0, .ptr lid 0, .d (.lit (.int .i64 n)), .full [], .d (.lit (.bool false))]) y3 ?_ (oks_pairP (by rw [upd_same]; simp)) hwX keepX kA n1 n2 hcok ?_ (by rw [y1]; exact upd_same _ _ _) ?_ (fun κ h => ⟨rfl, h⟩) (fun κ ar h => h) (fun i j _ _ h => h) (fun τ => .inr (.inl (by rw [y2])))
    · show PV.wk _ _ _ (.tup [.c (.ptr (swp pid (off + 13) pid) 0), _]) _
      rw [show swp pid (off + 13) pid = off + 13 from if_pos rfl]
      exact wk_pairP (by rw [upd_same]; simp)
    · intro i es hi
      have hne : i ≠ off + 13 := fun e => by rw [e, n2] at hi; cases hi
      refine ⟨es, by rw [y1, upd_other _ _ hne]; exact hi, wkC_same fun c hc => ok_mono upd_keepH (fun τ h => ⟨h, by rw [y2]⟩) (hwX i es c hi hc)⟩
    · rw [him]
      refine ⟨?_, ?_, ?_, ?_, ?_, True.intro⟩
      · exact .inr (.inl ⟨rfl, upd_keepH _ hX⟩)
      · exact .inr (.inl ⟨rfl, upd_keepH _ hXl⟩)
      · exact .inr (.inl ⟨rfl, True.intro⟩)
      · exact .inr (.inr (.inl ⟨_, rfl, .inl rfl⟩))
      · exact .inr (.inl ⟨rfl, True.intro⟩)
  let c0 : List CV := [.ptr rid 0, .d (.lit (.pointer none)), .d (.lit (.int .i64 n)), .full [], .d (.lit (.bool false))]
  have hw1 : Wf (upd H (off + 13) (some c0)) A := Wf_set hw (fun c hc => by
    simp only [c0, List.mem_cons, List.not_mem_nil, or_false] at hc
    rcases hc with rfl | rfl | rfl | rfl | rfl
    · exact upd_keepH _ hrid
    · exact True.intro
    · exact True.intro
    · exact True.intro
    · exact True.intro) (fun _ h => h)
  have hd1 := hd.beside (c := c0) hi'
  have ab1 : Above (off + 1000) (upd H (off + 13) (some c0)) A := Above_updH hab' (by omega)
  have ko := Tryz.rLogOpen0 (n := n) (κ' := κ') (lid := lid) (off + 1000) hw1 (by rw [upd_other _ _ nul]; exact hl0) hd1 h4 h5 (by omega) hn2 hg hcl hf hκ z0 z1 z2
  rw [upd_comm (i := off + 13) (j := rid) nur.symm, upd_comm (i := off + 13) (j := lid) nul.symm] at ko
  have c1 : ((d.n : Int) - 1 < (n : Int)) = False := eq_false (by omega)
  have c2 : ((n : Int) < (d.n : Int) - 1024) = False := eq_false (by omega)
  have w1 : IntKind.i64.wrap ((d.n : Int) - 1) = (d.n : Int) - 1 := Go.IntWalk.i64_in _ (by omega)
  have w2 : IntKind.i64.wrap ((d.n : Int) - 1024) = (d.n : Int) - 1024 := Go.IntWalk.i64_in _ (by omega)
  have hrid1 : upd H (off + 13) (some c0) rid = some (encRk κl κw d) := by rw [upd_other _ _ nur]; exact hid
  have hlid2 : ∀ x, upd (upd (upd H rid (some (encRk κl κ' (slotD d)))) lid (some (encRl rid n 1 0))) (off + 13) x lid = some (encRl rid n 1 0) := fun x => by rw [upd_other _ _ nul, upd_same]
  unfold encRk at hrid1
  unfold encRl at hlid2 ko
  simp only [c0] at ko hrid1 ab1
  repeat' (first
   |with_reducible first|refine vSq fun K hK=>?_|refine vRg ?_|refine vBl ?_|refine vSc ?_|refine vIf ?_|refine vSk ?_|refine vEx ?_|refine vRt ?_
   |(with_reducible first|refine gNt (fun h=>?_) (fun h=>?_)|refine gCs (fun h=>?_) (fun h=>?_))<;>(try simp only[h])
   |refine And.intro hi' ?_
   |refine C_call rfl ko rfl ab1 ?_
   |with_reducible first|(refine hK _ ?_;clear hK K)|(clear hK K;refine hK _ ?_;clear hK K)|(clear hK K;clear hK K;refine hK _ ?_;clear hK K)|(clear hK K;clear hK K;clear hK K;refine hK _ ?_;clear hK K)
   |(with_reducible refine todo ?_;simp +decide only[go_sem, hrid1, c1, c2, w1, w2, hlid2, upd_twice]))
  all_goals exact fin rfl rfl rfl
end log
end Go.Proofs

namespace Go.Proofs
open Go.PW
def newI (pid rid lid many : Nat) (κl κ' : Tok) : RI := ⟨pid, rid, lid, 10, κl, κ', slotD (newD (10 + many)), false⟩
theorem slotD_rd {many : Nat} {j : Nat} : rd (slotD (newD (10 + many))) ((10 + j : Nat) : Int) = zeros := by
  unfold slotD
  rw [rd_fl ((DkG_new _).wr _ _), rd_wr, if_neg (by omega), rd_new]
theorem newG_len (n : Nat) : (newG n).length = n := List.length_replicate
theorem RAt.new {H : HMap} {A : AMap} {pid rid lid many : Nat} {κl κw κ' : Tok} (h1 : 1 ≤ many) (h2 : many ≤ 1000) (n1 : pid ≠ rid) (n2 : pid ≠ lid) (n3 : lid ≠ rid) (n5 : κl ≠ κ') :
    RAt (upd (upd (upd H rid (some (encRk κl κ' (slotD (newD (10 + many)))))) lid (some (encRl rid 10 1 0))) pid (some (encRp rid lid 10 [] false)))
      (upd (upd (upd A κw (some (.co 2 1))) κl (some (.mu 1 (rdL (slotD (newD (10 + many))))))) κ' (some (.co 2 0))) (newI pid rid lid many κl κ') (newG many, []) := by
  have hl := newG_len many
  refine ⟨upd_same _ _ _, ⟨?_, ?_, ?_⟩, ?_, ?_, ?_, ?_, ?_, ?_, ?_, List.Pairwise.nil, fun p hp => (List.not_mem_nil hp).elim, ?_⟩
  · show upd (upd _ _ _) _ _ rid = _
    rw [upd_other _ _ n1.symm, upd_other _ _ n3.symm, upd_same]; rfl
  · show upd (upd _ _ _) _ _ κl = _
    rw [upd_other _ _ n5, upd_same]; rfl
  · show upd _ _ _ κ' = _
    rw [upd_same]; rfl
  · show upd (upd _ _ _) _ _ lid ≠ none
    rw [upd_other _ _ n2.symm, upd_same]; simp
  · show 10 + many = 10 + (newG many).length
    rw [hl]
  · show 10 + many ≤ 4096
    omega
  · exact Nat.zero_le _
  · show 1 ≤ (newG many).length
    omega
  · show (newG many).length ≤ 1024
    omega
  · intro j hj
    rw [newG_at (by rw [← hl]; exact hj)]
    exact zeros_len
  · intro j hj
    rw [newG_at (by rw [← hl]; exact hj)]
    exact slotD_rd.symm
end Go.Proofs

namespace Go.Proofs
open Go.PW
section hy
variable {H : HMap} {A : AMap} {k did pid N logs T m : Nat} {gs : List (List UInt8)}
set_option maxRecDepth 8000 in
set_option maxHeartbeats 8000000 in
theorem Tryz.hOpenS (off : Nat) (h : PY H A k did pid N logs T m gs) (h2 : gs.length < 2) : EffOK Tryz.prog 12 off H A [.c (.ptr pid 0)] (.tup [.c (.d (.lit (.pointer none))), .c (.d (.lit (.int .i64 1)))]) H A := by
  refine effr_ok (E := envOf Tryz.prog [30, 31, 8, 10, 18] off [] []) (envOf_ok Tryz.mixed) Tryz.func12 rfl Tryz.call12 (by kernel_rfl) (by exact Nat.le_of_ble_eq_true rfl) (fun hab => ?_)
  obtain ⟨hw, _⟩ := h.nums
  have kl := Tryz.yLen (off + 1000) h
  have c1 : ((gs.length : Int) < 2) = True := eq_true (by omega)
  repeat' (first
   |with_reducible first|refine vSq fun K hK=>?_|refine vRg ?_|refine vBl ?_|refine vSc ?_|refine vIf ?_|refine vSk ?_|refine vEx ?_|refine vRt ?_
   |(with_reducible first|refine gNt (fun h=>?_) (fun h=>?_)|refine gCs (fun h=>?_) (fun h=>?_))<;>(try simp only[h])
   |refine C_call rfl kl rfl (Above_mono hab (by omega)) ?_
   |with_reducible first|(refine hK _ ?_;clear hK K)|(clear hK K;refine hK _ ?_;clear hK K)|(clear hK K;clear hK K;refine hK _ ?_;clear hK K)|(clear hK K;clear hK K;clear hK K;refine hK _ ?_;clear hK K)
   |(with_reducible refine todo ?_;simp +decide only[go_sem, c1]))
  exact RetR_same rfl wk_pair oks_pair hw kp_refl (fun _ _ => rfl)
set_option maxRecDepth 8000 in
set_option maxHeartbeats 8000000 in
theorem Tryz.hOpenF (off : Nat) (h : PY H A k did pid N logs T m gs) (h2 : 2 ≤ gs.length) (hf : isFG gs 1 = false) (hr : (pgAt gs 1).getD 0 0 ≠ 82) : EffOK Tryz.prog 12 off H A [.c (.ptr pid 0)] (.tup [.c (.d (.lit (.pointer none))), .c (.d (.lit (.int .i64 7)))]) H A := by
  refine effr_ok (E := envOf Tryz.prog [30, 31, 8, 10, 18] off [] []) (envOf_ok Tryz.mixed) Tryz.func12 rfl Tryz.call12 (by kernel_rfl) (by exact Nat.le_of_ble_eq_true rfl) (fun hab => ?_)
  obtain ⟨hw, _, _, _, _, hg, _⟩ := h.nums
  have hg := hg h2
  have hab' := Above_mono hab (Nat.le_add_right off 1000)
  have kl := Tryz.yLen (off + 1000) h
  have ki := Tryz.yIsFree (off + 1000) h 1 (by omega)
  rw [hf] at ki
  have kr := Tryz.yRead (off + 1000) h 1 (by omega)
  have h128 := hg.len 1 (by omega)
  have g0 : (pgAt gs 1)[0]? = some ((pgAt gs 1).getD 0 0) := by rw [List.getD_eq_getElem?_getD, List.getElem?_eq_getElem (by omega)]; rfl
  generalize (pgAt gs 1).getD 0 0 = b at *
  have z : (((b.toNat : Nat) : Int) != 82) = true := by
    rw [bne_iff_ne]
    intro e
    exact hr (UInt8.toNat_inj.1 (by show b.toNat = 82; omega))
  have c1 : ((gs.length : Int) < 2) = False := eq_false (by omega)
  repeat' (first
   |with_reducible first|refine vSq fun K hK=>?_|refine vRg ?_|refine vBl ?_|refine vSc ?_|refine vIf ?_|refine vSk ?_|refine vEx ?_|refine vRt ?_
   |(with_reducible first|refine gNt (fun h=>?_) (fun h=>?_)|refine gCs (fun h=>?_) (fun h=>?_))<;>(try simp only[h])
   |refine C_call rfl kl rfl hab' ?_
   |refine C_call rfl ki rfl hab' ?_
   |refine C_call rfl kr rfl hab' ?_
   |with_reducible first|(refine hK _ ?_;clear hK K)|(clear hK K;refine hK _ ?_;clear hK K)|(clear hK K;clear hK K;refine hK _ ?_;clear hK K)|(clear hK K;clear hK K;clear hK K;refine hK _ ?_;clear hK K)
   |(with_reducible refine todo ?_;simp +decide only[go_sem, c1, g0, z]))
  exact RetR_same rfl wk_pair oks_pair hw kp_refl (fun _ _ => rfl)
def writeG (gs : List (List UInt8)) (page : Int) (s : List UInt8) : List (List UInt8) := if pgWrE gs.length page s ≠ 0 then gs else gs.set page.toNat (pad s)
theorem writeS_1 (x : RS) (page : Int) (s : List UInt8) : (writeS x page s).1 = writeG x.1 page s := by
  unfold writeS writeG
  split <;> rfl
theorem writeG_len (gs : List (List UInt8)) (page : Int) (s : List UInt8) : (writeG gs page s).length = gs.length := by
  unfold writeG
  split
  · rfl
  · exact List.length_set
theorem Tryz.yWriteAny (off : Nat) (h : PY H A k did pid N logs T m gs) (page : Int) (s : List UInt8) :
    ∃ H' A', EffOK Tryz.prog 10 off H A [.c (.ptr pid 0), pD (.lit (.int .i64 page)), pD (dS s)] (pD (.lit (.int .i64 (pgWrE gs.length page s)))) H' A' ∧ PY H' A' k did pid N logs T (m + 1) (writeG gs page s) ∧ (∀ j, H j ≠ none → H' j ≠ none) ∧ ∀ τ, A τ ≠ none → A' τ ≠ none := by
  unfold writeG
  by_cases he : pgWrE gs.length page s = 0
  · rw [if_neg (by simpa using he), he]
    obtain ⟨h1, h2, h3⟩ := pgWrE_ok he
    have hw := Tryz.yWrite off h page.toNat (by omega) (by omega) s h3
    rw [show ((page.toNat : Nat) : Int) = page by omega] at hw
    exact hw
  · rw [if_pos he]
    refine ⟨H, A, ?_, h.mono (by omega), fun _ h => h, fun _ h => h⟩
    obtain ⟨ch, b, hx, hm, hl, hg⟩ := h
    rw [hl] at he ⊢
    exact Tryz.pWriteE off hx page s he
theorem Tryz.yAllocN (off : Nat) (h : PY H A k did pid N logs T m gs) (hno : ∀ i, i < gs.length → isFG gs i = false) : EffOK Tryz.prog 8 off H A [.c (.ptr pid 0)] (.tup [.c (.d (.lit (.int .i64 0))), .c (.d (.lit (.int .i64 3)))]) H A := by
  have h0 := h.nums.2.2.2.2.2.2.2.2
  obtain ⟨ch, b, hx, hm, hl, hg⟩ := h
  refine Tryz.pAllocN off hx (fun i hi hi2 => ?_)
  have := hno i (by omega)
  unfold isFG isF at this
  rw [hg 0 (by omega)]
  simpa [hi] using this
theorem Tryz.hWriteAny {hid : Nat} (off : Nat) (h : HY H A k did pid hid N logs T m gs) (page : Int) (s : List UInt8) :
    HSO off Tryz.prog 10 H A [.c (.ptr pid 0), pD (.lit (.int .i64 page)), pD (dS s)] (pD (.lit (.int .i64 (pgWrE gs.length page s)))) k did pid hid N logs T (m + 1) (writeG gs page s) := by
  obtain ⟨_, _, _, _, hg, _⟩ := h.nums
  exact h.so (l := [.lit (.int .i64 page), dS s]) (by rw [writeG_len]; exact hg.two) (fun H0 hy => Tryz.yWriteAny off hy page s)
end hy
end Go.Proofs

namespace Go.PW
def layH (H L : HMap) : HMap := fun i => match L i with
  | some c => some c
  | none => H i
def layA (A M : AMap) : AMap := fun κ => match M κ with
  | some c => some c
  | none => A κ
theorem layH_l {H L : HMap} {i : Nat} {c : List CV} (h : L i = some c) : layH H L i = some c := by unfold layH; rw [h]
theorem layH_h {H L : HMap} {i : Nat} (h : L i = none) : layH H L i = H i := by unfold layH; rw [h]
theorem layA_l {A M : AMap} {κ : Tok} {c : Arr} (h : M κ = some c) : layA A M κ = some c := by unfold layA; rw [h]
theorem layA_h {A M : AMap} {κ : Tok} (h : M κ = none) : layA A M κ = A κ := by unfold layA; rw [h]
theorem layH_upd (H L : HMap) (i : Nat) (c : List CV) : upd (layH H L) i (some c) = layH H (upd L i (some c)) := by
  funext j
  by_cases e : j = i
  · subst e
    rw [upd_same]
    unfold layH
    rw [upd_same]
  · rw [upd_other _ _ e]
    unfold layH
    rw [upd_other _ _ e]
theorem layH_keep {H L : HMap} {i : Nat} (h : H i ≠ none) : layH H L i ≠ none := by
  unfold layH
  split
  · simp
  · exact h
theorem layA_keep {A M : AMap} {κ : Tok} (h : A κ ≠ none) : layA A M κ ≠ none := by
  unfold layA
  split
  · simp
  · exact h
theorem eff_over {P : Program} {H H' : HMap} {A A' : AMap} {f : FuncId} {n : Nat} {args : List PV} {v : PV} (h : EffOK P f n H A args v H' A') (hw : Wf H A) (hargs : ∀ (tk : Tok → Prop), ∀ x ∈ args, x.oks (fun i => H i ≠ none) tk) {L : HMap} {M : AMap} (hL : ∀ i, L i ≠ none → H i = none ∧ H' i = none) (hM : ∀ κ, M κ ≠ none → A κ = none ∧ A' κ = none) :
    EffOK P f n (layH H L) (layA A M) args v (layH H' L) (layA A' M) := by
  have h1 : EffOK P f n H (layA A M) args v H' (layA A' M) := by
    refine eff_extA h hw (hargs _) (fun i hi => layA_h ?_) (fun i hi h2 => ?_) (fun i hi => ?_)
    · cases hl : M i with
      | none => rfl
      | some c => exact (hi (hM i (by rw [hl]; simp)).1).elim
    · cases hl : M i with
      | none => rw [layA_h hl] at h2; exact (h2 hi).elim
      | some c => exact ⟨by rw [layA_l hl, layA_l hl], (hM i (by rw [hl]; simp)).2⟩
    · have hl : M i = none := by
        cases hl : M i with
        | none => rfl
        | some c =>
          rcases hi with hi | hi
          · exact (hi (hM i (by rw [hl]; simp)).1).elim
          · rw [layA_l hl] at hi; cases hi
      rw [layA_h hl]
  refine eff_ext h1 (fun i cs c hi hc => ok_mono (fun _ h => h) (fun κ hκ => ?_) (hw i cs c hi hc)) (hargs _) (fun i hi => layH_h ?_) (fun i hi h2 => ?_) (fun i hi => ?_)
  · exact layA_keep hκ
  · cases hl : L i with
    | none => rfl
    | some c => exact (hi (hL i (by rw [hl]; simp)).1).elim
  · cases hl : L i with
    | none => rw [layH_h hl] at h2; exact (h2 hi).elim
    | some c => exact ⟨by rw [layH_l hl, layH_l hl], (hL i (by rw [hl]; simp)).2⟩
  · have hl : L i = none := by
      cases hl : L i with
      | none => rfl
      | some c =>
        rcases hi with hi | hi
        · exact (hi (hL i (by rw [hl]; simp)).1).elim
        · rw [layH_l hl] at hi; cases hi
    rw [layH_h hl]
end Go.PW

namespace Go.Proofs
open Go.PW
section lay
variable {H L : HMap} {A M : AMap} {I : RI} {hid : Nat} {x : RS}
theorem layH_keepL {i : Nat} (h : L i ≠ none) : layH H L i ≠ none := by
  cases hl : L i with
  | none => exact (h hl).elim
  | some c => rw [layH_l hl]; simp
theorem layA_keepL {κ : Tok} (h : M κ ≠ none) : layA A M κ ≠ none := by
  cases hl : M κ with
  | none => exact (h hl).elim
  | some c => rw [layA_l hl]; simp
theorem Wf_lay (h1 : Wf H A) (h2 : Wf L M) : Wf (layH H L) (layA A M) := fun i cs c hi hc => by
  cases hl : L i with
  | none =>
    rw [layH_h hl] at hi
    exact ok_mono (fun _ h => layH_keep h) (fun _ h => layA_keep h) (h1 i cs c hi hc)
  | some ds =>
    rw [layH_l hl] at hi
    cases hi
    exact ok_mono (fun _ h => layH_keepL h) (fun _ h => layA_keepL h) (h2 i _ c hl hc)
theorem Above_lay {off : Nat} (h1 : Above off H A) (h2 : Above off L M) : Above off (layH H L) (layA A M) := fun i hi => by
  obtain ⟨a, b⟩ := h1 i hi
  obtain ⟨c, d⟩ := h2 i hi
  exact ⟨by rw [layH_h c]; exact a, fun k => by rw [layA_h (d k)]; exact b k⟩
theorem RAt.lay (h : RAt L M I x) : RAt (layH H L) (layA A M) I x :=
  ⟨layH_l h.h, ⟨layH_l h.d.h, layA_l h.d.l, layA_l h.d.w⟩, layH_keepL h.l0, h.n, h.big, h.cl, h.one, h.most, h.len, h.sort, h.key, h.pg⟩
theorem RI.up_lay (I : RI) (y : RS) : I.up (layH H L) y = layH H (I.up L y) := layH_upd _ _ _ _
theorem RH.lay (h : RH L M I hid x) : RH (layH H L) (layA A M) I hid x := ⟨h.at_.lay, layH_l h.hh, h.two⟩
end lay
end Go.Proofs

namespace Go.Proofs
open Go.PW
theorem HY.names {H : HMap} {A : AMap} {k did pid hid N logs T m : Nat} {gs : List (List UInt8)} (h : HY H A k did pid hid N logs T m gs) : (∀ i, k ≤ i → i ≠ hid → H i = none) ∧ ∀ τ : Tok, k ≤ τ.1 → A τ = none := by
  obtain ⟨H0, hy, hk, h2, rfl⟩ := h
  obtain ⟨hw, hab, _⟩ := hy.nums
  exact ⟨fun i hi hne => by rw [upd_other _ _ hne]; exact (hab i hi).1, fun τ hτ => (hab τ.1 hτ).2 τ.2⟩
def BW (H : HMap) (A : AMap) (k did pid hid N logs T m top : Nat) (gs : List (List UInt8)) (I : RI) (xid : Nat) (x : RS) : Prop :=
  ∃ H0 A0 L M, HY H0 A0 k did pid hid N logs T m gs ∧ RH L M I xid x ∧ Wf L M ∧ Above top L M ∧ (∀ i, L i ≠ none → k ≤ i ∧ i ≠ hid) ∧ (∀ τ : Tok, M τ ≠ none → k ≤ τ.1) ∧ hid < top ∧ H = layH H0 L ∧ A = layA A0 M
section bw
variable {H : HMap} {A : AMap} {k did pid hid N logs T m top : Nat} {gs : List (List UInt8)} {I : RI} {xid : Nat} {x : RS}
theorem BW.nums (h : BW H A k did pid hid N logs T m top gs I xid x) : Wf H A ∧ Above top H A ∧ RH H A I xid x ∧ H hid ≠ none ∧ H pid ≠ none ∧ GOK gs := by
  obtain ⟨H0, A0, L, M, hy, hx, hw, hab, _, _, ht, rfl, rfl⟩ := h
  obtain ⟨hw0, hab0, hh, hp, hg, _, _, _, hn⟩ := hy.nums
  exact ⟨Wf_lay hw0 hw, Above_lay (Above_mono hab0 (by omega)) hab, hx.lay, layH_keep hn, layH_keep hp, hg⟩
theorem BW.prog {P : Program} {f : FuncId} {off m' id : Nat} {l : List D} {v : PV} {gs' : List (List UInt8)} (h : BW H A k did pid hid N logs T m top gs I xid x) (hid' : id = pid ∨ id = hid)
    (hs : ∀ H0 A0, HY H0 A0 k did pid hid N logs T m gs → HSO off P f H0 A0 (.c (.ptr id 0) :: l.map fun d => (.c (.d d) : PV)) v k did pid hid N logs T m' gs') :
    ∃ H' A', EffOK P f off H A (.c (.ptr id 0) :: l.map fun d => (.c (.d d) : PV)) v H' A' ∧ BW H' A' k did pid hid N logs T m' top gs' I xid x ∧ (∀ j, H j ≠ none → H' j ≠ none) ∧ ∀ τ, A τ ≠ none → A' τ ≠ none := by
  obtain ⟨H0, A0, L, M, hy, hx, hw, hab, hL, hM, ht, rfl, rfl⟩ := h
  obtain ⟨H', A', e, hy', kh, ka⟩ := hs H0 A0 hy
  obtain ⟨hw0, _, _, hp, _, _, _, _, hn⟩ := hy.nums
  obtain ⟨n1, n2⟩ := hy.names
  obtain ⟨n3, n4⟩ := hy'.names
  have hi : H0 id ≠ none := hid'.elim (fun e => by rw [e]; exact hp) (fun e => by rw [e]; exact hn)
  refine ⟨layH H' L, layA A' M, eff_over e hw0 (fun tk => oksP hi) (fun i hl => ⟨n1 i (hL i hl).1 (hL i hl).2, n3 i (hL i hl).1 (hL i hl).2⟩) (fun τ hl => ⟨n2 τ (hM τ hl), n4 τ (hM τ hl)⟩), ⟨H', A', L, M, hy', hx, hw, hab, hL, hM, ht, rfl, rfl⟩, fun j hj => ?_, fun τ hτ => ?_⟩
  · cases hl : L j with
    | none => rw [layH_h hl] at hj ⊢; exact kh j hj
    | some c => rw [layH_l hl]; simp
  · cases hl : M τ with
    | none => rw [layA_h hl] at hτ ⊢; exact ka τ hτ
    | some c => rw [layA_l hl]; simp
theorem BW.tell {P : Program} {f : FuncId} {off id : Nat} {l : List D} {v : PV} (h : BW H A k did pid hid N logs T m top gs I xid x) (hid' : id = pid ∨ id = hid)
    (hs : ∀ H0 A0, HY H0 A0 k did pid hid N logs T m gs → EffOK P f off H0 A0 (.c (.ptr id 0) :: l.map fun d => (.c (.d d) : PV)) v H0 A0) : EffOK P f off H A (.c (.ptr id 0) :: l.map fun d => (.c (.d d) : PV)) v H A := by
  obtain ⟨H0, A0, L, M, hy, hx, hw, hab, hL, hM, ht, rfl, rfl⟩ := h
  obtain ⟨hw0, _, _, hp, _, _, _, _, hn⟩ := hy.nums
  obtain ⟨n1, n2⟩ := hy.names
  have hi : H0 id ≠ none := hid'.elim (fun e => by rw [e]; exact hp) (fun e => by rw [e]; exact hn)
  exact eff_over (hs H0 A0 hy) hw0 (fun tk => oksP hi) (fun i hl => ⟨n1 i (hL i hl).1 (hL i hl).2, n1 i (hL i hl).1 (hL i hl).2⟩) (fun τ hl => ⟨n2 τ (hM τ hl), n2 τ (hM τ hl)⟩)
theorem BW.doc {y : RS} (h : BW H A k did pid hid N logs T m top gs I xid x) (hy : ∀ L M, RH L M I xid x → RH (I.up L y) M I xid y) : BW (I.up H y) A k did pid hid N logs T m top gs I xid y := by
  obtain ⟨H0, A0, L, M, hy0, hx, hw, hab, hL, hM, ht, rfl, rfl⟩ := h
  have hp := hx.at_.p0
  refine ⟨H0, A0, I.up L y, M, hy0, hy L M hx, hx.at_.wf hw y, Above_updH hab (hx.at_.lt hab), fun i hi => ?_, hM, ht, I.up_lay y, rfl⟩
  by_cases e : i = I.pid
  · subst e; exact hL _ hp
  · rw [I.up_other _ e] at hi
    exact hL i hi
end bw
end Go.Proofs
