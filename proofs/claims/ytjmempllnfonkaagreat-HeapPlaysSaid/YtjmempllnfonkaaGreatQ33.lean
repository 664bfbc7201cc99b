/-
  Parts of the proof, laid together: PwNa, PwNb.
-/
import Derived.Test.YtjmempllnfonkaaGreatQ24
import Derived.Test.YtjmempllnfonkaaGreatQ14

namespace Go.Proofs
open Go.PW
def rdL (d : Dk) : List (List D) := (List.range d.n).map fun (j : Nat) => [dS (lkR (j : Int) d.stays)]
theorem rdL_len (d : Dk) : (rdL d).length = d.n := by simp [rdL]
theorem rdL_get {d : Dk} {j : Nat} (h : j < d.n) : (rdL d)[j]? = some [dS (lkR (j : Int) d.stays)] := by
  unfold rdL
  rw [List.getElem?_map, List.getElem?_range h]; rfl
theorem rdL_lay {d : Dk} {m : List (Int × List UInt8)} (hg : (keysN m).Nodup) (w : Int × List UInt8) (k : Nat) (hk : w.1 = (k : Int)) : rdL { d with stays := layN m w } = (rdL { d with stays := m }).set k [dS w.2] := by
  refine List.ext_getElem? fun j => ?_
  rw [List.getElem?_set]
  rcases Nat.lt_or_ge j d.n with hj | hj
  · rw [rdL_get (d := { d with stays := layN m w }) hj, rdL_get (d := { d with stays := m }) hj, lk_lay _ _ _ hg, rdL_len]
    by_cases e : k = j
    · subst e
      rw [if_pos hk, if_pos rfl, if_pos (show k < ({ d with stays := m } : Dk).n from hj)]
    · rw [if_neg (by omega), if_neg e]
  · rw [List.getElem?_eq_none (by rw [rdL_len]; exact hj)]
    by_cases e : k = j
    · rw [if_pos e, if_neg (by rw [rdL_len]; show ¬ k < d.n; omega)]
    · rw [if_neg e, List.getElem?_eq_none (by rw [rdL_len]; exact hj)]
def encRk (κl κw : Tok) (d : Dk) : List CV := [.tv κl 1 d.n d.n, .own κw (d.cache.map encW), .d (.lit (.int .i64 d.writes)), .d (.lit (.int .i64 d.flushes)), .d (.lit (.bool d.fused)), .d (.lit (.int .i64 d.left))]
structure RkAt (H : HMap) (A : AMap) (id : Nat) (κl κw : Tok) (d : Dk) : Prop where
  h : H id = some (encRk κl κw d)
  l : A κl = some (.mu 1 (rdL d))
  w : A κw = some (.co 2 d.cache.length)
theorem RkAt.ne {H : HMap} {A : AMap} {id : Nat} {κl κw : Tok} {d : Dk} (h : RkAt H A id κl κw d) : κl ≠ κw := fun e => by have := h.l; rw [e, h.w] at this; cases this
theorem encRk_ok {H : HMap} {A : AMap} {κl κw : Tok} {d : Dk} (hl : A κl ≠ none) (hw : A κw ≠ none) : ∀ c ∈ encRk κl κw d, c.ok (fun i => H i ≠ none) (fun κ => A κ ≠ none) := fun c h => by
  simp only [encRk, List.mem_cons, List.not_mem_nil, or_false] at h
  rcases h with rfl | rfl | rfl | rfl | rfl | rfl <;> first | exact True.intro | exact hl | exact hw
theorem RkAt.lt {H : HMap} {A : AMap} {id : Nat} {κl κw : Tok} {d : Dk} (h : RkAt H A id κl κw d) {off : Nat} (hab : Above off H A) : id < off ∧ κl.1 < off ∧ κw.1 < off :=
  ⟨Nat.lt_of_not_le fun x => (by have := h.h; rw [(hab id x).1] at this; cases this), Nat.lt_of_not_le fun x => (by have := h.l; rw [(hab κl.1 x).2 κl.2] at this; cases this), Nat.lt_of_not_le fun x => (by have := h.w; rw [(hab κw.1 x).2 κw.2] at this; cases this)⟩
theorem RkAt.ret {P : Program} {fn : Func} {H : HMap} {A A' : AMap} {id : Nat} {κl κw : Tok} {d d' : Dk} {v p : PV} {S : St} (hw : Wf H A) (hd : RkAt H A id κl κw d) (hp : resPVs P S fn.results.toList = some p) (hv : PV.wk (upd H id (some (encRk κl κw d'))) S.A A' v p) (hok : v.oks (fun i => upd H id (some (encRk κl κw d')) i ≠ none) (fun κ => A' κ ≠ none))
    (h1 : S.H id = some (encRk κl κw d')) (h2 : ∀ i, i ≠ id → S.H i = H i) (h3 : S.A = A') (h4 : ∀ κ, A κ ≠ none → A' κ ≠ none) : RetR P fn H A v (upd H id (some (encRk κl κw d'))) A' S := by
  subst h3
  have ok := encRk_ok (H := upd H id (some (encRk κl κw d'))) (d := d') (h4 κl (by rw [hd.l]; simp)) (h4 κw (by rw [hd.w]; simp))
  exact RetR_set hp hv hok hw (by rw [hd.h]; simp) h1 (wkC_same fun c hcc => ok_mono (fun _ h => h) (fun κ h => ⟨h, rfl⟩) (ok c hcc)) ok (fun i hi _ => h2 i hi) (fun κ => .inr (.inl rfl)) (fun κ h => ⟨h4 κ h, rfl⟩)
theorem RkAt.wf {H : HMap} {A A' : AMap} {id : Nat} {κl κw : Tok} {d : Dk} (hw : Wf H A) (hd : RkAt H A id κl κw d) (d' : Dk) (h4 : ∀ κ, A κ ≠ none → A' κ ≠ none) : Wf (upd H id (some (encRk κl κw d'))) A' :=
  Wf_set hw (encRk_ok (h4 κl (by rw [hd.l]; simp)) (h4 κw (by rw [hd.w]; simp))) h4
theorem Tryz.appR : AppT Tryz.prog 58 117 2 24 := ⟨Tryz.underlying58, Tryz.cl117, Tryz.by117, Tryz.zo117, by decide, by decide⟩
def tickD (d : Dk) : Dk := { d with left := IntKind.i64.wrap (d.left - 1) }
theorem pad_step {s : List UInt8} (h : s.length < 128) : pad (s ++ [0]) = pad s := by
  unfold pad zeros
  rw [List.drop_replicate, List.drop_replicate, List.length_append, List.append_assoc]
  congr 1
  show [0] ++ List.replicate (128 - (s.length + 1)) 0 = _
  rw [show 128 - s.length = (128 - (s.length + 1)) + 1 by omega, List.replicate_succ]
  rfl
theorem pad_big {s : List UInt8} (h : 128 ≤ s.length) : pad s = s := by
  unfold pad
  rw [List.drop_of_length_le (by rw [zeros_len]; omega), List.append_nil]
set_option maxRecDepth 8000 in
set_option maxHeartbeats 8000000 in
theorem Tryz.kPad (s : List UInt8) (hs : s.length ≤ 1000000) : PureOK Tryz.prog 20 [pD (dS s)] (.one (.d (dS (pad s)))) := by
  refine Tryz.pure (md := []) Tryz.func20 rfl Tryz.call20 (by kernel_rfl) (by rfl) (by exact Nat.le_of_ble_eq_true rfl) ?_
  repeat' (first
   |with_reducible first|refine vSq fun K hK=>?_|refine vRg ?_|refine vBl ?_|refine vSc ?_|refine vIf ?_|refine vSk ?_|refine vEx ?_|refine vRt ?_
   |(with_reducible first|refine gNt (fun h=>?_) (fun h=>?_)|refine gCs (fun h=>?_) (fun h=>?_))<;>(try simp only[h])
   |with_reducible first|(refine hK _ ?_;clear hK K)|(clear hK K;refine hK _ ?_;clear hK K)|(clear hK K;clear hK K;refine hK _ ?_;clear hK K)|(clear hK K;clear hK K;clear hK K;refine hK _ ?_;clear hK K)
   |(with_reducible refine todo ?_;simp +decide only[go_sem]))
  refine VC_while (ι := List UInt8) (fun x => pad x = pad s ∧ x.length ≤ 1000000) (fun x => frame [(0, pD (dS x))] [] []) (fun x => 128 - x.length) s ⟨rfl, hs⟩ ?_ ?_
  · refine Weak_frame ?_ ?_ ?_ <;> simp +decide only [go_sem]
  · rintro x ⟨h1, h2⟩
    by_cases h : x.length < 128
    · have hc : ((x.length : Int) < 128) = True := eq_true (by omega)
      have s1 : (x.length + 1 ≤ 9223372036854775807) = True := eq_true (by omega)
      repeat' (first
       |with_reducible first|refine vSq fun K hK=>?_|refine vRg ?_|refine vBl ?_|refine vSc ?_|refine vIf ?_|refine vSk ?_|refine vEx ?_|refine vRt ?_
       |(with_reducible first|refine gNt (fun h=>?_) (fun h=>?_)|refine gCs (fun h=>?_) (fun h=>?_))<;>(try simp only[h])
       |with_reducible first|(refine hK _ ?_;clear hK K)|(clear hK K;refine hK _ ?_;clear hK K)|(clear hK K;clear hK K;refine hK _ ?_;clear hK K)|(clear hK K;clear hK K;clear hK K;refine hK _ ?_;clear hK K)
       |(with_reducible refine todo ?_;simp +decide only[go_sem, hc, s1]))
      exact ⟨⟨x ++ [0], (pad_step h).trans h1, by rw [List.length_append, List.length_singleton]; omega⟩, by refine Weak_frame ?_ ?_ ?_ <;> simp +decide only [go_sem], by show 128 - (x ++ [0]).length < 128 - x.length; rw [List.length_append, List.length_singleton]; omega⟩
    · have hc : ((x.length : Int) < 128) = False := eq_false (by omega)
      have hx : pad x = x := pad_big (by omega)
      repeat' (first
       |with_reducible first|refine vSq fun K hK=>?_|refine vRg ?_|refine vBl ?_|refine vSc ?_|refine vIf ?_|refine vSk ?_|refine vEx ?_|refine vRt ?_
       |(with_reducible first|refine gNt (fun h=>?_) (fun h=>?_)|refine gCs (fun h=>?_) (fun h=>?_))<;>(try simp only[h])
       |with_reducible first|(refine hK _ ?_;clear hK K)|(clear hK K;refine hK _ ?_;clear hK K)|(clear hK K;clear hK K;refine hK _ ?_;clear hK K)|(clear hK K;clear hK K;clear hK K;refine hK _ ?_;clear hK K)
       |(with_reducible refine todo ?_;simp +decide only[go_sem, hc]))
      rw [← h1, hx]
      exact Ret_d rfl rfl
section disk
variable {H : HMap} {A : AMap} {id : Nat} {κl κw : Tok} {d : Dk}
set_option maxRecDepth 8000 in
set_option maxHeartbeats 16000000 in
theorem Tryz.rBurntF (off : Nat) (hw : Wf H A) (hd : RkAt H A id κl κw d) (hb : burnt d = false) : EffOK Tryz.prog 70 off H A [.c (.ptr id 0)] (pD (.lit (.bool false))) (upd H id (some (encRk κl κw (tickD d)))) A := by
  refine effr_ok (E := envOf Tryz.prog [] off [] []) (envOf_ok Tryz.mixed) Tryz.func70 rfl Tryz.call70 (by kernel_rfl) (by exact Nat.le_of_ble_eq_true rfl) (fun hab => ?_)
  have hid := hd.h
  unfold encRk at hid
  have fin : ∀ {S : St}, S.ρ 2 = pD (.lit (.bool false)) → S.H = upd H id (some [.tv κl 1 d.n d.n, .own κw (d.cache.map encW), .d (.lit (.int .i64 d.writes)), .d (.lit (.int .i64 d.flushes)), .d (.lit (.bool d.fused)), .d (.lit (.int .i64 (IntKind.i64.wrap (d.left - 1))))]) → S.A = A → True := fun _ _ _ => True.intro
  clear fin
  cases hf : d.fused with
  | false =>
    repeat' (first
     |with_reducible first|refine vSq fun K hK=>?_|refine vRg ?_|refine vBl ?_|refine vSc ?_|refine vIf ?_|refine vSk ?_|refine vEx ?_|refine vRt ?_
     |(with_reducible first|refine gNt (fun h=>?_) (fun h=>?_)|refine gCs (fun h=>?_) (fun h=>?_))<;>(try simp only[h])
     |with_reducible first|(refine hK _ ?_;clear hK K)|(clear hK K;refine hK _ ?_;clear hK K)|(clear hK K;clear hK K;refine hK _ ?_;clear hK K)|(clear hK K;clear hK K;clear hK K;refine hK _ ?_;clear hK K)
     |(with_reducible refine todo ?_;simp +decide only[go_sem, hid, hf]))
    refine RkAt.ret hw hd rfl (by simp +decide only [go_sem]) True.intro ?_ ?_ rfl (fun _ h => h)
    · simp +decide only [go_sem, encRk, tickD, hf]
    · intro i hi
      simp +decide only [go_sem, hi]
  | true =>
    have hl : (d.left == 0) = false := by unfold burnt at hb; rw [hf] at hb; exact hb
    repeat' (first
     |with_reducible first|refine vSq fun K hK=>?_|refine vRg ?_|refine vBl ?_|refine vSc ?_|refine vIf ?_|refine vSk ?_|refine vEx ?_|refine vRt ?_
     |(with_reducible first|refine gNt (fun h=>?_) (fun h=>?_)|refine gCs (fun h=>?_) (fun h=>?_))<;>(try simp only[h])
     |with_reducible first|(refine hK _ ?_;clear hK K)|(clear hK K;refine hK _ ?_;clear hK K)|(clear hK K;clear hK K;refine hK _ ?_;clear hK K)|(clear hK K;clear hK K;clear hK K;refine hK _ ?_;clear hK K)
     |(with_reducible refine todo ?_;simp +decide only[go_sem, hid, hf, hl]))
    refine RkAt.ret hw hd rfl (by simp +decide only [go_sem]) True.intro ?_ ?_ rfl (fun _ h => h)
    · simp +decide only [go_sem, encRk, tickD, hf]
    · intro i hi
      simp +decide only [go_sem, hi]
set_option maxRecDepth 8000 in
set_option maxHeartbeats 16000000 in
theorem Tryz.rRead (off : Nat) (hw : Wf H A) (hd : RkAt H A id κl κw d) (at_ : Nat) (ha : at_ < d.n) (hl : d.cache.length ≤ 1000000) : EffOK Tryz.prog 54 off H A [.c (.ptr id 0), pD (.lit (.int .i64 at_))] (.tup [.c (.d (dS (rd d at_))), .c (.d (.lit (.int .i64 0)))]) H A := by
  refine effr_ok (E := envOf Tryz.prog [] off [] []) (envOf_ok Tryz.mixed) Tryz.func54 rfl Tryz.call54 (by kernel_rfl) (by exact Nat.le_of_ble_eq_true rfl) (fun hab => ?_)
  have hid := hd.h
  unfold encRk at hid
  have c1 : ((at_ : Int) < 0) = False := eq_false (by omega)
  have c2 : ((d.n : Int) ≤ (at_ : Int)) = False := eq_false (by omega)
  have hwr : IntKind.i64.wrap ((d.cache.length : Int) - 1) = bk d.cache.length := Go.IntWalk.i64_in _ (by omega)
  have hptr : PV.wk (hOver [] H) A A (.c (.ptr id 0)) (.c (.ptr id 0)) = True := eq_true (wkP_ptr (by show H id ≠ none; rw [hd.h]; simp))
  repeat' (first
   |with_reducible first|refine vSq fun K hK=>?_|refine vRg ?_|refine vBl ?_|refine vSc ?_|refine vIf ?_|refine vSk ?_|refine vEx ?_|refine vRt ?_
   |(with_reducible first|refine gNt (fun h=>?_) (fun h=>?_)|refine gCs (fun h=>?_) (fun h=>?_))<;>(try simp only[h])
   |with_reducible first|(refine hK _ ?_;clear hK K)|(clear hK K;refine hK _ ?_;clear hK K)|(clear hK K;clear hK K;refine hK _ ?_;clear hK K)|(clear hK K;clear hK K;clear hK K;refine hK _ ?_;clear hK K)
   |(with_reducible refine todo ?_;simp +decide only[go_sem, hid, c1, c2, hwr]))
  refine VC_while (ι := Nat) (fun k => k ≤ d.cache.length ∧ lastW (at_ : Int) (d.cache.take k) = lastW (at_ : Int) d.cache)
    (fun k => over [(0, .c (.ptr id 0)), (1, pD (.lit (.int .i64 at_))), (6, pD (.lit (.int .i64 (bk k))))] [] H A) (fun k => k) d.cache.length ⟨Nat.le_refl _, by rw [List.take_length]⟩ ?_ ?_
  · refine Weak_over hw kp_refl rfl ?_ ?_ <;> simp +decide only [go_sem, hptr]
  · rintro k ⟨hk, hi⟩
    cases k with
    | zero =>
      have e : rd d at_ = lkR (at_ : Int) d.stays := by rw [rd_eq, ← hi]; rfl
      have g1 := rdL_get ha
      have hlA := hd.l
      have hix : idxE Tryz.prog 9 at_ (.c (.tv κl 1 d.n d.n)) = some (.c (.mptr κl 1 d.n at_ 0)) := by
        show (if at_ < d.n ∧ 1 = Tryz.prog.cellsOf 9 then _ else none) = _
        rw [if_pos ⟨ha, by rw [Tryz.cl9]⟩]
      have hle : (d.n = (rdL d).length) = True := eq_true (rdL_len d).symm
      repeat' (first
       |with_reducible first|refine vSq fun K hK=>?_|refine vRg ?_|refine vBl ?_|refine vSc ?_|refine vIf ?_|refine vSk ?_|refine vEx ?_|refine vRt ?_
       |(with_reducible first|refine gNt (fun h=>?_) (fun h=>?_)|refine gCs (fun h=>?_) (fun h=>?_))<;>(try simp only[h])
       |with_reducible first|(refine hK _ ?_;clear hK K)|(clear hK K;refine hK _ ?_;clear hK K)|(clear hK K;clear hK K;refine hK _ ?_;clear hK K)|(clear hK K;clear hK K;clear hK K;refine hK _ ?_;clear hK K)
       |(with_reducible refine todo ?_;simp +decide only[go_sem, hid, hix, hlA, hle, g1]))
      rw [e]
      exact RetR_same rfl wk_pair oks_pair hw kp_refl (fun _ _ => rfl)
    | succ k =>
      have h0 : (0 ≤ bk (k + 1)) = True := eq_true (by unfold bk; omega)
      have h1 : (bk (k + 1)).toNat = k := by unfold bk; omega
      have h2 : IntKind.i64.wrap (bk (k + 1) - 1) = bk k := by unfold bk; rw [Go.IntWalk.i64_in _ (by omega)]; omega
      have h3 : d.cache[k]? = some d.cache[k] := List.getElem?_eq_getElem hk
      rw [List.take_add_one, h3, Option.toList_some, lastW_snoc] at hi
      generalize d.cache[k] = x at *
      by_cases hx : x.1 = (at_ : Int)
      · have hx' : (x.1 == (at_ : Int)) = true := by simpa using hx
        rw [if_pos hx] at hi
        have e : rd d at_ = x.2 := by unfold rd; rw [← hi]
        repeat' (first
         |with_reducible first|refine vSq fun K hK=>?_|refine vRg ?_|refine vBl ?_|refine vSc ?_|refine vIf ?_|refine vSk ?_|refine vEx ?_|refine vRt ?_
         |(with_reducible first|refine gNt (fun h=>?_) (fun h=>?_)|refine gCs (fun h=>?_) (fun h=>?_))<;>(try simp only[h])
         |with_reducible first|(refine hK _ ?_;clear hK K)|(clear hK K;refine hK _ ?_;clear hK K)|(clear hK K;clear hK K;refine hK _ ?_;clear hK K)|(clear hK K;clear hK K;clear hK K;refine hK _ ?_;clear hK K)
         |(with_reducible refine todo ?_;simp +decide only[go_sem, hid, h0, h1, h3, hx']))
        rw [e]
        exact RetR_same rfl wk_pair oks_pair hw kp_refl (fun _ _ => rfl)
      · have hx' : (x.1 == (at_ : Int)) = false := by simpa using hx
        rw [if_neg hx] at hi
        repeat' (first
         |with_reducible first|refine vSq fun K hK=>?_|refine vRg ?_|refine vBl ?_|refine vSc ?_|refine vIf ?_|refine vSk ?_|refine vEx ?_|refine vRt ?_
         |(with_reducible first|refine gNt (fun h=>?_) (fun h=>?_)|refine gCs (fun h=>?_) (fun h=>?_))<;>(try simp only[h])
         |with_reducible first|(refine hK _ ?_;clear hK K)|(clear hK K;refine hK _ ?_;clear hK K)|(clear hK K;clear hK K;refine hK _ ?_;clear hK K)|(clear hK K;clear hK K;clear hK K;refine hK _ ?_;clear hK K)
         |(with_reducible refine todo ?_;simp +decide only[go_sem, hid, h0, h1, h3, hx', h2]))
        refine ⟨⟨k, by omega, hi⟩, Weak_over hw kp_refl rfl ?_ ?_, by show k < k + 1; omega⟩ <;> simp +decide only [go_sem, hptr]
set_option maxRecDepth 8000 in
set_option maxHeartbeats 16000000 in
theorem Tryz.rWrite (off : Nat) (hw : Wf H A) (hd : RkAt H A id κl κw d) (k : Int) (s : List UInt8) (hn : 0 < d.n) (hl : d.cache.length ≤ 1000000) (he : writeE d k s = 0) :
    EffOK Tryz.prog 65 off H A [.c (.ptr id 0), pD (.lit (.int .i64 k)), pD (dS s)] (pD (.lit (.int .i64 0))) (upd H id (some (encRk κl κw (wrD d k s)))) (upd A κw (some (.co 2 (d.cache.length + 1)))) := by
  refine effr_ok (E := envOf Tryz.prog [70] off [] []) (envOf_ok Tryz.mixed) Tryz.func65 rfl Tryz.call65 (by kernel_rfl) (by exact Nat.le_of_ble_eq_true rfl) (fun hab => ?_)
  have hid := hd.h
  unfold encRk at hid
  have hr : dkRight d k = 0 := by unfold writeE at he; by_cases h : dkRight d k = 0; exact h; rw [if_pos h] at he; exact he
  unfold writeE at he
  rw [if_neg (by simpa using hr)] at he
  have hs : s.length ≤ 128 := by by_cases h : 128 < s.length; (rw [if_pos h] at he; cases he); omega
  rw [if_neg (by omega)] at he
  have hb : burnt d = false := by cases h : burnt d; rfl; rw [h] at he; cases he
  have hk : ¬ (k < 0 ∨ (d.n : Int) ≤ k) := fun h => by unfold dkRight at hr; rw [if_neg (by omega), if_pos h] at hr; cases hr
  have c1 : (k < 0) = False := eq_false (by omega)
  have c2 : ((d.n : Int) ≤ k) = False := eq_false (by omega)
  have c3 : ((128 : Int) < (s.length : Int)) = False := eq_false (by omega)
  have kb := Tryz.rBurntF (off + 1000) hw hd hb
  have hlt := hd.lt hab
  have kp := Tryz.kPad s (by omega)
  have ha : A κw = some (.co 2 (d.cache.map encW).length) := by rw [List.length_map]; exact hd.w
  have hab1 : Above (off + 1000) (upd H id (some (encRk κl κw (tickD d)))) A := Above_updH (Above_mono hab (by omega)) (by omega)
  unfold encRk tickD at kb hab1
  repeat' (first
   |with_reducible first|refine vSq fun K hK=>?_|refine vRg ?_|refine vBl ?_|refine vSc ?_|refine vIf ?_|refine vSk ?_|refine vEx ?_|refine vRt ?_
   |(with_reducible first|refine gNt (fun h=>?_) (fun h=>?_)|refine gCs (fun h=>?_) (fun h=>?_))<;>(try simp only[h])
   |refine C_call rfl kb rfl (Above_mono hab (by omega)) ?_
   |refine C_pure kp rfl rfl (fun k => (hab _ (Nat.le_add_right _ _)).2 k) ?_
   |(refine W_own Tryz.appR rfl (szd_enc _) (szOne rfl) (by simp only [List.length_map, List.length_singleton]; omega) ha ?_)
   |with_reducible first|(refine hK _ ?_;clear hK K)|(clear hK K;refine hK _ ?_;clear hK K)|(clear hK K;clear hK K;refine hK _ ?_;clear hK K)|(clear hK K;clear hK K;clear hK K;refine hK _ ?_;clear hK K)
   |(with_reducible refine todo ?_;simp +decide only[go_sem, hid, c1, c2, c3, upd_twice]))
  refine RkAt.ret hw hd rfl (by simp +decide only [go_sem]) True.intro ?_ ?_ ?_ upd_keep
  · simp +decide only [go_sem, encRk, wrD]
  · intro i hi
    simp +decide only [go_sem, hi]
  · simp +decide only [go_sem]
end disk
end Go.Proofs

namespace Go.Proofs
open Go.PW
def CIn (d : Dk) : Prop := ∀ w ∈ d.cache, 0 ≤ w.1 ∧ w.1 < (d.n : Int)
theorem layAll_nd {m : List (Int × List UInt8)} (h : (keysN m).Nodup) (l : List (Int × List UInt8)) : (keysN (layAll m l)).Nodup := (layAll_spec 0 l m h).1
theorem layAll_snoc (m : List (Int × List UInt8)) (l : List (Int × List UInt8)) (w : Int × List UInt8) : layAll m (l ++ [w]) = layN (layAll m l) w := by
  unfold layAll
  rw [List.foldl_append]; rfl
section disk
variable {H : HMap} {A : AMap} {id : Nat} {κl κw κ' : Tok} {d : Dk}
theorem RkAt.retF {P : Program} {fn : Func} {v p : PV} {S : St} {d1 d' : Dk} (hw : Wf H A) (hd : RkAt H A id κl κw d) (hκ : A κ' = none) (hn : d'.n = d1.n) (hc : d'.cache = []) (hp : resPVs P S fn.results.toList = some p) {x : D} (hv : v = .c (.d x)) (hpv : p = .c (.d x)) (hH : ∀ i, i ≠ id → S.H i = H i)
    (hS : S.H id = some [.tv κl 1 d1.n d1.n, .full [], .d (.lit (.int .i64 d'.writes)), .d (.lit (.int .i64 d'.flushes)), .d (.lit (.bool d'.fused)), .d (.lit (.int .i64 d'.left))]) (hA : S.A = upd A κl (some (.mu 1 (rdL d')))) :
    RetR P fn H A v (upd H id (some (encRk κl κ' d'))) (upd (upd A κl (some (.mu 1 (rdL d')))) κ' (some (.co 2 0))) S := by
  have n1 : κ' ≠ κl := fun e => by have := hd.l; rw [← e, hκ] at this; cases this
  have hκ1 : upd A κl (some (.mu 1 (rdL d'))) κ' = none := by rw [upd_other _ _ n1]; exact hκ
  have hkl : upd (upd A κl (some (.mu 1 (rdL d')))) κ' (some (.co 2 0)) κl ≠ none := upd_keep _ (by rw [upd_same]; simp)
  have hw1 : Wf H (upd A κl (some (.mu 1 (rdL d')))) := Wf_arr hw upd_keep
  subst hv hpv
  refine RetR_own (H1 := H) (A1 := upd A κl (some (.mu 1 (rdL d')))) hp hw1 (fun i hi _ => hH i hi) hS hA hκ1 ?_ (encRk_ok hkl (by rw [upd_same]; simp)) (fun _ h => h) upd_keep
  unfold encRk
  rw [hc, hn]
  refine ⟨.inr (.inl ⟨rfl, hkl, upd_other _ _ n1.symm⟩), .inr (.inr (.inr (.inl ⟨rfl, κ', 2, rfl, hκ1, upd_same _ _ _⟩))), ?_, ?_, ?_, ?_, True.intro⟩ <;> exact .inr (.inl ⟨rfl, True.intro⟩)
set_option maxRecDepth 8000 in
set_option maxHeartbeats 16000000 in
theorem Tryz.rFlush (off : Nat) (hw : Wf H A) (hd : RkAt H A id κl κw d) (hg : DkG d) (hci : CIn d) (hl : d.cache.length ≤ 1000000) (hb : burnt d = false) (hκ : A κ' = none) :
    EffOK Tryz.prog 27 off H A [.c (.ptr id 0)] (pD (.lit (.int .i64 0))) (upd H id (some (encRk κl κ' (flD d)))) (upd (upd A κl (some (.mu 1 (rdL (flD d))))) κ' (some (.co 2 0))) := by
  refine effr_ok (E := envOf Tryz.prog [70] off [] [6]) (envOf_ok Tryz.mixed) Tryz.func27 rfl Tryz.call27 (by kernel_rfl) (by exact Nat.le_of_ble_eq_true rfl) (fun hab => ?_)
  have kb := Tryz.rBurntF (off + 1000) hw hd hb
  have hlt := hd.lt hab
  have hid := hd.h
  have hne := hd.ne
  have hLn : ∀ m, (rdL { d with stays := m }).length = d.n := fun m => rdL_len _
  have hl0 : rdL { d with stays := layAll d.stays (d.cache.take 0) } = rdL d := rfl
  have hwi : ∀ i, Wf (upd H id (some (encRk κl κw (tickD d)))) (upd A κl (some (.mu 1 (rdL { d with stays := layAll d.stays (d.cache.take i) })))) := fun i => RkAt.wf hw hd _ upd_keep
  have hptr : ∀ {A1 A2 : AMap} {x : List CV}, PV.wk (hOver [] (upd H id (some x))) A1 A2 (.c (.ptr id 0)) (.c (.ptr id 0)) = True := eq_true (wkP_ptr (by show upd _ _ _ _ ≠ none; rw [upd_same]; simp))
  have hab1 : Above (off + 1000) (upd H id (some (encRk κl κw (tickD d)))) A := Above_updH (Above_mono hab (by omega)) (by omega)
  have hself : upd A κl (some (.mu 1 (rdL { d with stays := layAll d.stays (d.cache.take 0) }))) = A := upd_self hd.l
  repeat' (first
   |with_reducible first|refine vSq fun K hK=>?_|refine vRg ?_|refine vBl ?_|refine vSc ?_|refine vIf ?_|refine vSk ?_|refine vEx ?_|refine vRt ?_
   |(with_reducible first|refine gNt (fun h=>?_) (fun h=>?_)|refine gCs (fun h=>?_) (fun h=>?_))<;>(try simp only[h])
   |refine C_call rfl kb rfl (Above_mono hab (by omega)) ?_
   |with_reducible first|(refine hK _ ?_;clear hK K)|(clear hK K;refine hK _ ?_;clear hK K)|(clear hK K;clear hK K;refine hK _ ?_;clear hK K)|(clear hK K;clear hK K;clear hK K;refine hK _ ?_;clear hK K)
   |(with_reducible refine todo ?_;simp +decide only[go_sem]))
  refine VC_range d.cache.length (fun _ => True) (fun i => over [(0, .c (.ptr id 0)), (3, pD (.lit (.int .i64 i)))] [] (upd H id (some (encRk κl κw (tickD d)))) (upd A κl (some (.mu 1 (rdL { d with stays := layAll d.stays (d.cache.take i) }))))) True.intro ?_ ?_
  · refine Weak_overG (hwi 0) (fun _ _ => rfl) hself.symm ?_ ?_ upd_keepH upd_keep
    · simp +decide only [go_sem, hptr]
    · simp +decide only [go_sem]
  · intro i hi _
    rcases Nat.lt_or_ge i d.cache.length with hi2 | hi2
    · have hc := int_lt_true hi2
      have hnx := int_next hi2 (by omega)
      have h3 : d.cache[i]? = some d.cache[i] := List.getElem?_eq_getElem hi2
      obtain ⟨w1, w2⟩ := hci d.cache[i] (List.getElem_mem hi2)
      have hst : d.cache.take (i + 1) = d.cache.take i ++ [d.cache[i]] := by rw [List.take_add_one, h3]; rfl
      have hset := rdL_lay (d := d) (layAll_nd hg (d.cache.take i)) d.cache[i] d.cache[i].1.toNat (by omega)
      rw [← layAll_snoc, ← hst] at hset
      have hwi1 := hwi (i + 1)
      have hg1 : (rdL { d with stays := layAll d.stays (d.cache.take i) })[d.cache[i].1.toNat]? = some [dS (lkR ((d.cache[i].1.toNat : Nat) : Int) (layAll d.stays (d.cache.take i)))] := rdL_get (d := { d with stays := layAll d.stays (d.cache.take i) }) (by show d.cache[i].1.toNat < d.n; omega)
      have hnn : (0 ≤ d.cache[i].1) = True := eq_true w1
      have hix : idxE Tryz.prog 9 d.cache[i].1.toNat (.c (.tv κl 1 d.n d.n)) = some (.c (.mptr κl 1 d.n d.cache[i].1.toNat 0)) := by
        show (if d.cache[i].1.toNat < d.n ∧ 1 = Tryz.prog.cellsOf 9 then _ else none) = _
        rw [if_pos ⟨by omega, by rw [Tryz.cl9]⟩]
      have hle : (d.n = (rdL { d with stays := layAll d.stays (d.cache.take i) }).length) = True := eq_true (hLn _).symm
      have hb6 : ((6 : Nat) == 6) = true := rfl
      generalize hLi : rdL { d with stays := layAll d.stays (d.cache.take i) } = Li at *
      generalize hLj : rdL { d with stays := layAll d.stays (d.cache.take (i + 1)) } = Lj at *
      generalize lkR ((d.cache[i].1.toNat : Nat) : Int) (layAll d.stays (d.cache.take i)) = old at *
      generalize d.cache[i] = w at *
      repeat' (first
       |with_reducible first|refine vSq fun K hK=>?_|refine vRg ?_|refine vBl ?_|refine vSc ?_|refine vIf ?_|refine vSk ?_|refine vEx ?_|refine vRt ?_
       |(with_reducible first|refine gNt (fun h=>?_) (fun h=>?_)|refine gCs (fun h=>?_) (fun h=>?_))<;>(try simp only[h])
       |with_reducible first|(refine hK _ ?_;clear hK K)|(clear hK K;refine hK _ ?_;clear hK K)|(clear hK K;clear hK K;refine hK _ ?_;clear hK K)|(clear hK K;clear hK K;clear hK K;refine hK _ ?_;clear hK K)
       |(with_reducible refine todo ?_;simp +decide only[go_sem, encRk, tickD, hc, hnx, h3, hnn, hix, hle, hg1, upd_twice]))
      subst hLj
      refine Next_of hi2 True.intro (Weak_overG hwi1 (fun _ _ => rfl) ?_ ?_ ?_ upd_keepH upd_keep)
      · exact congrArg (fun L => upd A κl (some (Arr.mu 1 L))) hset.symm
      · simp +decide only [go_sem, hptr]
      · simp +decide only [go_sem]
    · have hc := int_lt_false hi2
      have hie : i = d.cache.length := by omega
      subst hie
      have ht : d.cache.take d.cache.length = d.cache := List.take_of_length_le (Nat.le_refl _)
      rw [ht]
      repeat' (first
       |with_reducible first|refine vSq fun K hK=>?_|refine vRg ?_|refine vBl ?_|refine vSc ?_|refine vIf ?_|refine vSk ?_|refine vEx ?_|refine vRt ?_
       |(with_reducible first|refine gNt (fun h=>?_) (fun h=>?_)|refine gCs (fun h=>?_) (fun h=>?_))<;>(try simp only[h])
       |with_reducible first|(refine hK _ ?_;clear hK K)|(clear hK K;refine hK _ ?_;clear hK K)|(clear hK K;clear hK K;refine hK _ ?_;clear hK K)|(clear hK K;clear hK K;clear hK K;refine hK _ ?_;clear hK K)
       |(with_reducible refine todo ?_;simp +decide only[go_sem, encRk, tickD, hc, upd_twice]))
      refine RkAt.retF (d1 := d) (d' := flD d) hw hd hκ rfl rfl rfl rfl rfl (fun j hj => ?_) ?_ rfl
      · simp +decide only [go_sem, hj]
      · simp +decide only [go_sem, flD]
end disk
end Go.Proofs
