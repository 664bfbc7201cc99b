/-
  Parts of the proof, laid together: PwNp, PwNq, PwNr.
-/
import Derived.Test.YtjmempllnfonkaaGreatQ37
import Derived.Test.YtjmempllnfonkaaGreatQ33
import Derived.Test.YtjmempllnfonkaaGreatQ32
import Derived.Test.YtjmempllnfonkaaGreatQ17
import Derived.Test.YtjmempllnfonkaaGreatQ30

namespace Go.Proofs
open Go.PW
def openS (x : RS) : RS := if x.1.length < 2 then x else if isFG x.1 1 = true then wrS (allocS x 1) 1 (pad [82]) else x
def openE (x : RS) : Int := if x.1.length < 2 then 1 else if isFG x.1 1 = true then 0 else if (pgAt x.1 1).getD 0 0 = 82 then 0 else 7
theorem openS_1 {x : RS} (h : 2 ≤ x.1.length) : (openS x).1 = openG x.1 := by
  unfold openS openG
  rw [if_neg (by omega)]
  split <;> rfl
section rh
variable {H : HMap} {A : AMap} {I : RI} {hid : Nat} {x : RS}
theorem RAt.open_ (h : RAt H A I x) : RAt (I.up H (openS x)) A I (openS x) := by
  have hs : RAt (I.up H x) A I x := by rw [RI.up_self h]; exact h
  unfold openS
  split
  · exact hs
  · split
    · have h1 := h.alloc (q := 1) (by omega)
      have h2 := h1.wr (j := 1) (s := pad [82]) (by show 1 < (allocG _ _).length; unfold allocG; rw [List.length_set, List.length_set]; omega) (pad_len (by decide))
      rw [I.up_up] at h2
      exact h2
    · exact hs
theorem RAt.beside (h : RAt H A I x) {u : Nat} {c : List CV} (hu : H u = none) : RAt (upd H u (some c)) A I x := by
  have o : ∀ {i : Nat}, H i ≠ none → upd H u (some c) i = H i := fun {i} hi => upd_other _ _ fun e => hi (by rw [e]; exact hu)
  exact ⟨by rw [o h.p0]; exact h.h, ⟨by rw [o (by rw [h.d.h]; simp)]; exact h.d.h, h.d.l, h.d.w⟩, by rw [o h.l0]; exact h.l0, h.n, h.big, h.cl, h.one, h.most, h.len, h.sort, h.key, h.pg⟩
theorem RI.up_comm (I : RI) (y : RS) {u : Nat} {c : List CV} (h : u ≠ I.pid) : I.up (upd H u (some c)) y = upd (I.up H y) u (some c) := by
  funext i
  unfold RI.up
  by_cases e : i = u
  · subst e
    rw [upd_same, upd_other _ _ h, upd_same]
  · rw [upd_other _ _ e]
    by_cases e2 : i = I.pid
    · subst e2
      rw [upd_same, upd_same]
    · rw [upd_other _ _ e2, upd_other _ _ e2, upd_other _ _ e]
set_option maxRecDepth 8000 in
set_option maxHeartbeats 16000000 in
theorem Tryz.rHOpen (off : Nat) (hw : Wf H A) (h : RAt H A I x) (hn : H hid = none) :
    EffOK Tryz.prog 13 off H A [.c (.ptr I.pid 0)] (.tup [.c (.ptr hid 0), .c (.d (.lit (.int .i64 (openE x))))]) (upd (I.up H (openS x)) hid (some [.ptr I.pid 0])) A := by
  refine effr_ok (E := envOf Tryz.prog [34, 35, 9, 11, 19] off [] []) (envOf_ok Tryz.mixed) Tryz.func13 rfl Tryz.call13 (by kernel_rfl) (by exact Nat.le_of_ble_eq_true rfl) (fun hab => ?_)
  have hab' := Above_mono hab (Nat.le_add_right off 1000)
  have hpl := h.lt hab
  have n9 : H (off + 9) = none := (hab _ (Nat.le_add_right _ _)).1
  have hpn : ∀ {X : HMap}, H I.pid ≠ none → X = H → X I.pid ≠ none := fun hp e => by rw [e]; exact hp
  have obj : ∀ {y : RS} {S : St} {e : Int}, S.H = upd (I.up H y) (off + 9) (some [.ptr I.pid 0]) → S.A = A →
      resPVs Tryz.prog S (Tryz.f13).results.toList = some (.tup [.c (.ptr (off + 9) 0), .c (.d (.lit (.int .i64 e)))]) → RetR Tryz.prog Tryz.f13 H A (.tup [.c (.ptr hid 0), .c (.d (.lit (.int .i64 e)))]) (upd (I.up H y) hid (some [.ptr I.pid 0])) A S := fun {y S e} y1 y2 y3 => by
    have hwX := h.wf hw y
    have hpX : I.up H y I.pid ≠ none := I.up_keep _ h.p0
    have n1 : I.up H y hid = none := by
      have e : hid ≠ I.pid := fun e => h.p0 (by rw [← e]; exact hn)
      rw [I.up_other _ e]
      exact hn
    have n2 : I.up H y (off + 9) = none := by
      rw [I.up_other _ (by omega)]
      exact n9
    have him : [CV.ptr I.pid 0].map (CV.im (swp hid (off + 9)) (fun τ => τ)) = [CV.ptr I.pid 0] := by
      show [CV.ptr (swp hid (off + 9) I.pid) 0] = _
      rw [show swp hid (off + 9) I.pid = I.pid from if_neg (fun e => h.p0 (by rw [e]; exact hn))]
    have hcok : ∀ {i : Nat} {Z : AMap}, ∀ c ∈ [CV.ptr I.pid 0], c.ok (fun j => upd (I.up H y) i (some [CV.ptr I.pid 0]) j ≠ none) (fun κ => Z κ ≠ none) := fun {i} {Z} c hc => by
      rw [List.mem_singleton.1 hc]
      exact upd_keepH _ hpX
    refine RetR_obj (H1 := I.up H y) (A1 := A) (A'' := A) (i' := off + 9) (h := fun τ => τ) (ds := [.ptr I.pid 0]) y3 ?_ (oks_pairP (by rw [upd_same]; simp)) hwX (fun j hj => I.up_keep _ hj) (fun _ h => h) n1 n2 hcok ?_ (by rw [y1]; exact upd_same _ _ _) ?_ (fun κ h => ⟨rfl, h⟩) (fun κ ar h => h) (fun i j _ _ h => h) (fun τ => .inr (.inl (by rw [y2])))
    · show PV.wk _ _ _ (.tup [.c (.ptr (swp hid (off + 9) hid) 0), _]) _
      rw [show swp hid (off + 9) hid = off + 9 from if_pos rfl]
      exact wk_pairP (by rw [upd_same]; simp)
    · intro i es hi
      have hne : i ≠ off + 9 := fun e => by rw [e, n2] at hi; cases hi
      refine ⟨es, by rw [y1, upd_other _ _ hne]; exact hi, wkC_same fun c hc => ok_mono upd_keepH (fun τ h => ⟨h, by rw [y2]⟩) (hwX i es c hi hc)⟩
    · rw [him]
      exact wkC_same (fun c hc => ok_mono (fun _ h => h) (fun τ h => ⟨h, by rw [y2]⟩) (hcok (Z := A) c hc))
  have hu : off + 9 ≠ I.pid := by omega
  have hw1 : Wf (upd H (off + 9) (some [.ptr I.pid 0])) A := Wf_set hw (fun c hc => by rw [List.mem_singleton.1 hc]; exact upd_keepH _ h.p0) (fun _ h => h)
  have h1 := h.beside (c := [.ptr I.pid 0]) n9
  have ab1 : Above (off + 1000) (upd H (off + 9) (some [.ptr I.pid 0])) A := Above_updH hab' (by omega)
  have kl := Tryz.nLen (off + 1000) hw1 h1
  have up1 := fun y => RI.up_comm (H := H) I y (c := [.ptr I.pid 0]) hu
  have us : I.up H x = H := RI.up_self h
  by_cases c0 : x.1.length < 2
  · have c1 : ((x.1.length : Int) < 2) = True := eq_true (by omega)
    have e1 : openS x = x := if_pos c0
    have e2 : openE x = 1 := if_pos c0
    rw [e1, e2]
    repeat' (first
     |with_reducible first|refine vSq fun K hK=>?_|refine vRg ?_|refine vBl ?_|refine vSc ?_|refine vIf ?_|refine vSk ?_|refine vEx ?_|refine vRt ?_
     |(with_reducible first|refine gNt (fun h=>?_) (fun h=>?_)|refine gCs (fun h=>?_) (fun h=>?_))<;>(try simp only[h])
     |refine C_call rfl kl rfl ab1 ?_
     |refine And.intro n9 ?_
     |with_reducible first|(refine hK _ ?_;clear hK K)|(clear hK K;refine hK _ ?_;clear hK K)|(clear hK K;clear hK K;refine hK _ ?_;clear hK K)|(clear hK K;clear hK K;clear hK K;refine hK _ ?_;clear hK K)
     |(with_reducible refine todo ?_;simp +decide only[go_sem, c1]))
    exact obj (by rw [us]) rfl rfl
  · have c1 : ((x.1.length : Int) < 2) = False := eq_false (by omega)
    have ki := Tryz.nIsFree (off + 1000) hw1 h1 1 (by omega)
    cases hf : isFG x.1 1 with
    | true =>
      rw [hf] at ki
      have e1 : openS x = wrS (allocS x 1) 1 (pad [82]) := by unfold openS; rw [if_neg c0, if_pos hf]
      have e2 : openE x = 0 := by unfold openE; rw [if_neg c0, if_pos hf]
      have ka := Tryz.nAlloc (off + 1000) hw1 h1 1 (by omega) hf (fun i hi => by rw [show i = 0 by omega]; rfl)
      have ha := h1.alloc (q := 1) (by omega)
      have hwa := h1.wf hw1 (allocS x 1)
      have aba : Above (off + 1000) (I.up (upd H (off + 9) (some [.ptr I.pid 0])) (allocS x 1)) A := Above_updH ab1 (by omega)
      have kw := Tryz.nWriteOk (off + 1000) hwa ha 1 (by omega) (by show 1 < (allocG _ _).length; unfold allocG; rw [List.length_set, List.length_set]; omega) [82] (by decide)
      rw [I.up_up, ← e1] at kw
      rw [e2]
      generalize openS x = y at *
      generalize allocS x 1 = z at *
      repeat' (first
       |with_reducible first|refine vSq fun K hK=>?_|refine vRg ?_|refine vBl ?_|refine vSc ?_|refine vIf ?_|refine vSk ?_|refine vEx ?_|refine vRt ?_
       |(with_reducible first|refine gNt (fun h=>?_) (fun h=>?_)|refine gCs (fun h=>?_) (fun h=>?_))<;>(try simp only[h])
       |refine C_call rfl kl rfl ab1 ?_
       |refine C_call rfl ki rfl ab1 ?_
       |refine C_call rfl ka rfl ab1 ?_
       |refine C_call rfl kw rfl aba ?_
       |refine And.intro n9 ?_
       |with_reducible first|(refine hK _ ?_;clear hK K)|(clear hK K;refine hK _ ?_;clear hK K)|(clear hK K;clear hK K;refine hK _ ?_;clear hK K)|(clear hK K;clear hK K;clear hK K;refine hK _ ?_;clear hK K)
       |(with_reducible refine todo ?_;simp +decide only[go_sem, c1]))
      exact obj (up1 _) rfl rfl
    | false =>
      rw [hf] at ki
      have e1 : openS x = x := by unfold openS; rw [if_neg c0, if_neg (by rw [hf]; simp)]
      have e2 : openE x = if (pgAt x.1 1).getD 0 0 = 82 then 0 else 7 := by unfold openE; rw [if_neg c0, if_neg (by rw [hf]; simp)]
      have kr := Tryz.nRead (off + 1000) hw1 h1 1 (by omega)
      have h128 := h.len 1 (by omega)
      have g0 : (pgAt x.1 1)[0]? = some ((pgAt x.1 1).getD 0 0) := by rw [List.getD_eq_getElem?_getD, List.getElem?_eq_getElem (by omega)]; rfl
      rw [e1, e2]
      generalize (pgAt x.1 1).getD 0 0 = b at *
      by_cases hb : b = 82
      · have z : (((b.toNat : Nat) : Int) != 82) = false := by rw [hb]; rfl
        rw [if_pos hb]
        repeat' (first
         |with_reducible first|refine vSq fun K hK=>?_|refine vRg ?_|refine vBl ?_|refine vSc ?_|refine vIf ?_|refine vSk ?_|refine vEx ?_|refine vRt ?_
         |(with_reducible first|refine gNt (fun h=>?_) (fun h=>?_)|refine gCs (fun h=>?_) (fun h=>?_))<;>(try simp only[h])
         |refine C_call rfl kl rfl ab1 ?_
         |refine C_call rfl ki rfl ab1 ?_
         |refine C_call rfl kr rfl ab1 ?_
         |refine And.intro n9 ?_
         |with_reducible first|(refine hK _ ?_;clear hK K)|(clear hK K;refine hK _ ?_;clear hK K)|(clear hK K;clear hK K;refine hK _ ?_;clear hK K)|(clear hK K;clear hK K;clear hK K;refine hK _ ?_;clear hK K)
         |(with_reducible refine todo ?_;simp +decide only[go_sem, c1, g0, z]))
        exact obj (by rw [us]) rfl rfl
      · have z : (((b.toNat : Nat) : Int) != 82) = true := by
          rw [bne_iff_ne]
          intro e
          exact hb (UInt8.toNat_inj.1 (by show b.toNat = 82; omega))
        rw [if_neg hb]
        repeat' (first
         |with_reducible first|refine vSq fun K hK=>?_|refine vRg ?_|refine vBl ?_|refine vSc ?_|refine vIf ?_|refine vSk ?_|refine vEx ?_|refine vRt ?_
         |(with_reducible first|refine gNt (fun h=>?_) (fun h=>?_)|refine gCs (fun h=>?_) (fun h=>?_))<;>(try simp only[h])
         |refine C_call rfl kl rfl ab1 ?_
         |refine C_call rfl ki rfl ab1 ?_
         |refine C_call rfl kr rfl ab1 ?_
         |refine And.intro n9 ?_
         |with_reducible first|(refine hK _ ?_;clear hK K)|(clear hK K;refine hK _ ?_;clear hK K)|(clear hK K;clear hK K;refine hK _ ?_;clear hK K)|(clear hK K;clear hK K;clear hK K;refine hK _ ?_;clear hK K)
         |(with_reducible refine todo ?_;simp +decide only[go_sem, c1, g0, z]))
        exact obj (by rw [us]) rfl rfl
end rh
end Go.Proofs

namespace Go.Proofs
open Go.PW
theorem Tryz.appStr : AppT Tryz.prog 57 9 1 16 := ⟨Tryz.underlying57, Tryz.cl9, Tryz.by9, Tryz.zo9, by decide, by decide⟩
def repZ (z : List UInt8) (n : Nat) : List (List D) := List.replicate n [dS z]
theorem rdL_new (n : Nat) : rdL (newD n) = repZ zeros n := by
  refine List.ext_getElem? fun j => ?_
  unfold repZ
  rw [List.getElem?_replicate]
  by_cases h : j < n
  · rw [if_pos h, rdL_get (d := newD n) h]; rfl
  · rw [if_neg h, List.getElem?_eq_none (by rw [rdL_len]; show n ≤ j; omega)]
section disk
variable {H : HMap} {A : AMap} {id : Nat} {κl κw : Tok}
set_option maxRecDepth 8000 in
set_option maxHeartbeats 16000000 in
theorem Tryz.rDNew (off : Nat) (hw : Wf H A) (n : Nat) (h1 : 1 ≤ n) (h2 : n ≤ 4096) (hid : H id = none) (hκl : A κl = none) (hκw : A κw = none) (hne : κl ≠ κw) :
    EffOK Tryz.prog 5 off H A [pD (.lit (.int .i64 n))] (.tup [.c (.ptr id 0), .c (.d (.lit (.int .i64 0)))]) (upd H id (some (encRk κl κw (newD n)))) (upd (upd A κl (some (.mu 1 (rdL (newD n))))) κw (some (.co 2 0))) := by
  refine effr_ok (E := envOf Tryz.prog [] off [] []) (envOf_ok Tryz.mixed) Tryz.func5 rfl Tryz.call5 (by kernel_rfl) (by exact Nat.le_of_ble_eq_true rfl) (fun hab => ?_)
  have c1 : ((n : Int) < 1) = False := eq_false (by omega)
  have c2 : ((4096 : Int) < (n : Int)) = False := eq_false (by omega)
  have hi' : H (off + 8) = none := (hab _ (Nat.le_add_right _ _)).1
  have ha1 : A (off + 29, 0) = none := (hab _ (Nat.le_add_right _ _)).2 _
  have ha2 : A (off + 30, 0) = none := (hab _ (Nat.le_add_right _ _)).2 _
  have kz := Tryz.kPad [] (by decide)
  have hpz : pad [] = zeros := by decide +kernel
  rw [hpz] at kz
  have hpt : ∀ {X : List CV} {Y Z : AMap}, PV.wk (hOver [(off + 8, X)] H) Y Z (.c (.ptr (off + 8) 0)) (.c (.ptr (off + 8) 0)) = True := fun {X Y Z} => eq_true (wkP_ptr (by show (if off + 8 = off + 8 then some X else H (off + 8)) ≠ none; rw [if_pos rfl]; simp))
  have hrd := rdL_new n
  have hr0 : ∀ z, repZ z 0 = [] := fun _ => rfl
  generalize zeros = z at *
  repeat' (first
   |with_reducible first|refine vSq fun K hK=>?_|refine vRg ?_|refine vBl ?_|refine vSc ?_|refine vIf ?_|refine vSk ?_|refine vEx ?_|refine vRt ?_
   |(with_reducible first|refine gNt (fun h=>?_) (fun h=>?_)|refine gCs (fun h=>?_) (fun h=>?_))<;>(try simp only[h])
   |refine And.intro hi' ?_
   |refine C_pure kz rfl rfl (fun k => (hab _ (Nat.le_add_right _ _)).2 k) ?_
   |with_reducible first|(refine hK _ ?_;clear hK K)|(clear hK K;refine hK _ ?_;clear hK K)|(clear hK K;clear hK K;refine hK _ ?_;clear hK K)|(clear hK K;clear hK K;clear hK K;refine hK _ ?_;clear hK K)
   |(with_reducible refine todo ?_;simp +decide only[go_sem, c1, c2]))
  refine VC_range n (fun _ => True) (fun i => overA [(0, pD (.lit (.int .i64 n))), (4, .c (.ptr (off + 8) 0)), (5, pD (dS z)), (6, pD (.lit (.int .i64 i)))] [(off + 8, [.tv (off + 29, 0) 1 i i, .full [], .d (.lit (.int .i64 0)), .d (.lit (.int .i64 0)), .d (.lit (.bool false)), .d (.lit (.int .i64 0))])]
    [((off + 29, 0), .mu 1 (repZ z i))] H A) True.intro ?_ ?_
  · refine Weak_overA hw (fun j hj => ?_) (fun _ _ => rfl) (fun q hq => by rw [List.mem_singleton.1 hq]; exact ha1) ?_ ?_ ?_ (fun _ h => h) (fun _ h => h)
    · exact upd_other _ _ fun e => hj (by rw [e]; exact hi')
    · simp +decide only [go_sem, hpt]
    · simp +decide only [go_sem]
      exact .inr (.inr (.inr (.inr ⟨rfl, (off + 29, 0), 1, .inr rfl, ha1, if_pos rfl⟩)))
    · simp +decide only [go_sem, ha1, hr0]
  · intro i hi _
    have hrl : (repZ z i).length = i := List.length_replicate (n := i)
    have hr1 : repZ z (i + 1) = repZ z i ++ [[dS z]] := List.replicate_succ'
    have hin : ∀ {X : List CV} {j : Nat}, H j ≠ none → hOver [(off + 8, X)] H j = H j := fun {X j} hj => if_neg fun e => hj (by rw [e]; exact hi')
    have hoth : ∀ κ, A κ ≠ none → κ ≠ (off + 29, 0) := fun κ hκ e => hκ (by rw [e]; exact ha1)
    rcases Nat.lt_or_ge i n with hi2 | hi2
    · have hc := int_lt_true hi2
      have hnx := int_next hi2 (by omega)
      repeat' (first
       |with_reducible first|refine vSq fun K hK=>?_|refine vRg ?_|refine vBl ?_|refine vSc ?_|refine vIf ?_|refine vSk ?_|refine vEx ?_|refine vRt ?_
       |(with_reducible first|refine gNt (fun h=>?_) (fun h=>?_)|refine gCs (fun h=>?_) (fun h=>?_))<;>(try simp only[h])
       |(refine W_tvE (els := repZ z i) Tryz.appStr rfl (szOne rfl) (by rw [hrl]; simp only [List.length_singleton]; omega) aOver_hd hrl.symm ?_)
       |with_reducible first|(refine hK _ ?_;clear hK K)|(clear hK K;refine hK _ ?_;clear hK K)|(clear hK K;clear hK K;refine hK _ ?_;clear hK K)|(clear hK K;clear hK K;clear hK K;refine hK _ ?_;clear hK K)
       |(with_reducible refine todo ?_;simp +decide only[go_sem, hc, hnx]))
      refine Next_of hi2 True.intro (Weak_overA hw (fun j hj => ?_) (fun κ hκ => ?_) (fun q hq => by rw [List.mem_singleton.1 hq]; exact ha1) ?_ ?_ ?_ (fun _ h => h) (fun _ h => h))
      · show upd _ _ _ j = _
        rw [upd_other _ _ (fun e => hj (by rw [e]; exact hi'))]
        exact hin hj
      · show upd _ _ _ κ = _
        rw [upd_other _ _ (hoth κ hκ)]
        exact if_neg (hoth κ hκ)
      · simp +decide only [go_sem, hpt]
      · simp +decide only [go_sem, hrl]
        exact .inr (.inl ⟨rfl, by show aOver _ _ _ ≠ none; rw [aOver_hd]; simp, by rw [aOver_hd, upd_same, hr1]; rfl⟩)
      · simp +decide only [go_sem, hr1]
    · have hc := int_lt_false hi2
      have hie : i = n := by omega
      subst hie
      repeat' (first
       |with_reducible first|refine vSq fun K hK=>?_|refine vRg ?_|refine vBl ?_|refine vSc ?_|refine vIf ?_|refine vSk ?_|refine vEx ?_|refine vRt ?_
       |(with_reducible first|refine gNt (fun h=>?_) (fun h=>?_)|refine gCs (fun h=>?_) (fun h=>?_))<;>(try simp only[h])
       |with_reducible first|(refine hK _ ?_;clear hK K)|(clear hK K;refine hK _ ?_;clear hK K)|(clear hK K;clear hK K;refine hK _ ?_;clear hK K)|(clear hK K;clear hK K;clear hK K;refine hK _ ?_;clear hK K)
       |(with_reducible refine todo ?_;simp +decide only[go_sem, hc]))
      have han : ((off + 29, 0) : Tok) ≠ (off + 30, 0) := fun e => by cases e
      rw [hrd]
      obtain ⟨h, e1, e2, t1, t2, t3⟩ := tok2 (r1 := .mu 1 (repZ z i)) (r2 := .co 2 0) hκl hκw ha1 ha2 hne han
      have hSκ : upd (upd A (off + 29, 0) (some (.mu 1 (repZ z i)))) (off + 30, 0) (some (.co 2 0)) (off + 30, 0) = some (.co 2 0) := upd_same _ _ _
      have hSm : upd (upd A (off + 29, 0) (some (.mu 1 (repZ z i)))) (off + 30, 0) (some (.co 2 0)) (off + 29, 0) = some (.mu 1 (repZ z i)) := by rw [upd_other _ _ han, upd_same]
      have him : (encRk κl κw (newD i)).map (CV.im (swp id (off + 8)) h) = encRk (off + 29, 0) (off + 30, 0) (newD i) := by
        show [CV.tv (h κl) _ _ _, CV.own (h κw) _, _, _, _, _] = _
        rw [e1, e2]; rfl
      have hm1 : upd (upd A κl (some (.mu 1 (repZ z i)))) κw (some (.co 2 0)) κl ≠ none := by rw [upd_other _ _ hne, upd_same]; simp
      have hc1 : upd (upd A κl (some (.mu 1 (repZ z i)))) κw (some (.co 2 0)) κw ≠ none := by rw [upd_same]; simp
      refine RetR_obj (H1 := H) (A1 := A) (A'' := upd (upd A (off + 29, 0) (some (.mu 1 (repZ z i)))) (off + 30, 0) (some (.co 2 0))) (i' := off + 8) (h := h) (ds := [.tv (off + 29, 0) 1 i i, .full [], .d (.lit (.int .i64 0)), .d (.lit (.int .i64 0)), .d (.lit (.bool false)), .d (.lit (.int .i64 0))]) rfl ?_ (oks_pairP (by rw [upd_same]; simp)) hw (fun _ h => h) (fun _ h => h) hid hi' (encRk_ok (H := upd H id _) hm1 hc1) ?_ (if_pos rfl) ?_ t1 t2 t3 ?_
      · show PV.wk _ _ _ (.tup [.c (.ptr (swp id (off + 8) id) 0), _]) _
        rw [show swp id (off + 8) id = off + 8 from if_pos rfl]
        exact wk_pairP (by rw [upd_same]; simp)
      · intro j es hj
        have hj0 : H j ≠ none := by rw [hj]; simp
        refine ⟨es, by rw [← hj]; exact hin hj0, wkC_same fun c hc => ok_mono (fun q hq => upd_keepH _ hq) (fun κ hκ => ?_) (hw j es c hj hc)⟩
        have n2 : κ ≠ (off + 30, 0) := fun e => hκ (by rw [e]; exact ha2)
        refine ⟨by rw [upd_other _ _ n2, upd_other _ _ (hoth κ hκ)]; exact hκ, ?_⟩
        rw [upd_other _ _ n2, upd_other _ _ (hoth κ hκ)]
        exact (if_neg (hoth κ hκ)).symm
      · rw [him]
        refine ⟨?_, ?_, ?_, ?_, ?_, ?_, True.intro⟩
        · exact .inr (.inl ⟨rfl, by show upd _ _ _ _ ≠ none; rw [hSm]; simp, by rw [hSm]; exact aOver_hd.symm⟩)
        · exact .inr (.inr (.inr (.inl ⟨rfl, (off + 30, 0), 2, rfl, (if_neg han.symm).trans ha2, hSκ⟩)))
        · exact .inr (.inl ⟨rfl, True.intro⟩)
        · exact .inr (.inl ⟨rfl, True.intro⟩)
        · exact .inr (.inl ⟨rfl, True.intro⟩)
        · exact .inr (.inl ⟨rfl, True.intro⟩)
      · intro κ
        by_cases e : κ = (off + 30, 0)
        · subst e
          exact .inr (.inr ⟨(if_neg han.symm).trans ha2, 2, .inl hSκ⟩)
        · refine .inr (.inl ?_)
          rw [upd_other _ _ e]
          by_cases e3 : κ = (off + 29, 0)
          · subst e3
            rw [upd_same]
            exact aOver_hd.symm
          · rw [upd_other _ _ e3]
            exact (if_neg e3).symm
end disk
end Go.Proofs

namespace Go.Proofs
open Go.PW
set_option maxRecDepth 8000 in
set_option maxHeartbeats 4000000 in
theorem Tryz.rUint1 (n : Nat) (hn : n < 128) : PureOK Tryz.prog 113 [pD (.lit (.int .u64 n))] (.one (.d (dS [UInt8.ofNat n]))) := by
  refine Tryz.pure (md := []) Tryz.func113 rfl Tryz.call113 (by kernel_rfl) (by rfl) (by exact Nat.le_of_ble_eq_true rfl) ?_
  have c1 : ((n : Int) < 128) = True := eq_true (by omega)
  have h8 : IntKind.u8.wrap (n : Int) = (n : Int) := Go.IntWalk.u8_in _ (by omega)
  have hone : [[D.lit (.int .u8 (n : Int))]] = bytesEls [UInt8.ofNat n] := by rw [bytesEls_one _ (by omega) (by omega), Int.toNat_natCast]
  repeat' (first
   |with_reducible first|refine vSq fun K hK=>?_|refine vRg ?_|refine vBl ?_|refine vSc ?_|refine vIf ?_|refine vSk ?_|refine vEx ?_|refine vRt ?_
   |(with_reducible first|refine gNt (fun h=>?_) (fun h=>?_)|refine gCs (fun h=>?_) (fun h=>?_))<;>(try simp only[h])
   |with_reducible first|(refine hK _ ?_;clear hK K)|(clear hK K;refine hK _ ?_;clear hK K)|(clear hK K;clear hK K;refine hK _ ?_;clear hK K)|(clear hK K;clear hK K;clear hK K;refine hK _ ?_;clear hK K)
   |(with_reducible refine todo ?_;simp +decide only[go_sem, c1, h8, hone]))
  exact Ret_d rfl rfl
set_option maxRecDepth 8000 in
set_option maxHeartbeats 4000000 in
theorem Tryz.rSlot1 (t b : Nat) (ht : t < 128) (hb : b < 128) : PureOK Tryz.prog 109 [pD (.lit (.int .i64 t)), pD (.lit (.int .i64 b))] (.one (.d (dS [83, UInt8.ofNat t, UInt8.ofNat b]))) := by
  refine Tryz.pure (md := []) Tryz.func109 rfl Tryz.call109 (by kernel_rfl) (by rfl) (by exact Nat.le_of_ble_eq_true rfl) ?_
  have k1 := Tryz.rUint1 t ht
  have k2 := Tryz.rUint1 b hb
  have w1 : IntKind.u64.wrap (t : Int) = (t : Int) := Go.IntWalk.u64_in _ (by omega)
  have w2 : IntKind.u64.wrap (b : Int) = (b : Int) := Go.IntWalk.u64_in _ (by omega)
  repeat' (first
   |with_reducible first|refine vSq fun K hK=>?_|refine vRg ?_|refine vBl ?_|refine vSc ?_|refine vIf ?_|refine vSk ?_|refine vEx ?_|refine vRt ?_
   |(with_reducible first|refine gNt (fun h=>?_) (fun h=>?_)|refine gCs (fun h=>?_) (fun h=>?_))<;>(try simp only[h])
   |refine C_pure k1 rfl rfl (fun _ => rfl) ?_
   |refine C_pure k2 rfl rfl (fun _ => rfl) ?_
   |with_reducible first|(refine hK _ ?_;clear hK K)|(clear hK K;refine hK _ ?_;clear hK K)|(clear hK K;clear hK K;refine hK _ ?_;clear hK K)|(clear hK K;clear hK K;clear hK K;refine hK _ ?_;clear hK K)
   |(with_reducible refine todo ?_;simp +decide only[go_sem, w1, w2]))
  exact Ret_d rfl rfl
set_option maxRecDepth 8000 in
set_option maxHeartbeats 4000000 in
theorem Tryz.rTells0 : PureOK Tryz.prog 62 [pD (dS zeros)] (.tup [.d (.lit (.int .i64 0)), .d (.lit (.int .i64 0))]) := by
  refine Tryz.pure (md := []) Tryz.func62 rfl Tryz.call62 (by kernel_rfl) (by rfl) (by exact Nat.le_of_ble_eq_true rfl) ?_
  have ku := Tryz.rUnseal zeros (by rw [zeros_len]; decide)
  rw [unseal_zeros] at ku
  unfold optS at ku
  generalize zeros = z at *
  repeat' (first
   |with_reducible first|refine vSq fun K hK=>?_|refine vRg ?_|refine vBl ?_|refine vSc ?_|refine vIf ?_|refine vSk ?_|refine vEx ?_|refine vRt ?_
   |(with_reducible first|refine gNt (fun h=>?_) (fun h=>?_)|refine gCs (fun h=>?_) (fun h=>?_))<;>(try simp only[h])
   |refine C_pure ku rfl rfl (fun _ => rfl) ?_
   |with_reducible first|(refine hK _ ?_;clear hK K)|(clear hK K;refine hK _ ?_;clear hK K)|(clear hK K;clear hK K;refine hK _ ?_;clear hK K)|(clear hK K;clear hK K;clear hK K;refine hK _ ?_;clear hK K)
   |(with_reducible refine todo ?_;simp +decide only[go_sem, nil_eq_nil]))
  exact Ret_two none rfl (.inl rfl) (.inl rfl)
set_option maxRecDepth 8000 in
set_option maxHeartbeats 4000000 in
theorem Tryz.rTurn0 : PureOK Tryz.prog 104 [pD (dS [])] (.one (.d (.lit (.int .i64 (-1))))) := by
  refine Tryz.pure (md := []) Tryz.func104 rfl Tryz.call104 (by kernel_rfl) (by rfl) (by exact Nat.le_of_ble_eq_true rfl) ?_
  repeat' (first
   |with_reducible first|refine vSq fun K hK=>?_|refine vRg ?_|refine vBl ?_|refine vSc ?_|refine vIf ?_|refine vSk ?_|refine vEx ?_|refine vRt ?_
   |(with_reducible first|refine gNt (fun h=>?_) (fun h=>?_)|refine gCs (fun h=>?_) (fun h=>?_))<;>(try simp only[h])
   |with_reducible first|(refine hK _ ?_;clear hK K)|(clear hK K;refine hK _ ?_;clear hK K)|(clear hK K;clear hK K;refine hK _ ?_;clear hK K)|(clear hK K;clear hK K;clear hK K;refine hK _ ?_;clear hK K)
   |(with_reducible refine todo ?_;simp +decide only[go_sem, nil_eq_nil]))
  exact Ret_d rfl rfl
def encRl (rid n : Nat) (turn base : Int) : List CV := [.ptr rid 0, .d (.lit (.int .i64 0)), .d (.lit (.int .i64 n)), .d (.lit (.int .i64 turn)), .d (.lit (.int .i64 base)), .d (.lit (.int .i64 0)), .full [], .d (.lit (.bool false))]
section log
variable {H : HMap} {A : AMap} {rid lid n : Nat} {κl κw κ' : Tok} {d : Dk}
set_option maxRecDepth 8000 in
set_option maxHeartbeats 16000000 in
theorem Tryz.rRecord0 (off : Nat) (hw : Wf H A) (hl : H lid = some (encRl rid n 0 0)) (hd : RkAt H A rid κl κw d) (hn : 4 ≤ n) (hn2 : n ≤ d.n) (hn3 : d.n ≤ 4096) (hcl : d.cache.length ≤ 1000000) (hz : rd d ((2 : Nat) : Int) = zeros) :
    EffOK Tryz.prog 63 off H A [.c (.ptr lid 0), pD (.lit (.int .i64 0)), pD (.lit (.int .i64 0))] (.tup [.c (.d (dS [])), .c (.d (.lit (.int .i64 0))), .c (.d (.lit (.int .i64 0)))]) H A := by
  refine effr_ok (E := envOf Tryz.prog [2000000 + 54] off [] []) (envOf_ok Tryz.mixed) Tryz.func63 rfl Tryz.call63 (by kernel_rfl) (by exact Nat.le_of_ble_eq_true rfl) (fun hab => ?_)
  have hab' := Above_mono hab (Nat.le_add_right off 1000)
  have kr := Tryz.rRead (off + 1000) hw hd 2 (by omega) hcl
  rw [hz] at kr
  have ku := Tryz.rUnseal zeros (by rw [zeros_len]; decide)
  rw [unseal_zeros] at ku
  unfold optS at ku
  have kt := Tryz.rTurn0
  have hne : H lid ≠ none := by rw [hl]; simp
  unfold encRl at hl
  have c1 : IntKind.i64.wrap ((n : Int) - 2) = (n : Int) - 2 := Go.IntWalk.i64_in _ (by omega)
  have c2 : (0 < (n : Int) - 2) = True := eq_true (by omega)
  have hptr : ∀ {X Y : AMap}, PV.wk (hOver [] H) X Y (.c (.ptr lid 0)) (.c (.ptr lid 0)) = True := eq_true (wkP_ptr (by show H lid ≠ none; exact hne))
  generalize zeros = z at *
  repeat' (first
   |with_reducible first|refine vSq fun K hK=>?_|refine vRg ?_|refine vBl ?_|refine vSc ?_|refine vIf ?_|refine vSk ?_|refine vEx ?_|refine vRt ?_
   |(with_reducible first|refine gNt (fun h=>?_) (fun h=>?_)|refine gCs (fun h=>?_) (fun h=>?_))<;>(try simp only[h])
   |with_reducible first|(refine hK _ ?_;clear hK K)|(clear hK K;refine hK _ ?_;clear hK K)|(clear hK K;clear hK K;refine hK _ ?_;clear hK K)|(clear hK K;clear hK K;clear hK K;refine hK _ ?_;clear hK K)
   |(with_reducible refine todo ?_;simp +decide only[go_sem]))
  refine VC_while (ι := Unit) (fun _ => True) (fun _ => over [(0, .c (.ptr lid 0)), (1, pD (.lit (.int .i64 0))), (2, pD (.lit (.int .i64 0))), (9, pD (dS [])), (10, pD (dS [])), (11, pD (.lit (.int .i64 0))), (12, pD (.lit (.int .i64 0)))] [] H A) (fun _ => 0) () True.intro ?_ ?_
  · refine Weak_over hw kp_refl rfl ?_ ?_ <;> simp +decide only [go_sem, hptr]
  · intro _ _
    repeat' (first
     |with_reducible first|refine vSq fun K hK=>?_|refine vRg ?_|refine vBl ?_|refine vSc ?_|refine vIf ?_|refine vSk ?_|refine vEx ?_|refine vRt ?_
     |(with_reducible first|refine gNt (fun h=>?_) (fun h=>?_)|refine gCs (fun h=>?_) (fun h=>?_))<;>(try simp only[h])
     |refine C_quiet rfl rfl kr rfl hab' ?_
     |refine C_pure ku rfl rfl (fun k => (hab _ (Nat.le_add_right _ _)).2 k) ?_
     |refine C_pure kt rfl rfl (fun k => (hab _ (Nat.le_add_right _ _)).2 k) ?_
     |with_reducible first|(refine hK _ ?_;clear hK K)|(clear hK K;refine hK _ ?_;clear hK K)|(clear hK K;clear hK K;refine hK _ ?_;clear hK K)|(clear hK K;clear hK K;clear hK K;refine hK _ ?_;clear hK K)
     |(with_reducible refine todo ?_;simp +decide only[go_sem, hl, c1, c2]))
    exact RetR_same rfl wk_row3 oks_row hw kp_refl (fun _ _ => rfl)
def slotD (d : Dk) : Dk := flD (wrD d 1 (sealB [83, 1, 0]))
set_option maxRecDepth 8000 in
set_option maxHeartbeats 16000000 in
theorem Tryz.rNext0 (off : Nat) (hw : Wf H A) (hl : H lid = some (encRl rid n 0 0)) (hd : RkAt H A rid κl κw d) (hn : 4 ≤ d.n) (hg : DkG d) (hcl : d.cache = []) (hf : d.fused = false) (hκ : A κ' = none) :
    EffOK Tryz.prog 64 off H A [.c (.ptr lid 0), pD (.lit (.int .i64 0))] (pD (.lit (.int .i64 0))) (upd (upd H rid (some (encRk κl κ' (slotD d)))) lid (some (encRl rid n 1 0)))
      (upd (upd (upd A κw (some (.co 2 1))) κl (some (.mu 1 (rdL (slotD d))))) κ' (some (.co 2 0))) := by
  refine effr_ok (E := envOf Tryz.prog [65, 27] off [] []) (envOf_ok Tryz.mixed) Tryz.func64 rfl Tryz.call64 (by kernel_rfl) (by exact Nat.le_of_ble_eq_true rfl) (fun hab => ?_)
  have hab' := Above_mono hab (Nat.le_add_right off 1000)
  have hlt := hd.lt hab
  have hl0 : H lid ≠ none := by rw [hl]; simp
  have hll : lid < off := Nat.lt_of_not_le fun y => hl0 (hab lid y).1
  have hb : burnt d = false := by unfold burnt; rw [hf]; rfl
  have he : writeE d 1 (sealB [83, 1, 0]) = 0 := by
    have e1 : dkRight d 1 = 0 := by unfold dkRight; rw [if_neg (by omega), if_neg (by omega)]
    have e2 : (sealB [83, 1, 0]).length ≤ 128 := sealB_len _
    unfold writeE
    rw [e1, if_neg (by decide), if_neg (by omega), hb]; rfl
  have kw := Tryz.rWrite (off + 1000) hw hd 1 (sealB [83, 1, 0]) (by omega) (by rw [hcl]; decide) he
  have hlr : lid ≠ rid := fun e => by
    have h2 := hd.h
    rw [← e, hl] at h2
    exact absurd (congrArg (Option.map List.length) h2) (by show ¬ some 8 = some 6; decide)
  have hκw : A κw ≠ none := by rw [hd.w]; simp
  have hκl : A κl ≠ none := by rw [hd.l]; simp
  have nκ : κ' ≠ κw := fun e => hκw (by rw [← e]; exact hκ)
  have hw1 := RkAt.wf hw hd (wrD d 1 (sealB [83, 1, 0])) (A' := upd A κw (some (.co 2 (d.cache.length + 1)))) (fun κ h => upd_keep κ h)
  have hd1 : RkAt (upd H rid (some (encRk κl κw (wrD d 1 (sealB [83, 1, 0]))))) (upd A κw (some (.co 2 (d.cache.length + 1)))) rid κl κw (wrD d 1 (sealB [83, 1, 0])) :=
    ⟨upd_same _ _ _, by rw [upd_other _ _ hd.ne]; exact hd.l, by rw [upd_same]; unfold wrD; rw [List.length_append]; rfl⟩
  have kf := Tryz.rFlush (κ' := κ') (off + 1000) hw1 hd1 hg (fun w hw => by
    have : w = (1, pad (sealB [83, 1, 0])) := by
      unfold wrD at hw
      rw [hcl] at hw
      exact List.mem_singleton.1 hw
    subst this
    exact ⟨by decide, by show (1 : Int) < (d.n : Int); omega⟩) (by unfold wrD; rw [hcl]; show 1 ≤ 1000000; decide) (by unfold burnt wrD; rw [hf]; rfl) (by rw [upd_other _ _ nκ]; exact hκ)
  rw [upd_twice] at kf
  have hc0 : d.cache.length = 0 := by rw [hcl]; rfl
  rw [hc0] at kw kf hw1 hd1
  have ks := Tryz.rSlot1 1 0 (by decide) (by decide)
  have ke := Tryz.rSeal [83, UInt8.ofNat 1, UInt8.ofNat 0] (by decide)
  have hs0 : slotD d = flD (wrD d 1 (sealB [83, 1, 0])) := rfl
  rw [← hs0] at kf
  have hH1 : upd H rid (some (encRk κl κw (wrD d 1 (sealB [83, 1, 0])))) lid = some (encRl rid n 0 0) := by rw [upd_other _ _ hlr]; exact hl
  have hH2 : upd H rid (some (encRk κl κ' (slotD d))) lid = some (encRl rid n 0 0) := by rw [upd_other _ _ hlr]; exact hl
  have ab1 : Above (off + 1000) (upd H rid (some (encRk κl κw (wrD d 1 (sealB [83, 1, 0]))))) (upd A κw (some (.co 2 (0 + 1)))) := Above_updA (Above_updH hab' (by omega)) (by omega)
  have kA : ∀ κ, A κ ≠ none → upd (upd (upd A κw (some (.co 2 1))) κl (some (.mu 1 (rdL (slotD d))))) κ' (some (.co 2 0)) κ ≠ none := fun κ h => upd_keep κ (upd_keep κ (upd_keep κ h))
  have hwF : Wf (upd (upd H rid (some (encRk κl κ' (slotD d)))) lid (some (encRl rid n 1 0))) (upd (upd (upd A κw (some (.co 2 1))) κl (some (.mu 1 (rdL (slotD d))))) κ' (some (.co 2 0))) := by
    have w1 : Wf (upd H rid (some (encRk κl κ' (slotD d)))) (upd (upd (upd A κw (some (.co 2 1))) κl (some (.mu 1 (rdL (slotD d))))) κ' (some (.co 2 0))) :=
      Wf_set hw (encRk_ok (upd_keep κl (by rw [upd_same]; simp)) (by rw [upd_same]; simp)) kA
    refine Wf_set w1 (fun c hc => ?_) (fun _ h => h)
    unfold encRl at hc
    simp only [List.mem_cons, List.not_mem_nil, or_false] at hc
    rcases hc with rfl | rfl | rfl | rfl | rfl | rfl | rfl | rfl
    · exact upd_keepH _ (by rw [upd_same]; simp)
    · exact True.intro
    · exact True.intro
    · exact True.intro
    · exact True.intro
    · exact True.intro
    · exact True.intro
    · exact True.intro
  have kH : ∀ i, H i ≠ none → upd (upd H rid (some (encRk κl κ' (slotD d)))) lid (some (encRl rid n 1 0)) i ≠ none := fun i h => upd_keepH _ (upd_keepH _ h)
  unfold encRl at hl hH1 hH2
  generalize slotD d = d2 at *
  generalize wrD d 1 (sealB [83, 1, 0]) = d1 at *
  generalize sealB [83, 1, 0] = sb at *
  repeat' (first
   |with_reducible first|refine vSq fun K hK=>?_|refine vRg ?_|refine vBl ?_|refine vSc ?_|refine vIf ?_|refine vSk ?_|refine vEx ?_|refine vRt ?_
   |(with_reducible first|refine gNt (fun h=>?_) (fun h=>?_)|refine gCs (fun h=>?_) (fun h=>?_))<;>(try simp only[h])
   |refine C_pure ks rfl rfl (fun k => (hab _ (Nat.le_add_right _ _)).2 k) ?_
   |refine C_pure ke rfl rfl (fun k => (hab _ (Nat.le_add_right _ _)).2 k) ?_
   |refine C_call rfl kw rfl hab' ?_
   |refine C_call rfl kf rfl ab1 ?_
   |with_reducible first|(refine hK _ ?_;clear hK K)|(clear hK K;refine hK _ ?_;clear hK K)|(clear hK K;clear hK K;refine hK _ ?_;clear hK K)|(clear hK K;clear hK K;clear hK K;refine hK _ ?_;clear hK K)
   |(with_reducible refine todo ?_;simp +decide only[go_sem, hl, hH1, hH2, zne, upd_twice]))
  exact RetR_sub rfl (by simp +decide only [go_sem]) True.intro hwF (fun _ _ => rfl) (fun _ _ => rfl) kH kA
end log
end Go.Proofs
