/-
  Parts of the proof, laid together: PwNc, PwNd, PwNe.
-/
import Derived.Test.YtjmempllnfonkaaGreatQ33
import Derived.Test.YtjmempllnfonkaaGreatQ26
import Derived.Test.YtjmempllnfonkaaGreatQ27

namespace Go.Proofs
open Go.PW
def insW (k : Int) (s : List UInt8) : List (Int × List UInt8) → List (Int × List UInt8)
  | [] => [(k, s)]
  | p :: m => if p.1 < k then p :: insW k s m else if p.1 = k then (k, s) :: m else (k, s) :: p :: m
def ahead (k : Int) : List (Int × List UInt8) → Nat
  | [] => 0
  | p :: m => if p.1 < k then ahead k m + 1 else 0
theorem insW_eq (k : Int) (s : List UInt8) : ∀ m, insW k s m = m.take (ahead k m) ++ (k, s) :: m.drop (ahead k m + if (m[ahead k m]?).any (fun p => p.1 == k) then 1 else 0)
  | [] => by simp [insW, ahead]
  | p :: m => by
    have ih := insW_eq k s m
    by_cases h : p.1 < k
    · rw [insW, if_pos h, ahead, if_pos h, ih]
      simp only [List.take_succ_cons, List.getElem?_cons_succ, List.cons_append]
      congr 2
      rw [Nat.add_right_comm, List.drop_succ_cons]
    · rw [insW, if_neg h, ahead, if_neg h]
      simp only [List.take_zero, List.nil_append, List.getElem?_cons_zero, Option.any_some, Nat.zero_add]
      by_cases e : p.1 = k
      · rw [if_pos e]; simp [e]
      · rw [if_neg e]; simp [e]
theorem ahead_le (k : Int) : ∀ m, ahead k m ≤ m.length
  | [] => Nat.le_refl _
  | p :: m => by
    have := ahead_le k m
    unfold ahead
    split <;> simp <;> omega
theorem ahead_lt {k : Int} : ∀ {m : List (Int × List UInt8)} {i : Nat} {p}, i < ahead k m → m[i]? = some p → p.1 < k
  | [], i, p, h, _ => by simp [ahead] at h
  | q :: m, i, p, h, hp => by
    unfold ahead at h
    split at h
    · rename_i hq
      cases i with
      | zero => cases hp; exact hq
      | succ i => exact ahead_lt (m := m) (i := i) (by omega) hp
    · omega
theorem ahead_at {k : Int} : ∀ {m : List (Int × List UInt8)} {p}, m[ahead k m]? = some p → ¬ p.1 < k
  | [], p, h => by simp [ahead] at h
  | q :: m, p, h => by
    unfold ahead at h
    split at h
    · exact ahead_at (m := m) h
    · rename_i hq
      cases h; exact hq
def encRp (rid rlid : Nat) (logs : Nat) (W : List (Int × List UInt8)) (hlt : Bool) : List CV := [.ptr rid 0, .ptr rlid 0, .d (.lit (.int .i64 logs)), .d (.sl (W.map encW)), .d (.lit (.bool hlt))]
section pg
variable {H : HMap} {A : AMap} {pid rid rlid logs : Nat} {κl κw : Tok} {d : Dk} {W : List (Int × List UInt8)} {hlt : Bool}
set_option maxRecDepth 8000 in
set_option maxHeartbeats 16000000 in
theorem Tryz.rLen (off : Nat) (hw : Wf H A) (hp : H pid = some (encRp rid rlid logs W hlt)) (hd : RkAt H A rid κl κw d) (hl : logs ≤ d.n) (hn : d.n ≤ 4096) : EffOK Tryz.prog 34 off H A [.c (.ptr pid 0)] (pD (.lit (.int .i64 ((d.n - logs : Nat) : Int)))) H A := by
  refine effr_ok (E := envOf Tryz.prog [] off [] []) (envOf_ok Tryz.mixed) Tryz.func34 rfl Tryz.call34 (by kernel_rfl) (by exact Nat.le_of_ble_eq_true rfl) (fun hab => ?_)
  have hid := hd.h
  unfold encRk at hid
  unfold encRp at hp
  have c1 : IntKind.i64.wrap ((d.n : Int) - (logs : Int)) = ((d.n - logs : Nat) : Int) := by rw [Go.IntWalk.i64_in _ (by omega)]; omega
  repeat' (first
   |with_reducible first|refine vSq fun K hK=>?_|refine vRg ?_|refine vBl ?_|refine vSc ?_|refine vIf ?_|refine vSk ?_|refine vEx ?_|refine vRt ?_
   |(with_reducible first|refine gNt (fun h=>?_) (fun h=>?_)|refine gCs (fun h=>?_) (fun h=>?_))<;>(try simp only[h])
   |with_reducible first|(refine hK _ ?_;clear hK K)|(clear hK K;refine hK _ ?_;clear hK K)|(clear hK K;clear hK K;refine hK _ ?_;clear hK K)|(clear hK K;clear hK K;clear hK K;refine hK _ ?_;clear hK K)
   |(with_reducible refine todo ?_;simp +decide only[go_sem, hp, hid, c1]))
  exact RetR_same rfl (by simp +decide only [go_sem]) True.intro hw kp_refl (fun _ _ => rfl)
set_option maxRecDepth 8000 in
set_option maxHeartbeats 16000000 in
theorem Tryz.rpRead (off : Nat) (hw : Wf H A) (hp : H pid = some (encRp rid rlid logs W hlt)) (hd : RkAt H A rid κl κw d) (hl : logs ≤ d.n) (hn : d.n ≤ 4096) (hcl : d.cache.length ≤ 1000000) (hwl : W.length ≤ 1000000) (page : Nat) (hpg : page < d.n - logs) :
    EffOK Tryz.prog 19 off H A [.c (.ptr pid 0), pD (.lit (.int .i64 page))] (.tup [.c (.d (dS ((valR (page : Int) W).getD (rd d ((logs + page : Nat) : Int))))), .c (.d (.lit (.int .i64 0)))]) H A := by
  refine effr_ok (E := envOf Tryz.prog [34, 2000000 + 54] off [] []) (envOf_ok Tryz.mixed) Tryz.func19 rfl Tryz.call19 (by kernel_rfl) (by exact Nat.le_of_ble_eq_true rfl) (fun hab => ?_)
  have kl := Tryz.rLen (off + 1000) hw hp hd hl hn
  have kr := Tryz.rRead (off + 1000) hw hd (logs + page) (by omega) hcl
  have hab' := Above_mono hab (Nat.le_add_right off 1000)
  have hpt : H pid ≠ none := by rw [hp]; simp [encRp]
  unfold encRp at hp
  have c1 : ((page : Int) < 0) = False := eq_false (by omega)
  have c2 : (((d.n - logs : Nat) : Int) ≤ (page : Int)) = False := eq_false (by omega)
  have c3 : IntKind.i64.wrap ((logs : Int) + (page : Int)) = ((logs + page : Nat) : Int) := by rw [Go.IntWalk.i64_in _ (by omega)]; omega
  have hlen : (W.map encW).length = W.length := List.length_map ..
  have hptr : PV.wk (hOver [] H) A A (.c (.ptr pid 0)) (.c (.ptr pid 0)) = True := eq_true (wkP_ptr (by show H pid ≠ none; exact hpt))
  repeat' (first
   |with_reducible first|refine vSq fun K hK=>?_|refine vRg ?_|refine vBl ?_|refine vSc ?_|refine vIf ?_|refine vSk ?_|refine vEx ?_|refine vRt ?_
   |(with_reducible first|refine gNt (fun h=>?_) (fun h=>?_)|refine gCs (fun h=>?_) (fun h=>?_))<;>(try simp only[h])
   |refine C_call rfl kl rfl hab' ?_
   |with_reducible first|(refine hK _ ?_;clear hK K)|(clear hK K;refine hK _ ?_;clear hK K)|(clear hK K;clear hK K;refine hK _ ?_;clear hK K)|(clear hK K;clear hK K;clear hK K;refine hK _ ?_;clear hK K)
   |(with_reducible refine todo ?_;simp +decide only[go_sem, c1, c2]))
  refine VC_while (ι := Nat) (fun i => i ≤ W.length ∧ valR (page : Int) (W.drop i) = valR (page : Int) W) (fun i => over [(0, .c (.ptr pid 0)), (1, pD (.lit (.int .i64 page))), (6, pD (.lit (.int .i64 i)))] [] H A) (fun i => W.length - i) 0 ⟨Nat.zero_le _, by rw [List.drop_zero]⟩ ?_ ?_
  · refine Weak_over hw kp_refl rfl ?_ ?_ <;> simp +decide only [go_sem, hptr]
  · rintro i ⟨hi, hv⟩
    by_cases hi2 : i < W.length
    · have hc : ((i : Int) < (W.length : Int)) = True := eq_true (by omega)
      have hnx : IntKind.i64.wrap ((i : Int) + 1) = ((i + 1 : Nat) : Int) := by rw [Go.IntWalk.i64_in _ (by omega)]; omega
      have h3 : W[i]? = some W[i] := List.getElem?_eq_getElem hi2
      have ev : valR (page : Int) (W[i] :: W.drop (i + 1)) = if W[i].1 = (page : Int) then some W[i].2 else valR (page : Int) (W.drop (i + 1)) := rfl
      rw [List.drop_eq_getElem_cons hi2, ev] at hv
      clear ev
      generalize W[i] = x at *
      by_cases hx : x.1 = (page : Int)
      · have hx' : (x.1 == (page : Int)) = true := by simpa using hx
        rw [if_pos hx] at hv
        repeat' (first
         |with_reducible first|refine vSq fun K hK=>?_|refine vRg ?_|refine vBl ?_|refine vSc ?_|refine vIf ?_|refine vSk ?_|refine vEx ?_|refine vRt ?_
         |(with_reducible first|refine gNt (fun h=>?_) (fun h=>?_)|refine gCs (fun h=>?_) (fun h=>?_))<;>(try simp only[h])
         |with_reducible first|(refine hK _ ?_;clear hK K)|(clear hK K;refine hK _ ?_;clear hK K)|(clear hK K;clear hK K;refine hK _ ?_;clear hK K)|(clear hK K;clear hK K;clear hK K;refine hK _ ?_;clear hK K)
         |(with_reducible refine todo ?_;simp +decide only[go_sem, hp, hc, hlen, h3, hx']))
        rw [← hv]
        exact RetR_same rfl wk_pair oks_pair hw kp_refl (fun _ _ => rfl)
      · have hx' : (x.1 == (page : Int)) = false := by simpa using hx
        rw [if_neg hx] at hv
        repeat' (first
         |with_reducible first|refine vSq fun K hK=>?_|refine vRg ?_|refine vBl ?_|refine vSc ?_|refine vIf ?_|refine vSk ?_|refine vEx ?_|refine vRt ?_
         |(with_reducible first|refine gNt (fun h=>?_) (fun h=>?_)|refine gCs (fun h=>?_) (fun h=>?_))<;>(try simp only[h])
         |with_reducible first|(refine hK _ ?_;clear hK K)|(clear hK K;refine hK _ ?_;clear hK K)|(clear hK K;clear hK K;refine hK _ ?_;clear hK K)|(clear hK K;clear hK K;clear hK K;refine hK _ ?_;clear hK K)
         |(with_reducible refine todo ?_;simp +decide only[go_sem, hp, hc, hlen, h3, hx', hnx]))
        refine ⟨⟨i + 1, by omega, hv⟩, Weak_over hw kp_refl rfl ?_ ?_, by show W.length - (i + 1) < W.length - i; omega⟩ <;> simp +decide only [go_sem, hptr]
    · have hc : ((i : Int) < (W.length : Int)) = False := eq_false (by omega)
      rw [List.drop_of_length_le (by omega)] at hv
      have hv' : valR (page : Int) W = none := hv.symm
      repeat' (first
       |with_reducible first|refine vSq fun K hK=>?_|refine vRg ?_|refine vBl ?_|refine vSc ?_|refine vIf ?_|refine vSk ?_|refine vEx ?_|refine vRt ?_
       |(with_reducible first|refine gNt (fun h=>?_) (fun h=>?_)|refine gCs (fun h=>?_) (fun h=>?_))<;>(try simp only[h])
       |refine C_quiet rfl rfl kr rfl hab' ?_
       |with_reducible first|(refine hK _ ?_;clear hK K)|(clear hK K;refine hK _ ?_;clear hK K)|(clear hK K;clear hK K;refine hK _ ?_;clear hK K)|(clear hK K;clear hK K;clear hK K;refine hK _ ?_;clear hK K)
       |(with_reducible refine todo ?_;simp +decide only[go_sem, hp, hc, hlen, c3]))
      rw [hv']
      exact RetR_same rfl wk_pair oks_pair hw kp_refl (fun _ _ => rfl)
theorem Tryz.appP : AppT Tryz.prog 70 97 2 24 := ⟨Tryz.underlying70, Tryz.cl97, Tryz.by97, Tryz.zo97, by decide, by decide⟩
set_option maxRecDepth 8000 in
set_option maxHeartbeats 16000000 in
theorem Tryz.rpPut (off : Nat) (hw : Wf H A) (hp : H pid = some (encRp rid rlid logs W hlt)) (hr0 : H rid ≠ none) (hl0 : H rlid ≠ none) (hwl : W.length ≤ 1000000) (page : Int) (s : List UInt8) (hs : s.length ≤ 1000000) :
    EffOK Tryz.prog 37 off H A [.c (.ptr pid 0), pD (.lit (.int .i64 page)), pD (dS s)] (.c .any) (upd H pid (some (encRp rid rlid logs (insW page (pad s) W) hlt))) A := by
  refine effr_ok (E := envOf Tryz.prog [] off [] []) (envOf_ok Tryz.mixed) Tryz.func37 rfl Tryz.call37 (by kernel_rfl) (by exact Nat.le_of_ble_eq_true rfl) (fun hab => ?_)
  have hpt : H pid ≠ none := by rw [hp]; simp [encRp]
  have hp0 := hp
  unfold encRp at hp
  have kp := Tryz.kPad s hs
  have hlen : (W.map encW).length = W.length := List.length_map ..
  have ha36 : A (off + 36, 0) = none := (hab _ (Nat.le_add_right _ _)).2 _
  have hptr : ∀ {A1 A2 : AMap}, PV.wk (hOver [] H) A1 A2 (.c (.ptr pid 0)) (.c (.ptr pid 0)) = True := eq_true (wkP_ptr (by show H pid ≠ none; exact hpt))
  have hal := ahead_le page W
  have hins := insW_eq page (pad s) W
  have hix := @ahead_at page W
  have hlt' := @ahead_lt page W
  generalize hn : ahead page W = n at *
  repeat' (first
   |with_reducible first|refine vSq fun K hK=>?_|refine vRg ?_|refine vBl ?_|refine vSc ?_|refine vIf ?_|refine vSk ?_|refine vEx ?_|refine vRt ?_
   |(with_reducible first|refine gNt (fun h=>?_) (fun h=>?_)|refine gCs (fun h=>?_) (fun h=>?_))<;>(try simp only[h])
   |with_reducible first|(refine hK _ ?_;clear hK K)|(clear hK K;refine hK _ ?_;clear hK K)|(clear hK K;clear hK K;refine hK _ ?_;clear hK K)|(clear hK K;clear hK K;clear hK K;refine hK _ ?_;clear hK K)
   |(with_reducible refine todo ?_;simp +decide only[go_sem]))
  refine VC_range n (fun _ => True) (fun i => overA [(0, .c (.ptr pid 0)), (1, pD (.lit (.int .i64 page))), (2, pD (dS s)), (6, .c (.own (off + 36, 0) ((W.take i).map encW))), (7, pD (.lit (.int .i64 i)))] [] [((off + 36, 0), .co 2 i)] H A) True.intro ?_ ?_
  · refine Weak_overA hw kp_refl (fun _ _ => rfl) (fun q hq => by rw [List.mem_singleton.1 hq]; exact ha36) ?_ ?_ ?_ (fun _ h => h) (fun _ h => h)
    · simp +decide only [go_sem, hptr]
      exact wkP_new ha36 (sz := 2) (if_pos rfl)
    · simp +decide only [go_sem]
    · simp +decide only [go_sem, ha36]
  · intro i hi _
    have hil2 : (W.take i).length = i := by rw [List.length_take]; omega
    have hil : ((W.take i).map encW).length = i := by rw [List.length_map, hil2]
    have hoth : ∀ κ, A κ ≠ none → κ ≠ (off + 36, 0) := fun κ hκ e => hκ (by rw [e]; exact ha36)
    rcases Nat.lt_or_ge i n with hi2 | hi2
    · have hiW : i < W.length := by omega
      have hc : ((i : Int) < (W.length : Int)) = True := eq_true (by omega)
      have hnx := int_next hi2 (by omega)
      have g1 : W[i]? = some W[i] := List.getElem?_eq_getElem hiW
      have hlt1 : (W[i].1 < page) = True := eq_true (hlt' hi2 (List.getElem?_eq_getElem hiW))
      have hst : (W.take (i + 1)).map encW = (W.take i).map encW ++ [[.lit (.int .i64 W[i].1), dS W[i].2]] := by
        rw [List.take_add_one, List.getElem?_eq_getElem hiW, Option.toList_some, List.map_append]; rfl
      generalize W[i] = x at *
      repeat' (first
       |with_reducible first|refine vSq fun K hK=>?_|refine vRg ?_|refine vBl ?_|refine vSc ?_|refine vIf ?_|refine vSk ?_|refine vEx ?_|refine vRt ?_
       |(with_reducible first|refine gNt (fun h=>?_) (fun h=>?_)|refine gCs (fun h=>?_) (fun h=>?_))<;>(try simp only[h])
       |(refine W_own Tryz.appP rfl (szd_enc _) (szOne rfl) (by rw [hil]; simp only [List.length_singleton]; omega) (by rw [hil]; exact if_pos rfl) ?_)
       |with_reducible first|(refine hK _ ?_;clear hK K)|(clear hK K;refine hK _ ?_;clear hK K)|(clear hK K;clear hK K;refine hK _ ?_;clear hK K)|(clear hK K;clear hK K;clear hK K;refine hK _ ?_;clear hK K)
       |(with_reducible refine todo ?_;simp +decide only[go_sem, hp, hlen, hc, hnx, g1, hlt1]))
      refine Next_of hi2 True.intro (Weak_overA hw kp_nil (fun κ hκ => ?_) (fun q hq => by rw [List.mem_singleton.1 hq]; exact ha36) ?_ ?_ ?_ (fun _ h => h) (fun _ h => h))
      · show upd _ _ _ κ = _
        rw [upd_other _ _ (hoth κ hκ)]
        exact if_neg (hoth κ hκ)
      · simp +decide only [go_sem, hptr, hst]
        exact wkP_own (by rw [aOver_hd]; simp) (by rw [upd_same, hil2]; exact aOver_hd)
      · simp +decide only [go_sem]
      · simp +decide only [go_sem, hil2]
    · have hie : i = n := by omega
      subst hie
      have haco : ∀ {A' : AMap}, aOver [((off + 36, 0), Arr.co 2 i)] A' (off + 36, 0) = some (.co 2 ((W.take i).map encW).length) := fun {A'} => by rw [hil]; exact aOver_hd
      have hab' : ∀ (j q : Nat), j ≠ off + 36 → off ≤ j → aOver [((off + 36, 0), Arr.co 2 i)] A (j, q) = none := fun j q h h2 => by
        show (if (j, q) = (off + 36, 0) then _ else A (j, q)) = none
        rw [if_neg (tok_ne (by show j ≠ off + 36; exact h))]
        exact (hab j h2).2 q
      have fin : ∀ {P : Program} {fn : Func} {S : St} {els : List (List D)}, resPVs P S fn.results.toList = some (.c .any) → S.H pid = some [.ptr rid 0, .ptr rlid 0, .d (.lit (.int .i64 logs)), .own (off + 36, 0) els, .d (.lit (.bool hlt))] → els = (insW page (pad s) W).map encW → (∀ i, i ≠ pid → S.H i = H i) → (∀ κ, κ ≠ (off + 36, 0) → S.A κ = A κ) →
          RetR P fn H A (.c .any) (upd H pid (some (encRp rid rlid logs (insW page (pad s) W) hlt))) A S := fun {P fn S els} q1 q2 q3 q4 q5 => by
        refine RetR_set q1 True.intro True.intro hw hpt q2 ?_ (fun c hc => ?_) (fun i hi _ => q4 i hi) (fun κ => ?_) (fun κ hκ => ⟨hκ, (q5 κ (hoth κ hκ)).symm⟩)
        · unfold encRp
          rw [← q3]
          exact ⟨.inr (.inl ⟨rfl, upd_keepH _ hr0⟩), .inr (.inl ⟨rfl, upd_keepH _ hl0⟩), .inr (.inl ⟨rfl, True.intro⟩), .inr (.inr (.inl ⟨_, rfl, .inr ⟨_, rfl⟩⟩)), .inr (.inl ⟨rfl, True.intro⟩), True.intro⟩
        · unfold encRp at hc
          simp only [List.mem_cons, List.not_mem_nil, or_false] at hc
          rcases hc with rfl | rfl | rfl | rfl | rfl
          · exact upd_keepH _ hr0
          · exact upd_keepH _ hl0
          · exact True.intro
          · exact True.intro
          · exact True.intro
        · by_cases e : κ = (off + 36, 0)
          · exact .inl (by rw [e]; exact ha36)
          · exact .inr (.inl (q5 κ e).symm)
      have hlen1 : ((W.take i).map encW ++ [[.lit (.int .i64 page), dS (pad s)]]).length = i + 1 := by rw [List.length_append, hil]; rfl
      have sz1 : Szd 2 ((W.take i).map encW ++ [[.lit (.int .i64 page), dS (pad s)]]) := fun e he => by
        rcases List.mem_append.1 he with he | he
        · exact szd_enc _ e he
        · rw [List.mem_singleton.1 he]; rfl
      have sz2 : ∀ a b, Szd 2 (((W.map encW).drop a).take b) := fun a b e he => szd_enc W e (List.mem_of_mem_drop (List.mem_of_mem_take he))
      have le2 : ∀ a b, (((W.take i).map encW ++ [[.lit (.int .i64 page), dS (pad s)]]).length + (((W.map encW).drop a).take b).length) * 24 ≤ 140737488355328 := fun a b => by
        rw [hlen1, List.length_take, List.length_drop, hlen]
        omega
      have tk2 : upd (aOver [((off + 36, 0), Arr.co 2 i)] A) (off + 36, 0) (some (Arr.co 2 ((W.take i).length + 1))) (off + 36, 0) = some (.co 2 ((W.take i).map encW ++ [[.lit (.int .i64 page), dS (pad s)]]).length) := by
        rw [upd_same, hlen1, hil2]
      have oth : ∀ {κ : Tok} {y z : Option Arr}, κ ≠ (off + 36, 0) → upd (upd (aOver [((off + 36, 0), Arr.co 2 i)] A) (off + 36, 0) y) (off + 36, 0) z κ = A κ := fun {κ y z} e => by
        rw [upd_other _ _ e, upd_other _ _ e]
        exact if_neg e
      have els : ∀ m, insW page (pad s) W = W.take i ++ (page, pad s) :: W.drop m → (W.take i).map encW ++ [[.lit (.int .i64 page), dS (pad s)]] ++ ((W.map encW).drop m).take (W.length - m) = (insW page (pad s) W).map encW := fun m e => by
        rw [e, List.map_append, List.map_cons, List.map_drop, List.take_of_length_le (l := (W.map encW).drop m) (by rw [List.length_drop, hlen]; exact Nat.le_refl _), List.append_assoc]
        rfl
      rcases Nat.lt_or_ge i W.length with hlt2 | hge
      · have hc : ((i : Int) < (W.length : Int)) = True := eq_true (by omega)
        have g1 : W[i]? = some W[i] := List.getElem?_eq_getElem hlt2
        have hge1 : (W[i].1 < page) = False := eq_false (hix (List.getElem?_eq_getElem hlt2))
        have hany : (W[i]?).any (fun p => p.1 == page) = (W[i].1 == page) := by rw [List.getElem?_eq_getElem hlt2]; rfl
        rw [hany] at hins
        have hnx : IntKind.i64.wrap ((i : Int) + 1) = ((i + 1 : Nat) : Int) := by rw [Go.IntWalk.i64_in _ (by omega)]; omega
        generalize W[i] = x at *
        cases hx : (x.1 == page) with
        | true =>
          rw [hx, if_pos rfl] at hins
          repeat' (first
           |with_reducible first|refine vSq fun K hK=>?_|refine vRg ?_|refine vBl ?_|refine vSc ?_|refine vIf ?_|refine vSk ?_|refine vEx ?_|refine vRt ?_
           |(with_reducible first|refine gNt (fun h=>?_) (fun h=>?_)|refine gCs (fun h=>?_) (fun h=>?_))<;>(try simp only[h])
           |refine C_pure kp rfl rfl (fun k => hab' (off + 42) k (by omega) (Nat.le_add_right _ _)) ?_
           |(refine W_own Tryz.appP rfl (szd_enc _) (szOne rfl) (by rw [hil]; simp only [List.length_singleton]; omega) haco ?_)
           |refine W_own Tryz.appP rfl sz1 (sz2 _ _) (le2 _ _) tk2 ?_
           |(refine W_slc (els := W.map encW) (l := i + 1) (h := W.length) Tryz.appP rfl (by simp [optNat, natOf?, intOf?]; omega) (by simp [optNat, hlen]) (by omega) (by rw [hlen]; exact Nat.le_refl _) (szd_enc _) ?_)
           |with_reducible first|(refine hK _ ?_;clear hK K)|(clear hK K;refine hK _ ?_;clear hK K)|(clear hK K;clear hK K;refine hK _ ?_;clear hK K)|(clear hK K;clear hK K;clear hK K;refine hK _ ?_;clear hK K)
           |(with_reducible refine todo ?_;simp +decide only[go_sem, hp, hlen, hc, g1, hge1, hx, hnx]))
          refine fin (els := _) rfl ?_ (els _ hins) (fun j hj => ?_) (fun κ hκ => ?_)
          · simp +decide only [go_sem]
          · simp +decide only [go_sem, hj]
          · exact oth hκ
        | false =>
          rw [hx, if_neg (by decide)] at hins
          repeat' (first
           |with_reducible first|refine vSq fun K hK=>?_|refine vRg ?_|refine vBl ?_|refine vSc ?_|refine vIf ?_|refine vSk ?_|refine vEx ?_|refine vRt ?_
           |(with_reducible first|refine gNt (fun h=>?_) (fun h=>?_)|refine gCs (fun h=>?_) (fun h=>?_))<;>(try simp only[h])
           |refine C_pure kp rfl rfl (fun k => hab' (off + 42) k (by omega) (Nat.le_add_right _ _)) ?_
           |(refine W_own Tryz.appP rfl (szd_enc _) (szOne rfl) (by rw [hil]; simp only [List.length_singleton]; omega) haco ?_)
           |refine W_own Tryz.appP rfl sz1 (sz2 _ _) (le2 _ _) tk2 ?_
           |(refine W_slc (els := W.map encW) (l := i) (h := W.length) Tryz.appP rfl (by simp [optNat, natOf?, intOf?]) (by simp [optNat, hlen]) (by omega) (by rw [hlen]; exact Nat.le_refl _) (szd_enc _) ?_)
           |with_reducible first|(refine hK _ ?_;clear hK K)|(clear hK K;refine hK _ ?_;clear hK K)|(clear hK K;clear hK K;refine hK _ ?_;clear hK K)|(clear hK K;clear hK K;clear hK K;refine hK _ ?_;clear hK K)
           |(with_reducible refine todo ?_;simp +decide only[go_sem, hp, hlen, hc, g1, hge1, hx]))
          refine fin (els := _) rfl ?_ (els _ hins) (fun j hj => ?_) (fun κ hκ => ?_)
          · simp +decide only [go_sem]
          · simp +decide only [go_sem, hj]
          · exact oth hκ
      · have hc : ((i : Int) < (W.length : Int)) = False := eq_false (by omega)
        have hany : (W[i]?).any (fun p => p.1 == page) = false := by rw [List.getElem?_eq_none hge]; rfl
        rw [hany, if_neg (by decide)] at hins
        repeat' (first
         |with_reducible first|refine vSq fun K hK=>?_|refine vRg ?_|refine vBl ?_|refine vSc ?_|refine vIf ?_|refine vSk ?_|refine vEx ?_|refine vRt ?_
         |(with_reducible first|refine gNt (fun h=>?_) (fun h=>?_)|refine gCs (fun h=>?_) (fun h=>?_))<;>(try simp only[h])
         |refine C_pure kp rfl rfl (fun k => hab' (off + 42) k (by omega) (Nat.le_add_right _ _)) ?_
         |(refine W_own Tryz.appP rfl (szd_enc _) (szOne rfl) (by rw [hil]; simp only [List.length_singleton]; omega) haco ?_)
         |refine W_own Tryz.appP rfl sz1 (sz2 _ _) (le2 _ _) tk2 ?_
         |(refine W_slc (els := W.map encW) (l := i) (h := W.length) Tryz.appP rfl (by simp [optNat, natOf?, intOf?]) (by simp [optNat, hlen]) (by omega) (by rw [hlen]; exact Nat.le_refl _) (szd_enc _) ?_)
         |with_reducible first|(refine hK _ ?_;clear hK K)|(clear hK K;refine hK _ ?_;clear hK K)|(clear hK K;clear hK K;refine hK _ ?_;clear hK K)|(clear hK K;clear hK K;clear hK K;refine hK _ ?_;clear hK K)
         |(with_reducible refine todo ?_;simp +decide only[go_sem, hp, hlen, hc]))
        refine fin (els := _) rfl ?_ (els _ hins) (fun j hj => ?_) (fun κ hκ => ?_)
        · simp +decide only [go_sem]
        · simp +decide only [go_sem, hj]
        · exact oth hκ
end pg
end Go.Proofs

namespace Go.Proofs
open Go.PW
theorem bitr_all : ((List.range 256).all fun x => (List.range 8).all fun b => ((iAnd .u8 (x : Nat) (iShl .u8 1 b) == 0) == (x / 2 ^ b % 2 == 0)) && (iXor .u8 (x : Nat) (iShl .u8 1 b) == if x / 2 ^ b % 2 == 0 then ((x + 2 ^ b : Nat) : Int) else ((x - 2 ^ b : Nat) : Int))) = true := by decide +kernel
theorem bitr {x b : Nat} (hx : x < 256) (hb : b < 8) : (iAnd .u8 (x : Nat) (iShl .u8 1 b) == 0) = (x / 2 ^ b % 2 == 0) ∧ iXor .u8 (x : Nat) (iShl .u8 1 b) = if x / 2 ^ b % 2 == 0 then ((x + 2 ^ b : Nat) : Int) else ((x - 2 ^ b : Nat) : Int) := by
  have h := List.all_eq_true.1 (List.all_eq_true.1 bitr_all x (List.mem_range.2 hx)) b (List.mem_range.2 hb)
  obtain ⟨h1, h2⟩ := Bool.and_eq_true_iff.1 h
  exact ⟨by simpa using h1, by simpa using h2⟩
def SortW (W : List (Int × List UInt8)) : Prop := W.Pairwise fun x y => x.1 < y.1
theorem insW_mem {k : Int} {s : List UInt8} : ∀ {m : List (Int × List UInt8)} {x}, x ∈ insW k s m → x = (k, s) ∨ x ∈ m
  | [], x, h => .inl (List.mem_singleton.1 h)
  | p :: m, x, h => by
    unfold insW at h
    split at h
    · rcases List.mem_cons.1 h with rfl | h
      · exact .inr List.mem_cons_self
      · exact (insW_mem h).imp id (List.mem_cons_of_mem _)
    · split at h
      · rcases List.mem_cons.1 h with rfl | h
        · exact .inl rfl
        · exact .inr (List.mem_cons_of_mem _ h)
      · rcases List.mem_cons.1 h with rfl | h
        · exact .inl rfl
        · exact .inr h
theorem insW_sort {k : Int} {s : List UInt8} : ∀ {m : List (Int × List UInt8)}, SortW m → SortW (insW k s m)
  | [], _ => List.pairwise_singleton _ _
  | p :: m, h => by
    obtain ⟨h1, h2⟩ := List.pairwise_cons.1 h
    unfold insW
    split
    · rename_i hp
      refine List.pairwise_cons.2 ⟨fun x hx => ?_, insW_sort h2⟩
      rcases insW_mem hx with rfl | hx
      · exact hp
      · exact h1 x hx
    · rename_i hp
      split
      · rename_i e
        exact List.pairwise_cons.2 ⟨fun x hx => by rw [← e]; exact h1 x hx, h2⟩
      · rename_i e
        refine List.pairwise_cons.2 ⟨fun x hx => ?_, h⟩
        show k < x.1
        rcases List.mem_cons.1 hx with rfl | hx
        · omega
        · have := h1 x hx
          omega
theorem valR_ins (k j : Int) (s : List UInt8) : ∀ {m : List (Int × List UInt8)}, SortW m → valR j (insW k s m) = if k = j then some s else valR j m
  | [], _ => rfl
  | p :: m, h => by
    obtain ⟨h1, h2⟩ := List.pairwise_cons.1 h
    have ih := valR_ins k j s h2
    unfold insW
    split
    · rename_i hp
      unfold valR
      rw [ih]
      by_cases e : p.1 = j
      · rw [if_pos e, if_pos e, if_neg (by omega)]
      · rw [if_neg e, if_neg e]
    · split
      · rename_i e
        unfold valR
        by_cases e2 : k = j
        · rw [if_pos e2, if_pos e2]
        · rw [if_neg e2, if_neg e2, if_neg (by omega)]
      · show (if k = j then some s else valR j (p :: m)) = _
        rfl
end Go.Proofs

namespace Go.Proofs
open Go.PW
structure RI where
  pid : Nat
  rid : Nat
  rlid : Nat
  logs : Nat
  κl : Tok
  κw : Tok
  d : Dk
  hlt : Bool
abbrev RS := List (List UInt8) × List (Int × List UInt8)
def RI.enc (I : RI) (x : RS) : List CV := encRp I.rid I.rlid I.logs x.2 I.hlt
def RI.up (I : RI) (H : HMap) (x : RS) : HMap := upd H I.pid (some (I.enc x))
def wrS (x : RS) (j : Nat) (s : List UInt8) : RS := (x.1.set j s, insW (j : Int) s x.2)
theorem sortW_len {W : List (Int × List UInt8)} (hs : SortW W) : ∀ {a b : Int}, (∀ p ∈ W, a ≤ p.1 ∧ p.1 < b) → (W.length : Int) ≤ max 0 (b - a) := by
  induction W with
  | nil => intro a b _; show (0 : Int) ≤ _; omega
  | cons p m ih =>
    intro a b h
    obtain ⟨h1, h2⟩ := List.pairwise_cons.1 hs
    obtain ⟨g1, g2⟩ := h p List.mem_cons_self
    have := ih h2 (a := p.1 + 1) (b := b) (fun q hq => ⟨by have := h1 q hq; omega, (h q (List.mem_cons_of_mem _ hq)).2⟩)
    rw [List.length_cons]
    omega
structure RAt (H : HMap) (A : AMap) (I : RI) (x : RS) : Prop where
  h : H I.pid = some (I.enc x)
  d : RkAt H A I.rid I.κl I.κw I.d
  l0 : H I.rlid ≠ none
  n : I.d.n = I.logs + x.1.length
  big : I.d.n ≤ 4096
  cl : I.d.cache.length ≤ 1000000
  one : 1 ≤ x.1.length
  most : x.1.length ≤ 1024
  len : ∀ j, j < x.1.length → (pgAt x.1 j).length = 128
  sort : SortW x.2
  key : ∀ p ∈ x.2, 0 ≤ p.1 ∧ p.1 < (x.1.length : Int)
  pg : ∀ j, j < x.1.length → pgAt x.1 j = (valR (j : Int) x.2).getD (rd I.d ((I.logs + j : Nat) : Int))
section ra
variable {H : HMap} {A : AMap} {I : RI} {x : RS}
theorem RAt.sub (h : RAt H A I x) : I.d.n - I.logs = x.1.length := by have := h.n; omega
theorem RAt.wl (h : RAt H A I x) : x.2.length ≤ 1000000 := by
  have h1 := sortW_len h.sort h.key
  have := h.most
  omega
theorem RAt.ne (h : RAt H A I x) : I.pid ≠ I.rid := fun e => by
  have h1 := h.h
  have h2 := h.d.h
  rw [e, h2] at h1
  cases h1
theorem RAt.p0 (h : RAt H A I x) : H I.pid ≠ none := by rw [h.h]; simp
theorem RAt.lt (h : RAt H A I x) {off : Nat} (hab : Above off H A) : I.pid < off := Nat.lt_of_not_le fun y => h.p0 (hab I.pid y).1
theorem RI.up_keep (I : RI) (x : RS) {i : Nat} (h : H i ≠ none) : I.up H x i ≠ none := upd_keepH _ h
theorem RI.up_same (I : RI) (x : RS) : I.up H x I.pid = some (I.enc x) := upd_same _ _ _
theorem RI.up_other (I : RI) (x : RS) {i : Nat} (h : i ≠ I.pid) : I.up H x i = H i := upd_other _ _ h
theorem RI.up_up (I : RI) (x y : RS) : I.up (I.up H x) y = I.up H y := upd_twice
theorem RI.up_self (h : RAt H A I x) : I.up H x = H := upd_self h.h
theorem wrS_pg {x : RS} {d : Dk} {logs j : Nat} {s : List UInt8} (hs : SortW x.2) (hj : j < x.1.length) (h : ∀ j, j < x.1.length → pgAt x.1 j = (valR (j : Int) x.2).getD (rd d ((logs + j : Nat) : Int))) (i : Nat) (hi : i < x.1.length) :
    pgAt (wrS x j s).1 i = (valR (i : Int) (wrS x j s).2).getD (rd d ((logs + i : Nat) : Int)) := by
  show pgAt (x.1.set j s) i = (valR (i : Int) (insW (j : Int) s x.2)).getD _
  rw [pgAt_set _ _ _ _ hj, valR_ins _ _ _ hs]
  by_cases e : j = i
  · rw [if_pos e, if_pos (by omega)]; rfl
  · rw [if_neg e, if_neg (by omega)]
    exact h i hi
theorem RAt.enc_ok (h : RAt H A I x) (y : RS) {H2 : HMap} {A2 : AMap} (h1 : H2 I.rid ≠ none) (h2 : H2 I.rlid ≠ none) : ∀ c ∈ I.enc y, c.ok (fun i => H2 i ≠ none) (fun κ => A2 κ ≠ none) := fun c hc => by
  have _ := h
  unfold RI.enc encRp at hc
  simp only [List.mem_cons, List.not_mem_nil, or_false] at hc
  rcases hc with rfl | rfl | rfl | rfl | rfl
  · exact h1
  · exact h2
  · exact True.intro
  · exact True.intro
  · exact True.intro
theorem RAt.wr (h : RAt H A I x) {j : Nat} {s : List UInt8} (hj : j < x.1.length) (hs : s.length = 128) : RAt (I.up H (wrS x j s)) A I (wrS x j s) := by
  have hl : (wrS x j s).1.length = x.1.length := List.length_set
  refine ⟨I.up_same _, ⟨?_, h.d.l, h.d.w⟩, I.up_keep _ h.l0, by rw [hl]; exact h.n, h.big, h.cl, by rw [hl]; exact h.one, by rw [hl]; exact h.most, fun i hi => ?_, insW_sort h.sort, fun p hp => ?_, fun i hi => ?_⟩
  · rw [I.up_other _ h.ne.symm]
    exact h.d.h
  · rw [hl] at hi
    show (pgAt (x.1.set j s) i).length = 128
    rw [pgAt_set _ _ _ _ hj]
    split
    · exact hs
    · exact h.len i hi
  · rw [hl]
    rcases insW_mem hp with rfl | hp
    · exact ⟨Int.natCast_nonneg _, Int.ofNat_lt.2 hj⟩
    · exact h.key p hp
  · rw [hl] at hi
    exact wrS_pg h.sort hj h.pg i hi
theorem RAt.wf (h : RAt H A I x) (hw : Wf H A) (y : RS) : Wf (I.up H y) A :=
  Wf_set hw (h.enc_ok y (upd_keepH _ (by rw [h.d.h]; simp)) (upd_keepH _ h.l0)) (fun _ h => h)
theorem RAt.ptr (hx : RAt H A I x) {A1 A2 : AMap} : PV.wk (hOver [] H) A1 A2 (.c (.ptr I.pid 0)) (.c (.ptr I.pid 0)) = True := eq_true (wkP_ptr (by show H I.pid ≠ none; exact hx.p0))
theorem Tryz.nLen (off : Nat) (hw : Wf H A) (hx : RAt H A I x) : EffOK Tryz.prog 34 off H A [.c (.ptr I.pid 0)] (pD (.lit (.int .i64 x.1.length))) H A := by
  have h := Tryz.rLen off hw hx.h hx.d (by have := hx.n; omega) hx.big
  rw [hx.sub] at h
  exact h
theorem Tryz.nRead (off : Nat) (hw : Wf H A) (hx : RAt H A I x) (j : Nat) (hj : j < x.1.length) : EffOK Tryz.prog 19 off H A [.c (.ptr I.pid 0), pD (.lit (.int .i64 j))] (.tup [.c (.d (dS (pgAt x.1 j))), .c (.d (.lit (.int .i64 0)))]) H A := by
  have h := Tryz.rpRead off hw hx.h hx.d (by have := hx.n; omega) hx.big hx.cl hx.wl j (by rw [hx.sub]; exact hj)
  rw [← hx.pg j hj] at h
  exact h
theorem Tryz.nPut (off : Nat) (hw : Wf H A) (hx : RAt H A I x) (j : Nat) (s : List UInt8) (hs : s.length ≤ 1000000) : EffOK Tryz.prog 37 off H A [.c (.ptr I.pid 0), pD (.lit (.int .i64 j)), pD (dS s)] (.c .any) (I.up H (wrS x j (pad s))) A :=
  Tryz.rpPut off hw hx.h (by rw [hx.d.h]; simp) hx.l0 hx.wl j s hs
end ra
end Go.Proofs
