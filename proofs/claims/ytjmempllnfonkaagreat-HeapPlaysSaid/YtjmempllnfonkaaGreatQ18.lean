/-
  Parts of the proof, laid together: PwDb, PwDc, PwDd, PwDe.
-/
import Derived.Test.YtjmempllnfonkaaGreatQ17

namespace Go.Proofs
open Go.PW
def lastW (k : Int) : List (Int × List UInt8) → Option (List UInt8)
  | [] => none
  | w :: r => match lastW k r with
    | some s => some s
    | none => if w.1 = k then some w.2 else none
theorem lastW_snoc (k : Int) (w : Int × List UInt8) : ∀ l : List (Int × List UInt8), lastW k (l ++ [w]) = if w.1 = k then some w.2 else lastW k l
  | [] => rfl
  | x :: r => by
    show (match lastW k (r ++ [w]) with | some s => some s | none => _) = _
    rw [lastW_snoc k w r]
    by_cases h : w.1 = k
    · rw [if_pos h, if_pos h]
    · rw [if_neg h, if_neg h]; rfl
def stayN (d : Dk) (k : Int) : List UInt8 := match findN k d.stays 0 with
  | some r => r.2
  | none => zeros
def rd (d : Dk) (k : Int) : List UInt8 := match lastW k d.cache with
  | some s => s
  | none => stayN d k
def readPV (d : Dk) (k : Int) : PV := if dkRight d k = 0 then .tup [.c (.d (dS (rd d k))), .c (.d (.lit (.int .i64 0)))] else .tup [.c (.d (dS [])), .c (.d (.lit (.int .i64 (dkRight d k))))]
theorem wk_pair {H' : HMap} {A A' : AMap} {x y : D} : PV.wk H' A A' (.tup [.c (.d x), .c (.d y)]) (.tup [.c (.d x), .c (.d y)]) := by
  refine ⟨rfl, fun k a b h1 h2 => ?_⟩
  rw [h1] at h2
  cases h2
  match k, h1 with
  | 0, h => cases h; exact .inr (.inl ⟨rfl, True.intro⟩)
  | 1, h => cases h; exact .inr (.inl ⟨rfl, True.intro⟩)
theorem oks_pair {hk : Nat → Prop} {tk : Tok → Prop} {x y : D} : PV.oks hk tk (.tup [.c (.d x), .c (.d y)]) := fun z hz => by
  rcases List.mem_cons.1 hz with rfl | hz
  · exact True.intro
  · rw [List.mem_singleton.1 hz]; exact True.intro
theorem zne : ((0 : Int) != 0) = false := rfl
theorem DkAt.ptr {H : HMap} {A : AMap} {id : Nat} {κm κc : Tok} {d : Dk} (hd : DkAt H A id κm κc d) : PV.wk (hOver [] H) A A (.c (.ptr id 0)) (.c (.ptr id 0)) = True := eq_true (wkP_ptr (by show H id ≠ none; rw [hd.h]; simp))
@[go_sem] theorem oneCell_str {s : ByteArray} : (Value.string s).oneCell' = true := rfl
@[go_sem] theorem Tryz.zlitS : zlit Tryz.prog 9 = some (.string ⟨#[]⟩) := by kernel_rfl
def bk (k : Nat) : Int := k - 1
section disk
variable {H : HMap} {A : AMap} {id : Nat} {κm κc : Tok} {d : Dk}
set_option maxRecDepth 8000 in
set_option maxHeartbeats 8000000 in
theorem Tryz.kRead (off : Nat) (hw : Wf H A) (hd : DkAt H A id κm κc d) (at_ : Int) (hn : 0 < d.n) (hl : d.cache.length ≤ 1000000) : EffOK Tryz.prog 53 off H A [.c (.ptr id 0), pD (.lit (.int .i64 at_))] (readPV d at_) H A := by
  refine effr_ok (E := envOf Tryz.prog [85] off [] []) (envOf_ok Tryz.mixed) Tryz.func53 rfl Tryz.call53 (by kernel_rfl) (by exact Nat.le_of_ble_eq_true rfl) (fun hab => ?_)
  have hid := hd.h
  have kr := Tryz.kDkRight (off + 1000) hw hd at_ hn
  have ke := Tryz.kEmpty
  unfold readPV
  by_cases hr : dkRight d at_ = 0
  · rw [if_pos hr]
    rw [hr] at kr
    have hlen : ((d.cache.length : Nat) : Int) - 1 = bk d.cache.length := rfl
    have hwr : IntKind.i64.wrap ((d.cache.length : Int) - 1) = bk d.cache.length := Go.IntWalk.i64_in _ (by omega)
    repeat' (first
     |with_reducible first|refine vSq fun K hK=>?_|refine vRg ?_|refine vBl ?_|refine vSc ?_|refine vIf ?_|refine vSk ?_|refine vEx ?_|refine vRt ?_
     |(with_reducible first|refine gNt (fun h=>?_) (fun h=>?_)|refine gCs (fun h=>?_) (fun h=>?_))<;>(try simp only[h])
     |refine C_call rfl kr rfl (Above_mono hab (by omega)) ?_
     |with_reducible first|(refine hK _ ?_;clear hK K)|(clear hK K;refine hK _ ?_;clear hK K)|(clear hK K;clear hK K;refine hK _ ?_;clear hK K)|(clear hK K;clear hK K;clear hK K;refine hK _ ?_;clear hK K)
     |(with_reducible refine todo ?_;simp +decide only[go_sem, hid, encDk, hwr, zne]))
    · refine VC_while (ι := Nat) (fun k => k ≤ d.cache.length ∧ lastW at_ (d.cache.take k) = lastW at_ d.cache)
        (fun k => over [(0, .c (.ptr id 0)), (1, pD (.lit (.int .i64 at_))), (7, pD (.lit (.int .i64 (bk k))))] [] H A) (fun k => k) d.cache.length ⟨Nat.le_refl _, by rw [List.take_length]⟩ ?_ ?_
      · refine Weak_over hw kp_refl rfl ?_ ?_ <;> simp +decide only [go_sem, hd.ptr]
      · rintro k ⟨hk, hi⟩
        cases k with
        | zero =>
          cases hf : findN at_ d.stays 0 with
          | none =>
            have e : rd d at_ = zeros := by unfold rd stayN; rw [← hi, hf]; rfl
            repeat' (first
             |with_reducible first|refine vSq fun K hK=>?_|refine vRg ?_|refine vBl ?_|refine vSc ?_|refine vIf ?_|refine vSk ?_|refine vEx ?_|refine vRt ?_
             |(with_reducible first|refine gNt (fun h=>?_) (fun h=>?_)|refine gCs (fun h=>?_) (fun h=>?_))<;>(try simp only[h])
             |refine C_pure ke rfl rfl (fun k => (hab _ (Nat.le_add_right _ _)).2 k) ?_
             |with_reducible first|(refine hK _ ?_;clear hK K)|(clear hK K;refine hK _ ?_;clear hK K)|(clear hK K;clear hK K;refine hK _ ?_;clear hK K)|(clear hK K;clear hK K;clear hK K;refine hK _ ?_;clear hK K)
             |(with_reducible refine todo ?_;simp +decide only[go_sem, hid, encDk, mapOf_mpr hd.m, mfind_N, hf]))
            rw [e]
            exact RetR_same rfl wk_pair oks_pair hw kp_refl (fun _ _ => rfl)
          | some r =>
            have e : rd d at_ = r.2 := by unfold rd stayN; rw [← hi, hf]; rfl
            repeat' (first
             |with_reducible first|refine vSq fun K hK=>?_|refine vRg ?_|refine vBl ?_|refine vSc ?_|refine vIf ?_|refine vSk ?_|refine vEx ?_|refine vRt ?_
             |(with_reducible first|refine gNt (fun h=>?_) (fun h=>?_)|refine gCs (fun h=>?_) (fun h=>?_))<;>(try simp only[h])
             |with_reducible first|(refine hK _ ?_;clear hK K)|(clear hK K;refine hK _ ?_;clear hK K)|(clear hK K;clear hK K;refine hK _ ?_;clear hK K)|(clear hK K;clear hK K;clear hK K;refine hK _ ?_;clear hK K)
             |(with_reducible refine todo ?_;simp +decide only[go_sem, hid, encDk, mapOf_mpr hd.m, mfind_N, hf]))
            rw [e]
            exact RetR_same rfl wk_pair oks_pair hw kp_refl (fun _ _ => rfl)
        | succ k =>
          have h0 : (0 ≤ bk (k + 1)) = True := eq_true (by unfold bk; omega)
          have h1 : (bk (k + 1)).toNat = k := by unfold bk; omega
          have h2 : IntKind.i64.wrap (bk (k + 1) - 1) = bk k := by unfold bk; rw [Go.IntWalk.i64_in _ (by omega)]; omega
          have h3 : d.cache[k]? = some d.cache[k] := List.getElem?_eq_getElem hk
          rw [List.take_add_one, h3, Option.toList_some, lastW_snoc] at hi
          generalize d.cache[k] = x at *
          by_cases hx : x.1 = at_
          · have hx' : (x.1 == at_) = true := by simpa using hx
            rw [if_pos hx] at hi
            have e : rd d at_ = x.2 := by unfold rd; rw [← hi]
            repeat' (first
             |with_reducible first|refine vSq fun K hK=>?_|refine vRg ?_|refine vBl ?_|refine vSc ?_|refine vIf ?_|refine vSk ?_|refine vEx ?_|refine vRt ?_
             |(with_reducible first|refine gNt (fun h=>?_) (fun h=>?_)|refine gCs (fun h=>?_) (fun h=>?_))<;>(try simp only[h])
             |with_reducible first|(refine hK _ ?_;clear hK K)|(clear hK K;refine hK _ ?_;clear hK K)|(clear hK K;clear hK K;refine hK _ ?_;clear hK K)|(clear hK K;clear hK K;clear hK K;refine hK _ ?_;clear hK K)
             |(with_reducible refine todo ?_;simp +decide only[go_sem, hid, encDk, h0, h1, h3, hx']))
            rw [e]
            exact RetR_same rfl wk_pair oks_pair hw kp_refl (fun _ _ => rfl)
          · have hx' : (x.1 == at_) = false := by simpa using hx
            rw [if_neg hx] at hi
            repeat' (first
             |with_reducible first|refine vSq fun K hK=>?_|refine vRg ?_|refine vBl ?_|refine vSc ?_|refine vIf ?_|refine vSk ?_|refine vEx ?_|refine vRt ?_
             |(with_reducible first|refine gNt (fun h=>?_) (fun h=>?_)|refine gCs (fun h=>?_) (fun h=>?_))<;>(try simp only[h])
             |with_reducible first|(refine hK _ ?_;clear hK K)|(clear hK K;refine hK _ ?_;clear hK K)|(clear hK K;clear hK K;refine hK _ ?_;clear hK K)|(clear hK K;clear hK K;clear hK K;refine hK _ ?_;clear hK K)
             |(with_reducible refine todo ?_;simp +decide only[go_sem, hid, encDk, h0, h1, h3, hx', h2]))
            refine ⟨⟨k, by omega, hi⟩, Weak_over hw kp_refl rfl ?_ ?_, by show k < k + 1; omega⟩ <;> simp +decide only [go_sem, hd.ptr]
  · rw [if_neg hr]
    have hr2 : (dkRight d at_ != 0) = true := by simpa using hr
    repeat' (first
     |with_reducible first|refine vSq fun K hK=>?_|refine vRg ?_|refine vBl ?_|refine vSc ?_|refine vIf ?_|refine vSk ?_|refine vEx ?_|refine vRt ?_
     |(with_reducible first|refine gNt (fun h=>?_) (fun h=>?_)|refine gCs (fun h=>?_) (fun h=>?_))<;>(try simp only[h])
     |refine C_call rfl kr rfl (Above_mono hab (by omega)) ?_
     |with_reducible first|(refine hK _ ?_;clear hK K)|(clear hK K;refine hK _ ?_;clear hK K)|(clear hK K;clear hK K;refine hK _ ?_;clear hK K)|(clear hK K;clear hK K;clear hK K;refine hK _ ?_;clear hK K)
     |(with_reducible refine todo ?_;simp +decide only[go_sem, hr2]))
    exact RetR_same rfl wk_pair oks_pair hw kp_refl (fun _ _ => rfl)
end disk
end Go.Proofs

namespace Go.Proofs
open Go.PW
def isNew (o : Oper) : Bool := match o.op, o.dst with
  | .alloc _, some _ => true
  | .box _ _, some _ => true
  | _, _ => false
theorem isNew_not {off : Nat} {o : Oper} (h : isNew o = false) : newId off o = none := by
  unfold isNew at h
  unfold newId
  split
  · rename_i e1 e2; rw [e1, e2] at h; cases h
  · rename_i e1 e2; rw [e1, e2] at h; cases h
  · rfl
def noNew : List Oper → Bool
  | [] => true
  | o :: l => !isNew o && noNew l
@[go_sem] theorem new_nil {off : Nat} : ∀ {l : List Oper} (_ : noNew l = true), List.filterMap (newId off) l = []
  | [], _ => rfl
  | o :: l, h => by
    have h' : (!isNew o) = true ∧ noNew l = true := by simpa only [noNew, Bool.and_eq_true] using h
    rw [List.filterMap_cons, isNew_not (by simpa using h'.1)]
    exact new_nil h'.2
@[go_sem] theorem beq01 : ((0 : Nat) == 1) = false := rfl
@[go_sem] theorem beq11 : ((1 : Nat) == 1) = true := rfl
@[go_sem] theorem nil_contains {i : Nat} : ([] : List Nat).contains i = false := rfl
theorem Tryz.appW : AppT Tryz.prog 54 127 2 24 := ⟨Tryz.underlying54, Tryz.cl127, Tryz.by127, Tryz.zo127, by decide, by decide⟩
def pad (s : List UInt8) : List UInt8 := s ++ zeros.drop s.length
def wrD (d : Dk) (k : Int) (s : List UInt8) : Dk := { d with left := IntKind.i64.wrap (d.left - 1), cache := d.cache ++ [(k, pad s)], writes := IntKind.i64.wrap (d.writes + 1) }
def writeE (d : Dk) (k : Int) (s : List UInt8) : Int := if dkRight d k ≠ 0 then dkRight d k else if 128 < s.length then 19 else if burnt d = true then 6 else 0
section disk
variable {H : HMap} {A : AMap} {id : Nat} {κm κc : Tok} {d : Dk}
theorem DkAt.ok (hm : A κm ≠ none) (hc : A κc ≠ none) : ∀ c ∈ encDk κm κc d, c.ok (fun i => H i ≠ none) (fun κ => A κ ≠ none) := fun c h => by
  simp only [encDk, List.mem_cons, List.not_mem_nil, or_false] at h
  rcases h with rfl | rfl | rfl | rfl | rfl | rfl | rfl <;> first | exact True.intro | exact hm | exact hc
theorem DkAt.ret {P : Program} {fn : Func} {v p : PV} {S : St} {d' : Dk} {A' : AMap} (hw : Wf H A) (hd : DkAt H A id κm κc d) (hp : resPVs P S fn.results.toList = some p) (hv : PV.wk (upd H id (some (encDk κm κc d'))) S.A A' v p) (hok : v.oks (fun i => upd H id (some (encDk κm κc d')) i ≠ none) (fun κ => A' κ ≠ none))
    (h1 : S.H id = some (encDk κm κc d')) (h2 : ∀ i, i ≠ id → S.H i = H i) (h3 : S.A = A') (h4 : ∀ κ, A κ ≠ none → A' κ ≠ none) : RetR P fn H A v (upd H id (some (encDk κm κc d'))) A' S := by
  subst h3
  have ok := DkAt.ok (H := upd H id (some (encDk κm κc d'))) (d := d') (h4 κm (by rw [hd.m]; simp)) (h4 κc (by rw [hd.c]; simp))
  exact RetR_set hp hv hok hw (by rw [hd.h]; simp) h1 (wkC_same fun c hcc => ok_mono (fun _ h => h) (fun κ h => ⟨h, rfl⟩) (ok c hcc)) ok (fun i hi _ => h2 i hi) (fun κ => .inr (.inl rfl)) (fun κ h => ⟨h4 κ h, rfl⟩)
theorem upd_keep {A : AMap} {κ : Tok} {x : Arr} : ∀ τ, A τ ≠ none → upd A κ (some x) τ ≠ none := fun τ h => by
  by_cases e : τ = κ
  · subst e; rw [upd_same]; simp
  · rw [upd_other _ _ e]; exact h
theorem szd_enc (l : List (Int × List UInt8)) : Szd 2 (l.map encW) := fun e he => by
  obtain ⟨w, _, rfl⟩ := List.mem_map.1 he
  rfl
set_option maxRecDepth 8000 in
set_option maxHeartbeats 16000000 in
theorem Tryz.kWriteNo (off : Nat) (hw : Wf H A) (hd : DkAt H A id κm κc d) (k : Int) (s : List UInt8) (hn : 0 < d.n) (he : writeE d k s ≠ 0) :
    EffOK Tryz.prog 95 off H A [.c (.ptr id 0), pD (.lit (.int .i64 k)), pD (dS s)] (pD (.lit (.int .i64 (writeE d k s)))) H A := by
  refine effr_ok (E := envOf Tryz.prog [85, 124] off [] []) (envOf_ok Tryz.mixed) Tryz.func95 rfl Tryz.call95 (by kernel_rfl) (by exact Nat.le_of_ble_eq_true rfl) (fun hab => ?_)
  have kr := Tryz.kDkRight (off + 1000) hw hd k hn
  have kb := Tryz.kBurnt (off + 1000) hw hd
  unfold writeE at he ⊢
  by_cases hr : dkRight d k = 0
  · rw [if_neg (by simpa using hr)] at he ⊢
    rw [hr] at kr
    by_cases hs : 128 < s.length
    · rw [if_pos hs]
      have hs' : ((128 : Int) < (s.length : Int)) = True := eq_true (by omega)
      repeat' (first
       |with_reducible first|refine vSq fun K hK=>?_|refine vRg ?_|refine vBl ?_|refine vSc ?_|refine vIf ?_|refine vSk ?_|refine vEx ?_|refine vRt ?_
       |(with_reducible first|refine gNt (fun h=>?_) (fun h=>?_)|refine gCs (fun h=>?_) (fun h=>?_))<;>(try simp only[h])
       |refine C_call rfl kr rfl (Above_mono hab (by omega)) ?_
       |with_reducible first|(refine hK _ ?_;clear hK K)|(clear hK K;refine hK _ ?_;clear hK K)|(clear hK K;clear hK K;refine hK _ ?_;clear hK K)|(clear hK K;clear hK K;clear hK K;refine hK _ ?_;clear hK K)
       |(with_reducible refine todo ?_;simp +decide only[go_sem, zne, hs']))
      exact RetR_same rfl (by simp +decide only [go_sem]) True.intro hw kp_refl (fun _ _ => rfl)
    · rw [if_neg hs] at he ⊢
      have hs' : ((128 : Int) < (s.length : Int)) = False := eq_false (by omega)
      cases hb : burnt d with
      | false => rw [hb] at he; exact absurd rfl he
      | true =>
        rw [hb] at kb
        repeat' (first
         |with_reducible first|refine vSq fun K hK=>?_|refine vRg ?_|refine vBl ?_|refine vSc ?_|refine vIf ?_|refine vSk ?_|refine vEx ?_|refine vRt ?_
         |(with_reducible first|refine gNt (fun h=>?_) (fun h=>?_)|refine gCs (fun h=>?_) (fun h=>?_))<;>(try simp only[h])
         |refine C_call rfl kr rfl (Above_mono hab (by omega)) ?_
         |refine C_call rfl kb rfl (Above_mono hab (by omega)) ?_
         |with_reducible first|(refine hK _ ?_;clear hK K)|(clear hK K;refine hK _ ?_;clear hK K)|(clear hK K;clear hK K;refine hK _ ?_;clear hK K)|(clear hK K;clear hK K;clear hK K;refine hK _ ?_;clear hK K)
         |(with_reducible refine todo ?_;simp +decide only[go_sem, zne, hs']))
        exact RetR_same rfl (by simp +decide only [go_sem]) True.intro hw kp_refl (fun _ _ => rfl)
  · rw [if_pos (by simpa using hr)]
    have hr2 : (dkRight d k != 0) = true := by simpa using hr
    repeat' (first
     |with_reducible first|refine vSq fun K hK=>?_|refine vRg ?_|refine vBl ?_|refine vSc ?_|refine vIf ?_|refine vSk ?_|refine vEx ?_|refine vRt ?_
     |(with_reducible first|refine gNt (fun h=>?_) (fun h=>?_)|refine gCs (fun h=>?_) (fun h=>?_))<;>(try simp only[h])
     |refine C_call rfl kr rfl (Above_mono hab (by omega)) ?_
     |with_reducible first|(refine hK _ ?_;clear hK K)|(clear hK K;refine hK _ ?_;clear hK K)|(clear hK K;clear hK K;refine hK _ ?_;clear hK K)|(clear hK K;clear hK K;clear hK K;refine hK _ ?_;clear hK K)
     |(with_reducible refine todo ?_;simp +decide only[go_sem, hr2]))
    exact RetR_same rfl (by simp +decide only [go_sem]) True.intro hw kp_refl (fun _ _ => rfl)
set_option maxRecDepth 8000 in
set_option maxHeartbeats 16000000 in
theorem Tryz.kWrite (off : Nat) (hw : Wf H A) (hd : DkAt H A id κm κc d) (k : Int) (s : List UInt8) (hn : 0 < d.n) (hl : d.cache.length ≤ 1000000) (he : writeE d k s = 0) :
    EffOK Tryz.prog 95 off H A [.c (.ptr id 0), pD (.lit (.int .i64 k)), pD (dS s)] (pD (.lit (.int .i64 0))) (upd H id (some (encDk κm κc (wrD d k s)))) (upd A κc (some (.co 2 (d.cache.length + 1)))) := by
  refine effr_ok (E := envOf Tryz.prog [85, 124] off [] []) (envOf_ok Tryz.mixed) Tryz.func95 rfl Tryz.call95 (by kernel_rfl) (by exact Nat.le_of_ble_eq_true rfl) (fun hab => ?_)
  have kr := Tryz.kDkRight (off + 1000) hw hd k hn
  have kb := Tryz.kBurnt (off + 1000) hw hd
  have ke := Tryz.kEmpty
  have hid := hd.h
  unfold encDk at hid
  have hr : dkRight d k = 0 := by unfold writeE at he; by_cases h : dkRight d k = 0; exact h; rw [if_pos h] at he; exact he
  unfold writeE at he
  rw [if_neg (by simpa using hr)] at he
  have hs : s.length ≤ 128 := by by_cases h : 128 < s.length; (rw [if_pos h] at he; cases he); omega
  rw [if_neg (by omega)] at he
  have hb : burnt d = false := by cases h : burnt d; rfl; rw [h] at he; cases he
  rw [hr] at kr
  rw [hb] at kb
  have hs' : ((128 : Int) < (s.length : Int)) = False := eq_false (by omega)
  have hzt : List.take (128 - s.length) (zeros.drop s.length) = zeros.drop s.length := List.take_of_length_le (by rw [List.length_drop, zeros_len]; omega)
  have hzl : (zeros.drop s.length).length = 128 - s.length := by rw [List.length_drop, zeros_len]
  have hsz : (s.length + (128 - s.length) ≤ 9223372036854775807) = True := eq_true (by omega)
  have ha : A κc = some (.co 2 (d.cache.map encW).length) := by rw [List.length_map]; exact hd.c
  repeat' (first
   |with_reducible first|refine vSq fun K hK=>?_|refine vRg ?_|refine vBl ?_|refine vSc ?_|refine vIf ?_|refine vSk ?_|refine vEx ?_|refine vRt ?_
   |(with_reducible first|refine gNt (fun h=>?_) (fun h=>?_)|refine gCs (fun h=>?_) (fun h=>?_))<;>(try simp only[h])
   |refine C_call rfl kr rfl (Above_mono hab (by omega)) ?_
   |refine C_call rfl kb rfl (Above_mono hab (by omega)) ?_
   |refine C_pure ke rfl rfl (fun k => (hab _ (Nat.le_add_right _ _)).2 k) ?_
   |(refine W_slcS (a := zeros) (l := s.length) (h := 128) Tryz.underlying9 rfl (by simp [optNat, natOf?, intOf?]) (by simp [optNat, zeros_len]) (by omega) (by rw [zeros_len]; omega) ?_)
   |(refine W_own Tryz.appW rfl (szd_enc _) (szOne rfl) (by simp only [List.length_map, List.length_singleton]; omega) ha ?_)
   |with_reducible first|(refine hK _ ?_;clear hK K)|(clear hK K;refine hK _ ?_;clear hK K)|(clear hK K;clear hK K;refine hK _ ?_;clear hK K)|(clear hK K;clear hK K;clear hK K;refine hK _ ?_;clear hK K)
   |(with_reducible refine todo ?_;simp +decide only[go_sem, zne, hs', hid, hzt, hzl, hsz]))
  refine DkAt.ret hw hd rfl (by simp +decide only [go_sem]) True.intro ?_ ?_ ?_ upd_keep
  · simp +decide only [go_sem, encDk, wrD, pad]
  · intro i hi
    simp +decide only [go_sem, hi]
  · simp +decide only [go_sem]
end disk
end Go.Proofs

namespace Go.Proofs
open Go.PW
def putN (m : List (Int × List UInt8)) (k : Int) (s : List UInt8) : List (Int × List UInt8) := match findN k m 0 with
  | some r => m.set r.1 (k, s)
  | none => m ++ [(k, s)]
def delN (m : List (Int × List UInt8)) (k : Int) : List (Int × List UInt8) := match findN k m 0 with
  | some r => m.eraseIdx r.1
  | none => m
def layN (m : List (Int × List UInt8)) (w : Int × List UInt8) : List (Int × List UInt8) := if w.2 = zeros then delN m w.1 else putN m w.1 w.2
theorem encNS_put (m : List (Int × List UInt8)) (k : Int) (s : List UInt8) : laidM (encNS m) (.int .i64 k) (.string ⟨s.toArray⟩) ((findN k m 0).map fun r => (r.1, .string ⟨r.2.toArray⟩)) = encNS (putN m k s) := by
  unfold putN
  cases findN k m 0 with
  | none => simp [laidM, encNS]
  | some r => simp [laidM, encNS, List.map_set]
theorem map_erase {α β : Type} (f : α → β) : ∀ (l : List α) (i : Nat), (l.map f).eraseIdx i = (l.eraseIdx i).map f
  | [], _ => rfl
  | _ :: _, 0 => rfl
  | x :: l, i + 1 => by simp [List.eraseIdx_cons_succ, map_erase f l i]
theorem encNS_del (m : List (Int × List UInt8)) (k : Int) : goneM (encNS m) ((findN k m 0).map fun r => (r.1, .string ⟨r.2.toArray⟩)) = encNS (delN m k) := by
  unfold delN
  cases findN k m 0 with
  | none => rfl
  | some r => exact map_erase _ _ _
theorem RetR_arr {P : Program} {fn : Func} {H : HMap} {A A' : AMap} {v p : PV} {S : St} (hp : resPVs P S fn.results.toList = some p) (hv : PV.wk H S.A A' v p) (hok : v.oks (fun i => H i ≠ none) (fun κ => A' κ ≠ none)) (hw : Wf H A)
    (hH : ∀ i, H i ≠ none → S.H i = H i) (h3 : S.A = A') (h4 : ∀ κ, A κ ≠ none → A' κ ≠ none) : RetR P fn H A v H A' S := by
  subst h3
  exact RetR_of hp hv hok (fun i cs c hi hc => ok_mono (fun _ h => h) h4 (hw i cs c hi hc)) (fun i cs hi => ⟨cs, by rw [hH i (by rw [hi]; simp), hi], wkC_same fun c hc => ok_mono (fun _ h => h) (fun κ h => ⟨h4 κ h, rfl⟩) (hw i cs c hi hc)⟩) (fun κ => .inr (.inl rfl)) (fun _ h => h) h4
def wPV (w : Int × List UInt8) : PV := .agg [.d (.lit (.int .i64 w.1)), .d (dS w.2)]
section disk
variable {H : HMap} {A : AMap} {id : Nat} {κm κc : Tok} {d : Dk}
set_option maxRecDepth 8000 in
set_option maxHeartbeats 16000000 in
theorem Tryz.kLay (off : Nat) (hw : Wf H A) (hd : DkAt H A id κm κc d) (w : Int × List UInt8) :
    EffOK Tryz.prog 126 off H A [.c (.ptr id 0), wPV w] (.c .any) H (upd A κm (some (.mp (encNS (layN d.stays w))))) := by
  refine effr_ok (E := envOf Tryz.prog [] off [] []) (envOf_ok Tryz.mixed) Tryz.func126 rfl Tryz.call126 (by kernel_rfl) (by exact Nat.le_of_ble_eq_true rfl) (fun hab => ?_)
  have hid := hd.h
  unfold encDk at hid
  have ke := Tryz.kEmpty
  have hne : id ≠ off + 3 := fun e => by rw [e, (hab (off + 3) (by omega)).1] at hid; cases hid
  unfold layN wPV
  cases hz : (w.2 == zeros) with
  | true =>
    rw [if_pos (by simpa using hz), ← encNS_del]
    repeat' (first
     |with_reducible first|refine vSq fun K hK=>?_|refine vRg ?_|refine vBl ?_|refine vSc ?_|refine vIf ?_|refine vSk ?_|refine vEx ?_|refine vRt ?_
     |(with_reducible first|refine gNt (fun h=>?_) (fun h=>?_)|refine gCs (fun h=>?_) (fun h=>?_))<;>(try simp only[h])
     |refine C_pure ke rfl rfl (fun k => (hab _ (Nat.le_add_right _ _)).2 k) ?_
     |refine And.intro (hab _ (Nat.le_add_right _ _)).1 ?_
     |with_reducible first|(refine hK _ ?_;clear hK K)|(clear hK K;refine hK _ ?_;clear hK K)|(clear hK K;clear hK K;refine hK _ ?_;clear hK K)|(clear hK K;clear hK K;clear hK K;refine hK _ ?_;clear hK K)
     |(with_reducible refine todo ?_;simp +decide only[go_sem, hid, hne, hz, mapOf_mpr hd.m, mfind_N]))
    refine RetR_arr rfl True.intro True.intro hw ?_ ?_ upd_keep
    · intro i hi
      have : i ≠ off + 3 := fun e => by rw [e] at hi; exact hi (hab _ (Nat.le_add_right _ _)).1
      simp +decide only [go_sem, this]
    · simp +decide only [go_sem]
  | false =>
    rw [if_neg (by simpa using hz), ← encNS_put]
    repeat' (first
     |with_reducible first|refine vSq fun K hK=>?_|refine vRg ?_|refine vBl ?_|refine vSc ?_|refine vIf ?_|refine vSk ?_|refine vEx ?_|refine vRt ?_
     |(with_reducible first|refine gNt (fun h=>?_) (fun h=>?_)|refine gCs (fun h=>?_) (fun h=>?_))<;>(try simp only[h])
     |refine C_pure ke rfl rfl (fun k => (hab _ (Nat.le_add_right _ _)).2 k) ?_
     |refine And.intro (hab _ (Nat.le_add_right _ _)).1 ?_
     |with_reducible first|(refine hK _ ?_;clear hK K)|(clear hK K;refine hK _ ?_;clear hK K)|(clear hK K;clear hK K;refine hK _ ?_;clear hK K)|(clear hK K;clear hK K;clear hK K;refine hK _ ?_;clear hK K)
     |(with_reducible refine todo ?_;simp +decide only[go_sem, hid, hne, hz, mapOf_mpr hd.m, mfind_N]))
    refine RetR_arr rfl True.intro True.intro hw ?_ ?_ upd_keep
    · intro i hi
      have : i ≠ off + 3 := fun e => by rw [e] at hi; exact hi (hab _ (Nat.le_add_right _ _)).1
      simp +decide only [go_sem, this]
    · simp +decide only [go_sem]
end disk
end Go.Proofs

namespace Go.Proofs
open Go.PW
def layAll (m : List (Int × List UInt8)) (l : List (Int × List UInt8)) : List (Int × List UInt8) := l.foldl layN m
def flD (d : Dk) : Dk := { d with left := IntKind.i64.wrap (d.left - 1), stays := layAll d.stays d.cache, cache := [], flushes := IntKind.i64.wrap (d.flushes + 1) }
theorem upd_twice {α β : Type} [DecidableEq α] {f : α → β} {a : α} {x y : β} : upd (upd f a x) a y = upd f a y := by
  funext t
  by_cases h : t = a
  · subst h; rw [upd_same, upd_same]
  · rw [upd_other _ _ h, upd_other _ _ h, upd_other _ _ h]
theorem upd_self {α β : Type} [DecidableEq α] {f : α → β} {a : α} {x : β} (h : f a = x) : upd f a x = f := by
  funext t
  by_cases e : t = a
  · subst e; rw [upd_same, h]
  · rw [upd_other _ _ e]
theorem Weak_overG {H0 H : HMap} {A0 A : AMap} {S : St} {l : List (Nat × PV)} {h : List (Nat × List CV)} (hw : Wf H A) (hb : ∀ id, H id ≠ none → S.H id = H id) (hA : S.A = A) (h1 : keepP (hOver h H) A A S.ρ l) (h2 : keepH (hOver h H) A A S.H h)
    (kH : ∀ id, H0 id ≠ none → H id ≠ none) (kA : ∀ κ, A0 κ ≠ none → A κ ≠ none) : Weak H0 A0 S (over l h H A) :=
  have w := Weak_over hw hb hA h1 h2
  ⟨w.ρ, w.H, w.A, fun id e => w.kH id (kH id e), fun κ e => w.kA κ (kA κ e)⟩
theorem Wf_set {H : HMap} {A A' : AMap} {id : Nat} {cs : List CV} (hw : Wf H A) (hc : ∀ c ∈ cs, c.ok (fun i => upd H id (some cs) i ≠ none) (fun κ => A' κ ≠ none)) (h4 : ∀ κ, A κ ≠ none → A' κ ≠ none) : Wf (upd H id (some cs)) A' := fun i ds c hd hc' => by
  rw [upd_apply'] at hd
  split at hd
  · cases hd; exact hc c hc'
  · refine ok_mono (fun i hi => ?_) h4 (hw i ds c hd hc')
    rw [upd_apply']; split
    · simp
    · exact hi
section disk
variable {H : HMap} {A : AMap} {id : Nat} {κm κc κ' : Tok} {d : Dk}
theorem DkAt.ne (hd : DkAt H A id κm κc d) : κc ≠ κm := fun e => by have := hd.c; rw [e, hd.m] at this; cases this
theorem DkAt.wf (hw : Wf H A) (hd : DkAt H A id κm κc d) (d' : Dk) {A' : AMap} (h4 : ∀ κ, A κ ≠ none → A' κ ≠ none) : Wf (upd H id (some (encDk κm κc d'))) A' :=
  Wf_set hw (DkAt.ok (h4 κm (by rw [hd.m]; simp)) (h4 κc (by rw [hd.c]; simp))) h4
theorem DkAt.updH (hd : DkAt H A id κm κc d) {u : Nat} {x : Option (List CV)} (h : id ≠ u) : DkAt (upd H u x) A id κm κc d := ⟨by rw [upd_other _ _ h]; exact hd.h, hd.m, hd.c⟩
theorem DkAt.lt (hd : DkAt H A id κm κc d) {off : Nat} (hab : Above off H A) : id < off ∧ κm.1 < off ∧ κc.1 < off := by
  refine ⟨?_, ?_, ?_⟩
  · refine Nat.lt_of_not_le fun h => ?_
    have := hd.h; rw [(hab id h).1] at this; cases this
  · refine Nat.lt_of_not_le fun h => ?_
    have := hd.m; rw [(hab κm.1 h).2 κm.2] at this; cases this
  · refine Nat.lt_of_not_le fun h => ?_
    have := hd.c; rw [(hab κc.1 h).2 κc.2] at this; cases this
def encDkF (κm : Tok) (d : Dk) : List CV := [.d (.lit (.int .i64 d.n)), .mpr κm, .full [], .d (.lit (.int .i64 d.writes)), .d (.lit (.int .i64 d.flushes)), .d (.lit (.bool d.fused)), .d (.lit (.int .i64 d.left))]
theorem DkAt.retF {P : Program} {fn : Func} {v p : PV} {S : St} {d' : Dk} (hw : Wf H A) (hd : DkAt H A id κm κc d) (he : d'.cache = []) (hp : resPVs P S fn.results.toList = some p)
    (hv : PV.wk (upd H id (some (encDk κm κ' d'))) S.A (upd (upd A κm (some (.mp (encNS d'.stays)))) κ' (some (.co 2 0))) v p) (hok : v.oks (fun i => upd H id (some (encDk κm κ' d')) i ≠ none) (fun κ => upd (upd A κm (some (.mp (encNS d'.stays)))) κ' (some (.co 2 0)) κ ≠ none))
    (h1 : S.H id = some (encDkF κm d')) (h2 : ∀ i, i ≠ id → H i ≠ none → S.H i = H i) (h3 : S.A = upd A κm (some (.mp (encNS d'.stays)))) (hκ : A κ' = none) :
    RetR P fn H A v (upd H id (some (encDk κm κ' d'))) (upd (upd A κm (some (.mp (encNS d'.stays)))) κ' (some (.co 2 0))) S := by
  have hne : κ' ≠ κm := fun e => by rw [e, hd.m] at hκ; cases hκ
  have hSκ : S.A κ' = none := by rw [h3, upd_other _ _ hne]; exact hκ
  have hA : ∀ κ, κ ≠ κ' → upd (upd A κm (some (.mp (encNS d'.stays)))) κ' (some (.co 2 0)) κ = S.A κ := fun κ h => by rw [upd_other _ _ h, h3]
  have hκ2 : upd (upd A κm (some (.mp (encNS d'.stays)))) κ' (some (.co 2 0)) κ' = some (.co 2 0) := upd_same _ _ _
  have hmm : upd (upd A κm (some (.mp (encNS d'.stays)))) κ' (some (.co 2 0)) κm = some (.mp (encNS d'.stays)) := by rw [upd_other _ _ hne.symm, upd_same]
  refine RetR_set hp hv hok hw (by rw [hd.h]; simp) h1 ?_ (DkAt.ok (H := upd H id (some (encDk κm κ' d'))) (d := d') (by rw [hmm]; simp) (by rw [hκ2]; simp)) h2 (fun κ => ?_) (fun κ h => ?_)
  · unfold encDk encDkF
    rw [he]
    refine ⟨?_, ?_, ?_, ?_, ?_, ?_, ?_, True.intro⟩
    · rw [wk_d]; exact True.intro
    · exact .inr (.inl ⟨rfl, by rw [hmm]; simp, by rw [hmm, h3, upd_same]⟩)
    · exact .inr (.inr (.inr (.inl ⟨rfl, κ', 2, rfl, hSκ, hκ2⟩)))
    · rw [wk_d]; exact True.intro
    · rw [wk_d]; exact True.intro
    · rw [wk_d]; exact True.intro
    · rw [wk_d]; exact True.intro
  · by_cases e : κ = κ'
    · subst e; exact .inr (.inr ⟨hSκ, 2, .inl hκ2⟩)
    · exact .inr (.inl (hA κ e))
  · have e : κ ≠ κ' := fun e => h (by rw [e]; exact hκ)
    have h5 : upd (upd A κm (some (.mp (encNS d'.stays)))) κ' (some (.co 2 0)) κ ≠ none := by
      rw [upd_other _ _ e]; exact upd_keep κ h
    exact ⟨h5, hA κ e⟩
set_option maxRecDepth 8000 in
set_option maxHeartbeats 16000000 in
theorem Tryz.kFlushNo (off : Nat) (hw : Wf H A) (hd : DkAt H A id κm κc d) (hn : 0 < d.n) (hb : burnt d = true) : EffOK Tryz.prog 98 off H A [.c (.ptr id 0)] (pD (.lit (.int .i64 6))) H A := by
  refine effr_ok (E := envOf Tryz.prog [21, 124, 126] off [] []) (envOf_ok Tryz.mixed) Tryz.func98 rfl Tryz.call98 (by kernel_rfl) (by exact Nat.le_of_ble_eq_true rfl) (fun hab => ?_)
  have kl := Tryz.kLen (off + 1000) hw hd
  have kb := Tryz.kBurnt (off + 1000) hw hd
  rw [hb] at kb
  have hz : ((d.n : Int) == 0) = false := by rw [beq_eq_false_iff_ne]; omega
  repeat' (first
   |with_reducible first|refine vSq fun K hK=>?_|refine vRg ?_|refine vBl ?_|refine vSc ?_|refine vIf ?_|refine vSk ?_|refine vEx ?_|refine vRt ?_
   |(with_reducible first|refine gNt (fun h=>?_) (fun h=>?_)|refine gCs (fun h=>?_) (fun h=>?_))<;>(try simp only[h])
   |refine C_call rfl kl rfl (Above_mono hab (by omega)) ?_
   |refine C_call rfl kb rfl (Above_mono hab (by omega)) ?_
   |with_reducible first|(refine hK _ ?_;clear hK K)|(clear hK K;refine hK _ ?_;clear hK K)|(clear hK K;clear hK K;refine hK _ ?_;clear hK K)|(clear hK K;clear hK K;clear hK K;refine hK _ ?_;clear hK K)
   |(with_reducible refine todo ?_;simp +decide only[go_sem, hz]))
  exact RetR_same rfl (by simp +decide only [go_sem]) True.intro hw kp_refl (fun _ _ => rfl)
set_option maxRecDepth 8000 in
set_option maxHeartbeats 16000000 in
theorem Tryz.kFlush (off : Nat) (hw : Wf H A) (hd : DkAt H A id κm κc d) (hn : 0 < d.n) (hl : d.cache.length ≤ 1000000) (hb : burnt d = false) (hκ : A κ' = none) :
    EffOK Tryz.prog 98 off H A [.c (.ptr id 0)] (pD (.lit (.int .i64 0))) (upd H id (some (encDk κm κ' (flD d)))) (upd (upd A κm (some (.mp (encNS (flD d).stays)))) κ' (some (.co 2 0))) := by
  refine effr_ok (E := envOf Tryz.prog [21, 124, 126] off [] []) (envOf_ok Tryz.mixed) Tryz.func98 rfl Tryz.call98 (by kernel_rfl) (by exact Nat.le_of_ble_eq_true rfl) (fun hab => ?_)
  have kl := Tryz.kLen (off + 1000) hw hd
  have kb := Tryz.kBurnt (off + 1000) hw hd
  rw [hb] at kb
  have hz : ((d.n : Int) == 0) = false := by rw [beq_eq_false_iff_ne]; omega
  have hid := hd.h
  unfold encDk at hid
  have hlt := hd.lt hab
  have hn4 : H (off + 4) = none := (hab _ (Nat.le_add_right _ _)).1
  have hne4 : off + 4 ≠ id := by omega
  have hw1 : ∀ i, Wf (upd H id (some (encDk κm κc { d with left := IntKind.i64.wrap (d.left - 1) }))) (upd A κm (some (.mp (encNS (layAll d.stays (d.cache.take i)))))) := fun i => DkAt.wf hw hd _ upd_keep
  have hd1 : ∀ i, DkAt (upd H id (some (encDk κm κc { d with left := IntKind.i64.wrap (d.left - 1) }))) (upd A κm (some (.mp (encNS (layAll d.stays (d.cache.take i)))))) id κm κc { d with left := IntKind.i64.wrap (d.left - 1), stays := layAll d.stays (d.cache.take i) } :=
    fun i => ⟨upd_same _ _ _, upd_same _ _ _, by rw [upd_other _ _ hd.ne]; exact hd.c⟩
  have hptr : ∀ {A1 A2 : AMap} {x : List CV}, PV.wk (hOver [] (upd H id (some x))) A1 A2 (.c (.ptr id 0)) (.c (.ptr id 0)) = True := eq_true (wkP_ptr (by show upd _ _ _ _ ≠ none; rw [upd_same]; simp))
  repeat' (first
   |with_reducible first|refine vSq fun K hK=>?_|refine vRg ?_|refine vBl ?_|refine vSc ?_|refine vIf ?_|refine vSk ?_|refine vEx ?_|refine vRt ?_
   |(with_reducible first|refine gNt (fun h=>?_) (fun h=>?_)|refine gCs (fun h=>?_) (fun h=>?_))<;>(try simp only[h])
   |refine C_call rfl kl rfl (Above_mono hab (by omega)) ?_
   |refine C_call rfl kb rfl (Above_mono hab (by omega)) ?_
   |with_reducible first|(refine hK _ ?_;clear hK K)|(clear hK K;refine hK _ ?_;clear hK K)|(clear hK K;clear hK K;refine hK _ ?_;clear hK K)|(clear hK K;clear hK K;clear hK K;refine hK _ ?_;clear hK K)
   |(with_reducible refine todo ?_;simp +decide only[go_sem, hz, hid]))
  refine VC_range d.cache.length (fun _ => True) (fun i => over [(0, .c (.ptr id 0)), (22, .c (.d (.sl (d.cache.map encW)))), (23, pD (.lit (.int .i64 d.cache.length))), (24, pD (.lit (.int .i64 i)))] []
    (upd H id (some (encDk κm κc { d with left := IntKind.i64.wrap (d.left - 1) }))) (upd A κm (some (.mp (encNS (layAll d.stays (d.cache.take i))))))) True.intro ?_ ?_
  · refine Weak_overG (hw1 0) (fun _ _ => rfl) (upd_self hd.m).symm ?_ ?_ (fun i hi => ?_) upd_keep
    · simp +decide only [go_sem, hptr]
    · simp +decide only [go_sem]
    · rw [upd_apply']; split
      · simp
      · exact hi
  · intro i hi _
    rcases Nat.lt_or_ge i d.cache.length with hi2 | hi2
    · have hc := int_lt_true hi2
      have hnx := int_next hi2 (by omega)
      have h3 : d.cache[i]? = some d.cache[i] := List.getElem?_eq_getElem hi2
      have hst : layAll d.stays (d.cache.take (i + 1)) = layN (layAll d.stays (d.cache.take i)) d.cache[i] := by
        unfold layAll
        rw [List.take_add_one, h3, Option.toList_some, List.foldl_append]
        rfl
      have hwi := hw1 i
      have hdi := hd1 i
      generalize d.cache[i] = x at *
      repeat' (first
       |with_reducible first|refine vSq fun K hK=>?_|refine vRg ?_|refine vBl ?_|refine vSc ?_|refine vIf ?_|refine vSk ?_|refine vEx ?_|refine vRt ?_
       |(with_reducible first|refine gNt (fun h=>?_) (fun h=>?_)|refine gCs (fun h=>?_) (fun h=>?_))<;>(try simp only[h])
       |refine C_call rfl (Tryz.kLay (off + 1000) (Wf_upd (Wf_upd hwi rfl) rfl) ((hdi.updH hne4.symm).updH hne4.symm) x) rfl (Above_updH (Above_updH (Above_updA (Above_updH (Above_mono hab (by omega)) (by omega)) (by omega)) (by omega)) (by omega)) ?_
       |with_reducible first|(refine hK _ ?_;clear hK K)|(clear hK K;refine hK _ ?_;clear hK K)|(clear hK K;clear hK K;refine hK _ ?_;clear hK K)|(clear hK K;clear hK K;clear hK K;refine hK _ ?_;clear hK K)
       |(with_reducible refine todo ?_;simp +decide only[go_sem, hc, hnx, h3, hn4, hne4]))
      refine Next_of hi2 True.intro (Weak_overG (hw1 (i + 1)) ?_ ?_ ?_ ?_ (fun i hi => ?_) upd_keep)
      · exact kp_upd (by rw [upd_other _ _ hne4]; exact hn4) (kp_upd (by rw [upd_other _ _ hne4]; exact hn4) kp_refl)
      · rw [hst]
        exact upd_twice
      · simp +decide only [go_sem, hptr]
      · simp +decide only [go_sem]
      · rw [upd_apply']; split
        · simp
        · exact hi
    · have hc := int_lt_false hi2
      repeat' (first
       |with_reducible first|refine vSq fun K hK=>?_|refine vRg ?_|refine vBl ?_|refine vSc ?_|refine vIf ?_|refine vSk ?_|refine vEx ?_|refine vRt ?_
       |(with_reducible first|refine gNt (fun h=>?_) (fun h=>?_)|refine gCs (fun h=>?_) (fun h=>?_))<;>(try simp only[h])
       |with_reducible first|(refine hK _ ?_;clear hK K)|(clear hK K;refine hK _ ?_;clear hK K)|(clear hK K;clear hK K;refine hK _ ?_;clear hK K)|(clear hK K;clear hK K;clear hK K;refine hK _ ?_;clear hK K)
       |(with_reducible refine todo ?_;simp +decide only[go_sem, hc, encDk]))
      refine DkAt.retF (d' := flD d) hw hd rfl rfl (by simp +decide only [go_sem]) True.intro ?_ ?_ ?_ hκ
      · simp +decide only [go_sem, flD, encDkF]
      · intro j hj hjn
        simp +decide only [go_sem, hj]
      · rw [show d.cache.take i = d.cache from List.take_of_length_le hi2]
        simp +decide only [go_sem, flD]
end disk
end Go.Proofs
