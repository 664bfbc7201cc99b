/-
  Parts of the proof, laid together: PwDa, PwDb, PwDc, PwDd.
-/
import Derived.Test.YtghlemfokpfngaaQ17

namespace Go.Proofs
open Go.PW
section ptrs
variable {P : Program} {T : TypeId} {i o : Nat}
def isPtr (P : Program) (T : TypeId) : Bool := match P.underlying T with
  | some (.pointer _) => true
  | _ => false
attribute [go_sem] isPtr
theorem isPtr_ex (h : isPtr P T = true) : ∃ q, P.underlying T = some (.pointer q) := by
  unfold isPtr at h
  split at h
  case h_1 q e => exact ⟨q, e⟩
  case h_2 => cases h
@[go_sem] theorem B_peql (h : isPtr P T = true) : binS P .eql T (.c (.ptr i o)) (.c (.d (.lit (.pointer none)))) = some (lit (.bool false)) := by
  obtain ⟨q, h⟩ := isPtr_ex h
  show (eqS P T _ _).map _ = _
  simp only [eqS, h, Option.map]
@[go_sem] theorem B_pneq (h : isPtr P T = true) : binS P .neq T (.c (.ptr i o)) (.c (.d (.lit (.pointer none)))) = some (lit (.bool true)) := by
  obtain ⟨q, h⟩ := isPtr_ex h
  show (eqS P T _ _).map _ = _
  simp only [eqS, h, Option.map, Bool.not_false]
end ptrs
structure Dk where
  n : Nat
  stays : List (Int × List UInt8)
  cache : List (Int × List UInt8)
  writes : Int
  flushes : Int
  fused : Bool
  left : Int
def encW (w : Int × List UInt8) : List D := [.lit (.int .i64 w.1), .lit (.string ⟨w.2.toArray⟩)]
attribute [go_sem] encW
def encDk (κm κc : Tok) (d : Dk) : List CV :=
  [.d (.lit (.int .i64 d.n)), .mpr κm, .own κc (d.cache.map encW), .d (.lit (.int .i64 d.writes)), .d (.lit (.int .i64 d.flushes)), .d (.lit (.bool d.fused)), .d (.lit (.int .i64 d.left))]
structure DkAt (H : HMap) (A : AMap) (id : Nat) (κm κc : Tok) (d : Dk) : Prop where
  h : H id = some (encDk κm κc d)
  m : A κm = some (.mp (encNS d.stays))
  c : A κc = some (.co 2 d.cache.length)
def zeros : List UInt8 := List.replicate 128 0
theorem zeros_len : zeros.length = 128 := by simp [zeros]
theorem Try.mk128 : mksS Try.prog 88 (.c (.d (.lit (.int .i64 128)))) (.c (.d (.lit (.int .i64 128)))) = some (.c (.full (bytesEls zeros))) := by kernel_rfl
set_option maxRecDepth 8000 in
set_option maxHeartbeats 4000000 in
theorem Try.kEmpty : PureOK Try.prog 62 [] (.one (.d (dS zeros))) := by
  refine Try.pure (md := []) Try.func62 rfl Try.call62 (by kernel_rfl) (by rfl) (by exact Nat.le_of_ble_eq_true rfl) ?_
  repeat' (first
   |with_reducible first|refine vSq fun K hK=>?_|refine vRg ?_|refine vBl ?_|refine vSc ?_|refine vIf ?_|refine vSk ?_|refine vEx ?_|refine vRt ?_
   |(with_reducible first|refine gNt (fun h=>?_) (fun h=>?_)|refine gCs (fun h=>?_) (fun h=>?_))<;>(try simp only[h])
   |with_reducible first|(refine hK _ ?_;clear hK K)|(clear hK K;refine hK _ ?_;clear hK K)|(clear hK K;clear hK K;refine hK _ ?_;clear hK K)|(clear hK K;clear hK K;clear hK K;refine hK _ ?_;clear hK K)
   |(with_reducible refine todo ?_;simp +decide only[go_sem, Try.mk128]))
  exact Ret_d rfl rfl
section disk
variable {H : HMap} {A : AMap} {id : Nat} {κm κc : Tok} {d : Dk}
set_option maxRecDepth 8000 in
set_option maxHeartbeats 4000000 in
theorem Try.kLen (off : Nat) (hw : Wf H A) (hd : DkAt H A id κm κc d) : EffOK Try.prog 26 off H A [.c (.ptr id 0)] (pD (.lit (.int .i64 d.n))) H A := by
  refine effr_ok (E := envOf Try.prog [] off [] []) (envOf_ok Try.mixed) Try.func26 rfl Try.call26 (by kernel_rfl) (by exact Nat.le_of_ble_eq_true rfl) (fun hab => ?_)
  have hid := hd.h
  repeat' (first
   |with_reducible first|refine vSq fun K hK=>?_|refine vRg ?_|refine vBl ?_|refine vSc ?_|refine vIf ?_|refine vSk ?_|refine vEx ?_|refine vRt ?_
   |(with_reducible first|refine gNt (fun h=>?_) (fun h=>?_)|refine gCs (fun h=>?_) (fun h=>?_))<;>(try simp only[h])
   |with_reducible first|(refine hK _ ?_;clear hK K)|(clear hK K;refine hK _ ?_;clear hK K)|(clear hK K;clear hK K;refine hK _ ?_;clear hK K)|(clear hK K;clear hK K;clear hK K;refine hK _ ?_;clear hK K)
   |(with_reducible refine todo ?_;simp +decide only[go_sem, hid, encDk]))
  exact RetR_same rfl (by simp +decide only [go_sem]) True.intro hw kp_refl (fun _ _ => rfl)
def dkRight (d : Dk) (at_ : Int) : Int := if d.n = 0 then 13 else if at_ < 0 ∨ (d.n : Int) ≤ at_ then 2 else 0
set_option maxRecDepth 8000 in
set_option maxHeartbeats 4000000 in
theorem Try.kDkRight (off : Nat) (hw : Wf H A) (hd : DkAt H A id κm κc d) (at_ : Int) (hn : 0 < d.n) : EffOK Try.prog 63 off H A [.c (.ptr id 0), pD (.lit (.int .i64 at_))] (pD (.lit (.int .i64 (dkRight d at_)))) H A := by
  refine effr_ok (E := envOf Try.prog [26] off [] []) (envOf_ok Try.mixed) Try.func63 rfl Try.call63 (by kernel_rfl) (by exact Nat.le_of_ble_eq_true rfl) (fun hab => ?_)
  have hid := hd.h
  have kl := Try.kLen (off + 1000) hw hd
  have hz : ((d.n : Int) == 0) = false := by rw [beq_eq_false_iff_ne]; omega
  rcases Int.lt_or_le at_ 0 with h0 | h0
  · have e : dkRight d at_ = 2 := by unfold dkRight; rw [if_neg (by omega), if_pos (.inl h0)]
    have h1 : (at_ < 0) = True := eq_true h0
    repeat' (first
     |with_reducible first|refine vSq fun K hK=>?_|refine vRg ?_|refine vBl ?_|refine vSc ?_|refine vIf ?_|refine vSk ?_|refine vEx ?_|refine vRt ?_
     |(with_reducible first|refine gNt (fun h=>?_) (fun h=>?_)|refine gCs (fun h=>?_) (fun h=>?_))<;>(try simp only[h])
     |refine C_call rfl kl rfl (Above_mono hab (by omega)) ?_
     |with_reducible first|(refine hK _ ?_;clear hK K)|(clear hK K;refine hK _ ?_;clear hK K)|(clear hK K;clear hK K;refine hK _ ?_;clear hK K)|(clear hK K;clear hK K;clear hK K;refine hK _ ?_;clear hK K)
     |(with_reducible refine todo ?_;simp +decide only[go_sem, hz, h1]))
    rw [e]
    exact RetR_same rfl (by simp +decide only [go_sem]) True.intro hw kp_refl (fun _ _ => rfl)
  · have h1 : (at_ < 0) = False := eq_false (by omega)
    rcases Int.lt_or_le at_ d.n with h2 | h2
    · have e : dkRight d at_ = 0 := by unfold dkRight; rw [if_neg (by omega), if_neg (by omega)]
      have h3 : ((d.n : Int) ≤ at_) = False := eq_false (by omega)
      repeat' (first
       |with_reducible first|refine vSq fun K hK=>?_|refine vRg ?_|refine vBl ?_|refine vSc ?_|refine vIf ?_|refine vSk ?_|refine vEx ?_|refine vRt ?_
       |(with_reducible first|refine gNt (fun h=>?_) (fun h=>?_)|refine gCs (fun h=>?_) (fun h=>?_))<;>(try simp only[h])
       |refine C_call rfl kl rfl (Above_mono hab (by omega)) ?_
       |with_reducible first|(refine hK _ ?_;clear hK K)|(clear hK K;refine hK _ ?_;clear hK K)|(clear hK K;clear hK K;refine hK _ ?_;clear hK K)|(clear hK K;clear hK K;clear hK K;refine hK _ ?_;clear hK K)
       |(with_reducible refine todo ?_;simp +decide only[go_sem, hid, encDk, hz, h1, h3]))
      rw [e]
      exact RetR_same rfl (by simp +decide only [go_sem]) True.intro hw kp_refl (fun _ _ => rfl)
    · have e : dkRight d at_ = 2 := by unfold dkRight; rw [if_neg (by omega), if_pos (.inr h2)]
      have h3 : ((d.n : Int) ≤ at_) = True := eq_true h2
      repeat' (first
       |with_reducible first|refine vSq fun K hK=>?_|refine vRg ?_|refine vBl ?_|refine vSc ?_|refine vIf ?_|refine vSk ?_|refine vEx ?_|refine vRt ?_
       |(with_reducible first|refine gNt (fun h=>?_) (fun h=>?_)|refine gCs (fun h=>?_) (fun h=>?_))<;>(try simp only[h])
       |refine C_call rfl kl rfl (Above_mono hab (by omega)) ?_
       |with_reducible first|(refine hK _ ?_;clear hK K)|(clear hK K;refine hK _ ?_;clear hK K)|(clear hK K;clear hK K;refine hK _ ?_;clear hK K)|(clear hK K;clear hK K;clear hK K;refine hK _ ?_;clear hK K)
       |(with_reducible refine todo ?_;simp +decide only[go_sem, hid, encDk, hz, h1, h3]))
      rw [e]
      exact RetR_same rfl (by simp +decide only [go_sem]) True.intro hw kp_refl (fun _ _ => rfl)
def burnt (d : Dk) : Bool := d.fused && (d.left == 0)
set_option maxRecDepth 8000 in
set_option maxHeartbeats 4000000 in
theorem Try.kBurnt (off : Nat) (hw : Wf H A) (hd : DkAt H A id κm κc d) : EffOK Try.prog 74 off H A [.c (.ptr id 0)] (pD (.lit (.bool (burnt d)))) H A := by
  refine effr_ok (E := envOf Try.prog [] off [] []) (envOf_ok Try.mixed) Try.func74 rfl Try.call74 (by kernel_rfl) (by exact Nat.le_of_ble_eq_true rfl) (fun hab => ?_)
  have hid := hd.h
  have e : burnt d = (d.fused && (d.left == 0)) := rfl
  cases hf : d.fused with
  | false =>
    rw [hf] at e
    repeat' (first
     |with_reducible first|refine vSq fun K hK=>?_|refine vRg ?_|refine vBl ?_|refine vSc ?_|refine vIf ?_|refine vSk ?_|refine vEx ?_|refine vRt ?_
     |(with_reducible first|refine gNt (fun h=>?_) (fun h=>?_)|refine gCs (fun h=>?_) (fun h=>?_))<;>(try simp only[h])
     |with_reducible first|(refine hK _ ?_;clear hK K)|(clear hK K;refine hK _ ?_;clear hK K)|(clear hK K;clear hK K;refine hK _ ?_;clear hK K)|(clear hK K;clear hK K;clear hK K;refine hK _ ?_;clear hK K)
     |(with_reducible refine todo ?_;simp +decide only[go_sem, hid, encDk, hf]))
    rw [e]
    exact RetR_same rfl (by simp +decide only [go_sem]) True.intro hw kp_refl (fun _ _ => rfl)
  | true =>
    rw [hf] at e
    repeat' (first
     |with_reducible first|refine vSq fun K hK=>?_|refine vRg ?_|refine vBl ?_|refine vSc ?_|refine vIf ?_|refine vSk ?_|refine vEx ?_|refine vRt ?_
     |(with_reducible first|refine gNt (fun h=>?_) (fun h=>?_)|refine gCs (fun h=>?_) (fun h=>?_))<;>(try simp only[h])
     |with_reducible first|(refine hK _ ?_;clear hK K)|(clear hK K;refine hK _ ?_;clear hK K)|(clear hK K;clear hK K;refine hK _ ?_;clear hK K)|(clear hK K;clear hK K;clear hK K;refine hK _ ?_;clear hK K)
     |(with_reducible refine todo ?_;simp +decide only[go_sem, hid, encDk, hf]))
    rw [e]
    exact RetR_same rfl (by simp +decide only [go_sem]) True.intro hw kp_refl (fun _ _ => rfl)
end disk
end Go.Proofs

namespace Go.Proofs
open Go.PW
def lastW (k : Int) : List (Int × List UInt8) → Option (List UInt8)
  | [] => none
  | w :: r => match lastW k r with
    | some s => some s
    | none => if w.1 = k then some w.2 else none
theorem lastW_snoc (k : Int) (w : Int × List UInt8) : ∀ l : List (Int × List UInt8), lastW k (l ++ [w]) = if w.1 = k then some w.2 else lastW k l
  | [] => rfl
  | x :: r => by
    show (match lastW k (r ++ [w]) with | some s => some s | none => _) = _
    rw [lastW_snoc k w r]
    by_cases h : w.1 = k
    · rw [if_pos h, if_pos h]
    · rw [if_neg h, if_neg h]; rfl
def stayN (d : Dk) (k : Int) : List UInt8 := match findN k d.stays 0 with
  | some r => r.2
  | none => zeros
def rd (d : Dk) (k : Int) : List UInt8 := match lastW k d.cache with
  | some s => s
  | none => stayN d k
def readPV (d : Dk) (k : Int) : PV := if dkRight d k = 0 then .tup [.c (.d (dS (rd d k))), .c (.d (.lit (.int .i64 0)))] else .tup [.c (.d (dS [])), .c (.d (.lit (.int .i64 (dkRight d k))))]
theorem wk_pair {H' : HMap} {A A' : AMap} {x y : D} : PV.wk H' A A' (.tup [.c (.d x), .c (.d y)]) (.tup [.c (.d x), .c (.d y)]) := by
  refine ⟨rfl, fun k a b h1 h2 => ?_⟩
  rw [h1] at h2
  cases h2
  match k, h1 with
  | 0, h => cases h; exact .inr (.inl ⟨rfl, True.intro⟩)
  | 1, h => cases h; exact .inr (.inl ⟨rfl, True.intro⟩)
theorem oks_pair {hk : Nat → Prop} {tk : Tok → Prop} {x y : D} : PV.oks hk tk (.tup [.c (.d x), .c (.d y)]) := fun z hz => by
  rcases List.mem_cons.1 hz with rfl | hz
  · exact True.intro
  · rw [List.mem_singleton.1 hz]; exact True.intro
theorem zne : ((0 : Int) != 0) = false := rfl
theorem DkAt.ptr {H : HMap} {A : AMap} {id : Nat} {κm κc : Tok} {d : Dk} (hd : DkAt H A id κm κc d) : PV.wk (hOver [] H) A A (.c (.ptr id 0)) (.c (.ptr id 0)) = True := eq_true (wkP_ptr (by show H id ≠ none; rw [hd.h]; simp))
@[go_sem] theorem oneCell_str {s : ByteArray} : (Value.string s).oneCell' = true := rfl
@[go_sem] theorem Try.zlitS : zlit Try.prog 9 = some (.string ⟨#[]⟩) := by kernel_rfl
def bk (k : Nat) : Int := k - 1
section disk
variable {H : HMap} {A : AMap} {id : Nat} {κm κc : Tok} {d : Dk}
set_option maxRecDepth 8000 in
set_option maxHeartbeats 8000000 in
theorem Try.kRead (off : Nat) (hw : Wf H A) (hd : DkAt H A id κm κc d) (at_ : Int) (hn : 0 < d.n) (hl : d.cache.length ≤ 1000000) : EffOK Try.prog 43 off H A [.c (.ptr id 0), pD (.lit (.int .i64 at_))] (readPV d at_) H A := by
  refine effr_ok (E := envOf Try.prog [63] off [] []) (envOf_ok Try.mixed) Try.func43 rfl Try.call43 (by kernel_rfl) (by exact Nat.le_of_ble_eq_true rfl) (fun hab => ?_)
  have hid := hd.h
  have kr := Try.kDkRight (off + 1000) hw hd at_ hn
  have ke := Try.kEmpty
  unfold readPV
  by_cases hr : dkRight d at_ = 0
  · rw [if_pos hr]
    rw [hr] at kr
    have hlen : ((d.cache.length : Nat) : Int) - 1 = bk d.cache.length := rfl
    have hwr : IntKind.i64.wrap ((d.cache.length : Int) - 1) = bk d.cache.length := Go.IntWalk.i64_in _ (by omega)
    repeat' (first
     |with_reducible first|refine vSq fun K hK=>?_|refine vRg ?_|refine vBl ?_|refine vSc ?_|refine vIf ?_|refine vSk ?_|refine vEx ?_|refine vRt ?_
     |(with_reducible first|refine gNt (fun h=>?_) (fun h=>?_)|refine gCs (fun h=>?_) (fun h=>?_))<;>(try simp only[h])
     |refine C_call rfl kr rfl (Above_mono hab (by omega)) ?_
     |with_reducible first|(refine hK _ ?_;clear hK K)|(clear hK K;refine hK _ ?_;clear hK K)|(clear hK K;clear hK K;refine hK _ ?_;clear hK K)|(clear hK K;clear hK K;clear hK K;refine hK _ ?_;clear hK K)
     |(with_reducible refine todo ?_;simp +decide only[go_sem, hid, encDk, hwr, zne]))
    · refine VC_while (ι := Nat) (fun k => k ≤ d.cache.length ∧ lastW at_ (d.cache.take k) = lastW at_ d.cache)
        (fun k => over [(0, .c (.ptr id 0)), (1, pD (.lit (.int .i64 at_))), (7, pD (.lit (.int .i64 (bk k))))] [] H A) (fun k => k) d.cache.length ⟨Nat.le_refl _, by rw [List.take_length]⟩ ?_ ?_
      · refine Weak_over hw kp_refl rfl ?_ ?_ <;> simp +decide only [go_sem, hd.ptr]
      · rintro k ⟨hk, hi⟩
        cases k with
        | zero =>
          cases hf : findN at_ d.stays 0 with
          | none =>
            have e : rd d at_ = zeros := by unfold rd stayN; rw [← hi, hf]; rfl
            repeat' (first
             |with_reducible first|refine vSq fun K hK=>?_|refine vRg ?_|refine vBl ?_|refine vSc ?_|refine vIf ?_|refine vSk ?_|refine vEx ?_|refine vRt ?_
             |(with_reducible first|refine gNt (fun h=>?_) (fun h=>?_)|refine gCs (fun h=>?_) (fun h=>?_))<;>(try simp only[h])
             |refine C_pure ke rfl rfl (fun k => (hab _ (Nat.le_add_right _ _)).2 k) ?_
             |with_reducible first|(refine hK _ ?_;clear hK K)|(clear hK K;refine hK _ ?_;clear hK K)|(clear hK K;clear hK K;refine hK _ ?_;clear hK K)|(clear hK K;clear hK K;clear hK K;refine hK _ ?_;clear hK K)
             |(with_reducible refine todo ?_;simp +decide only[go_sem, hid, encDk, mapOf_mpr hd.m, mfind_N, hf]))
            rw [e]
            exact RetR_same rfl wk_pair oks_pair hw kp_refl (fun _ _ => rfl)
          | some r =>
            have e : rd d at_ = r.2 := by unfold rd stayN; rw [← hi, hf]; rfl
            repeat' (first
             |with_reducible first|refine vSq fun K hK=>?_|refine vRg ?_|refine vBl ?_|refine vSc ?_|refine vIf ?_|refine vSk ?_|refine vEx ?_|refine vRt ?_
             |(with_reducible first|refine gNt (fun h=>?_) (fun h=>?_)|refine gCs (fun h=>?_) (fun h=>?_))<;>(try simp only[h])
             |with_reducible first|(refine hK _ ?_;clear hK K)|(clear hK K;refine hK _ ?_;clear hK K)|(clear hK K;clear hK K;refine hK _ ?_;clear hK K)|(clear hK K;clear hK K;clear hK K;refine hK _ ?_;clear hK K)
             |(with_reducible refine todo ?_;simp +decide only[go_sem, hid, encDk, mapOf_mpr hd.m, mfind_N, hf]))
            rw [e]
            exact RetR_same rfl wk_pair oks_pair hw kp_refl (fun _ _ => rfl)
        | succ k =>
          have h0 : (0 ≤ bk (k + 1)) = True := eq_true (by unfold bk; omega)
          have h1 : (bk (k + 1)).toNat = k := by unfold bk; omega
          have h2 : IntKind.i64.wrap (bk (k + 1) - 1) = bk k := by unfold bk; rw [Go.IntWalk.i64_in _ (by omega)]; omega
          have h3 : d.cache[k]? = some d.cache[k] := List.getElem?_eq_getElem hk
          rw [List.take_add_one, h3, Option.toList_some, lastW_snoc] at hi
          generalize d.cache[k] = x at *
          by_cases hx : x.1 = at_
          · have hx' : (x.1 == at_) = true := by simpa using hx
            rw [if_pos hx] at hi
            have e : rd d at_ = x.2 := by unfold rd; rw [← hi]
            repeat' (first
             |with_reducible first|refine vSq fun K hK=>?_|refine vRg ?_|refine vBl ?_|refine vSc ?_|refine vIf ?_|refine vSk ?_|refine vEx ?_|refine vRt ?_
             |(with_reducible first|refine gNt (fun h=>?_) (fun h=>?_)|refine gCs (fun h=>?_) (fun h=>?_))<;>(try simp only[h])
             |with_reducible first|(refine hK _ ?_;clear hK K)|(clear hK K;refine hK _ ?_;clear hK K)|(clear hK K;clear hK K;refine hK _ ?_;clear hK K)|(clear hK K;clear hK K;clear hK K;refine hK _ ?_;clear hK K)
             |(with_reducible refine todo ?_;simp +decide only[go_sem, hid, encDk, h0, h1, h3, hx']))
            rw [e]
            exact RetR_same rfl wk_pair oks_pair hw kp_refl (fun _ _ => rfl)
          · have hx' : (x.1 == at_) = false := by simpa using hx
            rw [if_neg hx] at hi
            repeat' (first
             |with_reducible first|refine vSq fun K hK=>?_|refine vRg ?_|refine vBl ?_|refine vSc ?_|refine vIf ?_|refine vSk ?_|refine vEx ?_|refine vRt ?_
             |(with_reducible first|refine gNt (fun h=>?_) (fun h=>?_)|refine gCs (fun h=>?_) (fun h=>?_))<;>(try simp only[h])
             |with_reducible first|(refine hK _ ?_;clear hK K)|(clear hK K;refine hK _ ?_;clear hK K)|(clear hK K;clear hK K;refine hK _ ?_;clear hK K)|(clear hK K;clear hK K;clear hK K;refine hK _ ?_;clear hK K)
             |(with_reducible refine todo ?_;simp +decide only[go_sem, hid, encDk, h0, h1, h3, hx', h2]))
            refine ⟨⟨k, by omega, hi⟩, Weak_over hw kp_refl rfl ?_ ?_, by show k < k + 1; omega⟩ <;> simp +decide only [go_sem, hd.ptr]
  · rw [if_neg hr]
    have hr2 : (dkRight d at_ != 0) = true := by simpa using hr
    repeat' (first
     |with_reducible first|refine vSq fun K hK=>?_|refine vRg ?_|refine vBl ?_|refine vSc ?_|refine vIf ?_|refine vSk ?_|refine vEx ?_|refine vRt ?_
     |(with_reducible first|refine gNt (fun h=>?_) (fun h=>?_)|refine gCs (fun h=>?_) (fun h=>?_))<;>(try simp only[h])
     |refine C_call rfl kr rfl (Above_mono hab (by omega)) ?_
     |with_reducible first|(refine hK _ ?_;clear hK K)|(clear hK K;refine hK _ ?_;clear hK K)|(clear hK K;clear hK K;refine hK _ ?_;clear hK K)|(clear hK K;clear hK K;clear hK K;refine hK _ ?_;clear hK K)
     |(with_reducible refine todo ?_;simp +decide only[go_sem, hr2]))
    exact RetR_same rfl wk_pair oks_pair hw kp_refl (fun _ _ => rfl)
end disk
end Go.Proofs

namespace Go.Proofs
open Go.PW
def isNew (o : Oper) : Bool := match o.op, o.dst with
  | .alloc _, some _ => true
  | .box _ _, some _ => true
  | _, _ => false
theorem isNew_not {off : Nat} {o : Oper} (h : isNew o = false) : newId off o = none := by
  unfold isNew at h
  unfold newId
  split
  · rename_i e1 e2; rw [e1, e2] at h; cases h
  · rename_i e1 e2; rw [e1, e2] at h; cases h
  · rfl
def noNew : List Oper → Bool
  | [] => true
  | o :: l => !isNew o && noNew l
@[go_sem] theorem new_nil {off : Nat} : ∀ {l : List Oper} (_ : noNew l = true), List.filterMap (newId off) l = []
  | [], _ => rfl
  | o :: l, h => by
    have h' : (!isNew o) = true ∧ noNew l = true := by simpa only [noNew, Bool.and_eq_true] using h
    rw [List.filterMap_cons, isNew_not (by simpa using h'.1)]
    exact new_nil h'.2
@[go_sem] theorem beq01 : ((0 : Nat) == 1) = false := rfl
@[go_sem] theorem beq11 : ((1 : Nat) == 1) = true := rfl
@[go_sem] theorem nil_contains {i : Nat} : ([] : List Nat).contains i = false := rfl
theorem Try.appW : AppT Try.prog 48 72 2 24 := ⟨Try.underlying48, Try.cl72, Try.by72, Try.zo72, by decide, by decide⟩
def pad (s : List UInt8) : List UInt8 := s ++ zeros.drop s.length
def wrD (d : Dk) (k : Int) (s : List UInt8) : Dk := { d with left := IntKind.i64.wrap (d.left - 1), cache := d.cache ++ [(k, pad s)], writes := IntKind.i64.wrap (d.writes + 1) }
def writeE (d : Dk) (k : Int) (s : List UInt8) : Int := if dkRight d k ≠ 0 then dkRight d k else if 128 < s.length then 19 else if burnt d = true then 6 else 0
section disk
variable {H : HMap} {A : AMap} {id : Nat} {κm κc : Tok} {d : Dk}
theorem DkAt.ok (hm : A κm ≠ none) (hc : A κc ≠ none) : ∀ c ∈ encDk κm κc d, c.ok (fun i => H i ≠ none) (fun κ => A κ ≠ none) := fun c h => by
  simp only [encDk, List.mem_cons, List.not_mem_nil, or_false] at h
  rcases h with rfl | rfl | rfl | rfl | rfl | rfl | rfl <;> first | exact True.intro | exact hm | exact hc
theorem DkAt.ret {P : Program} {fn : Func} {v p : PV} {S : St} {d' : Dk} {A' : AMap} (hw : Wf H A) (hd : DkAt H A id κm κc d) (hp : resPVs P S fn.results.toList = some p) (hv : PV.wk (upd H id (some (encDk κm κc d'))) S.A A' v p) (hok : v.oks (fun i => upd H id (some (encDk κm κc d')) i ≠ none) (fun κ => A' κ ≠ none))
    (h1 : S.H id = some (encDk κm κc d')) (h2 : ∀ i, i ≠ id → S.H i = H i) (h3 : S.A = A') (h4 : ∀ κ, A κ ≠ none → A' κ ≠ none) : RetR P fn H A v (upd H id (some (encDk κm κc d'))) A' S := by
  subst h3
  have ok := DkAt.ok (H := upd H id (some (encDk κm κc d'))) (d := d') (h4 κm (by rw [hd.m]; simp)) (h4 κc (by rw [hd.c]; simp))
  exact RetR_set hp hv hok hw (by rw [hd.h]; simp) h1 (wkC_same fun c hcc => ok_mono (fun _ h => h) (fun κ h => ⟨h, rfl⟩) (ok c hcc)) ok (fun i hi _ => h2 i hi) (fun κ => .inr (.inl rfl)) (fun κ h => ⟨h4 κ h, rfl⟩)
theorem upd_keep {A : AMap} {κ : Tok} {x : Arr} : ∀ τ, A τ ≠ none → upd A κ (some x) τ ≠ none := fun τ h => by
  by_cases e : τ = κ
  · subst e; rw [upd_same]; simp
  · rw [upd_other _ _ e]; exact h
theorem szd_enc (l : List (Int × List UInt8)) : Szd 2 (l.map encW) := fun e he => by
  obtain ⟨w, _, rfl⟩ := List.mem_map.1 he
  rfl
set_option maxRecDepth 8000 in
set_option maxHeartbeats 16000000 in
theorem Try.kWriteNo (off : Nat) (hw : Wf H A) (hd : DkAt H A id κm κc d) (k : Int) (s : List UInt8) (hn : 0 < d.n) (he : writeE d k s ≠ 0) :
    EffOK Try.prog 56 off H A [.c (.ptr id 0), pD (.lit (.int .i64 k)), pD (dS s)] (pD (.lit (.int .i64 (writeE d k s)))) H A := by
  refine effr_ok (E := envOf Try.prog [63, 74] off [] []) (envOf_ok Try.mixed) Try.func56 rfl Try.call56 (by kernel_rfl) (by exact Nat.le_of_ble_eq_true rfl) (fun hab => ?_)
  have kr := Try.kDkRight (off + 1000) hw hd k hn
  have kb := Try.kBurnt (off + 1000) hw hd
  unfold writeE at he ⊢
  by_cases hr : dkRight d k = 0
  · rw [if_neg (by simpa using hr)] at he ⊢
    rw [hr] at kr
    by_cases hs : 128 < s.length
    · rw [if_pos hs]
      have hs' : ((128 : Int) < (s.length : Int)) = True := eq_true (by omega)
      repeat' (first
       |with_reducible first|refine vSq fun K hK=>?_|refine vRg ?_|refine vBl ?_|refine vSc ?_|refine vIf ?_|refine vSk ?_|refine vEx ?_|refine vRt ?_
       |(with_reducible first|refine gNt (fun h=>?_) (fun h=>?_)|refine gCs (fun h=>?_) (fun h=>?_))<;>(try simp only[h])
       |refine C_call rfl kr rfl (Above_mono hab (by omega)) ?_
       |with_reducible first|(refine hK _ ?_;clear hK K)|(clear hK K;refine hK _ ?_;clear hK K)|(clear hK K;clear hK K;refine hK _ ?_;clear hK K)|(clear hK K;clear hK K;clear hK K;refine hK _ ?_;clear hK K)
       |(with_reducible refine todo ?_;simp +decide only[go_sem, zne, hs']))
      exact RetR_same rfl (by simp +decide only [go_sem]) True.intro hw kp_refl (fun _ _ => rfl)
    · rw [if_neg hs] at he ⊢
      have hs' : ((128 : Int) < (s.length : Int)) = False := eq_false (by omega)
      cases hb : burnt d with
      | false => rw [hb] at he; exact absurd rfl he
      | true =>
        rw [hb] at kb
        repeat' (first
         |with_reducible first|refine vSq fun K hK=>?_|refine vRg ?_|refine vBl ?_|refine vSc ?_|refine vIf ?_|refine vSk ?_|refine vEx ?_|refine vRt ?_
         |(with_reducible first|refine gNt (fun h=>?_) (fun h=>?_)|refine gCs (fun h=>?_) (fun h=>?_))<;>(try simp only[h])
         |refine C_call rfl kr rfl (Above_mono hab (by omega)) ?_
         |refine C_call rfl kb rfl (Above_mono hab (by omega)) ?_
         |with_reducible first|(refine hK _ ?_;clear hK K)|(clear hK K;refine hK _ ?_;clear hK K)|(clear hK K;clear hK K;refine hK _ ?_;clear hK K)|(clear hK K;clear hK K;clear hK K;refine hK _ ?_;clear hK K)
         |(with_reducible refine todo ?_;simp +decide only[go_sem, zne, hs']))
        exact RetR_same rfl (by simp +decide only [go_sem]) True.intro hw kp_refl (fun _ _ => rfl)
  · rw [if_pos (by simpa using hr)]
    have hr2 : (dkRight d k != 0) = true := by simpa using hr
    repeat' (first
     |with_reducible first|refine vSq fun K hK=>?_|refine vRg ?_|refine vBl ?_|refine vSc ?_|refine vIf ?_|refine vSk ?_|refine vEx ?_|refine vRt ?_
     |(with_reducible first|refine gNt (fun h=>?_) (fun h=>?_)|refine gCs (fun h=>?_) (fun h=>?_))<;>(try simp only[h])
     |refine C_call rfl kr rfl (Above_mono hab (by omega)) ?_
     |with_reducible first|(refine hK _ ?_;clear hK K)|(clear hK K;refine hK _ ?_;clear hK K)|(clear hK K;clear hK K;refine hK _ ?_;clear hK K)|(clear hK K;clear hK K;clear hK K;refine hK _ ?_;clear hK K)
     |(with_reducible refine todo ?_;simp +decide only[go_sem, hr2]))
    exact RetR_same rfl (by simp +decide only [go_sem]) True.intro hw kp_refl (fun _ _ => rfl)
set_option maxRecDepth 8000 in
set_option maxHeartbeats 16000000 in
theorem Try.kWrite (off : Nat) (hw : Wf H A) (hd : DkAt H A id κm κc d) (k : Int) (s : List UInt8) (hn : 0 < d.n) (hl : d.cache.length ≤ 1000000) (he : writeE d k s = 0) :
    EffOK Try.prog 56 off H A [.c (.ptr id 0), pD (.lit (.int .i64 k)), pD (dS s)] (pD (.lit (.int .i64 0))) (upd H id (some (encDk κm κc (wrD d k s)))) (upd A κc (some (.co 2 (d.cache.length + 1)))) := by
  refine effr_ok (E := envOf Try.prog [63, 74] off [] []) (envOf_ok Try.mixed) Try.func56 rfl Try.call56 (by kernel_rfl) (by exact Nat.le_of_ble_eq_true rfl) (fun hab => ?_)
  have kr := Try.kDkRight (off + 1000) hw hd k hn
  have kb := Try.kBurnt (off + 1000) hw hd
  have ke := Try.kEmpty
  have hid := hd.h
  unfold encDk at hid
  have hr : dkRight d k = 0 := by unfold writeE at he; by_cases h : dkRight d k = 0; exact h; rw [if_pos h] at he; exact he
  unfold writeE at he
  rw [if_neg (by simpa using hr)] at he
  have hs : s.length ≤ 128 := by by_cases h : 128 < s.length; (rw [if_pos h] at he; cases he); omega
  rw [if_neg (by omega)] at he
  have hb : burnt d = false := by cases h : burnt d; rfl; rw [h] at he; cases he
  rw [hr] at kr
  rw [hb] at kb
  have hs' : ((128 : Int) < (s.length : Int)) = False := eq_false (by omega)
  have hzt : List.take (128 - s.length) (zeros.drop s.length) = zeros.drop s.length := List.take_of_length_le (by rw [List.length_drop, zeros_len]; omega)
  have hzl : (zeros.drop s.length).length = 128 - s.length := by rw [List.length_drop, zeros_len]
  have hsz : (s.length + (128 - s.length) ≤ 9223372036854775807) = True := eq_true (by omega)
  have ha : A κc = some (.co 2 (d.cache.map encW).length) := by rw [List.length_map]; exact hd.c
  repeat' (first
   |with_reducible first|refine vSq fun K hK=>?_|refine vRg ?_|refine vBl ?_|refine vSc ?_|refine vIf ?_|refine vSk ?_|refine vEx ?_|refine vRt ?_
   |(with_reducible first|refine gNt (fun h=>?_) (fun h=>?_)|refine gCs (fun h=>?_) (fun h=>?_))<;>(try simp only[h])
   |refine C_call rfl kr rfl (Above_mono hab (by omega)) ?_
   |refine C_call rfl kb rfl (Above_mono hab (by omega)) ?_
   |refine C_pure ke rfl rfl (fun k => (hab _ (Nat.le_add_right _ _)).2 k) ?_
   |(refine W_slcS (a := zeros) (l := s.length) (h := 128) Try.underlying9 rfl (by simp [optNat, natOf?, intOf?]) (by simp [optNat, zeros_len]) (by omega) (by rw [zeros_len]; omega) ?_)
   |(refine W_own Try.appW rfl (szd_enc _) (szOne rfl) (by simp only [List.length_map, List.length_singleton]; omega) ha ?_)
   |with_reducible first|(refine hK _ ?_;clear hK K)|(clear hK K;refine hK _ ?_;clear hK K)|(clear hK K;clear hK K;refine hK _ ?_;clear hK K)|(clear hK K;clear hK K;clear hK K;refine hK _ ?_;clear hK K)
   |(with_reducible refine todo ?_;simp +decide only[go_sem, zne, hs', hid, hzt, hzl, hsz]))
  refine DkAt.ret hw hd rfl (by simp +decide only [go_sem]) True.intro ?_ ?_ ?_ upd_keep
  · simp +decide only [go_sem, encDk, wrD, pad]
  · intro i hi
    simp +decide only [go_sem, hi]
  · simp +decide only [go_sem]
end disk
end Go.Proofs

namespace Go.Proofs
open Go.PW
def putN (m : List (Int × List UInt8)) (k : Int) (s : List UInt8) : List (Int × List UInt8) := match findN k m 0 with
  | some r => m.set r.1 (k, s)
  | none => m ++ [(k, s)]
def delN (m : List (Int × List UInt8)) (k : Int) : List (Int × List UInt8) := match findN k m 0 with
  | some r => m.eraseIdx r.1
  | none => m
def layN (m : List (Int × List UInt8)) (w : Int × List UInt8) : List (Int × List UInt8) := if w.2 = zeros then delN m w.1 else putN m w.1 w.2
theorem encNS_put (m : List (Int × List UInt8)) (k : Int) (s : List UInt8) : laidM (encNS m) (.int .i64 k) (.string ⟨s.toArray⟩) ((findN k m 0).map fun r => (r.1, .string ⟨r.2.toArray⟩)) = encNS (putN m k s) := by
  unfold putN
  cases findN k m 0 with
  | none => simp [laidM, encNS]
  | some r => simp [laidM, encNS, List.map_set]
theorem map_erase {α β : Type} (f : α → β) : ∀ (l : List α) (i : Nat), (l.map f).eraseIdx i = (l.eraseIdx i).map f
  | [], _ => rfl
  | _ :: _, 0 => rfl
  | x :: l, i + 1 => by simp [List.eraseIdx_cons_succ, map_erase f l i]
theorem encNS_del (m : List (Int × List UInt8)) (k : Int) : goneM (encNS m) ((findN k m 0).map fun r => (r.1, .string ⟨r.2.toArray⟩)) = encNS (delN m k) := by
  unfold delN
  cases findN k m 0 with
  | none => rfl
  | some r => exact map_erase _ _ _
theorem RetR_arr {P : Program} {fn : Func} {H : HMap} {A A' : AMap} {v p : PV} {S : St} (hp : resPVs P S fn.results.toList = some p) (hv : PV.wk H S.A A' v p) (hok : v.oks (fun i => H i ≠ none) (fun κ => A' κ ≠ none)) (hw : Wf H A)
    (hH : ∀ i, H i ≠ none → S.H i = H i) (h3 : S.A = A') (h4 : ∀ κ, A κ ≠ none → A' κ ≠ none) : RetR P fn H A v H A' S := by
  subst h3
  exact RetR_of hp hv hok (fun i cs c hi hc => ok_mono (fun _ h => h) h4 (hw i cs c hi hc)) (fun i cs hi => ⟨cs, by rw [hH i (by rw [hi]; simp), hi], wkC_same fun c hc => ok_mono (fun _ h => h) (fun κ h => ⟨h4 κ h, rfl⟩) (hw i cs c hi hc)⟩) (fun κ => .inr (.inl rfl)) (fun _ h => h) h4
def wPV (w : Int × List UInt8) : PV := .agg [.d (.lit (.int .i64 w.1)), .d (dS w.2)]
section disk
variable {H : HMap} {A : AMap} {id : Nat} {κm κc : Tok} {d : Dk}
set_option maxRecDepth 8000 in
set_option maxHeartbeats 16000000 in
theorem Try.kLay (off : Nat) (hw : Wf H A) (hd : DkAt H A id κm κc d) (w : Int × List UInt8) :
    EffOK Try.prog 38 off H A [.c (.ptr id 0), wPV w] (.c .any) H (upd A κm (some (.mp (encNS (layN d.stays w))))) := by
  refine effr_ok (E := envOf Try.prog [] off [] []) (envOf_ok Try.mixed) Try.func38 rfl Try.call38 (by kernel_rfl) (by exact Nat.le_of_ble_eq_true rfl) (fun hab => ?_)
  have hid := hd.h
  unfold encDk at hid
  have ke := Try.kEmpty
  have hne : id ≠ off + 3 := fun e => by rw [e, (hab (off + 3) (by omega)).1] at hid; cases hid
  unfold layN wPV
  cases hz : (w.2 == zeros) with
  | true =>
    rw [if_pos (by simpa using hz), ← encNS_del]
    repeat' (first
     |with_reducible first|refine vSq fun K hK=>?_|refine vRg ?_|refine vBl ?_|refine vSc ?_|refine vIf ?_|refine vSk ?_|refine vEx ?_|refine vRt ?_
     |(with_reducible first|refine gNt (fun h=>?_) (fun h=>?_)|refine gCs (fun h=>?_) (fun h=>?_))<;>(try simp only[h])
     |refine C_pure ke rfl rfl (fun k => (hab _ (Nat.le_add_right _ _)).2 k) ?_
     |refine And.intro (hab _ (Nat.le_add_right _ _)).1 ?_
     |with_reducible first|(refine hK _ ?_;clear hK K)|(clear hK K;refine hK _ ?_;clear hK K)|(clear hK K;clear hK K;refine hK _ ?_;clear hK K)|(clear hK K;clear hK K;clear hK K;refine hK _ ?_;clear hK K)
     |(with_reducible refine todo ?_;simp +decide only[go_sem, hid, hne, hz, mapOf_mpr hd.m, mfind_N]))
    refine RetR_arr rfl True.intro True.intro hw ?_ ?_ upd_keep
    · intro i hi
      have : i ≠ off + 3 := fun e => by rw [e] at hi; exact hi (hab _ (Nat.le_add_right _ _)).1
      simp +decide only [go_sem, this]
    · simp +decide only [go_sem]
  | false =>
    rw [if_neg (by simpa using hz), ← encNS_put]
    repeat' (first
     |with_reducible first|refine vSq fun K hK=>?_|refine vRg ?_|refine vBl ?_|refine vSc ?_|refine vIf ?_|refine vSk ?_|refine vEx ?_|refine vRt ?_
     |(with_reducible first|refine gNt (fun h=>?_) (fun h=>?_)|refine gCs (fun h=>?_) (fun h=>?_))<;>(try simp only[h])
     |refine C_pure ke rfl rfl (fun k => (hab _ (Nat.le_add_right _ _)).2 k) ?_
     |refine And.intro (hab _ (Nat.le_add_right _ _)).1 ?_
     |with_reducible first|(refine hK _ ?_;clear hK K)|(clear hK K;refine hK _ ?_;clear hK K)|(clear hK K;clear hK K;refine hK _ ?_;clear hK K)|(clear hK K;clear hK K;clear hK K;refine hK _ ?_;clear hK K)
     |(with_reducible refine todo ?_;simp +decide only[go_sem, hid, hne, hz, mapOf_mpr hd.m, mfind_N]))
    refine RetR_arr rfl True.intro True.intro hw ?_ ?_ upd_keep
    · intro i hi
      have : i ≠ off + 3 := fun e => by rw [e] at hi; exact hi (hab _ (Nat.le_add_right _ _)).1
      simp +decide only [go_sem, this]
    · simp +decide only [go_sem]
end disk
end Go.Proofs
