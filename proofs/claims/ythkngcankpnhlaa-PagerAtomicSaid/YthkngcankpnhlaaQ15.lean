/-
  Parts of the proof, laid together: PwCf, PwDa, PwDb.
-/
import Derived.Test.YthkngcankpnhlaaQ14

namespace Go.Proofs
open Go.PW
set_option maxRecDepth 8000 in
set_option maxHeartbeats 4000000 in
theorem Try.kOne (n : Nat) : PureOK Try.prog 78 [pD (.lit (.int .u64 n))] (.one (.d (dS [UInt8.ofNat (n % 256)]))) := by
  refine Try.pure (md := []) Try.func78 rfl Try.call78 (by kernel_rfl) (by rfl) (by exact Nat.le_of_ble_eq_true rfl) ?_
  have h8 := u8_nat n
  have hone : [[D.lit (.int .u8 ((n % 256 : Nat) : Int))]] = bytesEls [UInt8.ofNat (n % 256)] := by rw [bytesEls_one _ (by omega) (by omega), Int.toNat_natCast]
  repeat' (first
   |with_reducible first|refine vSq fun K hK=>?_|refine vRg ?_|refine vBl ?_|refine vSc ?_|refine vIf ?_|refine vSk ?_|refine vEx ?_|refine vRt ?_
   |(with_reducible first|refine gNt (fun h=>?_) (fun h=>?_)|refine gCs (fun h=>?_) (fun h=>?_))<;>(try simp only[h])
   |with_reducible first|(refine hK _ ?_;clear hK K)|(clear hK K;refine hK _ ?_;clear hK K)|(clear hK K;clear hK K;refine hK _ ?_;clear hK K)|(clear hK K;clear hK K;clear hK K;refine hK _ ?_;clear hK K)
   |(with_reducible refine todo ?_;simp +decide only[go_sem, h8, hone]))
  exact Ret_d rfl rfl
def uintK : Nat → Nat → List UInt8
  | 0, n => [UInt8.ofNat (n % 256)]
  | k + 1, n => if n < 128 then [UInt8.ofNat (n % 256)] else UInt8.ofNat ((n % 128 + 128) % 256) :: uintK k (n / 128)
def uintB (n : Nat) : List UInt8 := uintK 10 n
theorem uintK_len : ∀ k n, (uintK k n).length ≤ k + 1
  | 0, n => by simp [uintK]
  | k + 1, n => by
    unfold uintK
    split
    · simp
    · rw [List.length_cons]; have := uintK_len k (n / 128); omega
theorem uintB_len (n : Nat) : (uintB n).length ≤ 11 := uintK_len 10 n
theorem uintK_small {k n : Nat} (h : n < 128) : uintK k n = [UInt8.ofNat (n % 256)] := by
  cases k with
  | zero => rfl
  | succ k => unfold uintK; rw [if_pos h]
theorem pow_128 (k : Nat) : 128 ^ (k + 1) = 128 * 128 ^ k := by rw [Nat.pow_succ, Nat.mul_comm]
set_option maxRecDepth 8000 in
set_option maxHeartbeats 8000000 in
theorem Try.kUint (n : Nat) (hn : n < 18446744073709551616) : PureOK Try.prog 57 [pD (.lit (.int .u64 n))] (.one (.d (dS (uintB n)))) := by
  refine Try.pure (md := []) Try.func57 rfl Try.call57 (by kernel_rfl) (by rfl) (by exact Nat.le_of_ble_eq_true rfl) ?_
  repeat' (first
   |with_reducible first|refine vSq fun K hK=>?_|refine vRg ?_|refine vBl ?_|refine vSc ?_|refine vIf ?_|refine vSk ?_|refine vEx ?_|refine vRt ?_
   |(with_reducible first|refine gNt (fun h=>?_) (fun h=>?_)|refine gCs (fun h=>?_) (fun h=>?_))<;>(try simp only[h])
   |with_reducible first|(refine hK _ ?_;clear hK K)|(clear hK K;refine hK _ ?_;clear hK K)|(clear hK K;clear hK K;refine hK _ ?_;clear hK K)|(clear hK K;clear hK K;clear hK K;refine hK _ ?_;clear hK K)
   |(with_reducible refine todo ?_;simp +decide only[go_sem]))
  refine VC_while (ι := Nat × Nat × List UInt8) (fun x => x.2.2 ++ uintK x.1 x.2.1 = uintB n ∧ x.2.1 < 128 ^ x.1 ∧ x.2.2.length + x.1 ≤ 10 ∧ x.2.1 < 18446744073709551616)
    (fun x => frame [(0, pD (.lit (.int .u64 x.2.1))), (3, pD (dS x.2.2))] [] []) (fun x => x.1) (10, n, []) ⟨rfl, by show n < 128 ^ 10; omega, by simp, hn⟩ ?_ ?_
  · refine Weak_frame ?_ ?_ ?_ <;> simp +decide only [go_sem]
  · rintro ⟨k, m, s⟩ ⟨h1, h2, h3, h4⟩
    simp only at h1 h2 h3 h4
    rcases Nat.lt_or_ge m 128 with hm | hm
    · have hd : ((128 : Int) ≤ (m : Int)) = False := eq_false (by omega)
      have ko := Try.kOne m
      rw [uintK_small hm] at h1
      have hsz : (s.length + 1 ≤ 9223372036854775807) = True := eq_true (by omega)
      repeat' (first
       |with_reducible first|refine vSq fun K hK=>?_|refine vRg ?_|refine vBl ?_|refine vSc ?_|refine vIf ?_|refine vSk ?_|refine vEx ?_|refine vRt ?_
       |(with_reducible first|refine gNt (fun h=>?_) (fun h=>?_)|refine gCs (fun h=>?_) (fun h=>?_))<;>(try simp only[h])
       |refine C_pure ko rfl rfl (fun _ => rfl) ?_
       |with_reducible first|(refine hK _ ?_;clear hK K)|(clear hK K;refine hK _ ?_;clear hK K)|(clear hK K;clear hK K;refine hK _ ?_;clear hK K)|(clear hK K;clear hK K;clear hK K;refine hK _ ?_;clear hK K)
       |(with_reducible refine todo ?_;simp +decide only[go_sem, hd, hsz]))
      rw [← h1]
      exact Ret_d rfl rfl
    · have hd : ((128 : Int) ≤ (m : Int)) = True := eq_true (by omega)
      cases k with
      | zero => simp at h2; omega
      | succ k =>
        have ht : Int.tmod (m : Int) 128 = ((m % 128 : Nat) : Int) := tmod_nat m 128
        have hw : IntKind.u64.wrap (((m % 128 : Nat) : Int) + 128) = ((m % 128 + 128 : Nat) : Int) := by rw [Go.IntWalk.u64_in _ (by omega)]; omega
        have ko := Try.kOne (m % 128 + 128)
        have hsz : (s.length + 1 ≤ 9223372036854775807) = True := eq_true (by omega)
        have hsh : iShr .u64 (m : Int) 7 = ((m / 128 : Nat) : Int) := by
          show Int.fdiv (m : Int) (2 ^ min 7 64) = _
          rw [show (2 : Int) ^ min 7 64 = ((128 : Nat) : Int) from rfl, Int.fdiv_eq_ediv_of_nonneg _ (by omega)]
          rfl
        have hu : uintK (k + 1) m = UInt8.ofNat ((m % 128 + 128) % 256) :: uintK k (m / 128) := by
          show (if m < 128 then _ else _) = _
          rw [if_neg (by omega)]
        repeat' (first
         |with_reducible first|refine vSq fun K hK=>?_|refine vRg ?_|refine vBl ?_|refine vSc ?_|refine vIf ?_|refine vSk ?_|refine vEx ?_|refine vRt ?_
         |(with_reducible first|refine gNt (fun h=>?_) (fun h=>?_)|refine gCs (fun h=>?_) (fun h=>?_))<;>(try simp only[h])
         |refine C_pure ko rfl rfl (fun _ => rfl) ?_
         |with_reducible first|(refine hK _ ?_;clear hK K)|(clear hK K;refine hK _ ?_;clear hK K)|(clear hK K;clear hK K;refine hK _ ?_;clear hK K)|(clear hK K;clear hK K;clear hK K;refine hK _ ?_;clear hK K)
         |(with_reducible refine todo ?_;simp +decide only[go_sem, hd, ht, hw, hsz, hsh]))
        refine ⟨⟨(k, m / 128, s ++ [UInt8.ofNat ((m % 128 + 128) % 256)]), ⟨?_, ?_, ?_, ?_⟩⟩, Weak_frame ?_ ?_ ?_, by show k < k + 1; omega⟩
        · rw [← h1, hu]; simp
        · rw [pow_128] at h2
          exact Nat.div_lt_of_lt_mul h2
        · simp only [List.length_append, List.length_singleton]; omega
        · simp only; omega
        · simp +decide only [go_sem]
        · simp +decide only [go_sem]
        · simp +decide only [go_sem]
set_option maxRecDepth 8000 in
set_option maxHeartbeats 4000000 in
theorem Try.kNumber (n : Nat) (hn : n < 9223372036854775808) : PureOK Try.prog 76 [pD (.lit (.int .i64 n))] (.one (.d (dS (uintB n)))) := by
  refine Try.pure (md := []) Try.func76 rfl Try.call76 (by kernel_rfl) (by rfl) (by exact Nat.le_of_ble_eq_true rfl) ?_
  have hw : IntKind.u64.wrap (n : Int) = (n : Int) := Go.IntWalk.u64_in _ (by omega)
  have ku := Try.kUint n (by omega)
  repeat' (first
   |with_reducible first|refine vSq fun K hK=>?_|refine vRg ?_|refine vBl ?_|refine vSc ?_|refine vIf ?_|refine vSk ?_|refine vEx ?_|refine vRt ?_
   |(with_reducible first|refine gNt (fun h=>?_) (fun h=>?_)|refine gCs (fun h=>?_) (fun h=>?_))<;>(try simp only[h])
   |refine C_pure ku rfl rfl (fun _ => rfl) ?_
   |with_reducible first|(refine hK _ ?_;clear hK K)|(clear hK K;refine hK _ ?_;clear hK K)|(clear hK K;clear hK K;refine hK _ ?_;clear hK K)|(clear hK K;clear hK K;clear hK K;refine hK _ ?_;clear hK K)
   |(with_reducible refine todo ?_;simp +decide only[go_sem, hw]))
  exact Ret_d rfl rfl
def sum4 (s : List UInt8) : List UInt8 := sumB (crcOf s) 4
theorem sum4_len (s : List UInt8) : (sum4 s).length = 4 := sumB_len _ 4
set_option maxRecDepth 8000 in
set_option maxHeartbeats 4000000 in
theorem Try.kSum (s : List UInt8) (hl : s.length ≤ 1073741824) : PureOK Try.prog 66 [pD (dS s)] (.one (.d (dS (sum4 s)))) := by
  refine Try.pure (md := []) Try.func66 rfl Try.call66 (by kernel_rfl) (by rfl) (by exact Nat.le_of_ble_eq_true rfl) ?_
  have kp := Try.kPut s hl
  have hpl := crcPut_len s
  have hdr : ((crcPut s).drop s.length).take (s.length + 4 - s.length) = sum4 s := by
    have h1 : (crcPut s).drop s.length = sum4 s := by unfold crcPut sum4; rw [List.drop_left]
    rw [h1, List.take_of_length_le (by rw [sum4_len]; omega)]
  repeat' (first
   |with_reducible first|refine vSq fun K hK=>?_|refine vRg ?_|refine vBl ?_|refine vSc ?_|refine vIf ?_|refine vSk ?_|refine vEx ?_|refine vRt ?_
   |(with_reducible first|refine gNt (fun h=>?_) (fun h=>?_)|refine gCs (fun h=>?_) (fun h=>?_))<;>(try simp only[h])
   |refine C_pure kp rfl rfl (fun _ => rfl) ?_
   |refine W_slcS (a := crcPut s) (l := s.length) (h := s.length + 4) Try.underlying9 rfl (by simp [optNat, natOf?, intOf?]) (by simp [optNat, hpl]) (by omega) (by omega) ?_
   |with_reducible first|(refine hK _ ?_;clear hK K)|(clear hK K;refine hK _ ?_;clear hK K)|(clear hK K;clear hK K;refine hK _ ?_;clear hK K)|(clear hK K;clear hK K;clear hK K;refine hK _ ?_;clear hK K)
   |(with_reducible refine todo ?_;simp +decide only[go_sem, hdr]))
  exact Ret_d rfl rfl
def behindL (s h : List UInt8) : Option (List UInt8) := if s.take h.length = h then some (s.drop h.length) else none
def behRV (s h : List UInt8) : RV := match behindL s h with
  | some r => .tup [.d (dS r), .d (.lit (.bool true))]
  | none => .tup [.d (dS s), .d (.lit (.bool false))]
set_option maxRecDepth 8000 in
set_option maxHeartbeats 8000000 in
theorem Try.kBehind (s h : List UInt8) : PureOK Try.prog 70 [pD (dS s), pD (dS h)] (behRV s h) := by
  refine Try.pure (md := []) Try.func70 rfl Try.call70 (by kernel_rfl) (by rfl) (by exact Nat.le_of_ble_eq_true rfl) ?_
  unfold behRV
  rcases Nat.lt_or_ge s.length h.length with hl | hl
  · have e : behindL s h = none := by
      unfold behindL
      rw [if_neg]
      intro e
      have := congrArg List.length e
      rw [List.length_take] at this
      omega
    have hd := int_lt_true hl
    repeat' (first
     |with_reducible first|refine vSq fun K hK=>?_|refine vRg ?_|refine vBl ?_|refine vSc ?_|refine vIf ?_|refine vSk ?_|refine vEx ?_|refine vRt ?_
     |(with_reducible first|refine gNt (fun h=>?_) (fun h=>?_)|refine gCs (fun h=>?_) (fun h=>?_))<;>(try simp only[h])
     |with_reducible first|(refine hK _ ?_;clear hK K)|(clear hK K;refine hK _ ?_;clear hK K)|(clear hK K;clear hK K;refine hK _ ?_;clear hK K)|(clear hK K;clear hK K;clear hK K;refine hK _ ?_;clear hK K)
     |(with_reducible refine todo ?_;simp +decide only[go_sem, hd]))
    rw [e]
    exact Ret_two none rfl (.inl rfl) (.inl rfl)
  · have hd := int_lt_false hl
    have hz : List.drop 0 s = s := rfl
    have ht : List.take (s.length - h.length) (s.drop h.length) = s.drop h.length := List.take_of_length_le (by rw [List.length_drop]; exact Nat.le_refl _)
    cases hq : (s.take h.length == h) with
    | false =>
      have e : behindL s h = none := by unfold behindL; rw [if_neg (by simpa using hq)]
      repeat' (first
       |with_reducible first|refine vSq fun K hK=>?_|refine vRg ?_|refine vBl ?_|refine vSc ?_|refine vIf ?_|refine vSk ?_|refine vEx ?_|refine vRt ?_
       |(with_reducible first|refine gNt (fun h=>?_) (fun h=>?_)|refine gCs (fun h=>?_) (fun h=>?_))<;>(try simp only[h])
       |refine W_slcS (a := s) (l := 0) (h := h.length) Try.underlying9 rfl rfl (by simp [optNat, natOf?, intOf?]) (Nat.zero_le _) hl ?_
       |with_reducible first|(refine hK _ ?_;clear hK K)|(clear hK K;refine hK _ ?_;clear hK K)|(clear hK K;clear hK K;refine hK _ ?_;clear hK K)|(clear hK K;clear hK K;clear hK K;refine hK _ ?_;clear hK K)
       |(with_reducible refine todo ?_;simp +decide only[go_sem, hd, hz, Nat.sub_zero, hq]))
      rw [e]
      exact Ret_two none rfl (.inl rfl) (.inl rfl)
    | true =>
      have e : behindL s h = some (s.drop h.length) := by unfold behindL; rw [if_pos (by simpa using hq)]
      repeat' (first
       |with_reducible first|refine vSq fun K hK=>?_|refine vRg ?_|refine vBl ?_|refine vSc ?_|refine vIf ?_|refine vSk ?_|refine vEx ?_|refine vRt ?_
       |(with_reducible first|refine gNt (fun h=>?_) (fun h=>?_)|refine gCs (fun h=>?_) (fun h=>?_))<;>(try simp only[h])
       |refine W_slcS (a := s) (l := 0) (h := h.length) Try.underlying9 rfl rfl (by simp [optNat, natOf?, intOf?]) (Nat.zero_le _) hl ?_
       |refine W_slcS (a := s) (l := h.length) (h := s.length) Try.underlying9 rfl (by simp [optNat, natOf?, intOf?]) rfl hl (Nat.le_refl _) ?_
       |with_reducible first|(refine hK _ ?_;clear hK K)|(clear hK K;refine hK _ ?_;clear hK K)|(clear hK K;clear hK K;refine hK _ ?_;clear hK K)|(clear hK K;clear hK K;clear hK K;refine hK _ ?_;clear hK K)
       |(with_reducible refine todo ?_;simp +decide only[go_sem, hd, hz, Nat.sub_zero, hq, ht]))
      rw [e]
      exact Ret_two none rfl (.inl rfl) (.inl rfl)
def headL (turn i comes : Nat) : List UInt8 := [76] ++ uintB turn ++ uintB i ++ uintB comes
theorem headL_len (turn i comes : Nat) : (headL turn i comes).length ≤ 34 := by
  have := uintB_len turn; have := uintB_len i; have := uintB_len comes
  simp only [headL, List.length_append, List.length_singleton]
  omega
set_option maxRecDepth 8000 in
set_option maxHeartbeats 4000000 in
theorem Try.kHead (turn i comes : Nat) (h1 : turn < 9223372036854775808) (h2 : i < 9223372036854775808) (h3 : comes < 9223372036854775808) :
    PureOK Try.prog 65 [pD (.lit (.int .i64 turn)), pD (.lit (.int .i64 i)), pD (.lit (.int .i64 comes))] (.one (.d (dS (headL turn i comes)))) := by
  refine Try.pure (md := []) Try.func65 rfl Try.call65 (by kernel_rfl) (by rfl) (by exact Nat.le_of_ble_eq_true rfl) ?_
  have k1 := Try.kNumber turn h1
  have k2 := Try.kNumber i h2
  have k3 := Try.kNumber comes h3
  have l1 := uintB_len turn; have l2 := uintB_len i; have l3 := uintB_len comes
  have e : headL turn i comes = [76] ++ uintB turn ++ uintB i ++ uintB comes := rfl
  generalize uintB turn = a at *
  generalize uintB i = b at *
  generalize uintB comes = c at *
  have hb1 : (1 + a.length ≤ 9223372036854775807) = True := eq_true (by omega)
  have hb2 : (a.length + 1 + b.length ≤ 9223372036854775807) = True := eq_true (by omega)
  have hb3 : (a.length + b.length + 1 + c.length ≤ 9223372036854775807) = True := eq_true (by omega)
  repeat' (first
   |with_reducible first|refine vSq fun K hK=>?_|refine vRg ?_|refine vBl ?_|refine vSc ?_|refine vIf ?_|refine vSk ?_|refine vEx ?_|refine vRt ?_
   |(with_reducible first|refine gNt (fun h=>?_) (fun h=>?_)|refine gCs (fun h=>?_) (fun h=>?_))<;>(try simp only[h])
   |refine C_pure k1 rfl rfl (fun _ => rfl) ?_
   |refine C_pure k2 rfl rfl (fun _ => rfl) ?_
   |refine C_pure k3 rfl rfl (fun _ => rfl) ?_
   |with_reducible first|(refine hK _ ?_;clear hK K)|(clear hK K;refine hK _ ?_;clear hK K)|(clear hK K;clear hK K;refine hK _ ?_;clear hK K)|(clear hK K;clear hK K;clear hK K;refine hK _ ?_;clear hK K)
   |(with_reducible refine todo ?_;simp +decide only[go_sem, hb1, hb2, hb3]))
  rw [e]
  exact Ret_d rfl rfl
end Go.Proofs

namespace Go.Proofs
open Go.PW
section ptrs
variable {P : Program} {T : TypeId} {i o : Nat}
def isPtr (P : Program) (T : TypeId) : Bool := match P.underlying T with
  | some (.pointer _) => true
  | _ => false
attribute [go_sem] isPtr
theorem isPtr_ex (h : isPtr P T = true) : ∃ q, P.underlying T = some (.pointer q) := by
  unfold isPtr at h
  split at h
  case h_1 q e => exact ⟨q, e⟩
  case h_2 => cases h
@[go_sem] theorem B_peql (h : isPtr P T = true) : binS P .eql T (.c (.ptr i o)) (.c (.d (.lit (.pointer none)))) = some (lit (.bool false)) := by
  obtain ⟨q, h⟩ := isPtr_ex h
  show (eqS P T _ _).map _ = _
  simp only [eqS, h, Option.map]
@[go_sem] theorem B_pneq (h : isPtr P T = true) : binS P .neq T (.c (.ptr i o)) (.c (.d (.lit (.pointer none)))) = some (lit (.bool true)) := by
  obtain ⟨q, h⟩ := isPtr_ex h
  show (eqS P T _ _).map _ = _
  simp only [eqS, h, Option.map, Bool.not_false]
end ptrs
structure Dk where
  n : Nat
  stays : List (Int × List UInt8)
  cache : List (Int × List UInt8)
  writes : Int
  flushes : Int
  fused : Bool
  left : Int
def encW (w : Int × List UInt8) : List D := [.lit (.int .i64 w.1), .lit (.string ⟨w.2.toArray⟩)]
attribute [go_sem] encW
def encDk (κm κc : Tok) (d : Dk) : List CV :=
  [.d (.lit (.int .i64 d.n)), .mpr κm, .own κc (d.cache.map encW), .d (.lit (.int .i64 d.writes)), .d (.lit (.int .i64 d.flushes)), .d (.lit (.bool d.fused)), .d (.lit (.int .i64 d.left))]
structure DkAt (H : HMap) (A : AMap) (id : Nat) (κm κc : Tok) (d : Dk) : Prop where
  h : H id = some (encDk κm κc d)
  m : A κm = some (.mp (encNS d.stays))
  c : A κc = some (.co 2 d.cache.length)
def zeros : List UInt8 := List.replicate 128 0
theorem zeros_len : zeros.length = 128 := by simp [zeros]
theorem Try.mk128 : mksS Try.prog 22 (.c (.d (.lit (.int .i64 128)))) (.c (.d (.lit (.int .i64 128)))) = some (.c (.full (bytesEls zeros))) := by kernel_rfl
set_option maxRecDepth 8000 in
set_option maxHeartbeats 4000000 in
theorem Try.kEmpty : PureOK Try.prog 56 [] (.one (.d (dS zeros))) := by
  refine Try.pure (md := []) Try.func56 rfl Try.call56 (by kernel_rfl) (by rfl) (by exact Nat.le_of_ble_eq_true rfl) ?_
  repeat' (first
   |with_reducible first|refine vSq fun K hK=>?_|refine vRg ?_|refine vBl ?_|refine vSc ?_|refine vIf ?_|refine vSk ?_|refine vEx ?_|refine vRt ?_
   |(with_reducible first|refine gNt (fun h=>?_) (fun h=>?_)|refine gCs (fun h=>?_) (fun h=>?_))<;>(try simp only[h])
   |with_reducible first|(refine hK _ ?_;clear hK K)|(clear hK K;refine hK _ ?_;clear hK K)|(clear hK K;clear hK K;refine hK _ ?_;clear hK K)|(clear hK K;clear hK K;clear hK K;refine hK _ ?_;clear hK K)
   |(with_reducible refine todo ?_;simp +decide only[go_sem, Try.mk128]))
  exact Ret_d rfl rfl
section disk
variable {H : HMap} {A : AMap} {id : Nat} {κm κc : Tok} {d : Dk}
set_option maxRecDepth 8000 in
set_option maxHeartbeats 4000000 in
theorem Try.kLen (off : Nat) (hw : Wf H A) (hd : DkAt H A id κm κc d) : EffOK Try.prog 30 off H A [.c (.ptr id 0)] (pD (.lit (.int .i64 d.n))) H A := by
  refine effr_ok (E := envOf Try.prog [] off [] []) (envOf_ok Try.mixed) Try.func30 rfl Try.call30 (by kernel_rfl) (by exact Nat.le_of_ble_eq_true rfl) (fun hab => ?_)
  have hid := hd.h
  repeat' (first
   |with_reducible first|refine vSq fun K hK=>?_|refine vRg ?_|refine vBl ?_|refine vSc ?_|refine vIf ?_|refine vSk ?_|refine vEx ?_|refine vRt ?_
   |(with_reducible first|refine gNt (fun h=>?_) (fun h=>?_)|refine gCs (fun h=>?_) (fun h=>?_))<;>(try simp only[h])
   |with_reducible first|(refine hK _ ?_;clear hK K)|(clear hK K;refine hK _ ?_;clear hK K)|(clear hK K;clear hK K;refine hK _ ?_;clear hK K)|(clear hK K;clear hK K;clear hK K;refine hK _ ?_;clear hK K)
   |(with_reducible refine todo ?_;simp +decide only[go_sem, hid, encDk]))
  exact RetR_same rfl (by simp +decide only [go_sem]) True.intro hw kp_refl (fun _ _ => rfl)
def dkRight (d : Dk) (at_ : Int) : Int := if d.n = 0 then 13 else if at_ < 0 ∨ (d.n : Int) ≤ at_ then 2 else 0
set_option maxRecDepth 8000 in
set_option maxHeartbeats 4000000 in
theorem Try.kDkRight (off : Nat) (hw : Wf H A) (hd : DkAt H A id κm κc d) (at_ : Int) (hn : 0 < d.n) : EffOK Try.prog 55 off H A [.c (.ptr id 0), pD (.lit (.int .i64 at_))] (pD (.lit (.int .i64 (dkRight d at_)))) H A := by
  refine effr_ok (E := envOf Try.prog [30] off [] []) (envOf_ok Try.mixed) Try.func55 rfl Try.call55 (by kernel_rfl) (by exact Nat.le_of_ble_eq_true rfl) (fun hab => ?_)
  have hid := hd.h
  have kl := Try.kLen (off + 1000) hw hd
  have hz : ((d.n : Int) == 0) = false := by rw [beq_eq_false_iff_ne]; omega
  rcases Int.lt_or_le at_ 0 with h0 | h0
  · have e : dkRight d at_ = 2 := by unfold dkRight; rw [if_neg (by omega), if_pos (.inl h0)]
    have h1 : (at_ < 0) = True := eq_true h0
    repeat' (first
     |with_reducible first|refine vSq fun K hK=>?_|refine vRg ?_|refine vBl ?_|refine vSc ?_|refine vIf ?_|refine vSk ?_|refine vEx ?_|refine vRt ?_
     |(with_reducible first|refine gNt (fun h=>?_) (fun h=>?_)|refine gCs (fun h=>?_) (fun h=>?_))<;>(try simp only[h])
     |refine C_call rfl kl rfl (Above_mono hab (by omega)) ?_
     |with_reducible first|(refine hK _ ?_;clear hK K)|(clear hK K;refine hK _ ?_;clear hK K)|(clear hK K;clear hK K;refine hK _ ?_;clear hK K)|(clear hK K;clear hK K;clear hK K;refine hK _ ?_;clear hK K)
     |(with_reducible refine todo ?_;simp +decide only[go_sem, hz, h1]))
    rw [e]
    exact RetR_same rfl (by simp +decide only [go_sem]) True.intro hw kp_refl (fun _ _ => rfl)
  · have h1 : (at_ < 0) = False := eq_false (by omega)
    rcases Int.lt_or_le at_ d.n with h2 | h2
    · have e : dkRight d at_ = 0 := by unfold dkRight; rw [if_neg (by omega), if_neg (by omega)]
      have h3 : ((d.n : Int) ≤ at_) = False := eq_false (by omega)
      repeat' (first
       |with_reducible first|refine vSq fun K hK=>?_|refine vRg ?_|refine vBl ?_|refine vSc ?_|refine vIf ?_|refine vSk ?_|refine vEx ?_|refine vRt ?_
       |(with_reducible first|refine gNt (fun h=>?_) (fun h=>?_)|refine gCs (fun h=>?_) (fun h=>?_))<;>(try simp only[h])
       |refine C_call rfl kl rfl (Above_mono hab (by omega)) ?_
       |with_reducible first|(refine hK _ ?_;clear hK K)|(clear hK K;refine hK _ ?_;clear hK K)|(clear hK K;clear hK K;refine hK _ ?_;clear hK K)|(clear hK K;clear hK K;clear hK K;refine hK _ ?_;clear hK K)
       |(with_reducible refine todo ?_;simp +decide only[go_sem, hid, encDk, hz, h1, h3]))
      rw [e]
      exact RetR_same rfl (by simp +decide only [go_sem]) True.intro hw kp_refl (fun _ _ => rfl)
    · have e : dkRight d at_ = 2 := by unfold dkRight; rw [if_neg (by omega), if_pos (.inr h2)]
      have h3 : ((d.n : Int) ≤ at_) = True := eq_true h2
      repeat' (first
       |with_reducible first|refine vSq fun K hK=>?_|refine vRg ?_|refine vBl ?_|refine vSc ?_|refine vIf ?_|refine vSk ?_|refine vEx ?_|refine vRt ?_
       |(with_reducible first|refine gNt (fun h=>?_) (fun h=>?_)|refine gCs (fun h=>?_) (fun h=>?_))<;>(try simp only[h])
       |refine C_call rfl kl rfl (Above_mono hab (by omega)) ?_
       |with_reducible first|(refine hK _ ?_;clear hK K)|(clear hK K;refine hK _ ?_;clear hK K)|(clear hK K;clear hK K;refine hK _ ?_;clear hK K)|(clear hK K;clear hK K;clear hK K;refine hK _ ?_;clear hK K)
       |(with_reducible refine todo ?_;simp +decide only[go_sem, hid, encDk, hz, h1, h3]))
      rw [e]
      exact RetR_same rfl (by simp +decide only [go_sem]) True.intro hw kp_refl (fun _ _ => rfl)
def burnt (d : Dk) : Bool := d.fused && (d.left == 0)
set_option maxRecDepth 8000 in
set_option maxHeartbeats 4000000 in
theorem Try.kBurnt (off : Nat) (hw : Wf H A) (hd : DkAt H A id κm κc d) : EffOK Try.prog 79 off H A [.c (.ptr id 0)] (pD (.lit (.bool (burnt d)))) H A := by
  refine effr_ok (E := envOf Try.prog [] off [] []) (envOf_ok Try.mixed) Try.func79 rfl Try.call79 (by kernel_rfl) (by exact Nat.le_of_ble_eq_true rfl) (fun hab => ?_)
  have hid := hd.h
  have e : burnt d = (d.fused && (d.left == 0)) := rfl
  cases hf : d.fused with
  | false =>
    rw [hf] at e
    repeat' (first
     |with_reducible first|refine vSq fun K hK=>?_|refine vRg ?_|refine vBl ?_|refine vSc ?_|refine vIf ?_|refine vSk ?_|refine vEx ?_|refine vRt ?_
     |(with_reducible first|refine gNt (fun h=>?_) (fun h=>?_)|refine gCs (fun h=>?_) (fun h=>?_))<;>(try simp only[h])
     |with_reducible first|(refine hK _ ?_;clear hK K)|(clear hK K;refine hK _ ?_;clear hK K)|(clear hK K;clear hK K;refine hK _ ?_;clear hK K)|(clear hK K;clear hK K;clear hK K;refine hK _ ?_;clear hK K)
     |(with_reducible refine todo ?_;simp +decide only[go_sem, hid, encDk, hf]))
    rw [e]
    exact RetR_same rfl (by simp +decide only [go_sem]) True.intro hw kp_refl (fun _ _ => rfl)
  | true =>
    rw [hf] at e
    repeat' (first
     |with_reducible first|refine vSq fun K hK=>?_|refine vRg ?_|refine vBl ?_|refine vSc ?_|refine vIf ?_|refine vSk ?_|refine vEx ?_|refine vRt ?_
     |(with_reducible first|refine gNt (fun h=>?_) (fun h=>?_)|refine gCs (fun h=>?_) (fun h=>?_))<;>(try simp only[h])
     |with_reducible first|(refine hK _ ?_;clear hK K)|(clear hK K;refine hK _ ?_;clear hK K)|(clear hK K;clear hK K;refine hK _ ?_;clear hK K)|(clear hK K;clear hK K;clear hK K;refine hK _ ?_;clear hK K)
     |(with_reducible refine todo ?_;simp +decide only[go_sem, hid, encDk, hf]))
    rw [e]
    exact RetR_same rfl (by simp +decide only [go_sem]) True.intro hw kp_refl (fun _ _ => rfl)
end disk
end Go.Proofs

namespace Go.Proofs
open Go.PW
def lastW (k : Int) : List (Int × List UInt8) → Option (List UInt8)
  | [] => none
  | w :: r => match lastW k r with
    | some s => some s
    | none => if w.1 = k then some w.2 else none
theorem lastW_snoc (k : Int) (w : Int × List UInt8) : ∀ l : List (Int × List UInt8), lastW k (l ++ [w]) = if w.1 = k then some w.2 else lastW k l
  | [] => rfl
  | x :: r => by
    show (match lastW k (r ++ [w]) with | some s => some s | none => _) = _
    rw [lastW_snoc k w r]
    by_cases h : w.1 = k
    · rw [if_pos h, if_pos h]
    · rw [if_neg h, if_neg h]; rfl
def stayN (d : Dk) (k : Int) : List UInt8 := match findN k d.stays 0 with
  | some r => r.2
  | none => zeros
def rd (d : Dk) (k : Int) : List UInt8 := match lastW k d.cache with
  | some s => s
  | none => stayN d k
def readPV (d : Dk) (k : Int) : PV := if dkRight d k = 0 then .tup [.c (.d (dS (rd d k))), .c (.d (.lit (.int .i64 0)))] else .tup [.c (.d (dS [])), .c (.d (.lit (.int .i64 (dkRight d k))))]
theorem wk_pair {H' : HMap} {A A' : AMap} {x y : D} : PV.wk H' A A' (.tup [.c (.d x), .c (.d y)]) (.tup [.c (.d x), .c (.d y)]) := by
  refine ⟨rfl, fun k a b h1 h2 => ?_⟩
  rw [h1] at h2
  cases h2
  match k, h1 with
  | 0, h => cases h; exact .inr (.inl ⟨rfl, True.intro⟩)
  | 1, h => cases h; exact .inr (.inl ⟨rfl, True.intro⟩)
theorem oks_pair {hk : Nat → Prop} {tk : Tok → Prop} {x y : D} : PV.oks hk tk (.tup [.c (.d x), .c (.d y)]) := fun z hz => by
  rcases List.mem_cons.1 hz with rfl | hz
  · exact True.intro
  · rw [List.mem_singleton.1 hz]; exact True.intro
theorem zne : ((0 : Int) != 0) = false := rfl
theorem DkAt.ptr {H : HMap} {A : AMap} {id : Nat} {κm κc : Tok} {d : Dk} (hd : DkAt H A id κm κc d) : PV.wk (hOver [] H) A A (.c (.ptr id 0)) (.c (.ptr id 0)) = True := eq_true (wkP_ptr (by show H id ≠ none; rw [hd.h]; simp))
@[go_sem] theorem Try.zlitS : zlit Try.prog 9 = some (.string ⟨#[]⟩) := by kernel_rfl
def bk (k : Nat) : Int := k - 1
section disk
variable {H : HMap} {A : AMap} {id : Nat} {κm κc : Tok} {d : Dk}
set_option maxRecDepth 8000 in
set_option maxHeartbeats 8000000 in
theorem Try.kRead (off : Nat) (hw : Wf H A) (hd : DkAt H A id κm κc d) (at_ : Int) (hn : 0 < d.n) (hl : d.cache.length ≤ 1000000) : EffOK Try.prog 37 off H A [.c (.ptr id 0), pD (.lit (.int .i64 at_))] (readPV d at_) H A := by
  refine effr_ok (E := envOf Try.prog [55] off [] []) (envOf_ok Try.mixed) Try.func37 rfl Try.call37 (by kernel_rfl) (by exact Nat.le_of_ble_eq_true rfl) (fun hab => ?_)
  have hid := hd.h
  have kr := Try.kDkRight (off + 1000) hw hd at_ hn
  have ke := Try.kEmpty
  unfold readPV
  by_cases hr : dkRight d at_ = 0
  · rw [if_pos hr]
    rw [hr] at kr
    have hlen : ((d.cache.length : Nat) : Int) - 1 = bk d.cache.length := rfl
    have hwr : IntKind.i64.wrap ((d.cache.length : Int) - 1) = bk d.cache.length := Go.IntWalk.i64_in _ (by omega)
    repeat' (first
     |with_reducible first|refine vSq fun K hK=>?_|refine vRg ?_|refine vBl ?_|refine vSc ?_|refine vIf ?_|refine vSk ?_|refine vEx ?_|refine vRt ?_
     |(with_reducible first|refine gNt (fun h=>?_) (fun h=>?_)|refine gCs (fun h=>?_) (fun h=>?_))<;>(try simp only[h])
     |refine C_call rfl kr rfl (Above_mono hab (by omega)) ?_
     |with_reducible first|(refine hK _ ?_;clear hK K)|(clear hK K;refine hK _ ?_;clear hK K)|(clear hK K;clear hK K;refine hK _ ?_;clear hK K)|(clear hK K;clear hK K;clear hK K;refine hK _ ?_;clear hK K)
     |(with_reducible refine todo ?_;simp +decide only[go_sem, hid, encDk, hwr, zne]))
    · refine VC_while (ι := Nat) (fun k => k ≤ d.cache.length ∧ lastW at_ (d.cache.take k) = lastW at_ d.cache)
        (fun k => over [(0, .c (.ptr id 0)), (1, pD (.lit (.int .i64 at_))), (7, pD (.lit (.int .i64 (bk k))))] [] H A) (fun k => k) d.cache.length ⟨Nat.le_refl _, by rw [List.take_length]⟩ ?_ ?_
      · refine Weak_over hw kp_refl rfl ?_ ?_ <;> simp +decide only [go_sem, hd.ptr]
      · rintro k ⟨hk, hi⟩
        cases k with
        | zero =>
          cases hf : findN at_ d.stays 0 with
          | none =>
            have e : rd d at_ = zeros := by unfold rd stayN; rw [← hi, hf]; rfl
            repeat' (first
             |with_reducible first|refine vSq fun K hK=>?_|refine vRg ?_|refine vBl ?_|refine vSc ?_|refine vIf ?_|refine vSk ?_|refine vEx ?_|refine vRt ?_
             |(with_reducible first|refine gNt (fun h=>?_) (fun h=>?_)|refine gCs (fun h=>?_) (fun h=>?_))<;>(try simp only[h])
             |refine C_pure ke rfl rfl (fun k => (hab _ (Nat.le_add_right _ _)).2 k) ?_
             |with_reducible first|(refine hK _ ?_;clear hK K)|(clear hK K;refine hK _ ?_;clear hK K)|(clear hK K;clear hK K;refine hK _ ?_;clear hK K)|(clear hK K;clear hK K;clear hK K;refine hK _ ?_;clear hK K)
             |(with_reducible refine todo ?_;simp +decide only[go_sem, hid, encDk, mapOf_mpr hd.m, mfind_N, hf]))
            rw [e]
            exact RetR_same rfl wk_pair oks_pair hw kp_refl (fun _ _ => rfl)
          | some r =>
            have e : rd d at_ = r.2 := by unfold rd stayN; rw [← hi, hf]; rfl
            repeat' (first
             |with_reducible first|refine vSq fun K hK=>?_|refine vRg ?_|refine vBl ?_|refine vSc ?_|refine vIf ?_|refine vSk ?_|refine vEx ?_|refine vRt ?_
             |(with_reducible first|refine gNt (fun h=>?_) (fun h=>?_)|refine gCs (fun h=>?_) (fun h=>?_))<;>(try simp only[h])
             |with_reducible first|(refine hK _ ?_;clear hK K)|(clear hK K;refine hK _ ?_;clear hK K)|(clear hK K;clear hK K;refine hK _ ?_;clear hK K)|(clear hK K;clear hK K;clear hK K;refine hK _ ?_;clear hK K)
             |(with_reducible refine todo ?_;simp +decide only[go_sem, hid, encDk, mapOf_mpr hd.m, mfind_N, hf]))
            rw [e]
            exact RetR_same rfl wk_pair oks_pair hw kp_refl (fun _ _ => rfl)
        | succ k =>
          have h0 : (0 ≤ bk (k + 1)) = True := eq_true (by unfold bk; omega)
          have h1 : (bk (k + 1)).toNat = k := by unfold bk; omega
          have h2 : IntKind.i64.wrap (bk (k + 1) - 1) = bk k := by unfold bk; rw [Go.IntWalk.i64_in _ (by omega)]; omega
          have h3 : d.cache[k]? = some d.cache[k] := List.getElem?_eq_getElem hk
          rw [List.take_add_one, h3, Option.toList_some, lastW_snoc] at hi
          generalize d.cache[k] = x at *
          by_cases hx : x.1 = at_
          · have hx' : (x.1 == at_) = true := by simpa using hx
            rw [if_pos hx] at hi
            have e : rd d at_ = x.2 := by unfold rd; rw [← hi]
            repeat' (first
             |with_reducible first|refine vSq fun K hK=>?_|refine vRg ?_|refine vBl ?_|refine vSc ?_|refine vIf ?_|refine vSk ?_|refine vEx ?_|refine vRt ?_
             |(with_reducible first|refine gNt (fun h=>?_) (fun h=>?_)|refine gCs (fun h=>?_) (fun h=>?_))<;>(try simp only[h])
             |with_reducible first|(refine hK _ ?_;clear hK K)|(clear hK K;refine hK _ ?_;clear hK K)|(clear hK K;clear hK K;refine hK _ ?_;clear hK K)|(clear hK K;clear hK K;clear hK K;refine hK _ ?_;clear hK K)
             |(with_reducible refine todo ?_;simp +decide only[go_sem, hid, encDk, h0, h1, h3, hx']))
            rw [e]
            exact RetR_same rfl wk_pair oks_pair hw kp_refl (fun _ _ => rfl)
          · have hx' : (x.1 == at_) = false := by simpa using hx
            rw [if_neg hx] at hi
            repeat' (first
             |with_reducible first|refine vSq fun K hK=>?_|refine vRg ?_|refine vBl ?_|refine vSc ?_|refine vIf ?_|refine vSk ?_|refine vEx ?_|refine vRt ?_
             |(with_reducible first|refine gNt (fun h=>?_) (fun h=>?_)|refine gCs (fun h=>?_) (fun h=>?_))<;>(try simp only[h])
             |with_reducible first|(refine hK _ ?_;clear hK K)|(clear hK K;refine hK _ ?_;clear hK K)|(clear hK K;clear hK K;refine hK _ ?_;clear hK K)|(clear hK K;clear hK K;clear hK K;refine hK _ ?_;clear hK K)
             |(with_reducible refine todo ?_;simp +decide only[go_sem, hid, encDk, h0, h1, h3, hx', h2]))
            refine ⟨⟨k, by omega, hi⟩, Weak_over hw kp_refl rfl ?_ ?_, by show k < k + 1; omega⟩ <;> simp +decide only [go_sem, hd.ptr]
  · rw [if_neg hr]
    have hr2 : (dkRight d at_ != 0) = true := by simpa using hr
    repeat' (first
     |with_reducible first|refine vSq fun K hK=>?_|refine vRg ?_|refine vBl ?_|refine vSc ?_|refine vIf ?_|refine vSk ?_|refine vEx ?_|refine vRt ?_
     |(with_reducible first|refine gNt (fun h=>?_) (fun h=>?_)|refine gCs (fun h=>?_) (fun h=>?_))<;>(try simp only[h])
     |refine C_call rfl kr rfl (Above_mono hab (by omega)) ?_
     |with_reducible first|(refine hK _ ?_;clear hK K)|(clear hK K;refine hK _ ?_;clear hK K)|(clear hK K;clear hK K;refine hK _ ?_;clear hK K)|(clear hK K;clear hK K;clear hK K;refine hK _ ?_;clear hK K)
     |(with_reducible refine todo ?_;simp +decide only[go_sem, hr2]))
    exact RetR_same rfl wk_pair oks_pair hw kp_refl (fun _ _ => rfl)
end disk
end Go.Proofs
