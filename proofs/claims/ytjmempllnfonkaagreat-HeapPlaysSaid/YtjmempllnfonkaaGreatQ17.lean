/-
  Parts of the proof, laid together: PwCe, PwCf, PwDa.
-/
import Derived.Test.YtjmempllnfonkaaGreatQ16

namespace Go.Proofs
open Go.PW
theorem nil_eq_cons (c : UInt8) (r : List UInt8) : ((c :: r) == ([] : List UInt8)) = false := rfl
theorem nil_eq_nil : (([] : List UInt8) == ([] : List UInt8)) = true := rfl
theorem tmod_nat (m k : Nat) : Int.tmod (m : Int) (k : Int) = ((m % k : Nat) : Int) := (Int.ofNat_tmod m k).symm
theorem tdiv_nat (m k : Nat) : Int.tdiv (m : Int) (k : Int) = ((m / k : Nat) : Int) := (Int.ofNat_tdiv m k).symm
def sealB (b : List UInt8) : List UInt8 := if b.length ≤ 123 then UInt8.ofNat b.length :: crcPut b else []
def unsealB : List UInt8 → Option (List UInt8)
  | [] => none
  | c :: r => if c.toNat ≤ 123 then (if c.toNat + 4 ≤ r.length then crcTake (r.take (c.toNat + 4)) else none) else none
theorem sealB_len (b : List UInt8) : (sealB b).length ≤ 128 := by
  unfold sealB
  split
  · rw [List.length_cons, crcPut_len]; omega
  · simp
set_option maxRecDepth 8000 in
set_option maxHeartbeats 8000000 in
theorem Tryz.kSeal (b : List UInt8) (hl : b.length ≤ 1073741824) : PureOK Tryz.prog 96 [pD (dS b)] (.one (.d (dS (sealB b)))) := by
  refine Tryz.pure (md := []) Tryz.func96 rfl Tryz.call96 (by kernel_rfl) (by rfl) (by exact Nat.le_of_ble_eq_true rfl) ?_
  rcases Nat.lt_or_ge 123 b.length with h | h
  · have e : sealB b = [] := by unfold sealB; rw [if_neg (by omega)]
    have hd : ((123 : Int) < (b.length : Int)) = True := eq_true (by omega)
    repeat' (first
     |with_reducible first|refine vSq fun K hK=>?_|refine vRg ?_|refine vBl ?_|refine vSc ?_|refine vIf ?_|refine vSk ?_|refine vEx ?_|refine vRt ?_
     |(with_reducible first|refine gNt (fun h=>?_) (fun h=>?_)|refine gCs (fun h=>?_) (fun h=>?_))<;>(try simp only[h])
     |with_reducible first|(refine hK _ ?_;clear hK K)|(clear hK K;refine hK _ ?_;clear hK K)|(clear hK K;clear hK K;refine hK _ ?_;clear hK K)|(clear hK K;clear hK K;clear hK K;refine hK _ ?_;clear hK K)
     |(with_reducible refine todo ?_;simp +decide only[go_sem, hd]))
    rw [e]
    exact Ret_d rfl rfl
  · have e : sealB b = [UInt8.ofNat b.length] ++ crcPut b := by unfold sealB; rw [if_pos h]; rfl
    have hd : ((123 : Int) < (b.length : Int)) = False := eq_false (by omega)
    have h8 : IntKind.u8.wrap (b.length : Int) = (b.length : Int) := Go.IntWalk.u8_in _ (by omega)
    have hone : [[D.lit (.int .u8 (b.length : Int))]] = bytesEls [UInt8.ofNat b.length] := by rw [bytesEls_one _ (by omega) (by omega), Int.toNat_natCast]
    have kp := Tryz.kPut b hl
    have hpl := crcPut_len b
    have hsz : ((1 : Nat) + (b.length + 4) ≤ 9223372036854775807) = True := eq_true (by omega)
    repeat' (first
     |with_reducible first|refine vSq fun K hK=>?_|refine vRg ?_|refine vBl ?_|refine vSc ?_|refine vIf ?_|refine vSk ?_|refine vEx ?_|refine vRt ?_
     |(with_reducible first|refine gNt (fun h=>?_) (fun h=>?_)|refine gCs (fun h=>?_) (fun h=>?_))<;>(try simp only[h])
     |refine C_pure kp rfl rfl (fun _ => rfl) ?_
     |with_reducible first|(refine hK _ ?_;clear hK K)|(clear hK K;refine hK _ ?_;clear hK K)|(clear hK K;clear hK K;refine hK _ ?_;clear hK K)|(clear hK K;clear hK K;clear hK K;refine hK _ ?_;clear hK K)
     |(with_reducible refine todo ?_;simp +decide only[go_sem, hd, h8, hone, hpl, hsz]))
    rw [e]
    exact Ret_d rfl rfl
set_option maxRecDepth 8000 in
set_option maxHeartbeats 8000000 in
theorem Tryz.kUnseal (s : List UInt8) (hl : s.length ≤ 1073741824) : PureOK Tryz.prog 87 [pD (dS s)] (optS (unsealB s)) := by
  refine Tryz.pure (md := []) Tryz.func87 rfl Tryz.call87 (by kernel_rfl) (by rfl) (by exact Nat.le_of_ble_eq_true rfl) ?_
  cases s with
  | nil =>
    repeat' (first
     |with_reducible first|refine vSq fun K hK=>?_|refine vRg ?_|refine vBl ?_|refine vSc ?_|refine vIf ?_|refine vSk ?_|refine vEx ?_|refine vRt ?_
     |(with_reducible first|refine gNt (fun h=>?_) (fun h=>?_)|refine gCs (fun h=>?_) (fun h=>?_))<;>(try simp only[h])
     |with_reducible first|(refine hK _ ?_;clear hK K)|(clear hK K;refine hK _ ?_;clear hK K)|(clear hK K;clear hK K;refine hK _ ?_;clear hK K)|(clear hK K;clear hK K;clear hK K;refine hK _ ?_;clear hK K)
     |(with_reducible refine todo ?_;simp +decide only[go_sem, nil_eq_nil]))
    exact Ret_two none rfl (.inl rfl) (.inl rfl)
  | cons c r =>
    rw [List.length_cons] at hl
    have hcl := c.toNat_lt
    have e : unsealB (c :: r) = if c.toNat ≤ 123 then (if c.toNat + 4 ≤ r.length then crcTake (r.take (c.toNat + 4)) else none) else none := rfl
    have hw : IntKind.i64.wrap (c.toNat : Int) = (c.toNat : Int) := Go.IntWalk.i64_in _ (by omega)
    have htl : List.take (r.length + 1 - 1) r = r := List.take_of_length_le (by omega)
    have hw4 : IntKind.i64.wrap ((c.toNat : Int) + 4) = ((c.toNat + 4 : Nat) : Int) := by rw [Go.IntWalk.i64_in _ (by omega)]; omega
    have c0 : (([] : List UInt8).drop 0) = [] := rfl
    rcases Nat.lt_or_ge 123 c.toNat with h | h
    · have hd : ((123 : Int) < (c.toNat : Int)) = True := eq_true (by omega)
      repeat' (first
       |with_reducible first|refine vSq fun K hK=>?_|refine vRg ?_|refine vBl ?_|refine vSc ?_|refine vIf ?_|refine vSk ?_|refine vEx ?_|refine vRt ?_
       |(with_reducible first|refine gNt (fun h=>?_) (fun h=>?_)|refine gCs (fun h=>?_) (fun h=>?_))<;>(try simp only[h])
       |refine W_slcS (a := c :: r) (l := 1) (h := r.length + 1) Tryz.underlying9 rfl rfl rfl (by omega) (Nat.le_refl _) ?_
       |with_reducible first|(refine hK _ ?_;clear hK K)|(clear hK K;refine hK _ ?_;clear hK K)|(clear hK K;clear hK K;refine hK _ ?_;clear hK K)|(clear hK K;clear hK K;clear hK K;refine hK _ ?_;clear hK K)
       |(with_reducible refine todo ?_;simp +decide only[go_sem, nil_eq_cons, hw, htl, hd]))
      rw [e, if_neg (by omega)]
      exact Ret_two none rfl (.inl rfl) (.inl rfl)
    · have hd : ((123 : Int) < (c.toNat : Int)) = False := eq_false (by omega)
      rcases Nat.lt_or_ge r.length (c.toNat + 4) with h2 | h2
      · have hd2 : ((r.length : Int) < ((c.toNat + 4 : Nat) : Int)) = True := eq_true (by omega)
        repeat' (first
         |with_reducible first|refine vSq fun K hK=>?_|refine vRg ?_|refine vBl ?_|refine vSc ?_|refine vIf ?_|refine vSk ?_|refine vEx ?_|refine vRt ?_
         |(with_reducible first|refine gNt (fun h=>?_) (fun h=>?_)|refine gCs (fun h=>?_) (fun h=>?_))<;>(try simp only[h])
         |refine W_slcS (a := c :: r) (l := 1) (h := r.length + 1) Tryz.underlying9 rfl rfl rfl (by omega) (Nat.le_refl _) ?_
         |with_reducible first|(refine hK _ ?_;clear hK K)|(clear hK K;refine hK _ ?_;clear hK K)|(clear hK K;clear hK K;refine hK _ ?_;clear hK K)|(clear hK K;clear hK K;clear hK K;refine hK _ ?_;clear hK K)
         |(with_reducible refine todo ?_;simp +decide only[go_sem, nil_eq_cons, hw, htl, hd, hw4, hd2]))
        rw [e, if_pos h, if_neg (by omega)]
        exact Ret_two none rfl (.inl rfl) (.inl rfl)
      · have hd2 : ((r.length : Int) < ((c.toNat + 4 : Nat) : Int)) = False := eq_false (by omega)
        have kt := Tryz.kTake (r.take (c.toNat + 4)) (by rw [List.length_take]; omega)
        rw [e, if_pos h, if_pos h2]
        have hz : List.drop 0 r = r := rfl
        cases ht : crcTake (r.take (c.toNat + 4)) with
        | none =>
          rw [ht] at kt
          simp only [optS] at kt
          repeat' (first
           |with_reducible first|refine vSq fun K hK=>?_|refine vRg ?_|refine vBl ?_|refine vSc ?_|refine vIf ?_|refine vSk ?_|refine vEx ?_|refine vRt ?_
           |(with_reducible first|refine gNt (fun h=>?_) (fun h=>?_)|refine gCs (fun h=>?_) (fun h=>?_))<;>(try simp only[h])
           |refine C_pure kt rfl rfl (fun _ => rfl) ?_
           |refine W_slcS (a := c :: r) (l := 1) (h := r.length + 1) Tryz.underlying9 rfl rfl rfl (by omega) (Nat.le_refl _) ?_
           |(refine W_slcS (a := r) (l := 0) (h := c.toNat + 4) Tryz.underlying9 rfl rfl (by simp [optNat, natOf?, intOf?]; omega) (Nat.zero_le _) h2 ?_)
           |with_reducible first|(refine hK _ ?_;clear hK K)|(clear hK K;refine hK _ ?_;clear hK K)|(clear hK K;clear hK K;refine hK _ ?_;clear hK K)|(clear hK K;clear hK K;clear hK K;refine hK _ ?_;clear hK K)
           |(with_reducible refine todo ?_;simp +decide only[go_sem, nil_eq_cons, hw, htl, hd, hw4, hd2, hz, Nat.sub_zero]))
          exact Ret_two none rfl (.inl rfl) (.inl rfl)
        | some t =>
          rw [ht] at kt
          simp only [optS] at kt
          repeat' (first
           |with_reducible first|refine vSq fun K hK=>?_|refine vRg ?_|refine vBl ?_|refine vSc ?_|refine vIf ?_|refine vSk ?_|refine vEx ?_|refine vRt ?_
           |(with_reducible first|refine gNt (fun h=>?_) (fun h=>?_)|refine gCs (fun h=>?_) (fun h=>?_))<;>(try simp only[h])
           |refine C_pure kt rfl rfl (fun _ => rfl) ?_
           |refine W_slcS (a := c :: r) (l := 1) (h := r.length + 1) Tryz.underlying9 rfl rfl rfl (by omega) (Nat.le_refl _) ?_
           |(refine W_slcS (a := r) (l := 0) (h := c.toNat + 4) Tryz.underlying9 rfl rfl (by simp [optNat, natOf?, intOf?]; omega) (Nat.zero_le _) h2 ?_)
           |with_reducible first|(refine hK _ ?_;clear hK K)|(clear hK K;refine hK _ ?_;clear hK K)|(clear hK K;clear hK K;refine hK _ ?_;clear hK K)|(clear hK K;clear hK K;clear hK K;refine hK _ ?_;clear hK K)
           |(with_reducible refine todo ?_;simp +decide only[go_sem, nil_eq_cons, hw, htl, hd, hw4, hd2, hz, Nat.sub_zero]))
          exact Ret_two none rfl (.inl rfl) (.inl rfl)
end Go.Proofs

namespace Go.Proofs
open Go.PW
set_option maxRecDepth 8000 in
set_option maxHeartbeats 4000000 in
theorem Tryz.kOne (n : Nat) : PureOK Tryz.prog 141 [pD (.lit (.int .u64 n))] (.one (.d (dS [UInt8.ofNat (n % 256)]))) := by
  refine Tryz.pure (md := []) Tryz.func141 rfl Tryz.call141 (by kernel_rfl) (by rfl) (by exact Nat.le_of_ble_eq_true rfl) ?_
  have h8 := u8_nat n
  have hone : [[D.lit (.int .u8 ((n % 256 : Nat) : Int))]] = bytesEls [UInt8.ofNat (n % 256)] := by rw [bytesEls_one _ (by omega) (by omega), Int.toNat_natCast]
  repeat' (first
   |with_reducible first|refine vSq fun K hK=>?_|refine vRg ?_|refine vBl ?_|refine vSc ?_|refine vIf ?_|refine vSk ?_|refine vEx ?_|refine vRt ?_
   |(with_reducible first|refine gNt (fun h=>?_) (fun h=>?_)|refine gCs (fun h=>?_) (fun h=>?_))<;>(try simp only[h])
   |with_reducible first|(refine hK _ ?_;clear hK K)|(clear hK K;refine hK _ ?_;clear hK K)|(clear hK K;clear hK K;refine hK _ ?_;clear hK K)|(clear hK K;clear hK K;clear hK K;refine hK _ ?_;clear hK K)
   |(with_reducible refine todo ?_;simp +decide only[go_sem, h8, hone]))
  exact Ret_d rfl rfl
def uintK : Nat → Nat → List UInt8
  | 0, n => [UInt8.ofNat (n % 256)]
  | k + 1, n => if n < 128 then [UInt8.ofNat (n % 256)] else UInt8.ofNat ((n % 128 + 128) % 256) :: uintK k (n / 128)
def uintB (n : Nat) : List UInt8 := uintK 10 n
theorem uintK_len : ∀ k n, (uintK k n).length ≤ k + 1
  | 0, n => by simp [uintK]
  | k + 1, n => by
    unfold uintK
    split
    · simp
    · rw [List.length_cons]; have := uintK_len k (n / 128); omega
theorem uintB_len (n : Nat) : (uintB n).length ≤ 11 := uintK_len 10 n
theorem uintK_small {k n : Nat} (h : n < 128) : uintK k n = [UInt8.ofNat (n % 256)] := by
  cases k with
  | zero => rfl
  | succ k => unfold uintK; rw [if_pos h]
theorem pow_128 (k : Nat) : 128 ^ (k + 1) = 128 * 128 ^ k := by rw [Nat.pow_succ, Nat.mul_comm]
set_option maxRecDepth 8000 in
set_option maxHeartbeats 8000000 in
theorem Tryz.kUint (n : Nat) (hn : n < 18446744073709551616) : PureOK Tryz.prog 125 [pD (.lit (.int .u64 n))] (.one (.d (dS (uintB n)))) := by
  refine Tryz.pure (md := []) Tryz.func125 rfl Tryz.call125 (by kernel_rfl) (by rfl) (by exact Nat.le_of_ble_eq_true rfl) ?_
  repeat' (first
   |with_reducible first|refine vSq fun K hK=>?_|refine vRg ?_|refine vBl ?_|refine vSc ?_|refine vIf ?_|refine vSk ?_|refine vEx ?_|refine vRt ?_
   |(with_reducible first|refine gNt (fun h=>?_) (fun h=>?_)|refine gCs (fun h=>?_) (fun h=>?_))<;>(try simp only[h])
   |with_reducible first|(refine hK _ ?_;clear hK K)|(clear hK K;refine hK _ ?_;clear hK K)|(clear hK K;clear hK K;refine hK _ ?_;clear hK K)|(clear hK K;clear hK K;clear hK K;refine hK _ ?_;clear hK K)
   |(with_reducible refine todo ?_;simp +decide only[go_sem]))
  refine VC_while (ι := Nat × Nat × List UInt8) (fun x => x.2.2 ++ uintK x.1 x.2.1 = uintB n ∧ x.2.1 < 128 ^ x.1 ∧ x.2.2.length + x.1 ≤ 10 ∧ x.2.1 < 18446744073709551616)
    (fun x => frame [(0, pD (.lit (.int .u64 x.2.1))), (3, pD (dS x.2.2))] [] []) (fun x => x.1) (10, n, []) ⟨rfl, by show n < 128 ^ 10; omega, by simp, hn⟩ ?_ ?_
  · refine Weak_frame ?_ ?_ ?_ <;> simp +decide only [go_sem]
  · rintro ⟨k, m, s⟩ ⟨h1, h2, h3, h4⟩
    simp only at h1 h2 h3 h4
    rcases Nat.lt_or_ge m 128 with hm | hm
    · have hd : ((128 : Int) ≤ (m : Int)) = False := eq_false (by omega)
      have ko := Tryz.kOne m
      rw [uintK_small hm] at h1
      have hsz : (s.length + 1 ≤ 9223372036854775807) = True := eq_true (by omega)
      repeat' (first
       |with_reducible first|refine vSq fun K hK=>?_|refine vRg ?_|refine vBl ?_|refine vSc ?_|refine vIf ?_|refine vSk ?_|refine vEx ?_|refine vRt ?_
       |(with_reducible first|refine gNt (fun h=>?_) (fun h=>?_)|refine gCs (fun h=>?_) (fun h=>?_))<;>(try simp only[h])
       |refine C_pure ko rfl rfl (fun _ => rfl) ?_
       |with_reducible first|(refine hK _ ?_;clear hK K)|(clear hK K;refine hK _ ?_;clear hK K)|(clear hK K;clear hK K;refine hK _ ?_;clear hK K)|(clear hK K;clear hK K;clear hK K;refine hK _ ?_;clear hK K)
       |(with_reducible refine todo ?_;simp +decide only[go_sem, hd, hsz]))
      rw [← h1]
      exact Ret_d rfl rfl
    · have hd : ((128 : Int) ≤ (m : Int)) = True := eq_true (by omega)
      cases k with
      | zero => simp at h2; omega
      | succ k =>
        have ht : Int.tmod (m : Int) 128 = ((m % 128 : Nat) : Int) := tmod_nat m 128
        have hw : IntKind.u64.wrap (((m % 128 : Nat) : Int) + 128) = ((m % 128 + 128 : Nat) : Int) := by rw [Go.IntWalk.u64_in _ (by omega)]; omega
        have ko := Tryz.kOne (m % 128 + 128)
        have hsz : (s.length + 1 ≤ 9223372036854775807) = True := eq_true (by omega)
        have hsh : iShr .u64 (m : Int) 7 = ((m / 128 : Nat) : Int) := by
          show Int.fdiv (m : Int) (2 ^ min 7 64) = _
          rw [show (2 : Int) ^ min 7 64 = ((128 : Nat) : Int) from rfl, Int.fdiv_eq_ediv_of_nonneg _ (by omega)]
          rfl
        have hu : uintK (k + 1) m = UInt8.ofNat ((m % 128 + 128) % 256) :: uintK k (m / 128) := by
          show (if m < 128 then _ else _) = _
          rw [if_neg (by omega)]
        repeat' (first
         |with_reducible first|refine vSq fun K hK=>?_|refine vRg ?_|refine vBl ?_|refine vSc ?_|refine vIf ?_|refine vSk ?_|refine vEx ?_|refine vRt ?_
         |(with_reducible first|refine gNt (fun h=>?_) (fun h=>?_)|refine gCs (fun h=>?_) (fun h=>?_))<;>(try simp only[h])
         |refine C_pure ko rfl rfl (fun _ => rfl) ?_
         |with_reducible first|(refine hK _ ?_;clear hK K)|(clear hK K;refine hK _ ?_;clear hK K)|(clear hK K;clear hK K;refine hK _ ?_;clear hK K)|(clear hK K;clear hK K;clear hK K;refine hK _ ?_;clear hK K)
         |(with_reducible refine todo ?_;simp +decide only[go_sem, hd, ht, hw, hsz, hsh]))
        refine ⟨⟨(k, m / 128, s ++ [UInt8.ofNat ((m % 128 + 128) % 256)]), ⟨?_, ?_, ?_, ?_⟩⟩, Weak_frame ?_ ?_ ?_, by show k < k + 1; omega⟩
        · rw [← h1, hu]; simp
        · rw [pow_128] at h2
          exact Nat.div_lt_of_lt_mul h2
        · simp only [List.length_append, List.length_singleton]; omega
        · simp only; omega
        · simp +decide only [go_sem]
        · simp +decide only [go_sem]
        · simp +decide only [go_sem]
set_option maxRecDepth 8000 in
set_option maxHeartbeats 4000000 in
theorem Tryz.kNumber (n : Nat) (hn : n < 9223372036854775808) : PureOK Tryz.prog 97 [pD (.lit (.int .i64 n))] (.one (.d (dS (uintB n)))) := by
  refine Tryz.pure (md := []) Tryz.func97 rfl Tryz.call97 (by kernel_rfl) (by rfl) (by exact Nat.le_of_ble_eq_true rfl) ?_
  have hw : IntKind.u64.wrap (n : Int) = (n : Int) := Go.IntWalk.u64_in _ (by omega)
  have ku := Tryz.kUint n (by omega)
  repeat' (first
   |with_reducible first|refine vSq fun K hK=>?_|refine vRg ?_|refine vBl ?_|refine vSc ?_|refine vIf ?_|refine vSk ?_|refine vEx ?_|refine vRt ?_
   |(with_reducible first|refine gNt (fun h=>?_) (fun h=>?_)|refine gCs (fun h=>?_) (fun h=>?_))<;>(try simp only[h])
   |refine C_pure ku rfl rfl (fun _ => rfl) ?_
   |with_reducible first|(refine hK _ ?_;clear hK K)|(clear hK K;refine hK _ ?_;clear hK K)|(clear hK K;clear hK K;refine hK _ ?_;clear hK K)|(clear hK K;clear hK K;clear hK K;refine hK _ ?_;clear hK K)
   |(with_reducible refine todo ?_;simp +decide only[go_sem, hw]))
  exact Ret_d rfl rfl
def sum4 (s : List UInt8) : List UInt8 := sumB (crcOf s) 4
theorem sum4_len (s : List UInt8) : (sum4 s).length = 4 := sumB_len _ 4
set_option maxRecDepth 8000 in
set_option maxHeartbeats 4000000 in
theorem Tryz.kSum (s : List UInt8) (hl : s.length ≤ 1073741824) : PureOK Tryz.prog 94 [pD (dS s)] (.one (.d (dS (sum4 s)))) := by
  refine Tryz.pure (md := []) Tryz.func94 rfl Tryz.call94 (by kernel_rfl) (by rfl) (by exact Nat.le_of_ble_eq_true rfl) ?_
  have kp := Tryz.kPut s hl
  have hpl := crcPut_len s
  have hdr : ((crcPut s).drop s.length).take (s.length + 4 - s.length) = sum4 s := by
    have h1 : (crcPut s).drop s.length = sum4 s := by unfold crcPut sum4; rw [List.drop_left]
    rw [h1, List.take_of_length_le (by rw [sum4_len]; omega)]
  repeat' (first
   |with_reducible first|refine vSq fun K hK=>?_|refine vRg ?_|refine vBl ?_|refine vSc ?_|refine vIf ?_|refine vSk ?_|refine vEx ?_|refine vRt ?_
   |(with_reducible first|refine gNt (fun h=>?_) (fun h=>?_)|refine gCs (fun h=>?_) (fun h=>?_))<;>(try simp only[h])
   |refine C_pure kp rfl rfl (fun _ => rfl) ?_
   |refine W_slcS (a := crcPut s) (l := s.length) (h := s.length + 4) Tryz.underlying9 rfl (by simp [optNat, natOf?, intOf?]) (by simp [optNat, hpl]) (by omega) (by omega) ?_
   |with_reducible first|(refine hK _ ?_;clear hK K)|(clear hK K;refine hK _ ?_;clear hK K)|(clear hK K;clear hK K;refine hK _ ?_;clear hK K)|(clear hK K;clear hK K;clear hK K;refine hK _ ?_;clear hK K)
   |(with_reducible refine todo ?_;simp +decide only[go_sem, hdr]))
  exact Ret_d rfl rfl
def behindL (s h : List UInt8) : Option (List UInt8) := if s.take h.length = h then some (s.drop h.length) else none
def behRV (s h : List UInt8) : RV := match behindL s h with
  | some r => .tup [.d (dS r), .d (.lit (.bool true))]
  | none => .tup [.d (dS s), .d (.lit (.bool false))]
set_option maxRecDepth 8000 in
set_option maxHeartbeats 8000000 in
theorem Tryz.kBehind (s h : List UInt8) : PureOK Tryz.prog 88 [pD (dS s), pD (dS h)] (behRV s h) := by
  refine Tryz.pure (md := []) Tryz.func88 rfl Tryz.call88 (by kernel_rfl) (by rfl) (by exact Nat.le_of_ble_eq_true rfl) ?_
  unfold behRV
  rcases Nat.lt_or_ge s.length h.length with hl | hl
  · have e : behindL s h = none := by
      unfold behindL
      rw [if_neg]
      intro e
      have := congrArg List.length e
      rw [List.length_take] at this
      omega
    have hd := int_lt_true hl
    repeat' (first
     |with_reducible first|refine vSq fun K hK=>?_|refine vRg ?_|refine vBl ?_|refine vSc ?_|refine vIf ?_|refine vSk ?_|refine vEx ?_|refine vRt ?_
     |(with_reducible first|refine gNt (fun h=>?_) (fun h=>?_)|refine gCs (fun h=>?_) (fun h=>?_))<;>(try simp only[h])
     |with_reducible first|(refine hK _ ?_;clear hK K)|(clear hK K;refine hK _ ?_;clear hK K)|(clear hK K;clear hK K;refine hK _ ?_;clear hK K)|(clear hK K;clear hK K;clear hK K;refine hK _ ?_;clear hK K)
     |(with_reducible refine todo ?_;simp +decide only[go_sem, hd]))
    rw [e]
    exact Ret_two none rfl (.inl rfl) (.inl rfl)
  · have hd := int_lt_false hl
    have hz : List.drop 0 s = s := rfl
    have ht : List.take (s.length - h.length) (s.drop h.length) = s.drop h.length := List.take_of_length_le (by rw [List.length_drop]; exact Nat.le_refl _)
    cases hq : (s.take h.length == h) with
    | false =>
      have e : behindL s h = none := by unfold behindL; rw [if_neg (by simpa using hq)]
      repeat' (first
       |with_reducible first|refine vSq fun K hK=>?_|refine vRg ?_|refine vBl ?_|refine vSc ?_|refine vIf ?_|refine vSk ?_|refine vEx ?_|refine vRt ?_
       |(with_reducible first|refine gNt (fun h=>?_) (fun h=>?_)|refine gCs (fun h=>?_) (fun h=>?_))<;>(try simp only[h])
       |refine W_slcS (a := s) (l := 0) (h := h.length) Tryz.underlying9 rfl rfl (by simp [optNat, natOf?, intOf?]) (Nat.zero_le _) hl ?_
       |with_reducible first|(refine hK _ ?_;clear hK K)|(clear hK K;refine hK _ ?_;clear hK K)|(clear hK K;clear hK K;refine hK _ ?_;clear hK K)|(clear hK K;clear hK K;clear hK K;refine hK _ ?_;clear hK K)
       |(with_reducible refine todo ?_;simp +decide only[go_sem, hd, hz, Nat.sub_zero, hq]))
      rw [e]
      exact Ret_two none rfl (.inl rfl) (.inl rfl)
    | true =>
      have e : behindL s h = some (s.drop h.length) := by unfold behindL; rw [if_pos (by simpa using hq)]
      repeat' (first
       |with_reducible first|refine vSq fun K hK=>?_|refine vRg ?_|refine vBl ?_|refine vSc ?_|refine vIf ?_|refine vSk ?_|refine vEx ?_|refine vRt ?_
       |(with_reducible first|refine gNt (fun h=>?_) (fun h=>?_)|refine gCs (fun h=>?_) (fun h=>?_))<;>(try simp only[h])
       |refine W_slcS (a := s) (l := 0) (h := h.length) Tryz.underlying9 rfl rfl (by simp [optNat, natOf?, intOf?]) (Nat.zero_le _) hl ?_
       |refine W_slcS (a := s) (l := h.length) (h := s.length) Tryz.underlying9 rfl (by simp [optNat, natOf?, intOf?]) rfl hl (Nat.le_refl _) ?_
       |with_reducible first|(refine hK _ ?_;clear hK K)|(clear hK K;refine hK _ ?_;clear hK K)|(clear hK K;clear hK K;refine hK _ ?_;clear hK K)|(clear hK K;clear hK K;clear hK K;refine hK _ ?_;clear hK K)
       |(with_reducible refine todo ?_;simp +decide only[go_sem, hd, hz, Nat.sub_zero, hq, ht]))
      rw [e]
      exact Ret_two none rfl (.inl rfl) (.inl rfl)
def headL (turn i comes : Nat) : List UInt8 := [76] ++ uintB turn ++ uintB i ++ uintB comes
set_option maxRecDepth 8000 in
set_option maxHeartbeats 4000000 in
theorem Tryz.kHead (turn i comes : Nat) (h1 : turn < 9223372036854775808) (h2 : i < 9223372036854775808) (h3 : comes < 9223372036854775808) :
    PureOK Tryz.prog 122 [pD (.lit (.int .i64 turn)), pD (.lit (.int .i64 i)), pD (.lit (.int .i64 comes))] (.one (.d (dS (headL turn i comes)))) := by
  refine Tryz.pure (md := []) Tryz.func122 rfl Tryz.call122 (by kernel_rfl) (by rfl) (by exact Nat.le_of_ble_eq_true rfl) ?_
  have k1 := Tryz.kNumber turn h1
  have k2 := Tryz.kNumber i h2
  have k3 := Tryz.kNumber comes h3
  have l1 := uintB_len turn; have l2 := uintB_len i; have l3 := uintB_len comes
  have e : headL turn i comes = [76] ++ uintB turn ++ uintB i ++ uintB comes := rfl
  generalize uintB turn = a at *
  generalize uintB i = b at *
  generalize uintB comes = c at *
  have hb1 : (1 + a.length ≤ 9223372036854775807) = True := eq_true (by omega)
  have hb2 : (a.length + 1 + b.length ≤ 9223372036854775807) = True := eq_true (by omega)
  have hb3 : (a.length + b.length + 1 + c.length ≤ 9223372036854775807) = True := eq_true (by omega)
  repeat' (first
   |with_reducible first|refine vSq fun K hK=>?_|refine vRg ?_|refine vBl ?_|refine vSc ?_|refine vIf ?_|refine vSk ?_|refine vEx ?_|refine vRt ?_
   |(with_reducible first|refine gNt (fun h=>?_) (fun h=>?_)|refine gCs (fun h=>?_) (fun h=>?_))<;>(try simp only[h])
   |refine C_pure k1 rfl rfl (fun _ => rfl) ?_
   |refine C_pure k2 rfl rfl (fun _ => rfl) ?_
   |refine C_pure k3 rfl rfl (fun _ => rfl) ?_
   |with_reducible first|(refine hK _ ?_;clear hK K)|(clear hK K;refine hK _ ?_;clear hK K)|(clear hK K;clear hK K;refine hK _ ?_;clear hK K)|(clear hK K;clear hK K;clear hK K;refine hK _ ?_;clear hK K)
   |(with_reducible refine todo ?_;simp +decide only[go_sem, hb1, hb2, hb3]))
  rw [e]
  exact Ret_d rfl rfl
end Go.Proofs

namespace Go.Proofs
open Go.PW
section ptrs
variable {P : Program} {T : TypeId} {i o : Nat}
def isPtr (P : Program) (T : TypeId) : Bool := match P.underlying T with
  | some (.pointer _) => true
  | _ => false
attribute [go_sem] isPtr
theorem isPtr_ex (h : isPtr P T = true) : ∃ q, P.underlying T = some (.pointer q) := by
  unfold isPtr at h
  split at h
  case h_1 q e => exact ⟨q, e⟩
  case h_2 => cases h
@[go_sem] theorem B_peql (h : isPtr P T = true) : binS P .eql T (.c (.ptr i o)) (.c (.d (.lit (.pointer none)))) = some (lit (.bool false)) := by
  obtain ⟨q, h⟩ := isPtr_ex h
  show (eqS P T _ _).map _ = _
  simp only [eqS, h, Option.map]
@[go_sem] theorem B_pneq (h : isPtr P T = true) : binS P .neq T (.c (.ptr i o)) (.c (.d (.lit (.pointer none)))) = some (lit (.bool true)) := by
  obtain ⟨q, h⟩ := isPtr_ex h
  show (eqS P T _ _).map _ = _
  simp only [eqS, h, Option.map, Bool.not_false]
@[go_sem] theorem B_nneq (h : isPtr P T = true) : binS P .neq T (.c (.d (.lit (.pointer none)))) (.c (.d (.lit (.pointer none)))) = some (lit (.bool false)) := by
  obtain ⟨q, h⟩ := isPtr_ex h
  show (eqS P T _ _).map _ = _
  simp only [eqS, h, Option.map, Bool.not_true]
end ptrs
structure Dk where
  n : Nat
  stays : List (Int × List UInt8)
  cache : List (Int × List UInt8)
  writes : Int
  flushes : Int
  fused : Bool
  left : Int
def encW (w : Int × List UInt8) : List D := [.lit (.int .i64 w.1), .lit (.string ⟨w.2.toArray⟩)]
attribute [go_sem] encW
def encDk (κm κc : Tok) (d : Dk) : List CV :=
  [.d (.lit (.int .i64 d.n)), .mpr κm, .own κc (d.cache.map encW), .d (.lit (.int .i64 d.writes)), .d (.lit (.int .i64 d.flushes)), .d (.lit (.bool d.fused)), .d (.lit (.int .i64 d.left))]
structure DkAt (H : HMap) (A : AMap) (id : Nat) (κm κc : Tok) (d : Dk) : Prop where
  h : H id = some (encDk κm κc d)
  m : A κm = some (.mp (encNS d.stays))
  c : A κc = some (.co 2 d.cache.length)
def zeros : List UInt8 := List.replicate 128 0
theorem zeros_len : zeros.length = 128 := by simp [zeros]
theorem Tryz.mk128 : mksS Tryz.prog 84 (.c (.d (.lit (.int .i64 128)))) (.c (.d (.lit (.int .i64 128)))) = some (.c (.full (bytesEls zeros))) := by kernel_rfl
set_option maxRecDepth 8000 in
set_option maxHeartbeats 4000000 in
theorem Tryz.kEmpty : PureOK Tryz.prog 86 [] (.one (.d (dS zeros))) := by
  refine Tryz.pure (md := []) Tryz.func86 rfl Tryz.call86 (by kernel_rfl) (by rfl) (by exact Nat.le_of_ble_eq_true rfl) ?_
  repeat' (first
   |with_reducible first|refine vSq fun K hK=>?_|refine vRg ?_|refine vBl ?_|refine vSc ?_|refine vIf ?_|refine vSk ?_|refine vEx ?_|refine vRt ?_
   |(with_reducible first|refine gNt (fun h=>?_) (fun h=>?_)|refine gCs (fun h=>?_) (fun h=>?_))<;>(try simp only[h])
   |with_reducible first|(refine hK _ ?_;clear hK K)|(clear hK K;refine hK _ ?_;clear hK K)|(clear hK K;clear hK K;refine hK _ ?_;clear hK K)|(clear hK K;clear hK K;clear hK K;refine hK _ ?_;clear hK K)
   |(with_reducible refine todo ?_;simp +decide only[go_sem, Tryz.mk128]))
  exact Ret_d rfl rfl
section disk
variable {H : HMap} {A : AMap} {id : Nat} {κm κc : Tok} {d : Dk}
set_option maxRecDepth 8000 in
set_option maxHeartbeats 4000000 in
theorem Tryz.kLen (off : Nat) (hw : Wf H A) (hd : DkAt H A id κm κc d) : EffOK Tryz.prog 21 off H A [.c (.ptr id 0)] (pD (.lit (.int .i64 d.n))) H A := by
  refine effr_ok (E := envOf Tryz.prog [] off [] []) (envOf_ok Tryz.mixed) Tryz.func21 rfl Tryz.call21 (by kernel_rfl) (by exact Nat.le_of_ble_eq_true rfl) (fun hab => ?_)
  have hid := hd.h
  repeat' (first
   |with_reducible first|refine vSq fun K hK=>?_|refine vRg ?_|refine vBl ?_|refine vSc ?_|refine vIf ?_|refine vSk ?_|refine vEx ?_|refine vRt ?_
   |(with_reducible first|refine gNt (fun h=>?_) (fun h=>?_)|refine gCs (fun h=>?_) (fun h=>?_))<;>(try simp only[h])
   |with_reducible first|(refine hK _ ?_;clear hK K)|(clear hK K;refine hK _ ?_;clear hK K)|(clear hK K;clear hK K;refine hK _ ?_;clear hK K)|(clear hK K;clear hK K;clear hK K;refine hK _ ?_;clear hK K)
   |(with_reducible refine todo ?_;simp +decide only[go_sem, hid, encDk]))
  exact RetR_same rfl (by simp +decide only [go_sem]) True.intro hw kp_refl (fun _ _ => rfl)
def dkRight (d : Dk) (at_ : Int) : Int := if d.n = 0 then 13 else if at_ < 0 ∨ (d.n : Int) ≤ at_ then 2 else 0
set_option maxRecDepth 8000 in
set_option maxHeartbeats 4000000 in
theorem Tryz.kDkRight (off : Nat) (hw : Wf H A) (hd : DkAt H A id κm κc d) (at_ : Int) (hn : 0 < d.n) : EffOK Tryz.prog 85 off H A [.c (.ptr id 0), pD (.lit (.int .i64 at_))] (pD (.lit (.int .i64 (dkRight d at_)))) H A := by
  refine effr_ok (E := envOf Tryz.prog [21] off [] []) (envOf_ok Tryz.mixed) Tryz.func85 rfl Tryz.call85 (by kernel_rfl) (by exact Nat.le_of_ble_eq_true rfl) (fun hab => ?_)
  have hid := hd.h
  have kl := Tryz.kLen (off + 1000) hw hd
  have hz : ((d.n : Int) == 0) = false := by rw [beq_eq_false_iff_ne]; omega
  rcases Int.lt_or_le at_ 0 with h0 | h0
  · have e : dkRight d at_ = 2 := by unfold dkRight; rw [if_neg (by omega), if_pos (.inl h0)]
    have h1 : (at_ < 0) = True := eq_true h0
    repeat' (first
     |with_reducible first|refine vSq fun K hK=>?_|refine vRg ?_|refine vBl ?_|refine vSc ?_|refine vIf ?_|refine vSk ?_|refine vEx ?_|refine vRt ?_
     |(with_reducible first|refine gNt (fun h=>?_) (fun h=>?_)|refine gCs (fun h=>?_) (fun h=>?_))<;>(try simp only[h])
     |refine C_call rfl kl rfl (Above_mono hab (by omega)) ?_
     |with_reducible first|(refine hK _ ?_;clear hK K)|(clear hK K;refine hK _ ?_;clear hK K)|(clear hK K;clear hK K;refine hK _ ?_;clear hK K)|(clear hK K;clear hK K;clear hK K;refine hK _ ?_;clear hK K)
     |(with_reducible refine todo ?_;simp +decide only[go_sem, hz, h1]))
    rw [e]
    exact RetR_same rfl (by simp +decide only [go_sem]) True.intro hw kp_refl (fun _ _ => rfl)
  · have h1 : (at_ < 0) = False := eq_false (by omega)
    rcases Int.lt_or_le at_ d.n with h2 | h2
    · have e : dkRight d at_ = 0 := by unfold dkRight; rw [if_neg (by omega), if_neg (by omega)]
      have h3 : ((d.n : Int) ≤ at_) = False := eq_false (by omega)
      repeat' (first
       |with_reducible first|refine vSq fun K hK=>?_|refine vRg ?_|refine vBl ?_|refine vSc ?_|refine vIf ?_|refine vSk ?_|refine vEx ?_|refine vRt ?_
       |(with_reducible first|refine gNt (fun h=>?_) (fun h=>?_)|refine gCs (fun h=>?_) (fun h=>?_))<;>(try simp only[h])
       |refine C_call rfl kl rfl (Above_mono hab (by omega)) ?_
       |with_reducible first|(refine hK _ ?_;clear hK K)|(clear hK K;refine hK _ ?_;clear hK K)|(clear hK K;clear hK K;refine hK _ ?_;clear hK K)|(clear hK K;clear hK K;clear hK K;refine hK _ ?_;clear hK K)
       |(with_reducible refine todo ?_;simp +decide only[go_sem, hid, encDk, hz, h1, h3]))
      rw [e]
      exact RetR_same rfl (by simp +decide only [go_sem]) True.intro hw kp_refl (fun _ _ => rfl)
    · have e : dkRight d at_ = 2 := by unfold dkRight; rw [if_neg (by omega), if_pos (.inr h2)]
      have h3 : ((d.n : Int) ≤ at_) = True := eq_true h2
      repeat' (first
       |with_reducible first|refine vSq fun K hK=>?_|refine vRg ?_|refine vBl ?_|refine vSc ?_|refine vIf ?_|refine vSk ?_|refine vEx ?_|refine vRt ?_
       |(with_reducible first|refine gNt (fun h=>?_) (fun h=>?_)|refine gCs (fun h=>?_) (fun h=>?_))<;>(try simp only[h])
       |refine C_call rfl kl rfl (Above_mono hab (by omega)) ?_
       |with_reducible first|(refine hK _ ?_;clear hK K)|(clear hK K;refine hK _ ?_;clear hK K)|(clear hK K;clear hK K;refine hK _ ?_;clear hK K)|(clear hK K;clear hK K;clear hK K;refine hK _ ?_;clear hK K)
       |(with_reducible refine todo ?_;simp +decide only[go_sem, hid, encDk, hz, h1, h3]))
      rw [e]
      exact RetR_same rfl (by simp +decide only [go_sem]) True.intro hw kp_refl (fun _ _ => rfl)
def burnt (d : Dk) : Bool := d.fused && (d.left == 0)
set_option maxRecDepth 8000 in
set_option maxHeartbeats 4000000 in
theorem Tryz.kBurnt (off : Nat) (hw : Wf H A) (hd : DkAt H A id κm κc d) : EffOK Tryz.prog 124 off H A [.c (.ptr id 0)] (pD (.lit (.bool (burnt d)))) H A := by
  refine effr_ok (E := envOf Tryz.prog [] off [] []) (envOf_ok Tryz.mixed) Tryz.func124 rfl Tryz.call124 (by kernel_rfl) (by exact Nat.le_of_ble_eq_true rfl) (fun hab => ?_)
  have hid := hd.h
  have e : burnt d = (d.fused && (d.left == 0)) := rfl
  cases hf : d.fused with
  | false =>
    rw [hf] at e
    repeat' (first
     |with_reducible first|refine vSq fun K hK=>?_|refine vRg ?_|refine vBl ?_|refine vSc ?_|refine vIf ?_|refine vSk ?_|refine vEx ?_|refine vRt ?_
     |(with_reducible first|refine gNt (fun h=>?_) (fun h=>?_)|refine gCs (fun h=>?_) (fun h=>?_))<;>(try simp only[h])
     |with_reducible first|(refine hK _ ?_;clear hK K)|(clear hK K;refine hK _ ?_;clear hK K)|(clear hK K;clear hK K;refine hK _ ?_;clear hK K)|(clear hK K;clear hK K;clear hK K;refine hK _ ?_;clear hK K)
     |(with_reducible refine todo ?_;simp +decide only[go_sem, hid, encDk, hf]))
    rw [e]
    exact RetR_same rfl (by simp +decide only [go_sem]) True.intro hw kp_refl (fun _ _ => rfl)
  | true =>
    rw [hf] at e
    repeat' (first
     |with_reducible first|refine vSq fun K hK=>?_|refine vRg ?_|refine vBl ?_|refine vSc ?_|refine vIf ?_|refine vSk ?_|refine vEx ?_|refine vRt ?_
     |(with_reducible first|refine gNt (fun h=>?_) (fun h=>?_)|refine gCs (fun h=>?_) (fun h=>?_))<;>(try simp only[h])
     |with_reducible first|(refine hK _ ?_;clear hK K)|(clear hK K;refine hK _ ?_;clear hK K)|(clear hK K;clear hK K;refine hK _ ?_;clear hK K)|(clear hK K;clear hK K;clear hK K;refine hK _ ?_;clear hK K)
     |(with_reducible refine todo ?_;simp +decide only[go_sem, hid, encDk, hf]))
    rw [e]
    exact RetR_same rfl (by simp +decide only [go_sem]) True.intro hw kp_refl (fun _ _ => rfl)
end disk
end Go.Proofs
