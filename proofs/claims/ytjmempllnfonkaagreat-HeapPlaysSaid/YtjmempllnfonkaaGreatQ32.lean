/-
  Parts of the proof, laid together: PwCd, PwNs.
-/
import Derived.Test.YtjmempllnfonkaaGreatQ17

namespace Go.Proofs
open Go.PW
set_option maxRecDepth 8000 in
set_option maxHeartbeats 8000000 in
theorem Tryz.rMore (s : Nat) (l : List UInt8) (hs : s < 4294967296) (hl : l.length ≤ 4294967296) : PureOK Tryz.prog 145 [pD (u32D s), pD (dS l)] (.one (.d (u32D (crcMore s l)))) := by
  refine Tryz.pure (md := []) Tryz.func145 rfl Tryz.call145 (by kernel_rfl) (by rfl) (by exact Nat.le_of_ble_eq_true rfl) ?_
  have hn0 : IntKind.u32.wrap (4294967295 - (s : Int)) = ((4294967295 ^^^ s : Nat) : Int) := by
    rw [show (4294967295 - (s : Int)) = ((4294967295 - s : Nat) : Int) by omega, u32_nat (by omega), not_sub hs]
  have c8 : ((8 : Nat) : Int) = 8 := rfl
  repeat' (first
   |with_reducible first|refine vSq fun K hK=>?_|refine vRg ?_|refine vBl ?_|refine vSc ?_|refine vIf ?_|refine vSk ?_|refine vEx ?_|refine vRt ?_
   |(with_reducible first|refine gNt (fun h=>?_) (fun h=>?_)|refine gCs (fun h=>?_) (fun h=>?_))<;>(try simp only[h])
   |with_reducible first|(refine hK _ ?_;clear hK K)|(clear hK K;refine hK _ ?_;clear hK K)|(clear hK K;clear hK K;refine hK _ ?_;clear hK K)|(clear hK K;clear hK K;clear hK K;refine hK _ ?_;clear hK K)
   |(with_reducible refine todo ?_;simp +decide only[go_sem, u32D, hn0]))
  refine VC_range l.length (fun _ => True) (fun i => frame [(1, pD (dS l)), (5, pD (u32D ((l.take i).foldl crcStep (4294967295 ^^^ s)))), (6, pD (.lit (.int .i64 i)))] [] []) True.intro ?_ ?_
  · refine Weak_frame ?_ ?_ ?_ <;> simp +decide only [go_sem, List.foldl_nil, u32D]
  · intro i hi hI
    rcases Nat.lt_or_ge i l.length with hlt | hge
    · have hg := List.getElem?_eq_getElem hlt
      have hd := int_lt_true hlt
      have hwi := int_next hlt (show l.length ≤ 4294967296 by omega)
      generalize l[i] = b at hg
      have hnx := foldl_next (f := crcStep) (b := 4294967295 ^^^ s) hg
      have hn : (l.take i).foldl crcStep (4294967295 ^^^ s) < 4294967296 := crcFold_lt _ (xor_lt (by decide) hs)
      generalize (l.take i).foldl crcStep (4294967295 ^^^ s) = n at *
      have hb : b.toNat < 4294967296 := by have := b.toNat_lt; omega
      have hwb : IntKind.u32.wrap (b.toNat : Int) = (b.toNat : Int) := u32_nat hb
      have hx := iXor_u32 hn hb
      have hst := crcStep_eq (n := n) b
      have hm := xor_lt hn hb
      generalize n ^^^ b.toNat = m at *
      repeat' (first
       |with_reducible first|refine vSq fun K hK=>?_|refine vRg ?_|refine vBl ?_|refine vSc ?_|refine vIf ?_|refine vSk ?_|refine vEx ?_|refine vRt ?_
       |(with_reducible first|refine gNt (fun h=>?_) (fun h=>?_)|refine gCs (fun h=>?_) (fun h=>?_))<;>(try simp only[h])
       |with_reducible first|(refine hK _ ?_;clear hK K)|(clear hK K;refine hK _ ?_;clear hK K)|(clear hK K;clear hK K;refine hK _ ?_;clear hK K)|(clear hK K;clear hK K;clear hK K;refine hK _ ?_;clear hK K)
       |(with_reducible refine todo ?_;simp +decide only[go_sem, hg, hd, u32D, hwb, hx]))
      refine VC_range 8 (fun _ => True) (fun k => frame [(1, pD (dS l)), (5, pD (u32D (stK k m))), (6, pD (.lit (.int .i64 i))), (7, pD (.lit (.int .i64 k)))] [] []) True.intro ?_ ?_
      · refine Weak_frame ?_ ?_ ?_ <;> simp +decide only [go_sem, stK, u32D]
      · intro k hk hK'
        rcases Nat.lt_or_ge k 8 with hlt2 | hge2
        · have hd2 : ((k : Int) < 8) = True := eq_true (by omega)
          have hwk := int_next hlt2 (by decide)
          have hq := stK_lt hm k
          have hnx2 : stK (k + 1) m = st1 (stK k m) := rfl
          generalize stK k m = q at *
          have ht : Int.tmod (q : Int) 2 = ((q % 2 : Nat) : Int) := tmod_nat q 2
          have hv : Int.tdiv (q : Int) 2 = ((q / 2 : Nat) : Int) := tdiv_nat q 2
          have hu : IntKind.u32.wrap ((q / 2 : Nat) : Int) = ((q / 2 : Nat) : Int) := u32_nat (by omega)
          rcases Nat.mod_two_eq_zero_or_one q with h0 | h0
          · have hst1 : st1 q = q / 2 := by unfold st1; rw [if_neg (by omega)]
            have he : (((q % 2 : Nat) : Int) == 1) = false := by rw [h0]; rfl
            repeat' (first
             |with_reducible first|refine vSq fun K hK=>?_|refine vRg ?_|refine vBl ?_|refine vSc ?_|refine vIf ?_|refine vSk ?_|refine vEx ?_|refine vRt ?_
             |(with_reducible first|refine gNt (fun h=>?_) (fun h=>?_)|refine gCs (fun h=>?_) (fun h=>?_))<;>(try simp only[h])
             |with_reducible first|(refine hK _ ?_;clear hK K)|(clear hK K;refine hK _ ?_;clear hK K)|(clear hK K;clear hK K;refine hK _ ?_;clear hK K)|(clear hK K;clear hK K;clear hK K;refine hK _ ?_;clear hK K)
             |(with_reducible refine todo ?_;simp +decide only[go_sem, hd2, hwk, u32D, ht, hv, hu, he]))
            refine Next_of hlt2 True.intro (Weak_frame ?_ ?_ ?_) <;> simp +decide only [go_sem, hnx2, hst1]
          · have hst1 : st1 q = (q / 2) ^^^ 3988292384 := by unfold st1; rw [if_pos h0]
            have he : (((q % 2 : Nat) : Int) == 1) = true := by rw [h0]; rfl
            have hxx : iXor .u32 ((q / 2 : Nat) : Int) 3988292384 = ((q / 2 ^^^ 3988292384 : Nat) : Int) := iXor_u32 (n := 3988292384) (by omega) (by decide)
            repeat' (first
             |with_reducible first|refine vSq fun K hK=>?_|refine vRg ?_|refine vBl ?_|refine vSc ?_|refine vIf ?_|refine vSk ?_|refine vEx ?_|refine vRt ?_
             |(with_reducible first|refine gNt (fun h=>?_) (fun h=>?_)|refine gCs (fun h=>?_) (fun h=>?_))<;>(try simp only[h])
             |with_reducible first|(refine hK _ ?_;clear hK K)|(clear hK K;refine hK _ ?_;clear hK K)|(clear hK K;clear hK K;refine hK _ ?_;clear hK K)|(clear hK K;clear hK K;clear hK K;refine hK _ ?_;clear hK K)
             |(with_reducible refine todo ?_;simp +decide only[go_sem, hd2, hwk, u32D, ht, hv, hu, he, hxx]))
            refine Next_of hlt2 True.intro (Weak_frame ?_ ?_ ?_) <;> simp +decide only [go_sem, hnx2, hst1]
        · have hk8 : k = 8 := by omega
          subst hk8
          have hst2 : stK 8 m = crcStep n b := by rw [hst]; rfl
          repeat' (first
           |with_reducible first|refine vSq fun K hK=>?_|refine vRg ?_|refine vBl ?_|refine vSc ?_|refine vIf ?_|refine vSk ?_|refine vEx ?_|refine vRt ?_
           |(with_reducible first|refine gNt (fun h=>?_) (fun h=>?_)|refine gCs (fun h=>?_) (fun h=>?_))<;>(try simp only[h])
           |with_reducible first|(refine hK _ ?_;clear hK K)|(clear hK K;refine hK _ ?_;clear hK K)|(clear hK K;clear hK K;refine hK _ ?_;clear hK K)|(clear hK K;clear hK K;clear hK K;refine hK _ ?_;clear hK K)
           |(with_reducible refine todo ?_;simp +decide only[go_sem, c8, hwi, hst2]))
          refine Next_of hlt True.intro (Weak_frame ?_ ?_ ?_) <;> simp +decide only [go_sem, hnx]
    · have hd := int_lt_false hge
      rw [List.take_of_length_le hge]
      have hn : l.foldl crcStep (4294967295 ^^^ s) < 4294967296 := crcFold_lt _ (xor_lt (by decide) hs)
      have hc : crcMore s l = 4294967295 ^^^ l.foldl crcStep (4294967295 ^^^ s) := rfl
      have hend : IntKind.u32.wrap (4294967295 - ((l.foldl crcStep (4294967295 ^^^ s) : Nat) : Int)) = ((crcMore s l : Nat) : Int) := by
        rw [hc, show (4294967295 - ((l.foldl crcStep (4294967295 ^^^ s) : Nat) : Int)) = ((4294967295 - l.foldl crcStep (4294967295 ^^^ s) : Nat) : Int) by omega, u32_nat (by omega), not_sub hn]
      repeat' (first
       |with_reducible first|refine vSq fun K hK=>?_|refine vRg ?_|refine vBl ?_|refine vSc ?_|refine vIf ?_|refine vSk ?_|refine vEx ?_|refine vRt ?_
       |(with_reducible first|refine gNt (fun h=>?_) (fun h=>?_)|refine gCs (fun h=>?_) (fun h=>?_))<;>(try simp only[h])
       |with_reducible first|(refine hK _ ?_;clear hK K)|(clear hK K;refine hK _ ?_;clear hK K)|(clear hK K;clear hK K;refine hK _ ?_;clear hK K)|(clear hK K;clear hK K;clear hK K;refine hK _ ?_;clear hK K)
       |(with_reducible refine todo ?_;simp +decide only[go_sem, hd, u32D, hend]))
      exact Ret_d rfl rfl
theorem Tryz.rOf (l : List UInt8) (hl : l.length ≤ 4294967296) : PureOK Tryz.prog 143 [pD (dS l)] (.one (.d (u32D (crcOf l)))) := by
  refine Tryz.pure (md := []) Tryz.func143 rfl Tryz.call143 (by kernel_rfl) (by rfl) (by exact Nat.le_of_ble_eq_true rfl) ?_
  have km := Tryz.rMore 0 l (by decide) hl
  change PureOK _ _ [pD (.lit (.int .u32 0)), _] _ at km
  repeat' (first
   |with_reducible first|refine vSq fun K hK=>?_|refine vRg ?_|refine vBl ?_|refine vSc ?_|refine vIf ?_|refine vSk ?_|refine vEx ?_|refine vRt ?_
   |(with_reducible first|refine gNt (fun h=>?_) (fun h=>?_)|refine gCs (fun h=>?_) (fun h=>?_))<;>(try simp only[h])
   |refine C_pure km rfl rfl (fun _ => rfl) ?_
   |with_reducible first|(refine hK _ ?_;clear hK K)|(clear hK K;refine hK _ ?_;clear hK K)|(clear hK K;clear hK K;refine hK _ ?_;clear hK K)|(clear hK K;clear hK K;clear hK K;refine hK _ ?_;clear hK K)
   |(with_reducible refine todo ?_;simp +decide only[go_sem]))
  exact Ret_d rfl rfl
set_option maxRecDepth 8000 in
set_option maxHeartbeats 8000000 in
theorem Tryz.rPut (l : List UInt8) (hl : l.length ≤ 1073741824) : PureOK Tryz.prog 135 [pD (dS l)] (.one (.d (dS (crcPut l)))) := by
  refine Tryz.pure (md := []) Tryz.func135 rfl Tryz.call135 (by kernel_rfl) (by rfl) (by exact Nat.le_of_ble_eq_true rfl) ?_
  have ko := Tryz.rOf l (by omega)
  have hb := crcOf_lt l
  have c4 : ((4 : Nat) : Int) = 4 := rfl
  repeat' (first
   |with_reducible first|refine vSq fun K hK=>?_|refine vRg ?_|refine vBl ?_|refine vSc ?_|refine vIf ?_|refine vSk ?_|refine vEx ?_|refine vRt ?_
   |(with_reducible first|refine gNt (fun h=>?_) (fun h=>?_)|refine gCs (fun h=>?_) (fun h=>?_))<;>(try simp only[h])
   |refine C_pure ko rfl rfl (fun _ => rfl) ?_
   |with_reducible first|(refine hK _ ?_;clear hK K)|(clear hK K;refine hK _ ?_;clear hK K)|(clear hK K;clear hK K;refine hK _ ?_;clear hK K)|(clear hK K;clear hK K;clear hK K;refine hK _ ?_;clear hK K)
   |(with_reducible refine todo ?_;simp +decide only[go_sem]))
  refine VC_range 4 (fun _ => True) (fun i => frame [(3, pD (u32D (crcOf l / 256 ^ i))), (4, pD (dS (l ++ sumB (crcOf l) i))), (5, pD (.lit (.int .i64 i)))] [] []) True.intro ?_ ?_
  · refine Weak_frame ?_ ?_ ?_ <;> simp +decide only [go_sem, sumB, u32D, Nat.pow_zero, Nat.div_one]
  · intro i hi hI
    generalize hc : crcOf l = c at *
    have hcl : (l ++ sumB c i).length = l.length + i := by rw [List.length_append, sumB_len]
    rcases Nat.lt_or_ge i 4 with hlt | hge
    · have hd : ((i : Int) < 4) = True := eq_true (by omega)
      have hwi := int_next hlt (by decide)
      have hle : c / 256 ^ i ≤ c := Nat.div_le_self _ _
      have ht : Int.tmod ((c / 256 ^ i : Nat) : Int) 256 = ((c / 256 ^ i % 256 : Nat) : Int) := tmod_nat _ 256
      have h8 : IntKind.u8.wrap ((c / 256 ^ i % 256 : Nat) : Int) = ((c / 256 ^ i % 256 : Nat) : Int) := Go.IntWalk.u8_in _ (by omega)
      have hone : [[D.lit (.int .u8 ((c / 256 ^ i % 256 : Nat) : Int))]] = bytesEls [UInt8.ofNat (c / 256 ^ i % 256)] := by
        rw [bytesEls_one _ (by omega) (by omega), Int.toNat_natCast]
      have hv : Int.tdiv ((c / 256 ^ i : Nat) : Int) 256 = ((c / 256 ^ (i + 1) : Nat) : Int) := by
        rw [show (256 : Int) = ((256 : Nat) : Int) from rfl, tdiv_nat, Nat.div_div_eq_div_mul]
        rfl
      have hle2 : c / 256 ^ (i + 1) ≤ c := Nat.div_le_self _ _
      have hu : IntKind.u32.wrap ((c / 256 ^ (i + 1) : Nat) : Int) = ((c / 256 ^ (i + 1) : Nat) : Int) := u32_nat (by omega)
      have hsz : (l.length + i + 1 ≤ 9223372036854775807) = True := eq_true (by omega)
      have hnx : l ++ sumB c (i + 1) = l ++ sumB c i ++ [UInt8.ofNat (c / 256 ^ i % 256)] := by rw [sumB, List.append_assoc]
      repeat' (first
       |with_reducible first|refine vSq fun K hK=>?_|refine vRg ?_|refine vBl ?_|refine vSc ?_|refine vIf ?_|refine vSk ?_|refine vEx ?_|refine vRt ?_
       |(with_reducible first|refine gNt (fun h=>?_) (fun h=>?_)|refine gCs (fun h=>?_) (fun h=>?_))<;>(try simp only[h])
       |with_reducible first|(refine hK _ ?_;clear hK K)|(clear hK K;refine hK _ ?_;clear hK K)|(clear hK K;clear hK K;refine hK _ ?_;clear hK K)|(clear hK K;clear hK K;clear hK K;refine hK _ ?_;clear hK K)
       |(with_reducible refine todo ?_;simp +decide only[go_sem, hd, hwi, u32D, ht, h8, hone, hv, hu, hcl, hsz]))
      refine Next_of hlt True.intro (Weak_frame ?_ ?_ ?_) <;> simp +decide only [go_sem, hnx]
    · have hi4 : i = 4 := by omega
      subst hi4
      repeat' (first
       |with_reducible first|refine vSq fun K hK=>?_|refine vRg ?_|refine vBl ?_|refine vSc ?_|refine vIf ?_|refine vSk ?_|refine vEx ?_|refine vRt ?_
       |(with_reducible first|refine gNt (fun h=>?_) (fun h=>?_)|refine gCs (fun h=>?_) (fun h=>?_))<;>(try simp only[h])
       |with_reducible first|(refine hK _ ?_;clear hK K)|(clear hK K;refine hK _ ?_;clear hK K)|(clear hK K;clear hK K;refine hK _ ?_;clear hK K)|(clear hK K;clear hK K;clear hK K;refine hK _ ?_;clear hK K)
       |(with_reducible refine todo ?_;simp +decide only[go_sem, c4]))
      rw [crcPut, hc]
      exact Ret_d rfl rfl
set_option maxRecDepth 8000 in
set_option maxHeartbeats 8000000 in
theorem Tryz.rTake (s : List UInt8) (hl : s.length ≤ 1073741824) : PureOK Tryz.prog 134 [pD (dS s)] (optS (crcTake s)) := by
  refine Tryz.pure (md := []) Tryz.func134 rfl Tryz.call134 (by kernel_rfl) (by rfl) (by exact Nat.le_of_ble_eq_true rfl) ?_
  rcases Nat.lt_or_ge s.length 4 with h4 | h4
  · have e : crcTake s = none := by unfold crcTake; rw [if_neg (by omega)]
    have hd : ((s.length : Int) < 4) = True := eq_true (by omega)
    repeat' (first
     |with_reducible first|refine vSq fun K hK=>?_|refine vRg ?_|refine vBl ?_|refine vSc ?_|refine vIf ?_|refine vSk ?_|refine vEx ?_|refine vRt ?_
     |(with_reducible first|refine gNt (fun h=>?_) (fun h=>?_)|refine gCs (fun h=>?_) (fun h=>?_))<;>(try simp only[h])
     |with_reducible first|(refine hK _ ?_;clear hK K)|(clear hK K;refine hK _ ?_;clear hK K)|(clear hK K;clear hK K;refine hK _ ?_;clear hK K)|(clear hK K;clear hK K;clear hK K;refine hK _ ?_;clear hK K)
     |(with_reducible refine todo ?_;simp +decide only[go_sem, hd]))
    rw [e]
    exact Ret_two none rfl (.inl rfl) (.inl rfl)
  · have hw : IntKind.i64.wrap ((s.length : Int) - 4) = ((s.length - 4 : Nat) : Int) := by rw [Go.IntWalk.i64_in _ (by omega)]; omega
    have hd : ((s.length : Int) < 4) = False := eq_false (by omega)
    have hz : List.drop 0 s = s := rfl
    have kp := Tryz.rPut (s.take (s.length - 4)) (by rw [List.length_take]; omega)
    have e0 : crcTake s = if crcPut (s.take (s.length - 4)) = s then some (s.take (s.length - 4)) else none := by unfold crcTake; rw [if_pos h4]
    cases hq : (crcPut (s.take (s.length - 4)) == s) with
    | false =>
      have e : crcTake s = none := by rw [e0, if_neg (by simpa using hq)]
      repeat' (first
       |with_reducible first|refine vSq fun K hK=>?_|refine vRg ?_|refine vBl ?_|refine vSc ?_|refine vIf ?_|refine vSk ?_|refine vEx ?_|refine vRt ?_
       |(with_reducible first|refine gNt (fun h=>?_) (fun h=>?_)|refine gCs (fun h=>?_) (fun h=>?_))<;>(try simp only[h])
       |refine C_pure kp rfl rfl (fun _ => rfl) ?_
       |refine W_slcS (a := s) (l := 0) (h := s.length - 4) Tryz.underlying9 rfl rfl (by simp [optNat, natOf?, intOf?]) (Nat.zero_le _) (Nat.sub_le _ _) ?_
       |with_reducible first|(refine hK _ ?_;clear hK K)|(clear hK K;refine hK _ ?_;clear hK K)|(clear hK K;clear hK K;refine hK _ ?_;clear hK K)|(clear hK K;clear hK K;clear hK K;refine hK _ ?_;clear hK K)
       |(with_reducible refine todo ?_;simp +decide only[go_sem, hw, hd, hz, Nat.sub_zero, hq]))
      rw [e]
      exact Ret_two none rfl (.inl rfl) (.inl rfl)
    | true =>
      have e : crcTake s = some (s.take (s.length - 4)) := by rw [e0, if_pos (by simpa using hq)]
      repeat' (first
       |with_reducible first|refine vSq fun K hK=>?_|refine vRg ?_|refine vBl ?_|refine vSc ?_|refine vIf ?_|refine vSk ?_|refine vEx ?_|refine vRt ?_
       |(with_reducible first|refine gNt (fun h=>?_) (fun h=>?_)|refine gCs (fun h=>?_) (fun h=>?_))<;>(try simp only[h])
       |refine C_pure kp rfl rfl (fun _ => rfl) ?_
       |refine W_slcS (a := s) (l := 0) (h := s.length - 4) Tryz.underlying9 rfl rfl (by simp [optNat, natOf?, intOf?]) (Nat.zero_le _) (Nat.sub_le _ _) ?_
       |with_reducible first|(refine hK _ ?_;clear hK K)|(clear hK K;refine hK _ ?_;clear hK K)|(clear hK K;clear hK K;refine hK _ ?_;clear hK K)|(clear hK K;clear hK K;clear hK K;refine hK _ ?_;clear hK K)
       |(with_reducible refine todo ?_;simp +decide only[go_sem, hw, hd, hz, Nat.sub_zero, hq]))
      rw [e]
      exact Ret_two none rfl (.inl rfl) (.inl rfl)
end Go.Proofs

namespace Go.Proofs
open Go.PW
set_option maxRecDepth 8000 in
set_option maxHeartbeats 8000000 in
theorem Tryz.rSeal (b : List UInt8) (hl : b.length ≤ 1073741824) : PureOK Tryz.prog 108 [pD (dS b)] (.one (.d (dS (sealB b)))) := by
  refine Tryz.pure (md := []) Tryz.func108 rfl Tryz.call108 (by kernel_rfl) (by rfl) (by exact Nat.le_of_ble_eq_true rfl) ?_
  rcases Nat.lt_or_ge 123 b.length with h | h
  · have e : sealB b = [] := by unfold sealB; rw [if_neg (by omega)]
    have hd : ((123 : Int) < (b.length : Int)) = True := eq_true (by omega)
    repeat' (first
     |with_reducible first|refine vSq fun K hK=>?_|refine vRg ?_|refine vBl ?_|refine vSc ?_|refine vIf ?_|refine vSk ?_|refine vEx ?_|refine vRt ?_
     |(with_reducible first|refine gNt (fun h=>?_) (fun h=>?_)|refine gCs (fun h=>?_) (fun h=>?_))<;>(try simp only[h])
     |with_reducible first|(refine hK _ ?_;clear hK K)|(clear hK K;refine hK _ ?_;clear hK K)|(clear hK K;clear hK K;refine hK _ ?_;clear hK K)|(clear hK K;clear hK K;clear hK K;refine hK _ ?_;clear hK K)
     |(with_reducible refine todo ?_;simp +decide only[go_sem, hd]))
    rw [e]
    exact Ret_d rfl rfl
  · have e : sealB b = [UInt8.ofNat b.length] ++ crcPut b := by unfold sealB; rw [if_pos h]; rfl
    have hd : ((123 : Int) < (b.length : Int)) = False := eq_false (by omega)
    have h8 : IntKind.u8.wrap (b.length : Int) = (b.length : Int) := Go.IntWalk.u8_in _ (by omega)
    have hone : [[D.lit (.int .u8 (b.length : Int))]] = bytesEls [UInt8.ofNat b.length] := by rw [bytesEls_one _ (by omega) (by omega), Int.toNat_natCast]
    have kp := Tryz.rPut b hl
    have hpl := crcPut_len b
    have hsz : ((1 : Nat) + (b.length + 4) ≤ 9223372036854775807) = True := eq_true (by omega)
    repeat' (first
     |with_reducible first|refine vSq fun K hK=>?_|refine vRg ?_|refine vBl ?_|refine vSc ?_|refine vIf ?_|refine vSk ?_|refine vEx ?_|refine vRt ?_
     |(with_reducible first|refine gNt (fun h=>?_) (fun h=>?_)|refine gCs (fun h=>?_) (fun h=>?_))<;>(try simp only[h])
     |refine C_pure kp rfl rfl (fun _ => rfl) ?_
     |with_reducible first|(refine hK _ ?_;clear hK K)|(clear hK K;refine hK _ ?_;clear hK K)|(clear hK K;clear hK K;refine hK _ ?_;clear hK K)|(clear hK K;clear hK K;clear hK K;refine hK _ ?_;clear hK K)
     |(with_reducible refine todo ?_;simp +decide only[go_sem, hd, h8, hone, hpl, hsz]))
    rw [e]
    exact Ret_d rfl rfl
set_option maxRecDepth 8000 in
set_option maxHeartbeats 8000000 in
theorem Tryz.rUnseal (s : List UInt8) (hl : s.length ≤ 1073741824) : PureOK Tryz.prog 102 [pD (dS s)] (optS (unsealB s)) := by
  refine Tryz.pure (md := []) Tryz.func102 rfl Tryz.call102 (by kernel_rfl) (by rfl) (by exact Nat.le_of_ble_eq_true rfl) ?_
  cases s with
  | nil =>
    repeat' (first
     |with_reducible first|refine vSq fun K hK=>?_|refine vRg ?_|refine vBl ?_|refine vSc ?_|refine vIf ?_|refine vSk ?_|refine vEx ?_|refine vRt ?_
     |(with_reducible first|refine gNt (fun h=>?_) (fun h=>?_)|refine gCs (fun h=>?_) (fun h=>?_))<;>(try simp only[h])
     |with_reducible first|(refine hK _ ?_;clear hK K)|(clear hK K;refine hK _ ?_;clear hK K)|(clear hK K;clear hK K;refine hK _ ?_;clear hK K)|(clear hK K;clear hK K;clear hK K;refine hK _ ?_;clear hK K)
     |(with_reducible refine todo ?_;simp +decide only[go_sem, nil_eq_nil]))
    exact Ret_two none rfl (.inl rfl) (.inl rfl)
  | cons c r =>
    rw [List.length_cons] at hl
    have hcl := c.toNat_lt
    have e : unsealB (c :: r) = if c.toNat ≤ 123 then (if c.toNat + 4 ≤ r.length then crcTake (r.take (c.toNat + 4)) else none) else none := rfl
    have hw : IntKind.i64.wrap (c.toNat : Int) = (c.toNat : Int) := Go.IntWalk.i64_in _ (by omega)
    have hw5 : IntKind.i64.wrap ((c.toNat : Int) + 5) = ((c.toNat + 5 : Nat) : Int) := by rw [Go.IntWalk.i64_in _ (by omega)]; omega
    have hs5 : c.toNat + 5 - 1 = c.toNat + 4 := by omega
    rcases Nat.lt_or_ge 123 c.toNat with h | h
    · have hd : ((123 : Int) < (c.toNat : Int)) = True := eq_true (by omega)
      repeat' (first
       |with_reducible first|refine vSq fun K hK=>?_|refine vRg ?_|refine vBl ?_|refine vSc ?_|refine vIf ?_|refine vSk ?_|refine vEx ?_|refine vRt ?_
       |(with_reducible first|refine gNt (fun h=>?_) (fun h=>?_)|refine gCs (fun h=>?_) (fun h=>?_))<;>(try simp only[h])
       |with_reducible first|(refine hK _ ?_;clear hK K)|(clear hK K;refine hK _ ?_;clear hK K)|(clear hK K;clear hK K;refine hK _ ?_;clear hK K)|(clear hK K;clear hK K;clear hK K;refine hK _ ?_;clear hK K)
       |(with_reducible refine todo ?_;simp +decide only[go_sem, nil_eq_cons, hd]))
      rw [e, if_neg (by omega)]
      exact Ret_two none rfl (.inl rfl) (.inl rfl)
    · have hd : ((123 : Int) < (c.toNat : Int)) = False := eq_false (by omega)
      rcases Nat.lt_or_ge r.length (c.toNat + 4) with h2 | h2
      · have hd2 : (((r.length + 1 : Nat) : Int) < ((c.toNat + 5 : Nat) : Int)) = True := eq_true (by omega)
        repeat' (first
         |with_reducible first|refine vSq fun K hK=>?_|refine vRg ?_|refine vBl ?_|refine vSc ?_|refine vIf ?_|refine vSk ?_|refine vEx ?_|refine vRt ?_
         |(with_reducible first|refine gNt (fun h=>?_) (fun h=>?_)|refine gCs (fun h=>?_) (fun h=>?_))<;>(try simp only[h])
         |with_reducible first|(refine hK _ ?_;clear hK K)|(clear hK K;refine hK _ ?_;clear hK K)|(clear hK K;clear hK K;refine hK _ ?_;clear hK K)|(clear hK K;clear hK K;clear hK K;refine hK _ ?_;clear hK K)
         |(with_reducible refine todo ?_;simp +decide only[go_sem, nil_eq_cons, hw, hd, hw5, hd2]))
        rw [e, if_pos h, if_neg (by omega)]
        exact Ret_two none rfl (.inl rfl) (.inl rfl)
      · have hd2 : (((r.length + 1 : Nat) : Int) < ((c.toNat + 5 : Nat) : Int)) = False := eq_false (by omega)
        have kt := Tryz.rTake (r.take (c.toNat + 4)) (by rw [List.length_take]; omega)
        rw [e, if_pos h, if_pos h2]
        cases ht : crcTake (r.take (c.toNat + 4)) with
        | none =>
          rw [ht] at kt
          simp only [optS] at kt
          repeat' (first
           |with_reducible first|refine vSq fun K hK=>?_|refine vRg ?_|refine vBl ?_|refine vSc ?_|refine vIf ?_|refine vSk ?_|refine vEx ?_|refine vRt ?_
           |(with_reducible first|refine gNt (fun h=>?_) (fun h=>?_)|refine gCs (fun h=>?_) (fun h=>?_))<;>(try simp only[h])
           |refine C_pure kt rfl rfl (fun _ => rfl) ?_
           |(refine W_slcS (a := c :: r) (l := 1) (h := c.toNat + 5) Tryz.underlying9 rfl rfl (by simp [optNat, natOf?, intOf?]; omega) (by omega) (by rw [List.length_cons]; omega) ?_)
           |with_reducible first|(refine hK _ ?_;clear hK K)|(clear hK K;refine hK _ ?_;clear hK K)|(clear hK K;clear hK K;refine hK _ ?_;clear hK K)|(clear hK K;clear hK K;clear hK K;refine hK _ ?_;clear hK K)
           |(with_reducible refine todo ?_;simp +decide only[go_sem, nil_eq_cons, hw, hd, hw5, hd2, hs5]))
          exact Ret_two none rfl (.inl rfl) (.inl rfl)
        | some t =>
          rw [ht] at kt
          simp only [optS] at kt
          repeat' (first
           |with_reducible first|refine vSq fun K hK=>?_|refine vRg ?_|refine vBl ?_|refine vSc ?_|refine vIf ?_|refine vSk ?_|refine vEx ?_|refine vRt ?_
           |(with_reducible first|refine gNt (fun h=>?_) (fun h=>?_)|refine gCs (fun h=>?_) (fun h=>?_))<;>(try simp only[h])
           |refine C_pure kt rfl rfl (fun _ => rfl) ?_
           |(refine W_slcS (a := c :: r) (l := 1) (h := c.toNat + 5) Tryz.underlying9 rfl rfl (by simp [optNat, natOf?, intOf?]; omega) (by omega) (by rw [List.length_cons]; omega) ?_)
           |with_reducible first|(refine hK _ ?_;clear hK K)|(clear hK K;refine hK _ ?_;clear hK K)|(clear hK K;clear hK K;refine hK _ ?_;clear hK K)|(clear hK K;clear hK K;clear hK K;refine hK _ ?_;clear hK K)
           |(with_reducible refine todo ?_;simp +decide only[go_sem, nil_eq_cons, hw, hd, hw5, hd2, hs5]))
          exact Ret_two none rfl (.inl rfl) (.inl rfl)
end Go.Proofs
