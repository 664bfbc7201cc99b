/-
  Parts of the proof, laid together: PwCb, PwCc, PwCe, PwCf.
-/
import Derived.Test.YtghlemfokpfngaaQ16

namespace Go.Proofs
open Go.PW
theorem foldl_next {α β : Type} {f : β → α → β} {b : β} {l : List α} {i : Nat} {x : α} (h : l[i]? = some x) : (l.take (i + 1)).foldl f b = f ((l.take i).foldl f b) x := by
  rw [take_next h, List.foldl_append]; rfl
def tblF : List CV := (crcTbl.map u32D).map .d
theorem tblF_len : tblF.length = 256 := by simp [tblF, tbl_len]
theorem tblF_isD : tblF.all CV.isD = true := List.all_eq_true.2 fun c hc => by obtain ⟨n, _, rfl⟩ := List.mem_map.1 hc; rfl
@[go_sem] theorem wk_tblF {H' : HMap} {A A' : AMap} : wkCells H' A A' tblF tblF = True := eq_true (wk_isD tblF_isD)
theorem tblF_at {i : Nat} (h : i < 256) : (tblF.drop i).take 1 = [.d (u32D (tblAt i))] := by
  have hl : i < tblF.length := by rw [tblF_len]; exact h
  rw [List.drop_eq_getElem_cons hl, List.take_succ_cons, List.take_zero]
  have : tblF[i] = .d (u32D (tblAt i)) := by
    have h1 : tblF[i]? = some (.d (u32D (tblAt i))) := by
      unfold tblF tblAt
      rw [List.getElem?_map, List.getElem?_map, tbl_at h]
      rfl
    rw [List.getElem?_eq_getElem hl] at h1
    exact Option.some.inj h1
  rw [this]
set_option maxRecDepth 8000 in
set_option maxHeartbeats 8000000 in
theorem Try.kMore (s : Nat) (l : List UInt8) (hs : s < 4294967296) (hl : l.length ≤ 4294967296) : PureOK Try.prog 86 [pD (u32D s), pD (dS l)] (.one (.d (u32D (crcMore s l)))) := by
  refine Try.pure (md := []) Try.func86 rfl Try.call86 (by kernel_rfl) (by rfl) (by exact Nat.le_of_ble_eq_true rfl) ?_
  have kt : PureOK Try.prog 87 [] (.one (.agg (crcTbl.map u32D))) := Try.kTable
  have hF : (crcTbl.map u32D).map CV.d = tblF := rfl
  have q1 := tblF_len
  have q3 : (tblC 0).drop 256 = [] := List.drop_of_length_le (by rw [tblC_len (by decide)]; exact Nat.le_refl _)
  have hn0 := iNot_u32 hs
  repeat' (first
   |with_reducible first|refine vSq fun K hK=>?_|refine vRg ?_|refine vBl ?_|refine vSc ?_|refine vIf ?_|refine vSk ?_|refine vEx ?_|refine vRt ?_
   |(with_reducible first|refine gNt (fun h=>?_) (fun h=>?_)|refine gCs (fun h=>?_) (fun h=>?_))<;>(try simp only[h])
   |refine C_pure kt rfl rfl (fun _ => rfl) ?_
   |with_reducible first|(refine hK _ ?_;clear hK K)|(clear hK K;refine hK _ ?_;clear hK K)|(clear hK K;clear hK K;refine hK _ ?_;clear hK K)|(clear hK K;clear hK K;clear hK K;refine hK _ ?_;clear hK K)
   |(with_reducible refine todo ?_;simp +decide only[go_sem, Try.zeTbl, hF, q1, q3, u32D, hn0]))
  refine VC_range l.length (fun _ => True) (fun i => frame [(1, pD (dS l)), (5, .c (.ptr 5 0)), (6, pD (u32D ((l.take i).foldl crcStep (4294967295 ^^^ s)))), (12, pD (.lit (.int .i64 l.length))), (13, pD (.lit (.int .i64 i)))] [(5, tblF)] []) True.intro ?_ ?_
  · refine Weak_frame ?_ ?_ ?_ <;> simp +decide only [go_sem, List.foldl_nil, u32D]
    exact wkP_ptr (by simp [hOf])
  · intro i hi hI
    rcases Nat.lt_or_ge i l.length with hlt | hge
    · have hg := List.getElem?_eq_getElem hlt
      have hd := int_lt_true hlt
      have hwi := int_next hlt (show l.length ≤ 4294967296 by omega)
      generalize l[i] = b at hg
      have hnx := foldl_next (f := crcStep) (b := 4294967295 ^^^ s) hg
      have hn : (l.take i).foldl crcStep (4294967295 ^^^ s) < 4294967296 := crcFold_lt _ (xor_lt (by decide) hs)
      generalize (l.take i).foldl crcStep (4294967295 ^^^ s) = n at *
      have h8 := u8_nat n
      have hm : n % 256 < 256 := by omega
      have hx := iXor_u8 hm b.toNat_lt
      have hj := xor_byte (b := b) hm
      have hst : crcStep n b = tblAt ((n % 256) ^^^ b.toNat) ^^^ (n / 256) := rfl
      generalize (n % 256) ^^^ b.toNat = j at *
      have hjT : (j < 256) = True := eq_true hj
      have hjl : (j + 1 ≤ 256) = True := eq_true (by omega)
      have hat := tblF_at hj
      have hsh : iShr .u32 (n : Int) 8 = ((n / 256 : Nat) : Int) := iShr_u32 n 8 (by decide)
      have hxx := iXor_u32 (tblAt_lt j) (show n / 256 < 4294967296 by omega)
      repeat' (first
       |with_reducible first|refine vSq fun K hK=>?_|refine vRg ?_|refine vBl ?_|refine vSc ?_|refine vIf ?_|refine vSk ?_|refine vEx ?_|refine vRt ?_
       |(with_reducible first|refine gNt (fun h=>?_) (fun h=>?_)|refine gCs (fun h=>?_) (fun h=>?_))<;>(try simp only[h])
       |with_reducible first|(refine hK _ ?_;clear hK K)|(clear hK K;refine hK _ ?_;clear hK K)|(clear hK K;clear hK K;refine hK _ ?_;clear hK K)|(clear hK K;clear hK K;clear hK K;refine hK _ ?_;clear hK K)
       |(with_reducible refine todo ?_;simp +decide only[go_sem, hg, hd, hwi, u32D, h8, hx, hjT, hjl, q1, hat, hsh, hxx]))
      refine Next_of hlt True.intro (Weak_frame ?_ ?_ ?_) <;> simp +decide only [go_sem, hnx, hst]
      exact wkP_ptr (by simp [hOf])
    · have hd := int_lt_false hge
      rw [List.take_of_length_le hge]
      have hn : l.foldl crcStep (4294967295 ^^^ s) < 4294967296 := crcFold_lt _ (xor_lt (by decide) hs)
      have hend := iNot_u32 hn
      repeat' (first
       |with_reducible first|refine vSq fun K hK=>?_|refine vRg ?_|refine vBl ?_|refine vSc ?_|refine vIf ?_|refine vSk ?_|refine vEx ?_|refine vRt ?_
       |(with_reducible first|refine gNt (fun h=>?_) (fun h=>?_)|refine gCs (fun h=>?_) (fun h=>?_))<;>(try simp only[h])
       |with_reducible first|(refine hK _ ?_;clear hK K)|(clear hK K;refine hK _ ?_;clear hK K)|(clear hK K;clear hK K;refine hK _ ?_;clear hK K)|(clear hK K;clear hK K;clear hK K;refine hK _ ?_;clear hK K)
       |(with_reducible refine todo ?_;simp +decide only[go_sem, hd, u32D, hend]))
      exact Ret_d rfl rfl
def crcOf (l : List UInt8) : Nat := crcMore 0 l
theorem crcOf_lt (l : List UInt8) : crcOf l < 4294967296 := crcMore_lt l (by decide)
theorem Try.kOf (l : List UInt8) (hl : l.length ≤ 4294967296) : PureOK Try.prog 82 [pD (dS l)] (.one (.d (u32D (crcOf l)))) := by
  refine Try.pure (md := []) Try.func82 rfl Try.call82 (by kernel_rfl) (by rfl) (by exact Nat.le_of_ble_eq_true rfl) ?_
  have km := Try.kMore 0 l (by decide) hl
  change PureOK _ _ [pD (.lit (.int .u32 0)), _] _ at km
  repeat' (first
   |with_reducible first|refine vSq fun K hK=>?_|refine vRg ?_|refine vBl ?_|refine vSc ?_|refine vIf ?_|refine vSk ?_|refine vEx ?_|refine vRt ?_
   |(with_reducible first|refine gNt (fun h=>?_) (fun h=>?_)|refine gCs (fun h=>?_) (fun h=>?_))<;>(try simp only[h])
   |refine C_pure km rfl rfl (fun _ => rfl) ?_
   |with_reducible first|(refine hK _ ?_;clear hK K)|(clear hK K;refine hK _ ?_;clear hK K)|(clear hK K;clear hK K;refine hK _ ?_;clear hK K)|(clear hK K;clear hK K;clear hK K;refine hK _ ?_;clear hK K)
   |(with_reducible refine todo ?_;simp +decide only[go_sem]))
  exact Ret_d rfl rfl
def sumB (n : Nat) : Nat → List UInt8
  | 0 => []
  | k + 1 => sumB n k ++ [UInt8.ofNat (n / 256 ^ k % 256)]
def crcPut (l : List UInt8) : List UInt8 := l ++ sumB (crcOf l) 4
theorem sumB_len (n : Nat) : ∀ k, (sumB n k).length = k
  | 0 => rfl
  | k + 1 => by rw [sumB, List.length_append, sumB_len n k]; rfl
theorem crcPut_len (l : List UInt8) : (crcPut l).length = l.length + 4 := by rw [crcPut, List.length_append, sumB_len]
set_option maxRecDepth 8000 in
set_option maxHeartbeats 8000000 in
theorem Try.kPut (l : List UInt8) (hl : l.length ≤ 1073741824) : PureOK Try.prog 75 [pD (dS l)] (.one (.d (dS (crcPut l)))) := by
  refine pure_ok (E := envOf Try.prog [1000000 + 88] 0 [] []) (envOf_ok Try.mixed) Try.func75 rfl Try.call75 (by kernel_rfl) (by rfl) (by exact Nat.le_of_ble_eq_true rfl) ?_
  have ko := Try.kOf l (by omega)
  have hb := crcOf_lt l
  have c4 : ((4 : Nat) : Int) = 4 := rfl
  repeat' (first
   |with_reducible first|refine vSq fun K hK=>?_|refine vRg ?_|refine vBl ?_|refine vSc ?_|refine vIf ?_|refine vSk ?_|refine vEx ?_|refine vRt ?_
   |(with_reducible first|refine gNt (fun h=>?_) (fun h=>?_)|refine gCs (fun h=>?_) (fun h=>?_))<;>(try simp only[h])
   |refine C_pure ko rfl rfl (fun _ => rfl) ?_
   |refine W_bytes Try.strT Try.bytesT rfl rfl ?_
   |with_reducible first|(refine hK _ ?_;clear hK K)|(clear hK K;refine hK _ ?_;clear hK K)|(clear hK K;clear hK K;refine hK _ ?_;clear hK K)|(clear hK K;clear hK K;clear hK K;refine hK _ ?_;clear hK K)
   |(with_reducible refine todo ?_;simp +decide only[go_sem]))
  refine VC_range 4 (fun _ => True) (fun i => frame [(3, .c (.own (7, 0) (bytesEls (l ++ sumB (crcOf l) i)))), (4, pD (u32D (crcOf l / 256 ^ i))), (5, pD (.lit (.int .i64 i)))] [] [((7, 0), .co 1 (l ++ sumB (crcOf l) i).length)]) True.intro ?_ ?_
  · refine Weak_frame ?_ ?_ ?_ <;> simp +decide only [go_sem, sumB, u32D, Nat.pow_zero, Nat.div_one]
    exact wkP_own (by simp [aOf]) (by simp [aOf, upd])
  · intro i hi hI
    generalize hc : crcOf l = c at *
    have hcl : (l ++ sumB c i).length = l.length + i := by rw [List.length_append, sumB_len]
    have hbl : (bytesEls (l ++ sumB c i)).length = l.length + i := by rw [bytesEls_length, hcl]
    rcases Nat.lt_or_ge i 4 with hlt | hge
    · have hd : ((i : Int) < 4) = True := eq_true (by omega)
      have hwi := int_next hlt (by decide)
      have h8 := u8_nat (c / 256 ^ i)
      have hsh : iShr .u32 ((c / 256 ^ i : Nat) : Int) 8 = ((c / 256 ^ (i + 1) : Nat) : Int) := by
        rw [iShr_u32 _ 8 (by decide), Nat.div_div_eq_div_mul]
        rfl
      have hnx : bytesEls (l ++ sumB c (i + 1)) = bytesEls (l ++ sumB c i) ++ [[.lit (.int .u8 ((c / 256 ^ i % 256 : Nat) : Int))]] := by
        rw [bytesEls_one _ (by omega) (by omega), bytesEls_append, Int.toNat_natCast, sumB, List.append_assoc]
      repeat' (first
       |with_reducible first|refine vSq fun K hK=>?_|refine vRg ?_|refine vBl ?_|refine vSc ?_|refine vIf ?_|refine vSk ?_|refine vEx ?_|refine vRt ?_
       |(with_reducible first|refine gNt (fun h=>?_) (fun h=>?_)|refine gCs (fun h=>?_) (fun h=>?_))<;>(try simp only[h])
       |(refine W_own Try.appBytes rfl (szBytes _) (szOne rfl) (by rw [hbl]; show (l.length + i + 1) * 1 ≤ _; omega) (by rw [hbl]; rfl) ?_)
       |with_reducible first|(refine hK _ ?_;clear hK K)|(clear hK K;refine hK _ ?_;clear hK K)|(clear hK K;clear hK K;refine hK _ ?_;clear hK K)|(clear hK K;clear hK K;clear hK K;refine hK _ ?_;clear hK K)
       |(with_reducible refine todo ?_;simp +decide only[go_sem, hd, hwi, u32D, h8, hsh, hcl]))
      refine Next_of hlt True.intro (Weak_frame ?_ ?_ ?_) <;> simp +decide only [go_sem, hnx]
      · exact wkP_own (by simp [aOf]) (by simp [aOf, upd, bytesEls_length, sumB_len]; omega)
      · simp [bytesEls_length, sumB_len]; omega
    · have hi4 : i = 4 := by omega
      subst hi4
      repeat' (first
       |with_reducible first|refine vSq fun K hK=>?_|refine vRg ?_|refine vBl ?_|refine vSc ?_|refine vIf ?_|refine vSk ?_|refine vEx ?_|refine vRt ?_
       |(with_reducible first|refine gNt (fun h=>?_) (fun h=>?_)|refine gCs (fun h=>?_) (fun h=>?_))<;>(try simp only[h])
       |with_reducible first|(refine hK _ ?_;clear hK K)|(clear hK K;refine hK _ ?_;clear hK K)|(clear hK K;clear hK K;refine hK _ ?_;clear hK K)|(clear hK K;clear hK K;clear hK K;refine hK _ ?_;clear hK K)
       |(with_reducible refine todo ?_;simp +decide only[go_sem, c4]))
      rw [crcPut, hc]
      exact Ret_d rfl rfl
end Go.Proofs

namespace Go.Proofs
open Go.PW
def crcTake (s : List UInt8) : Option (List UInt8) := if 4 ≤ s.length then (if crcPut (s.take (s.length - 4)) = s then some (s.take (s.length - 4)) else none) else none
def optS : Option (List UInt8) → RV
  | some s => .tup [.d (dS s), .d (.lit (.bool true))]
  | none => .tup [.d (dS []), .d (.lit (.bool false))]
set_option maxRecDepth 8000 in
set_option maxHeartbeats 8000000 in
theorem Try.kTake (s : List UInt8) (hl : s.length ≤ 1073741824) : PureOK Try.prog 76 [pD (dS s)] (optS (crcTake s)) := by
  refine Try.pure (md := []) Try.func76 rfl Try.call76 (by kernel_rfl) (by rfl) (by exact Nat.le_of_ble_eq_true rfl) ?_
  rcases Nat.lt_or_ge s.length 4 with h4 | h4
  · have e : crcTake s = none := by unfold crcTake; rw [if_neg (by omega)]
    have hw : IntKind.i64.wrap ((s.length : Int) - 4) = (s.length : Int) - 4 := Go.IntWalk.i64_in _ (by omega)
    have hd : ((s.length : Int) - 4 < 0) = True := eq_true (by omega)
    repeat' (first
     |with_reducible first|refine vSq fun K hK=>?_|refine vRg ?_|refine vBl ?_|refine vSc ?_|refine vIf ?_|refine vSk ?_|refine vEx ?_|refine vRt ?_
     |(with_reducible first|refine gNt (fun h=>?_) (fun h=>?_)|refine gCs (fun h=>?_) (fun h=>?_))<;>(try simp only[h])
     |with_reducible first|(refine hK _ ?_;clear hK K)|(clear hK K;refine hK _ ?_;clear hK K)|(clear hK K;clear hK K;refine hK _ ?_;clear hK K)|(clear hK K;clear hK K;clear hK K;refine hK _ ?_;clear hK K)
     |(with_reducible refine todo ?_;simp +decide only[go_sem, hw, hd]))
    rw [e]
    exact Ret_two none rfl (.inl rfl) (.inl rfl)
  · have hw : IntKind.i64.wrap ((s.length : Int) - 4) = ((s.length - 4 : Nat) : Int) := by rw [Go.IntWalk.i64_in _ (by omega)]; omega
    have hd : (((s.length - 4 : Nat) : Int) < 0) = False := eq_false (by omega)
    have hz : List.drop 0 s = s := rfl
    have kp := Try.kPut (s.take (s.length - 4)) (by rw [List.length_take]; omega)
    have e0 : crcTake s = if crcPut (s.take (s.length - 4)) = s then some (s.take (s.length - 4)) else none := by unfold crcTake; rw [if_pos h4]
    cases hq : (crcPut (s.take (s.length - 4)) == s) with
    | false =>
      have e : crcTake s = none := by rw [e0, if_neg (by simpa using hq)]
      repeat' (first
       |with_reducible first|refine vSq fun K hK=>?_|refine vRg ?_|refine vBl ?_|refine vSc ?_|refine vIf ?_|refine vSk ?_|refine vEx ?_|refine vRt ?_
       |(with_reducible first|refine gNt (fun h=>?_) (fun h=>?_)|refine gCs (fun h=>?_) (fun h=>?_))<;>(try simp only[h])
       |refine C_pure kp rfl rfl (fun _ => rfl) ?_
       |refine W_slcS (a := s) (l := 0) (h := s.length - 4) Try.underlying9 rfl rfl (by simp [optNat, natOf?, intOf?]) (Nat.zero_le _) (Nat.sub_le _ _) ?_
       |with_reducible first|(refine hK _ ?_;clear hK K)|(clear hK K;refine hK _ ?_;clear hK K)|(clear hK K;clear hK K;refine hK _ ?_;clear hK K)|(clear hK K;clear hK K;clear hK K;refine hK _ ?_;clear hK K)
       |(with_reducible refine todo ?_;simp +decide only[go_sem, hw, hd, hz, Nat.sub_zero, hq]))
      rw [e]
      exact Ret_two none rfl (.inl rfl) (.inl rfl)
    | true =>
      have e : crcTake s = some (s.take (s.length - 4)) := by rw [e0, if_pos (by simpa using hq)]
      repeat' (first
       |with_reducible first|refine vSq fun K hK=>?_|refine vRg ?_|refine vBl ?_|refine vSc ?_|refine vIf ?_|refine vSk ?_|refine vEx ?_|refine vRt ?_
       |(with_reducible first|refine gNt (fun h=>?_) (fun h=>?_)|refine gCs (fun h=>?_) (fun h=>?_))<;>(try simp only[h])
       |refine C_pure kp rfl rfl (fun _ => rfl) ?_
       |refine W_slcS (a := s) (l := 0) (h := s.length - 4) Try.underlying9 rfl rfl (by simp [optNat, natOf?, intOf?]) (Nat.zero_le _) (Nat.sub_le _ _) ?_
       |with_reducible first|(refine hK _ ?_;clear hK K)|(clear hK K;refine hK _ ?_;clear hK K)|(clear hK K;clear hK K;refine hK _ ?_;clear hK K)|(clear hK K;clear hK K;clear hK K;refine hK _ ?_;clear hK K)
       |(with_reducible refine todo ?_;simp +decide only[go_sem, hw, hd, hz, Nat.sub_zero, hq]))
      rw [e]
      exact Ret_two none rfl (.inl rfl) (.inl rfl)
end Go.Proofs

namespace Go.Proofs
open Go.PW
theorem nil_eq_cons (c : UInt8) (r : List UInt8) : ((c :: r) == ([] : List UInt8)) = false := rfl
theorem nil_eq_nil : (([] : List UInt8) == ([] : List UInt8)) = true := rfl
theorem tmod_nat (m k : Nat) : Int.tmod (m : Int) (k : Int) = ((m % k : Nat) : Int) := (Int.ofNat_tmod m k).symm
theorem tdiv_nat (m k : Nat) : Int.tdiv (m : Int) (k : Int) = ((m / k : Nat) : Int) := (Int.ofNat_tdiv m k).symm
def sealB (b : List UInt8) : List UInt8 := if b.length ≤ 123 then UInt8.ofNat b.length :: crcPut b else []
def unsealB : List UInt8 → Option (List UInt8)
  | [] => none
  | c :: r => if c.toNat ≤ 123 then (if c.toNat + 4 ≤ r.length then crcTake (r.take (c.toNat + 4)) else none) else none
theorem sealB_len (b : List UInt8) : (sealB b).length ≤ 128 := by
  unfold sealB
  split
  · rw [List.length_cons, crcPut_len]; omega
  · simp
set_option maxRecDepth 8000 in
set_option maxHeartbeats 8000000 in
theorem Try.kSeal (b : List UInt8) (hl : b.length ≤ 1073741824) : PureOK Try.prog 57 [pD (dS b)] (.one (.d (dS (sealB b)))) := by
  refine Try.pure (md := []) Try.func57 rfl Try.call57 (by kernel_rfl) (by rfl) (by exact Nat.le_of_ble_eq_true rfl) ?_
  rcases Nat.lt_or_ge 123 b.length with h | h
  · have e : sealB b = [] := by unfold sealB; rw [if_neg (by omega)]
    have hd : ((123 : Int) < (b.length : Int)) = True := eq_true (by omega)
    repeat' (first
     |with_reducible first|refine vSq fun K hK=>?_|refine vRg ?_|refine vBl ?_|refine vSc ?_|refine vIf ?_|refine vSk ?_|refine vEx ?_|refine vRt ?_
     |(with_reducible first|refine gNt (fun h=>?_) (fun h=>?_)|refine gCs (fun h=>?_) (fun h=>?_))<;>(try simp only[h])
     |with_reducible first|(refine hK _ ?_;clear hK K)|(clear hK K;refine hK _ ?_;clear hK K)|(clear hK K;clear hK K;refine hK _ ?_;clear hK K)|(clear hK K;clear hK K;clear hK K;refine hK _ ?_;clear hK K)
     |(with_reducible refine todo ?_;simp +decide only[go_sem, hd]))
    rw [e]
    exact Ret_d rfl rfl
  · have e : sealB b = [UInt8.ofNat b.length] ++ crcPut b := by unfold sealB; rw [if_pos h]; rfl
    have hd : ((123 : Int) < (b.length : Int)) = False := eq_false (by omega)
    have h8 : IntKind.u8.wrap (b.length : Int) = (b.length : Int) := Go.IntWalk.u8_in _ (by omega)
    have hone : [[D.lit (.int .u8 (b.length : Int))]] = bytesEls [UInt8.ofNat b.length] := by rw [bytesEls_one _ (by omega) (by omega), Int.toNat_natCast]
    have kp := Try.kPut b hl
    have hpl := crcPut_len b
    have hsz : ((1 : Nat) + (b.length + 4) ≤ 9223372036854775807) = True := eq_true (by omega)
    repeat' (first
     |with_reducible first|refine vSq fun K hK=>?_|refine vRg ?_|refine vBl ?_|refine vSc ?_|refine vIf ?_|refine vSk ?_|refine vEx ?_|refine vRt ?_
     |(with_reducible first|refine gNt (fun h=>?_) (fun h=>?_)|refine gCs (fun h=>?_) (fun h=>?_))<;>(try simp only[h])
     |refine C_pure kp rfl rfl (fun _ => rfl) ?_
     |with_reducible first|(refine hK _ ?_;clear hK K)|(clear hK K;refine hK _ ?_;clear hK K)|(clear hK K;clear hK K;refine hK _ ?_;clear hK K)|(clear hK K;clear hK K;clear hK K;refine hK _ ?_;clear hK K)
     |(with_reducible refine todo ?_;simp +decide only[go_sem, hd, h8, hone, hpl, hsz]))
    rw [e]
    exact Ret_d rfl rfl
set_option maxRecDepth 8000 in
set_option maxHeartbeats 8000000 in
theorem Try.kUnseal (s : List UInt8) (hl : s.length ≤ 1073741824) : PureOK Try.prog 64 [pD (dS s)] (optS (unsealB s)) := by
  refine Try.pure (md := []) Try.func64 rfl Try.call64 (by kernel_rfl) (by rfl) (by exact Nat.le_of_ble_eq_true rfl) ?_
  cases s with
  | nil =>
    repeat' (first
     |with_reducible first|refine vSq fun K hK=>?_|refine vRg ?_|refine vBl ?_|refine vSc ?_|refine vIf ?_|refine vSk ?_|refine vEx ?_|refine vRt ?_
     |(with_reducible first|refine gNt (fun h=>?_) (fun h=>?_)|refine gCs (fun h=>?_) (fun h=>?_))<;>(try simp only[h])
     |with_reducible first|(refine hK _ ?_;clear hK K)|(clear hK K;refine hK _ ?_;clear hK K)|(clear hK K;clear hK K;refine hK _ ?_;clear hK K)|(clear hK K;clear hK K;clear hK K;refine hK _ ?_;clear hK K)
     |(with_reducible refine todo ?_;simp +decide only[go_sem, nil_eq_nil]))
    exact Ret_two none rfl (.inl rfl) (.inl rfl)
  | cons c r =>
    rw [List.length_cons] at hl
    have hcl := c.toNat_lt
    have e : unsealB (c :: r) = if c.toNat ≤ 123 then (if c.toNat + 4 ≤ r.length then crcTake (r.take (c.toNat + 4)) else none) else none := rfl
    have hw : IntKind.i64.wrap (c.toNat : Int) = (c.toNat : Int) := Go.IntWalk.i64_in _ (by omega)
    have htl : List.take (r.length + 1 - 1) r = r := List.take_of_length_le (by omega)
    have hw4 : IntKind.i64.wrap ((c.toNat : Int) + 4) = ((c.toNat + 4 : Nat) : Int) := by rw [Go.IntWalk.i64_in _ (by omega)]; omega
    have c0 : (([] : List UInt8).drop 0) = [] := rfl
    rcases Nat.lt_or_ge 123 c.toNat with h | h
    · have hd : ((123 : Int) < (c.toNat : Int)) = True := eq_true (by omega)
      repeat' (first
       |with_reducible first|refine vSq fun K hK=>?_|refine vRg ?_|refine vBl ?_|refine vSc ?_|refine vIf ?_|refine vSk ?_|refine vEx ?_|refine vRt ?_
       |(with_reducible first|refine gNt (fun h=>?_) (fun h=>?_)|refine gCs (fun h=>?_) (fun h=>?_))<;>(try simp only[h])
       |refine W_slcS (a := c :: r) (l := 1) (h := r.length + 1) Try.underlying9 rfl rfl rfl (by omega) (Nat.le_refl _) ?_
       |with_reducible first|(refine hK _ ?_;clear hK K)|(clear hK K;refine hK _ ?_;clear hK K)|(clear hK K;clear hK K;refine hK _ ?_;clear hK K)|(clear hK K;clear hK K;clear hK K;refine hK _ ?_;clear hK K)
       |(with_reducible refine todo ?_;simp +decide only[go_sem, nil_eq_cons, hw, htl, hd]))
      rw [e, if_neg (by omega)]
      exact Ret_two none rfl (.inl rfl) (.inl rfl)
    · have hd : ((123 : Int) < (c.toNat : Int)) = False := eq_false (by omega)
      rcases Nat.lt_or_ge r.length (c.toNat + 4) with h2 | h2
      · have hd2 : ((r.length : Int) < ((c.toNat + 4 : Nat) : Int)) = True := eq_true (by omega)
        repeat' (first
         |with_reducible first|refine vSq fun K hK=>?_|refine vRg ?_|refine vBl ?_|refine vSc ?_|refine vIf ?_|refine vSk ?_|refine vEx ?_|refine vRt ?_
         |(with_reducible first|refine gNt (fun h=>?_) (fun h=>?_)|refine gCs (fun h=>?_) (fun h=>?_))<;>(try simp only[h])
         |refine W_slcS (a := c :: r) (l := 1) (h := r.length + 1) Try.underlying9 rfl rfl rfl (by omega) (Nat.le_refl _) ?_
         |with_reducible first|(refine hK _ ?_;clear hK K)|(clear hK K;refine hK _ ?_;clear hK K)|(clear hK K;clear hK K;refine hK _ ?_;clear hK K)|(clear hK K;clear hK K;clear hK K;refine hK _ ?_;clear hK K)
         |(with_reducible refine todo ?_;simp +decide only[go_sem, nil_eq_cons, hw, htl, hd, hw4, hd2]))
        rw [e, if_pos h, if_neg (by omega)]
        exact Ret_two none rfl (.inl rfl) (.inl rfl)
      · have hd2 : ((r.length : Int) < ((c.toNat + 4 : Nat) : Int)) = False := eq_false (by omega)
        have kt := Try.kTake (r.take (c.toNat + 4)) (by rw [List.length_take]; omega)
        rw [e, if_pos h, if_pos h2]
        have hz : List.drop 0 r = r := rfl
        cases ht : crcTake (r.take (c.toNat + 4)) with
        | none =>
          rw [ht] at kt
          simp only [optS] at kt
          repeat' (first
           |with_reducible first|refine vSq fun K hK=>?_|refine vRg ?_|refine vBl ?_|refine vSc ?_|refine vIf ?_|refine vSk ?_|refine vEx ?_|refine vRt ?_
           |(with_reducible first|refine gNt (fun h=>?_) (fun h=>?_)|refine gCs (fun h=>?_) (fun h=>?_))<;>(try simp only[h])
           |refine C_pure kt rfl rfl (fun _ => rfl) ?_
           |refine W_slcS (a := c :: r) (l := 1) (h := r.length + 1) Try.underlying9 rfl rfl rfl (by omega) (Nat.le_refl _) ?_
           |(refine W_slcS (a := r) (l := 0) (h := c.toNat + 4) Try.underlying9 rfl rfl (by simp [optNat, natOf?, intOf?]; omega) (Nat.zero_le _) h2 ?_)
           |with_reducible first|(refine hK _ ?_;clear hK K)|(clear hK K;refine hK _ ?_;clear hK K)|(clear hK K;clear hK K;refine hK _ ?_;clear hK K)|(clear hK K;clear hK K;clear hK K;refine hK _ ?_;clear hK K)
           |(with_reducible refine todo ?_;simp +decide only[go_sem, nil_eq_cons, hw, htl, hd, hw4, hd2, hz, Nat.sub_zero]))
          exact Ret_two none rfl (.inl rfl) (.inl rfl)
        | some t =>
          rw [ht] at kt
          simp only [optS] at kt
          repeat' (first
           |with_reducible first|refine vSq fun K hK=>?_|refine vRg ?_|refine vBl ?_|refine vSc ?_|refine vIf ?_|refine vSk ?_|refine vEx ?_|refine vRt ?_
           |(with_reducible first|refine gNt (fun h=>?_) (fun h=>?_)|refine gCs (fun h=>?_) (fun h=>?_))<;>(try simp only[h])
           |refine C_pure kt rfl rfl (fun _ => rfl) ?_
           |refine W_slcS (a := c :: r) (l := 1) (h := r.length + 1) Try.underlying9 rfl rfl rfl (by omega) (Nat.le_refl _) ?_
           |(refine W_slcS (a := r) (l := 0) (h := c.toNat + 4) Try.underlying9 rfl rfl (by simp [optNat, natOf?, intOf?]; omega) (Nat.zero_le _) h2 ?_)
           |with_reducible first|(refine hK _ ?_;clear hK K)|(clear hK K;refine hK _ ?_;clear hK K)|(clear hK K;clear hK K;refine hK _ ?_;clear hK K)|(clear hK K;clear hK K;clear hK K;refine hK _ ?_;clear hK K)
           |(with_reducible refine todo ?_;simp +decide only[go_sem, nil_eq_cons, hw, htl, hd, hw4, hd2, hz, Nat.sub_zero]))
          exact Ret_two none rfl (.inl rfl) (.inl rfl)
end Go.Proofs

namespace Go.Proofs
open Go.PW
set_option maxRecDepth 8000 in
set_option maxHeartbeats 4000000 in
theorem Try.kOne (n : Nat) : PureOK Try.prog 73 [pD (.lit (.int .u64 n))] (.one (.d (dS [UInt8.ofNat (n % 256)]))) := by
  refine Try.pure (md := []) Try.func73 rfl Try.call73 (by kernel_rfl) (by rfl) (by exact Nat.le_of_ble_eq_true rfl) ?_
  have h8 := u8_nat n
  have hone : [[D.lit (.int .u8 ((n % 256 : Nat) : Int))]] = bytesEls [UInt8.ofNat (n % 256)] := by rw [bytesEls_one _ (by omega) (by omega), Int.toNat_natCast]
  repeat' (first
   |with_reducible first|refine vSq fun K hK=>?_|refine vRg ?_|refine vBl ?_|refine vSc ?_|refine vIf ?_|refine vSk ?_|refine vEx ?_|refine vRt ?_
   |(with_reducible first|refine gNt (fun h=>?_) (fun h=>?_)|refine gCs (fun h=>?_) (fun h=>?_))<;>(try simp only[h])
   |with_reducible first|(refine hK _ ?_;clear hK K)|(clear hK K;refine hK _ ?_;clear hK K)|(clear hK K;clear hK K;refine hK _ ?_;clear hK K)|(clear hK K;clear hK K;clear hK K;refine hK _ ?_;clear hK K)
   |(with_reducible refine todo ?_;simp +decide only[go_sem, h8, hone]))
  exact Ret_d rfl rfl
def uintK : Nat → Nat → List UInt8
  | 0, n => [UInt8.ofNat (n % 256)]
  | k + 1, n => if n < 128 then [UInt8.ofNat (n % 256)] else UInt8.ofNat ((n % 128 + 128) % 256) :: uintK k (n / 128)
def uintB (n : Nat) : List UInt8 := uintK 10 n
theorem uintK_len : ∀ k n, (uintK k n).length ≤ k + 1
  | 0, n => by simp [uintK]
  | k + 1, n => by
    unfold uintK
    split
    · simp
    · rw [List.length_cons]; have := uintK_len k (n / 128); omega
theorem uintB_len (n : Nat) : (uintB n).length ≤ 11 := uintK_len 10 n
theorem uintK_small {k n : Nat} (h : n < 128) : uintK k n = [UInt8.ofNat (n % 256)] := by
  cases k with
  | zero => rfl
  | succ k => unfold uintK; rw [if_pos h]
theorem pow_128 (k : Nat) : 128 ^ (k + 1) = 128 * 128 ^ k := by rw [Nat.pow_succ, Nat.mul_comm]
set_option maxRecDepth 8000 in
set_option maxHeartbeats 8000000 in
theorem Try.kUint (n : Nat) (hn : n < 18446744073709551616) : PureOK Try.prog 50 [pD (.lit (.int .u64 n))] (.one (.d (dS (uintB n)))) := by
  refine Try.pure (md := []) Try.func50 rfl Try.call50 (by kernel_rfl) (by rfl) (by exact Nat.le_of_ble_eq_true rfl) ?_
  repeat' (first
   |with_reducible first|refine vSq fun K hK=>?_|refine vRg ?_|refine vBl ?_|refine vSc ?_|refine vIf ?_|refine vSk ?_|refine vEx ?_|refine vRt ?_
   |(with_reducible first|refine gNt (fun h=>?_) (fun h=>?_)|refine gCs (fun h=>?_) (fun h=>?_))<;>(try simp only[h])
   |with_reducible first|(refine hK _ ?_;clear hK K)|(clear hK K;refine hK _ ?_;clear hK K)|(clear hK K;clear hK K;refine hK _ ?_;clear hK K)|(clear hK K;clear hK K;clear hK K;refine hK _ ?_;clear hK K)
   |(with_reducible refine todo ?_;simp +decide only[go_sem]))
  refine VC_while (ι := Nat × Nat × List UInt8) (fun x => x.2.2 ++ uintK x.1 x.2.1 = uintB n ∧ x.2.1 < 128 ^ x.1 ∧ x.2.2.length + x.1 ≤ 10 ∧ x.2.1 < 18446744073709551616)
    (fun x => frame [(0, pD (.lit (.int .u64 x.2.1))), (3, pD (dS x.2.2))] [] []) (fun x => x.1) (10, n, []) ⟨rfl, by show n < 128 ^ 10; omega, by simp, hn⟩ ?_ ?_
  · refine Weak_frame ?_ ?_ ?_ <;> simp +decide only [go_sem]
  · rintro ⟨k, m, s⟩ ⟨h1, h2, h3, h4⟩
    simp only at h1 h2 h3 h4
    rcases Nat.lt_or_ge m 128 with hm | hm
    · have hd : ((128 : Int) ≤ (m : Int)) = False := eq_false (by omega)
      have ko := Try.kOne m
      rw [uintK_small hm] at h1
      have hsz : (s.length + 1 ≤ 9223372036854775807) = True := eq_true (by omega)
      repeat' (first
       |with_reducible first|refine vSq fun K hK=>?_|refine vRg ?_|refine vBl ?_|refine vSc ?_|refine vIf ?_|refine vSk ?_|refine vEx ?_|refine vRt ?_
       |(with_reducible first|refine gNt (fun h=>?_) (fun h=>?_)|refine gCs (fun h=>?_) (fun h=>?_))<;>(try simp only[h])
       |refine C_pure ko rfl rfl (fun _ => rfl) ?_
       |with_reducible first|(refine hK _ ?_;clear hK K)|(clear hK K;refine hK _ ?_;clear hK K)|(clear hK K;clear hK K;refine hK _ ?_;clear hK K)|(clear hK K;clear hK K;clear hK K;refine hK _ ?_;clear hK K)
       |(with_reducible refine todo ?_;simp +decide only[go_sem, hd, hsz]))
      rw [← h1]
      exact Ret_d rfl rfl
    · have hd : ((128 : Int) ≤ (m : Int)) = True := eq_true (by omega)
      cases k with
      | zero => simp at h2; omega
      | succ k =>
        have ht : Int.tmod (m : Int) 128 = ((m % 128 : Nat) : Int) := tmod_nat m 128
        have hw : IntKind.u64.wrap (((m % 128 : Nat) : Int) + 128) = ((m % 128 + 128 : Nat) : Int) := by rw [Go.IntWalk.u64_in _ (by omega)]; omega
        have ko := Try.kOne (m % 128 + 128)
        have hsz : (s.length + 1 ≤ 9223372036854775807) = True := eq_true (by omega)
        have hsh : iShr .u64 (m : Int) 7 = ((m / 128 : Nat) : Int) := by
          show Int.fdiv (m : Int) (2 ^ min 7 64) = _
          rw [show (2 : Int) ^ min 7 64 = ((128 : Nat) : Int) from rfl, Int.fdiv_eq_ediv_of_nonneg _ (by omega)]
          rfl
        have hu : uintK (k + 1) m = UInt8.ofNat ((m % 128 + 128) % 256) :: uintK k (m / 128) := by
          show (if m < 128 then _ else _) = _
          rw [if_neg (by omega)]
        repeat' (first
         |with_reducible first|refine vSq fun K hK=>?_|refine vRg ?_|refine vBl ?_|refine vSc ?_|refine vIf ?_|refine vSk ?_|refine vEx ?_|refine vRt ?_
         |(with_reducible first|refine gNt (fun h=>?_) (fun h=>?_)|refine gCs (fun h=>?_) (fun h=>?_))<;>(try simp only[h])
         |refine C_pure ko rfl rfl (fun _ => rfl) ?_
         |with_reducible first|(refine hK _ ?_;clear hK K)|(clear hK K;refine hK _ ?_;clear hK K)|(clear hK K;clear hK K;refine hK _ ?_;clear hK K)|(clear hK K;clear hK K;clear hK K;refine hK _ ?_;clear hK K)
         |(with_reducible refine todo ?_;simp +decide only[go_sem, hd, ht, hw, hsz, hsh]))
        refine ⟨⟨(k, m / 128, s ++ [UInt8.ofNat ((m % 128 + 128) % 256)]), ⟨?_, ?_, ?_, ?_⟩⟩, Weak_frame ?_ ?_ ?_, by show k < k + 1; omega⟩
        · rw [← h1, hu]; simp
        · rw [pow_128] at h2
          exact Nat.div_lt_of_lt_mul h2
        · simp only [List.length_append, List.length_singleton]; omega
        · simp only; omega
        · simp +decide only [go_sem]
        · simp +decide only [go_sem]
        · simp +decide only [go_sem]
set_option maxRecDepth 8000 in
set_option maxHeartbeats 4000000 in
theorem Try.kNumber (n : Nat) (hn : n < 9223372036854775808) : PureOK Try.prog 71 [pD (.lit (.int .i64 n))] (.one (.d (dS (uintB n)))) := by
  refine Try.pure (md := []) Try.func71 rfl Try.call71 (by kernel_rfl) (by rfl) (by exact Nat.le_of_ble_eq_true rfl) ?_
  have hw : IntKind.u64.wrap (n : Int) = (n : Int) := Go.IntWalk.u64_in _ (by omega)
  have ku := Try.kUint n (by omega)
  repeat' (first
   |with_reducible first|refine vSq fun K hK=>?_|refine vRg ?_|refine vBl ?_|refine vSc ?_|refine vIf ?_|refine vSk ?_|refine vEx ?_|refine vRt ?_
   |(with_reducible first|refine gNt (fun h=>?_) (fun h=>?_)|refine gCs (fun h=>?_) (fun h=>?_))<;>(try simp only[h])
   |refine C_pure ku rfl rfl (fun _ => rfl) ?_
   |with_reducible first|(refine hK _ ?_;clear hK K)|(clear hK K;refine hK _ ?_;clear hK K)|(clear hK K;clear hK K;refine hK _ ?_;clear hK K)|(clear hK K;clear hK K;clear hK K;refine hK _ ?_;clear hK K)
   |(with_reducible refine todo ?_;simp +decide only[go_sem, hw]))
  exact Ret_d rfl rfl
def sum4 (s : List UInt8) : List UInt8 := sumB (crcOf s) 4
theorem sum4_len (s : List UInt8) : (sum4 s).length = 4 := sumB_len _ 4
set_option maxRecDepth 8000 in
set_option maxHeartbeats 4000000 in
theorem Try.kSum (s : List UInt8) (hl : s.length ≤ 1073741824) : PureOK Try.prog 59 [pD (dS s)] (.one (.d (dS (sum4 s)))) := by
  refine Try.pure (md := []) Try.func59 rfl Try.call59 (by kernel_rfl) (by rfl) (by exact Nat.le_of_ble_eq_true rfl) ?_
  have kp := Try.kPut s hl
  have hpl := crcPut_len s
  have hdr : ((crcPut s).drop s.length).take (s.length + 4 - s.length) = sum4 s := by
    have h1 : (crcPut s).drop s.length = sum4 s := by unfold crcPut sum4; rw [List.drop_left]
    rw [h1, List.take_of_length_le (by rw [sum4_len]; omega)]
  repeat' (first
   |with_reducible first|refine vSq fun K hK=>?_|refine vRg ?_|refine vBl ?_|refine vSc ?_|refine vIf ?_|refine vSk ?_|refine vEx ?_|refine vRt ?_
   |(with_reducible first|refine gNt (fun h=>?_) (fun h=>?_)|refine gCs (fun h=>?_) (fun h=>?_))<;>(try simp only[h])
   |refine C_pure kp rfl rfl (fun _ => rfl) ?_
   |refine W_slcS (a := crcPut s) (l := s.length) (h := s.length + 4) Try.underlying9 rfl (by simp [optNat, natOf?, intOf?]) (by simp [optNat, hpl]) (by omega) (by omega) ?_
   |with_reducible first|(refine hK _ ?_;clear hK K)|(clear hK K;refine hK _ ?_;clear hK K)|(clear hK K;clear hK K;refine hK _ ?_;clear hK K)|(clear hK K;clear hK K;clear hK K;refine hK _ ?_;clear hK K)
   |(with_reducible refine todo ?_;simp +decide only[go_sem, hdr]))
  exact Ret_d rfl rfl
def behindL (s h : List UInt8) : Option (List UInt8) := if s.take h.length = h then some (s.drop h.length) else none
def behRV (s h : List UInt8) : RV := match behindL s h with
  | some r => .tup [.d (dS r), .d (.lit (.bool true))]
  | none => .tup [.d (dS s), .d (.lit (.bool false))]
set_option maxRecDepth 8000 in
set_option maxHeartbeats 8000000 in
theorem Try.kBehind (s h : List UInt8) : PureOK Try.prog 65 [pD (dS s), pD (dS h)] (behRV s h) := by
  refine Try.pure (md := []) Try.func65 rfl Try.call65 (by kernel_rfl) (by rfl) (by exact Nat.le_of_ble_eq_true rfl) ?_
  unfold behRV
  rcases Nat.lt_or_ge s.length h.length with hl | hl
  · have e : behindL s h = none := by
      unfold behindL
      rw [if_neg]
      intro e
      have := congrArg List.length e
      rw [List.length_take] at this
      omega
    have hd := int_lt_true hl
    repeat' (first
     |with_reducible first|refine vSq fun K hK=>?_|refine vRg ?_|refine vBl ?_|refine vSc ?_|refine vIf ?_|refine vSk ?_|refine vEx ?_|refine vRt ?_
     |(with_reducible first|refine gNt (fun h=>?_) (fun h=>?_)|refine gCs (fun h=>?_) (fun h=>?_))<;>(try simp only[h])
     |with_reducible first|(refine hK _ ?_;clear hK K)|(clear hK K;refine hK _ ?_;clear hK K)|(clear hK K;clear hK K;refine hK _ ?_;clear hK K)|(clear hK K;clear hK K;clear hK K;refine hK _ ?_;clear hK K)
     |(with_reducible refine todo ?_;simp +decide only[go_sem, hd]))
    rw [e]
    exact Ret_two none rfl (.inl rfl) (.inl rfl)
  · have hd := int_lt_false hl
    have hz : List.drop 0 s = s := rfl
    have ht : List.take (s.length - h.length) (s.drop h.length) = s.drop h.length := List.take_of_length_le (by rw [List.length_drop]; exact Nat.le_refl _)
    cases hq : (s.take h.length == h) with
    | false =>
      have e : behindL s h = none := by unfold behindL; rw [if_neg (by simpa using hq)]
      repeat' (first
       |with_reducible first|refine vSq fun K hK=>?_|refine vRg ?_|refine vBl ?_|refine vSc ?_|refine vIf ?_|refine vSk ?_|refine vEx ?_|refine vRt ?_
       |(with_reducible first|refine gNt (fun h=>?_) (fun h=>?_)|refine gCs (fun h=>?_) (fun h=>?_))<;>(try simp only[h])
       |refine W_slcS (a := s) (l := 0) (h := h.length) Try.underlying9 rfl rfl (by simp [optNat, natOf?, intOf?]) (Nat.zero_le _) hl ?_
       |with_reducible first|(refine hK _ ?_;clear hK K)|(clear hK K;refine hK _ ?_;clear hK K)|(clear hK K;clear hK K;refine hK _ ?_;clear hK K)|(clear hK K;clear hK K;clear hK K;refine hK _ ?_;clear hK K)
       |(with_reducible refine todo ?_;simp +decide only[go_sem, hd, hz, Nat.sub_zero, hq]))
      rw [e]
      exact Ret_two none rfl (.inl rfl) (.inl rfl)
    | true =>
      have e : behindL s h = some (s.drop h.length) := by unfold behindL; rw [if_pos (by simpa using hq)]
      repeat' (first
       |with_reducible first|refine vSq fun K hK=>?_|refine vRg ?_|refine vBl ?_|refine vSc ?_|refine vIf ?_|refine vSk ?_|refine vEx ?_|refine vRt ?_
       |(with_reducible first|refine gNt (fun h=>?_) (fun h=>?_)|refine gCs (fun h=>?_) (fun h=>?_))<;>(try simp only[h])
       |refine W_slcS (a := s) (l := 0) (h := h.length) Try.underlying9 rfl rfl (by simp [optNat, natOf?, intOf?]) (Nat.zero_le _) hl ?_
       |refine W_slcS (a := s) (l := h.length) (h := s.length) Try.underlying9 rfl (by simp [optNat, natOf?, intOf?]) rfl hl (Nat.le_refl _) ?_
       |with_reducible first|(refine hK _ ?_;clear hK K)|(clear hK K;refine hK _ ?_;clear hK K)|(clear hK K;clear hK K;refine hK _ ?_;clear hK K)|(clear hK K;clear hK K;clear hK K;refine hK _ ?_;clear hK K)
       |(with_reducible refine todo ?_;simp +decide only[go_sem, hd, hz, Nat.sub_zero, hq, ht]))
      rw [e]
      exact Ret_two none rfl (.inl rfl) (.inl rfl)
def headL (turn i comes : Nat) : List UInt8 := [76] ++ uintB turn ++ uintB i ++ uintB comes
theorem headL_len (turn i comes : Nat) : (headL turn i comes).length ≤ 34 := by
  have := uintB_len turn; have := uintB_len i; have := uintB_len comes
  simp only [headL, List.length_append, List.length_singleton]
  omega
set_option maxRecDepth 8000 in
set_option maxHeartbeats 4000000 in
theorem Try.kHead (turn i comes : Nat) (h1 : turn < 9223372036854775808) (h2 : i < 9223372036854775808) (h3 : comes < 9223372036854775808) :
    PureOK Try.prog 58 [pD (.lit (.int .i64 turn)), pD (.lit (.int .i64 i)), pD (.lit (.int .i64 comes))] (.one (.d (dS (headL turn i comes)))) := by
  refine Try.pure (md := []) Try.func58 rfl Try.call58 (by kernel_rfl) (by rfl) (by exact Nat.le_of_ble_eq_true rfl) ?_
  have k1 := Try.kNumber turn h1
  have k2 := Try.kNumber i h2
  have k3 := Try.kNumber comes h3
  have l1 := uintB_len turn; have l2 := uintB_len i; have l3 := uintB_len comes
  have e : headL turn i comes = [76] ++ uintB turn ++ uintB i ++ uintB comes := rfl
  generalize uintB turn = a at *
  generalize uintB i = b at *
  generalize uintB comes = c at *
  have hb1 : (1 + a.length ≤ 9223372036854775807) = True := eq_true (by omega)
  have hb2 : (a.length + 1 + b.length ≤ 9223372036854775807) = True := eq_true (by omega)
  have hb3 : (a.length + b.length + 1 + c.length ≤ 9223372036854775807) = True := eq_true (by omega)
  repeat' (first
   |with_reducible first|refine vSq fun K hK=>?_|refine vRg ?_|refine vBl ?_|refine vSc ?_|refine vIf ?_|refine vSk ?_|refine vEx ?_|refine vRt ?_
   |(with_reducible first|refine gNt (fun h=>?_) (fun h=>?_)|refine gCs (fun h=>?_) (fun h=>?_))<;>(try simp only[h])
   |refine C_pure k1 rfl rfl (fun _ => rfl) ?_
   |refine C_pure k2 rfl rfl (fun _ => rfl) ?_
   |refine C_pure k3 rfl rfl (fun _ => rfl) ?_
   |with_reducible first|(refine hK _ ?_;clear hK K)|(clear hK K;refine hK _ ?_;clear hK K)|(clear hK K;clear hK K;refine hK _ ?_;clear hK K)|(clear hK K;clear hK K;clear hK K;refine hK _ ?_;clear hK K)
   |(with_reducible refine todo ?_;simp +decide only[go_sem, hb1, hb2, hb3]))
  rw [e]
  exact Ret_d rfl rfl
end Go.Proofs
