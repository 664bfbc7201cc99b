import Derived.Test.YtkifoeiilkhnhaaQ15

/-
  crc: sums of texts.
-/

namespace Go.Proofs
open Go.PW

theorem foldl_next {α β : Type} {f : β → α → β} {b : β} {l : List α} {i : Nat} {x : α} (h : l[i]? = some x) : (l.take (i + 1)).foldl f b = f ((l.take i).foldl f b) x := by
  rw [take_next h, List.foldl_append]; rfl
def tblF : List CV := (crcTbl.map u32D).map .d
theorem tblF_len : tblF.length = 256 := by simp [tblF, tbl_len]
theorem tblF_isD : tblF.all CV.isD = true := List.all_eq_true.2 fun c hc => by obtain ⟨n, _, rfl⟩ := List.mem_map.1 hc; rfl
theorem tblF_known : tblF.all CV.known = true := List.all_eq_true.2 fun c hc => by obtain ⟨n, _, rfl⟩ := List.mem_map.1 hc; rfl
@[go_sem] theorem wk_tblF {H' : HMap} {A A' : AMap} : wkCells H' A A' tblF tblF = True := eq_true (wk_isD tblF_isD)
theorem tblF_at {i : Nat} (h : i < 256) : (tblF.drop i).take 1 = [.d (u32D (tblAt i))] := by
  have hl : i < tblF.length := by rw [tblF_len]; exact h
  rw [List.drop_eq_getElem_cons hl, List.take_succ_cons, List.take_zero]
  have : tblF[i] = .d (u32D (tblAt i)) := by
    have h1 : tblF[i]? = some (.d (u32D (tblAt i))) := by
      unfold tblF tblAt
      rw [List.getElem?_map, List.getElem?_map, tbl_at h]
      rfl
    rw [List.getElem?_eq_getElem hl] at h1
    exact Option.some.inj h1
  rw [this]

set_option maxRecDepth 8000 in
set_option maxHeartbeats 8000000 in
theorem Try.kMore (s : Nat) (l : List UInt8) (hs : s < 4294967296) (hl : l.length ≤ 4294967296) : PureOK Try.prog 98 [pD (u32D s), pD (dS l)] (.one (.d (u32D (crcMore s l)))) := by
  refine Try.pure (md := []) Try.func98 rfl Try.call98 (by kernel_rfl) (by rfl) (by exact Nat.le_of_ble_eq_true rfl) ?_
  have kt : PureOK Try.prog 99 [] (.one (.agg (crcTbl.map u32D))) := Try.kTable
  have hF : (crcTbl.map u32D).map CV.d = tblF := rfl
  have q1 := tblF_len
  have q3 : (tblC 0).drop 256 = [] := List.drop_of_length_le (by rw [tblC_len (by decide)]; exact Nat.le_refl _)
  have hn0 := iNot_u32 hs
  repeat' (first
   | with_reducible first | refine VC_seq fun K hK => ?_ | refine W_region ?_ | refine VC_block ?_ | refine VC_scope ?_ | refine VC_if ?_ | refine VC_skip ?_ | refine VC_exit ?_ | refine VC_ret ?_
   | (with_reducible first | refine G_not (fun h => ?_) (fun h => ?_) | refine G_cases (fun h => ?_) (fun h => ?_)) <;> (try simp only [h])
   | refine C_pure kt rfl rfl (fun _ => rfl) ?_
   | with_reducible first | (refine hK _ ?_; clear hK K) | (clear hK K; refine hK _ ?_; clear hK K) | (clear hK K; clear hK K; refine hK _ ?_; clear hK K) | (clear hK K; clear hK K; clear hK K; refine hK _ ?_; clear hK K)
   | (with_reducible refine todo ?_; simp +decide only [go_sem, Try.zeTbl, hF, q1, q3, u32D, hn0]))
  refine VC_range l.length (fun _ => True) (fun i => frame [(1, pD (dS l)), (5, .c (.ptr 5 0)), (6, pD (u32D ((l.take i).foldl crcStep (4294967295 ^^^ s)))), (12, pD (.lit (.int .i64 l.length))), (13, pD (.lit (.int .i64 i)))] [(5, tblF)] []) True.intro ?_ ?_
  · refine Weak_frame ?_ ?_ ?_ <;> simp +decide only [go_sem, List.foldl_nil, u32D]
    exact wkP_ptr (by simp [hOf])
  · intro i hi hI
    rcases Nat.lt_or_ge i l.length with hlt | hge
    · have hg := List.getElem?_eq_getElem hlt
      have hd := int_lt_true hlt
      have hwi := int_next hlt (show l.length ≤ 4294967296 by omega)
      generalize l[i] = b at hg
      have hnx := foldl_next (f := crcStep) (b := 4294967295 ^^^ s) hg
      have hn : (l.take i).foldl crcStep (4294967295 ^^^ s) < 4294967296 := crcFold_lt _ (xor_lt (by decide) hs)
      generalize (l.take i).foldl crcStep (4294967295 ^^^ s) = n at *
      have h8 := u8_nat n
      have hm : n % 256 < 256 := by omega
      have hx := iXor_u8 hm b.toNat_lt
      have hj := xor_byte (b := b) hm
      have hst : crcStep n b = tblAt ((n % 256) ^^^ b.toNat) ^^^ (n / 256) := rfl
      generalize (n % 256) ^^^ b.toNat = j at *
      have hjT : (j < 256) = True := eq_true hj
      have hjl : (j + 1 ≤ 256) = True := eq_true (by omega)
      have hat := tblF_at hj
      have hsh : iShr .u32 (n : Int) 8 = ((n / 256 : Nat) : Int) := iShr_u32 n 8 (by decide)
      have hxx := iXor_u32 (tblAt_lt j) (show n / 256 < 4294967296 by omega)
      repeat' (first
       | with_reducible first | refine VC_seq fun K hK => ?_ | refine W_region ?_ | refine VC_block ?_ | refine VC_scope ?_ | refine VC_if ?_ | refine VC_skip ?_ | refine VC_exit ?_ | refine VC_ret ?_
       | (with_reducible first | refine G_not (fun h => ?_) (fun h => ?_) | refine G_cases (fun h => ?_) (fun h => ?_)) <;> (try simp only [h])
       | with_reducible first | (refine hK _ ?_; clear hK K) | (clear hK K; refine hK _ ?_; clear hK K) | (clear hK K; clear hK K; refine hK _ ?_; clear hK K) | (clear hK K; clear hK K; clear hK K; refine hK _ ?_; clear hK K)
       | (with_reducible refine todo ?_; simp +decide only [go_sem, hg, hd, hwi, u32D, h8, hx, hjT, hjl, q1, hat, hsh, hxx]))
      refine Next_of hlt True.intro (Weak_frame ?_ ?_ ?_) <;> simp +decide only [go_sem, hnx, hst]
      exact wkP_ptr (by simp [hOf])
    · have hd := int_lt_false hge
      rw [List.take_of_length_le hge]
      have hn : l.foldl crcStep (4294967295 ^^^ s) < 4294967296 := crcFold_lt _ (xor_lt (by decide) hs)
      have hend := iNot_u32 hn
      repeat' (first
       | with_reducible first | refine VC_seq fun K hK => ?_ | refine W_region ?_ | refine VC_block ?_ | refine VC_scope ?_ | refine VC_if ?_ | refine VC_skip ?_ | refine VC_exit ?_ | refine VC_ret ?_
       | (with_reducible first | refine G_not (fun h => ?_) (fun h => ?_) | refine G_cases (fun h => ?_) (fun h => ?_)) <;> (try simp only [h])
       | with_reducible first | (refine hK _ ?_; clear hK K) | (clear hK K; refine hK _ ?_; clear hK K) | (clear hK K; clear hK K; refine hK _ ?_; clear hK K) | (clear hK K; clear hK K; clear hK K; refine hK _ ?_; clear hK K)
       | (with_reducible refine todo ?_; simp +decide only [go_sem, hd, u32D, hend]))
      exact Ret_d rfl rfl

def crcOf (l : List UInt8) : Nat := crcMore 0 l
theorem crcOf_lt (l : List UInt8) : crcOf l < 4294967296 := crcMore_lt l (by decide)
theorem Try.kOf (l : List UInt8) (hl : l.length ≤ 4294967296) : PureOK Try.prog 94 [pD (dS l)] (.one (.d (u32D (crcOf l)))) := by
  refine Try.pure (md := []) Try.func94 rfl Try.call94 (by kernel_rfl) (by rfl) (by exact Nat.le_of_ble_eq_true rfl) ?_
  have km := Try.kMore 0 l (by decide) hl
  change PureOK _ _ [pD (.lit (.int .u32 0)), _] _ at km
  repeat' (first
   | with_reducible first | refine VC_seq fun K hK => ?_ | refine W_region ?_ | refine VC_block ?_ | refine VC_scope ?_ | refine VC_if ?_ | refine VC_skip ?_ | refine VC_exit ?_ | refine VC_ret ?_
   | (with_reducible first | refine G_not (fun h => ?_) (fun h => ?_) | refine G_cases (fun h => ?_) (fun h => ?_)) <;> (try simp only [h])
   | refine C_pure km rfl rfl (fun _ => rfl) ?_
   | with_reducible first | (refine hK _ ?_; clear hK K) | (clear hK K; refine hK _ ?_; clear hK K) | (clear hK K; clear hK K; refine hK _ ?_; clear hK K) | (clear hK K; clear hK K; clear hK K; refine hK _ ?_; clear hK K)
   | (with_reducible refine todo ?_; simp +decide only [go_sem]))
  exact Ret_d rfl rfl

/-- A sum's bytes, the lowest first. -/
def sumB (n : Nat) : Nat → List UInt8
  | 0 => []
  | k + 1 => sumB n k ++ [UInt8.ofNat (n / 256 ^ k % 256)]
def crcPut (l : List UInt8) : List UInt8 := l ++ sumB (crcOf l) 4
theorem sumB_len (n : Nat) : ∀ k, (sumB n k).length = k
  | 0 => rfl
  | k + 1 => by rw [sumB, List.length_append, sumB_len n k]; rfl
theorem crcPut_len (l : List UInt8) : (crcPut l).length = l.length + 4 := by rw [crcPut, List.length_append, sumB_len]

set_option maxRecDepth 8000 in
set_option maxHeartbeats 8000000 in
theorem Try.kPut (l : List UInt8) (hl : l.length ≤ 1073741824) : PureOK Try.prog 87 [pD (dS l)] (.one (.d (dS (crcPut l)))) := by
  refine pure_ok (E := envOf Try.prog [1000000 + 62] 0 [] []) (envOf_ok Try.mixed) Try.func87 rfl Try.call87 (by kernel_rfl) (by rfl) (by exact Nat.le_of_ble_eq_true rfl) ?_
  have ko := Try.kOf l (by omega)
  have hb := crcOf_lt l
  have c4 : ((4 : Nat) : Int) = 4 := rfl
  repeat' (first
   | with_reducible first | refine VC_seq fun K hK => ?_ | refine W_region ?_ | refine VC_block ?_ | refine VC_scope ?_ | refine VC_if ?_ | refine VC_skip ?_ | refine VC_exit ?_ | refine VC_ret ?_
   | (with_reducible first | refine G_not (fun h => ?_) (fun h => ?_) | refine G_cases (fun h => ?_) (fun h => ?_)) <;> (try simp only [h])
   | refine C_pure ko rfl rfl (fun _ => rfl) ?_
   | refine W_bytes Try.strT Try.bytesT rfl rfl ?_
   | with_reducible first | (refine hK _ ?_; clear hK K) | (clear hK K; refine hK _ ?_; clear hK K) | (clear hK K; clear hK K; refine hK _ ?_; clear hK K) | (clear hK K; clear hK K; clear hK K; refine hK _ ?_; clear hK K)
   | (with_reducible refine todo ?_; simp +decide only [go_sem]))
  refine VC_range 4 (fun _ => True) (fun i => frame [(3, .c (.own (7, 0) (bytesEls (l ++ sumB (crcOf l) i)))), (4, pD (u32D (crcOf l / 256 ^ i))), (5, pD (.lit (.int .i64 i)))] [] [((7, 0), .co 1 (l ++ sumB (crcOf l) i).length)]) True.intro ?_ ?_
  · refine Weak_frame ?_ ?_ ?_ <;> simp +decide only [go_sem, sumB, u32D, Nat.pow_zero, Nat.div_one]
    exact wkP_own (by simp [aOf]) (by simp [aOf, upd])
  · intro i hi hI
    generalize hc : crcOf l = c at *
    have hcl : (l ++ sumB c i).length = l.length + i := by rw [List.length_append, sumB_len]
    have hbl : (bytesEls (l ++ sumB c i)).length = l.length + i := by rw [bytesEls_length, hcl]
    rcases Nat.lt_or_ge i 4 with hlt | hge
    · have hd : ((i : Int) < 4) = True := eq_true (by omega)
      have hwi := int_next hlt (by decide)
      have h8 := u8_nat (c / 256 ^ i)
      have hsh : iShr .u32 ((c / 256 ^ i : Nat) : Int) 8 = ((c / 256 ^ (i + 1) : Nat) : Int) := by
        rw [iShr_u32 _ 8 (by decide), Nat.div_div_eq_div_mul]
        rfl
      have hnx : bytesEls (l ++ sumB c (i + 1)) = bytesEls (l ++ sumB c i) ++ [[.lit (.int .u8 ((c / 256 ^ i % 256 : Nat) : Int))]] := by
        rw [bytesEls_one _ (by omega) (by omega), bytesEls_append, Int.toNat_natCast, sumB, List.append_assoc]
      repeat' (first
       | with_reducible first | refine VC_seq fun K hK => ?_ | refine W_region ?_ | refine VC_block ?_ | refine VC_scope ?_ | refine VC_if ?_ | refine VC_skip ?_ | refine VC_exit ?_ | refine VC_ret ?_
       | (with_reducible first | refine G_not (fun h => ?_) (fun h => ?_) | refine G_cases (fun h => ?_) (fun h => ?_)) <;> (try simp only [h])
       | (refine W_own Try.appBytes rfl (szBytes _) (szOne rfl) (by rw [hbl]; show (l.length + i + 1) * 1 ≤ _; omega) (by rw [hbl]; rfl) ?_)
       | with_reducible first | (refine hK _ ?_; clear hK K) | (clear hK K; refine hK _ ?_; clear hK K) | (clear hK K; clear hK K; refine hK _ ?_; clear hK K) | (clear hK K; clear hK K; clear hK K; refine hK _ ?_; clear hK K)
       | (with_reducible refine todo ?_; simp +decide only [go_sem, hd, hwi, u32D, h8, hsh, hcl]))
      refine Next_of hlt True.intro (Weak_frame ?_ ?_ ?_) <;> simp +decide only [go_sem, hnx]
      · exact wkP_own (by simp [aOf]) (by simp [aOf, upd, bytesEls_length, sumB_len]; omega)
      · simp [bytesEls_length, sumB_len]; omega
    · have hi4 : i = 4 := by omega
      subst hi4
      repeat' (first
       | with_reducible first | refine VC_seq fun K hK => ?_ | refine W_region ?_ | refine VC_block ?_ | refine VC_scope ?_ | refine VC_if ?_ | refine VC_skip ?_ | refine VC_exit ?_ | refine VC_ret ?_
       | (with_reducible first | refine G_not (fun h => ?_) (fun h => ?_) | refine G_cases (fun h => ?_) (fun h => ?_)) <;> (try simp only [h])
       | with_reducible first | (refine hK _ ?_; clear hK K) | (clear hK K; refine hK _ ?_; clear hK K) | (clear hK K; clear hK K; refine hK _ ?_; clear hK K) | (clear hK K; clear hK K; clear hK K; refine hK _ ?_; clear hK K)
       | (with_reducible refine todo ?_; simp +decide only [go_sem, c4]))
      rw [crcPut, hc]
      exact Ret_d rfl rfl
end Go.Proofs

/-
  crc: bytes without their sum; the document's sum is the program's.
-/

namespace Go.Proofs
open Go.PW

def crcTake (s : List UInt8) : Option (List UInt8) := if 4 ≤ s.length then (if crcPut (s.take (s.length - 4)) = s then some (s.take (s.length - 4)) else none) else none
/-- Two results: a text, and whether there is one. -/
def optS : Option (List UInt8) → RV
  | some s => .tup [.d (dS s), .d (.lit (.bool true))]
  | none => .tup [.d (dS []), .d (.lit (.bool false))]

set_option maxRecDepth 8000 in
set_option maxHeartbeats 8000000 in
theorem Try.kTake (s : List UInt8) (hl : s.length ≤ 1073741824) : PureOK Try.prog 88 [pD (dS s)] (optS (crcTake s)) := by
  refine Try.pure (md := []) Try.func88 rfl Try.call88 (by kernel_rfl) (by rfl) (by exact Nat.le_of_ble_eq_true rfl) ?_
  rcases Nat.lt_or_ge s.length 4 with h4 | h4
  · have e : crcTake s = none := by unfold crcTake; rw [if_neg (by omega)]
    have hw : IntKind.i64.wrap ((s.length : Int) - 4) = (s.length : Int) - 4 := Go.IntWalk.i64_in _ (by omega)
    have hd : ((s.length : Int) - 4 < 0) = True := eq_true (by omega)
    repeat' (first
     | with_reducible first | refine VC_seq fun K hK => ?_ | refine W_region ?_ | refine VC_block ?_ | refine VC_scope ?_ | refine VC_if ?_ | refine VC_skip ?_ | refine VC_exit ?_ | refine VC_ret ?_
     | (with_reducible first | refine G_not (fun h => ?_) (fun h => ?_) | refine G_cases (fun h => ?_) (fun h => ?_)) <;> (try simp only [h])
     | with_reducible first | (refine hK _ ?_; clear hK K) | (clear hK K; refine hK _ ?_; clear hK K) | (clear hK K; clear hK K; refine hK _ ?_; clear hK K) | (clear hK K; clear hK K; clear hK K; refine hK _ ?_; clear hK K)
     | (with_reducible refine todo ?_; simp +decide only [go_sem, hw, hd]))
    rw [e]
    exact Ret_two none rfl (.inl rfl) (.inl rfl)
  · have hw : IntKind.i64.wrap ((s.length : Int) - 4) = ((s.length - 4 : Nat) : Int) := by rw [Go.IntWalk.i64_in _ (by omega)]; omega
    have hd : (((s.length - 4 : Nat) : Int) < 0) = False := eq_false (by omega)
    have hz : List.drop 0 s = s := rfl
    have kp := Try.kPut (s.take (s.length - 4)) (by rw [List.length_take]; omega)
    have e0 : crcTake s = if crcPut (s.take (s.length - 4)) = s then some (s.take (s.length - 4)) else none := by unfold crcTake; rw [if_pos h4]
    cases hq : (crcPut (s.take (s.length - 4)) == s) with
    | false =>
      have e : crcTake s = none := by rw [e0, if_neg (by simpa using hq)]
      repeat' (first
       | with_reducible first | refine VC_seq fun K hK => ?_ | refine W_region ?_ | refine VC_block ?_ | refine VC_scope ?_ | refine VC_if ?_ | refine VC_skip ?_ | refine VC_exit ?_ | refine VC_ret ?_
       | (with_reducible first | refine G_not (fun h => ?_) (fun h => ?_) | refine G_cases (fun h => ?_) (fun h => ?_)) <;> (try simp only [h])
       | refine C_pure kp rfl rfl (fun _ => rfl) ?_
       | refine W_slcS (a := s) (l := 0) (h := s.length - 4) Try.underlying9 rfl rfl (by simp [optNat, natOf?, intOf?]) (Nat.zero_le _) (Nat.sub_le _ _) ?_
       | with_reducible first | (refine hK _ ?_; clear hK K) | (clear hK K; refine hK _ ?_; clear hK K) | (clear hK K; clear hK K; refine hK _ ?_; clear hK K) | (clear hK K; clear hK K; clear hK K; refine hK _ ?_; clear hK K)
       | (with_reducible refine todo ?_; simp +decide only [go_sem, hw, hd, hz, Nat.sub_zero, hq]))
      rw [e]
      exact Ret_two none rfl (.inl rfl) (.inl rfl)
    | true =>
      have e : crcTake s = some (s.take (s.length - 4)) := by rw [e0, if_pos (by simpa using hq)]
      repeat' (first
       | with_reducible first | refine VC_seq fun K hK => ?_ | refine W_region ?_ | refine VC_block ?_ | refine VC_scope ?_ | refine VC_if ?_ | refine VC_skip ?_ | refine VC_exit ?_ | refine VC_ret ?_
       | (with_reducible first | refine G_not (fun h => ?_) (fun h => ?_) | refine G_cases (fun h => ?_) (fun h => ?_)) <;> (try simp only [h])
       | refine C_pure kp rfl rfl (fun _ => rfl) ?_
       | refine W_slcS (a := s) (l := 0) (h := s.length - 4) Try.underlying9 rfl rfl (by simp [optNat, natOf?, intOf?]) (Nat.zero_le _) (Nat.sub_le _ _) ?_
       | with_reducible first | (refine hK _ ?_; clear hK K) | (clear hK K; refine hK _ ?_; clear hK K) | (clear hK K; clear hK K; refine hK _ ?_; clear hK K) | (clear hK K; clear hK K; clear hK K; refine hK _ ?_; clear hK K)
       | (with_reducible refine todo ?_; simp +decide only [go_sem, hw, hd, hz, Nat.sub_zero, hq]))
      rw [e]
      exact Ret_two none rfl (.inl rfl) (.inl rfl)

/-! The document's sum. -/
theorem st1_eq (n : Nat) : st1 n = (n / 2) ^^^ (if n % 2 = 1 then 3988292384 else 0) := by unfold st1; split <;> simp
theorem xor_half (a b : Nat) : (a ^^^ b) / 2 = (a / 2) ^^^ (b / 2) := by
  apply Nat.eq_of_testBit_eq
  intro i
  have h : ∀ n : Nat, (n / 2).testBit i = n.testBit (i + 1) := fun n => by rw [Nat.testBit_succ]
  rw [h, Nat.testBit_xor, Nat.testBit_xor, h, h]
theorem xor_odd (a b : Nat) : (a ^^^ b) % 2 = 1 ↔ ¬ (a % 2 = 1 ↔ b % 2 = 1) := by
  have h : ∀ n : Nat, n % 2 = 1 ↔ n.testBit 0 = true := fun n => by simp [Nat.testBit_zero]
  rw [h, h, h, Nat.testBit_xor]
  cases a.testBit 0 <;> cases b.testBit 0 <;> simp
theorem st1_xor (a b : Nat) : st1 (a ^^^ b) = st1 a ^^^ st1 b := by
  rw [st1_eq, st1_eq, st1_eq, xor_half]
  have hx := xor_odd a b
  by_cases ha : a % 2 = 1 <;> by_cases hb : b % 2 = 1
  · rw [if_neg (by rw [hx]; simp [ha, hb]), if_pos ha, if_pos hb]
    rw [Nat.xor_zero, show a / 2 ^^^ 3988292384 ^^^ (b / 2 ^^^ 3988292384) = a / 2 ^^^ b / 2 by rw [Nat.xor_assoc, ← Nat.xor_assoc 3988292384, Nat.xor_comm 3988292384 (b / 2), Nat.xor_assoc, Nat.xor_self, Nat.xor_zero]]
  · rw [if_pos (by rw [hx]; simp [ha, hb]), if_pos ha, if_neg hb, Nat.xor_zero, Nat.xor_assoc, Nat.xor_assoc, Nat.xor_comm 3988292384]
  · rw [if_pos (by rw [hx]; simp [ha, hb]), if_neg ha, if_pos hb, Nat.xor_zero, Nat.xor_assoc]
  · rw [if_neg (by rw [hx]; simp [ha, hb]), if_neg ha, if_neg hb, Nat.xor_zero, Nat.xor_zero, Nat.xor_zero]
theorem stK_xor (a b : Nat) : ∀ k, stK k (a ^^^ b) = stK k a ^^^ stK k b
  | 0 => rfl
  | k + 1 => by
    show st1 (stK k (a ^^^ b)) = _
    rw [stK_xor a b k, st1_xor]
    rfl
theorem st1_even (n : Nat) : st1 (2 * n) = n := by rw [st1_eq, if_neg (by omega), Nat.xor_zero]; omega
theorem st8_hi (n : Nat) : st8 (n * 256) = n := by
  show st1 (st1 (st1 (st1 (st1 (st1 (st1 (st1 (n * 256)))))))) = n
  rw [show n * 256 = 2 * (2 * (2 * (2 * (2 * (2 * (2 * (2 * n))))))) by omega]
  simp only [st1_even]
theorem split_256 (n : Nat) : n = (n % 256) ^^^ (n / 256 * 256) := by
  apply Nat.eq_of_testBit_eq
  intro i
  rw [Nat.testBit_xor, show 256 = 2 ^ 8 from rfl, Nat.testBit_mod_two_pow, Nat.testBit_mul_two_pow, Nat.testBit_div_two_pow]
  by_cases h : i < 8
  · simp [h, show ¬ 8 ≤ i by omega]
  · simp [h, show 8 ≤ i by omega]
theorem crcStep_eq {n : Nat} (b : UInt8) : crcStep n b = st8 (n ^^^ b.toNat) := by
  have hj := xor_byte (b := b) (show n % 256 < 256 by omega)
  have e : n ^^^ b.toNat = ((n % 256) ^^^ b.toNat) ^^^ (n / 256 * 256) := by
    conv => lhs; rw [split_256 n]
    rw [Nat.xor_assoc, Nat.xor_comm (n / 256 * 256), ← Nat.xor_assoc]
  unfold crcStep tblAt
  rw [tbl_at hj, e]
  show st8 _ ^^^ _ = stK 8 _
  rw [stK_xor]
  show _ = st8 _ ^^^ st8 _
  rw [st8_hi]
theorem not_sub {n : Nat} (h : n < 4294967296) : 4294967295 - n = 4294967295 ^^^ n := by
  have key : ∀ i < 32, (4294967295 : Nat).testBit i = true := by decide
  apply Nat.eq_of_testBit_eq
  intro i
  rw [show 4294967295 - n = 2 ^ 32 - (n + 1) by omega, Nat.testBit_two_pow_sub_succ h, Nat.testBit_xor]
  by_cases hi : i < 32
  · rw [key i hi]
    simp [hi]
  · have h1 : n.testBit i = false := Nat.testBit_lt_two_pow (Nat.lt_of_lt_of_le h (Nat.pow_le_pow_right (n := 2) (by decide) (show 32 ≤ i by omega)))
    have h2 : (4294967295 : Nat).testBit i = false := Nat.testBit_lt_two_pow (Nat.lt_of_lt_of_le (show 4294967295 < 2 ^ 32 by decide) (Nat.pow_le_pow_right (n := 2) (by decide) (show 32 ≤ i by omega)))
    rw [h1, h2]
    simp [hi]
end Go.Proofs

/-
  Seals; numbers; a record's parts.
-/

namespace Go.Proofs
open Go.PW

theorem nil_eq_cons (c : UInt8) (r : List UInt8) : ((c :: r) == ([] : List UInt8)) = false := rfl
theorem nil_eq_nil : (([] : List UInt8) == ([] : List UInt8)) = true := rfl
theorem tmod_nat (m k : Nat) : Int.tmod (m : Int) (k : Int) = ((m % k : Nat) : Int) := (Int.ofNat_tmod m k).symm
theorem tdiv_nat (m k : Nat) : Int.tdiv (m : Int) (k : Int) = ((m / k : Nat) : Int) := (Int.ofNat_tdiv m k).symm
def sealB (b : List UInt8) : List UInt8 := if b.length ≤ 123 then UInt8.ofNat b.length :: crcPut b else []
def unsealB : List UInt8 → Option (List UInt8)
  | [] => none
  | c :: r => if c.toNat ≤ 123 then (if c.toNat + 4 ≤ r.length then crcTake (r.take (c.toNat + 4)) else none) else none
theorem sealB_len (b : List UInt8) : (sealB b).length ≤ 128 := by
  unfold sealB
  split
  · rw [List.length_cons, crcPut_len]; omega
  · simp

set_option maxRecDepth 8000 in
set_option maxHeartbeats 8000000 in
theorem Try.kSeal (b : List UInt8) (hl : b.length ≤ 1073741824) : PureOK Try.prog 68 [pD (dS b)] (.one (.d (dS (sealB b)))) := by
  refine Try.pure (md := []) Try.func68 rfl Try.call68 (by kernel_rfl) (by rfl) (by exact Nat.le_of_ble_eq_true rfl) ?_
  rcases Nat.lt_or_ge 123 b.length with h | h
  · have e : sealB b = [] := by unfold sealB; rw [if_neg (by omega)]
    have hd : ((123 : Int) < (b.length : Int)) = True := eq_true (by omega)
    repeat' (first
     | with_reducible first | refine VC_seq fun K hK => ?_ | refine W_region ?_ | refine VC_block ?_ | refine VC_scope ?_ | refine VC_if ?_ | refine VC_skip ?_ | refine VC_exit ?_ | refine VC_ret ?_
     | (with_reducible first | refine G_not (fun h => ?_) (fun h => ?_) | refine G_cases (fun h => ?_) (fun h => ?_)) <;> (try simp only [h])
     | with_reducible first | (refine hK _ ?_; clear hK K) | (clear hK K; refine hK _ ?_; clear hK K) | (clear hK K; clear hK K; refine hK _ ?_; clear hK K) | (clear hK K; clear hK K; clear hK K; refine hK _ ?_; clear hK K)
     | (with_reducible refine todo ?_; simp +decide only [go_sem, hd]))
    rw [e]
    exact Ret_d rfl rfl
  · have e : sealB b = [UInt8.ofNat b.length] ++ crcPut b := by unfold sealB; rw [if_pos h]; rfl
    have hd : ((123 : Int) < (b.length : Int)) = False := eq_false (by omega)
    have h8 : IntKind.u8.wrap (b.length : Int) = (b.length : Int) := Go.IntWalk.u8_in _ (by omega)
    have hone : [[D.lit (.int .u8 (b.length : Int))]] = bytesEls [UInt8.ofNat b.length] := by rw [bytesEls_one _ (by omega) (by omega), Int.toNat_natCast]
    have kp := Try.kPut b hl
    have hpl := crcPut_len b
    have hsz : ((1 : Nat) + (b.length + 4) ≤ 9223372036854775807) = True := eq_true (by omega)
    repeat' (first
     | with_reducible first | refine VC_seq fun K hK => ?_ | refine W_region ?_ | refine VC_block ?_ | refine VC_scope ?_ | refine VC_if ?_ | refine VC_skip ?_ | refine VC_exit ?_ | refine VC_ret ?_
     | (with_reducible first | refine G_not (fun h => ?_) (fun h => ?_) | refine G_cases (fun h => ?_) (fun h => ?_)) <;> (try simp only [h])
     | refine C_pure kp rfl rfl (fun _ => rfl) ?_
     | with_reducible first | (refine hK _ ?_; clear hK K) | (clear hK K; refine hK _ ?_; clear hK K) | (clear hK K; clear hK K; refine hK _ ?_; clear hK K) | (clear hK K; clear hK K; clear hK K; refine hK _ ?_; clear hK K)
     | (with_reducible refine todo ?_; simp +decide only [go_sem, hd, h8, hone, hpl, hsz]))
    rw [e]
    exact Ret_d rfl rfl

set_option maxRecDepth 8000 in
set_option maxHeartbeats 8000000 in
theorem Try.kUnseal (s : List UInt8) (hl : s.length ≤ 1073741824) : PureOK Try.prog 76 [pD (dS s)] (optS (unsealB s)) := by
  refine Try.pure (md := []) Try.func76 rfl Try.call76 (by kernel_rfl) (by rfl) (by exact Nat.le_of_ble_eq_true rfl) ?_
  cases s with
  | nil =>
    repeat' (first
     | with_reducible first | refine VC_seq fun K hK => ?_ | refine W_region ?_ | refine VC_block ?_ | refine VC_scope ?_ | refine VC_if ?_ | refine VC_skip ?_ | refine VC_exit ?_ | refine VC_ret ?_
     | (with_reducible first | refine G_not (fun h => ?_) (fun h => ?_) | refine G_cases (fun h => ?_) (fun h => ?_)) <;> (try simp only [h])
     | with_reducible first | (refine hK _ ?_; clear hK K) | (clear hK K; refine hK _ ?_; clear hK K) | (clear hK K; clear hK K; refine hK _ ?_; clear hK K) | (clear hK K; clear hK K; clear hK K; refine hK _ ?_; clear hK K)
     | (with_reducible refine todo ?_; simp +decide only [go_sem, nil_eq_nil]))
    exact Ret_two none rfl (.inl rfl) (.inl rfl)
  | cons c r =>
    rw [List.length_cons] at hl
    have hcl := c.toNat_lt
    have e : unsealB (c :: r) = if c.toNat ≤ 123 then (if c.toNat + 4 ≤ r.length then crcTake (r.take (c.toNat + 4)) else none) else none := rfl
    have hw : IntKind.i64.wrap (c.toNat : Int) = (c.toNat : Int) := Go.IntWalk.i64_in _ (by omega)
    have htl : List.take (r.length + 1 - 1) r = r := List.take_of_length_le (by omega)
    have hw4 : IntKind.i64.wrap ((c.toNat : Int) + 4) = ((c.toNat + 4 : Nat) : Int) := by rw [Go.IntWalk.i64_in _ (by omega)]; omega
    have c0 : (([] : List UInt8).drop 0) = [] := rfl
    rcases Nat.lt_or_ge 123 c.toNat with h | h
    · have hd : ((123 : Int) < (c.toNat : Int)) = True := eq_true (by omega)
      repeat' (first
       | with_reducible first | refine VC_seq fun K hK => ?_ | refine W_region ?_ | refine VC_block ?_ | refine VC_scope ?_ | refine VC_if ?_ | refine VC_skip ?_ | refine VC_exit ?_ | refine VC_ret ?_
       | (with_reducible first | refine G_not (fun h => ?_) (fun h => ?_) | refine G_cases (fun h => ?_) (fun h => ?_)) <;> (try simp only [h])
       | refine W_slcS (a := c :: r) (l := 1) (h := r.length + 1) Try.underlying9 rfl rfl rfl (by omega) (Nat.le_refl _) ?_
       | with_reducible first | (refine hK _ ?_; clear hK K) | (clear hK K; refine hK _ ?_; clear hK K) | (clear hK K; clear hK K; refine hK _ ?_; clear hK K) | (clear hK K; clear hK K; clear hK K; refine hK _ ?_; clear hK K)
       | (with_reducible refine todo ?_; simp +decide only [go_sem, nil_eq_cons, hw, htl, hd]))
      rw [e, if_neg (by omega)]
      exact Ret_two none rfl (.inl rfl) (.inl rfl)
    · have hd : ((123 : Int) < (c.toNat : Int)) = False := eq_false (by omega)
      rcases Nat.lt_or_ge r.length (c.toNat + 4) with h2 | h2
      · have hd2 : ((r.length : Int) < ((c.toNat + 4 : Nat) : Int)) = True := eq_true (by omega)
        repeat' (first
         | with_reducible first | refine VC_seq fun K hK => ?_ | refine W_region ?_ | refine VC_block ?_ | refine VC_scope ?_ | refine VC_if ?_ | refine VC_skip ?_ | refine VC_exit ?_ | refine VC_ret ?_
         | (with_reducible first | refine G_not (fun h => ?_) (fun h => ?_) | refine G_cases (fun h => ?_) (fun h => ?_)) <;> (try simp only [h])
         | refine W_slcS (a := c :: r) (l := 1) (h := r.length + 1) Try.underlying9 rfl rfl rfl (by omega) (Nat.le_refl _) ?_
         | with_reducible first | (refine hK _ ?_; clear hK K) | (clear hK K; refine hK _ ?_; clear hK K) | (clear hK K; clear hK K; refine hK _ ?_; clear hK K) | (clear hK K; clear hK K; clear hK K; refine hK _ ?_; clear hK K)
         | (with_reducible refine todo ?_; simp +decide only [go_sem, nil_eq_cons, hw, htl, hd, hw4, hd2]))
        rw [e, if_pos h, if_neg (by omega)]
        exact Ret_two none rfl (.inl rfl) (.inl rfl)
      · have hd2 : ((r.length : Int) < ((c.toNat + 4 : Nat) : Int)) = False := eq_false (by omega)
        have kt := Try.kTake (r.take (c.toNat + 4)) (by rw [List.length_take]; omega)
        rw [e, if_pos h, if_pos h2]
        have hz : List.drop 0 r = r := rfl
        cases ht : crcTake (r.take (c.toNat + 4)) with
        | none =>
          rw [ht] at kt
          simp only [optS] at kt
          repeat' (first
           | with_reducible first | refine VC_seq fun K hK => ?_ | refine W_region ?_ | refine VC_block ?_ | refine VC_scope ?_ | refine VC_if ?_ | refine VC_skip ?_ | refine VC_exit ?_ | refine VC_ret ?_
           | (with_reducible first | refine G_not (fun h => ?_) (fun h => ?_) | refine G_cases (fun h => ?_) (fun h => ?_)) <;> (try simp only [h])
           | refine C_pure kt rfl rfl (fun _ => rfl) ?_
           | refine W_slcS (a := c :: r) (l := 1) (h := r.length + 1) Try.underlying9 rfl rfl rfl (by omega) (Nat.le_refl _) ?_
           | (refine W_slcS (a := r) (l := 0) (h := c.toNat + 4) Try.underlying9 rfl rfl (by simp [optNat, natOf?, intOf?]; omega) (Nat.zero_le _) h2 ?_)
           | with_reducible first | (refine hK _ ?_; clear hK K) | (clear hK K; refine hK _ ?_; clear hK K) | (clear hK K; clear hK K; refine hK _ ?_; clear hK K) | (clear hK K; clear hK K; clear hK K; refine hK _ ?_; clear hK K)
           | (with_reducible refine todo ?_; simp +decide only [go_sem, nil_eq_cons, hw, htl, hd, hw4, hd2, hz, Nat.sub_zero]))
          exact Ret_two none rfl (.inl rfl) (.inl rfl)
        | some t =>
          rw [ht] at kt
          simp only [optS] at kt
          repeat' (first
           | with_reducible first | refine VC_seq fun K hK => ?_ | refine W_region ?_ | refine VC_block ?_ | refine VC_scope ?_ | refine VC_if ?_ | refine VC_skip ?_ | refine VC_exit ?_ | refine VC_ret ?_
           | (with_reducible first | refine G_not (fun h => ?_) (fun h => ?_) | refine G_cases (fun h => ?_) (fun h => ?_)) <;> (try simp only [h])
           | refine C_pure kt rfl rfl (fun _ => rfl) ?_
           | refine W_slcS (a := c :: r) (l := 1) (h := r.length + 1) Try.underlying9 rfl rfl rfl (by omega) (Nat.le_refl _) ?_
           | (refine W_slcS (a := r) (l := 0) (h := c.toNat + 4) Try.underlying9 rfl rfl (by simp [optNat, natOf?, intOf?]; omega) (Nat.zero_le _) h2 ?_)
           | with_reducible first | (refine hK _ ?_; clear hK K) | (clear hK K; refine hK _ ?_; clear hK K) | (clear hK K; clear hK K; refine hK _ ?_; clear hK K) | (clear hK K; clear hK K; clear hK K; refine hK _ ?_; clear hK K)
           | (with_reducible refine todo ?_; simp +decide only [go_sem, nil_eq_cons, hw, htl, hd, hw4, hd2, hz, Nat.sub_zero]))
          exact Ret_two none rfl (.inl rfl) (.inl rfl)

end Go.Proofs
