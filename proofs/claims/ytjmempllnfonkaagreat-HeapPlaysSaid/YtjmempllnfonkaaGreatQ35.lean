/-
  Parts of the proof, laid together: PwNf, PwNg.
-/
import Derived.Test.YtjmempllnfonkaaGreatQ34

namespace Go.Proofs
open Go.PW
theorem pow_small {b : Nat} (h : b < 8) : 2 ^ b ≤ 128 := by
  have : b ≤ 7 := by omega
  calc 2 ^ b ≤ 2 ^ 7 := Nat.pow_le_pow_right (by decide) this
    _ = 128 := rfl
set_option maxRecDepth 8000 in
set_option maxHeartbeats 8000000 in
theorem Tryz.rBit (page : Nat) : PureOK Tryz.prog 73 [pD (.lit (.int .i64 page))] (.one (.d (.lit (.int .i64 ((2 ^ (page % 8) : Nat) : Int))))) := by
  refine Tryz.pure (md := []) Tryz.func73 rfl Tryz.call73 (by kernel_rfl) (by rfl) (by exact Nat.le_of_ble_eq_true rfl) ?_
  have c1 : Int.tmod (page : Int) 8 = ((page % 8 : Nat) : Int) := tmod_nat page 8
  have hb : page % 8 < 8 := Nat.mod_lt _ (by decide)
  generalize page % 8 = b at *
  repeat' (first
   |with_reducible first|refine vSq fun K hK=>?_|refine vRg ?_|refine vBl ?_|refine vSc ?_|refine vIf ?_|refine vSk ?_|refine vEx ?_|refine vRt ?_
   |(with_reducible first|refine gNt (fun h=>?_) (fun h=>?_)|refine gCs (fun h=>?_) (fun h=>?_))<;>(try simp only[h])
   |with_reducible first|(refine hK _ ?_;clear hK K)|(clear hK K;refine hK _ ?_;clear hK K)|(clear hK K;clear hK K;refine hK _ ?_;clear hK K)|(clear hK K;clear hK K;clear hK K;refine hK _ ?_;clear hK K)
   |(with_reducible refine todo ?_;simp +decide only[go_sem]))
  refine VC_range b (fun _ => True) (fun i => frame [(0, pD (.lit (.int .i64 page))), (3, pD (.lit (.int .i64 ((2 ^ i : Nat) : Int)))), (4, pD (.lit (.int .i64 i)))] [] []) True.intro ?_ ?_
  · refine Weak_frame ?_ ?_ ?_ <;> simp +decide only [go_sem, Nat.pow_zero, Int.natCast_one]
  · intro i hi _
    rcases Nat.lt_or_ge i b with hi2 | hi2
    · have hc := int_lt_true hi2
      have hnx := int_next hi2 (by omega)
      have hp := pow_small (b := i) (by omega)
      have hd : IntKind.i64.wrap (2 * ((2 ^ i : Nat) : Int)) = ((2 ^ (i + 1) : Nat) : Int) := by
        rw [Nat.pow_succ]
        generalize 2 ^ i = q at *
        rw [Go.IntWalk.i64_in _ (by omega)]
        omega
      repeat' (first
       |with_reducible first|refine vSq fun K hK=>?_|refine vRg ?_|refine vBl ?_|refine vSc ?_|refine vIf ?_|refine vSk ?_|refine vEx ?_|refine vRt ?_
       |(with_reducible first|refine gNt (fun h=>?_) (fun h=>?_)|refine gCs (fun h=>?_) (fun h=>?_))<;>(try simp only[h])
       |with_reducible first|(refine hK _ ?_;clear hK K)|(clear hK K;refine hK _ ?_;clear hK K)|(clear hK K;clear hK K;refine hK _ ?_;clear hK K)|(clear hK K;clear hK K;clear hK K;refine hK _ ?_;clear hK K)
       |(with_reducible refine todo ?_;simp +decide only[go_sem, c1, hc, hnx, hd]))
      refine Next_of hi2 True.intro (Weak_frame ?_ ?_ ?_) <;> simp +decide only [go_sem]
    · have hc := int_lt_false hi2
      obtain rfl : i = b := by omega
      repeat' (first
       |with_reducible first|refine vSq fun K hK=>?_|refine vRg ?_|refine vBl ?_|refine vSc ?_|refine vIf ?_|refine vSk ?_|refine vEx ?_|refine vRt ?_
       |(with_reducible first|refine gNt (fun h=>?_) (fun h=>?_)|refine gCs (fun h=>?_) (fun h=>?_))<;>(try simp only[h])
       |with_reducible first|(refine hK _ ?_;clear hK K)|(clear hK K;refine hK _ ?_;clear hK K)|(clear hK K;clear hK K;refine hK _ ?_;clear hK K)|(clear hK K;clear hK K;clear hK K;refine hK _ ?_;clear hK K)
       |(with_reducible refine todo ?_;simp +decide only[go_sem, c1, hc]))
      exact Ret_d rfl rfl
theorem freeB_div {s : List UInt8} {page : Nat} (h : page / 8 < s.length) : freeB s page = (s[page / 8].toNat / 2 ^ (page % 8) % 2 == 0) := by
  have hg : s.getD (page / 8) 0 = s[page / 8] := by rw [List.getD_eq_getElem?_getD, List.getElem?_eq_getElem h]; rfl
  unfold freeB bitV
  rw [hg]
  exact (bitr s[page / 8].toNat_lt (Nat.mod_lt _ (by decide))).1
theorem flipB_div {s : List UInt8} {page : Nat} (h : page / 8 < s.length) : flipB s page = s.set (page / 8) (UInt8.ofNat (if s[page / 8].toNat / 2 ^ (page % 8) % 2 == 0 then s[page / 8].toNat + 2 ^ (page % 8) else s[page / 8].toNat - 2 ^ (page % 8))) := by
  have hg : s.getD (page / 8) 0 = s[page / 8] := by rw [List.getD_eq_getElem?_getD, List.getElem?_eq_getElem h]; rfl
  unfold flipB bitV
  rw [hg, (bitr s[page / 8].toNat_lt (Nat.mod_lt _ (by decide))).2]
  split <;> rw [Int.toNat_natCast]
theorem flip_small {x b : Nat} (hx : x < 256) (hb : b < 8) : (if x / 2 ^ b % 2 == 0 then x + 2 ^ b else x - 2 ^ b) < 256 := by
  have h := (bitr hx hb).2
  have h2 := u8_wrap_range (BitVec.ofInt IntKind.u8.bits (x : Nat) ^^^ BitVec.ofInt IntKind.u8.bits (iShl .u8 1 b)).toNat
  unfold iXor at h
  rw [h] at h2
  split at h2 <;> rename_i e <;> simp only [e] <;> simp <;> omega
section ra
variable {H : HMap} {A : AMap} {I : RI} {x : RS}
theorem RAt.bit0 (h : RAt H A I x) {j : Nat} (hj : j < x.1.length) : j / 8 < (pgAt x.1 0).length := by
  have := h.one
  have := h.most
  rw [h.len 0 (by omega)]
  omega
set_option maxRecDepth 8000 in
set_option maxHeartbeats 16000000 in
theorem Tryz.nIsFree (off : Nat) (hw : Wf H A) (hx : RAt H A I x) (j : Nat) (hj : j < x.1.length) : EffOK Tryz.prog 35 off H A [.c (.ptr I.pid 0), pD (.lit (.int .i64 j))] (pD (.lit (.bool (isFG x.1 j)))) H A := by
  refine effr_ok (E := envOf Tryz.prog [34, 19] off [] []) (envOf_ok Tryz.mixed) Tryz.func35 rfl Tryz.call35 (by kernel_rfl) (by exact Nat.le_of_ble_eq_true rfl) (fun hab => ?_)
  have hab' := Above_mono hab (Nat.le_add_right off 1000)
  unfold isFG isF
  by_cases h0 : j = 0
  · subst h0
    rw [show ((0 : Nat) : Int) = 0 from rfl, show ((0 : Nat) != 0) = false from rfl, Bool.false_and]
    repeat' (first
     |with_reducible first|refine vSq fun K hK=>?_|refine vRg ?_|refine vBl ?_|refine vSc ?_|refine vIf ?_|refine vSk ?_|refine vEx ?_|refine vRt ?_
     |(with_reducible first|refine gNt (fun h=>?_) (fun h=>?_)|refine gCs (fun h=>?_) (fun h=>?_))<;>(try simp only[h])
     |with_reducible first|(refine hK _ ?_;clear hK K)|(clear hK K;refine hK _ ?_;clear hK K)|(clear hK K;clear hK K;refine hK _ ?_;clear hK K)|(clear hK K;clear hK K;clear hK K;refine hK _ ?_;clear hK K)
     |(with_reducible refine todo ?_;simp +decide only[go_sem]))
    exact RetR_same rfl (by simp +decide only [go_sem]) True.intro hw kp_refl (fun _ _ => rfl)
  · have kl := Tryz.nLen (off + 1000) hw hx
    have kd := Tryz.nRead (off + 1000) hw hx 0 (by omega)
    have kb := Tryz.rBit j
    have hlen := hx.bit0 hj
    have c0 : ((j : Int) < 1) = False := eq_false (by omega)
    have c2 : ((x.1.length : Int) ≤ (j : Int)) = False := eq_false (by omega)
    have hm := hx.most
    have c1 : IntKind.i64.wrap (Int.tdiv (j : Int) 8) = ((j / 8 : Nat) : Int) := by rw [show Int.tdiv (j : Int) 8 = ((j / 8 : Nat) : Int) from tdiv_nat j 8, Go.IntWalk.i64_in _ (by omega)]
    have hn : (j != 0) = true := by simpa using h0
    rw [hn, freeB_div hlen, Bool.true_and]
    have hg : (pgAt x.1 0)[j / 8]? = some (pgAt x.1 0)[j / 8] := List.getElem?_eq_getElem hlen
    have hp := pow_small (Nat.mod_lt j (by decide : 8 > 0))
    have hp1 : 0 < 2 ^ (j % 8) := Nat.pow_pos (by decide)
    generalize 2 ^ (j % 8) = p at *
    generalize (pgAt x.1 0)[j / 8] = y at *
    have hy := y.toNat_lt
    have d1 : Int.tdiv (y.toNat : Int) (p : Int) = ((y.toNat / p : Nat) : Int) := tdiv_nat _ _
    have hle : y.toNat / p ≤ y.toNat := Nat.div_le_self _ _
    have w0 : IntKind.i64.wrap (y.toNat : Int) = (y.toNat : Int) := Go.IntWalk.i64_in _ (by omega)
    have z : ((p : Int) = 0) = False := eq_false (by omega)
    generalize y.toNat / p = r at *
    have d2 : Int.tmod (r : Int) 2 = ((r % 2 : Nat) : Int) := tmod_nat _ 2
    have w1 : IntKind.i64.wrap (r : Int) = (r : Int) := Go.IntWalk.i64_in _ (by omega)
    have e : (((r % 2 : Nat) : Int) == 0) = (r % 2 == 0) := by
      rw [Bool.eq_iff_iff]
      simp only [beq_iff_eq]
      omega
    repeat' (first
     |with_reducible first|refine vSq fun K hK=>?_|refine vRg ?_|refine vBl ?_|refine vSc ?_|refine vIf ?_|refine vSk ?_|refine vEx ?_|refine vRt ?_
     |(with_reducible first|refine gNt (fun h=>?_) (fun h=>?_)|refine gCs (fun h=>?_) (fun h=>?_))<;>(try simp only[h])
     |refine C_call rfl kl rfl hab' ?_
     |refine C_call rfl kd rfl hab' ?_
     |refine C_pure kb rfl rfl (fun k => (hab _ (Nat.le_add_right _ _)).2 k) ?_
     |with_reducible first|(refine hK _ ?_;clear hK K)|(clear hK K;refine hK _ ?_;clear hK K)|(clear hK K;clear hK K;refine hK _ ?_;clear hK K)|(clear hK K;clear hK K;clear hK K;refine hK _ ?_;clear hK K)
     |(with_reducible refine todo ?_;simp +decide only[go_sem, c0, c1, c2, hg, d1, d2, w0, w1, z, e]))
    exact RetR_same rfl (by simp +decide only [go_sem]) True.intro hw kp_refl (fun _ _ => rfl)
theorem take_drop_set (s : List UInt8) {k : Nat} (b : UInt8) (h : k < s.length) : s.take k ++ [b] ++ s.drop (k + 1) = s.set k b := by
  rw [List.set_eq_take_append_cons_drop, if_pos h, List.append_assoc]; rfl
set_option maxRecDepth 8000 in
set_option maxHeartbeats 16000000 in
theorem Tryz.nTurn (off : Nat) (hw : Wf H A) (hx : RAt H A I x) (j : Nat) (h0 : j ≠ 0) (hj : j < x.1.length) : EffOK Tryz.prog 36 off H A [.c (.ptr I.pid 0), pD (.lit (.int .i64 j))] (.c .any) (I.up H (wrS x 0 (flipB (pgAt x.1 0) j))) A := by
  refine effr_ok (E := envOf Tryz.prog [35, 19, 37] off [] []) (envOf_ok Tryz.mixed) Tryz.func36 rfl Tryz.call36 (by kernel_rfl) (by exact Nat.le_of_ble_eq_true rfl) (fun hab => ?_)
  have hab' := Above_mono hab (Nat.le_add_right off 1000)
  have kd := Tryz.nRead (off + 1000) hw hx 0 (by omega)
  have kf := Tryz.nIsFree (off + 1000) hw hx j hj
  have kb := Tryz.rBit j
  have hlen := hx.bit0 hj
  have hm := hx.most
  have hl0 := hx.len 0 (by omega)
  have c1 : IntKind.i64.wrap (Int.tdiv (j : Int) 8) = ((j / 8 : Nat) : Int) := by rw [show Int.tdiv (j : Int) 8 = ((j / 8 : Nat) : Int) from tdiv_nat j 8, Go.IntWalk.i64_in _ (by omega)]
  have c2 : IntKind.i64.wrap (((j / 8 : Nat) : Int) + 1) = ((j / 8 + 1 : Nat) : Int) := by rw [Go.IntWalk.i64_in _ (by omega)]; omega
  have hn : (j != 0) = true := by simpa using h0
  have hfl := flipB_div hlen
  have hps : pad (flipB (pgAt x.1 0) j) = flipB (pgAt x.1 0) j := pad_big (by rw [flipB_len, hl0]; exact Nat.le_refl _)
  have kp := Tryz.nPut (off + 1000) hw hx 0 (flipB (pgAt x.1 0) j) (by rw [flipB_len, hl0]; decide)
  rw [hps] at kp
  unfold isFG isF at kf
  rw [hn, freeB_div hlen, Bool.true_and] at kf
  have hg : (pgAt x.1 0)[j / 8]? = some (pgAt x.1 0)[j / 8] := List.getElem?_eq_getElem hlen
  have hp := pow_small (Nat.mod_lt j (by decide : 8 > 0))
  have hfs := flip_small (x := (pgAt x.1 0)[j / 8].toNat) (UInt8.toNat_lt _) (Nat.mod_lt j (by decide : 8 > 0))
  have hge : ((pgAt x.1 0)[j / 8].toNat / 2 ^ (j % 8) % 2 == 0) = false → 2 ^ (j % 8) ≤ (pgAt x.1 0)[j / 8].toNat := fun h => by
    rcases Nat.lt_or_ge (pgAt x.1 0)[j / 8].toNat (2 ^ (j % 8)) with h2 | h2
    · rw [Nat.div_eq_of_lt h2] at h; cases h
    · exact h2
  generalize flipB (pgAt x.1 0) j = F at *
  generalize 2 ^ (j % 8) = p at *
  generalize hyy : (pgAt x.1 0)[j / 8] = y at *
  generalize pgAt x.1 0 = s at *
  have hy := y.toNat_lt
  have w0 : IntKind.i64.wrap (y.toNat : Int) = (y.toNat : Int) := Go.IntWalk.i64_in _ (by omega)
  have e1 : (s.take (j / 8)).length = j / 8 := by rw [List.length_take]; omega
  have s1 : (j / 8 + 1 ≤ 9223372036854775807) = True := eq_true (by omega)
  have e2 : (s.drop (j / 8 + 1)).length = s.length - (j / 8 + 1) := List.length_drop
  have s2 : (j / 8 + 1 + (s.length - (j / 8 + 1)) ≤ 9223372036854775807) = True := eq_true (by omega)
  have t2 : (s.drop (j / 8 + 1)).take (s.length - (j / 8 + 1)) = s.drop (j / 8 + 1) := List.take_of_length_le (by rw [List.length_drop]; exact Nat.le_refl _)
  cases hb : (y.toNat / p % 2 == 0) with
  | true =>
    rw [hb] at kf
    rw [hb, if_pos rfl] at hfl hfs
    have w1 : IntKind.i64.wrap ((y.toNat : Int) + (p : Int)) = ((y.toNat + p : Nat) : Int) := by rw [Go.IntWalk.i64_in _ (by omega)]; omega
    have h8 : IntKind.u8.wrap ((y.toNat + p : Nat) : Int) = ((y.toNat + p : Nat) : Int) := Go.IntWalk.u8_in _ (by omega)
    have hone : [[D.lit (.int .u8 ((y.toNat + p : Nat) : Int))]] = bytesEls [UInt8.ofNat (y.toNat + p)] := by rw [bytesEls_one _ (by omega) (by omega), Int.toNat_natCast]
    have hset := take_drop_set s (UInt8.ofNat (y.toNat + p)) hlen
    rw [← hfl] at hset
    repeat' (first
     |with_reducible first|refine vSq fun K hK=>?_|refine vRg ?_|refine vBl ?_|refine vSc ?_|refine vIf ?_|refine vSk ?_|refine vEx ?_|refine vRt ?_
     |(with_reducible first|refine gNt (fun h=>?_) (fun h=>?_)|refine gCs (fun h=>?_) (fun h=>?_))<;>(try simp only[h])
     |refine C_call rfl kp rfl hab' ?_
     |refine C_call rfl kd rfl hab' ?_
     |refine C_call rfl kf rfl hab' ?_
     |refine C_pure kb rfl rfl (fun k => (hab _ (Nat.le_add_right _ _)).2 k) ?_
     |(refine W_slcS (a := s) (l := 0) (h := j / 8) Tryz.underlying9 rfl rfl (by simp [optNat, natOf?, intOf?]; omega) (by omega) (by omega) ?_)
     |(refine W_slcS (a := s) (l := j / 8 + 1) (h := s.length) Tryz.underlying9 rfl (by simp [optNat, natOf?, intOf?]; omega) rfl (by omega) (by omega) ?_)
     |with_reducible first|(refine hK _ ?_;clear hK K)|(clear hK K;refine hK _ ?_;clear hK K)|(clear hK K;clear hK K;refine hK _ ?_;clear hK K)|(clear hK K;clear hK K;clear hK K;refine hK _ ?_;clear hK K)
     |(with_reducible refine todo ?_;simp +decide only[go_sem, c1, c2, hg, w0, w1, h8, hone, Nat.sub_zero, t2, e1, e2, s1, s2, hset]))
    exact RetR_sub rfl True.intro True.intro (hx.wf hw _) (fun _ _ => rfl) (fun _ _ => rfl) (fun _ h => I.up_keep _ h) (fun _ h => h)
  | false =>
    have hge := hge hb
    rw [hb] at kf
    rw [hb, if_neg (by decide)] at hfl hfs
    have w1 : IntKind.i64.wrap ((y.toNat : Int) - (p : Int)) = ((y.toNat - p : Nat) : Int) := by rw [Go.IntWalk.i64_in _ (by omega)]; omega
    have h8 : IntKind.u8.wrap ((y.toNat - p : Nat) : Int) = ((y.toNat - p : Nat) : Int) := Go.IntWalk.u8_in _ (by omega)
    have hone : [[D.lit (.int .u8 ((y.toNat - p : Nat) : Int))]] = bytesEls [UInt8.ofNat (y.toNat - p)] := by rw [bytesEls_one _ (by omega) (by omega), Int.toNat_natCast]
    have hset := take_drop_set s (UInt8.ofNat (y.toNat - p)) hlen
    rw [← hfl] at hset
    repeat' (first
     |with_reducible first|refine vSq fun K hK=>?_|refine vRg ?_|refine vBl ?_|refine vSc ?_|refine vIf ?_|refine vSk ?_|refine vEx ?_|refine vRt ?_
     |(with_reducible first|refine gNt (fun h=>?_) (fun h=>?_)|refine gCs (fun h=>?_) (fun h=>?_))<;>(try simp only[h])
     |refine C_call rfl kp rfl hab' ?_
     |refine C_call rfl kd rfl hab' ?_
     |refine C_call rfl kf rfl hab' ?_
     |refine C_pure kb rfl rfl (fun k => (hab _ (Nat.le_add_right _ _)).2 k) ?_
     |(refine W_slcS (a := s) (l := 0) (h := j / 8) Tryz.underlying9 rfl rfl (by simp [optNat, natOf?, intOf?]; omega) (by omega) (by omega) ?_)
     |(refine W_slcS (a := s) (l := j / 8 + 1) (h := s.length) Tryz.underlying9 rfl (by simp [optNat, natOf?, intOf?]; omega) rfl (by omega) (by omega) ?_)
     |with_reducible first|(refine hK _ ?_;clear hK K)|(clear hK K;refine hK _ ?_;clear hK K)|(clear hK K;clear hK K;refine hK _ ?_;clear hK K)|(clear hK K;clear hK K;clear hK K;refine hK _ ?_;clear hK K)
     |(with_reducible refine todo ?_;simp +decide only[go_sem, c1, c2, hg, w0, w1, h8, hone, Nat.sub_zero, t2, e1, e2, s1, s2, hset]))
    exact RetR_sub rfl True.intro True.intro (hx.wf hw _) (fun _ _ => rfl) (fun _ _ => rfl) (fun _ h => I.up_keep _ h) (fun _ h => h)
end ra
end Go.Proofs

namespace Go.Proofs
open Go.PW
theorem cntP_le (p : Nat → Bool) : ∀ n, cntP p n ≤ n
  | 0 => Nat.le_refl _
  | n + 1 => by
    have := cntP_le p n
    unfold cntP
    split <;> omega
section ra
variable {H : HMap} {A : AMap} {I : RI} {x : RS}
set_option maxRecDepth 8000 in
set_option maxHeartbeats 16000000 in
theorem Tryz.nFrees (off : Nat) (hw : Wf H A) (hx : RAt H A I x) : EffOK Tryz.prog 80 off H A [.c (.ptr I.pid 0)] (pD (.lit (.int .i64 (frG x.1)))) H A := by
  refine effr_ok (E := envOf Tryz.prog [34, 35] off [] []) (envOf_ok Tryz.mixed) Tryz.func80 rfl Tryz.call80 (by kernel_rfl) (by exact Nat.le_of_ble_eq_true rfl) (fun hab => ?_)
  have hab' := Above_mono hab (Nat.le_add_right off 1000)
  have kl := Tryz.nLen (off + 1000) hw hx
  have hm := hx.most
  have hptr := fun {X Y : AMap} => hx.ptr (A1 := X) (A2 := Y)
  have hif := fun (i : Nat) (h : i < x.1.length) => Tryz.nIsFree (off + 1000) hw hx i h
  rw [frG_cnt]
  generalize hN : x.1.length = N at *
  repeat' (first
   |with_reducible first|refine vSq fun K hK=>?_|refine vRg ?_|refine vBl ?_|refine vSc ?_|refine vIf ?_|refine vSk ?_|refine vEx ?_|refine vRt ?_
   |(with_reducible first|refine gNt (fun h=>?_) (fun h=>?_)|refine gCs (fun h=>?_) (fun h=>?_))<;>(try simp only[h])
   |with_reducible first|(refine hK _ ?_;clear hK K)|(clear hK K;refine hK _ ?_;clear hK K)|(clear hK K;clear hK K;refine hK _ ?_;clear hK K)|(clear hK K;clear hK K;clear hK K;refine hK _ ?_;clear hK K)
   |(with_reducible refine todo ?_;simp +decide only[go_sem]))
  refine VC_range N (fun _ => True) (fun i => over [(0, .c (.ptr I.pid 0)), (3, pD (.lit (.int .i64 (cntP (isFG x.1) i)))), (4, pD (.lit (.int .i64 i)))] [] H A) True.intro ?_ ?_
  · refine Weak_overG hw (fun _ _ => rfl) rfl ?_ ?_ (fun i hi => hi) (fun _ h => h)
    · simp +decide only [go_sem, hptr, cntP]
    · simp +decide only [go_sem]
  · intro i hi _
    rcases Nat.lt_or_ge i N with hi2 | hi2
    · have hc := int_lt_true hi2
      have hnx := int_next hi2 (by omega)
      have kf := hif i hi2
      have hle := cntP_le (isFG x.1) i
      have c1 : IntKind.i64.wrap ((cntP (isFG x.1) i : Int) + 1) = ((cntP (isFG x.1) i + 1 : Nat) : Int) := Go.IntWalk.i64_in _ (by omega)
      cases hb : isFG x.1 i with
      | true =>
        rw [hb] at kf
        have e : cntP (isFG x.1) (i + 1) = cntP (isFG x.1) i + 1 := by rw [cntP, if_pos hb]
        repeat' (first
         |with_reducible first|refine vSq fun K hK=>?_|refine vRg ?_|refine vBl ?_|refine vSc ?_|refine vIf ?_|refine vSk ?_|refine vEx ?_|refine vRt ?_
         |(with_reducible first|refine gNt (fun h=>?_) (fun h=>?_)|refine gCs (fun h=>?_) (fun h=>?_))<;>(try simp only[h])
         |refine C_call rfl kl rfl hab' ?_
         |refine C_call rfl kf rfl hab' ?_
         |with_reducible first|(refine hK _ ?_;clear hK K)|(clear hK K;refine hK _ ?_;clear hK K)|(clear hK K;clear hK K;refine hK _ ?_;clear hK K)|(clear hK K;clear hK K;clear hK K;refine hK _ ?_;clear hK K)
         |(with_reducible refine todo ?_;simp +decide only[go_sem, hc, hnx, c1]))
        refine Next_of hi2 True.intro (Weak_overG hw kp_nil rfl ?_ ?_ (fun i hi => hi) (fun _ h => h))
        · simp +decide only [go_sem, hptr, e]
        · simp +decide only [go_sem]
      | false =>
        rw [hb] at kf
        have e : cntP (isFG x.1) (i + 1) = cntP (isFG x.1) i := by rw [cntP, if_neg (by rw [hb]; simp)]; rfl
        repeat' (first
         |with_reducible first|refine vSq fun K hK=>?_|refine vRg ?_|refine vBl ?_|refine vSc ?_|refine vIf ?_|refine vSk ?_|refine vEx ?_|refine vRt ?_
         |(with_reducible first|refine gNt (fun h=>?_) (fun h=>?_)|refine gCs (fun h=>?_) (fun h=>?_))<;>(try simp only[h])
         |refine C_call rfl kl rfl hab' ?_
         |refine C_call rfl kf rfl hab' ?_
         |with_reducible first|(refine hK _ ?_;clear hK K)|(clear hK K;refine hK _ ?_;clear hK K)|(clear hK K;clear hK K;refine hK _ ?_;clear hK K)|(clear hK K;clear hK K;clear hK K;refine hK _ ?_;clear hK K)
         |(with_reducible refine todo ?_;simp +decide only[go_sem, hc, hnx]))
        refine Next_of hi2 True.intro (Weak_overG hw kp_nil rfl ?_ ?_ (fun i hi => hi) (fun _ h => h))
        · simp +decide only [go_sem, hptr, e]
        · simp +decide only [go_sem]
    · have hc := int_lt_false hi2
      have hie : i = N := by omega
      subst hie
      repeat' (first
       |with_reducible first|refine vSq fun K hK=>?_|refine vRg ?_|refine vBl ?_|refine vSc ?_|refine vIf ?_|refine vSk ?_|refine vEx ?_|refine vRt ?_
       |(with_reducible first|refine gNt (fun h=>?_) (fun h=>?_)|refine gCs (fun h=>?_) (fun h=>?_))<;>(try simp only[h])
       |refine C_call rfl kl rfl hab' ?_
       |with_reducible first|(refine hK _ ?_;clear hK K)|(clear hK K;refine hK _ ?_;clear hK K)|(clear hK K;clear hK K;refine hK _ ?_;clear hK K)|(clear hK K;clear hK K;clear hK K;refine hK _ ?_;clear hK K)
       |(with_reducible refine todo ?_;simp +decide only[go_sem, hc]))
      exact RetR_same rfl (by simp +decide only [go_sem]) True.intro hw kp_nil (fun _ _ => rfl)
set_option maxRecDepth 8000 in
set_option maxHeartbeats 16000000 in
theorem Tryz.nAllocN (off : Nat) (hw : Wf H A) (hx : RAt H A I x) (hno : ∀ i, i < x.1.length → isFG x.1 i = false) : EffOK Tryz.prog 9 off H A [.c (.ptr I.pid 0)] (.tup [.c (.d (.lit (.int .i64 0))), .c (.d (.lit (.int .i64 3)))]) H A := by
  refine effr_ok (E := envOf Tryz.prog [34, 35, 36, 37] off [] []) (envOf_ok Tryz.mixed) Tryz.func9 rfl Tryz.call9 (by kernel_rfl) (by exact Nat.le_of_ble_eq_true rfl) (fun hab => ?_)
  have hab' := Above_mono hab (Nat.le_add_right off 1000)
  have kl := Tryz.nLen (off + 1000) hw hx
  have hm := hx.most
  have h1 := hx.one
  have hptr := fun {X Y : AMap} => hx.ptr (A1 := X) (A2 := Y)
  have hif := fun (i : Nat) (h : i < x.1.length) => Tryz.nIsFree (off + 1000) hw hx i h
  generalize hN : x.1.length = N at *
  repeat' (first
   |with_reducible first|refine vSq fun K hK=>?_|refine vRg ?_|refine vBl ?_|refine vSc ?_|refine vIf ?_|refine vSk ?_|refine vEx ?_|refine vRt ?_
   |(with_reducible first|refine gNt (fun h=>?_) (fun h=>?_)|refine gCs (fun h=>?_) (fun h=>?_))<;>(try simp only[h])
   |with_reducible first|(refine hK _ ?_;clear hK K)|(clear hK K;refine hK _ ?_;clear hK K)|(clear hK K;clear hK K;refine hK _ ?_;clear hK K)|(clear hK K;clear hK K;clear hK K;refine hK _ ?_;clear hK K)
   |(with_reducible refine todo ?_;simp +decide only[go_sem]))
  refine VC_range (N - 1) (fun _ => True) (fun i => over [(0, .c (.ptr I.pid 0)), (4, pD (.lit (.int .i64 ((i + 1 : Nat) : Int))))] [] H A) True.intro ?_ ?_
  · refine Weak_overG hw (fun _ _ => rfl) rfl ?_ ?_ (fun i hi => hi) (fun _ h => h)
    · simp +decide only [go_sem, hptr, Nat.zero_add, Int.natCast_one]
    · simp +decide only [go_sem]
  · intro i hi _
    rcases Nat.lt_or_ge i (N - 1) with hi2 | hi2
    · have hc := int_lt_true (show i + 1 < N by omega)
      have hnx := int_next (show i + 1 < N by omega) (by omega)
      have kf := hif (i + 1) (by omega)
      rw [hno (i + 1) (by omega)] at kf
      repeat' (first
       |with_reducible first|refine vSq fun K hK=>?_|refine vRg ?_|refine vBl ?_|refine vSc ?_|refine vIf ?_|refine vSk ?_|refine vEx ?_|refine vRt ?_
       |(with_reducible first|refine gNt (fun h=>?_) (fun h=>?_)|refine gCs (fun h=>?_) (fun h=>?_))<;>(try simp only[h])
       |refine C_call rfl kl rfl hab' ?_
       |refine C_call rfl kf rfl hab' ?_
       |with_reducible first|(refine hK _ ?_;clear hK K)|(clear hK K;refine hK _ ?_;clear hK K)|(clear hK K;clear hK K;refine hK _ ?_;clear hK K)|(clear hK K;clear hK K;clear hK K;refine hK _ ?_;clear hK K)
       |(with_reducible refine todo ?_;simp +decide only[go_sem, hc, hnx]))
      refine Next_of hi2 True.intro (Weak_overG hw kp_nil rfl ?_ ?_ (fun i hi => hi) (fun _ h => h))
      · simp +decide only [go_sem, hptr]
      · simp +decide only [go_sem]
    · have hc := int_lt_false (show N ≤ i + 1 by omega)
      repeat' (first
       |with_reducible first|refine vSq fun K hK=>?_|refine vRg ?_|refine vBl ?_|refine vSc ?_|refine vIf ?_|refine vSk ?_|refine vEx ?_|refine vRt ?_
       |(with_reducible first|refine gNt (fun h=>?_) (fun h=>?_)|refine gCs (fun h=>?_) (fun h=>?_))<;>(try simp only[h])
       |refine C_call rfl kl rfl hab' ?_
       |with_reducible first|(refine hK _ ?_;clear hK K)|(clear hK K;refine hK _ ?_;clear hK K)|(clear hK K;clear hK K;refine hK _ ?_;clear hK K)|(clear hK K;clear hK K;clear hK K;refine hK _ ?_;clear hK K)
       |(with_reducible refine todo ?_;simp +decide only[go_sem, hc]))
      exact RetR_same rfl wk_pair oks_pair hw kp_nil (fun _ _ => rfl)
def allocS (x : RS) (q : Nat) : RS := wrS (wrS x 0 (flipB (pgAt x.1 0) q)) q zeros
theorem RAt.flip (h : RAt H A I x) (q : Nat) : RAt (I.up H (wrS x 0 (flipB (pgAt x.1 0) q))) A I (wrS x 0 (flipB (pgAt x.1 0) q)) := by
  have := h.one
  exact h.wr (by omega) (by rw [flipB_len]; exact h.len 0 (by omega))
theorem RAt.alloc (h : RAt H A I x) {q : Nat} (hq : q < x.1.length) : RAt (I.up H (allocS x q)) A I (allocS x q) := by
  have h2 := (h.flip q).wr (j := q) (s := zeros) (by show q < (x.1.set 0 _).length; rw [List.length_set]; exact hq) zeros_len
  rw [I.up_up] at h2
  exact h2
set_option maxRecDepth 8000 in
set_option maxHeartbeats 16000000 in
theorem Tryz.nAlloc (off : Nat) (hw : Wf H A) (hx : RAt H A I x) (q : Nat) (hq : q < x.1.length) (hf : isFG x.1 q = true) (hno : ∀ i, i < q → isFG x.1 i = false) :
    EffOK Tryz.prog 9 off H A [.c (.ptr I.pid 0)] (.tup [.c (.d (.lit (.int .i64 q))), .c (.d (.lit (.int .i64 0)))]) (I.up H (allocS x q)) A := by
  refine effr_ok (E := envOf Tryz.prog [34, 35, 36, 37] off [] []) (envOf_ok Tryz.mixed) Tryz.func9 rfl Tryz.call9 (by kernel_rfl) (by exact Nat.le_of_ble_eq_true rfl) (fun hab => ?_)
  have hab' := Above_mono hab (Nat.le_add_right off 1000)
  have kl := Tryz.nLen (off + 1000) hw hx
  have hm := hx.most
  have h0 := (isF_pos hf).1
  have hx1 := hx.flip q
  have hw1 := hx.wf hw (wrS x 0 (flipB (pgAt x.1 0) q))
  have hab1 : Above (off + 1000) (I.up H (wrS x 0 (flipB (pgAt x.1 0) q))) A := Above_updH hab' (Nat.lt_of_lt_of_le (hx.lt hab) (by omega))
  have kt := Tryz.nTurn (off + 1000) hw hx q h0 hq
  have kp := Tryz.nPut (off + 1000) hw1 hx1 q [] (by decide)
  have hpz : pad [] = zeros := by decide +kernel
  rw [hpz, I.up_up, show wrS (wrS x 0 (flipB (pgAt x.1 0) q)) q zeros = allocS x q from rfl] at kp
  have hfin := (hx.alloc hq)
  have hwf := hx.wf hw (allocS x q)
  have hptr := fun {X Y : AMap} => hx.ptr (A1 := X) (A2 := Y)
  have hif := fun (i : Nat) (h : i < x.1.length) => Tryz.nIsFree (off + 1000) hw hx i h
  have kH : ∀ i, H i ≠ none → I.up H (allocS x q) i ≠ none := fun i h => I.up_keep _ h
  generalize hN : x.1.length = N at *
  repeat' (first
   |with_reducible first|refine vSq fun K hK=>?_|refine vRg ?_|refine vBl ?_|refine vSc ?_|refine vIf ?_|refine vSk ?_|refine vEx ?_|refine vRt ?_
   |(with_reducible first|refine gNt (fun h=>?_) (fun h=>?_)|refine gCs (fun h=>?_) (fun h=>?_))<;>(try simp only[h])
   |with_reducible first|(refine hK _ ?_;clear hK K)|(clear hK K;refine hK _ ?_;clear hK K)|(clear hK K;clear hK K;refine hK _ ?_;clear hK K)|(clear hK K;clear hK K;clear hK K;refine hK _ ?_;clear hK K)
   |(with_reducible refine todo ?_;simp +decide only[go_sem]))
  refine VC_range (N - 1) (fun i => i + 1 ≤ q) (fun i => over [(0, .c (.ptr I.pid 0)), (4, pD (.lit (.int .i64 ((i + 1 : Nat) : Int))))] [] H A) (by omega) ?_ ?_
  · refine Weak_overG hw (fun _ _ => rfl) rfl ?_ ?_ (fun i hi => hi) (fun _ h => h)
    · simp +decide only [go_sem, hptr, Nat.zero_add, Int.natCast_one]
    · simp +decide only [go_sem]
  · intro i hi hiq
    have hi2 : i < N - 1 := by omega
    have hc := int_lt_true (show i + 1 < N by omega)
    have kf := hif (i + 1) (by omega)
    by_cases hlt : i + 1 < q
    · have hnx := int_next (show i + 1 < N by omega) (by omega)
      rw [hno (i + 1) hlt] at kf
      repeat' (first
       |with_reducible first|refine vSq fun K hK=>?_|refine vRg ?_|refine vBl ?_|refine vSc ?_|refine vIf ?_|refine vSk ?_|refine vEx ?_|refine vRt ?_
       |(with_reducible first|refine gNt (fun h=>?_) (fun h=>?_)|refine gCs (fun h=>?_) (fun h=>?_))<;>(try simp only[h])
       |refine C_call rfl kl rfl hab' ?_
       |refine C_call rfl kf rfl hab' ?_
       |with_reducible first|(refine hK _ ?_;clear hK K)|(clear hK K;refine hK _ ?_;clear hK K)|(clear hK K;clear hK K;refine hK _ ?_;clear hK K)|(clear hK K;clear hK K;clear hK K;refine hK _ ?_;clear hK K)
       |(with_reducible refine todo ?_;simp +decide only[go_sem, hc, hnx]))
      refine Next_of hi2 (by omega) (Weak_overG hw kp_nil rfl ?_ ?_ (fun i hi => hi) (fun _ h => h))
      · simp +decide only [go_sem, hptr]
      · simp +decide only [go_sem]
    · obtain rfl : q = i + 1 := by omega
      rw [hf] at kf
      generalize wrS x 0 (flipB (pgAt x.1 0) (i + 1)) = y at *
      generalize allocS x (i + 1) = z at *
      repeat' (first
       |with_reducible first|refine vSq fun K hK=>?_|refine vRg ?_|refine vBl ?_|refine vSc ?_|refine vIf ?_|refine vSk ?_|refine vEx ?_|refine vRt ?_
       |(with_reducible first|refine gNt (fun h=>?_) (fun h=>?_)|refine gCs (fun h=>?_) (fun h=>?_))<;>(try simp only[h])
       |refine C_call rfl kl rfl hab' ?_
       |refine C_call rfl kf rfl hab' ?_
       |refine C_call rfl kt rfl hab' ?_
       |refine C_call rfl kp rfl hab1 ?_
       |with_reducible first|(refine hK _ ?_;clear hK K)|(clear hK K;refine hK _ ?_;clear hK K)|(clear hK K;clear hK K;refine hK _ ?_;clear hK K)|(clear hK K;clear hK K;clear hK K;refine hK _ ?_;clear hK K)
       |(with_reducible refine todo ?_;simp +decide only[go_sem, hc]))
      exact RetR_sub rfl wk_pair oks_pair hwf (fun _ _ => rfl) (fun _ _ => rfl) kH (fun _ h => h)
def freeS (x : RS) (q : Nat) : RS := if isFG x.1 q = true then x else wrS x 0 (flipB (pgAt x.1 0) q)
theorem freeS_1 (x : RS) (q : Nat) : (freeS x q).1 = freeG x.1 q := by
  unfold freeS freeG
  split <;> rfl
theorem RAt.free (h : RAt H A I x) (q : Nat) : RAt (I.up H (freeS x q)) A I (freeS x q) := by
  unfold freeS
  split
  · rw [RI.up_self h]; exact h
  · exact h.flip q
set_option maxRecDepth 8000 in
set_option maxHeartbeats 16000000 in
theorem Tryz.nFree (off : Nat) (hw : Wf H A) (hx : RAt H A I x) (q : Nat) (h0 : q ≠ 0) (hq : q < x.1.length) :
    EffOK Tryz.prog 83 off H A [.c (.ptr I.pid 0), pD (.lit (.int .i64 q))] (pD (.lit (.int .i64 (if isFG x.1 q = true then 6 else 0)))) (I.up H (freeS x q)) A := by
  refine effr_ok (E := envOf Tryz.prog [34, 35, 36] off [] []) (envOf_ok Tryz.mixed) Tryz.func83 rfl Tryz.call83 (by kernel_rfl) (by exact Nat.le_of_ble_eq_true rfl) (fun hab => ?_)
  have hab' := Above_mono hab (Nat.le_add_right off 1000)
  have kl := Tryz.nLen (off + 1000) hw hx
  have kf := Tryz.nIsFree (off + 1000) hw hx q hq
  have kt := Tryz.nTurn (off + 1000) hw hx q h0 hq
  have c0 : ((q : Int) < 0) = False := eq_false (by omega)
  have c2 : ((x.1.length : Int) ≤ (q : Int)) = False := eq_false (by omega)
  have z : ((q : Int) == 0) = false := by rw [beq_eq_false_iff_ne]; omega
  unfold freeS
  cases hb : isFG x.1 q with
  | true =>
    rw [hb] at kf
    rw [if_pos rfl, if_pos rfl, RI.up_self hx]
    repeat' (first
     |with_reducible first|refine vSq fun K hK=>?_|refine vRg ?_|refine vBl ?_|refine vSc ?_|refine vIf ?_|refine vSk ?_|refine vEx ?_|refine vRt ?_
     |(with_reducible first|refine gNt (fun h=>?_) (fun h=>?_)|refine gCs (fun h=>?_) (fun h=>?_))<;>(try simp only[h])
     |refine C_call rfl kl rfl hab' ?_
     |refine C_call rfl kf rfl hab' ?_
     |with_reducible first|(refine hK _ ?_;clear hK K)|(clear hK K;refine hK _ ?_;clear hK K)|(clear hK K;clear hK K;refine hK _ ?_;clear hK K)|(clear hK K;clear hK K;clear hK K;refine hK _ ?_;clear hK K)
     |(with_reducible refine todo ?_;simp +decide only[go_sem, c0, c2, z]))
    exact RetR_same rfl (by simp +decide only [go_sem]) True.intro hw kp_refl (fun _ _ => rfl)
  | false =>
    rw [hb] at kf
    rw [if_neg (by decide), if_neg (by decide)]
    have hwf := hx.wf hw (wrS x 0 (flipB (pgAt x.1 0) q))
    generalize wrS x 0 (flipB (pgAt x.1 0) q) = y at *
    repeat' (first
     |with_reducible first|refine vSq fun K hK=>?_|refine vRg ?_|refine vBl ?_|refine vSc ?_|refine vIf ?_|refine vSk ?_|refine vEx ?_|refine vRt ?_
     |(with_reducible first|refine gNt (fun h=>?_) (fun h=>?_)|refine gCs (fun h=>?_) (fun h=>?_))<;>(try simp only[h])
     |refine C_call rfl kl rfl hab' ?_
     |refine C_call rfl kf rfl hab' ?_
     |refine C_call rfl kt rfl hab' ?_
     |with_reducible first|(refine hK _ ?_;clear hK K)|(clear hK K;refine hK _ ?_;clear hK K)|(clear hK K;clear hK K;refine hK _ ?_;clear hK K)|(clear hK K;clear hK K;clear hK K;refine hK _ ?_;clear hK K)
     |(with_reducible refine todo ?_;simp +decide only[go_sem, c0, c2, z]))
    exact RetR_sub rfl (by simp +decide only [go_sem]) True.intro hwf (fun _ _ => rfl) (fun _ _ => rfl) (fun _ h => I.up_keep _ h) (fun _ h => h)
def writeS (x : RS) (page : Int) (s : List UInt8) : RS := if pgWrE x.1.length page s ≠ 0 then x else wrS x page.toNat (pad s)
theorem pgWrE_ok {n : Nat} {page : Int} {s : List UInt8} (h : pgWrE n page s = 0) : 0 < page ∧ page < (n : Int) ∧ s.length ≤ 128 := by
  unfold pgWrE pgRight at h
  by_cases h1 : page < 0 ∨ (n : Int) ≤ page
  · rw [if_pos h1, if_pos (by decide)] at h; cases h
  · rw [if_neg h1, if_neg (by decide)] at h
    by_cases h2 : page = 0
    · rw [if_pos h2] at h; cases h
    · rw [if_neg h2] at h
      by_cases h3 : 128 < s.length
      · rw [if_pos h3] at h; cases h
      · omega
theorem RAt.write (h : RAt H A I x) (page : Int) (s : List UInt8) : RAt (I.up H (writeS x page s)) A I (writeS x page s) := by
  unfold writeS
  split
  · rw [RI.up_self h]; exact h
  · next he =>
    obtain ⟨h1, h2, h3⟩ := pgWrE_ok (by simpa using he)
    exact h.wr (by omega) (pad_len h3)
set_option maxRecDepth 8000 in
set_option maxHeartbeats 16000000 in
theorem Tryz.nWrite (off : Nat) (hw : Wf H A) (hx : RAt H A I x) (page : Int) (s : List UInt8) (hs : s.length ≤ 1000000) :
    EffOK Tryz.prog 11 off H A [.c (.ptr I.pid 0), pD (.lit (.int .i64 page)), pD (dS s)] (pD (.lit (.int .i64 (pgWrE x.1.length page s)))) (I.up H (writeS x page s)) A := by
  refine effr_ok (E := envOf Tryz.prog [34, 37] off [] []) (envOf_ok Tryz.mixed) Tryz.func11 rfl Tryz.call11 (by kernel_rfl) (by exact Nat.le_of_ble_eq_true rfl) (fun hab => ?_)
  have hab' := Above_mono hab (Nat.le_add_right off 1000)
  have kl := Tryz.nLen (off + 1000) hw hx
  unfold writeS
  by_cases he : pgWrE x.1.length page s = 0
  · rw [if_neg (by simpa using he)]
    obtain ⟨h1, h2, h3⟩ := pgWrE_ok he
    rw [he]
    have kp := Tryz.nPut (off + 1000) hw hx page.toNat s hs
    rw [show ((page.toNat : Nat) : Int) = page by omega] at kp
    have hwf := hx.wf hw (wrS x page.toNat (pad s))
    have c0 : (page < 0) = False := eq_false (by omega)
    have c2 : ((x.1.length : Int) ≤ page) = False := eq_false (by omega)
    have z : (page == 0) = false := by rw [beq_eq_false_iff_ne]; omega
    have c3 : ((128 : Int) < (s.length : Int)) = False := eq_false (by omega)
    generalize wrS x page.toNat (pad s) = y at *
    repeat' (first
     |with_reducible first|refine vSq fun K hK=>?_|refine vRg ?_|refine vBl ?_|refine vSc ?_|refine vIf ?_|refine vSk ?_|refine vEx ?_|refine vRt ?_
     |(with_reducible first|refine gNt (fun h=>?_) (fun h=>?_)|refine gCs (fun h=>?_) (fun h=>?_))<;>(try simp only[h])
     |refine C_call rfl kl rfl hab' ?_
     |refine C_call rfl kp rfl hab' ?_
     |with_reducible first|(refine hK _ ?_;clear hK K)|(clear hK K;refine hK _ ?_;clear hK K)|(clear hK K;clear hK K;refine hK _ ?_;clear hK K)|(clear hK K;clear hK K;clear hK K;refine hK _ ?_;clear hK K)
     |(with_reducible refine todo ?_;simp +decide only[go_sem, c0, c2, z, c3]))
    exact RetR_sub rfl (by simp +decide only [go_sem]) True.intro hwf (fun _ _ => rfl) (fun _ _ => rfl) (fun _ h => I.up_keep _ h) (fun _ h => h)
  · rw [if_pos he, RI.up_self hx]
    unfold pgWrE pgRight at he ⊢
    by_cases h1 : page < 0 ∨ (x.1.length : Int) ≤ page
    · rw [if_pos h1, if_pos (by decide)]
      by_cases h2 : page < 0
      · have c0 : (page < 0) = True := eq_true h2
        repeat' (first
         |with_reducible first|refine vSq fun K hK=>?_|refine vRg ?_|refine vBl ?_|refine vSc ?_|refine vIf ?_|refine vSk ?_|refine vEx ?_|refine vRt ?_
         |(with_reducible first|refine gNt (fun h=>?_) (fun h=>?_)|refine gCs (fun h=>?_) (fun h=>?_))<;>(try simp only[h])
         |with_reducible first|(refine hK _ ?_;clear hK K)|(clear hK K;refine hK _ ?_;clear hK K)|(clear hK K;clear hK K;refine hK _ ?_;clear hK K)|(clear hK K;clear hK K;clear hK K;refine hK _ ?_;clear hK K)
         |(with_reducible refine todo ?_;simp +decide only[go_sem, c0]))
        exact RetR_same rfl (by simp +decide only [go_sem]) True.intro hw kp_refl (fun _ _ => rfl)
      · have c0 : (page < 0) = False := eq_false h2
        have c2 : ((x.1.length : Int) ≤ page) = True := eq_true (by omega)
        repeat' (first
         |with_reducible first|refine vSq fun K hK=>?_|refine vRg ?_|refine vBl ?_|refine vSc ?_|refine vIf ?_|refine vSk ?_|refine vEx ?_|refine vRt ?_
         |(with_reducible first|refine gNt (fun h=>?_) (fun h=>?_)|refine gCs (fun h=>?_) (fun h=>?_))<;>(try simp only[h])
         |refine C_call rfl kl rfl hab' ?_
         |with_reducible first|(refine hK _ ?_;clear hK K)|(clear hK K;refine hK _ ?_;clear hK K)|(clear hK K;clear hK K;refine hK _ ?_;clear hK K)|(clear hK K;clear hK K;clear hK K;refine hK _ ?_;clear hK K)
         |(with_reducible refine todo ?_;simp +decide only[go_sem, c0, c2]))
        exact RetR_same rfl (by simp +decide only [go_sem]) True.intro hw kp_refl (fun _ _ => rfl)
    · rw [if_neg h1, if_neg (by decide)] at he ⊢
      have c0 : (page < 0) = False := eq_false (by omega)
      have c2 : ((x.1.length : Int) ≤ page) = False := eq_false (by omega)
      by_cases h2 : page = 0
      · rw [if_pos h2]
        have z : (page == 0) = true := by simpa using h2
        repeat' (first
         |with_reducible first|refine vSq fun K hK=>?_|refine vRg ?_|refine vBl ?_|refine vSc ?_|refine vIf ?_|refine vSk ?_|refine vEx ?_|refine vRt ?_
         |(with_reducible first|refine gNt (fun h=>?_) (fun h=>?_)|refine gCs (fun h=>?_) (fun h=>?_))<;>(try simp only[h])
         |refine C_call rfl kl rfl hab' ?_
         |with_reducible first|(refine hK _ ?_;clear hK K)|(clear hK K;refine hK _ ?_;clear hK K)|(clear hK K;clear hK K;refine hK _ ?_;clear hK K)|(clear hK K;clear hK K;clear hK K;refine hK _ ?_;clear hK K)
         |(with_reducible refine todo ?_;simp +decide only[go_sem, c0, c2, z]))
        exact RetR_same rfl (by simp +decide only [go_sem]) True.intro hw kp_refl (fun _ _ => rfl)
      · rw [if_neg h2] at he ⊢
        have z : (page == 0) = false := by simpa using h2
        by_cases h3 : 128 < s.length
        · rw [if_pos h3]
          have c3 : ((128 : Int) < (s.length : Int)) = True := eq_true (by omega)
          repeat' (first
           |with_reducible first|refine vSq fun K hK=>?_|refine vRg ?_|refine vBl ?_|refine vSc ?_|refine vIf ?_|refine vSk ?_|refine vEx ?_|refine vRt ?_
           |(with_reducible first|refine gNt (fun h=>?_) (fun h=>?_)|refine gCs (fun h=>?_) (fun h=>?_))<;>(try simp only[h])
           |refine C_call rfl kl rfl hab' ?_
           |with_reducible first|(refine hK _ ?_;clear hK K)|(clear hK K;refine hK _ ?_;clear hK K)|(clear hK K;clear hK K;refine hK _ ?_;clear hK K)|(clear hK K;clear hK K;clear hK K;refine hK _ ?_;clear hK K)
           |(with_reducible refine todo ?_;simp +decide only[go_sem, c0, c2, z, c3]))
          exact RetR_same rfl (by simp +decide only [go_sem]) True.intro hw kp_refl (fun _ _ => rfl)
        · rw [if_neg h3] at he
          exact (he rfl).elim
end ra
end Go.Proofs
