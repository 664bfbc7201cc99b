/-
  Parts of the proof, laid together: PwPw, PwQg, PwQh.
-/
import Derived.Test.YtghlemfokpfngaaQ33
import Derived.Test.YtghlemfokpfngaaQ24
import Derived.Test.YtghlemfokpfngaaQ23

namespace Go.Proofs
open Go.PW
set_option maxRecDepth 8000 in
set_option maxHeartbeats 8000000 in
theorem Try.kInts (a b : List Int) (ha : a.length ≤ 1000000) : PureOK Try.prog 20 [.c (.d (.sl (ints a))), .c (.d (.sl (ints b)))] (.one (.d (.lit (.bool (a == b))))) := by
  refine Try.pure (md := []) Try.func20 rfl Try.call20 (by kernel_rfl) (by rfl) (by exact Nat.le_of_ble_eq_true rfl) ?_
  have la := ints_len a
  have lb := ints_len b
  by_cases hl : a.length = b.length
  · have hne : (((ints a).length : Int) != ((ints b).length : Int)) = false := by rw [la, lb, hl]; simp
    repeat' (first
     |with_reducible first|refine vSq fun K hK=>?_|refine vRg ?_|refine vBl ?_|refine vSc ?_|refine vIf ?_|refine vSk ?_|refine vEx ?_|refine vRt ?_
     |(with_reducible first|refine gNt (fun h=>?_) (fun h=>?_)|refine gCs (fun h=>?_) (fun h=>?_))<;>(try simp only[h])
     |with_reducible first|(refine hK _ ?_;clear hK K)|(clear hK K;refine hK _ ?_;clear hK K)|(clear hK K;clear hK K;refine hK _ ?_;clear hK K)|(clear hK K;clear hK K;clear hK K;refine hK _ ?_;clear hK K)
     |(with_reducible refine todo ?_;simp +decide only[go_sem, hne]))
    refine VC_range a.length (fun i => a.take i = b.take i) (fun i => frame [(0, .c (.d (.sl (ints a)))), (1, .c (.d (.sl (ints b)))), (5, pD (.lit (.int .i64 i)))] [] []) rfl ?_ ?_
    · refine Weak_frame ?_ ?_ ?_ <;> simp +decide only [go_sem]
    · intro i hi h0
      rcases Nat.lt_or_ge i a.length with hi2 | hi2
      · have hc := int_lt_true hi2
        rw [← la] at hc
        have hnx := int_next hi2 (by omega)
        have g1 := ints_get hi2
        have g2 := ints_get (l := b) (i := i) (by omega)
        cases hq : (a[i] != b[i]) with
        | false =>
          have hq' : a[i] = b[i] := by simpa using hq
          repeat' (first
           |with_reducible first|refine vSq fun K hK=>?_|refine vRg ?_|refine vBl ?_|refine vSc ?_|refine vIf ?_|refine vSk ?_|refine vEx ?_|refine vRt ?_
           |(with_reducible first|refine gNt (fun h=>?_) (fun h=>?_)|refine gCs (fun h=>?_) (fun h=>?_))<;>(try simp only[h])
           |with_reducible first|(refine hK _ ?_;clear hK K)|(clear hK K;refine hK _ ?_;clear hK K)|(clear hK K;clear hK K;refine hK _ ?_;clear hK K)|(clear hK K;clear hK K;clear hK K;refine hK _ ?_;clear hK K)
           |(with_reducible refine todo ?_;simp +decide only[go_sem, hc, hnx, g1, g2, hq]))
          refine Next_of hi2 ?_ (Weak_frame ?_ ?_ ?_)
          · rw [List.take_add_one, List.take_add_one, h0, List.getElem?_eq_getElem hi2, List.getElem?_eq_getElem (l := b) (by omega), hq']
          · simp +decide only [go_sem]
          · simp +decide only [go_sem]
          · simp +decide only [go_sem]
        | true =>
          have hab : (a == b) = false := by
            rw [beq_eq_false_iff_ne]
            intro e
            subst e
            simp at hq
          repeat' (first
           |with_reducible first|refine vSq fun K hK=>?_|refine vRg ?_|refine vBl ?_|refine vSc ?_|refine vIf ?_|refine vSk ?_|refine vEx ?_|refine vRt ?_
           |(with_reducible first|refine gNt (fun h=>?_) (fun h=>?_)|refine gCs (fun h=>?_) (fun h=>?_))<;>(try simp only[h])
           |with_reducible first|(refine hK _ ?_;clear hK K)|(clear hK K;refine hK _ ?_;clear hK K)|(clear hK K;clear hK K;refine hK _ ?_;clear hK K)|(clear hK K;clear hK K;clear hK K;refine hK _ ?_;clear hK K)
           |(with_reducible refine todo ?_;simp +decide only[go_sem, hc, g1, g2, hq]))
          rw [hab]
          exact Ret_d rfl rfl
      · have hc := int_lt_false hi2
        rw [← la] at hc
        rw [List.take_of_length_le hi2, List.take_of_length_le (by omega)] at h0
        subst h0
        repeat' (first
         |with_reducible first|refine vSq fun K hK=>?_|refine vRg ?_|refine vBl ?_|refine vSc ?_|refine vIf ?_|refine vSk ?_|refine vEx ?_|refine vRt ?_
         |(with_reducible first|refine gNt (fun h=>?_) (fun h=>?_)|refine gCs (fun h=>?_) (fun h=>?_))<;>(try simp only[h])
         |with_reducible first|(refine hK _ ?_;clear hK K)|(clear hK K;refine hK _ ?_;clear hK K)|(clear hK K;clear hK K;refine hK _ ?_;clear hK K)|(clear hK K;clear hK K;clear hK K;refine hK _ ?_;clear hK K)
         |(with_reducible refine todo ?_;simp +decide only[go_sem, hc]))
        exact Ret_d rfl rfl
  · have hne : (((ints a).length : Int) != ((ints b).length : Int)) = true := by rw [la, lb]; simp; omega
    have hab : (a == b) = false := by
      rw [beq_eq_false_iff_ne]
      intro e
      exact hl (by rw [e])
    repeat' (first
     |with_reducible first|refine vSq fun K hK=>?_|refine vRg ?_|refine vBl ?_|refine vSc ?_|refine vIf ?_|refine vSk ?_|refine vEx ?_|refine vRt ?_
     |(with_reducible first|refine gNt (fun h=>?_) (fun h=>?_)|refine gCs (fun h=>?_) (fun h=>?_))<;>(try simp only[h])
     |with_reducible first|(refine hK _ ?_;clear hK K)|(clear hK K;refine hK _ ?_;clear hK K)|(clear hK K;clear hK K;refine hK _ ?_;clear hK K)|(clear hK K;clear hK K;clear hK K;refine hK _ ?_;clear hK K)
     |(with_reducible refine todo ?_;simp +decide only[go_sem, hne]))
    rw [hab]
    exact Ret_d rfl rfl
theorem pad_step {s : List UInt8} (h : s.length < 128) : pad (s ++ [0]) = pad s := by
  unfold pad zeros
  rw [List.drop_replicate, List.drop_replicate, List.length_append, List.append_assoc]
  congr 1
  show [0] ++ List.replicate (128 - (s.length + 1)) 0 = _
  rw [show 128 - s.length = (128 - (s.length + 1)) + 1 by omega, List.replicate_succ]
  rfl
theorem pad_big {s : List UInt8} (h : 128 ≤ s.length) : pad s = s := by
  unfold pad
  rw [List.drop_of_length_le (by rw [zeros_len]; omega), List.append_nil]
set_option maxRecDepth 8000 in
set_option maxHeartbeats 8000000 in
theorem Try.kPad (s : List UInt8) (hs : s.length ≤ 1000000) : PureOK Try.prog 21 [pD (dS s)] (.one (.d (dS (pad s)))) := by
  refine Try.pure (md := []) Try.func21 rfl Try.call21 (by kernel_rfl) (by rfl) (by exact Nat.le_of_ble_eq_true rfl) ?_
  repeat' (first
   |with_reducible first|refine vSq fun K hK=>?_|refine vRg ?_|refine vBl ?_|refine vSc ?_|refine vIf ?_|refine vSk ?_|refine vEx ?_|refine vRt ?_
   |(with_reducible first|refine gNt (fun h=>?_) (fun h=>?_)|refine gCs (fun h=>?_) (fun h=>?_))<;>(try simp only[h])
   |with_reducible first|(refine hK _ ?_;clear hK K)|(clear hK K;refine hK _ ?_;clear hK K)|(clear hK K;clear hK K;refine hK _ ?_;clear hK K)|(clear hK K;clear hK K;clear hK K;refine hK _ ?_;clear hK K)
   |(with_reducible refine todo ?_;simp +decide only[go_sem]))
  refine VC_while (ι := List UInt8) (fun x => pad x = pad s ∧ x.length ≤ 1000000) (fun x => frame [(0, pD (dS x))] [] []) (fun x => 128 - x.length) s ⟨rfl, hs⟩ ?_ ?_
  · refine Weak_frame ?_ ?_ ?_ <;> simp +decide only [go_sem]
  · rintro x ⟨h1, h2⟩
    by_cases h : x.length < 128
    · have hc : ((x.length : Int) < 128) = True := eq_true (by omega)
      have s1 : (x.length + 1 ≤ 9223372036854775807) = True := eq_true (by omega)
      repeat' (first
       |with_reducible first|refine vSq fun K hK=>?_|refine vRg ?_|refine vBl ?_|refine vSc ?_|refine vIf ?_|refine vSk ?_|refine vEx ?_|refine vRt ?_
       |(with_reducible first|refine gNt (fun h=>?_) (fun h=>?_)|refine gCs (fun h=>?_) (fun h=>?_))<;>(try simp only[h])
       |with_reducible first|(refine hK _ ?_;clear hK K)|(clear hK K;refine hK _ ?_;clear hK K)|(clear hK K;clear hK K;refine hK _ ?_;clear hK K)|(clear hK K;clear hK K;clear hK K;refine hK _ ?_;clear hK K)
       |(with_reducible refine todo ?_;simp +decide only[go_sem, hc, s1]))
      exact ⟨⟨x ++ [0], (pad_step h).trans h1, by rw [List.length_append, List.length_singleton]; omega⟩, by refine Weak_frame ?_ ?_ ?_ <;> simp +decide only [go_sem], by show 128 - (x ++ [0]).length < 128 - x.length; rw [List.length_append, List.length_singleton]; omega⟩
    · have hc : ((x.length : Int) < 128) = False := eq_false (by omega)
      have hx : pad x = x := pad_big (by omega)
      repeat' (first
       |with_reducible first|refine vSq fun K hK=>?_|refine vRg ?_|refine vBl ?_|refine vSc ?_|refine vIf ?_|refine vSk ?_|refine vEx ?_|refine vRt ?_
       |(with_reducible first|refine gNt (fun h=>?_) (fun h=>?_)|refine gCs (fun h=>?_) (fun h=>?_))<;>(try simp only[h])
       |with_reducible first|(refine hK _ ?_;clear hK K)|(clear hK K;refine hK _ ?_;clear hK K)|(clear hK K;clear hK K;refine hK _ ?_;clear hK K)|(clear hK K;clear hK K;clear hK K;refine hK _ ?_;clear hK K)
       |(with_reducible refine todo ?_;simp +decide only[go_sem, hc]))
      rw [← h1, hx]
      exact Ret_d rfl rfl
section px
variable {H : HMap} {A : AMap} {k did pid lid : Nat} {κm κc κr κp : Tok} {N logs T : Nat} {d : Dk} {ch : List (Int × List UInt8)} {b : Nat → List UInt8}
set_option maxRecDepth 8000 in
set_option maxHeartbeats 8000000 in
theorem Try.kOpenBad (off : Nat) (hw : Wf H A) (hd : DkAt H A did κm κc d) (logs : Nat) (hn : d.n ≤ logs) (hl : logs ≤ 4096) : EffOK Try.prog 6 off H A [.c (.ptr did 0), pD (.lit (.int .i64 logs))] (.tup [.c (.d (.lit (.pointer none))), .c (.d (.lit (.int .i64 1)))]) H A := by
  refine effr_ok (E := envOf Try.prog [26, 27, 28] off [] []) (envOf_ok Try.mixed) Try.func6 rfl Try.call6 (by kernel_rfl) (by exact Nat.le_of_ble_eq_true rfl) (fun hab => ?_)
  have kl := Try.kLen (off + 1000) hw hd
  have c1 : IntKind.i64.wrap ((d.n : Int) - (logs : Int)) = (d.n : Int) - (logs : Int) := Go.IntWalk.i64_in _ (by omega)
  have z2 : ((d.n : Int) - (logs : Int) < 1) = True := eq_true (by omega)
  by_cases h0 : d.n = 0
  · have z1 : ((d.n : Int) == 0) = true := by rw [h0]; rfl
    repeat' (first
     |with_reducible first|refine vSq fun K hK=>?_|refine vRg ?_|refine vBl ?_|refine vSc ?_|refine vIf ?_|refine vSk ?_|refine vEx ?_|refine vRt ?_
     |(with_reducible first|refine gNt (fun h=>?_) (fun h=>?_)|refine gCs (fun h=>?_) (fun h=>?_))<;>(try simp only[h])
     |refine C_call rfl kl rfl (Above_mono hab (by omega)) ?_
     |with_reducible first|(refine hK _ ?_;clear hK K)|(clear hK K;refine hK _ ?_;clear hK K)|(clear hK K;clear hK K;refine hK _ ?_;clear hK K)|(clear hK K;clear hK K;clear hK K;refine hK _ ?_;clear hK K)
     |(with_reducible refine todo ?_;simp +decide only[go_sem, c1, z1]))
    exact RetR_same rfl wk_pair oks_pair hw kp_refl (fun _ _ => rfl)
  · have z1 : ((d.n : Int) == 0) = false := by rw [beq_eq_false_iff_ne]; omega
    repeat' (first
     |with_reducible first|refine vSq fun K hK=>?_|refine vRg ?_|refine vBl ?_|refine vSc ?_|refine vIf ?_|refine vSk ?_|refine vEx ?_|refine vRt ?_
     |(with_reducible first|refine gNt (fun h=>?_) (fun h=>?_)|refine gCs (fun h=>?_) (fun h=>?_))<;>(try simp only[h])
     |refine C_call rfl kl rfl (Above_mono hab (by omega)) ?_
     |with_reducible first|(refine hK _ ?_;clear hK K)|(clear hK K;refine hK _ ?_;clear hK K)|(clear hK K;clear hK K;refine hK _ ?_;clear hK K)|(clear hK K;clear hK K;clear hK K;refine hK _ ?_;clear hK K)
     |(with_reducible refine todo ?_;simp +decide only[go_sem, c1, z1, z2]))
    exact RetR_same rfl wk_pair oks_pair hw kp_refl (fun _ _ => rfl)
def pgsL (b : Nat → List UInt8) (ch : List (Int × List UInt8)) (n : Nat) : List (List UInt8) := (List.range n).map (ct b ch)
theorem pgsL_next (b : Nat → List UInt8) (ch : List (Int × List UInt8)) (n : Nat) : pgsL b ch (n + 1) = pgsL b ch n ++ [ct b ch n] := by
  unfold pgsL
  rw [List.range_succ, List.map_append]; rfl
theorem pgsL_len (b : Nat → List UInt8) (ch : List (Int × List UInt8)) (n : Nat) : (pgsL b ch n).length = n := by simp [pgsL]
end px
end Go.Proofs

namespace Go.Proofs
open Go.PW
def sortK (m : List (Int × List UInt8)) : Nat → List (Int × List UInt8)
  | 0 => []
  | k + 1 => match findN (k : Int) m 0 with
    | some r => sortK m k ++ [(((k : Nat) : Int), r.2)]
    | none => sortK m k
def entB (e : Int × List UInt8) : List UInt8 := uintB e.1.toNat ++ textB (bareL e.2)
theorem recK_sort (m : List (Int × List UInt8)) : ∀ k, recK m k = uintB m.length ++ (sortK m k).flatMap entB
  | 0 => by unfold recK sortK; simp
  | k + 1 => by
    have ih := recK_sort m k
    unfold recK sortK
    cases hf : findN (k : Int) m 0 with
    | none => exact ih
    | some r =>
      simp only
      rw [ih, List.flatMap_append, List.append_assoc]
      congr 2
      show _ = entB (((k : Nat) : Int), r.2) ++ []
      rw [List.append_nil]
      unfold entB
      rw [Int.toNat_natCast]
theorem sortK_key {m : List (Int × List UInt8)} : ∀ {k : Nat} {e : Int × List UInt8}, e ∈ sortK m k → 0 ≤ e.1 ∧ e.1 < (k : Int) ∧ ∃ r, findN e.1 m 0 = some r ∧ r.2 = e.2
  | 0, e, h => (List.not_mem_nil h).elim
  | k + 1, e, h => by
    unfold sortK at h
    cases hf : findN (k : Int) m 0 with
    | none =>
      rw [hf] at h
      obtain ⟨a, b, c⟩ := sortK_key h
      exact ⟨a, by omega, c⟩
    | some r =>
      rw [hf] at h
      simp only at h
      rcases List.mem_append.1 h with h | h
      · obtain ⟨a, b, c⟩ := sortK_key h
        exact ⟨a, by omega, c⟩
      · rw [List.mem_singleton.1 h]
        exact ⟨by show (0 : Int) ≤ (k : Nat); omega, by show ((k : Nat) : Int) < _; omega, r, hf, rfl⟩
theorem sortK_val {m : List (Int × List UInt8)} (j : Nat) : ∀ k, valR (j : Int) (sortK m k) = if j < k then valR (j : Int) m else none
  | 0 => rfl
  | k + 1 => by
    have ih := sortK_val (m := m) j k
    have app : ∀ (l : List (Int × List UInt8)) (x : Int × List UInt8), valR (j : Int) (l ++ [x]) = (valR (j : Int) l).or (if x.1 = (j : Int) then some x.2 else none) := fun l x => by
      induction l with
      | nil => show (if x.1 = (j : Int) then some x.2 else valR (j : Int) []) = _; simp [valR]
      | cons p l ihl =>
        show (if p.1 = (j : Int) then some p.2 else valR (j : Int) (l ++ [x])) = ((if p.1 = (j : Int) then some p.2 else valR (j : Int) l)).or _
        split
        · rfl
        · exact ihl
    have hv := valR_find (k : Int) m
    unfold sortK
    cases hf : findN (k : Int) m 0 with
    | none =>
      rw [hf] at hv
      simp only
      rw [ih]
      by_cases h : j < k
      · rw [if_pos h, if_pos (by omega)]
      · rw [if_neg h]
        by_cases e : j = k
        · subst e; rw [if_pos (by omega)]; exact hv
        · rw [if_neg (by omega)]
    | some r =>
      rw [hf] at hv
      simp only
      rw [app, ih]
      by_cases h : j < k
      · have n1 : ¬ (((k : Nat) : Int), r.2).1 = (j : Int) := by show ¬ ((k : Nat) : Int) = (j : Int); omega
        rw [if_pos h, if_neg n1, if_pos (show j < k + 1 by omega), Option.or_none]
      · by_cases e : j = k
        · subst e
          rw [if_neg h, if_pos rfl, if_pos (show j < j + 1 by omega)]
          exact hv
        · have n1 : ¬ (((k : Nat) : Int), r.2).1 = (j : Int) := by show ¬ ((k : Nat) : Int) = (j : Int); omega
          rw [if_neg h, if_neg n1, if_neg (show ¬ j < k + 1 by omega)]; rfl
theorem sortK_lenS (m : List (Int × List UInt8)) (k : Nat) : (sortK m (k + 1)).length = (sortK m k).length + if (valR (k : Int) m).isSome = true then 1 else 0 := by
  have hv := valR_find (k : Int) m
  show (match findN (k : Int) m 0 with | some r => sortK m k ++ [(((k : Nat) : Int), r.2)] | none => sortK m k).length = _
  cases hf : findN (k : Int) m 0 with
  | none =>
    rw [hf] at hv
    rw [← hv]; rfl
  | some r =>
    rw [hf] at hv
    rw [← hv]
    simp
theorem sortK_len1 {p : Int × List UInt8} {m : List (Int × List UInt8)} (h : valR p.1 m = none) : ∀ k, (sortK (p :: m) k).length = (sortK m k).length + if 0 ≤ p.1 ∧ p.1 < (k : Int) then 1 else 0
  | 0 => by
    rw [if_neg (by omega)]; rfl
  | k + 1 => by
    have ih := sortK_len1 h k
    rw [sortK_lenS, sortK_lenS, ih]
    have hv : valR (k : Int) (p :: m) = if p.1 = (k : Int) then some p.2 else valR (k : Int) m := rfl
    rw [hv]
    by_cases e : p.1 = (k : Int)
    · have h' : valR (k : Int) m = none := by rw [← e]; exact h
      have a1 : ¬ (0 ≤ p.1 ∧ p.1 < (k : Int)) := by omega
      have a2 : 0 ≤ p.1 ∧ p.1 < ((k + 1 : Nat) : Int) := by omega
      rw [if_pos e, h', if_neg a1, if_pos a2]
      simp
    · rw [if_neg e]
      by_cases e2 : 0 ≤ p.1 ∧ p.1 < (k : Int)
      · have a2 : 0 ≤ p.1 ∧ p.1 < ((k + 1 : Nat) : Int) := by omega
        rw [if_pos e2, if_pos a2]
        exact Nat.add_right_comm _ _ _
      · have a2 : ¬ (0 ≤ p.1 ∧ p.1 < ((k + 1 : Nat) : Int)) := by omega
        rw [if_neg e2, if_neg a2]
        exact Nat.add_right_comm _ _ _
theorem sortK_len {N : Nat} : ∀ {m : List (Int × List UInt8)}, KsOK N m → (sortK m N).length = m.length
  | [], _ => by
    have : ∀ k, sortK [] k = [] := fun k => by
      induction k with
      | zero => rfl
      | succ k ih => exact ih
    rw [this]
  | p :: m, h => by
    obtain ⟨nd, rg, len⟩ := h
    obtain ⟨n1, n2⟩ := List.nodup_cons.1 (show (p.1 :: keysN m).Nodup from nd)
    have ih := sortK_len (m := m) ⟨n2, fun x hx => rg x (List.mem_cons_of_mem _ hx), fun x hx => len x (List.mem_cons_of_mem _ hx)⟩
    have hp := rg p (List.mem_cons_self ..)
    rw [sortK_len1 (valR_none.2 n1), ih, if_pos hp, List.length_cons]
theorem recK_val (m : List (Int × List UInt8)) (k : Nat) : recK m (k + 1) = match valR (k : Int) m with
    | some v => recK m k ++ (uintB k ++ textB (bareL v))
    | none => recK m k := by
  rw [← valR_find]
  show (match findN (k : Int) m 0 with | some r => recK m k ++ (uintB k ++ textB (bareL r.2)) | none => recK m k) = _
  cases findN (k : Int) m 0 <;> rfl
theorem recK_same {m m' : List (Int × List UInt8)} (hl : m'.length = m.length) : ∀ {k : Nat}, (∀ j : Nat, j < k → valR (j : Int) m' = valR (j : Int) m) → recK m' k = recK m k
  | 0, _ => by unfold recK; rw [hl]
  | k + 1, h => by
    rw [recK_val, recK_val, recK_same hl (k := k) (fun j hj => h j (by omega)), h k (by omega)]
theorem recK_again {N : Nat} {m : List (Int × List UInt8)} (h : KsOK N m) : recK (sortK m N) N = recK m N :=
  recK_same (sortK_len h) fun j hj => by rw [sortK_val, if_pos hj]
end Go.Proofs

namespace Go.PW
theorem RetR_map {P : Program} {fn : Func} {H : HMap} {A : AMap} {S : St} {κ a : Tok} {M : List (Value × Value)} {y : D} (hp : resPVs P S fn.results.toList = some (.tup [.c (.mpr a), .c (.d y)])) (hw : Wf H A) (hH : ∀ i, H i ≠ none → S.H i = H i) (hA : S.A = upd A a (some (.mp M))) (h1 : A κ = none) (h2 : A a = none) :
    RetR P fn H A (.tup [.c (.mpr κ), .c (.d y)]) H (upd A κ (some (.mp M))) S := by
  obtain ⟨t1, t2, t3⟩ := tok1 (r := Arr.mp M) h1 h2
  have ka : ∀ τ, A τ ≠ none → upd A a (some (.mp M)) τ ≠ none ∧ upd A a (some (.mp M)) τ = A τ := fun τ h => by
    have e : τ ≠ a := fun e => h (by rw [e]; exact h2)
    rw [upd_other _ _ e]
    exact ⟨h, rfl⟩
  refine ⟨_, ⟨fun _ => .tup [.c (.mpr a), .c (.d y)], H, upd A a (some (.mp M))⟩, fun i => i, swt κ a, hp, ⟨fun _ => ?_, fun i => ?_, fun τ => .inr (.inl (by rw [hA])), fun i h => h, fun τ h => (ka τ h).1⟩, ?_, ?_, ⟨fun i h => ⟨rfl, h⟩, fun τ h => t1 τ h, fun _ _ _ _ h => h, t3, fun j es hj => ⟨?_, ?_⟩, t2⟩⟩
  · refine ⟨rfl, fun k x z g1 g2 => ?_⟩
    rw [g1] at g2
    cases g2
    match k, g1 with
    | 0, h => cases h; exact .inr (.inl ⟨rfl, by show upd A a _ a ≠ none; rw [upd_same]; simp, by show upd A a _ a = S.A a; rw [hA]⟩)
    | 1, h => cases h; exact .inr (.inl ⟨rfl, True.intro⟩)
  · show H i = none ∨ ∃ cs ds, H i = some cs ∧ S.H i = some ds ∧ _
    cases hi : H i with
    | none => exact .inl rfl
    | some es =>
      refine .inr ⟨es, es, rfl, by rw [hH i (by rw [hi]; simp), hi], rfl, fun k c d h3 h4 => ?_⟩
      rw [h3] at h4
      cases h4
      exact .inr (.inl ⟨rfl, ok_mono (fun _ h => h) (fun τ h => by rw [hA]; exact ⟨(ka τ h).1, rfl⟩) (hw i es c hi (List.mem_of_getElem? h3))⟩)
  · show PV.tup [.c (.mpr a), .c (.d y)] = .tup [.c (.mpr (swt κ a κ)), .c (.d y)]
    rw [show swt κ a κ = a from if_pos rfl]
  · intro z hz
    rcases List.mem_cons.1 hz with rfl | hz
    · show upd A κ _ κ ≠ none
      rw [upd_same]; simp
    · rw [List.mem_singleton.1 hz]; exact True.intro
  · show H j = _
    rw [hj]
    congr 1
    exact ((List.map_congr_left fun c hc => im_same (fun _ _ => rfl) (fun τ hτ => (t1 τ hτ).1) (hw j es c hj hc)).trans (List.map_id es)).symm
  · exact fun c hc => ok_mono (fun _ h => h) (fun τ h => (t1 τ h).2) (hw j es c hj hc)
end Go.PW
namespace Go.Proofs
open Go.PW
def posR (es : List (Int × List UInt8)) (i : Nat) : Nat := (uintB es.length).length + ((es.take i).flatMap entB).length
theorem posR_drop (es : List (Int × List UInt8)) (i : Nat) : (uintB es.length ++ es.flatMap entB).drop (posR es i) = (es.drop i).flatMap entB := by
  unfold posR
  rw [← List.drop_drop, List.drop_left]
  conv => lhs; arg 2; rw [← List.take_append_drop i es]
  rw [List.flatMap_append, List.drop_left]
theorem posR_next {es : List (Int × List UInt8)} {i : Nat} (h : i < es.length) : posR es (i + 1) = posR es i + (uintB es[i].1.toNat).length + (uintB (bareL es[i].2).length).length + (bareL es[i].2).length := by
  unfold posR
  rw [List.take_add_one, List.getElem?_eq_getElem h, Option.toList_some, List.flatMap_append, List.length_append]
  show _ + (_ + (entB es[i] ++ []).length) = _
  rw [List.append_nil]
  unfold entB textB
  rw [List.length_append, List.length_append]
  omega
theorem bareL_pad : ∀ (n : Nat) (v : List UInt8), v.length = n → v = bareL v ++ List.replicate (n - (bareL v).length) 0
  | 0, v, h => by
    have : v = [] := List.eq_nil_of_length_eq_zero h
    subst this; rfl
  | n + 1, v, h => by
    rcases List.eq_nil_or_concat v with rfl | ⟨t, x, rfl⟩
    · simp at h
    · rw [List.length_concat] at h
      have ih := bareL_pad n t (by omega)
      rw [List.concat_eq_append]
      by_cases hx : x = 0
      · subst hx
        rw [bareL_zero]
        have hle := bareL_len t
        rw [show n + 1 - (bareL t).length = (n - (bareL t).length) + 1 by omega, List.replicate_succ', ← List.append_assoc, ← ih]
      · rw [bareL_stop hx, List.length_append, List.length_singleton, show n + 1 - (t.length + 1) = 0 by omega]
        simp
theorem pad_bareL {v : List UInt8} (h : v.length = 128) : pad (bareL v) = v := by
  have := bareL_pad 128 v h
  conv => rhs; rw [this]
  unfold pad zeros
  rw [List.drop_replicate]
theorem sortK_up {m : List (Int × List UInt8)} : ∀ {k : Nat}, (sortK m k).Pairwise fun x y => x.1 < y.1
  | 0 => List.Pairwise.nil
  | k + 1 => by
    have ih := sortK_up (m := m) (k := k)
    show (match findN (k : Int) m 0 with | some r => sortK m k ++ [(((k : Nat) : Int), r.2)] | none => sortK m k).Pairwise _
    cases hf : findN (k : Int) m 0 with
    | none => exact ih
    | some r =>
      refine List.pairwise_append.2 ⟨ih, List.pairwise_singleton _ _, fun x hx y hy => ?_⟩
      rw [List.mem_singleton.1 hy]
      exact (sortK_key hx).2.1
theorem put_end {es : List (Int × List UInt8)} (hs : es.Pairwise fun x y => x.1 < y.1) {i : Nat} (h : i < es.length) : putN (es.take i) es[i].1 es[i].2 = es.take (i + 1) := by
  have hno : es[i].1 ∉ keysN (es.take i) := fun hm => by
    obtain ⟨x, hx, e⟩ := List.mem_map.1 hm
    obtain ⟨j, hj, rfl⟩ := List.getElem_of_mem hx
    rw [List.length_take] at hj
    rw [List.getElem_take] at e
    have := List.pairwise_iff_getElem.1 hs j i (by omega) h (by omega)
    omega
  have hf := valR_find es[i].1 (es.take i)
  rw [valR_none.2 hno] at hf
  rw [List.take_add_one, List.getElem?_eq_getElem h, Option.toList_some]
  unfold putN
  cases hc : findN es[i].1 (es.take i) 0 with
  | none => rfl
  | some r => rw [hc] at hf; cases hf
section pg
variable {H : HMap} {A : AMap} {pid did lid : Nat} {κm κc κp κ : Tok} {d : Dk} {p : Pg} {m : List (Int × List UInt8)}
set_option maxRecDepth 8000 in
set_option maxHeartbeats 32000000 in
theorem Try.kParse (off : Nat) (hw : Wf H A) (hp : PgAt H A pid did lid κp p) (hd : DkAt H A did κm κc d) (hl : p.logs ≤ d.n) (hn : d.n ≤ 4096) (hm : KsOK (pgN d p) m) (hsz : (recK m (pgN d p)).length ≤ 100000) (hκ : A κ = none) :
    EffOK Try.prog 49 off H A [.c (.ptr pid 0), pD (dS (recK m (pgN d p)))] (.tup [.c (.mpr κ), .c (.d (.lit (.bool true)))]) H (upd A κ (some (.mp (encNS (sortK m (pgN d p)))))) := by
  refine effr_ok (E := envOf Try.prog [66, 67, 68, 72, 24, 30] off [] []) (envOf_ok Try.mixed) Try.func49 rfl Try.call49 (by kernel_rfl) (by exact Nat.le_of_ble_eq_true rfl) (fun hab => ?_)
  have hN : pgN d p ≤ 4096 := by unfold pgN; omega
  have hpt : H pid ≠ none := by rw [hp.h]; simp
  have n5 : H (off + 500) = none := (hab _ (Nat.le_add_right _ _)).1
  have a13 : A (off + 13, 0) = none := (hab _ (Nat.le_add_right _ _)).2 _
  have hes := sortK_len hm
  have eR := recK_sort m (pgN d p)
  have up := sortK_up (m := m) (k := pgN d p)
  have key := fun {e} (h : e ∈ sortK m (pgN d p)) => sortK_key h
  have rag := recK_again hm
  have hle := hm.le
  have v128 : ∀ e ∈ sortK m (pgN d p), e.2.length = 128 := fun e he => by
    obtain ⟨_, _, r, h1, h2⟩ := sortK_key he
    have h3 := valR_find e.1 m
    rw [h1] at h3
    rw [← h2]
    exact hm.len _ (valR_mem h3.symm)
  have krc := fun hh => Try.kRecord (off + 1000) (A := upd A (off + 13, 0) (some (.mp (encNS (sortK m (pgN d p)))))) (κ := (off + 13, 0)) (m := sortK m (pgN d p)) (Wf_arr hw upd_keep) (hp.mv rfl (upd_other _ _ (fun e => by have := hp.m; rw [e, a13] at this; cases this))) ⟨hd.h, by rw [upd_other _ _ (fun e => by have := hd.m; rw [e, a13] at this; cases this)]; exact hd.m, by rw [upd_other _ _ (fun e => by have := hd.c; rw [e, a13] at this; cases this)]; exact hd.c⟩ hl hn (upd_same _ _ _) (by omega) hh
  have krc := krc (fun k r hr => by
    have h3 := valR_find k (sortK m (pgN d p))
    rw [hr] at h3
    have := v128 _ (valR_mem h3.symm)
    simp only at this
    omega)
  rw [rag] at krc
  rw [← hes] at eR
  generalize sortK m (pgN d p) = es at *
  generalize recK m (pgN d p) = R at *
  have kn := Try.kRdNew (id := off + 500) (off + 1000) hw R n5
  have kl := Try.kPgLen (off + 1000) hw hp hd hl hn
  have ab1 : Above (off + 1000) (upd H (off + 500) (some (encRd ⟨R, 0, 0⟩))) (upd A (off + 13, 0) (some (.mp []))) := Above_updA (Above_updH (Above_mono hab (by omega)) (by omega)) (by show off + 13 < off + 1000; omega)
  have hw1 : ∀ (x : Rd) (y : Arr), Wf (upd H (off + 500) (some (encRd x))) (upd A (off + 13, 0) (some y)) := fun x y => Wf_set hw (fun c hc => encRd_ok _ c hc) upd_keep
  have ku0 := Try.kUint48 (off + 1000) (r := ⟨R, 0, 0⟩) (out := ⟨R, (uintB es.length).length, 0⟩) (n := es.length) (res := es.length) (hw1 ⟨R, 0, 0⟩ (.mp [])) (upd_same _ _ _) rfl (by show R.length ≤ _; omega) (.inl ⟨es.flatMap entB, by rw [← eR]; rfl, by omega, by show _ = (⟨R, 0 + (uintB es.length).length, 0⟩ : Rd); rw [Nat.zero_add], rfl⟩)
  unfold encRd at kn ku0 ab1
  repeat' (first
   |with_reducible first|refine vSq fun K hK=>?_|refine vRg ?_|refine vBl ?_|refine vSc ?_|refine vIf ?_|refine vSk ?_|refine vEx ?_|refine vRt ?_
   |(with_reducible first|refine gNt (fun h=>?_) (fun h=>?_)|refine gCs (fun h=>?_) (fun h=>?_))<;>(try simp only[h])
   |refine C_call rfl kn rfl (Above_mono hab (by omega)) ?_
   |refine And.intro a13 ?_
   |refine C_call rfl ku0 rfl ab1 ?_
   |with_reducible first|(refine hK _ ?_;clear hK K)|(clear hK K;refine hK _ ?_;clear hK K)|(clear hK K;clear hK K;refine hK _ ?_;clear hK K)|(clear hK K;clear hK K;clear hK K;refine hK _ ?_;clear hK K)
   |(with_reducible refine todo ?_;simp +decide only[go_sem]))
  have hptr : ∀ {c : List CV} {X Y : AMap}, PV.wk (hOver [(off + 500, c)] H) X Y (.c (.ptr pid 0)) (.c (.ptr pid 0)) = True := fun {c} {X} {Y} => eq_true (wkP_ptr (hOver_old hpt))
  have hrd : ∀ {c : List CV} {X Y : AMap}, PV.wk (hOver [(off + 500, c)] H) X Y (.c (.ptr (off + 500) 0)) (.c (.ptr (off + 500) 0)) = True := fun {c} {X} {Y} => eq_true (wkP_ptr (by show (if _ then _ else _) ≠ none; rw [if_pos rfl]; simp))
  refine VC_range es.length (fun _ => True) (fun i => overA [(0, .c (.ptr pid 0)), (1, pD (dS R)), (6, .c (.ptr (off + 500) 0)), (7, .c (.mpr (off + 13, 0))), (8, pD (.lit (.int .u64 ((es.length - i : Nat) : Int))))] [(off + 500, encRd ⟨R, posR es i, 0⟩)] [((off + 13, 0), .mp (encNS (es.take i)))] H A) True.intro ?_ ?_
  · have p0 : posR es 0 = (uintB es.length).length := by unfold posR; simp
    have w7 : ∀ {c : List CV}, PV.wk (hOver [(off + 500, c)] H) (upd A (off + 13, 0) (some (.mp []))) (aOver [((off + 13, 0), .mp (encNS []))] A) (.c (.mpr (off + 13, 0))) (.c (.mpr (off + 13, 0))) = True := fun {c} => eq_true (wk_c (.inr (.inl ⟨rfl, ⟨by simp [aOver], by rw [upd_same]; simp [aOver, encNS]⟩⟩)))
    unfold encRd at hptr hrd w7 ⊢
    refine Weak_overA hw (fun i hi => ?_) (fun τ hτ => upd_other _ _ fun e => hτ (by rw [e]; exact a13)) (fun q hq => by rw [List.mem_singleton.1 hq]; exact a13) ?_ ?_ ?_ (fun _ h => h) (fun _ h => h)
    · have hne : i ≠ off + 500 := fun e => hi (by rw [e]; exact n5)
      show upd _ _ _ _ = _
      rw [upd_other _ _ hne, upd_other _ _ hne]
    · simp +decide only [go_sem, hptr, hrd, w7, Nat.sub_zero]
    · simp +decide only [go_sem, p0, upd_same]
    · simp +decide only [go_sem, upd_same]
      rfl
  · intro i hi _
    have hmp : mapOf (upd A (off + 13, 0) (some (.mp (encNS (es.take i))))) (.c (.mpr (off + 13, 0))) = some (encNS (es.take i)) := mapOf_mpr (upd_same _ _ _)
    have abI : ∀ (c : List CV) (y : Arr), Above (off + 1000) (upd H (off + 500) (some c)) (upd A (off + 13, 0) (some y)) := fun c y => Above_updA (Above_updH (Above_mono hab (by omega)) (by omega)) (by show off + 13 < off + 1000; omega)
    rcases Nat.lt_or_ge i es.length with hi2 | hi2
    · have hmem : es[i] ∈ es := List.getElem_mem _
      obtain ⟨k0, k1, _⟩ := key hmem
      have hv := v128 _ hmem
      have pn := posR_next hi2
      have pe := put_end up hi2
      have dr := posR_drop es i
      rw [← eR, List.drop_eq_getElem_cons hi2, List.flatMap_cons] at dr
      generalize hrest : List.flatMap entB (es.drop (i + 1)) = rest at dr
      unfold entB textB at dr
      generalize es[i] = e at *
      obtain ⟨ek, ev⟩ := e
      simp only at k0 k1 hv pn pe dr
      obtain ⟨k, rfl⟩ : ∃ k : Nat, ek = (k : Int) := ⟨ek.toNat, by omega⟩
      rw [Int.toNat_natCast] at pn dr
      have hbl := bareL_len ev
      have pb := pad_bareL hv
      have kf := Try.kFull (bareL ev) (by omega)
      rw [pb] at kf
      have dlen := congrArg List.length dr
      rw [List.length_drop] at dlen
      simp only [List.length_append] at dlen
      have up1 := uintB_pos k
      have hpos : posR es i ≤ R.length := by omega
      have d2 : R.drop (posR es i + (uintB k).length) = uintB (bareL ev).length ++ (bareL ev ++ rest) := by rw [← List.drop_drop, dr, List.append_assoc, List.drop_left, List.append_assoc]
      have hki := Try.kErr (off + 1000) (r := ⟨R, posR es i, 0⟩) (hw1 ⟨R, posR es i, 0⟩ (.mp (encNS (es.take i)))) (upd_same _ _ _)
      have ku := Try.kUint48 (off + 1000) (r := ⟨R, posR es i, 0⟩) (out := ⟨R, posR es i + (uintB k).length, 0⟩) (n := k) (res := k) (hw1 ⟨R, posR es i, 0⟩ (.mp (encNS (es.take i)))) (upd_same _ _ _) rfl (by show R.length ≤ _; omega) (.inl ⟨_, by rw [dr, List.append_assoc], by omega, rfl, rfl⟩)
      have kt := Try.kText48 (off + 1000) (r := ⟨R, posR es i + (uintB k).length, 0⟩) (hw1 ⟨R, posR es i + (uintB k).length, 0⟩ (.mp (encNS (es.take i)))) (upd_same _ _ _) rfl (by show R.length ≤ _; omega) (bareL ev) rest d2
      rw [upd_twice] at ku kt
      unfold rdT at kt
      simp only at kt
      rw [← pn] at kt
      have kli := eff_frameA (κ := (off + 13, 0)) (ar := .mp (encNS (es.take i))) (eff_frame (id := off + 500) (cs := encRd ⟨R, posR es (i + 1), 0⟩) kl hw (oks_ptr1 hpt) n5 n5) (Wf_set hw (fun c hc => encRd_ok _ c hc) (fun _ h => h)) (oks_ptr1 (by rw [upd_other _ _ (fun e => hpt (by rw [e]; exact n5))]; exact hpt)) a13 a13
      have c17 : ((0 : Int) < ((es.length - i : Nat) : Int)) = True := eq_true (by omega)
      have c32 : IntKind.u64.wrap ((pgN d p : Nat) : Int) = ((pgN d p : Nat) : Int) := Go.IntWalk.u64_in _ (by omega)
      have c33 : (((pgN d p : Nat) : Int) ≤ (k : Int)) = False := eq_false (by omega)
      have c37 : ((128 : Int) < ((bareL ev).length : Int)) = False := eq_false (by omega)
      have c41 : IntKind.i64.wrap (k : Int) = (k : Int) := Go.IntWalk.i64_in _ (by omega)
      have c24 : IntKind.u64.wrap (((es.length - i : Nat) : Int) - 1) = ((es.length - (i + 1) : Nat) : Int) := by rw [Go.IntWalk.u64_in _ (by omega)]; omega
      unfold encRd at hki ku kt kli
      repeat' (first
       |with_reducible first|refine vSq fun K hK=>?_|refine vRg ?_|refine vBl ?_|refine vSc ?_|refine vIf ?_|refine vSk ?_|refine vEx ?_|refine vRt ?_
       |(with_reducible first|refine gNt (fun h=>?_) (fun h=>?_)|refine gCs (fun h=>?_) (fun h=>?_))<;>(try simp only[h])
       |refine C_call rfl hki rfl (abI _ _) ?_
       |refine C_call rfl ku rfl (abI _ _) ?_
       |refine C_call rfl kt rfl (abI _ _) ?_
       |refine C_call rfl kli rfl (abI _ _) ?_
       |(refine C_pure kf rfl rfl (fun q => (if_neg (fun e => absurd (congrArg Prod.fst e) (by show off + 43 ≠ off + 13; omega))).trans ((hab _ (Nat.le_add_right _ _)).2 q)) ?_)
       |with_reducible first|(refine hK _ ?_;clear hK K)|(clear hK K;refine hK _ ?_;clear hK K)|(clear hK K;clear hK K;refine hK _ ?_;clear hK K)|(clear hK K;clear hK K;clear hK K;refine hK _ ?_;clear hK K)
       |(with_reducible refine todo ?_;simp +decide only[go_sem, c17, c32, c33, c37, c41, c24, hmp, mfind_N, upd_twice]))
      have hot : ∀ {x : Option Arr} {τ : Tok}, A τ ≠ none → upd A (off + 13, 0) x τ = A τ := fun h => upd_other _ _ fun e => h (by rw [e]; exact a13)
      have em := encNS_put (es.take i) (k : Int) ev
      rw [pe] at em
      refine Next_of hi2 True.intro ?_
      refine Weak_overA hw (fun j hj => ?_) (fun τ hτ => ?_) (fun q hq => by rw [List.mem_singleton.1 hq]; exact a13) ?_ ?_ ?_ (fun _ h => h) (fun _ h => h)
      · exact upd_other _ _ fun e => hj (by rw [e]; exact n5)
      · exact hot hτ
      · simp +decide only [go_sem, hptr, hrd]
        refine wk_c (.inr (.inl ⟨rfl, ⟨by simp [aOver], ?_⟩⟩))
        rw [upd_same]
        exact (if_pos rfl).trans (congrArg (fun x => some (Arr.mp x)) em.symm)
      · simp +decide only [go_sem, upd_same]
        exact wkC_same fun c hc => encRd_ok _ c hc
      · simp +decide only [go_sem, upd_same]
        exact congrArg Arr.mp em
    · have hie : i = es.length := by omega
      subst hie
      have c17 : ((0 : Int) < ((es.length - es.length : Nat) : Int)) = False := eq_false (by omega)
      have ht : es.take es.length = es := List.take_of_length_le (Nat.le_refl _)
      have e0 : encNS es = encNS (es.take es.length) := by rw [ht]
      have kri := eff_frame (id := off + 500) (cs := encRd ⟨R, posR es es.length, 0⟩) krc (Wf_arr hw upd_keep) (fun x hx => by
        simp only [List.mem_cons, List.not_mem_nil, or_false] at hx
        rcases hx with rfl | rfl
        · exact hpt
        · show upd A _ _ _ ≠ none; rw [upd_same]; simp) n5 n5
      have rRR : (R == R) = true := beq_self_eq_true _
      rw [e0] at kri
      unfold encRd at kri
      repeat' (first
       |with_reducible first|refine vSq fun K hK=>?_|refine vRg ?_|refine vBl ?_|refine vSc ?_|refine vIf ?_|refine vSk ?_|refine vEx ?_|refine vRt ?_
       |(with_reducible first|refine gNt (fun h=>?_) (fun h=>?_)|refine gCs (fun h=>?_) (fun h=>?_))<;>(try simp only[h])
       |refine C_call rfl kri rfl (abI _ _) ?_
       |with_reducible first|(refine hK _ ?_;clear hK K)|(clear hK K;refine hK _ ?_;clear hK K)|(clear hK K;clear hK K;refine hK _ ?_;clear hK K)|(clear hK K;clear hK K;clear hK K;refine hK _ ?_;clear hK K)
       |(with_reducible refine todo ?_;simp +decide only[go_sem, c17, rRR]))
      rw [e0]
      refine RetR_map (M := encNS (es.take es.length)) ?_ hw ?_ ?_ hκ a13
      · rfl
      · intro j hj; exact if_neg (fun e => hj (by rw [e]; exact n5))
      · rfl
end pg
end Go.Proofs
