/-
  Parts of the proof, laid together: PwPc, PwPd, PwPe, PwPf, PwPg.
-/
import Derived.Test.YtghlemfokpfngaaQ30
import Derived.Test.YtghlemfokpfngaaQ26

namespace Go.Proofs
open Go.PW
def dirtyK (ch : List (Int × List UInt8)) : Nat → List Int
  | 0 => []
  | k + 1 => dirtyK ch k ++ if (findN (k : Int) ch 0).isSome then [(k : Int)] else []
theorem dirtyK_len (ch : List (Int × List UInt8)) : ∀ k, (dirtyK ch k).length ≤ k
  | 0 => Nat.le_refl _
  | k + 1 => by
    have ih := dirtyK_len ch k
    unfold dirtyK
    rw [List.length_append]
    split <;> simp <;> omega
theorem ints_len (l : List Int) : (ints l).length = l.length := by simp [ints]
theorem ints_app (a b : List Int) : ints (a ++ b) = ints a ++ ints b := List.map_append
theorem szInts (l : List Int) : Szd 1 (ints l) := fun e he => by obtain ⟨w, _, rfl⟩ := List.mem_map.1 he; rfl
section pg
variable {H : HMap} {A : AMap} {pid did lid : Nat} {κm κc κp : Tok} {d : Dk} {p : Pg}
set_option maxRecDepth 8000 in
set_option maxHeartbeats 16000000 in
theorem Try.kPgDirty (off : Nat) (hw : Wf H A) (hp : PgAt H A pid did lid κp p) (hd : DkAt H A did κm κc d) (hl : p.logs ≤ d.n) (hn : d.n ≤ 4096) : EffOK Try.prog 17 off H A [.c (.ptr pid 0)] (.c (.d (.sl (ints (dirtyK p.ch (pgN d p)))))) H A := by
  refine effr_ok (E := envOf Try.prog [29, 24] off [] []) (envOf_ok Try.mixed) Try.func17 rfl Try.call17 (by kernel_rfl) (by exact Nat.le_of_ble_eq_true rfl) (fun hab => ?_)
  have hph := hp.h
  unfold encPg at hph
  have kt := Try.kThere (off + 1000) hw hp
  have kl := Try.kPgLen (off + 1000) hw hp hd hl hn
  have hN : pgN d p ≤ 4096 := by unfold pgN; omega
  generalize pgN d p = N at *
  have ha : A (off + 28, 0) = none := (hab _ (Nat.le_add_right _ _)).2 _
  have hptr := fun {X Y : AMap} => hp.ptr (A1 := X) (A2 := Y)
  have hmp : ∀ ar, mapOf (aOver [((off + 28, 0), ar)] A) (.c (.mpr κp)) = some (encNS p.ch) := fun ar => mapOf_mpr ((aOver_old (by rw [hp.m]; simp) (fun q hq => by rw [List.mem_singleton.1 hq]; exact ha)).trans hp.m)
  repeat' (first
   |with_reducible first|refine vSq fun K hK=>?_|refine vRg ?_|refine vBl ?_|refine vSc ?_|refine vIf ?_|refine vSk ?_|refine vEx ?_|refine vRt ?_
   |(with_reducible first|refine gNt (fun h=>?_) (fun h=>?_)|refine gCs (fun h=>?_) (fun h=>?_))<;>(try simp only[h])
   |refine C_call rfl kt rfl (Above_mono hab (by omega)) ?_
   |refine C_call rfl kl rfl (Above_mono hab (by omega)) ?_
   |with_reducible first|(refine hK _ ?_;clear hK K)|(clear hK K;refine hK _ ?_;clear hK K)|(clear hK K;clear hK K;refine hK _ ?_;clear hK K)|(clear hK K;clear hK K;clear hK K;refine hK _ ?_;clear hK K)
   |(with_reducible refine todo ?_;simp +decide only[go_sem]))
  refine VC_range N (fun _ => True) (fun i => overA [(0, .c (.ptr pid 0)), (3, .c (.own (off + 28, 0) (ints (dirtyK p.ch i)))), (11, pD (.lit (.int .i64 N))), (12, pD (.lit (.int .i64 i)))] []
    [((off + 28, 0), .co 1 (dirtyK p.ch i).length)] H A) True.intro ?_ ?_
  · refine Weak_overA hw kp_refl (fun _ _ => rfl) (fun q hq => by rw [List.mem_singleton.1 hq]; exact ha) ?_ ?_ ?_ (fun _ h => h) (fun _ h => h)
    · simp +decide only [go_sem, hptr]
      exact wkP_new ha (sz := 1) (if_pos rfl)
    · simp +decide only [go_sem]
    · simp +decide only [go_sem, ha]
      rfl
  · intro i hi _
    rcases Nat.lt_or_ge i N with hi2 | hi2
    · have hc := int_lt_true hi2
      have hnx := int_next hi2 (by omega)
      have hlen := dirtyK_len p.ch i
      have hil := ints_len (dirtyK p.ch i)
      have hoth : ∀ κ, A κ ≠ none → κ ≠ (off + 28, 0) := fun κ hκ e => hκ (by rw [e]; exact ha)
      cases hf : findN (i : Int) p.ch 0 with
      | none =>
        have e : dirtyK p.ch (i + 1) = dirtyK p.ch i := by unfold dirtyK; rw [hf]; simp; cases i <;> rfl
        repeat' (first
         |with_reducible first|refine vSq fun K hK=>?_|refine vRg ?_|refine vBl ?_|refine vSc ?_|refine vIf ?_|refine vSk ?_|refine vEx ?_|refine vRt ?_
         |(with_reducible first|refine gNt (fun h=>?_) (fun h=>?_)|refine gCs (fun h=>?_) (fun h=>?_))<;>(try simp only[h])
         |with_reducible first|(refine hK _ ?_;clear hK K)|(clear hK K;refine hK _ ?_;clear hK K)|(clear hK K;clear hK K;refine hK _ ?_;clear hK K)|(clear hK K;clear hK K;clear hK K;refine hK _ ?_;clear hK K)
         |(with_reducible refine todo ?_;simp +decide only[go_sem, hph, hc, hnx, hmp, mfind_N, hf]))
        refine Next_of hi2 True.intro (Weak_overA hw kp_nil (fun κ hκ => ?_) (fun q hq => by rw [List.mem_singleton.1 hq]; exact ha) ?_ ?_ ?_ (fun _ h => h) (fun _ h => h))
        · exact if_neg (hoth κ hκ)
        · simp +decide only [go_sem, hptr, e]
          exact wkP_own (by rw [aOver_hd]; simp) rfl
        · simp +decide only [go_sem]
        · simp +decide only [go_sem, e]
      | some r =>
        have e : dirtyK p.ch (i + 1) = dirtyK p.ch i ++ [(i : Int)] := by show dirtyK p.ch i ++ _ = _; rw [hf]; rfl
        repeat' (first
         |with_reducible first|refine vSq fun K hK=>?_|refine vRg ?_|refine vBl ?_|refine vSc ?_|refine vIf ?_|refine vSk ?_|refine vEx ?_|refine vRt ?_
         |(with_reducible first|refine gNt (fun h=>?_) (fun h=>?_)|refine gCs (fun h=>?_) (fun h=>?_))<;>(try simp only[h])
         |(refine W_own Try.appI rfl (szInts _) (szOne rfl) (by rw [hil]; simp only [List.length_singleton]; omega) (by rw [hil]; exact if_pos rfl) ?_)
         |with_reducible first|(refine hK _ ?_;clear hK K)|(clear hK K;refine hK _ ?_;clear hK K)|(clear hK K;clear hK K;refine hK _ ?_;clear hK K)|(clear hK K;clear hK K;clear hK K;refine hK _ ?_;clear hK K)
         |(with_reducible refine todo ?_;simp +decide only[go_sem, hph, hc, hnx, hmp, mfind_N, hf]))
        refine Next_of hi2 True.intro (Weak_overA hw kp_nil (fun κ hκ => ?_) (fun q hq => by rw [List.mem_singleton.1 hq]; exact ha) ?_ ?_ ?_ (fun _ h => h) (fun _ h => h))
        · show upd _ _ _ κ = _
          rw [upd_other _ _ (hoth κ hκ)]
          exact if_neg (hoth κ hκ)
        · have e2 : ints (dirtyK p.ch i ++ [(i : Int)]) = ints (dirtyK p.ch i) ++ [[.lit (.int .i64 i)]] := ints_app _ _
          simp +decide only [go_sem, hptr, e, e2]
          exact wkP_own (by rw [aOver_hd]; simp) (by rw [upd_same, hil]; exact aOver_hd)
        · simp +decide only [go_sem]
        · simp +decide only [go_sem, e, hil]
    · have hc := int_lt_false hi2
      have hie : i = N := by omega
      subst hie
      repeat' (first
       |with_reducible first|refine vSq fun K hK=>?_|refine vRg ?_|refine vBl ?_|refine vSc ?_|refine vIf ?_|refine vSk ?_|refine vEx ?_|refine vRt ?_
       |(with_reducible first|refine gNt (fun h=>?_) (fun h=>?_)|refine gCs (fun h=>?_) (fun h=>?_))<;>(try simp only[h])
       |with_reducible first|(refine hK _ ?_;clear hK K)|(clear hK K;refine hK _ ?_;clear hK K)|(clear hK K;clear hK K;refine hK _ ?_;clear hK K)|(clear hK K;clear hK K;clear hK K;refine hK _ ?_;clear hK K)
       |(with_reducible refine todo ?_;simp +decide only[go_sem, hc]))
      refine RetR_same rfl (by simp +decide only [go_sem]) True.intro hw kp_nil (fun κ hκ => if_neg (fun e => hκ (by rw [e]; exact ha)))
end pg
end Go.Proofs

namespace Go.Proofs
open Go.PW
def delK (ch : List (Int × List UInt8)) (l : List Int) : List (Int × List UInt8) := l.foldl delN ch
theorem ints_get {l : List Int} {i : Nat} (h : i < l.length) : (ints l)[i]? = some [.lit (.int .i64 l[i])] := by
  unfold ints; rw [List.getElem?_map, List.getElem?_eq_getElem h]; rfl
section pg
variable {H : HMap} {A : AMap} {pid did lid : Nat} {κm κc κp : Tok} {d : Dk} {p : Pg}
set_option maxRecDepth 8000 in
set_option maxHeartbeats 16000000 in
theorem Try.kPgAbort (off : Nat) (hw : Wf H A) (hp : PgAt H A pid did lid κp p) (hd : DkAt H A did κm κc d) (hl : p.logs ≤ d.n) (hn : d.n ≤ 4096) : EffOK Try.prog 18 off H A [.c (.ptr pid 0)] (.c .any) H (upd A κp (some (.mp (encNS (delK p.ch (dirtyK p.ch (pgN d p))))))) := by
  refine effr_ok (E := envOf Try.prog [29, 17] off [] []) (envOf_ok Try.mixed) Try.func18 rfl Try.call18 (by kernel_rfl) (by exact Nat.le_of_ble_eq_true rfl) (fun hab => ?_)
  have hph := hp.h
  unfold encPg at hph
  have kt := Try.kThere (off + 1000) hw hp
  have kd := Try.kPgDirty (off + 1000) hw hp hd hl hn
  have hlen := dirtyK_len p.ch (pgN d p)
  have hN : pgN d p ≤ 4096 := by unfold pgN; omega
  have hptr := fun {X Y : AMap} => hp.ptr (A1 := X) (A2 := Y)
  generalize dirtyK p.ch (pgN d p) = L at *
  have hil := ints_len L
  repeat' (first
   |with_reducible first|refine vSq fun K hK=>?_|refine vRg ?_|refine vBl ?_|refine vSc ?_|refine vIf ?_|refine vSk ?_|refine vEx ?_|refine vRt ?_
   |(with_reducible first|refine gNt (fun h=>?_) (fun h=>?_)|refine gCs (fun h=>?_) (fun h=>?_))<;>(try simp only[h])
   |refine C_call rfl kt rfl (Above_mono hab (by omega)) ?_
   |refine C_call rfl kd rfl (Above_mono hab (by omega)) ?_
   |with_reducible first|(refine hK _ ?_;clear hK K)|(clear hK K;refine hK _ ?_;clear hK K)|(clear hK K;clear hK K;refine hK _ ?_;clear hK K)|(clear hK K;clear hK K;clear hK K;refine hK _ ?_;clear hK K)
   |(with_reducible refine todo ?_;simp +decide only[go_sem]))
  refine VC_range L.length (fun _ => True) (fun i => over [(0, .c (.ptr pid 0)), (8, .c (.d (.sl (ints L)))), (9, pD (.lit (.int .i64 L.length))), (10, pD (.lit (.int .i64 i)))] []
    H (upd A κp (some (.mp (encNS (delK p.ch (L.take i))))))) True.intro ?_ ?_
  · refine Weak_overG (Wf_arr hw upd_keep) (fun _ _ => rfl) (upd_self hp.m).symm ?_ ?_ (fun i hi => hi) upd_keep
    · simp +decide only [go_sem, hptr, hil]
    · simp +decide only [go_sem]
  · intro i hi _
    rcases Nat.lt_or_ge i L.length with hi2 | hi2
    · have hc := int_lt_true hi2
      have hnx := int_next hi2 (by omega)
      have hg := ints_get hi2
      have hst : delK p.ch (L.take (i + 1)) = delN (delK p.ch (L.take i)) L[i] := by
        unfold delK
        rw [List.take_add_one, List.getElem?_eq_getElem hi2, Option.toList_some, List.foldl_append]; rfl
      have hmp : mapOf (upd A κp (some (.mp (encNS (delK p.ch (L.take i)))))) (.c (.mpr κp)) = some (encNS (delK p.ch (L.take i))) := mapOf_mpr (upd_same _ _ _)
      generalize delK p.ch (L.take i) = m at *
      generalize L[i] = x at *
      repeat' (first
       |with_reducible first|refine vSq fun K hK=>?_|refine vRg ?_|refine vBl ?_|refine vSc ?_|refine vIf ?_|refine vSk ?_|refine vEx ?_|refine vRt ?_
       |(with_reducible first|refine gNt (fun h=>?_) (fun h=>?_)|refine gCs (fun h=>?_) (fun h=>?_))<;>(try simp only[h])
       |with_reducible first|(refine hK _ ?_;clear hK K)|(clear hK K;refine hK _ ?_;clear hK K)|(clear hK K;clear hK K;refine hK _ ?_;clear hK K)|(clear hK K;clear hK K;clear hK K;refine hK _ ?_;clear hK K)
       |(with_reducible refine todo ?_;simp +decide only[go_sem, hph, hc, hnx, hg, hmp, mfind_N, upd_twice]))
      refine Next_of hi2 True.intro (Weak_overG (Wf_arr hw upd_keep) kp_nil ?_ ?_ ?_ (fun i hi => hi) upd_keep)
      · rw [hst, ← encNS_del]
        rfl
      · simp +decide only [go_sem, hptr]
      · simp +decide only [go_sem]
    · have hc := int_lt_false hi2
      rw [List.take_of_length_le hi2]
      repeat' (first
       |with_reducible first|refine vSq fun K hK=>?_|refine vRg ?_|refine vBl ?_|refine vSc ?_|refine vIf ?_|refine vSk ?_|refine vEx ?_|refine vRt ?_
       |(with_reducible first|refine gNt (fun h=>?_) (fun h=>?_)|refine gCs (fun h=>?_) (fun h=>?_))<;>(try simp only[h])
       |with_reducible first|(refine hK _ ?_;clear hK K)|(clear hK K;refine hK _ ?_;clear hK K)|(clear hK K;clear hK K;refine hK _ ?_;clear hK K)|(clear hK K;clear hK K;clear hK K;refine hK _ ?_;clear hK K)
       |(with_reducible refine todo ?_;simp +decide only[go_sem, hc]))
      exact RetR_arr rfl True.intro True.intro hw kp_nil rfl upd_keep
def freesK (s : List UInt8) : Nat → Nat
  | 0 => 0
  | k + 1 => freesK s k + if k ≠ 0 ∧ freeB s k = true then 1 else 0
theorem freesK_le (s : List UInt8) : ∀ k, freesK s k ≤ k
  | 0 => Nat.le_refl _
  | k + 1 => by
    have ih := freesK_le s k
    unfold freesK
    split <;> omega
set_option maxRecDepth 8000 in
set_option maxHeartbeats 16000000 in
theorem Try.kFrees (off : Nat) (hw : Wf H A) (hp : PgAt H A pid did lid κp p) (hd : DkAt H A did κm κc d) (hl : p.logs ≤ d.n) (hn : d.n ≤ 4096) (hcl : d.cache.length ≤ 1000000) (hlen : pgN d p ≤ 8 * (pgRd d p 0).length) :
    EffOK Try.prog 23 off H A [.c (.ptr pid 0)] (pD (.lit (.int .i64 (freesK (pgRd d p 0) (pgN d p))))) H A := by
  refine effr_ok (E := envOf Try.prog [24, 22] off [] []) (envOf_ok Try.mixed) Try.func23 rfl Try.call23 (by kernel_rfl) (by exact Nat.le_of_ble_eq_true rfl) (fun hab => ?_)
  have kl := Try.kPgLen (off + 1000) hw hp hd hl hn
  have hN : pgN d p ≤ 4096 := by unfold pgN; omega
  have hptr := fun {X Y : AMap} => hp.ptr (A1 := X) (A2 := Y)
  have hzf := Try.kIsFree0 (pid := pid) (off + 1000) hw
  have hif := fun (i : Nat) h0 h1 h2 => Try.kIsFree (off + 1000) hw hp hd hl hn hcl i h0 h1 h2
  repeat' (first
   |with_reducible first|refine vSq fun K hK=>?_|refine vRg ?_|refine vBl ?_|refine vSc ?_|refine vIf ?_|refine vSk ?_|refine vEx ?_|refine vRt ?_
   |(with_reducible first|refine gNt (fun h=>?_) (fun h=>?_)|refine gCs (fun h=>?_) (fun h=>?_))<;>(try simp only[h])
   |refine C_call rfl kl rfl (Above_mono hab (by omega)) ?_
   |with_reducible first|(refine hK _ ?_;clear hK K)|(clear hK K;refine hK _ ?_;clear hK K)|(clear hK K;clear hK K;refine hK _ ?_;clear hK K)|(clear hK K;clear hK K;clear hK K;refine hK _ ?_;clear hK K)
   |(with_reducible refine todo ?_;simp +decide only[go_sem]))
  refine VC_range (pgN d p) (fun _ => True) (fun i => over [(0, .c (.ptr pid 0)), (3, pD (.lit (.int .i64 (freesK (pgRd d p 0) i)))), (6, pD (.lit (.int .i64 (pgN d p)))), (7, pD (.lit (.int .i64 i)))] [] H A) True.intro ?_ ?_
  · refine Weak_overG hw (fun _ _ => rfl) rfl ?_ ?_ (fun i hi => hi) (fun _ h => h)
    · simp +decide only [go_sem, hptr, freesK]
    · simp +decide only [go_sem]
  · intro i hi _
    rcases Nat.lt_or_ge i (pgN d p) with hi2 | hi2
    · have hc := int_lt_true hi2
      have hnx := int_next hi2 (by omega)
      have hle := freesK_le (pgRd d p 0) i
      have c1 : IntKind.i64.wrap ((freesK (pgRd d p 0) i : Int) + 1) = ((freesK (pgRd d p 0) i + 1 : Nat) : Int) := Go.IntWalk.i64_in _ (by omega)
      by_cases h0 : i = 0
      · have kf : EffOK Try.prog 22 (off + 1000) H A [.c (.ptr pid 0), pD (.lit (.int .i64 i))] (pD (.lit (.bool false))) H A := by rw [h0]; exact hzf
        have e : freesK (pgRd d p 0) (i + 1) = freesK (pgRd d p 0) i := by rw [freesK, if_neg (by rw [h0]; simp)]; rfl
        repeat' (first
         |with_reducible first|refine vSq fun K hK=>?_|refine vRg ?_|refine vBl ?_|refine vSc ?_|refine vIf ?_|refine vSk ?_|refine vEx ?_|refine vRt ?_
         |(with_reducible first|refine gNt (fun h=>?_) (fun h=>?_)|refine gCs (fun h=>?_) (fun h=>?_))<;>(try simp only[h])
         |refine C_call rfl kf rfl (Above_mono hab (by omega)) ?_
         |with_reducible first|(refine hK _ ?_;clear hK K)|(clear hK K;refine hK _ ?_;clear hK K)|(clear hK K;clear hK K;refine hK _ ?_;clear hK K)|(clear hK K;clear hK K;clear hK K;refine hK _ ?_;clear hK K)
         |(with_reducible refine todo ?_;simp +decide only[go_sem, hc, hnx]))
        refine Next_of hi2 True.intro (Weak_overG hw kp_nil rfl ?_ ?_ (fun i hi => hi) (fun _ h => h))
        · simp +decide only [go_sem, hptr, e]
        · simp +decide only [go_sem]
      · have kf := hif i h0 hi2 (by omega)
        cases hb : freeB (pgRd d p 0) i with
        | true =>
          rw [hb] at kf
          have e : freesK (pgRd d p 0) (i + 1) = freesK (pgRd d p 0) i + 1 := by rw [freesK, if_pos ⟨h0, hb⟩]
          repeat' (first
           |with_reducible first|refine vSq fun K hK=>?_|refine vRg ?_|refine vBl ?_|refine vSc ?_|refine vIf ?_|refine vSk ?_|refine vEx ?_|refine vRt ?_
           |(with_reducible first|refine gNt (fun h=>?_) (fun h=>?_)|refine gCs (fun h=>?_) (fun h=>?_))<;>(try simp only[h])
           |refine C_call rfl kf rfl (Above_mono hab (by omega)) ?_
           |with_reducible first|(refine hK _ ?_;clear hK K)|(clear hK K;refine hK _ ?_;clear hK K)|(clear hK K;clear hK K;refine hK _ ?_;clear hK K)|(clear hK K;clear hK K;clear hK K;refine hK _ ?_;clear hK K)
           |(with_reducible refine todo ?_;simp +decide only[go_sem, hc, hnx, c1]))
          refine Next_of hi2 True.intro (Weak_overG hw kp_nil rfl ?_ ?_ (fun i hi => hi) (fun _ h => h))
          · simp +decide only [go_sem, hptr, e]
          · simp +decide only [go_sem]
        | false =>
          rw [hb] at kf
          have e : freesK (pgRd d p 0) (i + 1) = freesK (pgRd d p 0) i := by rw [freesK, if_neg (by rw [hb]; simp)]; rfl
          repeat' (first
           |with_reducible first|refine vSq fun K hK=>?_|refine vRg ?_|refine vBl ?_|refine vSc ?_|refine vIf ?_|refine vSk ?_|refine vEx ?_|refine vRt ?_
           |(with_reducible first|refine gNt (fun h=>?_) (fun h=>?_)|refine gCs (fun h=>?_) (fun h=>?_))<;>(try simp only[h])
           |refine C_call rfl kf rfl (Above_mono hab (by omega)) ?_
           |with_reducible first|(refine hK _ ?_;clear hK K)|(clear hK K;refine hK _ ?_;clear hK K)|(clear hK K;clear hK K;refine hK _ ?_;clear hK K)|(clear hK K;clear hK K;clear hK K;refine hK _ ?_;clear hK K)
           |(with_reducible refine todo ?_;simp +decide only[go_sem, hc, hnx]))
          refine Next_of hi2 True.intro (Weak_overG hw kp_nil rfl ?_ ?_ (fun i hi => hi) (fun _ h => h))
          · simp +decide only [go_sem, hptr, e]
          · simp +decide only [go_sem]
    · have hc := int_lt_false hi2
      have hie : i = pgN d p := by omega
      subst hie
      repeat' (first
       |with_reducible first|refine vSq fun K hK=>?_|refine vRg ?_|refine vBl ?_|refine vSc ?_|refine vIf ?_|refine vSk ?_|refine vEx ?_|refine vRt ?_
       |(with_reducible first|refine gNt (fun h=>?_) (fun h=>?_)|refine gCs (fun h=>?_) (fun h=>?_))<;>(try simp only[h])
       |with_reducible first|(refine hK _ ?_;clear hK K)|(clear hK K;refine hK _ ?_;clear hK K)|(clear hK K;clear hK K;refine hK _ ?_;clear hK K)|(clear hK K;clear hK K;clear hK K;refine hK _ ?_;clear hK K)
       |(with_reducible refine todo ?_;simp +decide only[go_sem, hc]))
      exact RetR_same rfl (by simp +decide only [go_sem]) True.intro hw kp_nil (fun _ _ => rfl)
end pg
end Go.Proofs

namespace Go.Proofs
open Go.PW
def bareL (s : List UInt8) : List UInt8 := (s.reverse.dropWhile (· == 0)).reverse
theorem bareL_zero {t : List UInt8} : bareL (t ++ [0]) = bareL t := by
  unfold bareL
  rw [List.reverse_append]; rfl
theorem bareL_stop {t : List UInt8} {x : UInt8} (h : x ≠ 0) : bareL (t ++ [x]) = t ++ [x] := by
  unfold bareL
  rw [List.reverse_append]
  show (List.dropWhile _ (x :: t.reverse)).reverse = _
  rw [List.dropWhile_cons, if_neg (by simpa using h)]
  simp
set_option maxRecDepth 8000 in
set_option maxHeartbeats 8000000 in
theorem Try.kBare (s : List UInt8) (hs : s.length ≤ 1000000) : PureOK Try.prog 52 [pD (dS s)] (.one (.d (dS (bareL s)))) := by
  refine Try.pure (md := []) Try.func52 rfl Try.call52 (by kernel_rfl) (by rfl) (by exact Nat.le_of_ble_eq_true rfl) ?_
  repeat' (first
   |with_reducible first|refine vSq fun K hK=>?_|refine vRg ?_|refine vBl ?_|refine vSc ?_|refine vIf ?_|refine vSk ?_|refine vEx ?_|refine vRt ?_
   |(with_reducible first|refine gNt (fun h=>?_) (fun h=>?_)|refine gCs (fun h=>?_) (fun h=>?_))<;>(try simp only[h])
   |with_reducible first|(refine hK _ ?_;clear hK K)|(clear hK K;refine hK _ ?_;clear hK K)|(clear hK K;clear hK K;refine hK _ ?_;clear hK K)|(clear hK K;clear hK K;clear hK K;refine hK _ ?_;clear hK K)
   |(with_reducible refine todo ?_;simp +decide only[go_sem]))
  refine VC_while (ι := Nat) (fun k => k ≤ s.length ∧ bareL (s.take k) = bareL s) (fun k => frame [(0, pD (dS (s.take k)))] [] []) (fun k => k) s.length ⟨Nat.le_refl _, by rw [List.take_length]⟩ ?_ ?_
  · rw [List.take_length]
    refine Weak_frame ?_ ?_ ?_ <;> simp +decide only [go_sem]
  · rintro k ⟨hk, hi⟩
    cases k with
    | zero =>
      have e : bareL s = [] := by rw [← hi]; rfl
      have e0 : s.take 0 = [] := rfl
      rw [e0]
      repeat' (first
       |with_reducible first|refine vSq fun K hK=>?_|refine vRg ?_|refine vBl ?_|refine vSc ?_|refine vIf ?_|refine vSk ?_|refine vEx ?_|refine vRt ?_
       |(with_reducible first|refine gNt (fun h=>?_) (fun h=>?_)|refine gCs (fun h=>?_) (fun h=>?_))<;>(try simp only[h])
       |with_reducible first|(refine hK _ ?_;clear hK K)|(clear hK K;refine hK _ ?_;clear hK K)|(clear hK K;clear hK K;refine hK _ ?_;clear hK K)|(clear hK K;clear hK K;clear hK K;refine hK _ ?_;clear hK K)
       |(with_reducible refine todo ?_;simp +decide only[go_sem, nil_eq_nil]))
      rw [e]
      exact Ret_d rfl rfl
    | succ k =>
      have ht : s.take (k + 1) = s.take k ++ [s[k]] := by rw [List.take_add_one, List.getElem?_eq_getElem hk, Option.toList_some]
      have hln : (s.take (k + 1)).length = k + 1 := by rw [List.length_take]; omega
      have hg : (s.take (k + 1))[k]? = some s[k] := by rw [ht, List.getElem?_append_right (by rw [List.length_take]; omega), List.length_take, Nat.min_eq_left (by omega), Nat.sub_self]; rfl
      have hne : (s.take (k + 1) == []) = false := by rw [ht]; cases s.take k <;> rfl
      have htk : (s.take (k + 1)).take (k - 0) = s.take k := by rw [Nat.sub_zero, List.take_take, Nat.min_eq_left (by omega)]
      have hz := fun h : s[k] = 0 => (show bareL (s.take k) = bareL s by rw [← hi, ht, h, bareL_zero])
      have hst := fun h : s[k] ≠ 0 => (show s.take (k + 1) = bareL s by rw [← hi, ht, bareL_stop h])
      have c1 : IntKind.i64.wrap (((k + 1 : Nat) : Int) - 1) = ((k : Nat) : Int) := by rw [Go.IntWalk.i64_in _ (by omega)]; omega
      generalize s[k] = x at *
      generalize s.take (k + 1) = t at *
      by_cases hx : x = 0
      · have hx' : ((x.toNat : Int) == 0) = true := by rw [hx]; rfl
        repeat' (first
         |with_reducible first|refine vSq fun K hK=>?_|refine vRg ?_|refine vBl ?_|refine vSc ?_|refine vIf ?_|refine vSk ?_|refine vEx ?_|refine vRt ?_
         |(with_reducible first|refine gNt (fun h=>?_) (fun h=>?_)|refine gCs (fun h=>?_) (fun h=>?_))<;>(try simp only[h])
         |refine W_slcS (a := t) (l := 0) (h := k) Try.underlying9 rfl rfl (by simp [optNat, natOf?, intOf?]) (by omega) (by omega) ?_
         |with_reducible first|(refine hK _ ?_;clear hK K)|(clear hK K;refine hK _ ?_;clear hK K)|(clear hK K;clear hK K;refine hK _ ?_;clear hK K)|(clear hK K;clear hK K;clear hK K;refine hK _ ?_;clear hK K)
         |(with_reducible refine todo ?_;simp +decide only[go_sem, hne, hln, c1, hg, hx', htk]))
        refine ⟨⟨k, by omega, hz hx⟩, Weak_frame ?_ ?_ ?_, by show k < k + 1; omega⟩ <;> simp +decide only [go_sem]
      · have hx' : ((x.toNat : Int) == 0) = false := by
          rw [beq_eq_false_iff_ne]
          intro e
          exact hx (by apply UInt8.toNat_inj.1; show x.toNat = 0; omega)
        repeat' (first
         |with_reducible first|refine vSq fun K hK=>?_|refine vRg ?_|refine vBl ?_|refine vSc ?_|refine vIf ?_|refine vSk ?_|refine vEx ?_|refine vRt ?_
         |(with_reducible first|refine gNt (fun h=>?_) (fun h=>?_)|refine gCs (fun h=>?_) (fun h=>?_))<;>(try simp only[h])
         |with_reducible first|(refine hK _ ?_;clear hK K)|(clear hK K;refine hK _ ?_;clear hK K)|(clear hK K;clear hK K;refine hK _ ?_;clear hK K)|(clear hK K;clear hK K;clear hK K;refine hK _ ?_;clear hK K)
         |(with_reducible refine todo ?_;simp +decide only[go_sem, hne, hln, c1, hg, hx']))
        rw [← hst hx]
        exact Ret_d rfl rfl
def textB (s : List UInt8) : List UInt8 := uintB s.length ++ s
set_option maxRecDepth 8000 in
set_option maxHeartbeats 8000000 in
theorem Try.kText (s : List UInt8) (hs : s.length ≤ 1000000) : PureOK Try.prog 51 [pD (dS s)] (.one (.d (dS (textB s)))) := by
  refine Try.pure (md := []) Try.func51 rfl Try.call51 (by kernel_rfl) (by rfl) (by exact Nat.le_of_ble_eq_true rfl) ?_
  have ku := Try.kUint s.length (by omega)
  have hl := uintB_len s.length
  have c1 : IntKind.u64.wrap (s.length : Int) = (s.length : Int) := Go.IntWalk.u64_in _ (by omega)
  unfold textB
  generalize uintB s.length = u at *
  have s1 : (u.length + s.length ≤ 9223372036854775807) = True := eq_true (by omega)
  repeat' (first
   |with_reducible first|refine vSq fun K hK=>?_|refine vRg ?_|refine vBl ?_|refine vSc ?_|refine vIf ?_|refine vSk ?_|refine vEx ?_|refine vRt ?_
   |(with_reducible first|refine gNt (fun h=>?_) (fun h=>?_)|refine gCs (fun h=>?_) (fun h=>?_))<;>(try simp only[h])
   |refine C_pure ku rfl rfl (fun _ => rfl) ?_
   |with_reducible first|(refine hK _ ?_;clear hK K)|(clear hK K;refine hK _ ?_;clear hK K)|(clear hK K;clear hK K;refine hK _ ?_;clear hK K)|(clear hK K;clear hK K;clear hK K;refine hK _ ?_;clear hK K)
   |(with_reducible refine todo ?_;simp +decide only[go_sem, c1, s1]))
  exact Ret_d rfl rfl
end Go.Proofs

namespace Go.Proofs
open Go.PW
def homeD (d : Dk) (logs : Nat) (m : List (Int × List UInt8)) : Nat → Dk
  | 0 => d
  | k + 1 => match findN (k : Int) m 0 with
    | some r => wrD (homeD d logs m k) ((logs + k : Nat) : Int) r.2
    | none => homeD d logs m k
theorem homeD_spec (d : Dk) (logs : Nat) (m : List (Int × List UInt8)) : ∀ k, (homeD d logs m k).n = d.n ∧ (homeD d logs m k).cache.length ≤ d.cache.length + k ∧ (homeD d logs m k).stays = d.stays
  | 0 => ⟨rfl, Nat.le_refl _, rfl⟩
  | k + 1 => by
    obtain ⟨h1, h2, h3⟩ := homeD_spec d logs m k
    unfold homeD
    split
    · exact ⟨h1, by simp [wrD]; omega, h3⟩
    · exact ⟨h1, by omega, h3⟩
section pg
variable {H : HMap} {A : AMap} {pid did lid : Nat} {κm κc κp κ : Tok} {d : Dk} {p : Pg} {m : List (Int × List UInt8)}
set_option maxRecDepth 8000 in
set_option maxHeartbeats 16000000 in
theorem Try.kHome (off : Nat) (hw : Wf H A) (hp : PgAt H A pid did lid κp p) (hd : DkAt H A did κm κc d) (hl : p.logs ≤ d.n) (hn : d.n ≤ 4096) (hcl : d.cache.length ≤ 900000) (hm : A κ = some (.mp (encNS m))) (hlen : ∀ k r, findN k m 0 = some r → r.2.length ≤ 128)
    (hb : ∀ k r, k < pgN d p → findN (k : Int) m 0 = some r → burnt (homeD d p.logs m k) = false) :
    EffOK Try.prog 36 off H A [.c (.ptr pid 0), .c (.mpr κ)] (pD (.lit (.int .i64 0))) (upd H did (some (encDk κm κc (homeD d p.logs m (pgN d p))))) (upd A κc (some (.co 2 (homeD d p.logs m (pgN d p)).cache.length))) := by
  refine effr_ok (E := envOf Try.prog [24, 56] off [] []) (envOf_ok Try.mixed) Try.func36 rfl Try.call36 (by kernel_rfl) (by exact Nat.le_of_ble_eq_true rfl) (fun hab => ?_)
  have hph := hp.h
  unfold encPg at hph
  have hne : pid ≠ did := fun e => by
    have h1 := hp.h
    rw [e, hd.h] at h1
    have := congrArg List.length (Option.some.inj h1)
    cases this
  have hnc : κ ≠ κc := fun e => by have h1 := hm; rw [e, hd.c] at h1; cases h1
  have hlt := hd.lt hab
  have kl := Try.kPgLen (off + 1000) hw hp hd hl hn
  have hpn : pgN d p = d.n - p.logs := rfl
  have hsp := homeD_spec d p.logs m
  have hwk : ∀ k, Wf (upd H did (some (encDk κm κc (homeD d p.logs m k)))) (upd A κc (some (.co 2 (homeD d p.logs m k).cache.length))) := fun k => DkAt.wf hw hd _ upd_keep
  have hdk : ∀ k, DkAt (upd H did (some (encDk κm κc (homeD d p.logs m k)))) (upd A κc (some (.co 2 (homeD d p.logs m k).cache.length))) did κm κc (homeD d p.logs m k) := fun k => ⟨upd_same _ _ _, by rw [upd_other _ _ hd.ne.symm, (hsp k).2.2]; exact hd.m, upd_same _ _ _⟩
  have hptr : ∀ {A1 A2 : AMap} {x : List CV}, PV.wk (hOver [] (upd H did (some x))) A1 A2 (.c (.ptr pid 0)) (.c (.ptr pid 0)) = True := eq_true (wkP_ptr (upd_keepH _ (by rw [hp.h]; simp)))
  have hmpr : ∀ {G : HMap} {x y : Arr}, PV.wk G (upd A κc (some x)) (upd A κc (some y)) (.c (.mpr κ)) (.c (.mpr κ)) = True := fun {G x y} => eq_true (wk_c (.inr (.inl ⟨rfl, by rw [upd_other _ _ hnc, hm]; simp, by rw [upd_other _ _ hnc, upd_other _ _ hnc]⟩)))
  have hmp : ∀ x, mapOf (upd A κc (some x)) (.c (.mpr κ)) = some (encNS m) := fun x => mapOf_mpr (by rw [upd_other _ _ hnc]; exact hm)
  repeat' (first
   |with_reducible first|refine vSq fun K hK=>?_|refine vRg ?_|refine vBl ?_|refine vSc ?_|refine vIf ?_|refine vSk ?_|refine vEx ?_|refine vRt ?_
   |(with_reducible first|refine gNt (fun h=>?_) (fun h=>?_)|refine gCs (fun h=>?_) (fun h=>?_))<;>(try simp only[h])
   |refine C_call rfl kl rfl (Above_mono hab (by omega)) ?_
   |with_reducible first|(refine hK _ ?_;clear hK K)|(clear hK K;refine hK _ ?_;clear hK K)|(clear hK K;clear hK K;refine hK _ ?_;clear hK K)|(clear hK K;clear hK K;clear hK K;refine hK _ ?_;clear hK K)
   |(with_reducible refine todo ?_;simp +decide only[go_sem]))
  refine VC_range (pgN d p) (fun _ => True) (fun i => over [(0, .c (.ptr pid 0)), (1, .c (.mpr κ)), (10, pD (.lit (.int .i64 (pgN d p)))), (11, pD (.lit (.int .i64 i)))] []
    (upd H did (some (encDk κm κc (homeD d p.logs m i)))) (upd A κc (some (.co 2 (homeD d p.logs m i).cache.length)))) True.intro ?_ ?_
  · refine Weak_overG (hwk 0) (fun i _ => ?_) (upd_self hd.c).symm ?_ ?_ upd_keepH upd_keep
    · rw [show upd H did (some (encDk κm κc (homeD d p.logs m 0))) = H from upd_self hd.h]
    · have e : upd A κc (some (.co 2 (homeD d p.logs m 0).cache.length)) = A := upd_self hd.c
      have hm0 : PV.wk (hOver [] (upd H did (some (encDk κm κc (homeD d p.logs m 0))))) (upd A κc (some (.co 2 (homeD d p.logs m 0).cache.length))) (upd A κc (some (.co 2 (homeD d p.logs m 0).cache.length))) (.c (.mpr κ)) (.c (.mpr κ)) = True := hmpr
      simp +decide only [go_sem, hptr, hm0]
    · simp +decide only [go_sem]
  · intro i hi _
    rcases Nat.lt_or_ge i (pgN d p) with hi2 | hi2
    · have hc := int_lt_true hi2
      have hnx := int_next hi2 (by omega)
      have c1 : IntKind.i64.wrap ((p.logs : Int) + (i : Int)) = ((p.logs + i : Nat) : Int) := by rw [Go.IntWalk.i64_in _ (by omega)]; omega
      have hAb : Above (off + 1000) (upd H did (some (encDk κm κc (homeD d p.logs m i)))) (upd A κc (some (.co 2 (homeD d p.logs m i).cache.length))) := Above_updA (Above_updH (Above_mono hab (by omega)) (by omega)) (by omega)
      cases hf : findN (i : Int) m 0 with
      | none =>
        have e : homeD d p.logs m (i + 1) = homeD d p.logs m i := by rw [homeD, hf]
        repeat' (first
         |with_reducible first|refine vSq fun K hK=>?_|refine vRg ?_|refine vBl ?_|refine vSc ?_|refine vIf ?_|refine vSk ?_|refine vEx ?_|refine vRt ?_
         |(with_reducible first|refine gNt (fun h=>?_) (fun h=>?_)|refine gCs (fun h=>?_) (fun h=>?_))<;>(try simp only[h])
         |with_reducible first|(refine hK _ ?_;clear hK K)|(clear hK K;refine hK _ ?_;clear hK K)|(clear hK K;clear hK K;refine hK _ ?_;clear hK K)|(clear hK K;clear hK K;clear hK K;refine hK _ ?_;clear hK K)
         |(with_reducible refine todo ?_;simp +decide only[go_sem, hc, hnx, hmp, mfind_N, hf]))
        refine Next_of hi2 True.intro (Weak_overG (hwk (i + 1)) (fun _ _ => by rw [e]; rfl) (by rw [e]) ?_ ?_ upd_keepH upd_keep)
        · rw [e]
          simp +decide only [go_sem, hptr, hmpr]
        · simp +decide only [go_sem]
      | some r =>
        have e : homeD d p.logs m (i + 1) = wrD (homeD d p.logs m i) ((p.logs + i : Nat) : Int) r.2 := by rw [homeD, hf]
        have hrl := hlen _ _ hf
        have hbn := hb i r hi2 hf
        have hwe : writeE (homeD d p.logs m i) ((p.logs + i : Nat) : Int) r.2 = 0 := by
          have h1 : dkRight (homeD d p.logs m i) ((p.logs + i : Nat) : Int) = 0 := by
            have := (hsp i).1
            unfold dkRight; rw [if_neg (by omega), if_neg (by omega)]
          unfold writeE
          rw [if_neg (by simpa using h1), if_neg (by omega), hbn]
          rfl
        have kw := Try.kWrite (off + 1000) (hwk i) (hdk i) ((p.logs + i : Nat) : Int) r.2 (by rw [(hsp i).1]; omega) (by have := (hsp i).2.1; omega) hwe
        have hcl2 : (wrD (homeD d p.logs m i) ((p.logs + i : Nat) : Int) r.2).cache.length = (homeD d p.logs m i).cache.length + 1 := by simp [wrD]
        rw [upd_twice, upd_twice, ← hcl2, ← e] at kw
        repeat' (first
         |with_reducible first|refine vSq fun K hK=>?_|refine vRg ?_|refine vBl ?_|refine vSc ?_|refine vIf ?_|refine vSk ?_|refine vEx ?_|refine vRt ?_
         |(with_reducible first|refine gNt (fun h=>?_) (fun h=>?_)|refine gCs (fun h=>?_) (fun h=>?_))<;>(try simp only[h])
         |refine C_call rfl kw rfl hAb ?_
         |with_reducible first|(refine hK _ ?_;clear hK K)|(clear hK K;refine hK _ ?_;clear hK K)|(clear hK K;clear hK K;refine hK _ ?_;clear hK K)|(clear hK K;clear hK K;clear hK K;refine hK _ ?_;clear hK K)
         |(with_reducible refine todo ?_;simp +decide only[go_sem, hc, hnx, hmp, mfind_N, hf, hph, hne, c1, zne]))
        refine Next_of hi2 True.intro (Weak_overG (hwk (i + 1)) (fun _ _ => rfl) rfl ?_ ?_ upd_keepH upd_keep)
        · simp +decide only [go_sem, hptr, hmpr]
        · simp +decide only [go_sem]
    · have hc := int_lt_false hi2
      have hie : i = pgN d p := by omega
      subst hie
      repeat' (first
       |with_reducible first|refine vSq fun K hK=>?_|refine vRg ?_|refine vBl ?_|refine vSc ?_|refine vIf ?_|refine vSk ?_|refine vEx ?_|refine vRt ?_
       |(with_reducible first|refine gNt (fun h=>?_) (fun h=>?_)|refine gCs (fun h=>?_) (fun h=>?_))<;>(try simp only[h])
       |with_reducible first|(refine hK _ ?_;clear hK K)|(clear hK K;refine hK _ ?_;clear hK K)|(clear hK K;clear hK K;refine hK _ ?_;clear hK K)|(clear hK K;clear hK K;clear hK K;refine hK _ ?_;clear hK K)
       |(with_reducible refine todo ?_;simp +decide only[go_sem, hc]))
      exact RetR_eq rfl (wk_c (.inr (.inl ⟨rfl, True.intro⟩))) True.intro (hwk _) (fun _ _ => rfl) rfl upd_keepH upd_keep
end pg
end Go.Proofs

namespace Go.Proofs
open Go.PW
def SOK (off : Nat) (P : Program) (f : FuncId) (H : HMap) (A : AMap) (args : List PV) (v : PV) (R : HMap → AMap → Prop) : Prop := ∃ H' A', EffOK P f off H A args v H' A' ∧ R H' A'
section wal
variable {H : HMap} {A : AMap} {k did : Nat} {κm κc : Tok} {d : Dk}
theorem Try.tOpen (off : Nat) (hL : LW H A k did κm κc d) (hk : k < off + 1000) {f n t0 b0 t1 b1 : Nat} {pl : Nat → Option Pc} (ho : OpAt d f n t0 b0 t1 b1 pl) (hf : d.fused = false) :
    SOK off Try.prog 27 H A [.c (.ptr did 0), pD (.lit (.int .i64 f)), pD (.lit (.int .i64 n))] (.tup [.c (.ptr k 0), .c (.d (.lit (.int .i64 0)))]) fun H' A' =>
      LW H' A' (k + 1) did κm (k, 1) (nextD d f (opT t0 t1 + 1) (opB t0 b0 t1 b1)) ∧ LgAt H' A' k did (k, 0) (opL f n t0 b0 t1 b1 pl) ∧ (∀ lid κr l, LgAt H A lid did κr l → LgAt H' A' lid did κr l) ∧ (∀ j, j ≠ did → j ≠ k → H' j = H j) ∧ (∀ τ, τ ≠ κm → τ ≠ κc → τ.1 < k → A' τ = A τ) ∧ ∀ τ, A τ ≠ none → A' τ ≠ none := by
  obtain ⟨n1, n2, n3⟩ := hL.ne
  have nk : ((k, 1) : Tok) ≠ (k, 0) := fun e => by cases e
  have nm0 : κm ≠ (k, 0) := tok_ne (by show κm.1 ≠ k; omega)
  have nm1 : κm ≠ (k, 1) := tok_ne (by show κm.1 ≠ k; omega)
  have nc0 : κc ≠ (k, 0) := tok_ne (by show κc.1 ≠ k; omega)
  have nc1 : κc ≠ (k, 1) := tok_ne (by show κc.1 ≠ k; omega)
  have ko := Try.kOpen (id := k) (κr := (k, 0)) (κ' := (k, 1)) off hL.wf hL.dk ho (burnt_no hf) (burnt_no hf) (hL.new 0).1 (hL.new 0).2 (by show k < off + 1000; omega) (hL.new 1).2 nk
  have hdc : (nextD d f (opT t0 t1 + 1) (opB t0 b0 t1 b1)).cache.length = 0 := rfl
  generalize nextD d f (opT t0 t1 + 1) (opB t0 b0 t1 b1) = dn at *
  generalize opL f n t0 b0 t1 b1 pl = l' at *
  have kA : ∀ τ, A τ ≠ none → upd (upd (upd (upd A (k, 0) (some (.co 1 l'.recs.length))) κc (some (.co 2 (d.cache.length + 1)))) κm (some (.mp (encNS dn.stays)))) (k, 1) (some (.co 2 0)) τ ≠ none := fun τ h => upd_keep _ (upd_keep _ (upd_keep _ (upd_keep _ h)))
  have rκ : upd (upd (upd (upd A (k, 0) (some (.co 1 l'.recs.length))) κc (some (.co 2 (d.cache.length + 1)))) κm (some (.mp (encNS dn.stays)))) (k, 1) (some (.co 2 0)) (k, 0) = some (.co 1 l'.recs.length) := by
    rw [upd_other _ _ nk.symm, upd_other _ _ nm0.symm, upd_other _ _ nc0.symm, upd_same]
  refine ⟨_, _, ko, ⟨?_, ?_, ?_⟩, ⟨upd_same _ _ _, rκ⟩, ?_, fun j q1 q2 => by rw [upd_other _ _ q2, upd_other _ _ q1], fun τ q1 q2 q3 => by rw [upd_other _ _ (tok_ne (by show τ.1 ≠ k; omega)), upd_other _ _ q1, upd_other _ _ q2, upd_other _ _ (tok_ne (by show τ.1 ≠ k; omega))], kA⟩
  · exact Wf_set (A := upd (upd (upd (upd A (k, 0) (some (.co 1 l'.recs.length))) κc (some (.co 2 (d.cache.length + 1)))) κm (some (.mp (encNS dn.stays)))) (k, 1) (some (.co 2 0))) (Wf_set hL.wf (DkAt.ok (kA κm (by rw [hL.dk.m]; simp)) (by rw [upd_same]; simp)) kA)
      (LgAt.ok (upd_keepH _ (by rw [upd_same]; simp)) (by rw [rκ]; simp)) (fun _ h => h)
  · exact Above_updA (Above_updA (Above_updA (Above_updA (Above_updH (Above_updH (Above_mono hL.ab (by omega)) (by omega)) (by omega)) (by show k < k + 1; omega)) (by omega)) (by omega)) (by show k < k + 1; omega)
  · refine ⟨by rw [upd_other _ _ (by omega), upd_same], by rw [upd_other _ _ nm1, upd_same], by rw [upd_same, hdc]⟩
  · intro lid κr l hl
    obtain ⟨m1, m2⟩ := hl.lt hL.ab
    exact hl.mv (by rw [upd_other _ _ (by omega), upd_other _ _ (hl.ne hL.dk)]) (by rw [upd_other _ _ (tok_ne (by show κr.1 ≠ k; omega)), upd_other _ _ (hl.nm hL.dk), upd_other _ _ (hl.nc hL.dk), upd_other _ _ (tok_ne (by show κr.1 ≠ k; omega))])
theorem Try.tCrash (off : Nat) (hL : LW H A k did κm κc d) (hn : 0 < d.n) (hcl : d.cache.length ≤ 1000000) (keep : List Bool) (hkp : keep.length ≤ d.cache.length) :
    SOK off Try.prog 10 H A [.c (.ptr did 0), .c (.d (.sl (bools keep)))] (pD (.lit (.int .i64 0))) fun H' A' => LW H' A' (k + 1) did κm (k, 0) (crD d keep) ∧ (∀ lid κr l, LgAt H A lid did κr l → LgAt H' A' lid did κr l) ∧ (∀ j, j ≠ did → H' j = H j) ∧ (∀ τ, τ ≠ κm → τ.1 < k → A' τ = A τ) ∧ ∀ τ, A τ ≠ none → A' τ ≠ none := by
  obtain ⟨n1, n2, n3⟩ := hL.ne
  have nm0 : κm ≠ (k, 0) := tok_ne (by show κm.1 ≠ k; omega)
  have kc := Try.kCrash (κ' := (k, 0)) off hL.wf hL.dk hn hcl keep hkp (hL.new 0).2
  have hdc : (crD d keep).cache.length = 0 := rfl
  generalize crD d keep = dn at *
  have kA : ∀ τ, A τ ≠ none → upd (upd A κm (some (.mp (encNS dn.stays)))) (k, 0) (some (.co 2 0)) τ ≠ none := fun τ h => upd_keep _ (upd_keep _ h)
  refine ⟨_, _, kc, ⟨?_, ?_, ?_⟩, ?_, fun j q1 => by rw [upd_other _ _ q1], fun τ q1 q2 => by rw [upd_other _ _ (tok_ne (by show τ.1 ≠ k; omega)), upd_other _ _ q1], kA⟩
  · exact Wf_set hL.wf (DkAt.ok (kA κm (by rw [hL.dk.m]; simp)) (by rw [upd_same]; simp)) kA
  · exact Above_updA (Above_updA (Above_updH (Above_mono hL.ab (by omega)) (by omega)) (by omega)) (by show k < k + 1; omega)
  · exact ⟨upd_same _ _ _, by rw [upd_other _ _ nm0, upd_same], by rw [upd_same, hdc]⟩
  · intro lid κr l hl
    obtain ⟨m1, m2⟩ := hl.lt hL.ab
    exact hl.mv (by rw [upd_other _ _ (hl.ne hL.dk)]) (by rw [upd_other _ _ (tok_ne (by show κr.1 ≠ k; omega)), upd_other _ _ (hl.nm hL.dk)])
end wal
end Go.Proofs
