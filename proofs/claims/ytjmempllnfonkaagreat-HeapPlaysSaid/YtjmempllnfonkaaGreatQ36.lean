/-
  Parts of the proof, laid together: PwNh, PwNj.
-/
import Derived.Test.YtjmempllnfonkaaGreatQ35
import Derived.Test.YtjmempllnfonkaaGreatQ30

namespace Go.Proofs
open Go.PW
set_option maxRecDepth 8000 in
set_option maxHeartbeats 4000000 in
theorem Tryz.rTwo (n : Nat) (hn : n < 65536) : PureOK Tryz.prog 81 [pD (.lit (.int .i64 n))] (.one (.d (dS (two n)))) := by
  refine Tryz.pure (md := []) Tryz.func81 rfl Tryz.call81 (by kernel_rfl) (by rfl) (by exact Nat.le_of_ble_eq_true rfl) ?_
  have c1 : IntKind.u8.wrap (IntKind.i64.wrap (Int.tdiv (n : Int) 256)) = (((UInt8.ofNat (n / 256)).toNat : Nat) : Int) := by
    rw [show Int.tdiv (n : Int) 256 = ((n / 256 : Nat) : Int) from tdiv_nat n 256, Go.IntWalk.i64_in _ (by omega), u8_small (by omega)]
  have c2 : IntKind.u8.wrap (Int.tmod (n : Int) 256) = (((UInt8.ofNat (n % 256)).toNat : Nat) : Int) := by
    rw [show Int.tmod (n : Int) 256 = ((n % 256 : Nat) : Int) from tmod_nat n 256, u8_small (by omega)]
  have hone : ∀ a b : UInt8, [[D.lit (.int .u8 ((a.toNat : Nat) : Int))], [D.lit (.int .u8 ((b.toNat : Nat) : Int))]] = bytesEls [a, b] := fun _ _ => rfl
  repeat' (first
   |with_reducible first|refine vSq fun K hK=>?_|refine vRg ?_|refine vBl ?_|refine vSc ?_|refine vIf ?_|refine vSk ?_|refine vEx ?_|refine vRt ?_
   |(with_reducible first|refine gNt (fun h=>?_) (fun h=>?_)|refine gCs (fun h=>?_) (fun h=>?_))<;>(try simp only[h])
   |with_reducible first|(refine hK _ ?_;clear hK K)|(clear hK K;refine hK _ ?_;clear hK K)|(clear hK K;clear hK K;refine hK _ ?_;clear hK K)|(clear hK K;clear hK K;clear hK K;refine hK _ ?_;clear hK K)
   |(with_reducible refine todo ?_;simp +decide only[go_sem, c1, c2, hone]))
  exact Ret_d rfl rfl
set_option maxRecDepth 8000 in
set_option maxHeartbeats 4000000 in
theorem Tryz.rNumber2 (t : List UInt8) (ht : 2 ≤ t.length) : PureOK Tryz.prog 118 [pD (dS t)] (.one (.d (.lit (.int .i64 (numB (t.getD 0 0) (t.getD 1 0)))))) := by
  refine Tryz.pure (md := []) Tryz.func118 rfl Tryz.call118 (by kernel_rfl) (by rfl) (by exact Nat.le_of_ble_eq_true rfl) ?_
  have g0 : t[0]? = some (t.getD 0 0) := by rw [List.getD_eq_getElem?_getD, List.getElem?_eq_getElem (by omega)]; rfl
  have g1 : t[1]? = some (t.getD 1 0) := by rw [List.getD_eq_getElem?_getD, List.getElem?_eq_getElem (by omega)]; rfl
  generalize t.getD 0 0 = a at *
  generalize t.getD 1 0 = b at *
  have ha := a.toNat_lt
  have hb := b.toNat_lt
  have c1 : IntKind.i64.wrap (((a.toNat : Nat) : Int)) = ((a.toNat : Nat) : Int) := Go.IntWalk.i64_in _ (by omega)
  have c2 : IntKind.i64.wrap (((b.toNat : Nat) : Int)) = ((b.toNat : Nat) : Int) := Go.IntWalk.i64_in _ (by omega)
  have c3 : IntKind.i64.wrap (256 * ((a.toNat : Nat) : Int)) = 256 * ((a.toNat : Nat) : Int) := Go.IntWalk.i64_in _ (by omega)
  have c4 : IntKind.i64.wrap (256 * ((a.toNat : Nat) : Int) + ((b.toNat : Nat) : Int)) = ((numB a b : Nat) : Int) := by
    rw [Go.IntWalk.i64_in _ (by omega)]
    unfold numB
    omega
  repeat' (first
   |with_reducible first|refine vSq fun K hK=>?_|refine vRg ?_|refine vBl ?_|refine vSc ?_|refine vIf ?_|refine vSk ?_|refine vEx ?_|refine vRt ?_
   |(with_reducible first|refine gNt (fun h=>?_) (fun h=>?_)|refine gCs (fun h=>?_) (fun h=>?_))<;>(try simp only[h])
   |with_reducible first|(refine hK _ ?_;clear hK K)|(clear hK K;refine hK _ ?_;clear hK K)|(clear hK K;clear hK K;refine hK _ ?_;clear hK K)|(clear hK K;clear hK K;clear hK K;refine hK _ ?_;clear hK K)
   |(with_reducible refine todo ?_;simp +decide only[go_sem, g0, g1, c1, c2, c3, c4]))
  exact Ret_d rfl rfl
set_option maxRecDepth 8000 in
set_option maxHeartbeats 4000000 in
theorem Tryz.rNeed (n : Int) : PureOK Tryz.prog 15 [pD (.lit (.int .i64 n))] (.one (.d (.lit (.int .i64 (needI n))))) := by
  refine Tryz.pure (md := []) Tryz.func15 rfl Tryz.call15 (by kernel_rfl) (by rfl) (by exact Nat.le_of_ble_eq_true rfl) ?_
  by_cases h1 : n < 0
  · have c1 : (n < 0) = True := eq_true h1
    repeat' (first
     |with_reducible first|refine vSq fun K hK=>?_|refine vRg ?_|refine vBl ?_|refine vSc ?_|refine vIf ?_|refine vSk ?_|refine vEx ?_|refine vRt ?_
     |(with_reducible first|refine gNt (fun h=>?_) (fun h=>?_)|refine gCs (fun h=>?_) (fun h=>?_))<;>(try simp only[h])
     |with_reducible first|(refine hK _ ?_;clear hK K)|(clear hK K;refine hK _ ?_;clear hK K)|(clear hK K;clear hK K;refine hK _ ?_;clear hK K)|(clear hK K;clear hK K;clear hK K;refine hK _ ?_;clear hK K)
     |(with_reducible refine todo ?_;simp +decide only[go_sem, c1]))
    rw [show needI n = 0 from if_pos (.inl h1)]
    exact Ret_d rfl rfl
  · have c1 : (n < 0) = False := eq_false h1
    by_cases h2 : 100000 < n
    · have c2 : (100000 < n) = True := eq_true h2
      repeat' (first
       |with_reducible first|refine vSq fun K hK=>?_|refine vRg ?_|refine vBl ?_|refine vSc ?_|refine vIf ?_|refine vSk ?_|refine vEx ?_|refine vRt ?_
       |(with_reducible first|refine gNt (fun h=>?_) (fun h=>?_)|refine gCs (fun h=>?_) (fun h=>?_))<;>(try simp only[h])
       |with_reducible first|(refine hK _ ?_;clear hK K)|(clear hK K;refine hK _ ?_;clear hK K)|(clear hK K;clear hK K;refine hK _ ?_;clear hK K)|(clear hK K;clear hK K;clear hK K;refine hK _ ?_;clear hK K)
       |(with_reducible refine todo ?_;simp +decide only[go_sem, c1, c2]))
      rw [show needI n = 0 from if_pos (.inr h2)]
      exact Ret_d rfl rfl
    · have c2 : (100000 < n) = False := eq_false h2
      obtain ⟨q, rfl⟩ : ∃ q : Nat, n = (q : Int) := ⟨n.toNat, by omega⟩
      have w1 : IntKind.i64.wrap ((q : Int) + 124) = ((q + 124 : Nat) : Int) := by rw [Go.IntWalk.i64_in _ (by omega)]; omega
      have w3 : IntKind.i64.wrap (Int.tdiv ((q + 124 : Nat) : Int) 125) = (((q + 124) / 125 : Nat) : Int) := by
        rw [show Int.tdiv ((q + 124 : Nat) : Int) 125 = (((q + 124) / 125 : Nat) : Int) from tdiv_nat (q + 124) 125, Go.IntWalk.i64_in _ (by omega)]
      have w4 : (if (((q + 124) / 125 : Nat) : Int) > 1 then (((q + 124) / 125 : Nat) : Int) else 1) = needI (q : Int) := by
        rw [needI_nat (by omega)]
        unfold need
        split <;> omega
      repeat' (first
       |with_reducible first|refine vSq fun K hK=>?_|refine vRg ?_|refine vBl ?_|refine vSc ?_|refine vIf ?_|refine vSk ?_|refine vEx ?_|refine vRt ?_
       |(with_reducible first|refine gNt (fun h=>?_) (fun h=>?_)|refine gCs (fun h=>?_) (fun h=>?_))<;>(try simp only[h])
       |with_reducible first|(refine hK _ ?_;clear hK K)|(clear hK K;refine hK _ ?_;clear hK K)|(clear hK K;clear hK K;refine hK _ ?_;clear hK K)|(clear hK K;clear hK K;clear hK K;refine hK _ ?_;clear hK K)
       |(with_reducible refine todo ?_;simp +decide only[go_sem, c1, c2, w1, w3, w4]))
      exact Ret_d rfl rfl
structure RH (H : HMap) (A : AMap) (I : RI) (hid : Nat) (x : RS) : Prop where
  at_ : RAt H A I x
  hh : H hid = some [.ptr I.pid 0]
  two : 2 ≤ x.1.length
section rh
variable {H : HMap} {A : AMap} {I : RI} {hid : Nat} {x : RS}
theorem RH.g (h : RH H A I hid x) : GOK x.1 := ⟨h.two, h.at_.most, h.at_.len⟩
theorem RH.ne (h : RH H A I hid x) : hid ≠ I.pid := fun e => by
  have h2 := h.hh
  rw [e, h.at_.h] at h2
  exact absurd (congrArg (Option.map List.length) h2) (by show ¬ some 5 = some 1; decide)
theorem RH.h0 (h : RH H A I hid x) : H hid ≠ none := by rw [h.hh]; simp
theorem RH.up (h : RH H A I hid x) {y : RS} (hy : RAt (I.up H y) A I y) (h2 : y.1.length = x.1.length) : RH (I.up H y) A I hid y :=
  ⟨hy, by rw [I.up_other _ h.ne]; exact h.hh, by rw [h2]; exact h.two⟩
def allocsS (x : RS) : Nat → RS
  | 0 => x
  | i + 1 => allocS (allocsS x i) (firstQ (pgAt (allocsS x i).1 0) (allocsS x i).1.length)
theorem allocsS_1 (x : RS) : ∀ i, (allocsS x i).1 = (allocsG x.1 i).2
  | 0 => rfl
  | i + 1 => by
    show allocG (allocsS x i).1 _ = allocG _ _
    rw [allocsS_1 x i]
theorem RH.allocs (h : RH H A I hid x) : ∀ {i}, i ≤ frG x.1 → RH (I.up H (allocsS x i)) A I hid (allocsS x i)
  | 0, _ => by
    show RH (I.up H x) A I hid x
    rw [RI.up_self h.at_]
    exact h
  | i + 1, hi => by
    have hv := RH.allocs h (i := i) (by omega)
    obtain ⟨ti, hn⟩ := allocsG_took h.g (k := i) (by omega)
    have hc := ti.cnt
    obtain ⟨q1, q2, q3⟩ := firstQ_ok (gs := (allocsS x i).1) (by rw [allocsS_1]; omega)
    have h1 := hv.at_.alloc q2
    have h2 := hv.up h1 (by show (allocG _ _).length = _; unfold allocG; rw [List.length_set, List.length_set])
    rw [I.up_up] at h2
    exact h2
def writesS (x : RS) (ids : List Nat) (s : List UInt8) : Nat → RS
  | 0 => x
  | i + 1 => wrS (writesS x ids s i) (ids.getD i 0) (pad (cell (ids.getD (i + 1) 0) (partH s i)))
theorem writesS_1 (x : RS) (ids : List Nat) (s : List UInt8) : ∀ i, (writesS x ids s i).1 = writesG x.1 ids s i
  | 0 => rfl
  | i + 1 => by
    show (writesS x ids s i).1.set _ _ = (writesG _ _ _ _).set _ _
    rw [writesS_1 x ids s i]
theorem cell_le (n : Nat) (s : List UInt8) (i : Nat) : (cell n (partH s i)).length ≤ 128 := by
  rw [cell_len]
  unfold partH
  rw [List.length_take]
  omega
theorem RH.writes (h : RH H A I hid x) {ids : List Nat} {s : List UInt8} : ∀ {i}, (∀ t, t < i → ids.getD t 0 < x.1.length) → RH (I.up H (writesS x ids s i)) A I hid (writesS x ids s i) ∧ (writesS x ids s i).1.length = x.1.length
  | 0, _ => by
    refine ⟨?_, rfl⟩
    show RH (I.up H x) A I hid x
    rw [RI.up_self h.at_]
    exact h
  | i + 1, hi => by
    obtain ⟨hv, hl⟩ := RH.writes h (s := s) (i := i) (fun t ht => hi t (by omega))
    have h1 := hv.at_.wr (j := ids.getD i 0) (s := pad (cell (ids.getD (i + 1) 0) (partH s i))) (by rw [hl]; exact hi i (by omega)) (pad_len (cell_le _ _ _))
    have hl2 : (writesS x ids s (i + 1)).1.length = (writesS x ids s i).1.length := List.length_set
    have h2 := hv.up h1 hl2
    rw [I.up_up] at h2
    exact ⟨h2, hl2.trans hl⟩
theorem Tryz.nWriteOk (off : Nat) (hw : Wf H A) (hx : RAt H A I x) (j : Nat) (h0 : j ≠ 0) (hj : j < x.1.length) (s : List UInt8) (hs : s.length ≤ 128) :
    EffOK Tryz.prog 11 off H A [.c (.ptr I.pid 0), pD (.lit (.int .i64 j)), pD (dS s)] (pD (.lit (.int .i64 0))) (I.up H (wrS x j (pad s))) A := by
  have h := Tryz.nWrite off hw hx (j : Int) s (by omega)
  have e : pgWrE x.1.length (j : Int) s = 0 := by
    have e1 : pgRight x.1.length (j : Int) = 0 := if_neg (by omega)
    unfold pgWrE
    rw [e1, if_neg (by decide), if_neg (show ¬ (j : Int) = 0 by omega), if_neg (by omega)]
  unfold writeS at h
  rw [e, if_neg (by decide), Int.toNat_natCast] at h
  exact h
end rh
end Go.Proofs

namespace Go.Proofs
open Go.PW
def putS (x : RS) (s : List UInt8) : RS := if 100000 < s.length then x else if frG x.1 < need s.length then x
  else writesS (allocsS x (need s.length)) (allocsG x.1 (need s.length)).1 s (need s.length)
theorem putS_1 (x : RS) (s : List UInt8) : (putS x s).1 = (putG x.1 s).2.2 := by
  unfold putS putG
  split
  · rfl
  · split
    · rfl
    · rw [writesS_1, allocsS_1]
theorem part_slice (s : List UInt8) (j : Nat) : (s.drop (125 * j)).take (min s.length (125 * j + 125) - 125 * j) = partH s j := by
  unfold partH
  by_cases h : 125 * j + 125 ≤ s.length
  · rw [Nat.min_eq_right h, show 125 * j + 125 - 125 * j = 125 by omega]
  · rw [Nat.min_eq_left (by omega), List.take_of_length_le (by rw [List.length_drop]; exact Nat.le_refl _), List.take_of_length_le (by rw [List.length_drop]; omega)]
section rh
variable {H : HMap} {A : AMap} {I : RI} {hid : Nat} {x : RS}
theorem RH.ids (h : RH H A I hid x) {M : Nat} (hf : M ≤ frG x.1) {t : Nat} (ht : t < M) : (allocsG x.1 M).1.getD t 0 ≠ 0 ∧ (allocsG x.1 M).1.getD t 0 < x.1.length := by
  obtain ⟨tl, tn⟩ := allocsG_took h.g hf
  have hm : (allocsG x.1 M).1.getD t 0 ∈ (allocsG x.1 M).1 := by
    rw [List.getD_eq_getElem?_getD, List.getElem?_eq_getElem (by omega)]
    exact List.getElem_mem _
  obtain ⟨a, b, _⟩ := tl.all _ hm
  exact ⟨b, a⟩
theorem RH.lens (h : RH H A I hid x) {M : Nat} (hf : M ≤ frG x.1) : (allocsS x M).1.length = x.1.length := by
  rw [allocsS_1]
  exact (allocsG_took h.g hf).1.len
theorem RH.put (h : RH H A I hid x) (s : List UInt8) : RH (I.up H (putS x s)) A I hid (putS x s) := by
  have hs : RH (I.up H x) A I hid x := by rw [RI.up_self h.at_]; exact h
  unfold putS
  split
  · exact hs
  · split
    · exact hs
    · next hf =>
      have h1 := h.allocs (i := need s.length) (by omega)
      have h2 := (h1.writes (s := s) (ids := (allocsG x.1 (need s.length)).1) (i := need s.length) (fun t ht => by rw [h.lens (by omega)]; exact (h.ids (by omega) ht).2)).1
      rw [I.up_up] at h2
      exact h2
set_option maxRecDepth 8000 in
set_option maxHeartbeats 32000000 in
theorem Tryz.rPutGo (off : Nat) (hw : Wf H A) (h : RH H A I hid x) (s : List UInt8) (hs : s.length ≤ 100000) (hf : need s.length ≤ frG x.1) :
    EffOK Tryz.prog 48 off H A [.c (.ptr hid 0), pD (dS s)] (.tup [.c (.d (.lit (.int .i64 (((allocsG x.1 (need s.length)).1.getD 0 0 : Nat) : Int)))), .c (.d (.lit (.int .i64 0)))])
      (I.up H (writesS (allocsS x (need s.length)) (allocsG x.1 (need s.length)).1 s (need s.length))) A := by
  refine effr_ok (E := envOf Tryz.prog [80, 9, 11] off [] []) (envOf_ok Tryz.mixed) Tryz.func48 rfl Tryz.call48 (by kernel_rfl) (by exact Nat.le_of_ble_eq_true rfl) (fun hab => ?_)
  have hab' := Above_mono hab (Nat.le_add_right off 1000)
  have kf := Tryz.nFrees (off + 1000) hw h.at_
  have kn := Tryz.rNeed (s.length : Int)
  rw [needI_nat hs] at kn
  have hle := frG_le x.1
  have hbg := h.at_.most
  have hh := h.hh
  have ha : A (off + 42, 0) = none := (hab _ (Nat.le_add_right _ _)).2 _
  have hpl := h.at_.lt hab
  have c1 : (100000 < (s.length : Int)) = False := eq_false (by omega)
  have n1 := (need_ge s.length).1
  have n3 := (need_ge s.length).2.2
  generalize hM : need s.length = M at *
  have tn := (allocsG_took h.g hf).2
  have hids := fun t ht => h.ids hf (t := t) ht
  have c2 : ((frG x.1 : Int) < (M : Int)) = False := eq_false (by omega)
  have wfi : ∀ y, Wf (I.up H y) A := fun y => h.at_.wf hw y
  have abi : ∀ y, Above off (I.up H y) A := fun y => Above_updH hab hpl
  have hhi : ∀ y, I.up H y hid = some [.ptr I.pid 0] := fun y => by rw [I.up_other _ h.ne]; exact hh
  have hpi : ∀ y, I.up H y I.pid ≠ none := fun y => I.up_keep _ h.at_.p0
  have hptr : ∀ {y : RS} {X Y : AMap}, PV.wk (hOver [] (I.up H y)) X Y (.c (.ptr hid 0)) (.c (.ptr hid 0)) = True := fun {y X Y} => eq_true (wkP_ptr (by show I.up H y hid ≠ none; rw [hhi y]; simp))
  have hptr0 : ∀ {X Y : AMap}, PV.wk (hOver [] H) X Y (.c (.ptr hid 0)) (.c (.ptr hid 0)) = True := eq_true (wkP_ptr h.h0)
  have u0 : I.up H (allocsS x 0) = H := RI.up_self h.at_
  have kHi : ∀ y i, H i ≠ none → I.up H y i ≠ none := fun y i hi => I.up_keep _ hi
  repeat' (first
   |with_reducible first|refine vSq fun K hK=>?_|refine vRg ?_|refine vBl ?_|refine vSc ?_|refine vIf ?_|refine vSk ?_|refine vEx ?_|refine vRt ?_
   |(with_reducible first|refine gNt (fun h=>?_) (fun h=>?_)|refine gCs (fun h=>?_) (fun h=>?_))<;>(try simp only[h])
   |refine C_pure kn rfl rfl (fun k => (hab _ (Nat.le_add_right _ _)).2 k) ?_
   |refine C_call rfl kf rfl hab' ?_
   |with_reducible first|(refine hK _ ?_;clear hK K)|(clear hK K;refine hK _ ?_;clear hK K)|(clear hK K;clear hK K;refine hK _ ?_;clear hK K)|(clear hK K;clear hK K;clear hK K;refine hK _ ?_;clear hK K)
   |(with_reducible refine todo ?_;simp +decide only[go_sem, hh, c1, c2]))
  refine VC_range M (fun _ => True) (fun i => overA [(0, .c (.ptr hid 0)), (1, pD (dS s)), (6, pD (.lit (.int .i64 M))), (7, .c (.own (off + 42, 0) (ints (idsI (allocsG x.1 i).1)))), (8, pD (.lit (.int .i64 i)))] []
    [((off + 42, 0), .co 1 i)] (I.up H (allocsS x i)) A) True.intro ?_ ?_
  · rw [u0]
    refine Weak_overA hw kp_refl (fun _ _ => rfl) (fun q hq => by rw [List.mem_singleton.1 hq]; exact ha) ?_ ?_ ?_ (fun _ h => h) (fun _ h => h)
    · simp +decide only [go_sem, hptr0]
      exact wkP_new ha (sz := 1) (if_pos rfl)
    · simp +decide only [go_sem]
    · simp +decide only [go_sem, ha]
  · intro i hi _
    have hvi := h.allocs (i := i) (by omega)
    have hil : (ints (idsI (allocsG x.1 i).1)).length = i := by rw [idsI_len, (allocsG_took h.g (k := i) (by omega)).2]
    rcases Nat.lt_or_ge i M with hi2 | hi2
    · have hc := int_lt_true hi2
      have hnx := int_next hi2 (by omega)
      have hcn := (allocsG_took h.g (k := i) (by omega)).1.cnt
      have hcl := (allocsG_took h.g (k := i) (by omega)).2
      obtain ⟨q1, q2, q3⟩ := firstQ_ok (gs := (allocsS x i).1) (by rw [allocsS_1]; omega)
      have ka := Tryz.nAlloc (off + 1000) (wfi (allocsS x i)) hvi.at_ _ q2 q1 q3
      rw [I.up_up, show allocS (allocsS x i) (firstQ (pgAt (allocsS x i).1 0) (allocsS x i).1.length) = allocsS x (i + 1) from rfl, allocsS_1] at ka
      have ka := eff_frameA (κ := (off + 42, 0)) (ar := .co 1 i) ka (wfi _) (oksP (l := []) (hpi _)) ha ha
      have abi' : Above (off + 1000) (I.up H (allocsS x i)) (upd A (off + 42, 0) (some (.co 1 i))) := Above_updA (Above_mono (abi _) (by omega)) (by show off + 42 < off + 1000; omega)
      have e3 : ints (idsI (allocsG x.1 (i + 1)).1) = ints (idsI (allocsG x.1 i).1) ++ [[.lit (.int .i64 ((firstQ (pgAt (allocsG x.1 i).2 0) (allocsG x.1 i).2.length : Nat) : Int))]] := by
        show ints (idsI (_ ++ _)) = _
        rw [idsI_app, ints_app]; rfl
      have hszL := szd_ints (idsI (allocsG x.1 i).1)
      have hhi1 := hhi (allocsS x i)
      have wf1 := wfi (allocsS x (i + 1))
      have kH1 := kHi (allocsS x (i + 1))
      have hptr1 := fun {X Y : AMap} => hptr (y := allocsS x (i + 1)) (X := X) (Y := Y)
      clear hptr hhi wfi kHi abi hpi
      generalize firstQ (pgAt (allocsG x.1 i).2 0) (allocsG x.1 i).2.length = q at *
      generalize ints (idsI (allocsG x.1 i).1) = L at *
      generalize hH2 : I.up H (allocsS x (i + 1)) = H2 at *
      generalize I.up H (allocsS x i) = H1 at *
      repeat' (first
       |with_reducible first|refine vSq fun K hK=>?_|refine vRg ?_|refine vBl ?_|refine vSc ?_|refine vIf ?_|refine vSk ?_|refine vEx ?_|refine vRt ?_
       |(with_reducible first|refine gNt (fun h=>?_) (fun h=>?_)|refine gCs (fun h=>?_) (fun h=>?_))<;>(try simp only[h])
       |refine C_call rfl ka rfl abi' ?_
       |(refine W_own Tryz.appI rfl hszL (szOne rfl) (by rw [hil]; simp only [List.length_singleton]; omega) (by rw [hil]; exact upd_same _ _ _) ?_)
       |with_reducible first|(refine hK _ ?_;clear hK K)|(clear hK K;refine hK _ ?_;clear hK K)|(clear hK K;clear hK K;refine hK _ ?_;clear hK K)|(clear hK K;clear hK K;clear hK K;refine hK _ ?_;clear hK K)
       |(with_reducible refine todo ?_;simp +decide only[go_sem, hc, hnx, hhi1]))
      subst hH2
      refine Next_of hi2 True.intro (Weak_overA wf1 kp_nil (fun κ hκ => ?_) (fun q hq => by rw [List.mem_singleton.1 hq]; exact ha) ?_ ?_ ?_ kH1 (fun _ h => h))
      · have hne' : κ ≠ (off + 42, 0) := fun e => hκ (by rw [e]; exact ha)
        simp +decide only [go_sem, upd_twice]
        exact upd_other _ _ hne'
      · simp +decide only [go_sem, hptr1, e3]
        exact wkP_own (by rw [aOver_hd]; simp) (by rw [upd_same, hil]; exact aOver_hd)
      · simp +decide only [go_sem]
      · simp +decide only [go_sem, hil]
    · have hc := int_lt_false hi2
      have hie : i = M := by omega
      subst hie
      have hszL := szd_ints (idsI (allocsG x.1 i).1)
      have e4 : ints (idsI ((allocsG x.1 i).1 ++ [0])) = ints (idsI (allocsG x.1 i).1) ++ [[.lit (.int .i64 0)]] := by
        rw [idsI_app, ints_app]; rfl
      have hll := idsI_len ((allocsG x.1 i).1 ++ [0])
      rw [List.length_append, tn, List.length_singleton] at hll
      have e5 := fun t ht => idsI_get ((allocsG x.1 i).1 ++ [0]) t ht
      have e6 : ∀ t, t < i + 1 → ((allocsG x.1 i).1 ++ [0]).getD t 0 = (allocsG x.1 i).1.getD t 0 := fun t ht => by
        rw [List.getD_eq_getElem?_getD, List.getD_eq_getElem?_getD]
        by_cases e : t < i
        · rw [List.getElem?_append_left (by omega)]
        · rw [show t = (allocsG x.1 i).1.length by omega, List.getElem?_concat_length, List.getElem?_eq_none (Nat.le_refl _)]; rfl
      rw [e4] at e5 hll
      have hwr := fun j (hj : j ≤ i) => hvi.writes (s := s) (ids := (allocsG x.1 i).1) (i := j) (fun t ht => by rw [h.lens (by omega)]; exact (hids t (by omega)).2)
      have hlens := h.lens (M := i) (by omega)
      have w00 : writesS (allocsS x i) (allocsG x.1 i).1 s 0 = allocsS x i := rfl
      generalize hL : ints (idsI (allocsG x.1 i).1) = L at *
      generalize hY : allocsS x i = y0 at *
      repeat' (first
       |with_reducible first|refine vSq fun K hK=>?_|refine vRg ?_|refine vBl ?_|refine vSc ?_|refine vIf ?_|refine vSk ?_|refine vEx ?_|refine vRt ?_
       |(with_reducible first|refine gNt (fun h=>?_) (fun h=>?_)|refine gCs (fun h=>?_) (fun h=>?_))<;>(try simp only[h])
       |(refine W_own Tryz.appI rfl hszL (szOne rfl) (by rw [hil]; simp only [List.length_singleton]; omega) (by rw [hil]; exact aOver_hd) ?_)
       |with_reducible first|(refine hK _ ?_;clear hK K)|(clear hK K;refine hK _ ?_;clear hK K)|(clear hK K;clear hK K;refine hK _ ?_;clear hK K)|(clear hK K;clear hK K;clear hK K;refine hK _ ?_;clear hK K)
       |(with_reducible refine todo ?_;simp +decide only[go_sem, hc]))
      refine VC_range i (fun _ => True) (fun j => overA [(0, .c (.ptr hid 0)), (1, pD (dS s)), (6, pD (.lit (.int .i64 i))), (7, .c (.own (off + 42, 0) (L ++ [[.lit (.int .i64 0)]]))), (11, pD (.lit (.int .i64 j)))] []
        [((off + 42, 0), .co 1 (i + 1))] (I.up H (writesS y0 (allocsG x.1 i).1 s j)) A) True.intro ?_ ?_
      · rw [w00]
        refine Weak_overA (wfi _) kp_refl (fun κ hκ => ?_) (fun q hq => by rw [List.mem_singleton.1 hq]; exact ha) ?_ ?_ ?_ (kHi _) (fun _ h => h)
        · have hne' : κ ≠ (off + 42, 0) := fun e => hκ (by rw [e]; exact ha)
          show upd _ _ _ κ = _
          rw [upd_other _ _ hne']
          exact if_neg hne'
        · simp +decide only [go_sem, hptr]
          exact wkP_own (by rw [aOver_hd]; simp) (by rw [upd_same, hil]; exact aOver_hd)
        · simp +decide only [go_sem]
        · simp +decide only [go_sem, hil]
      · intro j hj _
        obtain ⟨hvj, hlj⟩ := hwr j hj
        rw [I.up_up] at hvj
        have w1 : writesS y0 (allocsG x.1 i).1 s (j + 1) = wrS (writesS y0 (allocsG x.1 i).1 s j) ((allocsG x.1 i).1.getD j 0) (pad (cell ((allocsG x.1 i).1.getD (j + 1) 0) (partH s j))) := rfl
        rcases Nat.lt_or_ge j i with hj2 | hj2
        · have hc := int_lt_true hj2
          have hnx := int_next hj2 (by omega)
          have kw := Tryz.nWriteOk (off + 1000) (wfi _) hvj.at_ _ (hids j hj2).1 (by rw [hlj, hlens]; exact (hids j hj2).2) (cell ((allocsG x.1 i).1.getD (j + 1) 0) (partH s j)) (cell_le _ _ _)
          rw [I.up_up, ← w1] at kw
          have kw := eff_frameA (κ := (off + 42, 0)) (ar := .co 1 (i + 1)) kw (wfi _) (oksP (l := [_, _]) (hpi _)) ha ha
          have g1 := e5 j (by rw [List.length_append, List.length_singleton]; omega)
          have g2 := e5 (j + 1) (by rw [List.length_append, List.length_singleton]; omega)
          rw [e6 j (by omega)] at g1
          rw [e6 (j + 1) (by omega)] at g2
          have hjs : 125 * j ≤ s.length := by unfold need at hM; omega
          have hps := part_slice s j
          have hpl2 : (partH s j).length ≤ 125 := by unfold partH; rw [List.length_take]; omega
          have c8 := u8_small (n := (partH s j).length) (by omega)
          have h2i : (allocsG x.1 i).1.getD (j + 1) 0 < 65536 := by
            rcases Nat.lt_or_ge (j + 1) i with h | h
            · have := (hids (j + 1) h).2; omega
            · rw [List.getD_eq_getElem?_getD, List.getElem?_eq_none (by omega)]; exact Nat.zero_lt_succ _
          have k2 := Tryz.rTwo ((allocsG x.1 i).1.getD (j + 1) 0) h2i
          unfold cell at kw
          have htw : (two ((allocsG x.1 i).1.getD (j + 1) 0)).length = 2 := rfl
          have m1 : IntKind.i64.wrap (125 * (j : Int)) = ((125 * j : Nat) : Int) := by rw [Go.IntWalk.i64_in _ (by omega)]; omega
          have m2 : IntKind.i64.wrap (((125 * j : Nat) : Int) + 125) = ((125 * j + 125 : Nat) : Int) := by rw [Go.IntWalk.i64_in _ (by omega)]; omega
          have m3 : (if ((125 * j + 125 : Nat) : Int) < (s.length : Int) then ((125 * j + 125 : Nat) : Int) else (s.length : Int)) = ((min s.length (125 * j + 125) : Nat) : Int) := by
            split <;> omega
          have hmin : min s.length (125 * j + 125) ≤ s.length := Nat.min_le_left _ _
          have hmin2 : 125 * j ≤ min s.length (125 * j + 125) := Nat.le_min.2 ⟨hjs, by omega⟩
          have hhi1 := hhi (writesS y0 (allocsG x.1 i).1 s j)
          have wf1 := wfi (writesS y0 (allocsG x.1 i).1 s (j + 1))
          have kH1 := kHi (writesS y0 (allocsG x.1 i).1 s (j + 1))
          have hptr1 := fun {X Y : AMap} => hptr (y := writesS y0 (allocsG x.1 i).1 s (j + 1)) (X := X) (Y := Y)
          have abj := abi (writesS y0 (allocsG x.1 i).1 s j)
          have abj' : Above (off + 1000) (I.up H (writesS y0 (allocsG x.1 i).1 s j)) (upd A (off + 42, 0) (some (.co 1 (i + 1)))) := Above_updA (Above_mono abj (by omega)) (by show off + 42 < off + 1000; omega)
          have o74 : ∀ q, aOver [((off + 42, 0), Arr.co 1 (i + 1))] A (off + 74, q) = none := fun q => (if_neg (fun e => absurd (congrArg Prod.fst e) (by show off + 74 ≠ off + 42; omega))).trans ((hab _ (Nat.le_add_right _ _)).2 q)
          clear hptr hhi wfi kHi abi hpi e5 e6 hids hwr hvj
          generalize hH2 : I.up H (writesS y0 (allocsG x.1 i).1 s (j + 1)) = H2 at *
          generalize I.up H (writesS y0 (allocsG x.1 i).1 s j) = H1 at *
          generalize two ((allocsG x.1 i).1.getD (j + 1) 0) = tw at *
          generalize (allocsG x.1 i).1.getD (j + 1) 0 = nx at *
          generalize (allocsG x.1 i).1.getD j 0 = cu at *
          generalize partH s j = b at *
          generalize UInt8.ofNat b.length = x8 at *
          generalize min s.length (125 * j + 125) = mn at *
          rw [show tw ++ (x8 :: b) = tw ++ [x8] ++ b by rw [List.append_assoc]; rfl] at kw
          have hone : [[D.lit (.int .u8 ((x8.toNat : Nat) : Int))]] = bytesEls [x8] := rfl
          generalize L ++ [[D.lit (.int .i64 0)]] = L2 at *
          have s1 : (tw.length + 1 ≤ 9223372036854775807) = True := eq_true (by omega)
          have s2 : (tw.length + 1 + b.length ≤ 9223372036854775807) = True := eq_true (by omega)
          repeat' (first
           |with_reducible first|refine vSq fun K hK=>?_|refine vRg ?_|refine vBl ?_|refine vSc ?_|refine vIf ?_|refine vSk ?_|refine vEx ?_|refine vRt ?_
           |(with_reducible first|refine gNt (fun h=>?_) (fun h=>?_)|refine gCs (fun h=>?_) (fun h=>?_))<;>(try simp only[h])
           |refine C_pure k2 rfl rfl o74 ?_
           |(refine W_slcS (a := s) (l := 125 * j) (h := mn) Tryz.underlying9 rfl (by simp [optNat, natOf?, intOf?] <;> omega) (by simp [optNat, natOf?, intOf?] <;> omega) hmin2 hmin ?_)
           |refine C_call rfl kw rfl abj' ?_
           |with_reducible first|(refine hK _ ?_;clear hK K)|(clear hK K;refine hK _ ?_;clear hK K)|(clear hK K;clear hK K;refine hK _ ?_;clear hK K)|(clear hK K;clear hK K;clear hK K;refine hK _ ?_;clear hK K)
           |(with_reducible refine todo ?_;simp +decide only[go_sem, hc, hnx, hhi1, m1, m2, m3, hps, g1, g2, c8, hone, s1, s2]))
          subst hH2
          refine Next_of hj2 True.intro (Weak_overA wf1 kp_nil (fun κ hκ => ?_) (fun q hq => by rw [List.mem_singleton.1 hq]; exact ha) ?_ ?_ ?_ kH1 (fun _ h => h))
          · have hne' : κ ≠ (off + 42, 0) := fun e => hκ (by rw [e]; exact ha)
            exact upd_other _ _ hne'
          · simp +decide only [go_sem, hptr1]
            exact wkP_own (by rw [aOver_hd]; simp) (by rw [upd_same]; exact aOver_hd)
          · simp +decide only [go_sem]
          · simp +decide only [go_sem]
        · have hc := int_lt_false hj2
          have hje : j = i := by omega
          subst hje
          have g1 := e5 0 (by rw [List.length_append, List.length_singleton]; omega)
          rw [e6 0 (by omega)] at g1
          have wf1 := wfi (writesS y0 (allocsG x.1 j).1 s j)
          have kH1 := kHi (writesS y0 (allocsG x.1 j).1 s j)
          generalize L ++ [[D.lit (.int .i64 0)]] = L2 at *
          repeat' (first
           |with_reducible first|refine vSq fun K hK=>?_|refine vRg ?_|refine vBl ?_|refine vSc ?_|refine vIf ?_|refine vSk ?_|refine vEx ?_|refine vRt ?_
           |(with_reducible first|refine gNt (fun h=>?_) (fun h=>?_)|refine gCs (fun h=>?_) (fun h=>?_))<;>(try simp only[h])
           |with_reducible first|(refine hK _ ?_;clear hK K)|(clear hK K;refine hK _ ?_;clear hK K)|(clear hK K;clear hK K;refine hK _ ?_;clear hK K)|(clear hK K;clear hK K;clear hK K;refine hK _ ?_;clear hK K)
           |(with_reducible refine todo ?_;simp +decide only[go_sem, hc, g1]))
          exact RetR_sub rfl wk_pair oks_pair wf1 kp_nil (fun κ hκ => if_neg (fun e => hκ (by rw [e]; exact ha))) kH1 (fun _ h => h)
set_option maxRecDepth 8000 in
set_option maxHeartbeats 8000000 in
theorem Tryz.rHPutBig (off : Nat) (hw : Wf H A) (s : List UInt8) (hs : 100000 < s.length) : EffOK Tryz.prog 48 off H A [.c (.ptr hid 0), pD (dS s)] (.tup [.c (.d (.lit (.int .i64 0))), .c (.d (.lit (.int .i64 19)))]) H A := by
  refine effr_ok (E := envOf Tryz.prog [80, 9, 11] off [] []) (envOf_ok Tryz.mixed) Tryz.func48 rfl Tryz.call48 (by kernel_rfl) (by exact Nat.le_of_ble_eq_true rfl) (fun _ => ?_)
  have c1 : (100000 < (s.length : Int)) = True := eq_true (by omega)
  repeat' (first
   |with_reducible first|refine vSq fun K hK=>?_|refine vRg ?_|refine vBl ?_|refine vSc ?_|refine vIf ?_|refine vSk ?_|refine vEx ?_|refine vRt ?_
   |(with_reducible first|refine gNt (fun h=>?_) (fun h=>?_)|refine gCs (fun h=>?_) (fun h=>?_))<;>(try simp only[h])
   |with_reducible first|(refine hK _ ?_;clear hK K)|(clear hK K;refine hK _ ?_;clear hK K)|(clear hK K;clear hK K;refine hK _ ?_;clear hK K)|(clear hK K;clear hK K;clear hK K;refine hK _ ?_;clear hK K)
   |(with_reducible refine todo ?_;simp +decide only[go_sem, c1]))
  exact RetR_same rfl wk_pair oks_pair hw kp_refl (fun _ _ => rfl)
set_option maxRecDepth 8000 in
set_option maxHeartbeats 8000000 in
theorem Tryz.rHPutFull (off : Nat) (hw : Wf H A) (h : RH H A I hid x) (s : List UInt8) (hs : s.length ≤ 100000) (hf : frG x.1 < need s.length) : EffOK Tryz.prog 48 off H A [.c (.ptr hid 0), pD (dS s)] (.tup [.c (.d (.lit (.int .i64 0))), .c (.d (.lit (.int .i64 3)))]) H A := by
  refine effr_ok (E := envOf Tryz.prog [80, 9, 11] off [] []) (envOf_ok Tryz.mixed) Tryz.func48 rfl Tryz.call48 (by kernel_rfl) (by exact Nat.le_of_ble_eq_true rfl) (fun hab => ?_)
  have hh := h.hh
  have kf := Tryz.nFrees (off + 1000) hw h.at_
  have kn := Tryz.rNeed (s.length : Int)
  rw [needI_nat hs] at kn
  have c1 : (100000 < (s.length : Int)) = False := eq_false (by omega)
  have c2 : ((frG x.1 : Int) < (need s.length : Int)) = True := eq_true (by omega)
  repeat' (first
   |with_reducible first|refine vSq fun K hK=>?_|refine vRg ?_|refine vBl ?_|refine vSc ?_|refine vIf ?_|refine vSk ?_|refine vEx ?_|refine vRt ?_
   |(with_reducible first|refine gNt (fun h=>?_) (fun h=>?_)|refine gCs (fun h=>?_) (fun h=>?_))<;>(try simp only[h])
   |refine C_pure kn rfl rfl (fun k => (hab _ (Nat.le_add_right _ _)).2 k) ?_
   |refine C_call rfl kf rfl (Above_mono hab (by omega)) ?_
   |with_reducible first|(refine hK _ ?_;clear hK K)|(clear hK K;refine hK _ ?_;clear hK K)|(clear hK K;clear hK K;refine hK _ ?_;clear hK K)|(clear hK K;clear hK K;clear hK K;refine hK _ ?_;clear hK K)
   |(with_reducible refine todo ?_;simp +decide only[go_sem, hh, c1, c2]))
  exact RetR_same rfl wk_pair oks_pair hw kp_refl (fun _ _ => rfl)
theorem Tryz.rHPut (off : Nat) (hw : Wf H A) (h : RH H A I hid x) (s : List UInt8) :
    EffOK Tryz.prog 48 off H A [.c (.ptr hid 0), pD (dS s)] (putV (putG x.1 s)) (I.up H (putS x s)) A := by
  unfold putG putS
  by_cases h1 : 100000 < s.length
  · rw [if_pos h1, if_pos h1, RI.up_self h.at_]
    exact Tryz.rHPutBig off hw s h1
  · rw [if_neg h1, if_neg h1]
    by_cases h2 : frG x.1 < need s.length
    · rw [if_pos h2, if_pos h2, RI.up_self h.at_]
      exact Tryz.rHPutFull off hw h s (by omega) h2
    · rw [if_neg h2, if_neg h2]
      exact Tryz.rPutGo off hw h s (by omega) (by omega)
end rh
end Go.Proofs
