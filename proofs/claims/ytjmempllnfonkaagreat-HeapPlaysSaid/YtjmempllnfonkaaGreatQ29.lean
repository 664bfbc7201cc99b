/-
  Parts of the proof, laid together: PwKf.
-/
import Derived.Test.YtjmempllnfonkaaGreatQ28

namespace Go.Proofs
open Go.PW
theorem PY.mono {H : HMap} {A : AMap} {k did pid N logs T m m' : Nat} {gs : List (List UInt8)} (h : PY H A k did pid N logs T m gs) (hm : m ≤ m') : PY H A k did pid N logs T m' gs := by
  obtain ⟨ch, b, hx, h1, h2⟩ := h
  exact ⟨ch, b, hx, by omega, h2⟩
theorem HY.mono {H : HMap} {A : AMap} {k did pid hid N logs T m m' : Nat} {gs : List (List UInt8)} (h : HY H A k did pid hid N logs T m gs) (hm : m ≤ m') : HY H A k did pid hid N logs T m' gs := by
  obtain ⟨H0, h0, h1⟩ := h
  exact ⟨H0, h0.mono hm, h1⟩
theorem seq_ex {α : Type} (P : Nat → α → Prop) (R : Nat → α → α → Prop) (a0 : α) (h0 : P 0 a0) : ∀ (n : Nat), (∀ i a, i < n → P i a → ∃ b, R i a b ∧ P (i + 1) b) → ∃ f : Nat → α, f 0 = a0 ∧ ∀ i, i ≤ n → P i (f i) ∧ (i < n → R i (f i) (f (i + 1)))
  | 0, _ => ⟨fun _ => a0, rfl, fun i hi => ⟨by rw [show i = 0 by omega]; exact h0, fun h => by omega⟩⟩
  | n + 1, h => by
    obtain ⟨f, e0, hf⟩ := seq_ex P R a0 h0 n fun i a hi => h i a (by omega)
    obtain ⟨b, h1, h2⟩ := h n (f n) (by omega) (hf n (Nat.le_refl _)).1
    refine ⟨fun i => if i ≤ n then f i else b, by show (if 0 ≤ n then f 0 else b) = a0; rw [if_pos (by omega)]; exact e0, fun i hi => ?_⟩
    by_cases e : i ≤ n
    · obtain ⟨h3, h4⟩ := hf i e
      refine ⟨by show P i (if i ≤ n then f i else b); rw [if_pos e]; exact h3, fun h5 => ?_⟩
      show R i (if i ≤ n then f i else b) (if i + 1 ≤ n then f (i + 1) else b)
      rw [if_pos e]
      by_cases e2 : i + 1 ≤ n
      · rw [if_pos e2]; exact h4 (by omega)
      · rw [if_neg e2, show i = n by omega]; exact h1
    · refine ⟨?_, fun h5 => by omega⟩
      show P i (if i ≤ n then f i else b)
      rw [if_neg e, show i = n + 1 by omega]; exact h2
def idsI (l : List Nat) : List Int := l.map (fun n : Nat => ((n : Nat) : Int))
theorem idsI_app (a b : List Nat) : idsI (a ++ b) = idsI a ++ idsI b := List.map_append
theorem idsI_get (l : List Nat) (i : Nat) (h : i < l.length) : (ints (idsI l))[i]? = some [.lit (.int .i64 ((l.getD i 0 : Nat) : Int))] := by
  unfold ints idsI
  rw [List.getElem?_map, List.getElem?_map, List.getElem?_eq_getElem h, List.getD_eq_getElem?_getD, List.getElem?_eq_getElem h]; rfl
theorem idsI_len (l : List Nat) : (ints (idsI l)).length = l.length := by simp [ints, idsI]
theorem szd_ints (l : List Int) : Szd 1 (ints l) := fun e he => by
  obtain ⟨b, _, rfl⟩ := List.mem_map.1 he
  rfl
section hy
variable {H : HMap} {A : AMap} {k did pid hid N logs T m : Nat} {gs : List (List UInt8)}
structure HV (H : HMap) (A : AMap) (k did pid hid N logs T m : Nat) (gs : List (List UInt8)) (y : HMap × AMap) : Prop where
  hy : HY y.1 y.2 k did pid hid N logs T m gs
  kh : ∀ j, H j ≠ none → y.1 j ≠ none
  ka : ∀ τ, A τ ≠ none → y.2 τ ≠ none
theorem HV.next {P : Program} {f : FuncId} {off m m' : Nat} {gs gs' : List (List UInt8)} {args : List PV} {v : PV} {y : HMap × AMap} (h : HV H A k did pid hid N logs T m gs y) (hs : HSO off P f y.1 y.2 args v k did pid hid N logs T m' gs') :
    ∃ z : HMap × AMap, EffOK P f off y.1 y.2 args v z.1 z.2 ∧ HV H A k did pid hid N logs T m' gs' z := by
  obtain ⟨H', A', e, hy, kh, ka⟩ := hs
  exact ⟨(H', A'), e, hy, fun j hj => kh j (h.kh j hj), fun τ hτ => ka τ (h.ka τ hτ)⟩
set_option maxRecDepth 8000 in
set_option maxHeartbeats 32000000 in
theorem Tryz.hPutGo (off : Nat) (h : HY H A k did pid hid N logs T m gs) (hko : hid < off) (s : List UInt8) (hs : s.length ≤ 100000) (hf : need s.length ≤ frG gs) :
    HSO off Tryz.prog 41 H A [.c (.ptr hid 0), pD (dS s)] (.tup [.c (.d (.lit (.int .i64 (((allocsG gs (need s.length)).1.getD 0 0 : Nat) : Int)))), .c (.d (.lit (.int .i64 0)))]) k did pid hid N logs T (m + 3 * need s.length)
      (writesG (allocsG gs (need s.length)).2 (allocsG gs (need s.length)).1 s (need s.length)) := by
  obtain ⟨hw, hab0, hh, hp, hg, hl, hk, hpk, hne⟩ := h.nums
  have kt := Tryz.hThere (off + 1000) h
  have kf := Tryz.hFrees (off + 1000) h
  have kn := Tryz.hNeed (off + 1000) h (s.length : Int)
  rw [needI_nat hs] at kn
  have kp := Tryz.hParts (off + 1000) h s hs
  have hab := Above_mono hab0 (show hid + 1 ≤ off by omega)
  obtain ⟨tl, tn⟩ := allocsG_took hg hf
  have hle := frG_le gs
  have hbg := hg.big
  obtain ⟨f1, f10, hf1⟩ := seq_ex (fun i y => HV H A k did pid hid N logs T (m + 2 * i) (allocsG gs i).2 y)
    (fun i y z => EffOK Tryz.prog 8 (off + 1000) y.1 y.2 [.c (.ptr pid 0)] (.tup [.c (.d (.lit (.int .i64 ((firstQ (pgAt (allocsG gs i).2 0) (allocsG gs i).2.length : Nat) : Int)))), .c (.d (.lit (.int .i64 0)))]) z.1 z.2) (H, A)
    ⟨h, fun _ h => h, fun _ h => h⟩ (need s.length) (fun i y hi hv => by
      obtain ⟨ti, _⟩ := allocsG_took hg (k := i) (by omega)
      have hc := ti.cnt
      have hn := (allocsG_took hg (k := i) (by omega)).2
      obtain ⟨q1, q2, q3⟩ := firstQ_ok (gs := (allocsG gs i).2) (by omega)
      exact hv.next (Tryz.hAlloc (off + 1000) hv.hy _ q2 q1 q3))
  generalize hM : need s.length = M at *
  have hv1 := (hf1 M (Nat.le_refl _)).1
  have hids : ∀ t, t < M → (allocsG gs M).1.getD t 0 ≠ 0 ∧ (allocsG gs M).1.getD t 0 < gs.length := fun t ht => by
    have hm : (allocsG gs M).1.getD t 0 ∈ (allocsG gs M).1 := by
      rw [List.getD_eq_getElem?_getD, List.getElem?_eq_getElem (by omega)]
      exact List.getElem_mem _
    obtain ⟨a, b, _⟩ := tl.all _ hm
    exact ⟨b, a⟩
  obtain ⟨f2, f20, hf2⟩ := seq_ex (fun i y => HV H A k did pid hid N logs T (m + 2 * M + i) (writesG (allocsG gs M).2 (allocsG gs M).1 s i) y)
    (fun i y z => EffOK Tryz.prog 10 (off + 1000) y.1 y.2 [.c (.ptr pid 0), pD (.lit (.int .i64 (((allocsG gs M).1.getD i 0 : Nat) : Int))), pD (dS (cell ((allocsG gs M).1.getD (i + 1) 0) (partH s i)))] (pD (.lit (.int .i64 0))) z.1 z.2) (f1 M)
    hv1 M (fun i y hi hv => by
      obtain ⟨q1, q2⟩ := hids i hi
      obtain ⟨_, w2, _⟩ := writes_ok tl.ok (ids := (allocsG gs M).1) (s := s) (fun q hq => by obtain ⟨a, b, _⟩ := tl.all q hq; exact ⟨b, by rw [tl.len]; exact a⟩) tl.nodup (i := i) (by omega)
      exact hv.next (Tryz.hWrite (off + 1000) hv.hy _ q1 (by rw [w2, tl.len]; exact q2) _ (by rw [cell_len]; unfold partH; rw [List.length_take]; omega)))
  have hv2 := (hf2 M (Nat.le_refl _)).1
  refine ⟨(f2 M).1, (f2 M).2, ?_, hv2.hy.mono (by omega), hv2.kh, hv2.ka⟩
  refine effr_ok (E := envOf Tryz.prog [74, 47, 14, 75, 8, 10] off [] []) (envOf_ok Tryz.mixed) Tryz.func41 rfl Tryz.call41 (by kernel_rfl) (by exact Nat.le_of_ble_eq_true rfl) (fun _ => ?_)
  have c1 : (100000 < (s.length : Int)) = False := eq_false (by omega)
  have c2 : ((frG gs : Int) < (M : Int)) = False := eq_false (by omega)
  obtain ⟨n1, n2, n3⟩ := need_ge s.length
  have ll : (bsD (lsK M s)).length = M := by rw [bsD_len, ← prH_all, prH_len]
  repeat' (first
   |with_reducible first|refine vSq fun K hK=>?_|refine vRg ?_|refine vBl ?_|refine vSc ?_|refine vIf ?_|refine vSk ?_|refine vEx ?_|refine vRt ?_
   |(with_reducible first|refine gNt (fun h=>?_) (fun h=>?_)|refine gCs (fun h=>?_) (fun h=>?_))<;>(try simp only[h])
   |refine C_call rfl kt rfl (Above_mono hab (by omega)) ?_
   |refine C_call rfl kf rfl (Above_mono hab (by omega)) ?_
   |refine C_call rfl kn rfl (Above_mono hab (by omega)) ?_
   |refine C_call rfl kp rfl (Above_mono hab (by omega)) ?_
   |with_reducible first|(refine hK _ ?_;clear hK K)|(clear hK K;refine hK _ ?_;clear hK K)|(clear hK K;clear hK K;refine hK _ ?_;clear hK K)|(clear hK K;clear hK K;clear hK K;refine hK _ ?_;clear hK K)
   |(with_reducible refine todo ?_;simp +decide only[go_sem, hh, c1, c2, ll]))
  have abv : ∀ {X : HMap} {Y : AMap} {m : Nat} {g : List (List UInt8)}, HY X Y k did pid hid N logs T m g → Wf X Y ∧ X hid = some [.ptr pid 0] ∧ X hid ≠ none ∧ X pid ≠ none ∧ Above off X Y := fun hx => by
    obtain ⟨a, b, c, d, _, _, _, _, e⟩ := hx.nums
    exact ⟨a, c, e, d, Above_mono b (by omega)⟩
  have hids0 : (allocsG gs 0).1 = [] := rfl
  refine VC_range M (fun _ => True) (fun i => overA [(0, .c (.ptr hid 0)), (6, .c (.d (.sl (bsD (lsK M s))))), (7, .c (.own (off + 49, 0) (ints (idsI (allocsG gs i).1)))), (35, pD (.lit (.int .i64 M))), (36, pD (.lit (.int .i64 i)))] []
    [((off + 49, 0), .co 1 i)] (f1 i).1 (f1 i).2) True.intro ?_ ?_
  · have ha : A (off + 49, 0) = none := (hab _ (Nat.le_add_right _ _)).2 _
    have hptr : ∀ {X Y : AMap}, PV.wk (hOver [] H) X Y (.c (.ptr hid 0)) (.c (.ptr hid 0)) = True := eq_true (wkP_ptr hne)
    rw [f10]
    refine Weak_overA hw kp_refl (fun _ _ => rfl) (fun q hq => by rw [List.mem_singleton.1 hq]; exact ha) ?_ ?_ ?_ (fun _ h => h) (fun _ h => h)
    · simp +decide only [go_sem, hptr]
      exact wkP_new ha (sz := 1) (if_pos rfl)
    · simp +decide only [go_sem]
    · simp +decide only [go_sem, ha]
  · intro i hi _
    have hvi := (hf1 i hi).1
    obtain ⟨wi, hhi, hni, hpi, abi⟩ := abv hvi.hy
    have ai : (f1 i).2 (off + 49, 0) = none := (abi _ (Nat.le_add_right _ _)).2 _
    have hil : (ints (idsI (allocsG gs i).1)).length = i := by rw [idsI_len, (allocsG_took hg (k := i) (by omega)).2]
    rcases Nat.lt_or_ge i M with hi2 | hi2
    · have hc := int_lt_true hi2
      have hnx := int_next hi2 (by omega)
      have hv' := (hf1 (i + 1) hi2).1
      obtain ⟨w', hh', hn', hp', ab'⟩ := abv hv'.hy
      have a' : (f1 (i + 1)).2 (off + 49, 0) = none := (ab' _ (Nat.le_add_right _ _)).2 _
      have ka := eff_frameA (κ := (off + 49, 0)) (ar := .co 1 i) ((hf1 i hi).2 hi2) wi (oksP (l := []) hpi) ai a'
      have abi' : Above (off + 1000) (f1 i).1 (upd (f1 i).2 (off + 49, 0) (some (.co 1 i))) := Above_updA (Above_mono abi (by omega)) (by show off + 49 < off + 1000; omega)
      have hptr : ∀ {X Y : AMap}, PV.wk (hOver [] (f1 (i + 1)).1) X Y (.c (.ptr hid 0)) (.c (.ptr hid 0)) = True := eq_true (wkP_ptr hn')
      have e3 : ints (idsI (allocsG gs (i + 1)).1) = ints (idsI (allocsG gs i).1) ++ [[.lit (.int .i64 ((firstQ (pgAt (allocsG gs i).2 0) (allocsG gs i).2.length : Nat) : Int))]] := by
        show ints (idsI (_ ++ _)) = _
        rw [idsI_app, ints_app]; rfl
      have hszL := szd_ints (idsI (allocsG gs i).1)
      generalize firstQ (pgAt (allocsG gs i).2 0) (allocsG gs i).2.length = q at *
      generalize ints (idsI (allocsG gs i).1) = L at *
      repeat' (first
       |with_reducible first|refine vSq fun K hK=>?_|refine vRg ?_|refine vBl ?_|refine vSc ?_|refine vIf ?_|refine vSk ?_|refine vEx ?_|refine vRt ?_
       |(with_reducible first|refine gNt (fun h=>?_) (fun h=>?_)|refine gCs (fun h=>?_) (fun h=>?_))<;>(try simp only[h])
       |refine C_call rfl ka rfl abi' ?_
       |(refine W_own Tryz.appI rfl hszL (szOne rfl) (by rw [hil]; simp only [List.length_singleton]; omega) (by rw [hil]; exact upd_same _ _ _) ?_)
       |with_reducible first|(refine hK _ ?_;clear hK K)|(clear hK K;refine hK _ ?_;clear hK K)|(clear hK K;clear hK K;refine hK _ ?_;clear hK K)|(clear hK K;clear hK K;clear hK K;refine hK _ ?_;clear hK K)
       |(with_reducible refine todo ?_;simp +decide only[go_sem, hc, hnx, hhi]))
      refine Next_of hi2 True.intro (Weak_overA w' kp_nil (fun κ hκ => ?_) (fun q hq => by rw [List.mem_singleton.1 hq]; exact a') ?_ ?_ ?_ hv'.kh hv'.ka)
      · have hne' : κ ≠ (off + 49, 0) := fun e => hκ (by rw [e]; exact a')
        simp +decide only [go_sem, upd_twice]
        exact upd_other _ _ hne'
      · simp +decide only [go_sem, hptr, e3]
        exact wkP_own (by rw [aOver_hd]; simp) (by rw [upd_same, hil]; exact aOver_hd)
      · simp +decide only [go_sem]
      · simp +decide only [go_sem, hil]
    · have hc := int_lt_false hi2
      have hie : i = M := by omega
      subst hie
      have hszL := szd_ints (idsI (allocsG gs i).1)
      have e4 : ints (idsI ((allocsG gs i).1 ++ [0])) = ints (idsI (allocsG gs i).1) ++ [[.lit (.int .i64 0)]] := by
        rw [idsI_app, ints_app]; rfl
      have hll := idsI_len ((allocsG gs i).1 ++ [0])
      rw [List.length_append, tn, List.length_singleton] at hll
      have e5 := fun t ht => idsI_get ((allocsG gs i).1 ++ [0]) t ht
      have e6 : ∀ t, t < i + 1 → ((allocsG gs i).1 ++ [0]).getD t 0 = (allocsG gs i).1.getD t 0 := fun t ht => by
        rw [List.getD_eq_getElem?_getD, List.getD_eq_getElem?_getD]
        by_cases e : t < i
        · rw [List.getElem?_append_left (by omega)]
        · rw [show t = (allocsG gs i).1.length by omega, List.getElem?_concat_length, List.getElem?_eq_none (Nat.le_refl _)]; rfl
      rw [e4] at e5 hll
      generalize hL : ints (idsI (allocsG gs i).1) = L at *
      repeat' (first
       |with_reducible first|refine vSq fun K hK=>?_|refine vRg ?_|refine vBl ?_|refine vSc ?_|refine vIf ?_|refine vSk ?_|refine vEx ?_|refine vRt ?_
       |(with_reducible first|refine gNt (fun h=>?_) (fun h=>?_)|refine gCs (fun h=>?_) (fun h=>?_))<;>(try simp only[h])
       |(refine W_own Tryz.appI rfl hszL (szOne rfl) (by rw [hil]; simp only [List.length_singleton]; omega) (by rw [hil]; exact aOver_hd) ?_)
       |with_reducible first|(refine hK _ ?_;clear hK K)|(clear hK K;refine hK _ ?_;clear hK K)|(clear hK K;clear hK K;refine hK _ ?_;clear hK K)|(clear hK K;clear hK K;clear hK K;refine hK _ ?_;clear hK K)
       |(with_reducible refine todo ?_;simp +decide only[go_sem, hc, ll]))
      refine VC_range i (fun _ => True) (fun j => overA [(0, .c (.ptr hid 0)), (7, .c (.own (off + 49, 0) (L ++ [[.lit (.int .i64 0)]]))), (54, .c (.d (.sl (bsD (lsK i s))))), (55, pD (.lit (.int .i64 i))), (56, pD (.lit (.int .i64 j)))] []
        [((off + 49, 0), .co 1 (i + 1))] (f2 j).1 (f2 j).2) True.intro ?_ ?_
      · have hptr : ∀ {X Y : AMap}, PV.wk (hOver [] (f1 i).1) X Y (.c (.ptr hid 0)) (.c (.ptr hid 0)) = True := eq_true (wkP_ptr hni)
        rw [f20]
        refine Weak_overA wi kp_refl (fun κ hκ => ?_) (fun q hq => by rw [List.mem_singleton.1 hq]; exact ai) ?_ ?_ ?_ hvi.kh hvi.ka
        · have hne' : κ ≠ (off + 49, 0) := fun e => hκ (by rw [e]; exact ai)
          show upd _ _ _ κ = _
          rw [upd_other _ _ hne']
          exact if_neg hne'
        · simp +decide only [go_sem, hptr]
          exact wkP_own (by rw [aOver_hd]; simp) (by rw [upd_same, hil]; exact aOver_hd)
        · simp +decide only [go_sem]
        · simp +decide only [go_sem, hil]
      · intro j hj _
        have hvj := (hf2 j hj).1
        obtain ⟨wj, hhj, hnj, hpj, abj⟩ := abv hvj.hy
        have aj : (f2 j).2 (off + 49, 0) = none := (abj _ (Nat.le_add_right _ _)).2 _
        have aj8 : (f2 j).2 (off + 80, 0) = none := (abj _ (Nat.le_add_right _ _)).2 _
        rcases Nat.lt_or_ge j i with hj2 | hj2
        · have hc := int_lt_true hj2
          have hnx := int_next hj2 (by omega)
          have hv' := (hf2 (j + 1) hj2).1
          obtain ⟨w', hh', hn', hp', ab'⟩ := abv hv'.hy
          have a' : (f2 (j + 1)).2 (off + 49, 0) = none := (ab' _ (Nat.le_add_right _ _)).2 _
          have a8' : (f2 (j + 1)).2 (off + 80, 0) = none := (ab' _ (Nat.le_add_right _ _)).2 _
          have nk : (off + 80, 0) ≠ ((off + 49, 0) : Tok) := tok_ne (by show off + 80 ≠ off + 49; omega)
          have kw := eff_frameA (κ := (off + 49, 0)) (ar := .co 1 (i + 1)) ((hf2 j hj).2 hj2) wj (oksP (l := [_, _]) hpj) aj a'
          have kw := eff_frameA (κ := (off + 80, 0)) (ar := .co 1 ([[D.lit (.int .u8 (((UInt8.ofNat (partH s j).length).toNat : Nat) : Int))]] ++ bytesEls (partH s j)).length) kw (Wf_arr wj upd_keep) (oksP (l := [_, _]) hpj) (by rw [upd_other _ _ nk]; exact aj8) (by rw [upd_other _ _ nk]; exact a8')
          have hptr : ∀ {X Y : AMap}, PV.wk (hOver [] (f2 (j + 1)).1) X Y (.c (.ptr hid 0)) (.c (.ptr hid 0)) = True := eq_true (wkP_ptr hn')
          have g0 : (bsD (lsK i s))[j]? = some [.sl (bytesEls (partH s j))] := by
            rw [← prH_all]
            unfold bsD prH
            rw [List.map_map, List.getElem?_map, List.getElem?_range hj2]; rfl
          have g1 := e5 j (by rw [List.length_append, List.length_singleton]; omega)
          have g2 := e5 (j + 1) (by rw [List.length_append, List.length_singleton]; omega)
          rw [e6 j (by omega)] at g1
          rw [e6 (j + 1) (by omega)] at g2
          have hpl : (partH s j).length ≤ 125 := by unfold partH; rw [List.length_take]; omega
          have c8 := u8_small (n := (partH s j).length) (by omega)
          have hbl := bytesEls_length (partH s j)
          have h2i : (allocsG gs i).1.getD (j + 1) 0 < 65536 := by
            rcases Nat.lt_or_ge (j + 1) i with h | h
            · have := (hids (j + 1) h).2; omega
            · rw [List.getD_eq_getElem?_getD, List.getElem?_eq_none (by omega)]; exact Nat.zero_lt_succ _
          have k2 := Tryz.kTwo ((allocsG gs i).1.getD (j + 1) 0) h2i
          unfold cell at kw
          have htw : (two ((allocsG gs i).1.getD (j + 1) 0)).length = 2 := rfl
          generalize two ((allocsG gs i).1.getD (j + 1) 0) = tw at *
          generalize (allocsG gs i).1.getD (j + 1) 0 = nx at *
          generalize (allocsG gs i).1.getD j 0 = cu at *
          generalize partH s j = b at *
          generalize UInt8.ofNat b.length = x8 at *
          have hone : [D.lit (.int .u8 ((x8.toNat : Nat) : Int))] :: bytesEls b = bytesEls (x8 :: b) := rfl
          generalize L ++ [[D.lit (.int .i64 0)]] = L2 at *
          have o74 : ∀ q, aOver [((off + 49, 0), Arr.co 1 (i + 1))] (f2 j).2 (off + 74, q) = none := fun q => (if_neg (fun e => absurd (congrArg Prod.fst e) (by show off + 74 ≠ off + 49; omega))).trans ((abj _ (Nat.le_add_right _ _)).2 q)
          have o80 : aOver [((off + 49, 0), Arr.co 1 (i + 1))] (f2 j).2 (off + 80, 0) = none := (if_neg nk).trans aj8
          have abj' : ∀ ar, Above (off + 1000) (f2 j).1 (upd (upd (f2 j).2 (off + 49, 0) (some (.co 1 (i + 1)))) (off + 80, 0) (some ar)) := fun _ => Above_updA (Above_updA (Above_mono abj (by omega)) (by show off + 49 < off + 1000; omega)) (by show off + 80 < off + 1000; omega)
          have s1 : (tw.length + (b.length + 1) ≤ 9223372036854775807) = True := eq_true (by omega)
          repeat' (first
           |with_reducible first|refine vSq fun K hK=>?_|refine vRg ?_|refine vBl ?_|refine vSc ?_|refine vIf ?_|refine vSk ?_|refine vEx ?_|refine vRt ?_
           |(with_reducible first|refine gNt (fun h=>?_) (fun h=>?_)|refine gCs (fun h=>?_) (fun h=>?_))<;>(try simp only[h])
           |refine C_pure k2 rfl rfl o74 ?_
           |(refine W_full Tryz.appBytes rfl rfl (szOne rfl) (szBytes _) (by show (1 + (bytesEls b).length) * 1 ≤ _; omega) o80 ?_)
           |refine C_call rfl kw rfl (abj' _) ?_
           |with_reducible first|(refine hK _ ?_;clear hK K)|(clear hK K;refine hK _ ?_;clear hK K)|(clear hK K;clear hK K;refine hK _ ?_;clear hK K)|(clear hK K;clear hK K;clear hK K;refine hK _ ?_;clear hK K)
           |(with_reducible refine todo ?_;simp +decide only[go_sem, hc, hnx, hhj, g0, g1, g2, hbl, c8, hone, s1]))
          refine Next_of hj2 True.intro (Weak_overA w' kp_nil (fun κ hκ => ?_) (fun q hq => by rw [List.mem_singleton.1 hq]; exact a') ?_ ?_ ?_ hv'.kh hv'.ka)
          · have hne' : κ ≠ (off + 49, 0) := fun e => hκ (by rw [e]; exact a')
            have hne8 : κ ≠ (off + 80, 0) := fun e => hκ (by rw [e]; exact a8')
            show upd (upd _ _ _) _ _ κ = _
            rw [upd_other _ _ hne8, upd_other _ _ hne']
          · simp +decide only [go_sem, hptr]
            exact wkP_own (by rw [aOver_hd]; simp) (by rw [upd_other _ _ nk.symm, upd_same]; exact aOver_hd)
          · simp +decide only [go_sem]
          · simp +decide only [go_sem, upd_other _ _ nk.symm]
        · have hc := int_lt_false hj2
          have hje : j = i := by omega
          subst hje
          have g1 := e5 0 (by rw [List.length_append, List.length_singleton]; omega)
          rw [e6 0 (by omega)] at g1
          generalize L ++ [[D.lit (.int .i64 0)]] = L2 at *
          repeat' (first
           |with_reducible first|refine vSq fun K hK=>?_|refine vRg ?_|refine vBl ?_|refine vSc ?_|refine vIf ?_|refine vSk ?_|refine vEx ?_|refine vRt ?_
           |(with_reducible first|refine gNt (fun h=>?_) (fun h=>?_)|refine gCs (fun h=>?_) (fun h=>?_))<;>(try simp only[h])
           |with_reducible first|(refine hK _ ?_;clear hK K)|(clear hK K;refine hK _ ?_;clear hK K)|(clear hK K;clear hK K;refine hK _ ?_;clear hK K)|(clear hK K;clear hK K;clear hK K;refine hK _ ?_;clear hK K)
           |(with_reducible refine todo ?_;simp +decide only[go_sem, hc, g1]))
          exact RetR_sub rfl wk_pair oks_pair wj kp_nil (fun κ hκ => if_neg (fun e => hκ (by rw [e]; exact aj))) hvj.kh hvj.ka
set_option maxRecDepth 8000 in
set_option maxHeartbeats 8000000 in
theorem Tryz.hPutBig (off : Nat) (h : HY H A k did pid hid N logs T m gs) (s : List UInt8) (hs : 100000 < s.length) : EffOK Tryz.prog 41 off H A [.c (.ptr hid 0), pD (dS s)] (.tup [.c (.d (.lit (.int .i64 0))), .c (.d (.lit (.int .i64 19)))]) H A := by
  refine effr_ok (E := envOf Tryz.prog [74, 47, 14, 75, 8, 10] off [] []) (envOf_ok Tryz.mixed) Tryz.func41 rfl Tryz.call41 (by kernel_rfl) (by exact Nat.le_of_ble_eq_true rfl) (fun hab => ?_)
  obtain ⟨hw, hab0, hh, hp, hg, hl, hk, hpk, hne⟩ := h.nums
  have kt := Tryz.hThere (off + 1000) h
  have c1 : (100000 < (s.length : Int)) = True := eq_true (by omega)
  repeat' (first
   |with_reducible first|refine vSq fun K hK=>?_|refine vRg ?_|refine vBl ?_|refine vSc ?_|refine vIf ?_|refine vSk ?_|refine vEx ?_|refine vRt ?_
   |(with_reducible first|refine gNt (fun h=>?_) (fun h=>?_)|refine gCs (fun h=>?_) (fun h=>?_))<;>(try simp only[h])
   |refine C_call rfl kt rfl (Above_mono hab (by omega)) ?_
   |with_reducible first|(refine hK _ ?_;clear hK K)|(clear hK K;refine hK _ ?_;clear hK K)|(clear hK K;clear hK K;refine hK _ ?_;clear hK K)|(clear hK K;clear hK K;clear hK K;refine hK _ ?_;clear hK K)
   |(with_reducible refine todo ?_;simp +decide only[go_sem, c1]))
  exact RetR_same rfl wk_pair oks_pair hw kp_refl (fun _ _ => rfl)
set_option maxRecDepth 8000 in
set_option maxHeartbeats 8000000 in
theorem Tryz.hPutFull (off : Nat) (h : HY H A k did pid hid N logs T m gs) (s : List UInt8) (hs : s.length ≤ 100000) (hf : frG gs < need s.length) : EffOK Tryz.prog 41 off H A [.c (.ptr hid 0), pD (dS s)] (.tup [.c (.d (.lit (.int .i64 0))), .c (.d (.lit (.int .i64 3)))]) H A := by
  refine effr_ok (E := envOf Tryz.prog [74, 47, 14, 75, 8, 10] off [] []) (envOf_ok Tryz.mixed) Tryz.func41 rfl Tryz.call41 (by kernel_rfl) (by exact Nat.le_of_ble_eq_true rfl) (fun hab => ?_)
  obtain ⟨hw, hab0, hh, hp, hg, hl, hk, hpk, hne⟩ := h.nums
  have kt := Tryz.hThere (off + 1000) h
  have kf := Tryz.hFrees (off + 1000) h
  have kn := Tryz.hNeed (off + 1000) h (s.length : Int)
  rw [needI_nat hs] at kn
  have c1 : (100000 < (s.length : Int)) = False := eq_false (by omega)
  have c2 : ((frG gs : Int) < (need s.length : Int)) = True := eq_true (by omega)
  repeat' (first
   |with_reducible first|refine vSq fun K hK=>?_|refine vRg ?_|refine vBl ?_|refine vSc ?_|refine vIf ?_|refine vSk ?_|refine vEx ?_|refine vRt ?_
   |(with_reducible first|refine gNt (fun h=>?_) (fun h=>?_)|refine gCs (fun h=>?_) (fun h=>?_))<;>(try simp only[h])
   |refine C_call rfl kt rfl (Above_mono hab (by omega)) ?_
   |refine C_call rfl kf rfl (Above_mono hab (by omega)) ?_
   |refine C_call rfl kn rfl (Above_mono hab (by omega)) ?_
   |with_reducible first|(refine hK _ ?_;clear hK K)|(clear hK K;refine hK _ ?_;clear hK K)|(clear hK K;clear hK K;refine hK _ ?_;clear hK K)|(clear hK K;clear hK K;clear hK K;refine hK _ ?_;clear hK K)
   |(with_reducible refine todo ?_;simp +decide only[go_sem, hh, c1, c2]))
  exact RetR_same rfl wk_pair oks_pair hw kp_refl (fun _ _ => rfl)
def putV (r : Nat × Int × List (List UInt8)) : PV := .tup [.c (.d (.lit (.int .i64 ((r.1 : Nat) : Int)))), .c (.d (.lit (.int .i64 r.2.1)))]
theorem Tryz.hPut (off : Nat) (h : HY H A k did pid hid N logs T m gs) (hko : hid < off) (s : List UInt8) :
    HSO off Tryz.prog 41 H A [.c (.ptr hid 0), pD (dS s)] (putV (putG gs s)) k did pid hid N logs T (m + 3 * need s.length) (putG gs s).2.2 := by
  unfold putG
  by_cases h1 : 100000 < s.length
  · rw [if_pos h1]
    exact ⟨H, A, Tryz.hPutBig off h s h1, h.mono (by omega), fun _ h => h, fun _ h => h⟩
  · rw [if_neg h1]
    by_cases h2 : frG gs < need s.length
    · rw [if_pos h2]
      exact ⟨H, A, Tryz.hPutFull off h s (by omega) h2, h.mono (by omega), fun _ h => h, fun _ h => h⟩
    · rw [if_neg h2]
      exact Tryz.hPutGo off h hko s (by omega) (by omega)
end hy
end Go.Proofs
