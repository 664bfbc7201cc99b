/-
  Parts of the proof, laid together: PwNl, PwNm.
-/
import Derived.Test.YtjmempllnfonkaaGreatQ36
import Derived.Test.YtjmempllnfonkaaGreatQ31

namespace Go.Proofs
open Go.PW
section rh
variable {H : HMap} {A : AMap} {I : RI} {hid : Nat} {x : RS}
theorem isRec_no {gs : List (List UInt8)} {j : Int} (h : isRec gs j = false) : j < 2 ∨ (gs.length : Int) ≤ j ∨ (2 ≤ j ∧ j < (gs.length : Int) ∧ isFG gs j.toNat = true) := by
  unfold isRec at h
  by_cases h1 : j < 2
  · exact .inl h1
  · by_cases h2 : (gs.length : Int) ≤ j
    · exact .inr (.inl h2)
    · have e1 : decide (2 ≤ j) = true := by simpa using (by omega : 2 ≤ j)
      have e2 : decide (j < (gs.length : Int)) = true := by simpa using (by omega : j < (gs.length : Int))
      rw [e1, e2, Bool.true_and, Bool.true_and] at h
      exact .inr (.inr ⟨by omega, by omega, by simpa using h⟩)
theorem isRec_yes {gs : List (List UInt8)} {j : Int} (h : isRec gs j = true) : 2 ≤ j ∧ j < (gs.length : Int) ∧ isFG gs j.toNat = false := by
  unfold isRec at h
  simp only [Bool.and_eq_true, decide_eq_true_eq, Bool.not_eq_true'] at h
  exact ⟨h.1, h.2.1, h.2.2⟩
set_option maxRecDepth 8000 in
set_option maxHeartbeats 8000000 in
theorem Tryz.rRowNo (off : Nat) (hw : Wf H A) (h : RH H A I hid x) (id : Int) (hr : isRec x.1 id = false) : EffOK Tryz.prog 82 off H A [.c (.ptr hid 0), pD (.lit (.int .i64 id))] (rowV (rowG x.1 id)) H A := by
  rw [rowG_no hr]
  refine effr_ok (E := envOf Tryz.prog [34, 35, 19] off [] []) (envOf_ok Tryz.mixed) Tryz.func82 rfl Tryz.call82 (by kernel_rfl) (by exact Nat.le_of_ble_eq_true rfl) (fun hab => ?_)
  have hab' := Above_mono hab (Nat.le_add_right off 1000)
  have hh := h.hh
  have kl := Tryz.nLen (off + 1000) hw h.at_
  rcases isRec_no hr with h1 | h1 | ⟨h1, h2, h3⟩
  · have c1 : (id < 2) = True := eq_true h1
    repeat' (first
     |with_reducible first|refine vSq fun K hK=>?_|refine vRg ?_|refine vBl ?_|refine vSc ?_|refine vIf ?_|refine vSk ?_|refine vEx ?_|refine vRt ?_
     |(with_reducible first|refine gNt (fun h=>?_) (fun h=>?_)|refine gCs (fun h=>?_) (fun h=>?_))<;>(try simp only[h])
     |with_reducible first|(refine hK _ ?_;clear hK K)|(clear hK K;refine hK _ ?_;clear hK K)|(clear hK K;clear hK K;refine hK _ ?_;clear hK K)|(clear hK K;clear hK K;clear hK K;refine hK _ ?_;clear hK K)
     |(with_reducible refine todo ?_;simp +decide only[go_sem, c1]))
    exact RetR_same rfl wk_rowF oks_row hw kp_refl (fun _ _ => rfl)
  · by_cases h0 : id < 2
    · have c1 : (id < 2) = True := eq_true h0
      repeat' (first
       |with_reducible first|refine vSq fun K hK=>?_|refine vRg ?_|refine vBl ?_|refine vSc ?_|refine vIf ?_|refine vSk ?_|refine vEx ?_|refine vRt ?_
       |(with_reducible first|refine gNt (fun h=>?_) (fun h=>?_)|refine gCs (fun h=>?_) (fun h=>?_))<;>(try simp only[h])
       |with_reducible first|(refine hK _ ?_;clear hK K)|(clear hK K;refine hK _ ?_;clear hK K)|(clear hK K;clear hK K;refine hK _ ?_;clear hK K)|(clear hK K;clear hK K;clear hK K;refine hK _ ?_;clear hK K)
       |(with_reducible refine todo ?_;simp +decide only[go_sem, c1]))
      exact RetR_same rfl wk_rowF oks_row hw kp_refl (fun _ _ => rfl)
    · have c1 : (id < 2) = False := eq_false h0
      have c2 : ((x.1.length : Int) ≤ id) = True := eq_true h1
      repeat' (first
       |with_reducible first|refine vSq fun K hK=>?_|refine vRg ?_|refine vBl ?_|refine vSc ?_|refine vIf ?_|refine vSk ?_|refine vEx ?_|refine vRt ?_
       |(with_reducible first|refine gNt (fun h=>?_) (fun h=>?_)|refine gCs (fun h=>?_) (fun h=>?_))<;>(try simp only[h])
       |refine C_call rfl kl rfl hab' ?_
       |with_reducible first|(refine hK _ ?_;clear hK K)|(clear hK K;refine hK _ ?_;clear hK K)|(clear hK K;clear hK K;refine hK _ ?_;clear hK K)|(clear hK K;clear hK K;clear hK K;refine hK _ ?_;clear hK K)
       |(with_reducible refine todo ?_;simp +decide only[go_sem, hh, c1, c2]))
      exact RetR_same rfl wk_rowF oks_row hw kp_refl (fun _ _ => rfl)
  · obtain ⟨q, rfl⟩ : ∃ q : Nat, id = (q : Int) := ⟨id.toNat, by omega⟩
    have ki := Tryz.nIsFree (off + 1000) hw h.at_ q (by omega)
    rw [Int.toNat_natCast] at h3
    rw [h3] at ki
    have c1 : ((q : Int) < 2) = False := eq_false (by omega)
    have c2 : ((x.1.length : Int) ≤ (q : Int)) = False := eq_false (by omega)
    repeat' (first
     |with_reducible first|refine vSq fun K hK=>?_|refine vRg ?_|refine vBl ?_|refine vSc ?_|refine vIf ?_|refine vSk ?_|refine vEx ?_|refine vRt ?_
     |(with_reducible first|refine gNt (fun h=>?_) (fun h=>?_)|refine gCs (fun h=>?_) (fun h=>?_))<;>(try simp only[h])
     |refine C_call rfl kl rfl hab' ?_
     |refine C_call rfl ki rfl hab' ?_
     |with_reducible first|(refine hK _ ?_;clear hK K)|(clear hK K;refine hK _ ?_;clear hK K)|(clear hK K;clear hK K;refine hK _ ?_;clear hK K)|(clear hK K;clear hK K;clear hK K;refine hK _ ?_;clear hK K)
     |(with_reducible refine todo ?_;simp +decide only[go_sem, hh, c1, c2]))
    exact RetR_same rfl wk_rowF oks_row hw kp_refl (fun _ _ => rfl)
set_option maxRecDepth 8000 in
set_option maxHeartbeats 32000000 in
theorem Tryz.rRow (off : Nat) (hw : Wf H A) (h : RH H A I hid x) (id : Int) : EffOK Tryz.prog 82 off H A [.c (.ptr hid 0), pD (.lit (.int .i64 id))] (rowV (rowG x.1 id)) H A := by
  cases hr : isRec x.1 id with
  | false => exact Tryz.rRowNo off hw h id hr
  | true =>
    refine effr_ok (E := envOf Tryz.prog [34, 35, 19] off [] []) (envOf_ok Tryz.mixed) Tryz.func82 rfl Tryz.call82 (by kernel_rfl) (by exact Nat.le_of_ble_eq_true rfl) (fun hab => ?_)
    have hab' := Above_mono hab (Nat.le_add_right off 1000)
    have hh := h.hh
    have hne := h.h0
    have hp := h.at_.p0
    have hg := h.g
    have hg2 := hg.big
    have kl := Tryz.nLen (off + 1000) hw h.at_
    have ki := fun j hj => Tryz.nIsFree (off + 1000) hw h.at_ j hj
    have kr := fun j hj => Tryz.nRead (off + 1000) hw h.at_ j hj
    have ha : A (off + 92, 0) = none := (hab _ (Nat.le_add_right _ _)).2 _
    obtain ⟨r1, r2, r3⟩ := isRec_yes hr
    obtain ⟨q, rfl⟩ : ∃ q : Nat, id = (q : Int) := ⟨id.toNat, by omega⟩
    rw [Int.toNat_natCast] at r3
    have ki0 := ki q (by omega)
    rw [r3] at ki0
    have k1 : ((q : Int) < 2) = False := eq_false (by omega)
    have k2 : ((x.1.length : Int) ≤ (q : Int)) = False := eq_false (by omega)
    have hR : rowG x.1 (q : Nat) = rowK x.1 (x.1.length + 3) q [] [] := by
      unfold rowG
      rw [if_neg (by rw [hr]; simp), Int.toNat_natCast]
    rw [hR]
    have hptr : ∀ {X Y : AMap}, PV.wk (hOver [] H) X Y (.c (.ptr hid 0)) (.c (.ptr hid 0)) = True := eq_true (wkP_ptr (by show H hid ≠ none; exact hne))
    have rowK_eq : ∀ f at_ pages s, rowK x.1 (f + 1) at_ pages s = if at_ = 0 then (pages, s, 0) else if isRec x.1 (at_ : Nat) = false ∨ x.1.length < pages.length then ([], [], 7)
        else if 125 < lenOf (pgAt x.1 at_) ∨ (0 < nextOf (pgAt x.1 at_) ∧ lenOf (pgAt x.1 at_) < 125) then ([], [], 7)
        else rowK x.1 f (nextOf (pgAt x.1 at_)) (pages ++ [at_]) (s ++ ((pgAt x.1 at_).drop 3).take (lenOf (pgAt x.1 at_))) := fun _ _ _ _ => rfl
    have hap := h.at_
    generalize hRR : rowK x.1 (x.1.length + 3) q [] [] = R at *
    generalize hgs : x.1 = gs at *
    repeat' (first
     |with_reducible first|refine vSq fun K hK=>?_|refine vRg ?_|refine vBl ?_|refine vSc ?_|refine vIf ?_|refine vSk ?_|refine vEx ?_|refine vRt ?_
     |(with_reducible first|refine gNt (fun h=>?_) (fun h=>?_)|refine gCs (fun h=>?_) (fun h=>?_))<;>(try simp only[h])
     |refine C_call rfl kl rfl hab' ?_
     |refine C_call rfl ki0 rfl hab' ?_
     |with_reducible first|(refine hK _ ?_;clear hK K)|(clear hK K;refine hK _ ?_;clear hK K)|(clear hK K;clear hK K;refine hK _ ?_;clear hK K)|(clear hK K;clear hK K;clear hK K;refine hK _ ?_;clear hK K)
     |(with_reducible refine todo ?_;simp +decide only[go_sem, hh, k1, k2]))
    refine VC_while (ι := Nat × Nat × List Nat × List UInt8) (fun x => rowK gs x.1 x.2.1 x.2.2.1 x.2.2.2 = R ∧ x.1 + x.2.2.1.length = gs.length + 3 ∧ x.2.2.2.length ≤ 125 * x.2.2.1.length ∧ x.2.1 < 65536 ∧ x.2.2.1.length ≤ gs.length + 1)
      (fun x => overA [(0, .c (.ptr hid 0)), (7, .c (.own (off + 92, 0) (ints (idsI x.2.2.1)))), (8, pD (dS x.2.2.2)), (9, pD (.lit (.int .i64 (x.2.1 : Nat))))] [] [((off + 92, 0), .co 1 x.2.2.1.length)] H A) (fun x => x.1) (gs.length + 3, q, [], []) ⟨hRR, rfl, Nat.le_refl _, ?_, Nat.zero_le _⟩ ?_ ?_
    · show q < 65536
      omega
    · refine Weak_overA hw kp_refl (fun _ _ => rfl) (fun p hp => by rw [List.mem_singleton.1 hp]; exact ha) ?_ ?_ ?_ (fun _ h => h) (fun _ h => h)
      · simp +decide only [go_sem, hptr]
        exact wkP_new ha (sz := 1) (if_pos rfl)
      · simp +decide only [go_sem]
      · simp +decide only [go_sem, ha]
    · rintro ⟨f, at_, pages, s⟩ ⟨i1, i2, i3, i4, i5⟩
      simp only at i1 i2 i3 i4 i5
      have hfr : ∀ κ, A κ ≠ none → aOver [((off + 92, 0), Arr.co 1 pages.length)] A κ = A κ := fun κ hκ => if_neg (fun e => hκ (by rw [e]; exact ha))
      obtain ⟨f, rfl⟩ : ∃ g, f = g + 1 := ⟨f - 1, by omega⟩
      rw [rowK_eq] at i1
      by_cases e0 : at_ = 0
      · subst e0
        rw [if_pos rfl] at i1
        subst i1
        repeat' (first
         |with_reducible first|refine vSq fun K hK=>?_|refine vRg ?_|refine vBl ?_|refine vSc ?_|refine vIf ?_|refine vSk ?_|refine vEx ?_|refine vRt ?_
         |(with_reducible first|refine gNt (fun h=>?_) (fun h=>?_)|refine gCs (fun h=>?_) (fun h=>?_))<;>(try simp only[h])
         |with_reducible first|(refine hK _ ?_;clear hK K)|(clear hK K;refine hK _ ?_;clear hK K)|(clear hK K;clear hK K;refine hK _ ?_;clear hK K)|(clear hK K;clear hK K;clear hK K;refine hK _ ?_;clear hK K)
         |(with_reducible refine todo ?_;simp +decide only[go_sem, zne]))
        exact RetR_same rfl wk_row oks_row hw kp_nil hfr
      · have z1 : ((at_ : Int) != 0) = true := by rw [bne_iff_ne]; omega
        rw [if_neg e0] at i1
        have hil := idsI_len pages
        have hszL := szd_ints (idsI pages)
        have e3 : ints (idsI (pages ++ [at_])) = ints (idsI pages) ++ [[.lit (.int .i64 (at_ : Nat))]] := by rw [idsI_app, ints_app]; rfl
        have kl1 := eff_frameA (κ := (off + 92, 0)) (ar := .co 1 pages.length) kl hw (oksP (l := []) hp) ha ha
        have abf : Above (off + 1000) H (upd A (off + 92, 0) (some (.co 1 pages.length))) := Above_updA hab' (by show off + 92 < off + 1000; omega)
        cases er : isRec gs (at_ : Nat) with
        | false =>
          rw [if_pos (.inl er)] at i1
          subst i1
          by_cases y1 : at_ < 2
          · have d1 : ((at_ : Int) < 2) = True := eq_true (by omega)
            repeat' (first
             |with_reducible first|refine vSq fun K hK=>?_|refine vRg ?_|refine vBl ?_|refine vSc ?_|refine vIf ?_|refine vSk ?_|refine vEx ?_|refine vRt ?_
             |(with_reducible first|refine gNt (fun h=>?_) (fun h=>?_)|refine gCs (fun h=>?_) (fun h=>?_))<;>(try simp only[h])
             |with_reducible first|(refine hK _ ?_;clear hK K)|(clear hK K;refine hK _ ?_;clear hK K)|(clear hK K;clear hK K;refine hK _ ?_;clear hK K)|(clear hK K;clear hK K;clear hK K;refine hK _ ?_;clear hK K)
             |(with_reducible refine todo ?_;simp +decide only[go_sem, z1, d1]))
            exact RetR_same rfl wk_rowF oks_row hw kp_nil hfr
          · have d1 : ((at_ : Int) < 2) = False := eq_false (by omega)
            by_cases y2 : gs.length ≤ at_
            · have d2 : ((gs.length : Int) ≤ (at_ : Int)) = True := eq_true (by omega)
              repeat' (first
               |with_reducible first|refine vSq fun K hK=>?_|refine vRg ?_|refine vBl ?_|refine vSc ?_|refine vIf ?_|refine vSk ?_|refine vEx ?_|refine vRt ?_
               |(with_reducible first|refine gNt (fun h=>?_) (fun h=>?_)|refine gCs (fun h=>?_) (fun h=>?_))<;>(try simp only[h])
               |refine C_call rfl kl1 rfl abf ?_
               |with_reducible first|(refine hK _ ?_;clear hK K)|(clear hK K;refine hK _ ?_;clear hK K)|(clear hK K;clear hK K;refine hK _ ?_;clear hK K)|(clear hK K;clear hK K;clear hK K;refine hK _ ?_;clear hK K)
               |(with_reducible refine todo ?_;simp +decide only[go_sem, hh, z1, d1, d2]))
              exact RetR_same rfl wk_rowF oks_row hw kp_nil hfr
            · have d2 : ((gs.length : Int) ≤ (at_ : Int)) = False := eq_false (by omega)
              have y3 : isFG gs at_ = true := by
                rcases isRec_no er with h | h | ⟨_, _, h⟩
                · omega
                · omega
                · rw [Int.toNat_natCast] at h; exact h
              have ki1 := eff_frameA (κ := (off + 92, 0)) (ar := .co 1 pages.length) (ki at_ (by omega)) hw (oksP (l := [_]) hp) ha ha
              rw [y3] at ki1
              repeat' (first
               |with_reducible first|refine vSq fun K hK=>?_|refine vRg ?_|refine vBl ?_|refine vSc ?_|refine vIf ?_|refine vSk ?_|refine vEx ?_|refine vRt ?_
               |(with_reducible first|refine gNt (fun h=>?_) (fun h=>?_)|refine gCs (fun h=>?_) (fun h=>?_))<;>(try simp only[h])
               |refine C_call rfl kl1 rfl abf ?_
               |refine C_call rfl ki1 rfl abf ?_
               |with_reducible first|(refine hK _ ?_;clear hK K)|(clear hK K;refine hK _ ?_;clear hK K)|(clear hK K;clear hK K;refine hK _ ?_;clear hK K)|(clear hK K;clear hK K;clear hK K;refine hK _ ?_;clear hK K)
               |(with_reducible refine todo ?_;simp +decide only[go_sem, hh, z1, d1, d2]))
              exact RetR_same rfl wk_rowF oks_row hw kp_nil hfr
        | true =>
          obtain ⟨y1, y2, y3⟩ := isRec_yes er
          rw [Int.toNat_natCast] at y3
          have hlt : at_ < gs.length := by omega
          have u1 : ((at_ : Int) < 2) = False := eq_false (by omega)
          have u2 : ((gs.length : Int) ≤ (at_ : Int)) = False := eq_false (by omega)
          have ki1 := eff_frameA (κ := (off + 92, 0)) (ar := .co 1 pages.length) (ki at_ hlt) hw (oksP (l := [_]) hp) ha ha
          rw [y3] at ki1
          by_cases e1 : gs.length < pages.length
          · rw [if_pos (.inr e1)] at i1
            subst i1
            have c1 : ((gs.length : Int) < (pages.length : Int)) = True := eq_true (by omega)
            repeat' (first
             |with_reducible first|refine vSq fun K hK=>?_|refine vRg ?_|refine vBl ?_|refine vSc ?_|refine vIf ?_|refine vSk ?_|refine vEx ?_|refine vRt ?_
             |(with_reducible first|refine gNt (fun h=>?_) (fun h=>?_)|refine gCs (fun h=>?_) (fun h=>?_))<;>(try simp only[h])
             |refine C_call rfl ki1 rfl abf ?_
             |refine C_call rfl kl1 rfl abf ?_
             |with_reducible first|(refine hK _ ?_;clear hK K)|(clear hK K;refine hK _ ?_;clear hK K)|(clear hK K;clear hK K;refine hK _ ?_;clear hK K)|(clear hK K;clear hK K;clear hK K;refine hK _ ?_;clear hK K)
             |(with_reducible refine todo ?_;simp +decide only[go_sem, hh, z1, u1, u2, hil, c1]))
            exact RetR_same rfl wk_rowF oks_row hw kp_nil hfr
          · rw [if_neg (by rw [er]; exact fun h => h.elim (fun h => by cases h) e1)] at i1
            have c1 : ((gs.length : Int) < (pages.length : Int)) = False := eq_false (by omega)
            have kr1 := eff_frameA (κ := (off + 92, 0)) (ar := .co 1 pages.length) (kr at_ hlt) hw (oksP (l := [_]) hp) ha ha
            have h128 := hg.len at_ hlt
            have nlt := nextOf_lt (pgAt gs at_)
            have llt := lenOf_lt (pgAt gs at_)
            have knn := Tryz.rNumber2 (pgAt gs at_) (by omega)
            have g2 : (pgAt gs at_)[2]? = some ((pgAt gs at_).getD 2 0) := by
              rw [List.getD_eq_getElem?_getD, List.getElem?_eq_getElem (by omega)]; rfl
            unfold nextOf lenOf at i1
            unfold nextOf at nlt
            unfold lenOf at llt
            have w2 : IntKind.i64.wrap ((((pgAt gs at_).getD 2 0).toNat : Nat) : Int) = ((((pgAt gs at_).getD 2 0).toNat : Nat) : Int) := Go.IntWalk.i64_in _ (by omega)
            generalize numB ((pgAt gs at_).getD 0 0) ((pgAt gs at_).getD 1 0) = nx at *
            generalize (pgAt gs at_).getD 2 0 = x2 at *
            generalize pgAt gs at_ = t at *
            generalize hn : x2.toNat = n at *
            have o78 : ∀ q, aOver [((off + 92, 0), Arr.co 1 pages.length)] A (off + 78, q) = none := fun q => (if_neg (fun e => absurd (congrArg Prod.fst e) (by show off + 78 ≠ off + 92; omega))).trans ((hab _ (Nat.le_add_right _ _)).2 q)
            by_cases b1 : 125 < n
            · have d1 : ((125 : Int) < (n : Int)) = True := eq_true (by omega)
              rw [if_pos (.inl b1)] at i1
              subst i1
              repeat' (first
               |with_reducible first|refine vSq fun K hK=>?_|refine vRg ?_|refine vBl ?_|refine vSc ?_|refine vIf ?_|refine vSk ?_|refine vEx ?_|refine vRt ?_
               |(with_reducible first|refine gNt (fun h=>?_) (fun h=>?_)|refine gCs (fun h=>?_) (fun h=>?_))<;>(try simp only[h])
               |refine C_call rfl ki1 rfl abf ?_
               |refine C_call rfl kl1 rfl abf ?_
               |refine C_call rfl kr1 rfl abf ?_
               |refine C_pure knn rfl rfl o78 ?_
               |with_reducible first|(refine hK _ ?_;clear hK K)|(clear hK K;refine hK _ ?_;clear hK K)|(clear hK K;clear hK K;refine hK _ ?_;clear hK K)|(clear hK K;clear hK K;clear hK K;refine hK _ ?_;clear hK K)
               |(with_reducible refine todo ?_;simp +decide only[go_sem, hh, z1, u1, u2, hil, c1, g2, hn, w2, d1]))
              exact RetR_same rfl wk_rowF oks_row hw kp_nil hfr
            · have d1 : ((125 : Int) < (n : Int)) = False := eq_false (by omega)
              by_cases b2 : 0 < nx ∧ n < 125
              · have d2 : ((nx : Int) != 0) = true := by rw [bne_iff_ne]; omega
                have d3 : ((n : Int) != 125) = true := by rw [bne_iff_ne]; omega
                rw [if_pos (.inr b2)] at i1
                subst i1
                repeat' (first
                 |with_reducible first|refine vSq fun K hK=>?_|refine vRg ?_|refine vBl ?_|refine vSc ?_|refine vIf ?_|refine vSk ?_|refine vEx ?_|refine vRt ?_
                 |(with_reducible first|refine gNt (fun h=>?_) (fun h=>?_)|refine gCs (fun h=>?_) (fun h=>?_))<;>(try simp only[h])
                 |refine C_call rfl ki1 rfl abf ?_
                 |refine C_call rfl kl1 rfl abf ?_
                 |refine C_call rfl kr1 rfl abf ?_
                 |refine C_pure knn rfl rfl o78 ?_
                 |with_reducible first|(refine hK _ ?_;clear hK K)|(clear hK K;refine hK _ ?_;clear hK K)|(clear hK K;clear hK K;refine hK _ ?_;clear hK K)|(clear hK K;clear hK K;clear hK K;refine hK _ ?_;clear hK K)
                 |(with_reducible refine todo ?_;simp +decide only[go_sem, hh, z1, u1, u2, hil, c1, g2, hn, w2, d1, d2, d3]))
                exact RetR_same rfl wk_rowF oks_row hw kp_nil hfr
              · rw [if_neg (fun h => h.elim b1 b2)] at i1
                have hin : IntKind.i64.wrap (3 + (n : Int)) = ((3 + n : Nat) : Int) := by rw [Go.IntWalk.i64_in _ (by omega)]; omega
                have htk : ((t.drop 3).take (3 + n - 3)).length ≤ 125 := by rw [List.length_take]; omega
                have hn3 : 3 + n - 3 = n := by omega
                have s1 : (s.length + ((t.drop 3).take (3 + n - 3)).length ≤ 9223372036854775807) = True := eq_true (by omega)
                have fin : ∀ {S : St}, S.H = H → S.A = upd (upd A (off + 92, 0) (some (.co 1 pages.length))) (off + 92, 0) (some (.co 1 (pages.length + 1))) → S.ρ 0 = .c (.ptr hid 0) → S.ρ 7 = .c (.own (off + 92, 0) (ints (idsI pages) ++ [[D.lit (.int .i64 (at_ : Nat))]])) → S.ρ 8 = pD (dS (s ++ (t.drop 3).take (3 + n - 3))) → S.ρ 9 = pD (.lit (.int .i64 (nx : Nat))) →
                    ∃ j : {x : Nat × Nat × List Nat × List UInt8 // rowK gs x.1 x.2.1 x.2.2.1 x.2.2.2 = R ∧ x.1 + x.2.2.1.length = gs.length + 3 ∧ x.2.2.2.length ≤ 125 * x.2.2.1.length ∧ x.2.1 < 65536 ∧ x.2.2.1.length ≤ gs.length + 1},
                      Weak H A S (overA [(0, .c (.ptr hid 0)), (7, .c (.own (off + 92, 0) (ints (idsI j.1.2.2.1)))), (8, pD (dS j.1.2.2.2)), (9, pD (.lit (.int .i64 (j.1.2.1 : Nat))))] [] [((off + 92, 0), .co 1 j.1.2.2.1.length)] H A) ∧ j.1.1 < f + 1 := fun {S} y1 y2 y3 y4 y5 y6 => by
                  have hpl : (pages ++ [at_]).length = pages.length + 1 := by rw [List.length_append, List.length_singleton]
                  refine ⟨⟨(f, nx, pages ++ [at_], s ++ (t.drop 3).take n), ⟨i1, ?_, ?_, nlt, ?_⟩⟩, ?_, Nat.lt_succ_self _⟩
                  · show f + (pages ++ [at_]).length = _
                    omega
                  · show (s ++ (t.drop 3).take n).length ≤ 125 * (pages ++ [at_]).length
                    rw [hn3] at htk
                    rw [List.length_append, hpl]
                    omega
                  · show (pages ++ [at_]).length ≤ _
                    omega
                  · refine Weak_overA hw (fun _ _ => by rw [y1]) (fun κ hκ => ?_) (fun p hp => by rw [List.mem_singleton.1 hp]; exact ha) ?_ ?_ ?_ (fun _ h => h) (fun _ h => h)
                    · have hne' : κ ≠ (off + 92, 0) := fun e => hκ (by rw [e]; exact ha)
                      rw [y2, upd_other _ _ hne', upd_other _ _ hne']
                    · simp +decide only [go_sem, hptr, y3, y4, y5, y6, y2, e3, hn3]
                      exact wkP_own (by rw [aOver_hd]; simp) (by rw [upd_same]; exact aOver_hd)
                    · simp +decide only [go_sem]
                    · simp +decide only [go_sem, y2]
                by_cases b3 : 0 < nx
                · have d2 : ((nx : Int) != 0) = true := by rw [bne_iff_ne]; omega
                  have d3 : ((n : Int) != 125) = false := by rw [bne_eq_false_iff_eq]; omega
                  repeat' (first
                   |with_reducible first|refine vSq fun K hK=>?_|refine vRg ?_|refine vBl ?_|refine vSc ?_|refine vIf ?_|refine vSk ?_|refine vEx ?_|refine vRt ?_
                   |(with_reducible first|refine gNt (fun h=>?_) (fun h=>?_)|refine gCs (fun h=>?_) (fun h=>?_))<;>(try simp only[h])
                   |refine C_call rfl ki1 rfl abf ?_
                   |refine C_call rfl kl1 rfl abf ?_
                   |refine C_call rfl kr1 rfl abf ?_
                   |refine C_pure knn rfl rfl o78 ?_
                   |(refine W_slcS (a := t) (l := 3) (h := 3 + n) Tryz.underlying9 rfl rfl (by simp [optNat, natOf?, intOf?]; omega) (by omega) (by omega) ?_)
                   |(refine W_own Tryz.appI rfl hszL (szOne rfl) (by rw [hil]; simp only [List.length_singleton]; omega) (by rw [hil]; exact upd_same _ _ _) ?_)
                   |with_reducible first|(refine hK _ ?_;clear hK K)|(clear hK K;refine hK _ ?_;clear hK K)|(clear hK K;clear hK K;refine hK _ ?_;clear hK K)|(clear hK K;clear hK K;clear hK K;refine hK _ ?_;clear hK K)
                   |(with_reducible refine todo ?_;simp +decide only[go_sem, hh, z1, u1, u2, hil, c1, g2, hn, w2, d1, d2, d3, hin, s1]))
                  exact fin rfl rfl rfl rfl rfl rfl
                · have d2 : ((nx : Int) != 0) = false := by rw [bne_eq_false_iff_eq]; omega
                  repeat' (first
                   |with_reducible first|refine vSq fun K hK=>?_|refine vRg ?_|refine vBl ?_|refine vSc ?_|refine vIf ?_|refine vSk ?_|refine vEx ?_|refine vRt ?_
                   |(with_reducible first|refine gNt (fun h=>?_) (fun h=>?_)|refine gCs (fun h=>?_) (fun h=>?_))<;>(try simp only[h])
                   |refine C_call rfl ki1 rfl abf ?_
                   |refine C_call rfl kl1 rfl abf ?_
                   |refine C_call rfl kr1 rfl abf ?_
                   |refine C_pure knn rfl rfl o78 ?_
                   |(refine W_slcS (a := t) (l := 3) (h := 3 + n) Tryz.underlying9 rfl rfl (by simp [optNat, natOf?, intOf?]; omega) (by omega) (by omega) ?_)
                   |(refine W_own Tryz.appI rfl hszL (szOne rfl) (by rw [hil]; simp only [List.length_singleton]; omega) (by rw [hil]; exact upd_same _ _ _) ?_)
                   |with_reducible first|(refine hK _ ?_;clear hK K)|(clear hK K;refine hK _ ?_;clear hK K)|(clear hK K;clear hK K;refine hK _ ?_;clear hK K)|(clear hK K;clear hK K;clear hK K;refine hK _ ?_;clear hK K)
                   |(with_reducible refine todo ?_;simp +decide only[go_sem, hh, z1, u1, u2, hil, c1, g2, hn, w2, d1, d2, hin, s1]))
                  exact fin rfl rfl rfl rfl rfl rfl
end rh
end Go.Proofs

namespace Go.Proofs
open Go.PW
def freesS (x : RS) (l : List Nat) : RS := l.foldl freeS x
theorem freesS_1 (x : RS) : ∀ l : List Nat, (freesS x l).1 = freesG x.1 l := fun l => by
  unfold freesS freesG
  induction l generalizing x with
  | nil => rfl
  | cons p ps ih => rw [List.foldl_cons, List.foldl_cons, ih, freeS_1]
def dropS (x : RS) (id : Int) : RS := freesS x (rowG x.1 id).1
theorem dropS_1 (x : RS) (id : Int) : (dropS x id).1 = dropG x.1 id := freesS_1 _ _
def setRootS (x : RS) (s : List UInt8) : RS :=
  if (putG x.1 s).2.1 ≠ 0 then putS x s else wrS (dropS (putS x s) (rootG (putS x s).1 : Nat)) 1 (pad (82 :: two (putG x.1 s).1))
theorem setRootS_1 (x : RS) (s : List UInt8) : (setRootS x s).1 = (setRootG x.1 s).2 := by
  unfold setRootS setRootG
  split
  · exact putS_1 x s
  · show (dropS _ _).1.set 1 _ = _
    rw [dropS_1, putS_1]
section rh
variable {H : HMap} {A : AMap} {I : RI} {hid : Nat} {x : RS}
theorem RH.frees (h : RH H A I hid x) (l : List Nat) : RH (I.up H (freesS x l)) A I hid (freesS x l) ∧ (freesS x l).1.length = x.1.length := by
  refine ⟨?_, by rw [freesS_1]; exact freesG_len _ _⟩
  unfold freesS
  induction l generalizing x H with
  | nil =>
    rw [List.foldl_nil, RI.up_self h.at_]
    exact h
  | cons p ps ih =>
    rw [List.foldl_cons]
    have h1 := ih (h.up (h.at_.free p) (by rw [freeS_1]; exact freesG_len x.1 [p]))
    rw [I.up_up] at h1
    exact h1
theorem RH.drop (h : RH H A I hid x) (id : Int) : RH (I.up H (dropS x id)) A I hid (dropS x id) := (h.frees _).1
theorem RH.setRoot (h : RH H A I hid x) (s : List UInt8) : RH (I.up H (setRootS x s)) A I hid (setRootS x s) := by
  unfold setRootS
  split
  · exact h.put s
  · have h1 := (h.put s).drop ((rootG (putS x s).1 : Nat) : Int)
    have h2 := h1.up (h1.at_.wr (j := 1) (s := pad (82 :: Go.Proofs.two (putG x.1 s).1)) (by have := h1.two; omega) (pad_len (by show 3 ≤ 128; omega))) List.length_set
    rw [I.up_up, I.up_up] at h2
    exact h2
theorem RH.wf (h : RH H A I hid x) (hw : Wf H A) (y : RS) : Wf (I.up H y) A := h.at_.wf hw y
set_option maxRecDepth 8000 in
set_option maxHeartbeats 8000000 in
theorem Tryz.rGet (off : Nat) (hw : Wf H A) (h : RH H A I hid x) (id : Int) : EffOK Tryz.prog 49 off H A [.c (.ptr hid 0), pD (.lit (.int .i64 id))] (getV (rowG x.1 id)) H A := by
  refine effr_ok (E := envOf Tryz.prog [82] off [] []) (envOf_ok Tryz.mixed) Tryz.func49 rfl Tryz.call49 (by kernel_rfl) (by exact Nat.le_of_ble_eq_true rfl) (fun hab => ?_)
  have kr := Tryz.rRow (off + 1000) hw h id
  unfold rowV at kr
  repeat' (first
   |with_reducible first|refine vSq fun K hK=>?_|refine vRg ?_|refine vBl ?_|refine vSc ?_|refine vIf ?_|refine vSk ?_|refine vEx ?_|refine vRt ?_
   |(with_reducible first|refine gNt (fun h=>?_) (fun h=>?_)|refine gCs (fun h=>?_) (fun h=>?_))<;>(try simp only[h])
   |refine C_call rfl kr rfl (Above_mono hab (by omega)) ?_
   |with_reducible first|(refine hK _ ?_;clear hK K)|(clear hK K;refine hK _ ?_;clear hK K)|(clear hK K;clear hK K;refine hK _ ?_;clear hK K)|(clear hK K;clear hK K;clear hK K;refine hK _ ?_;clear hK K)
   |(with_reducible refine todo ?_;simp +decide only[go_sem]))
  exact RetR_same rfl wk_pair oks_pair hw kp_refl (fun _ _ => rfl)
set_option maxRecDepth 8000 in
set_option maxHeartbeats 16000000 in
theorem Tryz.rDrop (off : Nat) (hw : Wf H A) (h : RH H A I hid x) (id : Int) :
    EffOK Tryz.prog 50 off H A [.c (.ptr hid 0), pD (.lit (.int .i64 id))] (pD (.lit (.int .i64 (rowG x.1 id).2.2))) (I.up H (dropS x id)) A := by
  refine effr_ok (E := envOf Tryz.prog [82, 83] off [] []) (envOf_ok Tryz.mixed) Tryz.func50 rfl Tryz.call50 (by kernel_rfl) (by exact Nat.le_of_ble_eq_true rfl) (fun hab => ?_)
  have hab' := Above_mono hab (Nat.le_add_right off 1000)
  have kr := Tryz.rRow (off + 1000) hw h id
  have hmem := rowG_mem x.1 id
  have hlen := rowG_len x.1 id
  have hbg := h.at_.most
  have hpl := h.at_.lt hab
  unfold rowV at kr
  unfold dropS
  generalize rowG x.1 id = R at *
  obtain ⟨ids, s, er⟩ := R
  simp only at kr hmem hlen ⊢
  have hil := idsI_len ids
  have hptr0 : ∀ {X Y : AMap}, PV.wk (hOver [] H) X Y (.c (.ptr hid 0)) (.c (.ptr hid 0)) = True := eq_true (wkP_ptr h.h0)
  have u0 : I.up H (freesS x (ids.take 0)) = H := RI.up_self h.at_
  repeat' (first
   |with_reducible first|refine vSq fun K hK=>?_|refine vRg ?_|refine vBl ?_|refine vSc ?_|refine vIf ?_|refine vSk ?_|refine vEx ?_|refine vRt ?_
   |(with_reducible first|refine gNt (fun h=>?_) (fun h=>?_)|refine gCs (fun h=>?_) (fun h=>?_))<;>(try simp only[h])
   |refine C_call rfl kr rfl hab' ?_
   |with_reducible first|(refine hK _ ?_;clear hK K)|(clear hK K;refine hK _ ?_;clear hK K)|(clear hK K;clear hK K;refine hK _ ?_;clear hK K)|(clear hK K;clear hK K;clear hK K;refine hK _ ?_;clear hK K)
   |(with_reducible refine todo ?_;simp +decide only[go_sem]))
  refine VC_range ids.length (fun _ => True) (fun i => over [(0, .c (.ptr hid 0)), (5, .c (.d (.sl (ints (idsI ids))))), (7, pD (.lit (.int .i64 er))), (8, pD (.lit (.int .i64 i)))] [] (I.up H (freesS x (ids.take i))) A) True.intro ?_ ?_
  · rw [u0]
    refine Weak_overG hw (fun _ _ => rfl) rfl ?_ ?_ (fun _ h => h) (fun _ h => h)
    · simp +decide only [go_sem, hptr0]
    · simp +decide only [go_sem]
  · intro i hi _
    obtain ⟨hvi, hli⟩ := h.frees (ids.take i)
    have wi := h.wf hw (freesS x (ids.take i))
    have kH : ∀ j, H j ≠ none → I.up H (freesS x (ids.take i)) j ≠ none := fun j hj => I.up_keep _ hj
    rcases Nat.lt_or_ge i ids.length with hi2 | hi2
    · have hc := int_lt_true hi2
      have hnx := int_next hi2 (by omega)
      have hm : ids.getD i 0 ∈ ids := by
        rw [List.getD_eq_getElem?_getD, List.getElem?_eq_getElem hi2]
        exact List.getElem_mem _
      obtain ⟨m1, m2⟩ := hmem _ hm
      have kf := Tryz.nFree (off + 1000) wi hvi.at_ (ids.getD i 0) m1 (by rw [hli]; exact m2)
      have et : freesS x (ids.take (i + 1)) = freeS (freesS x (ids.take i)) (ids.getD i 0) := by
        unfold freesS
        rw [List.take_add_one, List.getElem?_eq_getElem hi2, Option.toList_some, List.foldl_append, List.getD_eq_getElem?_getD, List.getElem?_eq_getElem hi2]; rfl
      rw [I.up_up, ← et] at kf
      have g1 := idsI_get ids i hi2
      have hh1 := hvi.hh
      have abi : Above (off + 1000) (I.up H (freesS x (ids.take i))) A := Above_updH hab' (by omega)
      have w2 := h.wf hw (freesS x (ids.take (i + 1)))
      have kH2 : ∀ j, H j ≠ none → I.up H (freesS x (ids.take (i + 1))) j ≠ none := fun j hj => I.up_keep _ hj
      have hptr : ∀ {X Y : AMap}, PV.wk (hOver [] (I.up H (freesS x (ids.take (i + 1))))) X Y (.c (.ptr hid 0)) (.c (.ptr hid 0)) = True := eq_true (wkP_ptr (kH2 _ h.h0))
      generalize (if isFG (freesS x (ids.take i)).1 (ids.getD i 0) = true then (6 : Int) else 0) = e at *
      generalize hH2 : I.up H (freesS x (ids.take (i + 1))) = H2 at *
      repeat' (first
       |with_reducible first|refine vSq fun K hK=>?_|refine vRg ?_|refine vBl ?_|refine vSc ?_|refine vIf ?_|refine vSk ?_|refine vEx ?_|refine vRt ?_
       |(with_reducible first|refine gNt (fun h=>?_) (fun h=>?_)|refine gCs (fun h=>?_) (fun h=>?_))<;>(try simp only[h])
       |refine C_call rfl kf rfl abi ?_
       |with_reducible first|(refine hK _ ?_;clear hK K)|(clear hK K;refine hK _ ?_;clear hK K)|(clear hK K;clear hK K;refine hK _ ?_;clear hK K)|(clear hK K;clear hK K;clear hK K;refine hK _ ?_;clear hK K)
       |(with_reducible refine todo ?_;simp +decide only[go_sem, hc, hnx, hh1, g1, hil]))
      subst hH2
      refine Next_of hi2 True.intro (Weak_overG w2 kp_nil rfl ?_ ?_ kH2 (fun _ h => h))
      · simp +decide only [go_sem, hptr]
      · simp +decide only [go_sem]
    · have hc := int_lt_false hi2
      have hie : i = ids.length := by omega
      subst hie
      rw [List.take_of_length_le (Nat.le_refl _)] at *
      repeat' (first
       |with_reducible first|refine vSq fun K hK=>?_|refine vRg ?_|refine vBl ?_|refine vSc ?_|refine vIf ?_|refine vSk ?_|refine vEx ?_|refine vRt ?_
       |(with_reducible first|refine gNt (fun h=>?_) (fun h=>?_)|refine gCs (fun h=>?_) (fun h=>?_))<;>(try simp only[h])
       |with_reducible first|(refine hK _ ?_;clear hK K)|(clear hK K;refine hK _ ?_;clear hK K)|(clear hK K;clear hK K;refine hK _ ?_;clear hK K)|(clear hK K;clear hK K;clear hK K;refine hK _ ?_;clear hK K)
       |(with_reducible refine todo ?_;simp +decide only[go_sem, hc, hil]))
      exact RetR_sub rfl (by simp +decide only [go_sem]) True.intro wi kp_nil (fun _ _ => rfl) kH (fun _ h => h)
set_option maxRecDepth 8000 in
set_option maxHeartbeats 8000000 in
theorem Tryz.rRootId (off : Nat) (hw : Wf H A) (h : RH H A I hid x) : EffOK Tryz.prog 84 off H A [.c (.ptr hid 0)] (pD (.lit (.int .i64 ((rootG x.1 : Nat) : Int)))) H A := by
  refine effr_ok (E := envOf Tryz.prog [19] off [] []) (envOf_ok Tryz.mixed) Tryz.func84 rfl Tryz.call84 (by kernel_rfl) (by exact Nat.le_of_ble_eq_true rfl) (fun hab => ?_)
  have hh := h.hh
  have h2 := h.two
  have h128 := h.at_.len 1 (by omega)
  have kr := Tryz.nRead (off + 1000) hw h.at_ 1 (by omega)
  have knn := Tryz.rNumber2 ((pgAt x.1 1).drop 1) (by rw [List.length_drop]; omega)
  have e : numB (((pgAt x.1 1).drop 1).getD 0 0) (((pgAt x.1 1).drop 1).getD 1 0) = rootG x.1 := by
    unfold rootG
    rw [List.getD_eq_getElem?_getD, List.getD_eq_getElem?_getD, List.getElem?_drop, List.getElem?_drop, List.getD_eq_getElem?_getD, List.getD_eq_getElem?_getD]
  rw [e] at knn
  have t2 : ((pgAt x.1 1).drop 1).take ((pgAt x.1 1).length - 1) = (pgAt x.1 1).drop 1 := List.take_of_length_le (by rw [List.length_drop]; exact Nat.le_refl _)
  generalize pgAt x.1 1 = t at *
  repeat' (first
   |with_reducible first|refine vSq fun K hK=>?_|refine vRg ?_|refine vBl ?_|refine vSc ?_|refine vIf ?_|refine vSk ?_|refine vEx ?_|refine vRt ?_
   |(with_reducible first|refine gNt (fun h=>?_) (fun h=>?_)|refine gCs (fun h=>?_) (fun h=>?_))<;>(try simp only[h])
   |refine C_call rfl kr rfl (Above_mono hab (by omega)) ?_
   |refine W_slcS (a := t) (l := 1) (h := t.length) Tryz.underlying9 rfl rfl rfl (by omega) (Nat.le_refl _) ?_
   |refine C_pure knn rfl rfl (fun q => (hab _ (Nat.le_add_right _ _)).2 q) ?_
   |with_reducible first|(refine hK _ ?_;clear hK K)|(clear hK K;refine hK _ ?_;clear hK K)|(clear hK K;clear hK K;refine hK _ ?_;clear hK K)|(clear hK K;clear hK K;clear hK K;refine hK _ ?_;clear hK K)
   |(with_reducible refine todo ?_;simp +decide only[go_sem, hh, t2]))
  exact RetR_same rfl (by simp +decide only [go_sem]) True.intro hw kp_refl (fun _ _ => rfl)
set_option maxRecDepth 8000 in
set_option maxHeartbeats 8000000 in
theorem Tryz.rRoot (off : Nat) (hw : Wf H A) (h : RH H A I hid x) : EffOK Tryz.prog 52 off H A [.c (.ptr hid 0)] (rootV x.1) H A := by
  refine effr_ok (E := envOf Tryz.prog [84, 49] off [] []) (envOf_ok Tryz.mixed) Tryz.func52 rfl Tryz.call52 (by kernel_rfl) (by exact Nat.le_of_ble_eq_true rfl) (fun hab => ?_)
  have ko := Tryz.rRootId (off + 1000) hw h
  have kg := Tryz.rGet (off + 1000) hw h ((rootG x.1 : Nat) : Int)
  unfold rootV
  unfold getV at kg ⊢
  by_cases h0 : rootG x.1 = 0
  · rw [if_pos h0]
    have z : (((rootG x.1 : Nat) : Int) == 0) = true := by rw [h0]; rfl
    repeat' (first
     |with_reducible first|refine vSq fun K hK=>?_|refine vRg ?_|refine vBl ?_|refine vSc ?_|refine vIf ?_|refine vSk ?_|refine vEx ?_|refine vRt ?_
     |(with_reducible first|refine gNt (fun h=>?_) (fun h=>?_)|refine gCs (fun h=>?_) (fun h=>?_))<;>(try simp only[h])
     |refine C_call rfl ko rfl (Above_mono hab (by omega)) ?_
     |with_reducible first|(refine hK _ ?_;clear hK K)|(clear hK K;refine hK _ ?_;clear hK K)|(clear hK K;clear hK K;refine hK _ ?_;clear hK K)|(clear hK K;clear hK K;clear hK K;refine hK _ ?_;clear hK K)
     |(with_reducible refine todo ?_;simp +decide only[go_sem, z]))
    exact RetR_same rfl wk_pair oks_pair hw kp_refl (fun _ _ => rfl)
  · rw [if_neg h0]
    have z : (((rootG x.1 : Nat) : Int) == 0) = false := by rw [beq_eq_false_iff_ne]; omega
    repeat' (first
     |with_reducible first|refine vSq fun K hK=>?_|refine vRg ?_|refine vBl ?_|refine vSc ?_|refine vIf ?_|refine vSk ?_|refine vEx ?_|refine vRt ?_
     |(with_reducible first|refine gNt (fun h=>?_) (fun h=>?_)|refine gCs (fun h=>?_) (fun h=>?_))<;>(try simp only[h])
     |refine C_call rfl ko rfl (Above_mono hab (by omega)) ?_
     |refine C_call rfl kg rfl (Above_mono hab (by omega)) ?_
     |with_reducible first|(refine hK _ ?_;clear hK K)|(clear hK K;refine hK _ ?_;clear hK K)|(clear hK K;clear hK K;refine hK _ ?_;clear hK K)|(clear hK K;clear hK K;clear hK K;refine hK _ ?_;clear hK K)
     |(with_reducible refine todo ?_;simp +decide only[go_sem, z]))
    exact RetR_same rfl wk_pair oks_pair hw kp_refl (fun _ _ => rfl)
set_option maxRecDepth 8000 in
set_option maxHeartbeats 16000000 in
theorem Tryz.rSetRoot (off : Nat) (hw : Wf H A) (h : RH H A I hid x) (s : List UInt8) :
    EffOK Tryz.prog 51 off H A [.c (.ptr hid 0), pD (dS s)] (pD (.lit (.int .i64 (setRootG x.1 s).1))) (I.up H (setRootS x s)) A := by
  refine effr_ok (E := envOf Tryz.prog [48, 84, 50, 11] off [] []) (envOf_ok Tryz.mixed) Tryz.func51 rfl Tryz.call51 (by kernel_rfl) (by exact Nat.le_of_ble_eq_true rfl) (fun hab => ?_)
  have hab' := Above_mono hab (Nat.le_add_right off 1000)
  have hpl := h.at_.lt hab
  have e1 := Tryz.rHPut (off + 1000) hw h s
  have h1 := h.put s
  have hid1 := putG_id h.g s
  have hs1 := putS_1 x s
  have w1 := h.wf hw (putS x s)
  have ab1 : ∀ y, Above (off + 1000) (I.up H y) A := fun y => Above_updH hab' (by omega)
  have kH : ∀ y j, H j ≠ none → I.up H y j ≠ none := fun y j hj => I.up_keep _ hj
  unfold setRootG setRootS
  rw [← hs1]
  generalize hy : putS x s = y1 at *
  generalize putG x.1 s = R at *
  obtain ⟨id, er, g1⟩ := R
  unfold putV at e1
  simp only at e1 hid1 ⊢
  by_cases h0 : er = 0
  · rw [if_neg (by rw [h0]; simp), if_neg (by rw [h0]; simp)]
    subst h0
    have e2 := Tryz.rRootId (off + 1000) w1 h1
    have e3 := Tryz.rDrop (off + 1000) w1 h1 ((rootG y1.1 : Nat) : Int)
    have h2 := h1.drop ((rootG y1.1 : Nat) : Int)
    rw [I.up_up] at e3 h2
    have w2 := h.wf hw (dropS y1 ((rootG y1.1 : Nat) : Int))
    generalize hdd : dropS y1 ((rootG y1.1 : Nat) : Int) = y2 at *
    have e4 := Tryz.nWriteOk (off + 1000) w2 h2.at_ 1 (by omega) (by have := h2.two; omega) (82 :: two id) (by show 3 ≤ 128; omega)
    rw [I.up_up] at e4
    have w3 := h.wf hw (wrS y2 1 (pad (82 :: two id)))
    generalize hyy : wrS y2 1 (pad (82 :: two id)) = y3 at *
    have e5 := Tryz.rTwo id hid1
    have hl3 : (two id).length = 2 := rfl
    have hh2 := h2.hh
    have o25 : ∀ q, A (off + 25, q) = none := fun q => (hab _ (Nat.le_add_right _ _)).2 q
    have a1 := ab1 y1
    have a2 := ab1 y2
    have kH3 := kH y3
    clear ab1 kH
    generalize two id = tw at *
    have s1 : (1 + tw.length ≤ 9223372036854775807) = True := eq_true (by omega)
    repeat' (first
     |with_reducible first|refine vSq fun K hK=>?_|refine vRg ?_|refine vBl ?_|refine vSc ?_|refine vIf ?_|refine vSk ?_|refine vEx ?_|refine vRt ?_
     |(with_reducible first|refine gNt (fun h=>?_) (fun h=>?_)|refine gCs (fun h=>?_) (fun h=>?_))<;>(try simp only[h])
     |refine C_call rfl e1 rfl hab' ?_
     |refine C_call rfl e2 rfl a1 ?_
     |refine C_call rfl e3 rfl a1 ?_
     |refine C_pure e5 rfl rfl o25 ?_
     |refine C_call rfl e4 rfl a2 ?_
     |with_reducible first|(refine hK _ ?_;clear hK K)|(clear hK K;refine hK _ ?_;clear hK K)|(clear hK K;clear hK K;refine hK _ ?_;clear hK K)|(clear hK K;clear hK K;clear hK K;refine hK _ ?_;clear hK K)
     |(with_reducible refine todo ?_;simp +decide only[go_sem, hh2, zne, s1]))
    exact RetR_sub rfl (by simp +decide only [go_sem]) True.intro w3 kp_refl (fun _ _ => rfl) kH3 (fun _ h => h)
  · rw [if_pos h0, if_pos h0]
    have z : (er != 0) = true := by simpa using h0
    repeat' (first
     |with_reducible first|refine vSq fun K hK=>?_|refine vRg ?_|refine vBl ?_|refine vSc ?_|refine vIf ?_|refine vSk ?_|refine vEx ?_|refine vRt ?_
     |(with_reducible first|refine gNt (fun h=>?_) (fun h=>?_)|refine gCs (fun h=>?_) (fun h=>?_))<;>(try simp only[h])
     |refine C_call rfl e1 rfl hab' ?_
     |with_reducible first|(refine hK _ ?_;clear hK K)|(clear hK K;refine hK _ ?_;clear hK K)|(clear hK K;clear hK K;refine hK _ ?_;clear hK K)|(clear hK K;clear hK K;clear hK K;refine hK _ ?_;clear hK K)
     |(with_reducible refine todo ?_;simp +decide only[go_sem, z]))
    exact RetR_sub rfl (by simp +decide only [go_sem]) True.intro w1 kp_refl (fun _ _ => rfl) (kH y1) (fun _ h => h)
end rh
end Go.Proofs
