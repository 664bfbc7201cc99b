/-
  Parts of the proof, laid together: PwKg, PwKh.
-/
import Derived.Test.YtjmempllnfonkaaGreatQ29

namespace Go.Proofs
open Go.PW
theorem wk_row {H' : HMap} {A A' : AMap} {l : List (List D)} {κ : Tok} {y z : D} : PV.wk H' A A' (.tup [.c (.d (.sl l)), .c (.d y), .c (.d z)]) (.tup [.c (.own κ l), .c (.d y), .c (.d z)]) := by
  refine ⟨rfl, fun k a b h1 h2 => ?_⟩
  match k, h1, h2 with
  | 0, h1, h2 => cases h1; cases h2; exact .inr (.inr (.inl ⟨l, rfl, .inr ⟨κ, rfl⟩⟩))
  | 1, h1, h2 => cases h1; cases h2; exact .inr (.inl ⟨rfl, True.intro⟩)
  | 2, h1, h2 => cases h1; cases h2; exact .inr (.inl ⟨rfl, True.intro⟩)
theorem wk_rowF {H' : HMap} {A A' : AMap} {l : List (List D)} {y z : D} : PV.wk H' A A' (.tup [.c (.d (.sl l)), .c (.d y), .c (.d z)]) (.tup [.c (.full l), .c (.d y), .c (.d z)]) := by
  refine ⟨rfl, fun k a b h1 h2 => ?_⟩
  match k, h1, h2 with
  | 0, h1, h2 => cases h1; cases h2; exact .inr (.inr (.inl ⟨l, rfl, .inl rfl⟩))
  | 1, h1, h2 => cases h1; cases h2; exact .inr (.inl ⟨rfl, True.intro⟩)
  | 2, h1, h2 => cases h1; cases h2; exact .inr (.inl ⟨rfl, True.intro⟩)
theorem oks_row {hk : Nat → Prop} {tk : Tok → Prop} {x y z : D} : PV.oks hk tk (.tup [.c (.d x), .c (.d y), .c (.d z)]) := fun w hw => by
  simp only [List.mem_cons, List.not_mem_nil, or_false] at hw
  rcases hw with rfl | rfl | rfl <;> exact True.intro
def rowV (r : List Nat × List UInt8 × Int) : PV := .tup [.c (.d (.sl (ints (idsI r.1)))), .c (.d (dS r.2.1)), .c (.d (.lit (.int .i64 r.2.2)))]
theorem nextOf_lt (t : List UInt8) : nextOf t < 65536 := by
  unfold nextOf numB
  have := (t.getD 0 0).toNat_lt
  have := (t.getD 1 0).toNat_lt
  omega
theorem lenOf_lt (t : List UInt8) : lenOf t < 256 := (t.getD 2 0).toNat_lt
section hy
variable {H : HMap} {A : AMap} {k did pid hid N logs T m : Nat} {gs : List (List UInt8)}
set_option maxRecDepth 8000 in
set_option maxHeartbeats 8000000 in
theorem Tryz.hRowNo (off : Nat) (h : HY H A k did pid hid N logs T m gs) (id : Int) (hr : isRec gs id = false) : EffOK Tryz.prog 78 off H A [.c (.ptr hid 0), pD (.lit (.int .i64 id))] (rowV (rowG gs id)) H A := by
  rw [rowG_no hr]
  refine effr_ok (E := envOf Tryz.prog [74, 117, 30, 18] off [] []) (envOf_ok Tryz.mixed) Tryz.func78 rfl Tryz.call78 (by kernel_rfl) (by exact Nat.le_of_ble_eq_true rfl) (fun hab => ?_)
  obtain ⟨hw, hab0, hh, hp, hg, hl, hk, hpk, hne⟩ := h.nums
  have kt := Tryz.hThere (off + 1000) h
  have ki := Tryz.hIsRec (off + 1000) h id
  rw [hr] at ki
  repeat' (first
   |with_reducible first|refine vSq fun K hK=>?_|refine vRg ?_|refine vBl ?_|refine vSc ?_|refine vIf ?_|refine vSk ?_|refine vEx ?_|refine vRt ?_
   |(with_reducible first|refine gNt (fun h=>?_) (fun h=>?_)|refine gCs (fun h=>?_) (fun h=>?_))<;>(try simp only[h])
   |refine C_call rfl kt rfl (Above_mono hab (by omega)) ?_
   |refine C_call rfl ki rfl (Above_mono hab (by omega)) ?_
   |with_reducible first|(refine hK _ ?_;clear hK K)|(clear hK K;refine hK _ ?_;clear hK K)|(clear hK K;clear hK K;refine hK _ ?_;clear hK K)|(clear hK K;clear hK K;clear hK K;refine hK _ ?_;clear hK K)
   |(with_reducible refine todo ?_;simp +decide only[go_sem]))
  exact RetR_same rfl wk_rowF oks_row hw kp_refl (fun _ _ => rfl)
set_option maxRecDepth 8000 in
set_option maxHeartbeats 32000000 in
theorem Tryz.hRow (off : Nat) (h : HY H A k did pid hid N logs T m gs) (id : Int) : EffOK Tryz.prog 78 off H A [.c (.ptr hid 0), pD (.lit (.int .i64 id))] (rowV (rowG gs id)) H A := by
  cases hr : isRec gs id with
  | false => exact Tryz.hRowNo off h id hr
  | true =>
    refine effr_ok (E := envOf Tryz.prog [74, 117, 30, 18] off [] []) (envOf_ok Tryz.mixed) Tryz.func78 rfl Tryz.call78 (by kernel_rfl) (by exact Nat.le_of_ble_eq_true rfl) (fun hab => ?_)
    obtain ⟨hw, hab0, hh, hp, hg, hl, hk, hpk, hne⟩ := h.nums
    have hg2 := hg.big
    have kt := Tryz.hThere (off + 1000) h
    have ki := fun j => Tryz.hIsRec (off + 1000) h j
    have kl := Tryz.hLen (off + 1000) h
    have kr := fun j hj => Tryz.hRead (off + 1000) h j hj
    have ki0 := ki id
    rw [hr] at ki0
    have ha : A (off + 70, 0) = none := (hab _ (Nat.le_add_right _ _)).2 _
    obtain ⟨q, rfl⟩ : ∃ q : Nat, id = (q : Int) := ⟨id.toNat, by unfold isRec at hr; simp at hr; omega⟩
    have hR : rowG gs (q : Nat) = rowK gs (gs.length + 3) q [] [] := by
      unfold rowG
      rw [if_neg (by rw [hr]; simp), Int.toNat_natCast]
    rw [hR]
    have hptr : ∀ {X Y : AMap}, PV.wk (hOver [] H) X Y (.c (.ptr hid 0)) (.c (.ptr hid 0)) = True := eq_true (wkP_ptr (by show H hid ≠ none; exact hne))
    generalize hRR : rowK gs (gs.length + 3) q [] [] = R at *
    repeat' (first
     |with_reducible first|refine vSq fun K hK=>?_|refine vRg ?_|refine vBl ?_|refine vSc ?_|refine vIf ?_|refine vSk ?_|refine vEx ?_|refine vRt ?_
     |(with_reducible first|refine gNt (fun h=>?_) (fun h=>?_)|refine gCs (fun h=>?_) (fun h=>?_))<;>(try simp only[h])
     |refine C_call rfl kt rfl (Above_mono hab (by omega)) ?_
     |refine C_call rfl ki0 rfl (Above_mono hab (by omega)) ?_
     |with_reducible first|(refine hK _ ?_;clear hK K)|(clear hK K;refine hK _ ?_;clear hK K)|(clear hK K;clear hK K;refine hK _ ?_;clear hK K)|(clear hK K;clear hK K;clear hK K;refine hK _ ?_;clear hK K)
     |(with_reducible refine todo ?_;simp +decide only[go_sem]))
    refine VC_while (ι := Nat × Nat × List Nat × List UInt8) (fun x => rowK gs x.1 x.2.1 x.2.2.1 x.2.2.2 = R ∧ x.1 + x.2.2.1.length = gs.length + 3 ∧ x.2.2.2.length ≤ 125 * x.2.2.1.length ∧ x.2.1 < 65536 ∧ x.2.2.1.length ≤ gs.length + 1)
      (fun x => overA [(0, .c (.ptr hid 0)), (7, .c (.own (off + 70, 0) (ints (idsI x.2.2.1)))), (8, pD (dS x.2.2.2)), (9, pD (.lit (.int .i64 (x.2.1 : Nat))))] [] [((off + 70, 0), .co 1 x.2.2.1.length)] H A) (fun x => x.1) (gs.length + 3, q, [], []) ⟨hRR, rfl, Nat.le_refl _, ?_, Nat.zero_le _⟩ ?_ ?_
    · unfold isRec at hr
      simp at hr
      show q < 65536
      omega
    · refine Weak_overA hw kp_refl (fun _ _ => rfl) (fun p hp => by rw [List.mem_singleton.1 hp]; exact ha) ?_ ?_ ?_ (fun _ h => h) (fun _ h => h)
      · simp +decide only [go_sem, hptr]
        exact wkP_new ha (sz := 1) (if_pos rfl)
      · simp +decide only [go_sem]
      · simp +decide only [go_sem, ha]
    · rintro ⟨f, at_, pages, s⟩ ⟨i1, i2, i3, i4, i5⟩
      simp only at i1 i2 i3 i4 i5
      have hfr : ∀ κ, A κ ≠ none → aOver [((off + 70, 0), Arr.co 1 pages.length)] A κ = A κ := fun κ hκ => if_neg (fun e => hκ (by rw [e]; exact ha))
      obtain ⟨f, rfl⟩ : ∃ g, f = g + 1 := ⟨f - 1, by omega⟩
      unfold rowK at i1
      by_cases e0 : at_ = 0
      · subst e0
        rw [if_pos rfl] at i1
        subst i1
        repeat' (first
         |with_reducible first|refine vSq fun K hK=>?_|refine vRg ?_|refine vBl ?_|refine vSc ?_|refine vIf ?_|refine vSk ?_|refine vEx ?_|refine vRt ?_
         |(with_reducible first|refine gNt (fun h=>?_) (fun h=>?_)|refine gCs (fun h=>?_) (fun h=>?_))<;>(try simp only[h])
         |with_reducible first|(refine hK _ ?_;clear hK K)|(clear hK K;refine hK _ ?_;clear hK K)|(clear hK K;clear hK K;refine hK _ ?_;clear hK K)|(clear hK K;clear hK K;clear hK K;refine hK _ ?_;clear hK K)
         |(with_reducible refine todo ?_;simp +decide only[go_sem, zne]))
        exact RetR_same rfl wk_row oks_row hw kp_nil hfr
      · have z1 : ((at_ : Int) != 0) = true := by rw [bne_iff_ne]; omega
        rw [if_neg e0] at i1
        have hil := idsI_len pages
        have hszL := szd_ints (idsI pages)
        have e3 : ints (idsI (pages ++ [at_])) = ints (idsI pages) ++ [[.lit (.int .i64 (at_ : Nat))]] := by rw [idsI_app, ints_app]; rfl
        have ki1 := eff_frameA (κ := (off + 70, 0)) (ar := .co 1 pages.length) (ki (at_ : Nat)) hw (oksP (l := [_]) hne) ha ha
        have kl1 := eff_frameA (κ := (off + 70, 0)) (ar := .co 1 pages.length) kl hw (oksP (l := []) hp) ha ha
        have abf : Above (off + 1000) H (upd A (off + 70, 0) (some (.co 1 pages.length))) := Above_updA (Above_mono hab (by omega)) (by show off + 70 < off + 1000; omega)
        cases er : isRec gs (at_ : Nat) with
        | false =>
          rw [er] at ki1
          rw [if_pos (.inl er)] at i1
          subst i1
          repeat' (first
           |with_reducible first|refine vSq fun K hK=>?_|refine vRg ?_|refine vBl ?_|refine vSc ?_|refine vIf ?_|refine vSk ?_|refine vEx ?_|refine vRt ?_
           |(with_reducible first|refine gNt (fun h=>?_) (fun h=>?_)|refine gCs (fun h=>?_) (fun h=>?_))<;>(try simp only[h])
           |refine C_call rfl ki1 rfl abf ?_
           |with_reducible first|(refine hK _ ?_;clear hK K)|(clear hK K;refine hK _ ?_;clear hK K)|(clear hK K;clear hK K;refine hK _ ?_;clear hK K)|(clear hK K;clear hK K;clear hK K;refine hK _ ?_;clear hK K)
           |(with_reducible refine todo ?_;simp +decide only[go_sem, z1]))
          exact RetR_same rfl wk_rowF oks_row hw kp_nil hfr
        | true =>
          rw [er] at ki1
          by_cases e1 : gs.length < pages.length
          · rw [if_pos (.inr e1)] at i1
            subst i1
            have c1 : ((gs.length : Int) < (pages.length : Int)) = True := eq_true (by omega)
            repeat' (first
             |with_reducible first|refine vSq fun K hK=>?_|refine vRg ?_|refine vBl ?_|refine vSc ?_|refine vIf ?_|refine vSk ?_|refine vEx ?_|refine vRt ?_
             |(with_reducible first|refine gNt (fun h=>?_) (fun h=>?_)|refine gCs (fun h=>?_) (fun h=>?_))<;>(try simp only[h])
             |refine C_call rfl ki1 rfl abf ?_
             |refine C_call rfl kl1 rfl abf ?_
             |with_reducible first|(refine hK _ ?_;clear hK K)|(clear hK K;refine hK _ ?_;clear hK K)|(clear hK K;clear hK K;refine hK _ ?_;clear hK K)|(clear hK K;clear hK K;clear hK K;refine hK _ ?_;clear hK K)
             |(with_reducible refine todo ?_;simp +decide only[go_sem, hh, z1, hil, c1]))
            exact RetR_same rfl wk_rowF oks_row hw kp_nil hfr
          · rw [if_neg (by rw [er]; exact fun h => h.elim (fun h => by cases h) e1)] at i1
            have c1 : ((gs.length : Int) < (pages.length : Int)) = False := eq_false (by omega)
            have hlt : at_ < gs.length := by
              unfold isRec at er
              simp at er
              omega
            have kr1 := eff_frameA (κ := (off + 70, 0)) (ar := .co 1 pages.length) (kr at_ hlt) hw (oksP (l := [_]) hp) ha ha
            have h128 := hg.len at_ hlt
            have nlt := nextOf_lt (pgAt gs at_)
            have llt := lenOf_lt (pgAt gs at_)
            have knn := Tryz.kNumber2 ((pgAt gs at_).getD 0 0) ((pgAt gs at_).getD 1 0)
            have gi : ∀ i, i < 128 → (pgAt gs at_)[i]? = some ((pgAt gs at_).getD i 0) := fun i hi => by
              rw [List.getD_eq_getElem?_getD, List.getElem?_eq_getElem (by omega)]; rfl
            have g0 := gi 0 (by omega)
            have g1 := gi 1 (by omega)
            have g2 := gi 2 (by omega)
            unfold nextOf lenOf at i1
            unfold nextOf at nlt
            unfold lenOf at llt
            have w2 : IntKind.i64.wrap ((((pgAt gs at_).getD 2 0).toNat : Nat) : Int) = ((((pgAt gs at_).getD 2 0).toNat : Nat) : Int) := Go.IntWalk.i64_in _ (by omega)
            generalize (pgAt gs at_).getD 0 0 = x0 at *
            generalize (pgAt gs at_).getD 1 0 = x1 at *
            generalize (pgAt gs at_).getD 2 0 = x2 at *
            generalize pgAt gs at_ = t at *
            generalize numB x0 x1 = nx at *
            generalize hn : x2.toNat = n at *
            have o53 : ∀ q, aOver [((off + 70, 0), Arr.co 1 pages.length)] A (off + 53, q) = none := fun q => (if_neg (fun e => absurd (congrArg Prod.fst e) (by show off + 53 ≠ off + 70; omega))).trans ((hab _ (Nat.le_add_right _ _)).2 q)
            by_cases b1 : 125 < n
            · have d1 : ((125 : Int) < (n : Int)) = True := eq_true (by omega)
              rw [if_pos (.inl b1)] at i1
              subst i1
              repeat' (first
               |with_reducible first|refine vSq fun K hK=>?_|refine vRg ?_|refine vBl ?_|refine vSc ?_|refine vIf ?_|refine vSk ?_|refine vEx ?_|refine vRt ?_
               |(with_reducible first|refine gNt (fun h=>?_) (fun h=>?_)|refine gCs (fun h=>?_) (fun h=>?_))<;>(try simp only[h])
               |refine C_call rfl ki1 rfl abf ?_
               |refine C_call rfl kl1 rfl abf ?_
               |refine C_call rfl kr1 rfl abf ?_
               |refine C_pure knn rfl rfl o53 ?_
               |with_reducible first|(refine hK _ ?_;clear hK K)|(clear hK K;refine hK _ ?_;clear hK K)|(clear hK K;clear hK K;refine hK _ ?_;clear hK K)|(clear hK K;clear hK K;clear hK K;refine hK _ ?_;clear hK K)
               |(with_reducible refine todo ?_;simp +decide only[go_sem, hh, z1, hil, c1, g0, g1, g2, hn, w2, d1]))
              exact RetR_same rfl wk_rowF oks_row hw kp_nil hfr
            · have d1 : ((125 : Int) < (n : Int)) = False := eq_false (by omega)
              by_cases b2 : 0 < nx ∧ n < 125
              · have d2 : ((0 : Int) < (nx : Int)) = True := eq_true (by omega)
                have d3 : ((n : Int) < 125) = True := eq_true (by omega)
                rw [if_pos (.inr b2)] at i1
                subst i1
                repeat' (first
                 |with_reducible first|refine vSq fun K hK=>?_|refine vRg ?_|refine vBl ?_|refine vSc ?_|refine vIf ?_|refine vSk ?_|refine vEx ?_|refine vRt ?_
                 |(with_reducible first|refine gNt (fun h=>?_) (fun h=>?_)|refine gCs (fun h=>?_) (fun h=>?_))<;>(try simp only[h])
                 |refine C_call rfl ki1 rfl abf ?_
                 |refine C_call rfl kl1 rfl abf ?_
                 |refine C_call rfl kr1 rfl abf ?_
                 |refine C_pure knn rfl rfl o53 ?_
                 |with_reducible first|(refine hK _ ?_;clear hK K)|(clear hK K;refine hK _ ?_;clear hK K)|(clear hK K;clear hK K;refine hK _ ?_;clear hK K)|(clear hK K;clear hK K;clear hK K;refine hK _ ?_;clear hK K)
                 |(with_reducible refine todo ?_;simp +decide only[go_sem, hh, z1, hil, c1, g0, g1, g2, hn, w2, d1, d2, d3]))
                exact RetR_same rfl wk_rowF oks_row hw kp_nil hfr
              · rw [if_neg (fun h => h.elim b1 b2)] at i1
                have hin : IntKind.i64.wrap (3 + (n : Int)) = ((3 + n : Nat) : Int) := by rw [Go.IntWalk.i64_in _ (by omega)]; omega
                have htk : ((t.drop 3).take (3 + n - 3)).length ≤ 125 := by rw [List.length_take]; omega
                have hn3 : 3 + n - 3 = n := by omega
                have s1 : (s.length + ((t.drop 3).take (3 + n - 3)).length ≤ 9223372036854775807) = True := eq_true (by omega)
                have fin : ∀ {S : St}, S.H = H → S.A = upd (upd A (off + 70, 0) (some (.co 1 pages.length))) (off + 70, 0) (some (.co 1 (pages.length + 1))) → S.ρ 0 = .c (.ptr hid 0) → S.ρ 7 = .c (.own (off + 70, 0) (ints (idsI pages) ++ [[D.lit (.int .i64 (at_ : Nat))]])) → S.ρ 8 = pD (dS (s ++ (t.drop 3).take (3 + n - 3))) → S.ρ 9 = pD (.lit (.int .i64 (nx : Nat))) →
                    ∃ j : {x : Nat × Nat × List Nat × List UInt8 // rowK gs x.1 x.2.1 x.2.2.1 x.2.2.2 = R ∧ x.1 + x.2.2.1.length = gs.length + 3 ∧ x.2.2.2.length ≤ 125 * x.2.2.1.length ∧ x.2.1 < 65536 ∧ x.2.2.1.length ≤ gs.length + 1},
                      Weak H A S (overA [(0, .c (.ptr hid 0)), (7, .c (.own (off + 70, 0) (ints (idsI j.1.2.2.1)))), (8, pD (dS j.1.2.2.2)), (9, pD (.lit (.int .i64 (j.1.2.1 : Nat))))] [] [((off + 70, 0), .co 1 j.1.2.2.1.length)] H A) ∧ j.1.1 < f + 1 := fun {S} y1 y2 y3 y4 y5 y6 => by
                  have hpl : (pages ++ [at_]).length = pages.length + 1 := by rw [List.length_append, List.length_singleton]
                  refine ⟨⟨(f, nx, pages ++ [at_], s ++ (t.drop 3).take n), ⟨i1, ?_, ?_, nlt, ?_⟩⟩, ?_, Nat.lt_succ_self _⟩
                  · show f + (pages ++ [at_]).length = _
                    omega
                  · show (s ++ (t.drop 3).take n).length ≤ 125 * (pages ++ [at_]).length
                    rw [hn3] at htk
                    rw [List.length_append, hpl]
                    omega
                  · show (pages ++ [at_]).length ≤ _
                    omega
                  · refine Weak_overA hw (fun _ _ => by rw [y1]) (fun κ hκ => ?_) (fun p hp => by rw [List.mem_singleton.1 hp]; exact ha) ?_ ?_ ?_ (fun _ h => h) (fun _ h => h)
                    · have hne' : κ ≠ (off + 70, 0) := fun e => hκ (by rw [e]; exact ha)
                      rw [y2, upd_other _ _ hne', upd_other _ _ hne']
                    · simp +decide only [go_sem, hptr, y3, y4, y5, y6, y2, e3, hn3]
                      exact wkP_own (by rw [aOver_hd]; simp) (by rw [upd_same]; exact aOver_hd)
                    · simp +decide only [go_sem]
                    · simp +decide only [go_sem, y2]
                by_cases b3 : 0 < nx
                · have d2 : ((0 : Int) < (nx : Int)) = True := eq_true (by omega)
                  have d3 : ((n : Int) < 125) = False := eq_false (by omega)
                  repeat' (first
                   |with_reducible first|refine vSq fun K hK=>?_|refine vRg ?_|refine vBl ?_|refine vSc ?_|refine vIf ?_|refine vSk ?_|refine vEx ?_|refine vRt ?_
                   |(with_reducible first|refine gNt (fun h=>?_) (fun h=>?_)|refine gCs (fun h=>?_) (fun h=>?_))<;>(try simp only[h])
                   |refine C_call rfl ki1 rfl abf ?_
                   |refine C_call rfl kl1 rfl abf ?_
                   |refine C_call rfl kr1 rfl abf ?_
                   |refine C_pure knn rfl rfl o53 ?_
                   |(refine W_slcS (a := t) (l := 3) (h := 3 + n) Tryz.underlying9 rfl rfl (by simp [optNat, natOf?, intOf?]; omega) (by omega) (by omega) ?_)
                   |(refine W_own Tryz.appI rfl hszL (szOne rfl) (by rw [hil]; simp only [List.length_singleton]; omega) (by rw [hil]; exact upd_same _ _ _) ?_)
                   |with_reducible first|(refine hK _ ?_;clear hK K)|(clear hK K;refine hK _ ?_;clear hK K)|(clear hK K;clear hK K;refine hK _ ?_;clear hK K)|(clear hK K;clear hK K;clear hK K;refine hK _ ?_;clear hK K)
                   |(with_reducible refine todo ?_;simp +decide only[go_sem, hh, z1, hil, c1, g0, g1, g2, hn, w2, d1, d2, d3, hin, s1]))
                  exact fin rfl rfl rfl rfl rfl rfl
                · have d2 : ((0 : Int) < (nx : Int)) = False := eq_false (by omega)
                  repeat' (first
                   |with_reducible first|refine vSq fun K hK=>?_|refine vRg ?_|refine vBl ?_|refine vSc ?_|refine vIf ?_|refine vSk ?_|refine vEx ?_|refine vRt ?_
                   |(with_reducible first|refine gNt (fun h=>?_) (fun h=>?_)|refine gCs (fun h=>?_) (fun h=>?_))<;>(try simp only[h])
                   |refine C_call rfl ki1 rfl abf ?_
                   |refine C_call rfl kl1 rfl abf ?_
                   |refine C_call rfl kr1 rfl abf ?_
                   |refine C_pure knn rfl rfl o53 ?_
                   |(refine W_slcS (a := t) (l := 3) (h := 3 + n) Tryz.underlying9 rfl rfl (by simp [optNat, natOf?, intOf?]; omega) (by omega) (by omega) ?_)
                   |(refine W_own Tryz.appI rfl hszL (szOne rfl) (by rw [hil]; simp only [List.length_singleton]; omega) (by rw [hil]; exact upd_same _ _ _) ?_)
                   |with_reducible first|(refine hK _ ?_;clear hK K)|(clear hK K;refine hK _ ?_;clear hK K)|(clear hK K;clear hK K;refine hK _ ?_;clear hK K)|(clear hK K;clear hK K;clear hK K;refine hK _ ?_;clear hK K)
                   |(with_reducible refine todo ?_;simp +decide only[go_sem, hh, z1, hil, c1, g0, g1, g2, hn, w2, d1, d2, hin, s1]))
                  exact fin rfl rfl rfl rfl rfl rfl
end hy
end Go.Proofs

namespace Go.Proofs
open Go.PW
theorem wk_row3 {H' : HMap} {A A' : AMap} {x y z : D} : PV.wk H' A A' (.tup [.c (.d x), .c (.d y), .c (.d z)]) (.tup [.c (.d x), .c (.d y), .c (.d z)]) := by
  refine ⟨rfl, fun k a b h1 h2 => ?_⟩
  rw [h1] at h2
  cases h2
  match k, h1 with
  | 0, h => cases h; exact .inr (.inl ⟨rfl, True.intro⟩)
  | 1, h => cases h; exact .inr (.inl ⟨rfl, True.intro⟩)
  | 2, h => cases h; exact .inr (.inl ⟨rfl, True.intro⟩)
def getV (r : List Nat × List UInt8 × Int) : PV := .tup [.c (.d (dS r.2.1)), .c (.d (.lit (.int .i64 r.2.2)))]
section hy
variable {H : HMap} {A : AMap} {k did pid hid N logs T m : Nat} {gs : List (List UInt8)}
set_option maxRecDepth 8000 in
set_option maxHeartbeats 8000000 in
theorem Tryz.hGet (off : Nat) (h : HY H A k did pid hid N logs T m gs) (id : Int) : EffOK Tryz.prog 45 off H A [.c (.ptr hid 0), pD (.lit (.int .i64 id))] (getV (rowG gs id)) H A := by
  refine effr_ok (E := envOf Tryz.prog [78] off [] []) (envOf_ok Tryz.mixed) Tryz.func45 rfl Tryz.call45 (by kernel_rfl) (by exact Nat.le_of_ble_eq_true rfl) (fun hab => ?_)
  obtain ⟨hw, hab0, hh, hp, hg, hl, hk, hpk, hne⟩ := h.nums
  have kr := Tryz.hRow (off + 1000) h id
  unfold rowV at kr
  repeat' (first
   |with_reducible first|refine vSq fun K hK=>?_|refine vRg ?_|refine vBl ?_|refine vSc ?_|refine vIf ?_|refine vSk ?_|refine vEx ?_|refine vRt ?_
   |(with_reducible first|refine gNt (fun h=>?_) (fun h=>?_)|refine gCs (fun h=>?_) (fun h=>?_))<;>(try simp only[h])
   |refine C_call rfl kr rfl (Above_mono hab (by omega)) ?_
   |with_reducible first|(refine hK _ ?_;clear hK K)|(clear hK K;refine hK _ ?_;clear hK K)|(clear hK K;clear hK K;refine hK _ ?_;clear hK K)|(clear hK K;clear hK K;clear hK K;refine hK _ ?_;clear hK K)
   |(with_reducible refine todo ?_;simp +decide only[go_sem]))
  exact RetR_same rfl wk_pair oks_pair hw kp_refl (fun _ _ => rfl)
theorem rowK_mem {gs : List (List UInt8)} : ∀ {f at_ : Nat} {pages : List Nat} {s : List UInt8}, (∀ p ∈ pages, p ≠ 0 ∧ p < gs.length) → ∀ p ∈ (rowK gs f at_ pages s).1, p ≠ 0 ∧ p < gs.length
  | 0, _, _, _, _, p, hp => (List.not_mem_nil hp).elim
  | f + 1, at_, pages, s, h, p, hp => by
    unfold rowK at hp
    split at hp
    · exact h p hp
    · split at hp
      · exact (List.not_mem_nil hp).elim
      · next h0 h1 =>
        split at hp
        · exact (List.not_mem_nil hp).elim
        · refine rowK_mem (fun q hq => ?_) p hp
          rw [List.mem_append, List.mem_singleton] at hq
          rcases hq with hq | rfl
          · exact h q hq
          · rw [not_or] at h1
            have := h1.1
            unfold isRec at this
            simp at this
            omega
theorem rowG_mem (gs : List (List UInt8)) (id : Int) : ∀ p ∈ (rowG gs id).1, p ≠ 0 ∧ p < gs.length := by
  unfold rowG
  split
  · exact fun p hp => (List.not_mem_nil hp).elim
  · exact rowK_mem fun p hp => (List.not_mem_nil hp).elim
theorem rowK_len {gs : List (List UInt8)} : ∀ {f at_ : Nat} {pages : List Nat} {s : List UInt8}, f + pages.length ≤ gs.length + 3 → (rowK gs f at_ pages s).1.length ≤ gs.length + 3
  | 0, _, _, _, _ => Nat.zero_le _
  | f + 1, at_, pages, s, h => by
    unfold rowK
    split
    · show pages.length ≤ _; omega
    · split
      · exact Nat.zero_le _
      · split
        · exact Nat.zero_le _
        · exact rowK_len (by rw [List.length_append, List.length_singleton]; omega)
theorem rowG_len (gs : List (List UInt8)) (id : Int) : (rowG gs id).1.length ≤ gs.length + 3 := by
  unfold rowG
  split
  · exact Nat.zero_le _
  · exact rowK_len (Nat.le_refl _)
theorem Tryz.hFreeAny (off : Nat) (h : HY H A k did pid hid N logs T m gs) (q : Nat) (h0 : q ≠ 0) (hq : q < gs.length) : ∃ e : Int, HSO off Tryz.prog 79 H A [.c (.ptr pid 0), pD (.lit (.int .i64 q))] (pD (.lit (.int .i64 e))) k did pid hid N logs T (m + 1) (freeG gs q) := by
  unfold freeG
  cases hf : isFG gs q with
  | false =>
    rw [if_neg (by simp)]
    exact ⟨0, Tryz.hFree off h q h0 hq hf⟩
  | true =>
    rw [if_pos rfl]
    exact ⟨6, H, A, h.eff (l := [.lit (.int .i64 q)]) (fun H0 hy => Tryz.yFreeE off hy q hq hf), h.mono (by omega), fun _ h => h, fun _ h => h⟩
theorem freesG_len (gs : List (List UInt8)) : ∀ l : List Nat, (freesG gs l).length = gs.length := fun l => by
  unfold freesG
  induction l generalizing gs with
  | nil => rfl
  | cons p ps ih =>
    rw [List.foldl_cons, ih]
    unfold freeG
    split
    · rfl
    · rw [List.length_set]
set_option maxRecDepth 8000 in
set_option maxHeartbeats 16000000 in
theorem Tryz.hDrop (off : Nat) (h : HY H A k did pid hid N logs T m gs) (hko : hid < off) (id : Int) :
    HSO off Tryz.prog 46 H A [.c (.ptr hid 0), pD (.lit (.int .i64 id))] (pD (.lit (.int .i64 (rowG gs id).2.2))) k did pid hid N logs T (m + (rowG gs id).1.length) (dropG gs id) := by
  obtain ⟨hw, hab0, hh, hp, hg, hl, hk, hpk, hne⟩ := h.nums
  have kr := Tryz.hRow (off + 1000) h id
  have hab := Above_mono hab0 (show hid + 1 ≤ off by omega)
  have hmem := rowG_mem gs id
  have hlen := rowG_len gs id
  have hbg := hg.big
  unfold rowV at kr
  unfold dropG
  generalize rowG gs id = R at *
  obtain ⟨ids, s, er⟩ := R
  simp only at kr hmem hlen ⊢
  have hall : ∀ i, i ≤ ids.length → (freesG gs (ids.take i)).length = gs.length := fun i _ => freesG_len gs _
  obtain ⟨f1, f10, hf1⟩ := seq_ex (fun i y => HV H A k did pid hid N logs T (m + i) (freesG gs (ids.take i)) y)
    (fun i y z => ∃ e : Int, EffOK Tryz.prog 79 (off + 1000) y.1 y.2 [.c (.ptr pid 0), pD (.lit (.int .i64 ((ids.getD i 0 : Nat) : Int)))] (pD (.lit (.int .i64 e))) z.1 z.2) (H, A)
    ⟨h, fun _ h => h, fun _ h => h⟩ ids.length (fun i y hi hv => by
      have hm : ids.getD i 0 ∈ ids := by
        rw [List.getD_eq_getElem?_getD, List.getElem?_eq_getElem hi]
        exact List.getElem_mem _
      obtain ⟨a, b⟩ := hmem _ hm
      obtain ⟨e, hs⟩ := Tryz.hFreeAny (off + 1000) hv.hy _ a (by rw [hall i (by omega)]; exact b)
      obtain ⟨z, h1, h2⟩ := hv.next hs
      have et : freesG gs (ids.take (i + 1)) = freeG (freesG gs (ids.take i)) (ids.getD i 0) := by
        unfold freesG
        rw [List.take_add_one, List.getElem?_eq_getElem hi, Option.toList_some, List.foldl_append, List.getD_eq_getElem?_getD, List.getElem?_eq_getElem hi]; rfl
      exact ⟨z, ⟨e, h1⟩, by rw [et]; exact h2⟩)
  have hvn := (hf1 ids.length (Nat.le_refl _)).1
  rw [List.take_of_length_le (Nat.le_refl _)] at hvn
  refine ⟨_, _, ?_, hvn.hy, hvn.kh, hvn.ka⟩
  refine effr_ok (E := envOf Tryz.prog [78, 79] off [] []) (envOf_ok Tryz.mixed) Tryz.func46 rfl Tryz.call46 (by kernel_rfl) (by exact Nat.le_of_ble_eq_true rfl) (fun _ => ?_)
  have hil := idsI_len ids
  repeat' (first
   |with_reducible first|refine vSq fun K hK=>?_|refine vRg ?_|refine vBl ?_|refine vSc ?_|refine vIf ?_|refine vSk ?_|refine vEx ?_|refine vRt ?_
   |(with_reducible first|refine gNt (fun h=>?_) (fun h=>?_)|refine gCs (fun h=>?_) (fun h=>?_))<;>(try simp only[h])
   |refine C_call rfl kr rfl (Above_mono hab (by omega)) ?_
   |with_reducible first|(refine hK _ ?_;clear hK K)|(clear hK K;refine hK _ ?_;clear hK K)|(clear hK K;clear hK K;refine hK _ ?_;clear hK K)|(clear hK K;clear hK K;clear hK K;refine hK _ ?_;clear hK K)
   |(with_reducible refine todo ?_;simp +decide only[go_sem, hil]))
  refine VC_range ids.length (fun _ => True) (fun i => over [(0, .c (.ptr hid 0)), (7, pD (.lit (.int .i64 er))), (17, .c (.d (.sl (ints (idsI ids))))), (18, pD (.lit (.int .i64 ids.length))), (19, pD (.lit (.int .i64 i)))] [] (f1 i).1 (f1 i).2) True.intro ?_ ?_
  · have hptr : ∀ {X Y : AMap}, PV.wk (hOver [] H) X Y (.c (.ptr hid 0)) (.c (.ptr hid 0)) = True := eq_true (wkP_ptr hne)
    rw [f10]
    refine Weak_overG hw (fun _ _ => rfl) rfl ?_ ?_ (fun _ h => h) (fun _ h => h)
    · simp +decide only [go_sem, hptr]
    · simp +decide only [go_sem]
  · intro i hi _
    have hvi := (hf1 i hi).1
    obtain ⟨wi, bi, hhi, hpi, _, _, _, _, hni⟩ := hvi.hy.nums
    rcases Nat.lt_or_ge i ids.length with hi2 | hi2
    · have hc := int_lt_true hi2
      have hnx := int_next hi2 (by omega)
      have hv' := (hf1 (i + 1) hi2).1
      obtain ⟨w', b', hh', hp', _, _, _, _, hn'⟩ := hv'.hy.nums
      obtain ⟨e, ke⟩ := (hf1 i hi).2 hi2
      have g1 := idsI_get ids i hi2
      have hptr : ∀ {X Y : AMap}, PV.wk (hOver [] (f1 (i + 1)).1) X Y (.c (.ptr hid 0)) (.c (.ptr hid 0)) = True := eq_true (wkP_ptr hn')
      repeat' (first
       |with_reducible first|refine vSq fun K hK=>?_|refine vRg ?_|refine vBl ?_|refine vSc ?_|refine vIf ?_|refine vSk ?_|refine vEx ?_|refine vRt ?_
       |(with_reducible first|refine gNt (fun h=>?_) (fun h=>?_)|refine gCs (fun h=>?_) (fun h=>?_))<;>(try simp only[h])
       |refine C_call rfl ke rfl (Above_mono bi (by omega)) ?_
       |with_reducible first|(refine hK _ ?_;clear hK K)|(clear hK K;refine hK _ ?_;clear hK K)|(clear hK K;clear hK K;refine hK _ ?_;clear hK K)|(clear hK K;clear hK K;clear hK K;refine hK _ ?_;clear hK K)
       |(with_reducible refine todo ?_;simp +decide only[go_sem, hc, hnx, hhi, g1]))
      refine Next_of hi2 True.intro (Weak_overG w' kp_nil rfl ?_ ?_ hv'.kh hv'.ka)
      · simp +decide only [go_sem, hptr]
      · simp +decide only [go_sem]
    · have hc := int_lt_false hi2
      have hie : i = ids.length := by omega
      subst hie
      repeat' (first
       |with_reducible first|refine vSq fun K hK=>?_|refine vRg ?_|refine vBl ?_|refine vSc ?_|refine vIf ?_|refine vSk ?_|refine vEx ?_|refine vRt ?_
       |(with_reducible first|refine gNt (fun h=>?_) (fun h=>?_)|refine gCs (fun h=>?_) (fun h=>?_))<;>(try simp only[h])
       |with_reducible first|(refine hK _ ?_;clear hK K)|(clear hK K;refine hK _ ?_;clear hK K)|(clear hK K;clear hK K;refine hK _ ?_;clear hK K)|(clear hK K;clear hK K;clear hK K;refine hK _ ?_;clear hK K)
       |(with_reducible refine todo ?_;simp +decide only[go_sem, hc]))
      exact RetR_sub rfl (by simp +decide only [go_sem]) True.intro wi kp_nil (fun _ _ => rfl) hvi.kh hvi.ka
set_option maxRecDepth 8000 in
set_option maxHeartbeats 8000000 in
theorem Tryz.hRootId (off : Nat) (h : HY H A k did pid hid N logs T m gs) : EffOK Tryz.prog 77 off H A [.c (.ptr hid 0)] (pD (.lit (.int .i64 ((rootG gs : Nat) : Int)))) H A := by
  refine effr_ok (E := envOf Tryz.prog [18] off [] []) (envOf_ok Tryz.mixed) Tryz.func77 rfl Tryz.call77 (by kernel_rfl) (by exact Nat.le_of_ble_eq_true rfl) (fun hab => ?_)
  obtain ⟨hw, hab0, hh, hp, hg, hl, hk, hpk, hne⟩ := h.nums
  have h2 := hg.two
  have h128 := hg.len 1 (by omega)
  have kr := Tryz.hRead (off + 1000) h 1 (by omega)
  have gi : ∀ i, i < 128 → (pgAt gs 1)[i]? = some ((pgAt gs 1).getD i 0) := fun i hi => by
    rw [List.getD_eq_getElem?_getD, List.getElem?_eq_getElem (by omega)]; rfl
  have g1 := gi 1 (by omega)
  have g2 := gi 2 (by omega)
  have knn := Tryz.kNumber2 ((pgAt gs 1).getD 1 0) ((pgAt gs 1).getD 2 0)
  unfold rootG
  generalize (pgAt gs 1).getD 1 0 = x1 at *
  generalize (pgAt gs 1).getD 2 0 = x2 at *
  repeat' (first
   |with_reducible first|refine vSq fun K hK=>?_|refine vRg ?_|refine vBl ?_|refine vSc ?_|refine vIf ?_|refine vSk ?_|refine vEx ?_|refine vRt ?_
   |(with_reducible first|refine gNt (fun h=>?_) (fun h=>?_)|refine gCs (fun h=>?_) (fun h=>?_))<;>(try simp only[h])
   |refine C_call rfl kr rfl (Above_mono hab (by omega)) ?_
   |refine C_pure knn rfl rfl (fun q => (hab _ (Nat.le_add_right _ _)).2 q) ?_
   |with_reducible first|(refine hK _ ?_;clear hK K)|(clear hK K;refine hK _ ?_;clear hK K)|(clear hK K;clear hK K;refine hK _ ?_;clear hK K)|(clear hK K;clear hK K;clear hK K;refine hK _ ?_;clear hK K)
   |(with_reducible refine todo ?_;simp +decide only[go_sem, hh, g1, g2]))
  exact RetR_same rfl (by simp +decide only [go_sem]) True.intro hw kp_refl (fun _ _ => rfl)
def rootV (gs : List (List UInt8)) : PV := if rootG gs = 0 then .tup [.c (.d (dS [])), .c (.d (.lit (.int .i64 4)))] else getV (rowG gs ((rootG gs : Nat) : Int))
set_option maxRecDepth 8000 in
set_option maxHeartbeats 8000000 in
theorem Tryz.hRoot (off : Nat) (h : HY H A k did pid hid N logs T m gs) : EffOK Tryz.prog 43 off H A [.c (.ptr hid 0)] (rootV gs) H A := by
  refine effr_ok (E := envOf Tryz.prog [74, 77, 45] off [] []) (envOf_ok Tryz.mixed) Tryz.func43 rfl Tryz.call43 (by kernel_rfl) (by exact Nat.le_of_ble_eq_true rfl) (fun hab => ?_)
  obtain ⟨hw, hab0, hh, hp, hg, hl, hk, hpk, hne⟩ := h.nums
  have kt := Tryz.hThere (off + 1000) h
  have ko := Tryz.hRootId (off + 1000) h
  have kg := Tryz.hGet (off + 1000) h ((rootG gs : Nat) : Int)
  unfold rootV
  unfold getV at kg ⊢
  by_cases h0 : rootG gs = 0
  · rw [if_pos h0]
    have z : (((rootG gs : Nat) : Int) == 0) = true := by rw [h0]; rfl
    repeat' (first
     |with_reducible first|refine vSq fun K hK=>?_|refine vRg ?_|refine vBl ?_|refine vSc ?_|refine vIf ?_|refine vSk ?_|refine vEx ?_|refine vRt ?_
     |(with_reducible first|refine gNt (fun h=>?_) (fun h=>?_)|refine gCs (fun h=>?_) (fun h=>?_))<;>(try simp only[h])
     |refine C_call rfl kt rfl (Above_mono hab (by omega)) ?_
     |refine C_call rfl ko rfl (Above_mono hab (by omega)) ?_
     |with_reducible first|(refine hK _ ?_;clear hK K)|(clear hK K;refine hK _ ?_;clear hK K)|(clear hK K;clear hK K;refine hK _ ?_;clear hK K)|(clear hK K;clear hK K;clear hK K;refine hK _ ?_;clear hK K)
     |(with_reducible refine todo ?_;simp +decide only[go_sem, z]))
    exact RetR_same rfl wk_pair oks_pair hw kp_refl (fun _ _ => rfl)
  · rw [if_neg h0]
    have z : (((rootG gs : Nat) : Int) == 0) = false := by rw [beq_eq_false_iff_ne]; omega
    repeat' (first
     |with_reducible first|refine vSq fun K hK=>?_|refine vRg ?_|refine vBl ?_|refine vSc ?_|refine vIf ?_|refine vSk ?_|refine vEx ?_|refine vRt ?_
     |(with_reducible first|refine gNt (fun h=>?_) (fun h=>?_)|refine gCs (fun h=>?_) (fun h=>?_))<;>(try simp only[h])
     |refine C_call rfl kt rfl (Above_mono hab (by omega)) ?_
     |refine C_call rfl ko rfl (Above_mono hab (by omega)) ?_
     |refine C_call rfl kg rfl (Above_mono hab (by omega)) ?_
     |with_reducible first|(refine hK _ ?_;clear hK K)|(clear hK K;refine hK _ ?_;clear hK K)|(clear hK K;clear hK K;refine hK _ ?_;clear hK K)|(clear hK K;clear hK K;clear hK K;refine hK _ ?_;clear hK K)
     |(with_reducible refine todo ?_;simp +decide only[go_sem, z]))
    exact RetR_same rfl wk_pair oks_pair hw kp_refl (fun _ _ => rfl)
end hy
end Go.Proofs
