/-
  Parts of the proof, laid together: PwVa, PwVb, PwVd.
-/
import Derived.Test.YtghlemfokpfngaaQ38

namespace Go.PW
theorem Weak_one {H0 H : HMap} {A0 A B : AMap} {S : St} {l : List (Nat × PV)} {u : Nat} {cs ds : List CV} (hw : Wf H A) (hu : H u = none) (hb : ∀ id, H id ≠ none → S.H id = H id) (hA : ∀ κ, A κ ≠ none → B κ ≠ none ∧ B κ = S.A κ)
    (hB : ∀ κ, B κ = none ∨ B κ = S.A κ ∨ (S.A κ = none ∧ ∃ sz, B κ = some (.co sz 0) ∨ B κ = some (.mu sz [])) ∨ permA (S.A κ) (B κ)) (hρ : keepP (upd H u (some cs)) S.A B S.ρ l) (hSu : S.H u = some ds) (hcs : wkCells (upd H u (some cs)) S.A B cs ds)
    (kH : ∀ id, H0 id ≠ none → H id ≠ none) (kA : ∀ κ, A0 κ ≠ none → A κ ≠ none) : Weak H0 A0 S ⟨rhoOf l, upd H u (some cs), B⟩ := by
  have ho : ∀ i, H i ≠ none → upd H u (some cs) i ≠ none := fun i hi => by
    rw [upd_other _ _ fun e => hi (by rw [e]; exact hu)]; exact hi
  refine Weak_gen2 (S' := ⟨rhoOf l, upd H u (some cs), B⟩) hw ho hb hA (keepP_spec hρ) (fun id => ?_) hB (fun id h => ho id (kH id h)) (fun κ h => (hA κ (kA κ h)).1)
  by_cases e : id = u
  · subst e
    obtain ⟨h1, h2⟩ := wkCells_spec hcs
    exact .inr (.inr ⟨cs, ds, upd_same _ _ _, hSu, h1, h2⟩)
  · exact .inr (.inl (upd_other _ _ e))
end Go.PW
namespace Go.Proofs
open Go.PW
theorem encNS_get {m : List (Int × List UInt8)} {i : Nat} {p : Value × Value} (h : (encNS m)[i]? = some p) : ∃ q, m[i]? = some q ∧ p = (.int .i64 q.1, .string ⟨q.2.toArray⟩) := by
  unfold encNS at h
  rw [List.getElem?_map] at h
  obtain ⟨q, h1, h2⟩ := Option.map_eq_some_iff.1 h
  exact ⟨q, h1, h2.symm⟩
theorem encNS_erase (m : List (Int × List UInt8)) (i : Nat) : (encNS m).eraseIdx i = encNS (m.eraseIdx i) := map_erase _ _ _
theorem erase_perm {α : Type} : ∀ {l : List α} {i : Nat} {x : α}, l[i]? = some x → (x :: l.eraseIdx i).Perm l
  | [], _, _, h => by cases h
  | a :: l, 0, x, h => by cases h; exact .refl _
  | a :: l, i + 1, x, h => (List.Perm.swap _ _ _).trans ((erase_perm (l := l) (i := i) h).cons a)
theorem encNS_nil {m : List (Int × List UInt8)} (h : encNS m = []) : m = [] := List.map_eq_nil_iff.1 h
theorem findN_none {k : Int} : ∀ {m : List (Int × List UInt8)} {i : Nat}, (∀ p ∈ m, p.1 ≠ k) → findN k m i = none
  | [], _, _ => rfl
  | p :: m, i, h => by
    unfold findN
    rw [if_neg (h p List.mem_cons_self)]
    exact findN_none fun q hq => h q (List.mem_cons_of_mem _ hq)
structure CpS where
  dn : List (Int × List UInt8)
  left : List (Int × List UInt8)
  cur : Option (Value × Value)
  bi : Nat
section disk
variable {H : HMap} {A : AMap} {did id : Nat} {κm κc κm' κc' : Tok} {d : Dk}
def cpA (A : AMap) (κm a1 a2 : Tok) (d : Dk) (y : CpS) : AMap := upd (upd (upd A κm (some (.mpi (encNS d.stays) y.cur (encNS y.left) y.bi))) a1 (some (.mp (encNS y.dn)))) a2 (some (.co 2 d.cache.length))
def FrC (H : HMap) (A : AMap) (off did : Nat) (κm : Tok) (d : Dk) (y : CpS) : St :=
  ⟨rhoOf [(0, .c (.ptr did 0)), (3, .c (.ptr (off + 3) 0)), (24, .c (.itr κm y.bi))], upd H (off + 3) (some (encDk (off + 12, 0) (off + 17, 0) d)), cpA A κm (off + 12, 0) (off + 17, 0) d y⟩
set_option maxRecDepth 8000 in
set_option maxHeartbeats 16000000 in
theorem Try.kCopy (off : Nat) (hw : Wf H A) (hd : DkAt H A did κm κc d) (hg : DkG d) (hn : 0 < d.n) (hcl : d.cache.length ≤ 1000000) (hid : H id = none) (hκm : A κm' = none) (hκc : A κc' = none) (hne : κm' ≠ κc') :
    EffOK Try.prog 12 off H A [.c (.ptr did 0)] (.c (.ptr id 0)) (upd H id (some (encDk κm' κc' d))) (upd (upd A κm' (some (.mp (encNS d.stays)))) κc' (some (.co 2 d.cache.length))) := by
  refine effr_ok (E := envOf Try.prog [26] off [] []) (envOf_ok Try.mixed) Try.func12 rfl Try.call12 (by kernel_rfl) (by exact Nat.le_of_ble_eq_true rfl) (fun hab => ?_)
  have hhd := hd.h
  have hlt := hd.lt hab
  have i3 : H (off + 3) = none := (hab _ (Nat.le_add_right _ _)).1
  have ha1 : A (off + 12, 0) = none := (hab _ (Nat.le_add_right _ _)).2 _
  have ha2 : A (off + 17, 0) = none := (hab _ (Nat.le_add_right _ _)).2 _
  have han : ((off + 12, 0) : Tok) ≠ (off + 17, 0) := fun e => by cases e
  have m1 : κm ≠ (off + 12, 0) := fun e => by have := hd.m; rw [e, ha1] at this; cases this
  have m2 : κm ≠ (off + 17, 0) := fun e => by have := hd.m; rw [e, ha2] at this; cases this
  have hnd : did ≠ off + 3 := by omega
  have kl := Try.kLen (off + 1000) hw hd
  have z0 : ((d.n : Int) == 0) = false := by rw [beq_eq_false_iff_ne]; omega
  have hab' : Above (off + 1000) H A := Above_mono hab (by omega)
  unfold encDk at hhd
  have hlen : (d.cache.map encW).length = d.cache.length := List.length_map _
  have tokB : ∀ y : CpS, cpA A κm (off + 12, 0) (off + 17, 0) d y κm = some (.mpi (encNS d.stays) y.cur (encNS y.left) y.bi) := fun y => by
    unfold cpA; rw [upd_other _ _ m2, upd_other _ _ m1, upd_same]
  have oth : ∀ (y : CpS) κ, κ ≠ κm → κ ≠ (off + 12, 0) → κ ≠ (off + 17, 0) → cpA A κm (off + 12, 0) (off + 17, 0) d y κ = A κ := fun y κ q1 q2 q3 => by
    unfold cpA; rw [upd_other _ _ q3, upd_other _ _ q2, upd_other _ _ q1]
  have old : ∀ (y : CpS) κ, A κ ≠ none → cpA A κm (off + 12, 0) (off + 17, 0) d y κ ≠ none := fun y κ h => by
    by_cases e : κ = κm
    · rw [e, tokB]; simp
    · rw [oth y κ e (fun e => h (by rw [e]; exact ha1)) (fun e => h (by rw [e]; exact ha2))]; exact h
  have t1 : ∀ y, cpA A κm (off + 12, 0) (off + 17, 0) d y (off + 12, 0) = some (.mp (encNS y.dn)) := fun y => by unfold cpA; rw [upd_other _ _ han, upd_same]
  have t2 : ∀ y, cpA A κm (off + 12, 0) (off + 17, 0) d y (off + 17, 0) = some (.co 2 d.cache.length) := fun y => by unfold cpA; rw [upd_same]
  have hm12 : ∀ {B : AMap} {r1 r2 : Option Arr}, B κm = some (.mp (encNS d.stays)) → upd (upd B (off + 12, 0) r1) (off + 17, 0) r2 κm = some (.mp (encNS d.stays)) := fun h => by rw [upd_other _ _ m2, upd_other _ _ m1]; exact h
  have ha2' : ∀ {r : Option Arr}, upd A (off + 12, 0) r (off + 17, 0) = none := fun {r} => by rw [upd_other _ _ han.symm]; exact ha2
  have wp0 : ∀ {X Y : AMap} {c : List CV}, PV.wk (upd H (off + 3) (some c)) X Y (.c (.ptr did 0)) (.c (.ptr did 0)) := wkP_ptr (by rw [upd_other _ _ hnd, hd.h]; simp)
  have wp3 : ∀ {X Y : AMap} {c : List CV}, PV.wk (upd H (off + 3) (some c)) X Y (.c (.ptr (off + 3) 0)) (.c (.ptr (off + 3) 0)) := wkP_ptr (by rw [upd_same]; simp)
  have wc : ∀ (y : CpS) {X : AMap} {Z : HMap}, X (off + 12, 0) = some (.mp (encNS y.dn)) → X (off + 17, 0) = some (.co 2 d.cache.length) → wkCells Z X (cpA A κm (off + 12, 0) (off + 17, 0) d y) (encDk (off + 12, 0) (off + 17, 0) d) (encDk (off + 12, 0) (off + 17, 0) d) := fun y {X Z} x1 x2 => by
    refine ⟨?_, ?_, ?_, ?_, ?_, ?_, ?_, True.intro⟩
    · rw [wk_d]; exact True.intro
    · exact .inr (.inl ⟨rfl, by show _ ≠ none; rw [t1]; simp, by rw [x1]; exact t1 y⟩)
    · exact .inr (.inl ⟨rfl, by show _ ≠ none; rw [t2]; simp, by rw [x2]; exact t2 y⟩)
    · rw [wk_d]; exact True.intro
    · rw [wk_d]; exact True.intro
    · rw [wk_d]; exact True.intro
    · rw [wk_d]; exact True.intro
  repeat' (first
   |with_reducible first|refine vSq fun K hK=>?_|refine vRg ?_|refine vBl ?_|refine vSc ?_|refine vIf ?_|refine vSk ?_|refine vEx ?_|refine vRt ?_
   |(with_reducible first|refine gNt (fun h=>?_) (fun h=>?_)|refine gCs (fun h=>?_) (fun h=>?_))<;>(try simp only[h])
   |refine C_call rfl kl rfl hab' ?_
   |refine And.intro i3 ?_
   |refine And.intro ha1 ?_
   |(refine W_full Try.appW rfl rfl szNil (szd_enc _) (by rw [hlen]; simp only [List.length_nil]; omega) ha2' ?_)
   |refine W_rngM Try.underlying47 (hm12 hd.m) (fun bi => ?_)
   |with_reducible first|(refine hK _ ?_;clear hK K)|(clear hK K;refine hK _ ?_;clear hK K)|(clear hK K;clear hK K;refine hK _ ?_;clear hK K)|(clear hK K;clear hK K;clear hK K;refine hK _ ?_;clear hK K)
   |(with_reducible refine todo ?_;simp +decide only[go_sem, z0, hhd, hnd, i3]))
  refine VC_while (ι := CpS) (fun y => (y.dn ++ y.left).Perm d.stays) (FrC H A off did κm d) (fun y => y.left.length) ⟨[], d.stays, none, bi⟩ (List.Perm.refl _) ?_ ?_
  · unfold FrC
    refine Weak_one hw i3 (fun j hj => ?_) (fun τ hτ => ⟨old _ τ hτ, ?_⟩) (fun τ => ?_) ?_ (upd_same _ _ _) ?_ (fun _ h => h) (fun _ h => h)
    · have hj3 : j ≠ off + 3 := fun e => hj (by rw [e]; exact i3)
      simp +decide only [go_sem, hj3]
    · have e1 : τ ≠ (off + 12, 0) := fun e => hτ (by rw [e]; exact ha1)
      have e2 : τ ≠ (off + 17, 0) := fun e => hτ (by rw [e]; exact ha2)
      unfold cpA
      by_cases e : τ = κm
      · subst e
        simp +decide only [go_sem, e1, e2]
      · simp +decide only [go_sem, e, e1, e2]
    · refine .inr (.inl ?_)
      unfold cpA
      by_cases e : τ = κm
      · subst e
        simp +decide only [go_sem, m1, m2]
      · simp +decide only [go_sem, e]
        rfl
    · simp +decide only [go_sem]
      exact ⟨wp0, wp3, wkP_itr (by rw [tokB]; simp) (by rw [tokB, upd_same])⟩
    · simp +decide only [go_sem]
      exact wc ⟨[], d.stays, none, bi⟩ (by rw [upd_other _ _ m1.symm, upd_other _ _ han, upd_same]; rfl) (by rw [upd_other _ _ m2.symm, upd_same])
  · rintro ⟨dn, left, cur, bi⟩ hy
    simp only at hy
    unfold FrC
    have tB := tokB ⟨dn, left, cur, bi⟩
    repeat' (first
     |with_reducible first|refine vSq fun K hK=>?_|refine vRg ?_|refine vBl ?_|refine vSc ?_|refine vIf ?_|refine vSk ?_|refine vEx ?_|refine vRt ?_
     |(with_reducible first|refine gNt (fun h=>?_) (fun h=>?_)|refine gCs (fun h=>?_) (fun h=>?_))<;>(try simp only[h])
     |with_reducible first|(refine hK _ ?_;clear hK K)|(clear hK K;refine hK _ ?_;clear hK K)|(clear hK K;clear hK K;refine hK _ ?_;clear hK K)|(clear hK K;clear hK K;clear hK K;refine hK _ ?_;clear hK K)
     |(with_reducible refine todo ?_;simp +decide only[go_sem]))
    refine W_nxtM tB (fun h0 => ?_) (fun i p hp => ?_)
    · repeat' (first
       |with_reducible first|refine vSq fun K hK=>?_|refine vRg ?_|refine vBl ?_|refine vSc ?_|refine vIf ?_|refine vSk ?_|refine vEx ?_|refine vRt ?_
       |(with_reducible first|refine gNt (fun h=>?_) (fun h=>?_)|refine gCs (fun h=>?_) (fun h=>?_))<;>(try simp only[h])
       |with_reducible first|(refine hK _ ?_;clear hK K)|(clear hK K;refine hK _ ?_;clear hK K)|(clear hK K;clear hK K;refine hK _ ?_;clear hK K)|(clear hK K;clear hK K;clear hK K;refine hK _ ?_;clear hK K)
       |(with_reducible refine todo ?_;simp +decide only[go_sem]))
      have hl0 : left = [] := encNS_nil h0
      rw [hl0, List.append_nil] at hy
      obtain ⟨h, e1, e2, q1, q2, q3⟩ := tok2 (r1 := .mp (encNS d.stays)) (r2 := .co 2 d.cache.length) hκm hκc ha1 ha2 hne han
      have hm1 : upd (upd A κm' (some (.mp (encNS d.stays)))) κc' (some (.co 2 d.cache.length)) κm' ≠ none := by rw [upd_other _ _ hne, upd_same]; simp
      have hc1 : upd (upd A κm' (some (.mp (encNS d.stays)))) κc' (some (.co 2 d.cache.length)) κc' ≠ none := by rw [upd_same]; simp
      have him : (encDk κm' κc' d).map (CV.im (swp id (off + 3)) h) = encDk (off + 12, 0) (off + 17, 0) d := by
        show [_, CV.mpr (h κm'), CV.own (h κc') _, _, _, _, _] = _
        rw [e1, e2]; rfl
      have f1 : upd (upd A (off + 12, 0) (some (.mp (encNS d.stays)))) (off + 17, 0) (some (.co 2 d.cache.length)) (off + 12, 0) = some (.mp (encNS d.stays)) := by rw [upd_other _ _ han, upd_same]
      have f2 : upd (upd A (off + 12, 0) (some (.mp (encNS d.stays)))) (off + 17, 0) (some (.co 2 d.cache.length)) (off + 17, 0) = some (.co 2 d.cache.length) := upd_same _ _ _
      have g1 : upd (cpA A κm (off + 12, 0) (off + 17, 0) d ⟨dn, left, cur, bi⟩) κm (some (.mp (encNS d.stays))) (off + 12, 0) = some (.mp (encNS dn)) := by rw [upd_other _ _ m1.symm]; exact t1 _
      have g2 : upd (cpA A κm (off + 12, 0) (off + 17, 0) d ⟨dn, left, cur, bi⟩) κm (some (.mp (encNS d.stays))) (off + 17, 0) = some (.co 2 d.cache.length) := by rw [upd_other _ _ m2.symm]; exact t2 _
      have gp : permA (upd (cpA A κm (off + 12, 0) (off + 17, 0) d ⟨dn, left, cur, bi⟩) κm (some (.mp (encNS d.stays))) (off + 12, 0)) (upd (upd A (off + 12, 0) (some (.mp (encNS d.stays)))) (off + 17, 0) (some (.co 2 d.cache.length)) (off + 12, 0)) := by
        rw [f1, g1]
        exact ⟨_, _, rfl, hy.map _, .inl rfl⟩
      have go : ∀ κ, κ ≠ (off + 12, 0) → upd (upd A (off + 12, 0) (some (.mp (encNS d.stays)))) (off + 17, 0) (some (.co 2 d.cache.length)) κ = upd (cpA A κm (off + 12, 0) (off + 17, 0) d ⟨dn, left, cur, bi⟩) κm (some (.mp (encNS d.stays))) κ := fun κ n1 => by
        by_cases n2 : κ = (off + 17, 0)
        · rw [n2, f2, g2]
        · rw [upd_other _ _ n2, upd_other _ _ n1]
          by_cases n3 : κ = κm
          · rw [n3, upd_same, hd.m]
          · rw [upd_other _ _ n3, oth _ _ n3 n1 n2]
      refine RetR_obj (H1 := H) (A1 := A) (A'' := upd (upd A (off + 12, 0) (some (.mp (encNS d.stays)))) (off + 17, 0) (some (.co 2 d.cache.length))) (i' := off + 3) (h := h) (ds := encDk (off + 12, 0) (off + 17, 0) d) rfl ?_ (by show upd _ _ _ _ ≠ none; rw [upd_same]; simp) hw (fun _ h => h) (fun _ h => h) hid i3 (DkAt.ok (H := upd H id _) hm1 hc1) ?_ (upd_same _ _ _) ?_ q1 q2 q3 ?_
      · show PV.wk _ _ _ (.c (.ptr (swp id (off + 3) id) 0)) _
        rw [show swp id (off + 3) id = off + 3 from if_pos rfl]
        exact wkP_ptr (by rw [upd_same]; simp)
      · intro i es hi
        have hne : i ≠ off + 3 := fun e => by rw [e, i3] at hi; cases hi
        refine ⟨es, by show upd _ _ _ _ = _; rw [upd_other _ _ hne]; exact hi, wkC_same fun c hc => ok_mono (fun j hj => ?_) (fun κ hκ => ?_) (hw i es c hi hc)⟩
        · rw [upd_apply']; split
          · simp
          · exact hj
        · have n1 : κ ≠ (off + 12, 0) := fun e => hκ (by rw [e]; exact ha1)
          have n2 : κ ≠ (off + 17, 0) := fun e => hκ (by rw [e]; exact ha2)
          exact ⟨by rw [upd_other _ _ n2, upd_other _ _ n1]; exact hκ, go κ n1⟩
      · rw [him]
        refine ⟨?_, ?_, ?_, ?_, ?_, ?_, ?_, True.intro⟩
        · rw [wk_d]; exact True.intro
        · exact wkC_perm gp
        · exact .inr (.inl ⟨rfl, by show _ ≠ none; rw [f2]; simp, go _ han.symm⟩)
        · rw [wk_d]; exact True.intro
        · rw [wk_d]; exact True.intro
        · rw [wk_d]; exact True.intro
        · rw [wk_d]; exact True.intro
      · intro κ
        by_cases e : κ = (off + 12, 0)
        · subst e
          exact .inr (.inr (.inr gp))
        · exact .inr (.inl (go κ e))
    · obtain ⟨q, hq, rfl⟩ := encNS_get hp
      obtain ⟨hil, _⟩ := List.getElem?_eq_some_iff.1 hq
      rw [encNS_erase]
      have hnd2 : ((dn ++ left).map (·.1)).Nodup := (hy.map _).nodup_iff.2 hg
      rw [List.map_append] at hnd2
      have hfn : findN q.1 dn 0 = none := findN_none fun p hp e => (List.nodup_append.1 hnd2).2.2 _ (List.mem_map_of_mem hp) _ (List.mem_map_of_mem (List.mem_of_getElem? hq)) e
      have hput : encNS dn ++ [(.int .i64 q.1, .string ⟨q.2.toArray⟩)] = encNS (dn ++ [q]) := by
        unfold encNS
        rw [List.map_append]; rfl
      have hmk : ∀ {r : Arr}, mapOf (upd (cpA A κm (off + 12, 0) (off + 17, 0) d ⟨dn, left, cur, bi⟩) κm (some r)) (.c (.mpr (off + 12, 0))) = some (encNS dn) := fun {r} => mapOf_mpr (by rw [upd_other _ _ m1.symm]; exact t1 _)
      unfold encDk
      repeat' (first
       |with_reducible first|refine vSq fun K hK=>?_|refine vRg ?_|refine vBl ?_|refine vSc ?_|refine vIf ?_|refine vSk ?_|refine vEx ?_|refine vRt ?_
       |(with_reducible first|refine gNt (fun h=>?_) (fun h=>?_)|refine gCs (fun h=>?_) (fun h=>?_))<;>(try simp only[h])
       |refine W_entM (upd_same _ _ _) ?_
       |with_reducible first|(refine hK _ ?_;clear hK K)|(clear hK K;refine hK _ ?_;clear hK K)|(clear hK K;clear hK K;refine hK _ ?_;clear hK K)|(clear hK K;clear hK K;clear hK K;refine hK _ ?_;clear hK K)
       |(with_reducible refine todo ?_;simp +decide only[go_sem, hmk, mfind_N, hfn, hput]))
      have hlt2 : (left.eraseIdx i).length < left.length := by rw [List.length_eraseIdx_of_lt hil]; exact Nat.sub_lt (Nat.zero_lt_of_lt hil) Nat.zero_lt_one
      have hpm : ((dn ++ [q]) ++ left.eraseIdx i).Perm d.stays := by
        rw [List.append_assoc]
        refine List.Perm.trans (List.Perm.append_left dn ?_) hy
        show (q :: left.eraseIdx i).Perm left
        exact erase_perm hq
      refine ⟨⟨⟨dn ++ [q], left.eraseIdx i, some (.int .i64 q.1, .string ⟨q.2.toArray⟩), bi⟩, hpm⟩, ?_, hlt2⟩
      have m1' := m1.symm
      have m2' := m2.symm
      refine Weak_one hw i3 (fun j hj => ?_) (fun τ hτ => ⟨old _ τ hτ, ?_⟩) (fun τ => ?_) ?_ (upd_same _ _ _) ?_ (fun _ h => h) (fun _ h => h)
      · have hj3 : j ≠ off + 3 := fun e => hj (by rw [e]; exact i3)
        simp +decide only [go_sem, hj3]
      · have e1 : τ ≠ (off + 12, 0) := fun e => hτ (by rw [e]; exact ha1)
        have e2 : τ ≠ (off + 17, 0) := fun e => hτ (by rw [e]; exact ha2)
        unfold cpA
        by_cases e : τ = κm
        · subst e
          simp +decide only [go_sem, e1, e2]
        · simp +decide only [go_sem, e, e1, e2]
      · refine .inr (.inl ?_)
        by_cases e1 : τ = (off + 12, 0)
        · subst e1
          simp +decide only [go_sem, t1]
        · by_cases e2 : τ = (off + 17, 0)
          · subst e2
            simp +decide only [go_sem, t2, e1, m2']
          · by_cases e : τ = κm
            · subst e
              simp +decide only [go_sem, tokB, e1]
            · simp +decide only [go_sem, e, e1]
              rw [oth _ _ e e1 e2, oth _ _ e e1 e2]
      · simp +decide only [go_sem]
        exact ⟨wp0, wp3, wkP_itr (by rw [tokB]; simp) (by rw [tokB, upd_other _ _ m1, upd_same])⟩
      · exact wc ⟨dn ++ [q], left.eraseIdx i, _, bi⟩ (by show upd _ _ _ _ = _; rw [upd_same]) (by show upd _ _ _ _ = _; rw [upd_other _ _ han.symm, upd_other _ _ m2.symm]; exact t2 _)
end disk
end Go.Proofs

namespace Go.Proofs
open Go.PW
section wal
variable {H : HMap} {A : AMap} {did : Nat} {κm κc κr : Tok} {d : Dk} {f n t0 b0 t1 b1 : Nat} {pl : Nat → Option Pc} {G : HMap → HMap} {GA : AMap → AMap}
set_option maxRecDepth 8000 in
set_option maxHeartbeats 32000000 in
theorem Try.kOpenB (off : Nat) (hw : Wf H A) (hd : DkAt H A did κm κc d) (ho : OpAt d f n t0 b0 t1 b1 pl) (wG : Wf (G H) (GA A)) (gH : (∀ X Y i, X i = Y i → G X i = G Y i) ∧ ∀ i, G H i ≠ none ↔ H i ≠ none) (gA : (∀ X Y τ, X τ = Y τ → GA X τ = GA Y τ) ∧ ∀ τ, GA A τ ≠ none ↔ A τ ≠ none)
    (hnx : ∀ {X : HMap} {Y : AMap} {id : Nat} {l : Lg}, l.from_ = f → l.turn = opT t0 t1 → l.base = opB t0 b0 t1 b1 → l.base < 9223372036854775808 → l.turn + 1 < 9223372036854775808 → l.from_ + 1 < d.n → Wf X Y → LgAt X Y id did κr l → DkAt X Y did κm κc d → EffOK Try.prog 47 (off + 1000) X Y [.c (.ptr id 0), pD (.lit (.int .i64 l.base))] (pD (.lit (.int .i64 6))) (G X) (GA Y))
    (hκr : A κr = none) (hκb : κr.1 < off + 1000) :
    EffOK Try.prog 27 off H A [.c (.ptr did 0), pD (.lit (.int .i64 f)), pD (.lit (.int .i64 n))] (.tup [.c (.d (.lit (.pointer none))), .c (.d (.lit (.int .i64 6)))])
      (G H) (GA A) := by
  refine effr_ok (E := envOf Try.prog [26, 45, 46, 47] off [] []) (envOf_ok Try.mixed) Try.func27 rfl Try.call27 (by kernel_rfl) (by exact Nat.le_of_ble_eq_true rfl) (fun hab => ?_)
  obtain ⟨n1, n2, hin, hdn, hcl, hs, c0, c1, hpl⟩ := ho
  have hx : H (off + 46) = none := (hab _ (Nat.le_add_right _ _)).1
  have hdid : H did ≠ none := by rw [hd.h]; simp
  have hlt := hd.lt hab
  have hndo : did ≠ off + 46 := by omega
  have q1 : ((d.n : Int) == 0) = false := by rw [beq_eq_false_iff_ne]; omega
  have q2 : ((n : Int) < 4) = False := eq_false (by omega)
  have q3 : ((1000 : Int) < (n : Int)) = False := eq_false (by omega)
  have q4 : ((f : Int) < 0) = False := eq_false (by omega)
  have q5 : ((d.n : Int) < (f : Int)) = False := eq_false (by omega)
  have q6 : IntKind.i64.wrap ((d.n : Int) - (f : Int)) = ((d.n - f : Nat) : Int) := by rw [Go.IntWalk.i64_in _ (by omega)]; omega
  have q7 : (((d.n - f : Nat) : Int) < (n : Int)) = False := eq_false (by omega)
  have q8 : IntKind.i64.wrap ((n : Int) - 2) = ((n - 2 : Nat) : Int) := by rw [Go.IntWalk.i64_in _ (by omega)]; omega
  have kl := Try.kLen (off + 1000) hw hd
  have hwC : ∀ l, Wf (upd H (off + 46) (some (encLgC did (.full []) l))) A := fun l => Wf_set hw (encLgC_ok (upd_keepH _ hdid) True.intro) (fun _ h => h)
  have hdC : ∀ x, DkAt (upd H (off + 46) (some x)) A did κm κc d := fun x => hd.updH hndo
  have hAb : ∀ x, Above (off + 1000) (upd H (off + 46) (some x)) A := fun x => Above_updH (Above_mono hab (by omega)) (by omega)
  have kt0 := Try.kTells (l := newL f n 0 0) (off + 1000) (hwC _) (upd_same _ _ _) (hdC _) (by omega) (by omega) 0 t0 b0 (by show f + 0 < d.n; omega) hdn (hs 0 (by omega)) c0
  have kt1 := Try.kTells (l := newL f n t0 b0) (off + 1000) (hwC _) (upd_same _ _ _) (hdC _) (by omega) (by omega) 1 t1 b1 (by show f + 1 < d.n; omega) hdn (hs 1 (by omega)) c1
  have hle0 : b0 ≤ t0 ∧ t0 ≤ 1099511627776 := by rcases c0 with ⟨_, h1, h2⟩ | ⟨_, h1, h2⟩ <;> omega
  have hle1 : b1 ≤ t1 ∧ t1 ≤ 1099511627776 := by rcases c1 with ⟨_, h1, h2⟩ | ⟨_, h1, h2⟩ <;> omega
  have hle : opB t0 b0 t1 b1 ≤ opT t0 t1 ∧ opT t0 t1 ≤ 1099511627776 := by unfold opB opT; split <;> omega
  have hsc : scanK pl (newL f n (opT t0 t1) (opB t0 b0 t1 b1)).turn (newL f n (opT t0 t1) (opB t0 b0 t1 b1)).places 0 (sc0 (newL f n (opT t0 t1) (opB t0 b0 t1 b1))) = opX pl n (opT t0 t1) (opB t0 b0 t1 b1) := rfl
  have ksc := Try.kScan (l := newL f n (opT t0 t1) (opB t0 b0 t1 b1)) (κr := κr) (off + 1000) (hwC _) (upd_same _ _ _) rfl rfl hκr (by omega) (hdC _) (by omega) (by show f + 2 + (n - 2) ≤ d.n; omega) hdn (by show n - 2 ≤ 1000; omega) (by show opB t0 b0 t1 b1 < _; omega)
    (fun i hi => by have h1 : i < n - 2 := hi; have h2 := hs (2 + i) (by omega); rw [show f + (2 + i) = f + 2 + i by omega] at h2; exact h2) pl hpl
  rw [hsc, upd_twice] at ksc
  generalize opX pl n (opT t0 t1) (opB t0 b0 t1 b1) = x at *
  generalize hl : scL (newL f n (opT t0 t1) (opB t0 b0 t1 b1)) x = l at *
  have lf : l.from_ = f := by rw [← hl]; rfl
  have lt : l.turn = opT t0 t1 := by rw [← hl]; rfl
  have lb : l.base = opB t0 b0 t1 b1 := by rw [← hl]; rfl
  have lr : l.recs = x.recs := by rw [← hl]; rfl
  have tk : ∀ τ, A τ ≠ none → upd A κr (some (.co 1 x.recs.length)) τ ≠ none := fun τ => upd_keep τ
  have hnm : κr ≠ κm := fun e => by rw [e, hd.m] at hκr; cases hκr
  have hnc : κr ≠ κc := fun e => by rw [e, hd.c] at hκr; cases hκr
  have hwS : Wf (upd H (off + 46) (some (encLg did κr l))) (upd A κr (some (.co 1 x.recs.length))) := Wf_set hw (LgAt.ok (upd_keepH _ hdid) (by rw [upd_same]; simp)) tk
  have hlS : LgAt (upd H (off + 46) (some (encLg did κr l))) (upd A κr (some (.co 1 x.recs.length))) (off + 46) did κr l := ⟨upd_same _ _ _, by rw [lr]; exact upd_same _ _ _⟩
  have hdS : DkAt (upd H (off + 46) (some (encLg did κr l))) (upd A κr (some (.co 1 x.recs.length))) did κm κc d := ⟨by rw [upd_other _ _ hndo]; exact hd.h, by rw [upd_other _ _ hnm.symm]; exact hd.m, by rw [upd_other _ _ hnc.symm]; exact hd.c⟩
  have knx := hnx lf lt lb (by omega) (by omega) (by omega) hwS hlS hdS
  rw [lb] at knx
  have hAbS : Above (off + 1000) (upd H (off + 46) (some (encLg did κr l))) (upd A κr (some (.co 1 x.recs.length))) := Above_updA (hAb _) hκb
  have hfin : ∀ {S : St} {fn : Func}, resPVs Try.prog S fn.results.toList = some (.tup [.c (.d (.lit (.pointer none))), .c (.d (.lit (.int .i64 6)))]) → S.H = G (upd H (off + 46) (some (encLg did κr l))) → S.A = GA (upd A κr (some (.co 1 x.recs.length))) →
      RetR Try.prog fn H A (.tup [.c (.d (.lit (.pointer none))), .c (.d (.lit (.int .i64 6)))]) (G H) (GA A) S := fun {S fn} h1 h2 h3 =>
    RetR_sub h1 wk_pair oks_pair wG (fun i hi => by rw [h2]; exact gH.1 _ _ _ (upd_other _ _ fun e => (gH.2 i).1 hi (by rw [e]; exact hx))) (fun τ hτ => by rw [h3]; exact gA.1 _ _ _ (upd_other _ _ fun e => (gA.2 τ).1 hτ (by rw [e]; exact hκr))) (fun i h => (gH.2 i).2 h) (fun τ h => (gA.2 τ).2 h)
  have lenc : encLg did κr l = [.ptr did 0, .d (.lit (.int .i64 f)), .d (.lit (.int .i64 (n - 2 : Nat))), .d (.lit (.int .i64 (opT t0 t1))), .d (.lit (.int .i64 (opB t0 b0 t1 b1))), .d (.lit (.int .i64 x.used)), .own κr (textsD x.recs), .d (.lit (.bool false))] := by rw [← hl]; rfl
  dsimp only [encLgC, newL] at kt0 kt1 ksc
  rw [lenc] at ksc knx hAbS hfin
  have hcase : (((t0 : Int) < (t1 : Int)) = True ∧ opT t0 t1 = t1 ∧ opB t0 b0 t1 b1 = b1) ∨ (((t0 : Int) < (t1 : Int)) = False ∧ opT t0 t1 = t0 ∧ opB t0 b0 t1 b1 = b0) := by
    by_cases q : t0 < t1
    · exact .inl ⟨eq_true (by omega), if_pos q, if_pos q⟩
    · exact .inr ⟨eq_false (by omega), if_neg q, if_neg q⟩
  rcases hcase with ⟨g, hT, hB⟩ | ⟨g, hT, hB⟩
  all_goals
    rw [hT, hB] at ksc knx hAbS hfin
    repeat' (first
     |with_reducible first|refine vSq fun K hK=>?_|refine vRg ?_|refine vBl ?_|refine vSc ?_|refine vIf ?_|refine vSk ?_|refine vEx ?_|refine vRt ?_
     |(with_reducible first|refine gNt (fun h=>?_) (fun h=>?_)|refine gCs (fun h=>?_) (fun h=>?_))<;>(try simp only[h])
     |refine And.intro hx ?_
     |refine C_call rfl kl rfl (Above_mono hab (by omega)) ?_
     |refine C_call rfl kt0 rfl (hAb _) ?_
     |refine C_call rfl kt1 rfl (hAb _) ?_
     |refine C_call rfl ksc rfl (hAb _) ?_
     |refine C_call rfl knx rfl hAbS ?_
     |with_reducible first|(refine hK _ ?_;clear hK K)|(clear hK K;refine hK _ ?_;clear hK K)|(clear hK K;clear hK K;refine hK _ ?_;clear hK K)|(clear hK K;clear hK K;clear hK K;refine hK _ ?_;clear hK K)
     |(with_reducible refine todo ?_;simp +decide only[go_sem, q1, q2, q3, q4, q5, q6, q7, q8, g, z60, upd_twice]))
    refine hfin ?_ ?_ ?_ <;> rfl
end wal
section st
variable {H : HMap} {A : AMap} {k did : Nat} {κm κc : Tok} {d : Dk}
theorem Try.tOpenG (off : Nat) (hL : LW H A k did κm κc d) (hk : k < off + 1000) {f n t0 b0 t1 b1 : Nat} {pl : Nat → Option Pc} (ho : OpAt d f n t0 b0 t1 b1 pl) (hb1 : burnt d = false) (hb2 : burnt (wrD d ((f + (opT t0 t1 + 1) % 2 : Nat) : Int) (turnB (opT t0 t1 + 1) (opB t0 b0 t1 b1))) = false) :
    SOK off Try.prog 27 H A [.c (.ptr did 0), pD (.lit (.int .i64 f)), pD (.lit (.int .i64 n))] (.tup [.c (.ptr k 0), .c (.d (.lit (.int .i64 0)))]) fun H' A' =>
      LW H' A' (k + 1) did κm (k, 1) (nextD d f (opT t0 t1 + 1) (opB t0 b0 t1 b1)) ∧ LgAt H' A' k did (k, 0) (opL f n t0 b0 t1 b1 pl) ∧ (∀ lid κr l, LgAt H A lid did κr l → LgAt H' A' lid did κr l) ∧ (∀ j, j ≠ did → j ≠ k → H' j = H j) ∧ (∀ τ, τ ≠ κm → τ ≠ κc → τ.1 < k → A' τ = A τ) ∧ ∀ τ, A τ ≠ none → A' τ ≠ none := by
  obtain ⟨n1, n2, n3⟩ := hL.ne
  have nk : ((k, 1) : Tok) ≠ (k, 0) := fun e => by cases e
  have nm0 : κm ≠ (k, 0) := tok_ne (by show κm.1 ≠ k; omega)
  have nm1 : κm ≠ (k, 1) := tok_ne (by show κm.1 ≠ k; omega)
  have nc0 : κc ≠ (k, 0) := tok_ne (by show κc.1 ≠ k; omega)
  have nc1 : κc ≠ (k, 1) := tok_ne (by show κc.1 ≠ k; omega)
  have ko := Try.kOpen (id := k) (κr := (k, 0)) (κ' := (k, 1)) off hL.wf hL.dk ho hb1 hb2 (hL.new 0).1 (hL.new 0).2 (by show k < off + 1000; omega) (hL.new 1).2 nk
  have hdc : (nextD d f (opT t0 t1 + 1) (opB t0 b0 t1 b1)).cache.length = 0 := rfl
  generalize nextD d f (opT t0 t1 + 1) (opB t0 b0 t1 b1) = dn at *
  generalize opL f n t0 b0 t1 b1 pl = l' at *
  have kA : ∀ τ, A τ ≠ none → upd (upd (upd (upd A (k, 0) (some (.co 1 l'.recs.length))) κc (some (.co 2 (d.cache.length + 1)))) κm (some (.mp (encNS dn.stays)))) (k, 1) (some (.co 2 0)) τ ≠ none := fun τ h => upd_keep _ (upd_keep _ (upd_keep _ (upd_keep _ h)))
  have rκ : upd (upd (upd (upd A (k, 0) (some (.co 1 l'.recs.length))) κc (some (.co 2 (d.cache.length + 1)))) κm (some (.mp (encNS dn.stays)))) (k, 1) (some (.co 2 0)) (k, 0) = some (.co 1 l'.recs.length) := by
    rw [upd_other _ _ nk.symm, upd_other _ _ nm0.symm, upd_other _ _ nc0.symm, upd_same]
  refine ⟨_, _, ko, ⟨?_, ?_, ?_⟩, ⟨upd_same _ _ _, rκ⟩, ?_, fun j q1 q2 => by rw [upd_other _ _ q2, upd_other _ _ q1], fun τ q1 q2 q3 => by rw [upd_other _ _ (tok_ne (by show τ.1 ≠ k; omega)), upd_other _ _ q1, upd_other _ _ q2, upd_other _ _ (tok_ne (by show τ.1 ≠ k; omega))], kA⟩
  · exact Wf_set (A := upd (upd (upd (upd A (k, 0) (some (.co 1 l'.recs.length))) κc (some (.co 2 (d.cache.length + 1)))) κm (some (.mp (encNS dn.stays)))) (k, 1) (some (.co 2 0))) (Wf_set hL.wf (DkAt.ok (kA κm (by rw [hL.dk.m]; simp)) (by rw [upd_same]; simp)) kA)
      (LgAt.ok (upd_keepH _ (by rw [upd_same]; simp)) (by rw [rκ]; simp)) (fun _ h => h)
  · exact Above_updA (Above_updA (Above_updA (Above_updA (Above_updH (Above_updH (Above_mono hL.ab (by omega)) (by omega)) (by omega)) (by show k < k + 1; omega)) (by omega)) (by omega)) (by show k < k + 1; omega)
  · refine ⟨by rw [upd_other _ _ (by omega), upd_same], by rw [upd_other _ _ nm1, upd_same], by rw [upd_same, hdc]⟩
  · intro lid κr l hl
    obtain ⟨m1, m2⟩ := hl.lt hL.ab
    exact hl.mv (by rw [upd_other _ _ (by omega), upd_other _ _ (hl.ne hL.dk)]) (by rw [upd_other _ _ (tok_ne (by show κr.1 ≠ k; omega)), upd_other _ _ (hl.nm hL.dk), upd_other _ _ (hl.nc hL.dk), upd_other _ _ (tok_ne (by show κr.1 ≠ k; omega))])
end st
end Go.Proofs

namespace Go.Proofs
open Go.PW
section rdy
variable {d d' : Dk} {logs N M T B : Nat} {new : List (Nat × List UInt8)} {S : Nat → Option Pc} {b bd : Nat → List UInt8} {ch m : List (Int × List UInt8)} {t : Nat}
theorem RX.next2 (h : RX logs N M b d) (hM : M + 1 < 1000000) : ∃ T B old, T ≤ M ∧ Rdy logs N T B old d ∧ Redo logs N old (fun j => rd d ((logs + j : Nat) : Int)) b ∧ (∀ j, j < N - logs → (rd d ((logs + j : Nat) : Int)).length = 128) ∧ Cut logs N (M + 1) b (wrD d ((0 + (T + 1) % 2 : Nat) : Int) (turnB (T + 1) B)) := by
  obtain ⟨T, B, old, h1, h2, h3, h4⟩ := h
  refine ⟨T, B, old, h1, h2, h3, h4, fun keep => ?_⟩
  have hc := h2.c
  have hs : (crD (wrD d ((0 + (T + 1) % 2 : Nat) : Int) (turnB (T + 1) B)) keep).stays = layAll d.stays (keptL [(((0 + (T + 1) % 2 : Nat) : Int), pad (turnB (T + 1) B))] keep) := by
    show layAll d.stays (keptL (d.cache ++ [_]) keep) = _
    rw [hc]; rfl
  rcases kept_one (((0 + (T + 1) % 2 : Nat) : Int), pad (turnB (T + 1) B)) keep with e | e
  · rw [e] at hs
    exact RX.mono (RX.congr ⟨T, B, old, h1, h2, h3, h4⟩ rfl hs rfl) (by omega)
  · rw [e] at hs
    obtain ⟨_, _, _, _, R, _, _, _, _, p⟩ := h2.ex
    have hn1 := p.n1
    have p' := p.congr (d' := crD (wrD d ((0 + (T + 1) % 2 : Nat) : Int) (turnB (T + 1) B)) keep) rfl (by rw [hs, next_stays, hc]; rfl) rfl
    have hrd : ∀ j, rd (crD (wrD d ((0 + (T + 1) % 2 : Nat) : Int) (turnB (T + 1) B)) keep) ((logs + j : Nat) : Int) = rd d ((logs + j : Nat) : Int) := fun j => by
      rw [← rd_wlog h2.g 0 (T + 1) B ((logs + j : Nat) : Int) (by omega), rd_eq, rd_eq, show (crD (wrD d ((0 + (T + 1) % 2 : Nat) : Int) (turnB (T + 1) B)) keep).stays = (nextD d 0 (T + 1) B).stays by rw [hs, next_stays, hc]; rfl]; rfl
    exact ⟨T + 1, B, old, by omega, p'.rdy0 (by omega), h3.same fun j _ => hrd j, fun j hj => by rw [hrd]; exact h4 j hj⟩
end rdy
theorem upd_pt {α β : Type} [DecidableEq α] {a : α} {x : β} {A : α → Option β} (h : A a ≠ none) : (∀ X Y : α → Option β, ∀ i, X i = Y i → upd X a (some x) i = upd Y a (some x) i) ∧ ∀ i, upd A a (some x) i ≠ none ↔ A i ≠ none := by
  refine ⟨fun X Y i e => ?_, fun i => ?_⟩ <;> by_cases q : i = a
  · rw [q, upd_same, upd_same]
  · rw [upd_other _ _ q, upd_other _ _ q, e]
  · rw [q, upd_same]; simp [h]
  · rw [upd_other _ _ q]
section st
variable {H : HMap} {A : AMap} {k did : Nat} {κm κc : Tok} {d : Dk} {logs N M : Nat} {b : Nat → List UInt8}
def CX (H : HMap) (A : AMap) (k did N logs M : Nat) (b : Nat → List UInt8) : Prop :=
  ∃ κm κc d, LW H A k did κm κc d ∧ Cut logs N M b d ∧ d.n = N ∧ d.cache.length ≤ 2000 ∧ (∀ j, j < 200 → H j = none ∧ ∀ q, A (j, q) = none) ∧ (N ≤ logs + 1024 ∧ logs < N) ∧ N ≤ 4096
theorem CX.nums (h : CX H A k did N logs M b) : Wf H A ∧ Above k H A ∧ H did ≠ none ∧ (∀ j, j < 200 → H j = none ∧ ∀ q, A (j, q) = none) ∧ did < k := by
  obtain ⟨κm, κc, d, L, _, _, _, lo, _⟩ := h
  exact ⟨L.wf, L.ab, by rw [L.dk.h]; simp, lo, L.ne.1⟩
theorem Try.vCrash (off : Nat) (h : CX H A k did N logs M b) : ∃ L : List Int, EffOK Try.prog 11 off H A [.c (.ptr did 0)] (.c (.d (.sl (ints L)))) H A ∧ L.length ≤ 2000 ∧ ∀ keep : List Bool, keep.length ≤ L.length →
    ∃ H' A', EffOK Try.prog 10 off H A [.c (.ptr did 0), .c (.d (.sl (bools keep)))] (pD (.lit (.int .i64 0))) H' A' ∧ DY H' A' (k + 1) did N logs M b := by
  obtain ⟨κm, κc, d, L, hc, hn, hl, lo, big, hN⟩ := h
  obtain ⟨n1, n2, n3⟩ := L.ne
  refine ⟨d.cache.map (·.1), Try.kDirty off L.wf L.dk (by omega) (by omega), by rw [List.length_map]; exact hl, fun keep hkp => ?_⟩
  rw [List.length_map] at hkp
  have b200 := lo_big lo
  have hd200 : 200 ≤ did := b200.1 (by rw [L.dk.h]; simp)
  have hm200 : 200 ≤ κm.1 := b200.2 (by rw [L.dk.m]; simp)
  have hc200 : 200 ≤ κc.1 := b200.2 (by rw [L.dk.c]; simp)
  obtain ⟨H', A', e, L', g, fH, fA, kA⟩ := Try.tCrash off L (by omega) (by omega) keep hkp
  exact ⟨H', A', e, κm, (k, 0), crD d keep, L', hc keep, rfl, fun j hj => ⟨by rw [fH j (by omega)]; exact (lo j hj).1, fun q => by rw [fA _ (tok_ne (by show j ≠ κm.1; omega)) (by show j < k; omega)]; exact (lo j hj).2 q⟩, big⟩
theorem Try.vOpen (off : Nat) (hL : LW H A k did κm κc d) (lo : ∀ j, j < 200 → H j = none ∧ ∀ q, A (j, q) = none) (hk : k + 60 ≤ off) (hN : N - logs ≤ 30) (big : N ≤ logs + 1024 ∧ logs < N) (hR : RX logs N M b d) (hM : M + 2 < 1000000) :
    ∃ H' A' x v, EffOK Try.prog 6 off H A [.c (.ptr did 0), pD (.lit (.int .i64 logs))] (.tup [.c x, .c (.d (.lit (.int .i64 v)))]) H' A' ∧ KP k H A H' A' ∧ CX H' A' (k + 13) did N logs (M + 2) b := by
  obtain ⟨n1, n2, n3⟩ := hL.ne
  obtain ⟨T, B, old, h1, h2, h3, h4, hcut⟩ := hR.next2 (by omega)
  obtain ⟨t0, b0, t1, b1, R, o1, o2, o3, o4, o5⟩ := h2.ex
  have b200 := lo_big lo
  have hd200 : 200 ≤ did := b200.1 (by rw [hL.dk.h]; simp)
  have hm200 : 200 ≤ κm.1 := b200.2 (by rw [hL.dk.m]; simp)
  have hc200 : 200 ≤ κc.1 := b200.2 (by rw [hL.dk.c]; simp)
  have hdN : d.n = N := o5.dn
  have hN4 : N ≤ 4096 := o5.hN
  have hcl : d.cache = [] := h2.c
  -- Open, where the log's Open fails
  have bad : ∀ {H2 : HMap} {A2 : AMap} {d2 : Dk}, EffOK Try.prog 27 (off + 1000) H A [.c (.ptr did 0), pD (.lit (.int .i64 0)), pD (.lit (.int .i64 logs))] (.tup [.c (.d (.lit (.pointer none))), .c (.d (.lit (.int .i64 6)))]) H2 A2 →
      LW H2 A2 k did κm κc d2 → (∀ j, j ≠ did → H2 j = H j) → (∀ τ, τ ≠ κc → A2 τ = A τ) → d2.n = N → d2.cache.length ≤ 2000 → Cut logs N (M + 2) b d2 →
      ∃ H' A' x v, EffOK Try.prog 6 off H A [.c (.ptr did 0), pD (.lit (.int .i64 logs))] (.tup [.c x, .c (.d (.lit (.int .i64 v)))]) H' A' ∧ KP k H A H' A' ∧ CX H' A' (k + 13) did N logs (M + 2) b := fun {H2 A2 d2} ee L2 fH fA e1 e2 e3 => by
    have kl := Try.kLen (off + 1000) hL.wf hL.dk
    rw [hdN] at kl
    have c1 : IntKind.i64.wrap ((N : Int) - (logs : Int)) = ((N - logs : Nat) : Int) := by rw [Go.IntWalk.i64_in _ (by omega)]; omega
    have z1 : ((N : Int) == 0) = false := by rw [beq_eq_false_iff_ne]; omega
    have z2 : (((N - logs : Nat) : Int) < 1) = False := eq_false (by omega)
    have z3 : ((1024 : Int) < ((N - logs : Nat) : Int)) = False := eq_false (by omega)
    have hab0 : ∀ {o : Nat}, k ≤ o → Above o H A := fun h => Above_mono hL.ab h
    have kH : ∀ j, H j ≠ none → H2 j ≠ none := fun j hj => by
      by_cases e : j = did
      · rw [e, L2.dk.h]; simp
      · rw [fH j e]; exact hj
    have kA : ∀ τ, A τ ≠ none → A2 τ ≠ none := fun τ hτ => by
      by_cases e : τ = κc
      · rw [e, L2.dk.c]; simp
      · rw [fA τ e]; exact hτ
    refine ⟨H2, A2, .d (.lit (.pointer none)), 6, ?_, ⟨kH, kA, fun j _ hn => ?_, fun τ _ hn => ?_⟩, κm, κc, d2, ⟨L2.wf, Above_mono L2.ab (by omega), L2.dk⟩, e3, e1, e2, fun j hj => ⟨by rw [fH j (by omega)]; exact (lo j hj).1, fun q => by rw [fA _ (tok_ne (by show j ≠ κc.1; omega))]; exact (lo j hj).2 q⟩, big, hN4⟩
    · refine effr_ok (E := envOf Try.prog [26, 27, 28] off [] []) (envOf_ok Try.mixed) Try.func6 rfl Try.call6 (by kernel_rfl) (by exact Nat.le_of_ble_eq_true rfl) (fun hab => ?_)
      repeat' (first
       |with_reducible first|refine vSq fun K hK=>?_|refine vRg ?_|refine vBl ?_|refine vSc ?_|refine vIf ?_|refine vSk ?_|refine vEx ?_|refine vRt ?_
       |(with_reducible first|refine gNt (fun h=>?_) (fun h=>?_)|refine gCs (fun h=>?_) (fun h=>?_))<;>(try simp only[h])
       |refine C_call rfl kl rfl (hab0 (by omega)) ?_
       |refine C_call rfl ee rfl (hab0 (by omega)) ?_
       |with_reducible first|(refine hK _ ?_;clear hK K)|(clear hK K;refine hK _ ?_;clear hK K)|(clear hK K;clear hK K;refine hK _ ?_;clear hK K)|(clear hK K;clear hK K;clear hK K;refine hK _ ?_;clear hK K)
       |(with_reducible refine todo ?_;simp +decide only[go_sem, c1, z1, z2, z3, z60]))
      exact RetR_sub rfl wk_pair oks_pair L2.wf (fun _ _ => rfl) (fun _ _ => rfl) kH kA
    · by_cases e : j = did
      · rw [e, hL.dk.h] at hn; cases hn
      · rw [fH j e]; exact hn
    · by_cases e : τ = κc
      · rw [e, hL.dk.c] at hn; cases hn
      · rw [fA τ e]; exact hn
  cases hb1 : burnt d with
  | true =>
    have ee := Try.kOpenB (κr := (k, 0)) (G := fun X => X) (GA := fun Y => Y) (off + 1000) hL.wf hL.dk o1 hL.wf ⟨fun _ _ _ h => h, fun _ => .rfl⟩ ⟨fun _ _ _ h => h, fun _ => .rfl⟩ (fun _ _ _ b1 b2 b3 w g D => Try.kNextB0 (off + 1000 + 1000) w g D _ b1 b2 b3 (by omega) hb1) (hL.new 0).2 (by show k < off + 1000 + 1000; omega)
    exact bad ee hL (fun _ _ => rfl) (fun _ _ => rfl) hdN (by rw [hcl]; exact Nat.zero_le _) (hR.cut.mono (by omega))
  | false =>
    cases hb2 : burnt (wrD d ((0 + (opT t0 t1 + 1) % 2 : Nat) : Int) (turnB (opT t0 t1 + 1) (opB t0 b0 t1 b1))) with
    | true =>
      have wG := Wf_set (id := did) hL.wf (DkAt.ok (d := wrD d ((0 + (opT t0 t1 + 1) % 2 : Nat) : Int) (turnB (opT t0 t1 + 1) (opB t0 b0 t1 b1))) (A := upd A κc (some (.co 2 (d.cache.length + 1)))) (upd_keep κm (by rw [hL.dk.m]; simp)) (by rw [upd_same]; simp)) upd_keep
      have ee := Try.kOpenB (κr := (k, 0)) (off + 1000) hL.wf hL.dk o1 wG (upd_pt (by rw [hL.dk.h]; simp)) (upd_pt (by rw [hL.dk.c]; simp)) (fun e1 e2 e3 b1 b2 b3 w g D => by
        have := Try.kNextB1 (off + 1000 + 1000) w g D _ b1 b2 b3 (by omega) (by rw [hcl]; exact Nat.le_of_ble_eq_true rfl) hb1 (by rw [e1, e2, e3]; exact hb2)
        rw [e1, e2, e3] at this
        rw [e3]
        exact this) (hL.new 0).2 (by show k < off + 1000 + 1000; omega)
      rw [o2, o3] at ee wG
      have hcl2 : (d.cache.length + 1) = (wrD d ((0 + (T + 1) % 2 : Nat) : Int) (turnB (T + 1) B)).cache.length := by simp [wrD]
      rw [hcl2] at ee wG
      refine bad ee ⟨wG, Above_updA (Above_updH hL.ab n1) n3, ⟨upd_same _ _ _, ?_, upd_same _ _ _⟩⟩ (fun j hj => upd_other _ _ hj) (fun τ hτ => upd_other _ _ hτ) hdN (by rw [← hcl2, hcl]; decide) (hcut.mono (by omega))
      rw [upd_other _ _ (fun e => by have h1 := hL.dk.m; rw [e, hL.dk.c] at h1; cases h1)]
      exact hL.dk.m
    | false =>
      obtain ⟨HE, AE, ee, LE, gE, _, fH, fA, kA⟩ := Try.tOpenG (off + 1000) hL (by omega) o1 hb1 hb2
      rw [o2, o3] at LE
      rw [o4] at gE
      have hrd : ∀ j, rd (nextD d 0 (T + 1) B) ((logs + j : Nat) : Int) = rd d ((logs + j : Nat) : Int) := fun j => rd_wlog h2.g _ _ _ _ (by have := o5.n1; omega)
      have loE : ∀ j, j < 200 → HE j = none ∧ ∀ q, AE (j, q) = none := fun j hj => ⟨by rw [fH j (by omega) (by omega)]; exact (lo j hj).1, fun q => by rw [fA _ (tok_ne (by show j ≠ κm.1; omega)) (tok_ne (by show j ≠ κc.1; omega)) (by show j < k; omega)]; exact (lo j hj).2 q⟩
      have kE : KP k H A HE AE := by
        refine ⟨fun j hj => ?_, kA, fun j hj hn => ?_, fun τ hτ hn => ?_⟩
        · by_cases x1 : j = did
          · rw [x1, LE.dk.h]; simp
          · by_cases x2 : j = k
            · rw [x2, gE.h]; simp
            · rw [fH j x1 x2]; exact hj
        · rw [fH j (fun e => by rw [e, hL.dk.h] at hn; cases hn) (by omega)]; exact hn
        · rw [fA τ (fun e => by rw [e, hL.dk.m] at hn; cases hn) (fun e => by rw [e, hL.dk.c] at hn; cases hn) hτ]; exact hn
      obtain ⟨H', A', x, v, e, q, lo', κc', d', L', a1, a2, a3, _⟩ := Try.wOpenIn off hL hk hN big hdN ee LE gE kE loE o5 rfl (h3.same fun j _ => hrd j) (fun j hj => by rw [hrd]; exact h4 j hj) (show T + 1 + 1 ≤ M + 2 by omega) hM
      exact ⟨H', A', x, v, e, q, κm, κc', d', L', a3, a1, a2, lo', big, hN4⟩
end st
end Go.Proofs
