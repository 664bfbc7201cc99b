/-
  Parts of the proof, laid together: PwBo, PwZt, PwEa.
-/
import Derived.Test.YtemecklglapleaaGreatQ33
import Derived.Test.YtemecklglapleaaGreatQ22

set_option maxRecDepth 30000
set_option maxHeartbeats 16000000
namespace Go.Proofs
open Go.PW
structure OpB where
 kind : Int
 t : Txn
 n : Int
def OpB.enc (o : OpB) : List D := [dI o.kind, dI o.t.seq, dI o.t.time, z1p o.t.chs, dI o.n]
def z0d (l : List OpB) : D := .sl (l.map OpB.enc)
def zq1 (l : List Txn) : D := .sl (l.map Txn.enc)
attribute [go_sem] OpB.enc z0d zq1
theorem yq4 (l : List Txn) : Szd 3 (l.map Txn.enc) := fun e he => by
 obtain ⟨p, _, rfl⟩ := List.mem_map.1 he
 rfl
theorem Tryz.appTxns : AppT Tryz.prog 23 35 3 40 := ⟨Tryz.underlying23, Tryz.cl35, Tryz.by35, Tryz.zo35, by decide, by decide⟩
structure Sc where
 seq : Int
 time : Int
 L : List Tb
 acc : List Txn
def z69 (o : OpB) : Bool := (o.kind == 0) && decide ((weight o.t : Int) ≤ 2000)
def zxb (σ : Sc) (o : OpB) : Sc := if z69 o = true then (if (zk4 σ.seq σ.time σ.L o.t == 0) = true then ⟨o.t.seq, o.t.time, z3v σ.L o.t, σ.acc ++ [o.t]⟩ else σ) else σ
def sc0 : Sc := ⟨0, -1, [], []⟩
def zvt (l : List OpB) : Sc := l.foldl zxb sc0
def z6d (l : List OpB) : List Txn := (zvt (l.take 20)).acc
theorem z77 {l : List OpB} {i : Nat} {o : OpB} (h : l[i]? = some o) : zvt (l.take (i + 1)) = zxb (zvt (l.take i)) o := by
 unfold zvt
 rw [zzw h, List.foldl_append]
 rfl
structure ScI (A : AMap) (c i : Nat) (σ : Sc) (s : AMap × Bs × Nat) : Prop where
 w : BW s.1 s.2.1 c s.2.2
 kA : ∀ κ, A κ ≠ none → s.1 κ ≠ none
 low : Low c A s.1
 p : s.2.1.p = c
 abs : s.2.1.abs = σ.L
 seq : s.2.1.seq = σ.seq
 time : s.2.1.time = σ.time
 l : ∃ M N P, LOK M N P P σ.L ∧ M ≤ 100 * i ∧ N ≤ 100 * (i * (i + 1)) ∧ P ≤ 200 * i
 s0 : 0 ≤ σ.seq
 s1 : σ.seq ≤ 1099511627776
 al : σ.acc.length ≤ i
theorem z96 {s m : Int} {L : List Tb} {t : Txn} (h : zk4 s m L t = 0) : (zxz s m t != 0) = false ∧ (zvi t.time L t.chs).1 = 0 := by
 unfold zk4 at h
 split at h
 · rename_i h1
   rw [h] at h1
   simp at h1
 · rename_i h1
   exact ⟨by simpa using h1, h⟩
theorem Tryz.sc_next (off : Nat) {A : AMap} {c i : Nat} {σ : Sc} {s : AMap × Bs × Nat} (o : OpB) (ho : o.t.sm) (hi : i < 20) (h : ScI A c i σ s) :
 ∃ s', ScI A c (i + 1) (zxb σ o) s' ∧ (z69 o = true → zqf Tryz.prog 23 off noH s.1 [rfD c, pA o.t.enc] (pD (dI (zk4 σ.seq σ.time σ.L o.t))) noH s'.1) ∧ (z69 o = false → s' = s) := by
 obtain ⟨M, N, P, hL, hM, hN, hP⟩ := h.l
 cases hT : z69 o with
 | false =>
   have e : zxb σ o = σ := by unfold zxb; rw [hT]; rfl
   rw [e]
   refine ⟨s, ⟨h.w, h.kA, h.low, h.p, h.abs, h.seq, h.time, ⟨M, N, P, hL, by omega, Nat.le_trans hN (Nat.mul_le_mul_left _ (Nat.mul_le_mul (by omega) (by omega))), by omega⟩, h.s0, h.s1, by have := h.al; omega⟩, fun e => (by cases e), fun _ => rfl⟩
 | true =>
   have hb : 100 * (i * (i + 1)) ≤ 100 * (19 * 20) := Nat.mul_le_mul_left _ (Nat.mul_le_mul (by omega) (by omega))
   obtain ⟨A', b', c', kx, hx⟩ := Tryz.rApply off s.2.1 o.t h.w (by rw [h.abs]; exact hL) (by omega) (by omega) ho (by rw [h.seq]; exact h.s0) (by rw [h.seq]; exact h.s1)
   rw [h.p, h.seq, h.time, h.abs] at kx
   have hok := hx.ok
   have hno := hx.no
   rw [h.seq, h.time, h.abs] at hok hno
   refine ⟨(A', b', c'), ?_, fun _ => kx, fun e => by cases e⟩
   have hlow : Low c A A' := h.low.trans hx.low
   have hkA : ∀ κ, A κ ≠ none → A' κ ≠ none := fun κ hκ => hx.kA κ (h.kA κ hκ)
   by_cases he : zk4 σ.seq σ.time σ.L o.t = 0
   · have e : zxb σ o = ⟨o.t.seq, o.t.time, z3v σ.L o.t, σ.acc ++ [o.t]⟩ := by unfold zxb; rw [hT, he]; rfl
     obtain ⟨e1, e2, e3⟩ := hok he
     have hw := z6y (z96 he).1
     have hg := Txn.good hw.1 ho
     have hL' := yw5 hL hg.2
     have hs1 : o.t.seq ≤ 1099511627776 := by
      have h1 := hw.1
      unfold z0n at h1
      simp only [Bool.and_eq_true, decide_eq_true_eq] at h1
      exact h1.2.1.1.1.2
     have h0 := h.s0
     have em : 100 * ((i + 1) * (i + 1 + 1)) = 100 * (i * (i + 1)) + 200 * (i + 1) := by
      have : (i + 1) * (i + 1 + 1) = i * (i + 1) + 2 * (i + 1) := by rw [Nat.mul_comm (i + 1) (i + 1 + 1), show i + 1 + 1 = i + 2 from rfl, Nat.add_mul]
      omega
     rw [e]
     refine ⟨hx.w, hkA, hlow, by rw [← h.p]; exact hx.p, e1, e2, e3, ⟨_, _, _, hL', by omega, ?_, by omega⟩, by show 0 ≤ o.t.seq; omega, hs1, ?_⟩
     · rw [em]; omega
     · have := h.al
       show (σ.acc ++ [o.t]).length ≤ _
       rw [Zla, List.length_singleton]; omega
   · have e : zxb σ o = σ := by unfold zxb; rw [hT, if_pos rfl, if_neg (by simpa using he)]
     have eb : b' = s.2.1 := hno he
     rw [e]
     refine ⟨hx.w, hkA, hlow, by rw [← h.p]; exact hx.p, by show b'.abs = _; rw [eb]; exact h.abs, by show b'.seq = _; rw [eb]; exact h.seq, by show b'.time = _; rw [eb]; exact h.time, ⟨M, N, P, hL, by omega, Nat.le_trans hN (Nat.mul_le_mul_left _ (Nat.mul_le_mul (by omega) (by omega))), by omega⟩, h.s0, h.s1, by have := h.al; omega⟩
theorem yk1 {A B : AMap} {S : St} {l : List (Nat × PV)} {h : List (Nat × List CV)} (hA : ∀ κ, B κ = none ∨ B κ = S.A κ ∨ (S.A κ = none ∧ ∃ sz, B κ = some (.co sz 0) ∨ B κ = some (.mu sz []))) (kA : ∀ κ, A κ ≠ none → B κ ≠ none) (h1 : z84 (zzy h noH) S.A B S.ρ l) (h2 : z4h (zzy h noH) S.A B S.H h) : Weak noH A S (over l h noH B) :=
 ⟨fun t => zj3 h1 t, fun id => z1q h2 id, fun κ => (hA κ).imp_right (fun h => h.imp_right .inl), fun _ h => absurd rfl h, kA⟩
theorem y68 {P : Program} {f : FuncId} {n : Nat} {A A' : AMap} {args : List PV} {v : PV} (h : zqf P f n noH A args v noH A') (hargs : ∀ x ∈ args, x.oks (fun i => noH i ≠ none) (fun κ => A κ ≠ none)) {τ : Tok} {x : Option Arr} (h1 : A τ = none) (h2 : A' τ = none) : zqf P f n noH (upd A τ x) args v noH (upd A' τ x) := by
 refine y3o h zqd hargs (fun κ hκ => zza _ _ (fun e => hκ (by rw [e]; exact h1))) (fun κ e1 e2 => ?_) (fun κ e => ?_)
 · by_cases e : κ = τ
   · subst e; exact ⟨by rw [zzc, zzc], h2⟩
   · rw [zza _ _ e] at e2; exact absurd e1 e2
 · by_cases e3 : κ = τ
   · subst e3
     rcases e with e | e
     · exact absurd h1 e
     · rw [zzc] at e ⊢
       rw [e, h2]
   · exact zza _ _ e3
section
variable {A : AMap}
theorem Tryz.rBRight (off : Nat) {c : Nat} (l : List OpB) (hc : Cn A c) (hl : l.length ≤ 1048576) (hs : ∀ o ∈ l, o.t.sm) :
 ∃ s : AMap × Bs × Nat, zqf Tryz.prog 6 off noH A [pD (z0d l)] (pD (zq1 (z6d l))) noH s.1 ∧ Cn s.1 s.2.2 ∧ (∀ κ, A κ ≠ none → s.1 κ ≠ none) ∧ Low c A s.1 := by
 have hw0 := y7r hc
 have hkA0 : ∀ κ, A κ ≠ none → newA A c κ ≠ none := fun κ hκ => by
  unfold newA upd
  repeat' split
  all_goals first
   | exact hκ
   | simp
 obtain ⟨f, f0, fP, fR⟩ := y5y (P := fun i s => ScI A c i (zvt (l.take i)) s) (R := fun i s s' => ∀ o, l[i]? = some o → (z69 o = true → zqf Tryz.prog 23 (off + 1000) noH s.1 [rfD c, pA o.t.enc] (pD (dI (zk4 (zvt (l.take i)).seq (zvt (l.take i)).time (zvt (l.take i)).L o.t))) noH s'.1) ∧ (z69 o = false → s' = s))
  (x0 := (newA A c, newB c, c + 1)) ⟨hw0, hkA0, fun κ h0 h1 => by show newA A c κ = A κ; unfold newA; rw [zza _ _ h0, zza _ _ (by rintro rfl; simp at h1)], rfl, rfl, rfl, rfl, ⟨0, 0, 0, ⟨Zlr _, fun t ht => by cases ht⟩, by omega, by omega, by omega⟩, by show (0 : Int) ≤ 0; decide, by show (0 : Int) ≤ 1099511627776; decide, Nat.zero_le _⟩ (min l.length 20) (fun i s hi hP => by
    have hg := Zge (show i < l.length by omega)
    have ho := hs _ (Zme hg)
    have hx := z77 hg
    generalize l[i] = o at hg ho hx
    obtain ⟨s', h1, h2⟩ := Tryz.sc_next (off + 1000) o ho (by omega) hP
    refine ⟨s', by rw [hx]; exact h1, fun y hy => ?_⟩
    rw [hg] at hy
    cases hy
    exact h2)
 refine ⟨f (min l.length 20), ?_, (fP _ (Zlr _)).w.cn, (fP _ (Zlr _)).kA, (fP _ (Zlr _)).low⟩
 have kn := Tryz.rBNew (off + 1000) hc
 refine zqh (E := envOf Tryz.prog [21, 23] off [] []) (zzx Tryz.mixed) Tryz.func6 rfl Tryz.call6 (by kernel_rfl) (by exact Zle rfl) (fun hab => ?_)
 have ab1 : Above (off + 1000) noH A := fun i hi => hab i (by omega)
 repeat' (first|(with_reducible first|refine vSq fun K hK=>?_|apply vRg|apply vBl|apply vSc|apply vIf|apply vSk|apply vEx|apply vRt|((first|apply gNt|apply gCs)<;>(intro h;try simp only[h]))|((first|apply hK|(clear hK K;first|apply hK|(clear hK K;first|apply hK|(clear hK K;apply hK))));clear hK K)|(refine todo ?_;simp +decide only[go_sem]))|refine zz7 rfl kn rfl ab1 ?_)
 refine zzj (min l.length 20) (fun _ => True) (fun i => over [(0, pD (z0d l)), (3, .c (.own (off + 49, 0) ((zvt (l.take i)).acc.map Txn.enc))), (4, rfD c), (5, pD (dI i))] [] noH (upd (f i).1 (off + 49, 0) (some (.co 3 (zvt (l.take i)).acc.length)))) Zti ?_ ?_
 · have hτ : newA A c (off + 49, 0) = none := by
    unfold newA
    rw [zza _ _ (by simp), zza _ _ (by simp)]
    exact (hab _ (by omega)).2 0
   refine yk1 (fun κ => ?_) (fun κ hκ => ?_) ?_ ?_
   · rw [f0]
     by_cases e : κ = (off + 49, 0)
     · subst e
       exact .inr (.inr ⟨hτ, 3, .inl (by rw [zzc]; rfl)⟩)
     · exact .inr (.inl (by rw [zza _ _ e]))
   · rw [f0]
     unfold upd
     split
     · simp
     · exact hkA0 κ hκ
   · simp +decide only [go_sem]
     exact wk_c (.inr (.inr (.inr (.inl ⟨rfl, (off + 49, 0), 3, rfl, hτ, by rw [zzc]; rfl⟩))))
   · simp +decide only [go_sem]
 · intro i hi _
   have hP := fP i hi
   have fτ : ∀ j, j ≤ min l.length 20 → (f j).1 (off + 49, 0) = none := fun j hj => by
    rw [(fP j hj).low (off + 49, 0) (by simp) (.inl (by simp))]
    exact (hab _ (by omega)).2 0
   rcases Zlg i (min l.length 20) with hlt | hge
   · have hg := Zge (show i < l.length by omega)
     have hd1 := zze (show i < l.length by omega)
     have hd2 : ((i : Int) < 20) = True := eq_true (by omega)
     have hnx := zzl (show i < l.length by omega) (show l.length ≤ 4294967296 by omega)
     have ho := hs _ (Zme hg)
     have hx := z77 hg
     have hR := fR i hlt _ hg
     have hP1 := fP (i + 1) hlt
     generalize l[i] = o at hg ho hx hR
     obtain ⟨hR1, hR2⟩ := hR
     have kw := Tryz.rWeight o.t ho
     have hT : z69 o = ((o.kind == 0) && decide ((weight o.t : Int) ≤ 2000)) := rfl
     have ab2 : Above (off + 1000) noH (upd (f i).1 (off + 49, 0) (some (.co 3 (zvt (l.take i)).acc.length))) := fun j hj => ⟨rfl, fun n => by
      rw [zza _ _ (by simp; omega), hP.low (j, n) (by simp; omega) (.inl (by show j ≠ 0; omega))]; exact (hab j (by omega)).2 n⟩
     have hfree : ∀ m, off ≤ m → 0 < m → m ≠ off + 49 → ∀ j, upd (f i).1 (off + 49, 0) (some (.co 3 (zvt (l.take i)).acc.length)) (m, j) = none := fun m hm hm0 hm2 j => by
      rw [zza _ _ (by simp; omega), hP.low (m, j) (by simp; omega) (.inl (by show m ≠ 0; omega))]; exact (hab m hm).2 j
     have hnn : ∀ m, Weak noH A m (over [(0, pD (z0d l)), (3, .c (.own (off + 49, 0) ((zvt (l.take (i + 1))).acc.map Txn.enc))), (4, rfD c), (5, pD (dI (i + 1 : Nat)))] [] noH (upd (f (i + 1)).1 (off + 49, 0) (some (.co 3 (zvt (l.take (i + 1))).acc.length)))) →
      PW.Next noH A (min l.length 20) (fun _ => True) (fun i => over [(0, pD (z0d l)), (3, .c (.own (off + 49, 0) ((zvt (l.take i)).acc.map Txn.enc))), (4, rfD c), (5, pD (dI i))] [] noH (upd (f i).1 (off + 49, 0) (some (.co 3 (zvt (l.take i)).acc.length)))) i m := fun m hm => zzi (I := fun _ => True) hlt Zti hm
     have hkN : ∀ z, ∀ κ, A κ ≠ none → upd (f (i + 1)).1 (off + 49, 0) z κ ≠ none ∨ z = none := fun z κ hκ => by
      cases z with
      | none => exact .inr rfl
      | some z =>
        left
        unfold upd
        split
        · simp
        · exact hP1.kA κ hκ
     have hkN' : ∀ z : Arr, ∀ κ, A κ ≠ none → upd (f (i + 1)).1 (off + 49, 0) (some z) κ ≠ none := fun z κ hκ => (hkN (some z) κ hκ).resolve_right (by simp)
     have hal := hP.al
     rw [hx] at hnn
     have hfi := fτ i hi
     have hfi1 := fτ (i + 1) hlt
     generalize hσ : zvt (l.take i) = σ at *
     cases hk : (o.kind == 0) with
     | false =>
       have hT0 : z69 o = false := by rw [hT, hk]; rfl
       have es : zxb σ o = σ := by unfold zxb; rw [hT0]; rfl
       have ef := hR2 hT0
       rw [es, ef] at hnn
       rw [ef] at hkN'
       repeat' (first|(with_reducible first|refine vSq fun K hK=>?_|apply vRg|apply vBl|apply vSc|apply vIf|apply vSk|apply vEx|apply vRt|((first|apply gNt|apply gCs)<;>(intro h;try simp only[h]))|((first|apply hK|(clear hK K;first|apply hK|(clear hK K;first|apply hK|(clear hK K;apply hK))));clear hK K)|(refine todo ?_;simp +decide only[go_sem, hg, hd1, hd2, hnx, hk])))
       refine hnn _ (zz1 (fun κ => .inr ?_) (hkN' _) ?_ ?_) <;> simp +decide only [go_sem]
       exact wk_c (.inr (.inl ⟨rfl, by simp [CV.ok, upd]⟩))
     | true =>
       cases hwt : decide ((weight o.t : Int) ≤ 2000) with
       | false =>
         have hT0 : z69 o = false := by rw [hT, hk, hwt]; rfl
         have es : zxb σ o = σ := by unfold zxb; rw [hT0]; rfl
         have ef := hR2 hT0
         rw [es, ef] at hnn
         rw [ef] at hkN'
         repeat' (first|(with_reducible first|refine vSq fun K hK=>?_|apply vRg|apply vBl|apply vSc|apply vIf|apply vSk|apply vEx|apply vRt|((first|apply gNt|apply gCs)<;>(intro h;try simp only[h]))|((first|apply hK|(clear hK K;first|apply hK|(clear hK K;first|apply hK|(clear hK K;apply hK))));clear hK K)|(refine todo ?_;simp +decide only[go_sem, hg, hd1, hd2, hnx, hk, hwt]))|refine zzd kw rfl rfl (fun j => hfree (off + 29) (by omega) (by omega) (by omega) j) ?_)
         refine hnn _ (zz1 (fun κ => .inr ?_) (hkN' _) ?_ ?_) <;> simp +decide only [go_sem]
         exact wk_c (.inr (.inl ⟨rfl, by simp [CV.ok, upd]⟩))
       | true =>
         have hT1 : z69 o = true := by rw [hT, hk, hwt]; rfl
         have ka := y68 (x := some (.co 3 σ.acc.length)) (hR1 hT1) (zxp (yvx zkz)) hfi hfi1
         cases hae : (zk4 σ.seq σ.time σ.L o.t == 0) with
         | false =>
           have es : zxb σ o = σ := by unfold zxb; rw [hT1, hae]; rfl
           rw [es] at hnn
           repeat' (first|(with_reducible first|refine vSq fun K hK=>?_|apply vRg|apply vBl|apply vSc|apply vIf|apply vSk|apply vEx|apply vRt|((first|apply gNt|apply gCs)<;>(intro h;try simp only[h]))|((first|apply hK|(clear hK K;first|apply hK|(clear hK K;first|apply hK|(clear hK K;apply hK))));clear hK K)|(refine todo ?_;simp +decide only[go_sem, hg, hd1, hd2, hnx, hk, hwt, hae]))|refine zzd kw rfl rfl (fun j => hfree (off + 29) (by omega) (by omega) (by omega) j) ?_|refine zz7 rfl ka rfl ab2 ?_)
           refine hnn _ (zz1 (fun κ => .inr ?_) (hkN' _) ?_ ?_) <;> simp +decide only [go_sem]
           exact wk_c (.inr (.inl ⟨rfl, by simp [CV.ok, upd]⟩))
         | true =>
           have es : zxb σ o = ⟨o.t.seq, o.t.time, z3v σ.L o.t, σ.acc ++ [o.t]⟩ := by unfold zxb; rw [hT1, hae]; rfl
           rw [es] at hnn
           repeat' (first|(with_reducible first|refine vSq fun K hK=>?_|apply vRg|apply vBl|apply vSc|apply vIf|apply vSk|apply vEx|apply vRt|((first|apply gNt|apply gCs)<;>(intro h;try simp only[h]))|((first|apply hK|(clear hK K;first|apply hK|(clear hK K;first|apply hK|(clear hK K;apply hK))));clear hK K)|(refine todo ?_;simp +decide only[go_sem, hg, hd1, hd2, hnx, hk, hwt, hae]))|refine zzd kw rfl rfl (fun j => hfree (off + 29) (by omega) (by omega) (by omega) j) ?_|refine zz7 rfl ka rfl ab2 ?_|(refine zx1 Tryz.appTxns rfl (yq4 _) (zqk rfl) (by simp; omega) (by simp [upd]) ?_))
           refine hnn _ (zz1 (fun κ => .inr ?_) (hkN' _) ?_ ?_) <;> simp +decide only [go_sem]
           · by_cases e : κ = (off + 49, 0) <;> simp [e]
           · exact wk_c (.inr (.inl ⟨rfl, by simp [CV.ok, upd]⟩))
   · have hi' : i = min l.length 20 := by omega
     have hrs : z6d l = (zvt (l.take i)).acc := by
      unfold z6d
      rw [hi']
      rcases Nat.le_total l.length 20 with h | h
      · rw [Nat.min_eq_left h, Ztl h, List.take_length]
      · rw [Nat.min_eq_right h]
     have hfi := fτ i hi
     have fin : ∀ κ, (f i).1 κ = none ∨ (f i).1 κ = upd (f i).1 (off + 49, 0) (some (.co 3 (zvt (l.take i)).acc.length)) κ := fun κ => by
      by_cases e : κ = (off + 49, 0)
      · subst e; exact .inl hfi
      · right; rw [zza _ _ e]
     have go : ∀ S : St, S.A = upd (f i).1 (off + 49, 0) (some (.co 3 (zvt (l.take i)).acc.length)) → zve Tryz.prog S Tryz.f6.results.toList = some (.c (.own (off + 49, 0) ((zvt (l.take i)).acc.map Txn.enc))) → RetR Tryz.prog Tryz.f6 noH A (pD (zq1 (z6d l))) noH (f (min l.length 20)).1 S := fun S h1 h2 => by
      rw [hrs, ← hi']
      exact zqq h2 (wk_c (.inr (.inr (.inl ⟨_, rfl, .inr ⟨_, rfl⟩⟩)))) Zti zqd (fun id cs h => by cases h) (fun κ => by rw [h1]; exact (fin κ).imp_right .inl) (fun _ h => h) hP.kA
     by_cases h20 : i < l.length
     · have hd1 := zze h20
       have hd2 : ((i : Int) < 20) = False := eq_false (by omega)
       repeat' (first|(with_reducible first|refine vSq fun K hK=>?_|apply vRg|apply vBl|apply vSc|apply vIf|apply vSk|apply vEx|apply vRt|((first|apply gNt|apply gCs)<;>(intro h;try simp only[h]))|((first|apply hK|(clear hK K;first|apply hK|(clear hK K;first|apply hK|(clear hK K;apply hK))));clear hK K)|(refine todo ?_;simp +decide only[go_sem, hd1, hd2])))
       refine go _ ?_ ?_
       · rfl
       · exact zzu rfl (by unfold zzn; simp +decide only [go_sem])
     · have hd1 := zzf (show l.length ≤ i by omega)
       repeat' (first|(with_reducible first|refine vSq fun K hK=>?_|apply vRg|apply vBl|apply vSc|apply vIf|apply vSk|apply vEx|apply vRt|((first|apply gNt|apply gCs)<;>(intro h;try simp only[h]))|((first|apply hK|(clear hK K;first|apply hK|(clear hK K;first|apply hK|(clear hK K;apply hK))));clear hK K)|(refine todo ?_;simp +decide only[go_sem, hd1])))
       refine go _ ?_ ?_
       · rfl
       · exact zzu rfl (by unfold zzn; simp +decide only [go_sem])
end
end Go.Proofs
namespace Go.Proofs
open Go.PW
theorem xxe (s : ByteArray) : D.lit (.string s) = dS s.data.toList := by
 unfold dS
 rw [Array.toArray_toList]
def ValU (v : Val) : Prop := Val.ok v ∧ v.str.size ≤ 1048576
def RowU (r : Row) : Prop := r.length ≤ 1048576 ∧ ∀ v ∈ r, ValU v
def ColU (c : Col) : Prop := c.name.length ≤ 1048576
def y89 (l : List Col) : Prop := l.length ≤ 1048576 ∧ ∀ c ∈ l, ColU c
def SchU (s : Sch) : Prop := s.name.length ≤ 1048576 ∧ y89 s.cols
def ChgU (c : Chg) : Prop := c.tab.length ≤ 1048576 ∧ RowU c.row ∧ SchU c.d
def TxnU (t : Txn) : Prop := t.chs.length ≤ 1048576 ∧ ∀ c ∈ t.chs, ChgU c
def OpBU (o : OpB) : Prop := TxnU o.t
theorem uStr {P : Program} {w : World} {t : TypeId} (ht : P.underlying t = some .string) : zx7 P w t (fun l : List UInt8 => l.length ≤ 1048576) (fun l => [dS l]) :=
 zjf (z2p ht) (fun s => s.data.toList) (fun s h => ⟨by rw [Array.length_toList]; exact h, by rw [xxe]⟩)
theorem Tryz.uVal (w : World) : zx7 Tryz.prog w 28 ValU Val.enc :=
 zjf (zxl Tryz.underlying28 rfl (by kernel_rfl) (zzz rfl Tryz.cl3 (zxa Tryz.underlying3).U (zzz rfl Tryz.cl3 (zxa Tryz.underlying3).U (zzz rfl Tryz.cl26 (zxa Tryz.underlying26).U
  (zzz rfl Tryz.cl9 (z2p Tryz.underlying9) zjb))))) (fun x => (⟨x.1, x.2.1, x.2.2.1, x.2.2.2.1⟩ : Val)) (fun _ h => ⟨⟨⟨h.1, h.2.1, h.2.2.1, Nat.le_trans h.2.2.2.1 (by decide)⟩, h.2.2.2.1⟩, rfl⟩)
theorem Tryz.uRow (w : World) : zx7 Tryz.prog w 29 RowU (fun r : Row => [zz4 r]) :=
 zvo Tryz.underlying29 Tryz.cl28 (by decide) (fun _ => rfl) (Tryz.uVal w)
theorem Tryz.uSp (w : World) : zx7 Tryz.prog w 37 (fun _ : Int × Int => True) (fun s => [dI s.1, dI s.2]) :=
 zjf (zxl Tryz.underlying37 rfl (by kernel_rfl) (zzz rfl Tryz.cl3 (zxa Tryz.underlying3).U (zzz rfl Tryz.cl3 (zxa Tryz.underlying3).U zjb))) (fun x => (x.1, x.2.1)) (fun _ _ => ⟨Zti, rfl⟩)
theorem Tryz.uCol (w : World) : zx7 Tryz.prog w 94 ColU Col.enc :=
 zjf (zxl Tryz.underlying94 rfl (by kernel_rfl) (zzz rfl Tryz.cl9 (uStr Tryz.underlying9) (zzz rfl Tryz.cl3 (zxa Tryz.underlying3).U (zzz rfl Tryz.cl4 (yv8 Tryz.underlying4).U zjb)))) (fun x => (⟨x.1, x.2.1, x.2.2.1⟩ : Col)) (fun _ h => ⟨h.1, rfl⟩)
theorem Tryz.uCols (w : World) : zx7 Tryz.prog w 38 y89 (fun l : List Col => [zwh l]) :=
 zvo Tryz.underlying38 Tryz.cl94 (by decide) (fun _ => rfl) (Tryz.uCol w)
theorem Tryz.uSch (w : World) : zx7 Tryz.prog w 40 SchU Sch.enc :=
 zjf (zxl Tryz.underlying40 rfl (by kernel_rfl) (zzz rfl Tryz.cl9 (uStr Tryz.underlying9) (zzz rfl Tryz.cl38 (Tryz.uCols w) (zzz rfl Tryz.cl3 (zxa Tryz.underlying3).U zjb)))) (fun x => (⟨x.1, x.2.1, x.2.2.1⟩ : Sch)) (fun _ h => ⟨⟨h.1, h.2.1⟩, rfl⟩)
theorem Tryz.uChg (w : World) : zx7 Tryz.prog w 42 ChgU Chg.enc :=
 zjf (zxl Tryz.underlying42 rfl (by kernel_rfl) (zzz rfl Tryz.cl3 (zxa Tryz.underlying3).U (zzz rfl Tryz.cl9 (uStr Tryz.underlying9) (zzz rfl Tryz.cl29 (Tryz.uRow w)
  (zzz rfl Tryz.cl37 (Tryz.uSp w) (zzz rfl Tryz.cl40 (Tryz.uSch w) zjb)))))) (fun x => (⟨x.1, x.2.1, x.2.2.1, x.2.2.2.1.1, x.2.2.2.1.2, x.2.2.2.2.1⟩ : Chg)) (fun _ h => ⟨⟨h.2.1, h.2.2.1, h.2.2.2.2.1⟩, rfl⟩)
theorem Tryz.uChgs (w : World) : zx7 Tryz.prog w 33 (fun l : List Chg => l.length ≤ 1048576 ∧ ∀ c ∈ l, ChgU c) (fun l => [z1p l]) :=
 zvo Tryz.underlying33 Tryz.cl42 (by decide) (fun _ => rfl) (Tryz.uChg w)
theorem Tryz.uTxn (w : World) : zx7 Tryz.prog w 35 TxnU Txn.enc :=
 zjf (zxl Tryz.underlying35 rfl (by kernel_rfl) (zzz rfl Tryz.cl3 (zxa Tryz.underlying3).U (zzz rfl Tryz.cl3 (zxa Tryz.underlying3).U (zzz rfl Tryz.cl33 (Tryz.uChgs w) zjb)))) (fun x => (⟨x.1, x.2.1, x.2.2.1⟩ : Txn)) (fun _ h => ⟨h.2.2.1, rfl⟩)
theorem Tryz.uOpB (w : World) : zx7 Tryz.prog w 71 OpBU OpB.enc :=
 zjf (zxl Tryz.underlying71 rfl (by kernel_rfl) (zzz rfl Tryz.cl3 (zxa Tryz.underlying3).U (zzz rfl Tryz.cl35 (Tryz.uTxn w) (zzz rfl Tryz.cl3 (zxa Tryz.underlying3).U zjb)))) (fun x => (⟨x.1, x.2.1, x.2.2.1⟩ : OpB)) (fun _ h => ⟨h.2.1, rfl⟩)
theorem Tryz.uOps (w : World) : zx7 Tryz.prog w 22 (fun l : List OpB => l.length ≤ 1048576 ∧ ∀ o ∈ l, OpBU o) (fun l => [z0d l]) :=
 zvo Tryz.underlying22 Tryz.cl71 (by decide) (fun _ => rfl) (Tryz.uOpB w)
theorem RowU.ok {r : Row} (h : RowU r) : Row.ok' r := fun v hv => (h.2 v hv).1
theorem OpBU.sm {o : OpB} (h : OpBU o) : o.t.sm := ⟨h.1, fun c hc => by
 obtain ⟨h1, h2, h3, h4⟩ := h.2 c hc
 exact ⟨h1, h3, h2.1, h4.1, fun v hv => (h2.2 v hv).2, fun x hx => h4.2 x hx, h2.ok⟩⟩
def ownH (H H' : HMap) (off : Nat) : HMap := fun id => if id < off then H' id else H id
theorem yx6 {H H' : HMap} {off id : Nat} (h : id < off) : ownH H H' off id = H' id := by unfold ownH; rw [if_pos h]
theorem yx5 {H H' : HMap} {off id : Nat} (h : off ≤ id) : ownH H H' off id = H id := by unfold ownH; rw [if_neg (by omega)]
theorem z8u {P : Program} {f : FuncId} {n off : Nat} {W W' H2 : HMap} {A : AMap} {args : List PV} {v : PV} (h : zqf P f n W A args v W' A) (hw : Wf W A) (ha : ∀ x ∈ args, x.oks (fun i => W i ≠ none) (fun κ => A κ ≠ none)) (f1 : ∀ id, off ≤ id → W id = none) (f2 : ∀ id, off ≤ id → W' id = none)
 (he : ∀ id, id < off → H2 id = W id) : zqf P f n H2 A args v (ownH H2 W' off) A := by
 refine y0t h hw ha (fun id hid => he id (Nat.lt_of_not_le fun e => hid (f1 id e))) (fun id h1 h2 => ?_) (fun id h1 => ?_)
 · have hge : off ≤ id := Nat.le_of_not_lt fun e => h2 (by rw [he id e, h1])
   exact ⟨yx5 hge, f2 id hge⟩
 · rcases Zlg id off with hlt | hge
   · exact yx6 hlt
   · rcases h1 with h1 | h1
     · exact absurd (f1 id hge) h1
     · rw [yx5 hge, h1, f2 id hge]
theorem zk2 {H0 H' : HMap} {A : AMap} {S : St} {l : List (Nat × PV)} {h : List (Nat × List CV)} (hw : Wf H' A) (hb : ∀ id, H' id ≠ none → S.H id = H' id) (k0 : ∀ id, H0 id ≠ none → H' id ≠ none) (hA : S.A = A) (h1 : z84 (zzy h H') A A S.ρ l) (h2 : z4h (zzy h H') A A S.H h) : Weak H0 A S (over l h H' A) := by
 refine ⟨fun t => ?_, fun id => ?_, fun κ => .inr (.inl ?_), fun id h => zx8 (k0 id h), fun κ h => h⟩
 · rw [hA]; exact zj3 h1 t
 · rw [hA]; exact z0x hw hb h2 id
 · show A κ = S.A κ
   rw [hA]
theorem z16 {P : Program} {fn : Func} {H H' : HMap} {A : AMap} {S : St} (hr : fn.results.toList = []) (hw : Wf H' A) (hH : ∀ i, H' i ≠ none → S.H i = H' i) (hA : S.A = A) (k0 : ∀ id, H id ≠ none → H' id ≠ none) : RetR P fn H A (.c .any) H' A S := by
 refine zqq (p := .c .any) (by rw [hr]; rfl) Zti Zti hw (fun i es hi => ⟨es, by rw [hH i (by rw [hi]; simp), hi], z48 fun c hc => zwl (fun i h => h) (fun κ h => ⟨h, by rw [hA]⟩) (hw i es c hi hc)⟩) (fun κ => .inr (.inl (by rw [hA]))) k0 (fun _ h => h)
structure DoOK {σ : Type} (P : Program) (f : FuncId) (caps : List (Nat × Nat)) (off : Nat) (A : AMap) (W : σ → HMap) (I : Nat → σ → Prop) (B : Nat) (ok : Chg → Prop) (step : σ → Chg → σ) : Prop where
 ok : ∀ n s x, n < B → I n s → ok x → zqf P f (off + 1000) (W s) A (pA x.enc :: caps.map z60) (.c .any) (W (step s x)) A ∧ I (n + 1) (step s x)
 wf : ∀ n s, I n s → Wf (W s) A
 fr : ∀ s id, off ≤ id → W s id = none
 cap : ∀ n s, I n s → ∀ p ∈ caps, W s p.1 ≠ none
 kp : ∀ s s' id, W s id ≠ none → W s' id ≠ none
section
variable {σ : Type}
def zxn (tab : List UInt8) (t : Int) (step : σ → Chg → σ) (time : Int) (p : Nat × σ) (c : Chg) : Nat × σ := if (decide (time ≤ t) && (c.tab == tab)) = true then (p.1 + 1, step p.2 c) else p
def y0s (tab : List UInt8) (t : Int) (step : σ → Chg → σ) (p : Nat × σ) (x : Txn) : Nat × σ := x.chs.foldl (zxn tab t step x.time) p
def zxv (l : List Txn) (tab : List UInt8) (t : Int) (step : σ → Chg → σ) (p : Nat × σ) : Nat × σ := l.foldl (y0s tab t step) p
def tot (l : List Txn) : Nat := sumL (fun x : Txn => x.chs.length) l
theorem zkw {tab : List UInt8} {t time : Int} {step : σ → Chg → σ} : ∀ (l : List Chg) (p : Nat × σ), (l.foldl (zxn tab t step time) p).1 ≤ p.1 + l.length
 | [], p => by simp
 | c :: l, p => by
   rw [List.foldl_cons, List.length_cons]
   have h := zkw (tab := tab) (t := t) (time := time) (step := step) l (zxn tab t step time p c)
   have h1 : (zxn tab t step time p c).1 ≤ p.1 + 1 := by unfold zxn; split <;> simp
   omega
theorem z4p {tab : List UInt8} {t : Int} {step : σ → Chg → σ} : ∀ (l : List Txn) (p : Nat × σ), (zxv l tab t step p).1 ≤ p.1 + tot l
 | [], p => by simp [zxv, tot, sumL]
 | x :: l, p => by
   have h := z4p (tab := tab) (t := t) (step := step) l (y0s tab t step p x)
   have h1 := zkw (tab := tab) (t := t) (time := x.time) (step := step) x.chs p
   have e : zxv (x :: l) tab t step p = zxv l tab t step (y0s tab t step p x) := rfl
   have e2 : tot (x :: l) = x.chs.length + tot l := rfl
   have e3 : y0s tab t step p x = x.chs.foldl (zxn tab t step x.time) p := rfl
   rw [e, e2]
   rw [e3] at h
   rw [e3]
   omega
end
theorem y46 {l : List Txn} {i : Nat} {x : Txn} (h : l[i]? = some x) : tot (l.take i) + x.chs.length ≤ tot l := by
 obtain ⟨hi, e⟩ := List.getElem?_eq_some_iff.1 h
 have e1 : l = l.take i ++ x :: l.drop (i + 1) := by rw [← e, List.getElem_cons_drop, List.take_append_drop]
 have e2 : tot l = tot (l.take i) + (x.chs.length + tot (l.drop (i + 1))) := by
  conv => lhs; rw [e1]
  unfold tot
  rw [z47]; rfl
 omega
section
variable {σ : Type} {P : Program} {f : FuncId} {caps : List (Nat × Nat)} {off B : Nat} {A : AMap} {W : σ → HMap} {I : Nat → σ → Prop} {ok : Chg → Prop} {step : σ → Chg → σ}
theorem y67 (hd : DoOK P f caps off A W I B ok step) {tab : List UInt8} {t time : Int} {p : Nat × σ} {c : Chg} (h : I p.1 p.2) (hb : p.1 < B) (hc : ok c) : I (zxn tab t step time p c).1 (zxn tab t step time p c).2 := by
 unfold zxn
 split
 · exact (hd.ok p.1 p.2 c hb h hc).2
 · exact h
theorem yxl (hd : DoOK P f caps off A W I B ok step) {tab : List UInt8} {t time : Int} : ∀ (l : List Chg) {p : Nat × σ}, I p.1 p.2 → p.1 + l.length ≤ B → (∀ c ∈ l, ok c) → I (l.foldl (zxn tab t step time) p).1 (l.foldl (zxn tab t step time) p).2
 | [], p, h, _, _ => h
 | c :: l, p, h, hb, hc => by
   rw [List.length_cons] at hb
   have h1 : (zxn tab t step time p c).1 ≤ p.1 + 1 := by unfold zxn; split <;> simp
   rw [List.foldl_cons]
   exact yxl hd l (y67 hd h (by omega) (hc c (Zms2 ..))) (by omega) (fun d hd => hc d (List.mem_cons_of_mem _ hd))
theorem z3d (hd : DoOK P f caps off A W I B ok step) {tab : List UInt8} {t : Int} : ∀ (l : List Txn) {p : Nat × σ}, I p.1 p.2 → p.1 + tot l ≤ B → (∀ x ∈ l, ∀ c ∈ x.chs, ok c) → I (zxv l tab t step p).1 (zxv l tab t step p).2
 | [], p, h, _, _ => h
 | x :: l, p, h, hb, hc => by
   have e2 : tot (x :: l) = x.chs.length + tot l := rfl
   have h1 := zkw (tab := tab) (t := t) (time := x.time) (step := step) x.chs p
   have e : zxv (x :: l) tab t step p = zxv l tab t step (x.chs.foldl (zxn tab t step x.time) p) := rfl
   rw [e]
   exact z3d hd l (yxl hd x.chs h (by omega) (hc x (Zms2 ..))) (by omega) (fun y hy => hc y (List.mem_cons_of_mem _ hy))
theorem Tryz.kEach (hd : DoOK Tryz.prog f caps off A W I B ok step) (l : List Txn) (tab : List UInt8) (t : Int) (n0 : Nat) (s0 : σ) (hI : I n0 s0) (hB : n0 + tot l ≤ B) (hl : l.length ≤ 1048576) (hc : ∀ x ∈ l, x.chs.length ≤ 1048576 ∧ ∀ c ∈ x.chs, ok c) :
 zqf Tryz.prog 29 off (W s0) A [pD (zq1 l), pD (dS tab), pD (dI t), .c (.fn f caps)] (.c .any) (W (zxv l tab t step (n0, s0)).2) A := by
 refine zqh (E := envOf Tryz.prog [] off [] []) (zzx Tryz.mixed) Tryz.func29 rfl Tryz.call29 (by kernel_rfl) (by exact Zle rfl) (fun hab => ?_)
 have o9 : (off + 9 < off) = False := eq_false (by omega)
 have o11 : (off + 11 < off) = False := eq_false (by omega)
 have s1 : (off + 9 = off + 11) = False := eq_false (by omega)
 have s2 : (off + 11 = off + 9) = False := eq_false (by omega)
 have hIi : ∀ i, i ≤ l.length → I (zxv (l.take i) tab t step (n0, s0)).1 (zxv (l.take i) tab t step (n0, s0)).2 := fun i hi => by
  refine z3d hd _ hI ?_ (fun x hx => (hc x (List.mem_of_mem_take hx)).2)
  have : tot (l.take i) + tot (l.drop i) = tot l := by unfold tot; rw [← z47, List.take_append_drop]
  show n0 + _ ≤ B
  omega
 repeat' (first|(with_reducible first|refine vSq fun K hK=>?_|apply vRg|apply vBl|apply vSc|apply vIf|apply vSk|apply vEx|apply vRt|((first|apply gNt|apply gCs)<;>(intro h;try simp only[h]))|((first|apply hK|(clear hK K;first|apply hK|(clear hK K;first|apply hK|(clear hK K;apply hK))));clear hK K)|(refine todo ?_;simp +decide only[go_sem])))
 refine zzj l.length (fun _ => True) (fun i => over [(1, pD (dS tab)), (2, pD (dI t)), (3, .c (.fn f caps)), (12, pD (zq1 l)), (13, pD (dI l.length)), (14, pD (dI i))] [] (W (zxv (l.take i) tab t step (n0, s0)).2) A) Zti ?_ ?_
 · refine zk2 (hd.wf _ _ hI) (fun _ _ => rfl) (fun _ h => h) rfl ?_ ?_ <;> simp +decide only [go_sem]
   exact z8f (hd.cap _ _ hI)
 · intro i hi _
   have hp := hIi i hi
   have hle := z4p (tab := tab) (t := t) (step := step) (l.take i) (n0, s0)
   rcases Zlg i l.length with hlt | hge
   · have hg := Zge hlt
     have hd1 := zze hlt
     have hnx := zzl hlt (show l.length ≤ 4294967296 by omega)
     obtain ⟨c1, c2⟩ := hc _ (Zme hg)
     have htt := y46 hg
     have hpn : zxv (l.take (i + 1)) tab t step (n0, s0) = (l[i]).chs.foldl (zxn tab t step (l[i]).time) (zxv (l.take i) tab t step (n0, s0)) := by
      unfold zxv
      rw [zzw hg, List.foldl_append]; rfl
     generalize l[i] = x at hg c1 c2 htt hpn
     have hnn : ∀ m, Weak (W s0) A m (over [(1, pD (dS tab)), (2, pD (dI t)), (3, .c (.fn f caps)), (12, pD (zq1 l)), (13, pD (dI l.length)), (14, pD (dI (i + 1 : Nat)))] [] (W (zxv (l.take (i + 1)) tab t step (n0, s0)).2) A) → PW.Next (W s0) A l.length (fun _ => True) (fun i => over [(1, pD (dS tab)), (2, pD (dI t)), (3, .c (.fn f caps)), (12, pD (zq1 l)), (13, pD (dI l.length)), (14, pD (dI i))] [] (W (zxv (l.take i) tab t step (n0, s0)).2) A) i m := fun m hm => zzi (I := fun _ => True) hlt Zti hm
     rw [hpn] at hnn
     generalize hpe : zxv (l.take i) tab t step (n0, s0) = p at *
     have h9 : W p.2 (off + 9) = none := hd.fr _ _ (by omega)
     have hj : ∀ j, j ≤ x.chs.length → I ((x.chs.take j).foldl (zxn tab t step x.time) p).1 ((x.chs.take j).foldl (zxn tab t step x.time) p).2 := fun j hj => yxl hd _ hp (by rw [Zlt]; have h9 : p.1 ≤ n0 + tot (l.take i) := hle; omega) (fun c hc => c2 c (List.mem_of_mem_take hc))
     repeat' (first|(with_reducible first|refine vSq fun K hK=>?_|apply vRg|apply vBl|apply vSc|apply vIf|apply vSk|apply vEx|apply vRt|((first|apply gNt|apply gCs)<;>(intro h;try simp only[h]))|((first|apply hK|(clear hK K;first|apply hK|(clear hK K;first|apply hK|(clear hK K;apply hK))));clear hK K)|(refine todo ?_;simp +decide only[go_sem, hg, hd1, h9])))
     refine zzj x.chs.length (fun _ => True) (fun j => over [(1, pD (dS tab)), (2, pD (dI t)), (3, .c (.fn f caps)), (12, pD (zq1 l)), (13, pD (dI l.length)), (14, pD (dI i)), (9, .c (.ptr (off + 9) 0)), (19, pD (z1p x.chs)), (20, pD (dI x.chs.length)), (21, pD (dI j))] [(off + 9, x.enc.map .d)] (W ((x.chs.take j).foldl (zxn tab t step x.time) p).2) A) Zti ?_ ?_
     · refine zk2 (hd.wf _ _ hp) (fun id hid => ?_) (fun _ h => hd.kp _ _ _ h) rfl ?_ ?_ <;> simp +decide only [go_sem]
       · have e : id ≠ off + 9 := by rintro rfl; exact hid (hd.fr _ _ (by omega))
         rw [if_neg e, if_neg e]
         rfl
       · exact ⟨z8f (fun q hq => zx8 (hd.cap _ _ hp q hq)), zzh (by simp [zzy])⟩
     · intro j hj' _
       have hq := hj j hj'
       have hql := zkw (tab := tab) (t := t) (time := x.time) (step := step) (x.chs.take j) p
       rw [Zlt] at hql
       rcases Zlg j x.chs.length with hlj | hgj
       · have hgc := Zge hlj
         have hd2 := zze hlj
         have hnx2 := zzl hlj (show x.chs.length ≤ 4294967296 by omega)
         have hok := c2 _ (Zme hgc)
         have hqn : (x.chs.take (j + 1)).foldl (zxn tab t step x.time) p = zxn tab t step x.time ((x.chs.take j).foldl (zxn tab t step x.time) p) x.chs[j] := by rw [zzw hgc, List.foldl_append]; rfl
         have hmm : ∀ m, Weak (W s0) A m (over [(1, pD (dS tab)), (2, pD (dI t)), (3, .c (.fn f caps)), (12, pD (zq1 l)), (13, pD (dI l.length)), (14, pD (dI i)), (9, .c (.ptr (off + 9) 0)), (19, pD (z1p x.chs)), (20, pD (dI x.chs.length)), (21, pD (dI (j + 1 : Nat)))] [(off + 9, x.enc.map .d)] (W ((x.chs.take (j + 1)).foldl (zxn tab t step x.time) p).2) A) →
          PW.Next (W s0) A x.chs.length (fun _ => True) (fun j => over [(1, pD (dS tab)), (2, pD (dI t)), (3, .c (.fn f caps)), (12, pD (zq1 l)), (13, pD (dI l.length)), (14, pD (dI i)), (9, .c (.ptr (off + 9) 0)), (19, pD (z1p x.chs)), (20, pD (dI x.chs.length)), (21, pD (dI j))] [(off + 9, x.enc.map .d)] (W ((x.chs.take j).foldl (zxn tab t step x.time) p).2) A) j m := fun m hm => zzi (I := fun _ => True) hlj Zti hm
         rw [hqn] at hmm
         generalize x.chs[j] = c at hgc hok hmm
         have hqb : ((x.chs.take j).foldl (zxn tab t step x.time) p).1 < B := by have h9 : p.1 ≤ n0 + tot (l.take i) := hle; omega
         generalize (x.chs.take j).foldl (zxn tab t step x.time) p = q at hq hqb hmm ⊢
         have q9 : W q.2 (off + 9) = none := hd.fr _ _ (by omega)
         have q11 : W q.2 (off + 11) = none := hd.fr _ _ (by omega)
         have hne : ∀ id, W q.2 id ≠ none → (id = off + 9) = False ∧ (id = off + 11) = False := fun id hid => ⟨eq_false (by rintro rfl; exact hid q9), eq_false (by rintro rfl; exact hid q11)⟩
         cases ht : decide (x.time ≤ t) with
         | false =>
           have es : zxn tab t step x.time q c = q := by unfold zxn; rw [ht]; rfl
           rw [es] at hmm
           repeat' (first|(with_reducible first|refine vSq fun K hK=>?_|apply vRg|apply vBl|apply vSc|apply vIf|apply vSk|apply vEx|apply vRt|((first|apply gNt|apply gCs)<;>(intro h;try simp only[h]))|((first|apply hK|(clear hK K;first|apply hK|(clear hK K;first|apply hK|(clear hK K;apply hK))));clear hK K)|(refine todo ?_;simp +decide only[go_sem, hgc, hd2, hnx2, ht, s1, s2, q11])))
           refine hmm _ (zk2 (hd.wf _ _ hq) (fun id hid => ?_) (fun _ h => hd.kp _ _ _ h) rfl ?_ ?_) <;> simp +decide only [go_sem, s1]
           · obtain ⟨n1, n2⟩ := hne id hid
             simp only [n1, n2, if_false]
           · exact ⟨z8f (fun z hz => zx8 (hd.cap _ _ hq z hz)), zzh (by simp [zzy])⟩
         | true =>
           cases htb : (c.tab == tab) with
           | false =>
             have es : zxn tab t step x.time q c = q := by unfold zxn; rw [ht, htb]; rfl
             rw [es] at hmm
             repeat' (first|(with_reducible first|refine vSq fun K hK=>?_|apply vRg|apply vBl|apply vSc|apply vIf|apply vSk|apply vEx|apply vRt|((first|apply gNt|apply gCs)<;>(intro h;try simp only[h]))|((first|apply hK|(clear hK K;first|apply hK|(clear hK K;first|apply hK|(clear hK K;apply hK))));clear hK K)|(refine todo ?_;simp +decide only[go_sem, hgc, hd2, hnx2, ht, htb, s1, s2, q11])))
             refine hmm _ (zk2 (hd.wf _ _ hq) (fun id hid => ?_) (fun _ h => hd.kp _ _ _ h) rfl ?_ ?_) <;> simp +decide only [go_sem, s1]
             · obtain ⟨n1, n2⟩ := hne id hid
               simp only [n1, n2, if_false]
             · exact ⟨z8f (fun z hz => zx8 (hd.cap _ _ hq z hz)), zzh (by simp [zzy])⟩
           | true =>
             have es : zxn tab t step x.time q c = (q.1 + 1, step q.2 c) := by unfold zxn; rw [ht, htb]; rfl
             rw [es] at hmm
             have hdo := hd.ok q.1 q.2 c hqb hq hok
             have hko : ∀ y ∈ pA c.enc :: caps.map z60, y.oks (fun i => W q.2 i ≠ none) (fun κ => A κ ≠ none) := fun y hy => by
              rcases List.mem_cons.1 hy with rfl | hy
              · exact yki
              · obtain ⟨z, hz, rfl⟩ := List.mem_map.1 hy
                exact hd.cap _ _ hq z hz
             repeat' (first|(with_reducible first|refine vSq fun K hK=>?_|apply vRg|apply vBl|apply vSc|apply vIf|apply vSk|apply vEx|apply vRt|((first|apply gNt|apply gCs)<;>(intro h;try simp only[h]))|((first|apply hK|(clear hK K;first|apply hK|(clear hK K;first|apply hK|(clear hK K;apply hK))));clear hK K)|(refine todo ?_;simp +decide only[go_sem, hgc, hd2, hnx2, ht, htb, s1, s2, q11]))|refine z4e (z8u hdo.1 (hd.wf _ _ hq) hko (hd.fr _) (hd.fr _) ?_) rfl ?_ ?_)
             · intro id hid
               have n1 : (id = off + 9) = False := eq_false (by omega)
               have n2 : (id = off + 11) = False := eq_false (by omega)
               simp only [upd, zzy, n1, n2, if_false]
             · intro k hk
               have n1 : (k = off + 9) = False := eq_false (by omega)
               have n2 : (k = off + 11) = False := eq_false (by omega)
               exact ⟨by simp only [upd, zzy, n1, n2, if_false]; exact hd.fr _ _ (by omega), (hab k (by omega)).2⟩
             · refine hmm _ (zk2 (hd.wf _ _ hdo.2) (fun id hid => yx6 (Nat.lt_of_not_le fun e => hid (hd.fr _ _ e))) (fun _ h => hd.kp _ _ _ h) rfl ?_ ?_) <;> simp +decide only [go_sem, ownH, o9, s1]
               exact ⟨z8f (fun z hz => zx8 (hd.cap _ _ hdo.2 z hz)), zzh (by simp [zzy])⟩
       · have hd2 := zzf hgj
         have ej : j = x.chs.length := by omega
         subst ej
         rw [List.take_length] at hq ⊢
         have n9 : W (x.chs.foldl (zxn tab t step x.time) p).2 (off + 9) = none := hd.fr _ _ (by omega)
         repeat' (first|(with_reducible first|refine vSq fun K hK=>?_|apply vRg|apply vBl|apply vSc|apply vIf|apply vSk|apply vEx|apply vRt|((first|apply gNt|apply gCs)<;>(intro h;try simp only[h]))|((first|apply hK|(clear hK K;first|apply hK|(clear hK K;first|apply hK|(clear hK K;apply hK))));clear hK K)|(refine todo ?_;simp +decide only[go_sem, hd2, hnx])))
         refine hnn _ (zk2 (hd.wf _ _ hq) (fun id hid => ?_) (fun _ h => hd.kp _ _ _ h) rfl ?_ ?_) <;> simp +decide only [go_sem]
         · rw [if_neg (by rintro rfl; exact hid n9)]
         · exact z8f (hd.cap _ _ hq)
   · have hd1 := zzf hge
     have hp' := hp
     rw [Ztl hge] at hp'
     have he : zxv (l.take i) tab t step (n0, s0) = zxv l tab t step (n0, s0) := by rw [Ztl hge]
     repeat' (first|(with_reducible first|refine vSq fun K hK=>?_|apply vRg|apply vBl|apply vSc|apply vIf|apply vSk|apply vEx|apply vRt|((first|apply gNt|apply gCs)<;>(intro h;try simp only[h]))|((first|apply hK|(clear hK K;first|apply hK|(clear hK K;first|apply hK|(clear hK K;apply hK))));clear hK K)|(refine todo ?_;simp +decide only[go_sem, hd1, he])))
     exact z16 rfl (hd.wf _ _ hp') (fun _ _ => rfl) rfl (fun _ h => hd.kp _ _ _ h)
end
end Go.Proofs
