/-
  Parts of the proof, laid together: PwBm, PwBn.
-/
import Derived.Test.YtemecklglapleaaGreatQ32

set_option maxRecDepth 30000
set_option maxHeartbeats 16000000
namespace Go.Proofs
open Go.PW
theorem Txn.good {t : Txn} (h : z0n t = true) (ht : t.sm) : t.chs.length ≤ 100 ∧ ∀ x ∈ t.chs, x.good := by
 unfold z0n at h
 simp only [Bool.and_eq_true, decide_eq_true_eq] at h
 exact ⟨by omega, fun x hx => ⟨List.all_eq_true.1 h.1 x hx, ht.2 x hx⟩⟩
def errA (A : AMap) (n : Nat) : AMap := upd A (0, 0) (some (.cnt n))
def finS (time : Int) (s : AMap × Bs × Nat) : Nat → AMap × Bs × Nat
 | 0 => s
 | i + 1 => finN time (finS time s i) i
def putB (b m : Bs) (t : Txn) : Bs := { b with q := m.q, seq := t.seq, time := t.time, tabs := m.tabs }
def putA (A : AMap) (b m : Bs) (t : Txn) : AMap := upd A (0, b.p) (some (.pr b.p (.ob (putB b m t).cells)))
theorem y7y {A A0 : AMap} {b m : Bs} {k c c0 : Nat} {t : Txn} (h0 : BW A0 b k c0) (h : BW A m c0 c) (hc : c0 ≤ c) : BW (putA A b m t) (putB b m t) k c := by
 have hb := h0.cn.ne h0.ba.1
 have hk : k ≤ c0 := by have := h0.lp; omega
 have keep : ∀ x, c0 ≤ x → putA A b m t (0, x) = A (0, x) := fun x hx => by unfold putA; rw [zza _ _ (by simp; omega)]
 refine ⟨⟨?_, yw6 (fun e => zk5 h.ba.2.1 e) (fun q e => (keep q (h.lq q e)).trans (zqo h.ba.2.1 e)), fun u hu => z92 (h.ba.2.2 u hu) (keep _ (h.lt u hu).1) (fun q e => keep _ ((h.lt u hu).2 q e))⟩, h.nd, ⟨?_, h.cn.2.1, fun j hj => ?_⟩, h0.k1, h0.lp, fun q e => by have := h.lq q e; omega, fun u hu => ?_⟩
 · show putA A b m t (0, b.p) = _
   unfold putA; rw [zzc]; rfl
 · unfold putA; rw [zza _ _ (by simp; omega)]; exact h.cn.1
 · rw [keep j (by omega)]; exact h.cn.2.2 j hj
 · have h1 := h.lt u hu
   exact ⟨by omega, fun q e => by have := h1.2 q e; omega⟩
theorem y3q {A B : AMap} {c n n' : Nat} (hl : Low c A B) (hcn : Cn A c) (hb : B (0, 0) = some (.cnt n')) (hn : n' ≤ n) :
 ∀ κ, errA A n κ = none ∨ errA A n κ = B κ ∨ (B κ = none ∧ ∃ sz, errA A n κ = some (.co sz 0) ∨ errA A n κ = some (.mu sz [])) ∨ yqe (B κ) (errA A n κ) := fun κ => by
 by_cases e0 : κ = (0, 0)
 · subst e0
   refine .inr (.inr (.inr (.inr (.inr (.inl ⟨n', n, hb, ?_, hn⟩)))))
   unfold errA; rw [zzc]
 · have e1 : errA A n κ = A κ := by unfold errA; rw [zza _ _ e0]
   rw [e1]
   by_cases e2 : κ.1 ≠ 0 ∨ κ.2 < c
   · exact .inr (.inl (hl κ e0 e2).symm)
   · left
     obtain ⟨a, j⟩ := κ
     simp only [not_or, Nat.not_lt, ne_eq, Decidable.not_not] at e2
     obtain ⟨rfl, e3⟩ := e2
     exact hcn.2.2 j e3
theorem y0w {A : AMap} {n : Nat} : ∀ κ, A κ ≠ none → errA A n κ ≠ none := fun κ h => by
 unfold errA upd
 split
 · simp
 · exact h
theorem y58 {H' : HMap} {A A' : AMap} {q : Option Nat} {sz n : Nat} : PV.wk H' A A' (slP q sz n) (slP q sz n) := by
 cases q with
 | none => exact wk_c (.inr (.inl ⟨rfl, Zti⟩))
 | some q => exact wk_c (.inr (.inl ⟨rfl, Zti⟩))
theorem y1g {A : AMap} {c x : Nat} {ar : Arr} {l : List En} (hc : Cn A c) (h : A (0, x) = some (.pr x ar)) : zvb A c l (0, x) = some (.pr x ar) := by
 have h1 := hc.ne h
 rw [z1t (by simp; omega) (fun j hj => by simp; omega), h]
section
variable {A : AMap}
theorem Tryz.rApplyNo (off : Nat) {k c : Nat} (b : Bs) (t : Txn) (h : BW A b k c) (ht : t.sm) (h0 : 0 ≤ b.seq) (h1 : b.seq ≤ 1099511627776) (he : (zxz b.seq b.time t != 0) = true) :
 zqf Tryz.prog 23 off noH A [rfD b.p, pA t.enc] (pD (dI (zxz b.seq b.time t))) noH A := by
 have kw := Tryz.rWrong (off + 1000) b t h.ba.1 ht h0 h1
 refine zqh (E := envOf Tryz.prog [44, 43, 2000000 + 42, 9000000 + 45, 10000000 + 99] off [] [8]) (zzx Tryz.mixed) Tryz.func23 rfl Tryz.call23 (by kernel_rfl) (by exact Zle rfl) (fun hab => ?_)
 have ab1 : Above (off + 1000) (upd noH (off + 3) (some (t.enc.map .d))) A := fun i hi => ⟨by rw [zza _ _ (by omega)]; rfl, (hab i (by omega)).2⟩
 repeat' (first|(with_reducible first|refine vSq fun K hK=>?_|apply vRg|apply vBl|apply vSc|apply vIf|apply vSk|apply vEx|apply vRt|((first|apply gNt|apply gCs)<;>(intro h;try simp only[h]))|((first|apply hK|(clear hK K;first|apply hK|(clear hK K;first|apply hK|(clear hK K;apply hK))));clear hK K)|(refine todo ?_;simp +decide only[go_sem, he]))|refine zw6 rfl rfl (zq0 kw (zxp (yvx zkz))) rfl ab1 ?_)
 exact zqq (zzu (p := pD (dI (zxz b.seq b.time t))) rfl (by unfold zzn; simp +decide only [go_sem])) (by simp +decide only [go_sem]) Zti zqd (fun id cs h => by cases h) (fun κ => .inr (.inl rfl)) (fun _ h => h) (fun _ h => h)
theorem Tryz.rApplyGo (off : Nat) {M N P k c : Nat} (b : Bs) (t : Txn) (h : BW A b k c) (hL : LOK M N P P b.abs) (hM : M + 100 ≤ 1048576) (hN : N + P + 200 ≤ 131072) (ht : t.sm) (h0 : 0 ≤ b.seq) (h1 : b.seq ≤ 1099511627776) (he : (zxz b.seq b.time t != 0) = false) (hok : z0n t = true)
 (f : Nat → AMap × Bs × Nat) (f0 : f 0 = z1b A b c b.tabs) (fP : ∀ i, i ≤ t.chs.length → ApI A c (Lq t.time b.abs (t.chs.take i)) (f i)) (fc : ∀ i, i ≤ t.chs.length → (f i).2.2 ≤ (f t.chs.length).2.2)
 (fR : ∀ i, i < t.chs.length → ∀ x, t.chs[i]? = some x → zqf Tryz.prog 44 (off + 1000) noH (f i).1 [rfD c, pA x.enc, pD (dI t.time)] (pD (dI (chgS (Lq t.time b.abs (t.chs.take i)) x t.time).1)) noH (f (i + 1)).1)
 (AF : AMap) (hA0 : (zvi t.time b.abs t.chs).1 = 0 → AF = putA (finS t.time (f t.chs.length) (f t.chs.length).2.1.tabs.length).1 b (finS t.time (f t.chs.length) (f t.chs.length).2.1.tabs.length).2.1 t) (hA1 : (zvi t.time b.abs t.chs).1 ≠ 0 → AF = errA A (f t.chs.length).2.2) :
 zqf Tryz.prog 23 off noH A [rfD b.p, pA t.enc] (pD (dI (zvi t.time b.abs t.chs).1)) noH AF := by
 have kw := Tryz.rWrong (off + 1000) b t h.ba.1 ht h0 h1
 have kc := Tryz.rCopy (off + 1000) b h hL (by omega)
 have hg := Txn.good hok ht
 refine zqh (E := envOf Tryz.prog [44, 43, 2000000 + 42, 9000000 + 45, 10000000 + 99] off [] [8]) (zzx Tryz.mixed) Tryz.func23 rfl Tryz.call23 (by kernel_rfl) (by exact Zle rfl) (fun hab => ?_)
 have ab1 : Above (off + 1000) (upd noH (off + 3) (some (t.enc.map .d))) A := fun i hi => ⟨by rw [zza _ _ (by omega)]; rfl, (hab i (by omega)).2⟩
 repeat' (first|(with_reducible first|refine vSq fun K hK=>?_|apply vRg|apply vBl|apply vSc|apply vIf|apply vSk|apply vEx|apply vRt|((first|apply gNt|apply gCs)<;>(intro h;try simp only[h]))|((first|apply hK|(clear hK K;first|apply hK|(clear hK K;first|apply hK|(clear hK K;apply hK))));clear hK K)|(refine todo ?_;simp +decide only[go_sem, he]))|refine zw6 rfl rfl (zq0 kw (zxp (yvx zkz))) rfl ab1 ?_|refine zz7 rfl (zq0 kc (zxp zkz)) rfl ab1 ?_)
 refine zzj t.chs.length (fun i => (zvi t.time b.abs (t.chs.take i)).1 = 0) (fun i => over [(0, rfD b.p), (3, .c (.ptr (off + 3) 0)), (6, rfD c), (7, pD (dI i))] [(off + 3, t.enc.map .d)] noH (f i).1) rfl ?_ ?_
 · refine zz1 (fun κ => .inr ?_) (fP 0 (Nat.zero_le _)).kA ?_ ?_ <;> simp +decide only [go_sem, f0]
   exact zzh (by simp [zzy])
 · intro i hi hI
   have hf := fP i hi
   have ab2 : Above (off + 1000) (zzy [(off + 3, t.enc.map .d)] noH) (f i).1 := fun j hj => ⟨by show zzy _ _ _ = none; unfold zzy; rw [if_neg (by omega)]; rfl, fun n => by
    rw [hf.low (j, n) (by simp; omega) (.inl (by show j ≠ 0; omega))]; exact (hab j (by omega)).2 n⟩
   rcases Zlg i t.chs.length with hlt | hge
   · have hgx := Zge hlt
     have hd := zze hlt
     have hnx := zzl hlt (show t.chs.length ≤ 4294967296 by omega)
     have kx := fR i hlt _ hgx
     have hf1 := fP (i + 1) hlt
     generalize t.chs[i] = x at hgx kx
     cases hex : ((chgS (Lq t.time b.abs (t.chs.take i)) x t.time).1 != 0) with
     | false =>
       repeat' (first|(with_reducible first|refine vSq fun K hK=>?_|apply vRg|apply vBl|apply vSc|apply vIf|apply vSk|apply vEx|apply vRt|((first|apply gNt|apply gCs)<;>(intro h;try simp only[h]))|((first|apply hK|(clear hK K;first|apply hK|(clear hK K;first|apply hK|(clear hK K;apply hK))));clear hK K)|(refine todo ?_;simp +decide only[go_sem, hgx, hd, hnx, hex]))|refine zz7 rfl (zq0 kx (zxp (yvx (zxp zkz)))) rfl ab2 ?_)
       refine zzi hlt (yk8 hI hgx (by simpa using hex)) (zz1 (fun κ => .inr ?_) hf1.kA ?_ ?_) <;> simp +decide only [go_sem]
       exact zzh (by simp [zzy])
     | true =>
       have hbad := y0f hI hgx hex
       rw [hA1 (by rw [hbad]; simpa using hex), hbad]
       repeat' (first|(with_reducible first|refine vSq fun K hK=>?_|apply vRg|apply vBl|apply vSc|apply vIf|apply vSk|apply vEx|apply vRt|((first|apply gNt|apply gCs)<;>(intro h;try simp only[h]))|((first|apply hK|(clear hK K;first|apply hK|(clear hK K;first|apply hK|(clear hK K;apply hK))));clear hK K)|(refine todo ?_;simp +decide only[go_sem, hgx, hd, hex]))|refine zz7 rfl (zq0 kx (zxp (yvx (zxp zkz)))) rfl ab2 ?_)
       exact zqq (zzu (p := pD (dI (chgS (Lq t.time b.abs (t.chs.take i)) x t.time).1)) rfl (by unfold zzn; simp +decide only [go_sem])) (by simp +decide only [go_sem]) Zti zqd (fun id cs h => by cases h) (y3q hf1.low h.cn hf1.w.cn.1 (fc (i + 1) hlt)) (fun _ h => h) y0w
   · have hd := zzf hge
     have ei : i = t.chs.length := by omega
     subst ei
     rw [List.take_length] at hI hf
     have hAe := hA0 hI
     clear hA0 hA1 fP fR fc f0
     generalize f t.chs.length = s at hf hAe
     repeat' (first|(with_reducible first|refine vSq fun K hK=>?_|apply vRg|apply vBl|apply vSc|apply vIf|apply vSk|apply vEx|apply vRt|((first|apply gNt|apply gCs)<;>(intro h;try simp only[h]))|((first|apply hK|(clear hK K;first|apply hK|(clear hK K;first|apply hK|(clear hK K;apply hK))));clear hK K)|(refine todo ?_;simp +decide only[go_sem, hd])))
     have hlen0 : s.2.1.tabs.length = (Lq t.time b.abs t.chs).length := by rw [← hf.abs]; unfold Bs.abs; rw [List.length_map]
     have gP : ∀ i, i ≤ (Lq t.time b.abs t.chs).length → ApI A c (finI t.time (Lq t.time b.abs t.chs) i) (finS t.time s i) ∧ (finS t.time s i).2.1.q = s.2.1.q ∧ (finS t.time s i).2.1.tabs.length = s.2.1.tabs.length := by
      intro i
      induction i with
      | zero => intro _; exact ⟨hf, rfl, rfl⟩
      | succ i ih =>
        intro hi
        obtain ⟨h1, h2, h3⟩ := ih (by omega)
        refine ⟨y0z h1 (by omega), ?_, ?_⟩
        · show (finN t.time (finS t.time s i) i).2.1.q = _
          unfold finN
          split
          · exact h2
          · exact h2
        · show (finN t.time (finS t.time s i) i).2.1.tabs.length = _
          unfold finN
          split
          · show (List.set _ _ _).length = _
            rw [List.length_set, h3]
          · exact h3
     have hLq := y2y (time := t.time) hL (Zlr _) hg.2
     have hLl := hLq.l
     generalize hLqe : Lq t.time b.abs t.chs = L at *
     refine zzj L.length (fun _ => True) (fun i => over [(0, rfD b.p), (3, .c (.ptr (off + 3) 0)), (6, rfD c), (8, pD (dI i))] [(off + 3, t.enc.map .d)] noH (finS t.time s i).1) Zti ?_ ?_
     · refine zz1 (fun κ => .inr ?_) hf.kA ?_ ?_ <;> simp +decide only [go_sem]
       · rfl
       · exact zzh (by simp [zzy])
     · intro i hi _
       obtain ⟨g1, g2, g3⟩ := gP i hi
       have gn := gP (i + 1)
       have gnx : finS t.time s (i + 1) = finN t.time (finS t.time s i) i := rfl
       rw [gnx] at gn
       have gt' : (fun j : Nat => over [(0, rfD b.p), (3, .c (.ptr (off + 3) 0)), (6, rfD c), (8, pD (dI j))] [(off + 3, t.enc.map .d)] noH (finS t.time s j).1) (i + 1 : Nat) = over [(0, rfD b.p), (3, .c (.ptr (off + 3) 0)), (6, rfD c), (8, pD (dI (i + 1 : Nat)))] [(off + 3, t.enc.map .d)] noH (finN t.time (finS t.time s i) i).1 := rfl
       have hAFi : i = s.2.1.tabs.length → putA (finS t.time s s.2.1.tabs.length).1 b (finS t.time s s.2.1.tabs.length).2.1 t = putA (finS t.time s i).1 b (finS t.time s i).2.1 t := by rintro rfl; rfl
       generalize finS t.time s i = s1 at g1 g2 g3 gn gt' hAFi
       obtain ⟨A', b', n⟩ := s1
       have hw := g1.w
       have hcn' : c ≤ n := g1.gt
       have hlow := g1.low
       have hbp' : b'.p = c := g1.p
       have hkA := g1.kA
       have habs := g1.abs
       simp only at hw hlow hkA g2 g3 habs
       obtain ⟨v1, v2, v3⟩ := hw.ba
       rw [hbp'] at v1
       have hc0 := hw.cn.ne v1
       rcases Zlg i L.length with hlt | hge
       · obtain ⟨u, hu⟩ : ∃ u, b'.tabs[i]? = some u := ⟨_, Zge (show i < b'.tabs.length by omega)⟩
         have hul : L[i]? = some u.abs := by
          rw [← z8y (time := t.time), ← habs]
          unfold Bs.abs
          rw [List.getElem?_map, hu]; rfl
         have huO := hLq.t u.abs (Zme hul)
         obtain ⟨qL, hqL, hAL⟩ := z97 v2 (by simp [zzp]; omega)
         have hTu := v3 u (Zme hu)
         have htu := hw.cn.ne hTu.1
         have bcs : b'.cells = [dI b'.seq, dI b'.time, dI b'.hor, .sa qL 1 b'.tabs.length] := by unfold Bs.cells; rw [hqL]; rfl
         rw [bcs] at v1
         have hd : ((i : Int) < (b'.tabs.length : Int)) = True := eq_true (by omega)
         have hd' : (i < b'.tabs.length) = True := eq_true (by omega)
         have hel : (zzp b'.tabs)[i]? = some [.rf u.p 0] := by rw [zzp, List.getElem?_map, hu]; rfl
         have hlen : (zzp b'.tabs).length = b'.tabs.length := by simp [zzp]
         have hnx := zzl hlt (show L.length ≤ 4294967296 by omega)
         have efin : finN t.time (A', b', n) i = (finA t.time A' n u, { b' with tabs := b'.tabs.set i (finT t.time n u) }, n + (u.fin t.time).keys.length) := by unfold finN; rw [hu]
         rw [efin] at gn gt'
         have hkA' := (gn (by omega)).1.kA
         simp only at hkA' gt'
         -- the keys
         have kl : u.keys.length ≤ M + t.chs.length := huO.kl
         have ucs : u.cells = [dS u.name, .sl (u.defs.map Df.enc), slD u.q 4 u.keys.length] := rfl
         have hKl : ∀ {x ar} (l : List En), A' (0, x) = some (.pr x ar) → zvb A' n l (0, x) = some (.pr x ar) := fun l hx => y1g hw.cn hx
         repeat' (first|(with_reducible first|refine vSq fun K hK=>?_|apply vRg|apply vBl|apply vSc|apply vIf|apply vSk|apply vEx|apply vRt|((first|apply gNt|apply gCs)<;>(intro h;try simp only[h]))|((first|apply hK|(clear hK K;first|apply hK|(clear hK K;first|apply hK|(clear hK K;apply hK))));clear hK K)|(refine todo ?_;simp +decide only[go_sem, v1, hd])))
         refine zzj u.keys.length (fun _ => True) (fun k => over [(0, rfD b.p), (3, .c (.ptr (off + 3) 0)), (6, rfD c), (8, pD (dI i)), (9, slP (z5x n ((u.keys.take k).flatMap (zjv t.time)).length) 4 ((u.keys.take k).flatMap (zjv t.time)).length), (10, pD (dI k))] [(off + 3, t.enc.map .d)] noH (zvb A' n ((u.keys.take k).flatMap (zjv t.time)))) Zti ?_ ?_
         · refine zz1 (fun κ => .inr ?_) hkA ?_ ?_ <;> simp +decide only [go_sem]
           · rfl
           · exact ⟨zzh (by simp [zzy]), wk_c (.inr (.inl ⟨rfl, Zti⟩))⟩
         · intro k hk _
           show VC _ noH A _ _ (over [(0, rfD b.p), (3, .c (.ptr (off + 3) 0)), (6, rfD c), (8, pD (dI i)), (9, slP (z5x n ((u.keys.take k).flatMap (zjv t.time)).length) 4 ((u.keys.take k).flatMap (zjv t.time)).length), (10, pD (dI k))] [(off + 3, t.enc.map .d)] noH (zvb A' n ((u.keys.take k).flatMap (zjv t.time))))
           rcases Zlg k u.keys.length with hlk | hgk
           · obtain ⟨tq, htq, hAt⟩ := z97 hTu.2 (by simp; omega)
             have v4 := hTu.1
             rw [ucs, htq] at v4
             simp only [slD] at v4
             have hge := Zge hlk
             have hd2 := zze hlk
             have hd3 : (k < u.keys.length) = True := eq_true hlk
             have hnx2 := zzl hlk (show u.keys.length ≤ 4294967296 by omega)
             have hnk : (u.keys.take (k + 1)).flatMap (zjv t.time) = (u.keys.take k).flatMap (zjv t.time) ++ zjv t.time u.keys[k] := by rw [zzw hge, List.flatMap_append]; simp
             generalize u.keys[k] = e at hge hnk
             have hEn := huO.ks e (Zme hge)
             have hnn : ∀ m, Weak noH A m (over [(0, rfD b.p), (3, .c (.ptr (off + 3) 0)), (6, rfD c), (8, pD (dI i)), (9, slP (z5x n ((u.keys.take (k + 1)).flatMap (zjv t.time)).length) 4 ((u.keys.take (k + 1)).flatMap (zjv t.time)).length), (10, pD (dI (k + 1 : Nat)))] [(off + 3, t.enc.map .d)] noH (zvb A' n ((u.keys.take (k + 1)).flatMap (zjv t.time)))) → PW.Next noH A u.keys.length (fun _ => True) (fun k => (over [(0, rfD b.p), (3, .c (.ptr (off + 3) 0)), (6, rfD c), (8, pD (dI i)), (9, slP (z5x n ((u.keys.take k).flatMap (zjv t.time)).length) 4 ((u.keys.take k).flatMap (zjv t.time)).length), (10, pD (dI k))] [(off + 3, t.enc.map .d)] noH (zvb A' n ((u.keys.take k).flatMap (zjv t.time))))) k m := fun m hm => zzi (I := fun _ => True) hlk Zti hm
             rw [hnk] at hnn
             generalize hl : (u.keys.take k).flatMap (zjv t.time) = l at hnn ⊢
             have w1 := hKl l v1
             have s1 : (off + 11 = off + 3) = False := eq_false (by omega)
             have s2 : (off + 3 = off + 11) = False := eq_false (by omega)
             have w2 := hKl l hAL
             have w3 := hKl l v4
             have w4 := hKl l hAt
             have hol : ∀ v ∈ e.l, v.p.row.length ≤ 1048576 := fun v hv => by have := (hEn.lr v hv).1; omega
             have hon : ∀ v ∈ e.now, v.row.length ≤ 1048576 := fun v hv => by have := (hEn.nr v hv).1; omega
             have kset := Tryz.rSetV e.l t.time e.now (by have := hEn.l; omega) hol (fun v hv => (hEn.lr v hv).2) (by have := hEn.w; omega) hon (fun v hv => (hEn.nr v hv).2)
             have hkN : ∀ l', ∀ κ, A κ ≠ none → zvb A' n l' κ ≠ none := fun l' κ hκ => ykb κ (hkA κ hκ)
             have hcK := yka (l := l) hw.cn
             cases hz : (newL t.time e).length with
             | zero =>
               have ek : zjv t.time e = [] := by unfold zjv; rw [if_pos hz]
               rw [ek, List.append_nil] at hnn
               cases hnm : e.named with
               | true =>
                 have hz2 : (vSet e.l t.time e.now).length = 0 := by unfold newL at hz; rw [hnm] at hz; exact hz
                 repeat' (first|(with_reducible first|refine vSq fun K hK=>?_|apply vRg|apply vBl|apply vSc|apply vIf|apply vSk|apply vEx|apply vRt|((first|apply gNt|apply gCs)<;>(intro h;try simp only[h]))|((first|apply hK|(clear hK K;first|apply hK|(clear hK K;first|apply hK|(clear hK K;apply hK))));clear hK K)|(refine todo ?_;simp +decide only[go_sem, s1, s2, w1, w2, w3, w4, hlen, hd', hel, hge, hd2, hd3, hnx2, hnm, hz2, List.length_map]))|refine zzq kset rfl rfl rfl rfl ?_)
                 refine hnn _ (zz1 (fun κ => .inr ?_) (hkN l) ?_ ?_) <;> simp +decide only [go_sem, s2]
                 exact ⟨zzh (by simp [zzy]), y58⟩
               | false =>
                 have hz2 : (e.l).length = 0 := by unfold newL at hz; rw [hnm] at hz; exact hz
                 repeat' (first|(with_reducible first|refine vSq fun K hK=>?_|apply vRg|apply vBl|apply vSc|apply vIf|apply vSk|apply vEx|apply vRt|((first|apply gNt|apply gCs)<;>(intro h;try simp only[h]))|((first|apply hK|(clear hK K;first|apply hK|(clear hK K;first|apply hK|(clear hK K;apply hK))));clear hK K)|(refine todo ?_;simp +decide only[go_sem, s1, w1, w2, w3, w4, hlen, hd', hel, hge, hd2, hd3, hnx2, hnm, hz2, List.length_map])))
                 refine hnn _ (zz1 (fun κ => .inr ?_) (hkN l) ?_ ?_) <;> simp +decide only [go_sem, s2]
                 exact ⟨zzh (by simp [zzy]), y58⟩
             | succ z =>
               have ek : zjv t.time e = [⟨e.key, newL t.time e, [], false⟩] := by unfold zjv; rw [if_neg (by omega)]
               rw [ek] at hnn
               have hpos : ((0 : Int) < ((newL t.time e).length : Int)) = True := eq_true (by omega)
               have hbl : l.length ≤ u.keys.length := by
                rw [← hl]
                have := z4w t.time (u.keys.take k)
                rw [Zlt] at this
                omega
               cases hll : l.length with
               | zero =>
                 have el : l = [] := List.eq_nil_of_length_eq_zero hll
                 clear hl
                 subst el
                 have z1 : (n = 0) = False := eq_false (by omega)
                 show VC _ noH A _ _ (over [(0, rfD b.p), (3, .c (.ptr (off + 3) 0)), (6, rfD c), (8, pD (dI i)), (9, .c (.full [])), (10, pD (dI k))] [(off + 3, t.enc.map .d)] noH A')
                 cases hnm : e.named with
                 | true =>
                   have env : newL t.time e = (vSet e.l t.time e.now) := by unfold newL; rw [hnm]; rfl
                   rw [env] at hnn hpos
                   repeat' (first|(with_reducible first|refine vSq fun K hK=>?_|apply vRg|apply vBl|apply vSc|apply vIf|apply vSk|apply vEx|apply vRt|((first|apply gNt|apply gCs)<;>(intro h;try simp only[h]))|((first|apply hK|(clear hK K;first|apply hK|(clear hK K;first|apply hK|(clear hK K;apply hK))));clear hK K)|(refine todo ?_;simp +decide only[go_sem, s1, s2, v1, hAL, v4, hAt, hlen, hd', hel, hge, hd2, hd3, hnx2, hnm, hpos, List.length_map]))|refine zzq kset rfl rfl rfl rfl ?_|(refine zv3 Tryz.appEnts (o := none) (cn := n) (ys := [(En.mk e.key (vSet e.l t.time e.now) [] false).enc]) (zqx rfl) (zqk rfl) (by simp) hw.cn.1 (hw.cn.2.2 n (Zlr _)) ?_; refine todo ?_; try simp +decide only [go_sem]))
                   refine hnn _ (zz1 (z2l hw.cn (m := 0) rfl ?_ ?_ ?_) (hkN _) ?_ ?_)
                   · simp [upd]
                   · simp [upd, z1]
                     rfl
                   · intro κ f1 f2 _
                     simp at f2
                     simp [upd, f1, f2]
                   · simp +decide only [go_sem]
                     exact ⟨zzh (by simp [zzy]), wk_c (.inr (.inl ⟨rfl, Zti⟩))⟩
                   · simp +decide only [go_sem, s2]
                 | false =>
                   have env : newL t.time e = e.l := by unfold newL; rw [hnm]; rfl
                   rw [env] at hnn hpos
                   repeat' (first|(with_reducible first|refine vSq fun K hK=>?_|apply vRg|apply vBl|apply vSc|apply vIf|apply vSk|apply vEx|apply vRt|((first|apply gNt|apply gCs)<;>(intro h;try simp only[h]))|((first|apply hK|(clear hK K;first|apply hK|(clear hK K;first|apply hK|(clear hK K;apply hK))));clear hK K)|(refine todo ?_;simp +decide only[go_sem, s1, v1, hAL, v4, hAt, hlen, hd', hel, hge, hd2, hd3, hnx2, hnm, hpos, List.length_map]))|(refine zv3 Tryz.appEnts (o := none) (cn := n) (ys := [(En.mk e.key e.l [] false).enc]) (zqx rfl) (zqk rfl) (by simp) hw.cn.1 (hw.cn.2.2 n (Zlr _)) ?_; refine todo ?_; try simp +decide only [go_sem]))
                   refine hnn _ (zz1 (z2l hw.cn (m := 0) rfl ?_ ?_ ?_) (hkN _) ?_ ?_)
                   · simp [upd]
                   · simp [upd, z1]
                     rfl
                   · intro κ f1 f2 _
                     simp at f2
                     simp [upd, f1, f2]
                   · simp +decide only [go_sem]
                     exact ⟨zzh (by simp [zzy]), wk_c (.inr (.inl ⟨rfl, Zti⟩))⟩
                   · simp +decide only [go_sem, s2]
               | succ m =>
                 rw [hll] at hcK
                 have esl : slP (z5x n (m + 1)) 4 (m + 1) = .c (.d (.sa (n + m) 4 (m + 1))) := rfl
                 rw [esl]
                 cases hnm : e.named with
                 | true =>
                   have env : newL t.time e = (vSet e.l t.time e.now) := by unfold newL; rw [hnm]; rfl
                   rw [env] at hnn hpos
                   repeat' (first|(with_reducible first|refine vSq fun K hK=>?_|apply vRg|apply vBl|apply vSc|apply vIf|apply vSk|apply vEx|apply vRt|((first|apply gNt|apply gCs)<;>(intro h;try simp only[h]))|((first|apply hK|(clear hK K;first|apply hK|(clear hK K;first|apply hK|(clear hK K;apply hK))));clear hK K)|(refine todo ?_;simp +decide only[go_sem, s1, s2, w1, w2, w3, w4, hlen, hd', hel, hge, hd2, hd3, hnx2, hnm, hpos, List.length_map]))|refine zzq kset rfl rfl rfl rfl ?_|(refine z18 Tryz.appEnts (o := none) (p := n + m) (cn := n + m + 1) (els := l.map En.enc) (ys := [(En.mk e.key (vSet e.l t.time e.now) [] false).enc]) (z5w hll (by omega)) (by simp; omega) (zqx rfl) (by simp) (zw4 _) (zqk rfl) (by simp; omega) hcK.1 (hcK.2.2 _ (Zlr _)) ?_; refine todo ?_; try simp +decide only [go_sem]))
                   refine hnn _ (zz1 (z2l hw.cn (m := m + 1) (by rw [Zla, hll]; rfl) ?_ ?_ ?_) (hkN _) ?_ ?_)
                   · simp [upd]; omega
                   · simp [upd, ← Nat.add_assoc]
                     rfl
                   · intro κ f1 f2 f3
                     have f4 := f3 m rfl
                     have f5 : κ ≠ (0, n + m + 1) := f2
                     rw [z1s hll]
                     simp [upd, f1, f4, f5]
                   · simp +decide only [go_sem]
                     refine ⟨zzh (by simp [zzy]), ?_⟩
                     rw [hll]
                     exact wk_c (.inr (.inl ⟨rfl, Zti⟩))
                   · simp +decide only [go_sem, s2]
                 | false =>
                   have env : newL t.time e = e.l := by unfold newL; rw [hnm]; rfl
                   rw [env] at hnn hpos
                   repeat' (first|(with_reducible first|refine vSq fun K hK=>?_|apply vRg|apply vBl|apply vSc|apply vIf|apply vSk|apply vEx|apply vRt|((first|apply gNt|apply gCs)<;>(intro h;try simp only[h]))|((first|apply hK|(clear hK K;first|apply hK|(clear hK K;first|apply hK|(clear hK K;apply hK))));clear hK K)|(refine todo ?_;simp +decide only[go_sem, s1, w1, w2, w3, w4, hlen, hd', hel, hge, hd2, hd3, hnx2, hnm, hpos, List.length_map]))|(refine z18 Tryz.appEnts (o := none) (p := n + m) (cn := n + m + 1) (els := l.map En.enc) (ys := [(En.mk e.key e.l [] false).enc]) (z5w hll (by omega)) (by simp; omega) (zqx rfl) (by simp) (zw4 _) (zqk rfl) (by simp; omega) hcK.1 (hcK.2.2 _ (Zlr _)) ?_; refine todo ?_; try simp +decide only [go_sem]))
                   refine hnn _ (zz1 (z2l hw.cn (m := m + 1) (by rw [Zla, hll]; rfl) ?_ ?_ ?_) (hkN _) ?_ ?_)
                   · simp [upd]; omega
                   · simp [upd, ← Nat.add_assoc]
                     rfl
                   · intro κ f1 f2 f3
                     have f4 := f3 m rfl
                     have f5 : κ ≠ (0, n + m + 1) := f2
                     rw [z1s hll]
                     simp [upd, f1, f4, f5]
                   · simp +decide only [go_sem]
                     refine ⟨zzh (by simp [zzy]), ?_⟩
                     rw [hll]
                     exact wk_c (.inr (.inl ⟨rfl, Zti⟩))
                   · simp +decide only [go_sem, s2]
           · have hek : k = u.keys.length := by omega
             subst hek
             have hfull : (u.keys.take u.keys.length).flatMap (zjv t.time) = (u.fin t.time).keys := by rw [List.take_length]; rfl
             rw [hfull]
             have hN2 : ∀ m, Weak noH A m (over [(0, rfD b.p), (3, .c (.ptr (off + 3) 0)), (6, rfD c), (8, pD (dI (i + 1 : Nat)))] [(off + 3, t.enc.map .d)] noH (finA t.time A' n u)) → PW.Next noH A L.length (fun _ => True) (fun i => over [(0, rfD b.p), (3, .c (.ptr (off + 3) 0)), (6, rfD c), (8, pD (dI i))] [(off + 3, t.enc.map .d)] noH (finS t.time s i).1) i m := fun m hm => zzi (I := fun _ => True) hlt Zti (by rw [gt']; exact hm)
             have fcs : (finT t.time n u).cells = [dS u.name, .sl (u.defs.map Df.enc), slD (z5x n (u.fin t.time).keys.length) 4 (u.fin t.time).keys.length] := rfl
             have hfa : finA t.time A' n u = upd (zvb A' n (u.fin t.time).keys) (0, u.p) (some (.pr u.p (.ob [dS u.name, .sl (u.defs.map Df.enc), slD (z5x n (u.fin t.time).keys.length) 4 (u.fin t.time).keys.length]))) := by unfold finA; rw [fcs]
             rw [hfa] at hN2 hkA'
             have hl0 : u.keys.length = 0 → (u.fin t.time).keys.length = 0 := fun e => by have := z4w t.time u.keys; show (u.keys.flatMap _).length = 0; omega
             generalize (u.fin t.time).keys = l at hN2 hkA' hl0 ⊢
             have w1 := hKl l v1
             have w2 := hKl l hAL
             have q1 : (c = u.p) = False := eq_false (fun e => by rw [e, hTu.1] at v1; simp [ucs] at v1)
             have q2 : (qL = u.p) = False := eq_false (fun e => by rw [e, hTu.1] at hAL; simp at hAL)
             cases htq : u.q with
             | none =>
               have hk0 : u.keys.length = 0 := by have := zk5 hTu.2 htq; simpa using this
               have hd2 : ((u.keys.length : Int) < 0) = False := eq_false (by omega)
               have hll : l.length = 0 := hl0 hk0
               have v4 := hTu.1
               rw [ucs, htq] at v4
               simp only [slD] at v4
               have w3 := hKl l v4
               rw [hll] at hN2 hkA' ⊢
               show VC _ noH A _ _ (over [(0, rfD b.p), (3, .c (.ptr (off + 3) 0)), (6, rfD c), (8, pD (dI i)), (9, .c (.full [])), (10, pD (dI u.keys.length))] [(off + 3, t.enc.map .d)] noH (zvb A' n l))
               repeat' (first|(with_reducible first|refine vSq fun K hK=>?_|apply vRg|apply vBl|apply vSc|apply vIf|apply vSk|apply vEx|apply vRt|((first|apply gNt|apply gCs)<;>(intro h;try simp only[h]))|((first|apply hK|(clear hK K;first|apply hK|(clear hK K;first|apply hK|(clear hK K;apply hK))));clear hK K)|(refine todo ?_;simp +decide only[go_sem, w1, w2, w3, hlen, hd', hel, hd2, hnx])))
               refine hN2 _ (zz1 (fun κ => .inr ?_) hkA' ?_ ?_) <;> simp +decide only [go_sem]
               · rfl
               · exact zzh (by simp [zzy])
             | some tq =>
               have hAt := zqo hTu.2 htq
               have hd2 : ((u.keys.length : Int) < (u.keys.length : Int)) = False := eq_false (by omega)
               have v4 := hTu.1
               rw [ucs, htq] at v4
               simp only [slD] at v4
               have w3 := hKl l v4
               have w4 := hKl l hAt
               cases hll : l.length with
               | zero =>
                 rw [hll] at hN2 hkA'
                 show VC _ noH A _ _ (over [(0, rfD b.p), (3, .c (.ptr (off + 3) 0)), (6, rfD c), (8, pD (dI i)), (9, .c (.full [])), (10, pD (dI u.keys.length))] [(off + 3, t.enc.map .d)] noH (zvb A' n l))
                 repeat' (first|(with_reducible first|refine vSq fun K hK=>?_|apply vRg|apply vBl|apply vSc|apply vIf|apply vSk|apply vEx|apply vRt|((first|apply gNt|apply gCs)<;>(intro h;try simp only[h]))|((first|apply hK|(clear hK K;first|apply hK|(clear hK K;first|apply hK|(clear hK K;apply hK))));clear hK K)|(refine todo ?_;simp +decide only[go_sem, w1, w2, w3, hlen, hd', hel, hd2, hnx, List.length_map])))
                 refine hN2 _ (zz1 (fun κ => .inr ?_) hkA' ?_ ?_) <;> simp +decide only [go_sem]
                 · rfl
                 · exact zzh (by simp [zzy])
               | succ m =>
                 rw [hll] at hN2 hkA'
                 show VC _ noH A _ _ (over [(0, rfD b.p), (3, .c (.ptr (off + 3) 0)), (6, rfD c), (8, pD (dI i)), (9, .c (.d (.sa (n + m) 4 (m + 1)))), (10, pD (dI u.keys.length))] [(off + 3, t.enc.map .d)] noH (zvb A' n l))
                 repeat' (first|(with_reducible first|refine vSq fun K hK=>?_|apply vRg|apply vBl|apply vSc|apply vIf|apply vSk|apply vEx|apply vRt|((first|apply gNt|apply gCs)<;>(intro h;try simp only[h]))|((first|apply hK|(clear hK K;first|apply hK|(clear hK K;first|apply hK|(clear hK K;apply hK))));clear hK K)|(refine todo ?_;simp +decide only[go_sem, w1, w2, w3, hlen, hd', hel, hd2, hnx, List.length_map])))
                 refine hN2 _ (zz1 (fun κ => .inr ?_) hkA' ?_ ?_) <;> simp +decide only [go_sem]
                 · rfl
                 · exact zzh (by simp [zzy])
       · have ei : i = s.2.1.tabs.length := by omega
         have hAF := hAFi ei
         simp only at hAF
         have hbq := h.cn.ne h.ba.1
         have v5 : A' (0, b.p) = some (.pr b.p (.ob b.cells)) := by rw [hlow (0, b.p) (by simp; omega) (.inr (by simp; omega)), h.ba.1]
         have ecb : b.cells = [dI b.seq, dI b.time, dI b.hor, slD b.q 1 b.tabs.length] := rfl
         rw [ecb] at v5
         have bcs : b'.cells = [dI b'.seq, dI b'.time, dI b'.hor, slD b'.q 1 b'.tabs.length] := rfl
         rw [bcs] at v1
         have q1 : (c = b.p) = False := eq_false (by omega)
         have hkF : ∀ κ, A κ ≠ none → putA A' b b' t κ ≠ none := fun κ hκ => by
          unfold putA upd
          split
          · simp
          · exact hkA κ hκ
         have epc : (putB b b' t).cells = [dI t.seq, dI t.time, dI b.hor, slD b'.q 1 b'.tabs.length] := rfl
         have hd : ((i : Int) < (b'.tabs.length : Int)) = False := eq_false (by omega)
         cases hbq' : b'.q with
         | none =>
           rw [hbq'] at v1 epc
           simp only [slD] at v1 epc
           have hl0 : b'.tabs.length = 0 := by have := zk5 v2 hbq'; unfold zzp at this; simpa using this
           have hd0 : ((i : Int) < 0) = False := eq_false (by omega)
           repeat' (first|(with_reducible first|refine vSq fun K hK=>?_|apply vRg|apply vBl|apply vSc|apply vIf|apply vSk|apply vEx|apply vRt|((first|apply gNt|apply gCs)<;>(intro h;try simp only[h]))|((first|apply hK|(clear hK K;first|apply hK|(clear hK K;first|apply hK|(clear hK K;apply hK))));clear hK K)|(refine todo ?_;simp +decide only[go_sem, v1, v5, hd0])))
           rw [hAe, hAF, hI]
           refine zqq (zzu (p := pD (dI 0)) rfl (by unfold zzn; simp +decide only [go_sem])) (by simp +decide only [go_sem]) Zti zqd (fun id cs h => by cases h) (fun κ => .inr (.inl ?_)) (fun _ h => h) hkF
           unfold putA
           rw [epc]
           by_cases e0 : κ = (0, b.p)
           · subst e0
             simp only [upd, if_true]
             rfl
           · simp [upd, e0]
         | some q =>
           rw [hbq'] at v1 epc
           simp only [slD] at v1 epc
           repeat' (first|(with_reducible first|refine vSq fun K hK=>?_|apply vRg|apply vBl|apply vSc|apply vIf|apply vSk|apply vEx|apply vRt|((first|apply gNt|apply gCs)<;>(intro h;try simp only[h]))|((first|apply hK|(clear hK K;first|apply hK|(clear hK K;first|apply hK|(clear hK K;apply hK))));clear hK K)|(refine todo ?_;simp +decide only[go_sem, v1, v5, hd])))
           rw [hAe, hAF, hI]
           refine zqq (zzu (p := pD (dI 0)) rfl (by unfold zzn; simp +decide only [go_sem])) (by simp +decide only [go_sem]) Zti zqd (fun id cs h => by cases h) (fun κ => .inr (.inl ?_)) (fun _ h => h) hkF
           unfold putA
           rw [epc]
           by_cases e0 : κ = (0, b.p)
           · subst e0
             simp only [upd, if_true]
             rfl
           · simp [upd, e0]
end
end Go.Proofs
namespace Go.Proofs
open Go.PW
structure Apd (A : AMap) (b : Bs) (k : Nat) (t : Txn) (A' : AMap) (b' : Bs) (c' : Nat) : Prop where
 w : BW A' b' k c'
 kA : ∀ κ, A κ ≠ none → A' κ ≠ none
 low : Low k A A'
 p : b'.p = b.p
 ok : zk4 b.seq b.time b.abs t = 0 → b'.abs = z3v b.abs t ∧ b'.seq = t.seq ∧ b'.time = t.time
 no : zk4 b.seq b.time b.abs t ≠ 0 → b' = b
theorem z6y {s m : Int} {t : Txn} (h : (zxz s m t != 0) = false) : z0n t = true ∧ s < t.seq ∧ t.seq ≤ s + 1 ∧ m < t.time := by
 have h1 : zxz s m t = 0 := by simpa using h
 unfold zxz at h1
 split at h1
 · rename_i h2
   simp only [decide_eq_true_eq] at h1
   split at h1
   · simp at h1
   · split at h1
     · simp at h1
     · split at h1
       · simp at h1
       · exact ⟨h2, by omega, by omega, by omega⟩
 · simp at h1
theorem Tryz.rApply (off : Nat) {A : AMap} {M N P k c : Nat} (b : Bs) (t : Txn) (h : BW A b k c) (hL : LOK M N P P b.abs) (hM : M + 100 ≤ 1048576) (hN : N + P + 200 ≤ 131072) (ht : t.sm) (h0 : 0 ≤ b.seq) (h1 : b.seq ≤ 1099511627776) :
 ∃ A' b' c', zqf Tryz.prog 23 off noH A [rfD b.p, pA t.enc] (pD (dI (zk4 b.seq b.time b.abs t))) noH A' ∧ Apd A b k t A' b' c' := by
 cases he : (zxz b.seq b.time t != 0) with
 | true =>
   have e : zk4 b.seq b.time b.abs t = zxz b.seq b.time t := by unfold zk4; rw [if_pos he]
   rw [e]
   exact ⟨A, b, c, Tryz.rApplyNo off b t h ht h0 h1 he, h, fun _ h => h, Low.refl, rfl, fun e1 => by rw [e] at e1; rw [e1] at he; simp at he, fun _ => rfl⟩
 | false =>
   have e : zk4 b.seq b.time b.abs t = (zvi t.time b.abs t.chs).1 := by unfold zk4; rw [he]; rfl
   rw [e]
   have hok := (z6y he).1
   have hg := Txn.good hok ht
   have hI := yxh h b.tabs b.tabs.length (Zlr _)
   rw [List.take_length] at hI
   obtain ⟨f, f0, fP, fR⟩ := y5y (P := fun i s => ApI A c (Lq t.time b.abs (t.chs.take i)) s) (R := fun i s s' => s.2.2 ≤ s'.2.2 ∧ ∀ x, t.chs[i]? = some x → zqf Tryz.prog 44 (off + 1000) noH s.1 [rfD c, pA x.enc, pD (dI t.time)] (pD (dI (chgS (Lq t.time b.abs (t.chs.take i)) x t.time).1)) noH s'.1)
    (x0 := z1b A b c b.tabs) ⟨hI.w, Nat.le_of_lt hI.gt, hI.low, hI.kA, by rw [List.take_zero]; exact hI.abs, hI.p⟩ t.chs.length (fun i s hi hP => by
      have hgx := Zge hi
      have hgood := hg.2 _ (Zme hgx)
      have hnx := y6c (time := t.time) (L := b.abs) hgx
      generalize t.chs[i] = x at hgx hgood hnx
      have hLi := y2y (time := t.time) (l := t.chs.take i) hL (Zlr _) (fun y hy => hg.2 y (List.mem_of_mem_take hy))
      have htl : (t.chs.take i).length = i := by rw [Zlt]; omega
      rw [htl, ← hP.abs] at hLi
      obtain ⟨A', kx, b', c', w1, w2, w3, w4, w5, w6⟩ := Tryz.rChange (off + 1000) s.2.1 x t.time hP.w hLi (by omega) (by omega) (by omega) (by omega) hgood
      rw [hP.abs, hP.p] at kx
      refine ⟨(A', b', c'), ⟨w1, by have := hP.gt; show c ≤ c'; omega, hP.low.trans w3, fun κ hκ => w4 κ (hP.kA κ hκ), ?_, by rw [← hP.p]; exact w6.p⟩, w2, fun y hy => ?_⟩
      · show b'.abs = _
        rw [w5, hnx, hP.abs]
      · rw [hgx] at hy
        cases hy
        exact kx)
   have fc : ∀ i, i ≤ t.chs.length → (f i).2.2 ≤ (f t.chs.length).2.2 := by
    have : ∀ d i, i + d = t.chs.length → (f i).2.2 ≤ (f t.chs.length).2.2 := by
     intro d
     induction d with
     | zero => intro i hi; rw [← hi]; exact Zlr _
     | succ d ih => intro i hi; exact Nat.le_trans (fR i (by omega)).1 (ih (i + 1) (by omega))
    exact fun i hi => this (t.chs.length - i) i (by omega)
   have go := Tryz.rApplyGo off b t h hL hM hN ht h0 h1 he hok f f0 fP fc (fun i hi => (fR i hi).2)
   have hPn := fP t.chs.length (Zlr _)
   rw [List.take_length] at hPn
   by_cases hv : (zvi t.time b.abs t.chs).1 = 0
   · have hF : ∀ i, i ≤ (Lq t.time b.abs t.chs).length → ApI A c (finI t.time (Lq t.time b.abs t.chs) i) (finS t.time (f t.chs.length) i) := by
      intro i
      induction i with
      | zero => intro _; exact hPn
      | succ i ih => intro hi; exact y0z (ih (by omega)) (by omega)
     have hln : (f t.chs.length).2.1.tabs.length = (Lq t.time b.abs t.chs).length := by rw [← hPn.abs]; unfold Bs.abs; rw [List.length_map]
     have hE := hF _ (Nat.le_of_eq hln)
     have hk : k ≤ c := by have := h.lp; have := (h.cn.ne h.ba.1).2; omega
     refine ⟨_, _, _, go _ (fun _ => rfl) (fun e => absurd hv e), y7y h hE.w hE.gt, fun κ hκ => ?_, fun κ k0 k1 => ?_, rfl, fun _ => ⟨?_, rfl, rfl⟩, fun e1 => absurd (e.trans hv) e1⟩
     · unfold putA upd
       split
       · simp
       · exact hE.kA κ hκ
     · have := h.lp
       unfold putA
       rw [zza _ _ (by rintro rfl; simp at k1; omega)]
       exact hE.low κ k0 (k1.imp_right (fun x => by omega))
     · have := hE.abs
       rw [hln] at this
       show (finS t.time (f t.chs.length) _).2.1.abs = _
       rw [hln, this]
       unfold finI z3v
       rw [List.take_length, List.drop_length, List.append_nil]
   · have hk : k ≤ c := by have := h.lp; have := (h.cn.ne h.ba.1).2; omega
     have lowE : ∀ j, Low j A (errA A (f t.chs.length).2.2) := fun j κ k0 _ => by unfold errA; rw [zza _ _ k0]
     refine ⟨_, b, (f t.chs.length).2.2, go _ (fun e => absurd e hv) (fun _ => rfl), h.low (lowE c) ⟨by unfold errA; rw [zzc], by have := hPn.gt; have := h.cn.2.1; omega, fun j hj => ?_⟩, y0w, lowE k, rfl, fun e1 => absurd (e.symm.trans e1) hv, fun _ => rfl⟩
     have h2 := hPn.gt
     have h3 := h.cn.2.1
     unfold errA
     rw [zza _ _ (by simp; omega)]
     exact h.cn.2.2 j (by omega)
end Go.Proofs
