/-
  Parts of the proof, laid together: PwUb, PwVa, PwVb, PwVc.
-/
import Derived.Test.YtemecklglapleaaGreatQ23
import Derived.Test.YtemecklglapleaaGreatQ21

set_option maxRecDepth 30000
set_option maxHeartbeats 16000000
namespace Go.Proofs
open Go.PW
def z3j (l : List Ver) : Prop := ∀ v ∈ l, Row.ok' v.p.row
theorem Tryz.rRightV (l : List Ver) (hn : l.length ≤ 1048576) (hr : ∀ v ∈ l, v.p.row.length ≤ 1048576) (hok : z3j l) : zzr Tryz.prog 71 [pD (zxs l)] (.one (dB (zqt l))) := by
 refine Tryz.pure (md := []) Tryz.func71 rfl Tryz.call71 (by kernel_rfl) (by rfl) (by exact Zle rfl) ?_
 repeat' (first|(with_reducible first|refine vSq fun K hK=>?_|apply vRg|apply vBl|apply vSc|apply vIf|apply vSk|apply vEx|apply vRt|((first|apply gNt|apply gCs)<;>(intro h;try simp only[h]))|((first|apply hK|(clear hK K;first|apply hK|(clear hK K;first|apply hK|(clear hK K;apply hK))));clear hK K)|(refine todo ?_;simp +decide only[go_sem])))
 refine zzj l.length (fun i => zqt (l.take i) = true) (fun i => frame [(0, pD (zxs l)), (3, pD (.lit (.int .i64 i)))] [] []) rfl ?_ ?_
 · refine zzb ?_ ?_ ?_ <;> simp +decide only [go_sem]
 · intro i hi hI
   rcases Zlg i l.length with hlt | hge
   · have hg := Zge hlt
     have hd := zze hlt
     have hwi := zzl hlt (show l.length ≤ 4294967296 by omega)
     generalize l[i] = x at hg
     have hx := hr x (Zme hg)
     have hxo := hok x (Zme hg)
     have ks := Tryz.rSpanRight x.sl x.sh
     have kp := Tryz.rRight [x.p] (by simp) (fun p hp => by rw [List.mem_singleton.1 hp]; exact hx) (fun p hp => by rw [List.mem_singleton.1 hp]; exact hxo)
     have hnt := ywn hg
     have hnx := yjk hg hI
     have hlt1 : (l.take i).length = i := by rw [Zlt]; omega
     cases hS : Span.right x.sl x.sh with
     | false =>
       rw [hS] at ks
       have hs : z12 (l.take i) x = false := by unfold z12 okV; rw [hS]; rfl
       repeat' (first|(with_reducible first|refine vSq fun K hK=>?_|apply vRg|apply vBl|apply vSc|apply vIf|apply vSk|apply vEx|apply vRt|((first|apply gNt|apply gCs)<;>(intro h;try simp only[h]))|((first|apply hK|(clear hK K;first|apply hK|(clear hK K;first|apply hK|(clear hK K;apply hK))));clear hK K)|(refine todo ?_;simp +decide only[go_sem, hg, hd]))|refine zzd ks rfl rfl (fun _ => rfl) ?_)
       rw [hnt hs]
       exact zzs rfl rfl
     | true =>
       rw [hS] at ks
       cases hP : right [x.p] with
       | false =>
         rw [hP] at kp
         have hs : z12 (l.take i) x = false := by unfold z12 okV; rw [hS, hP]; rfl
         repeat' (first|(with_reducible first|refine vSq fun K hK=>?_|apply vRg|apply vBl|apply vSc|apply vIf|apply vSk|apply vEx|apply vRt|((first|apply gNt|apply gCs)<;>(intro h;try simp only[h]))|((first|apply hK|(clear hK K;first|apply hK|(clear hK K;first|apply hK|(clear hK K;apply hK))));clear hK K)|(refine todo ?_;simp +decide only[go_sem, hg, hd]))|refine zzd ks rfl rfl (fun _ => rfl) ?_|refine zzd kp rfl rfl (fun _ => rfl) ?_)
         rw [hnt hs]
         exact zzs rfl rfl
       | true =>
         rw [hP] at kp
         have hpre : okV x = true := by unfold okV; rw [hS, hP]; rfl
         repeat' (first|(with_reducible first|refine vSq fun K hK=>?_|apply vRg|apply vBl|apply vSc|apply vIf|apply vSk|apply vEx|apply vRt|((first|apply gNt|apply gCs)<;>(intro h;try simp only[h]))|((first|apply hK|(clear hK K;first|apply hK|(clear hK K;first|apply hK|(clear hK K;apply hK))));clear hK K)|(refine todo ?_;simp +decide only[go_sem, hg, hd]))|refine zzd ks rfl rfl (fun _ => rfl) ?_|refine zzd kp rfl rfl (fun _ => rfl) ?_)
         refine zzj i (fun k => ((l.take i).take k).all (fun w => !clash x w) = true) (fun k => frame [(0, pD (zxs l)), (3, pD (.lit (.int .i64 i))), (4, pD (.lit (.int .i64 k)))] [] []) rfl ?_ ?_
         · refine zzb ?_ ?_ ?_ <;> simp +decide only [go_sem]
         · intro k hk hJ
           rcases Zlg k i with hlt2 | hge2
           · have hg3 := Zge (show k < l.length by omega)
             have hg2 : (l.take i)[k]? = some l[k] := by rw [List.getElem?_take, if_pos hlt2]; exact hg3
             generalize l[k] = w at hg2 hg3
             have hd2 := zze hlt2
             have hw2 := zzl hlt2 (show i ≤ 4294967296 by omega)
             have k1 := Tryz.rMeet (x.sl, x.sh) (w.sl, w.sh)
             have k2 := Tryz.rMeet (x.p.lo, x.p.hi) (w.p.lo, w.p.hi)
             have ec : clash x w = ((meet (x.sl, x.sh) (w.sl, w.sh)).isSome && (meet (x.p.lo, x.p.hi) (w.p.lo, w.p.hi)).isSome) := rfl
             have hclash : clash x w = true → zqt l = false := fun hc => hnt (by
              unfold z12
              rw [zqr (f := fun w => !clash x w) hg2 (by simp [hc]), Bool.and_false])
             cases h1 : meet (x.sl, x.sh) (w.sl, w.sh) with
             | none =>
               rw [h1] at k1 ec
               cases h2 : meet (x.p.lo, x.p.hi) (w.p.lo, w.p.hi) with
               | none =>
                 rw [h2] at k2
                 repeat' (first|(with_reducible first|refine vSq fun K hK=>?_|apply vRg|apply vBl|apply vSc|apply vIf|apply vSk|apply vEx|apply vRt|((first|apply gNt|apply gCs)<;>(intro h;try simp only[h]))|((first|apply hK|(clear hK K;first|apply hK|(clear hK K;first|apply hK|(clear hK K;apply hK))));clear hK K)|(refine todo ?_;simp +decide only[go_sem, hg, hg3, hd2, hw2, zvd]))|refine zzd k1 rfl rfl (fun _ => rfl) ?_|refine zzd k2 rfl rfl (fun _ => rfl) ?_)
                 refine zzi hlt2 (zz8 hJ hg2 (by rw [ec]; rfl)) (zzb ?_ ?_ ?_) <;> simp +decide only [go_sem]
               | some m =>
                 rw [h2] at k2
                 have hme : m.enc = zqj m.1 m.2 := rfl
                 repeat' (first|(with_reducible first|refine vSq fun K hK=>?_|apply vRg|apply vBl|apply vSc|apply vIf|apply vSk|apply vEx|apply vRt|((first|apply gNt|apply gCs)<;>(intro h;try simp only[h]))|((first|apply hK|(clear hK K;first|apply hK|(clear hK K;first|apply hK|(clear hK K;apply hK))));clear hK K)|(refine todo ?_;simp +decide only[go_sem, hg, hg3, hd2, hw2, zvd, hme]))|refine zzd k1 rfl rfl (fun _ => rfl) ?_|refine zzd k2 rfl rfl (fun _ => rfl) ?_)
                 refine zzi hlt2 (zz8 hJ hg2 (by rw [ec]; rfl)) (zzb ?_ ?_ ?_) <;> simp +decide only [go_sem]
             | some n =>
               rw [h1] at k1 ec
               have hne : n.enc = zqj n.1 n.2 := rfl
               cases h2 : meet (x.p.lo, x.p.hi) (w.p.lo, w.p.hi) with
               | none =>
                 rw [h2] at k2 ec
                 repeat' (first|(with_reducible first|refine vSq fun K hK=>?_|apply vRg|apply vBl|apply vSc|apply vIf|apply vSk|apply vEx|apply vRt|((first|apply gNt|apply gCs)<;>(intro h;try simp only[h]))|((first|apply hK|(clear hK K;first|apply hK|(clear hK K;first|apply hK|(clear hK K;apply hK))));clear hK K)|(refine todo ?_;simp +decide only[go_sem, hg, hg3, hd2, hw2, zvd, hne]))|refine zzd k1 rfl rfl (fun _ => rfl) ?_|refine zzd k2 rfl rfl (fun _ => rfl) ?_)
                 refine zzi hlt2 (zz8 hJ hg2 (by rw [ec]; rfl)) (zzb ?_ ?_ ?_) <;> simp +decide only [go_sem]
               | some m =>
                 rw [h2] at k2 ec
                 have hme : m.enc = zqj m.1 m.2 := rfl
                 repeat' (first|(with_reducible first|refine vSq fun K hK=>?_|apply vRg|apply vBl|apply vSc|apply vIf|apply vSk|apply vEx|apply vRt|((first|apply gNt|apply gCs)<;>(intro h;try simp only[h]))|((first|apply hK|(clear hK K;first|apply hK|(clear hK K;first|apply hK|(clear hK K;apply hK))));clear hK K)|(refine todo ?_;simp +decide only[go_sem, hg, hg3, hd2, zvd, hne, hme]))|refine zzd k1 rfl rfl (fun _ => rfl) ?_|refine zzd k2 rfl rfl (fun _ => rfl) ?_)
                 rw [hclash ec]
                 exact zzs rfl rfl
           · have hd2 := zzf hge2
             rw [Ztl (by omega)] at hJ
             rcases Nat.eq_zero_or_pos i with hi0 | hi0
             · have hgt : ((0 : Int) < (i : Int)) = False := eq_false (by omega)
               have hna : z01 (l.take i) x = true := by rw [hi0]; rfl
               have hs : z12 (l.take i) x = true := by unfold z12; rw [hpre, hna, hJ]; rfl
               clear hi0
               repeat' (first|(with_reducible first|refine vSq fun K hK=>?_|apply vRg|apply vBl|apply vSc|apply vIf|apply vSk|apply vEx|apply vRt|((first|apply gNt|apply gCs)<;>(intro h;try simp only[h]))|((first|apply hK|(clear hK K;first|apply hK|(clear hK K;first|apply hK|(clear hK K;apply hK))));clear hK K)|(refine todo ?_;simp +decide only[go_sem, hd2, hgt, hwi])))
               refine zzi hlt (hnx hs) (zzb ?_ ?_ ?_) <;> simp +decide only [go_sem]
             · have hgt : ((0 : Int) < (i : Int)) = True := eq_true (by omega)
               have hgy := Zge (show i - 1 < l.length by omega)
               generalize l[i - 1] = y at hgy
               have hw1 : IntKind.i64.wrap ((i : Int) - 1) = ((i - 1 : Nat) : Int) := by rw [Go.IntWalk.i64_in _ (by omega)]; omega
               have hna : z01 (l.take i) x = !ahead' x y := by
                unfold z01
                have : (l.take i).getLast? = some y := by rw [List.getLast?_eq_getElem?, hlt1, List.getElem?_take, if_pos (by omega)]; exact hgy
                rw [this]
               have ka := Tryz.rAheadV x y
               cases hA : ahead' x y with
               | true =>
                 rw [hA] at ka hna
                 have hs : z12 (l.take i) x = false := by unfold z12; rw [hna, hpre]; rfl
                 repeat' (first|(with_reducible first|refine vSq fun K hK=>?_|apply vRg|apply vBl|apply vSc|apply vIf|apply vSk|apply vEx|apply vRt|((first|apply gNt|apply gCs)<;>(intro h;try simp only[h]))|((first|apply hK|(clear hK K;first|apply hK|(clear hK K;first|apply hK|(clear hK K;apply hK))));clear hK K)|(refine todo ?_;simp +decide only[go_sem, hg, hd2, hgt, hw1, hgy]))|refine zzd ka rfl rfl (fun _ => rfl) ?_)
                 rw [hnt hs]
                 exact zzs rfl rfl
               | false =>
                 rw [hA] at ka hna
                 have hs : z12 (l.take i) x = true := by unfold z12; rw [hpre, hna, hJ]; rfl
                 repeat' (first|(with_reducible first|refine vSq fun K hK=>?_|apply vRg|apply vBl|apply vSc|apply vIf|apply vSk|apply vEx|apply vRt|((first|apply gNt|apply gCs)<;>(intro h;try simp only[h]))|((first|apply hK|(clear hK K;first|apply hK|(clear hK K;first|apply hK|(clear hK K;apply hK))));clear hK K)|(refine todo ?_;simp +decide only[go_sem, hg, hd2, hgt, hw1, hgy, hwi]))|refine zzd ka rfl rfl (fun _ => rfl) ?_)
                 refine zzi hlt (hnx hs) (zzb ?_ ?_ ?_) <;> simp +decide only [go_sem]
   · have hd := zzf hge
     rw [Ztl hge] at hI
     repeat' (first|(with_reducible first|refine vSq fun K hK=>?_|apply vRg|apply vBl|apply vSc|apply vIf|apply vSk|apply vEx|apply vRt|((first|apply gNt|apply gCs)<;>(intro h;try simp only[h]))|((first|apply hK|(clear hK K;first|apply hK|(clear hK K;first|apply hK|(clear hK K;apply hK))));clear hK K)|(refine todo ?_;simp +decide only[go_sem, hd])))
     rw [hI]
     exact zzs rfl rfl
def okP (v : Ver) : Prop := SpOK (v.sl, v.sh) ∧ OK v.p
def zjl (v w : Ver) : Prop := (v.sh ≤ w.sl ∨ w.sh ≤ v.sl) ∨ (v.p.hi ≤ w.p.lo ∨ w.p.hi ≤ v.p.lo)
theorem zjl.symm {v w : Ver} (h : zjl v w) : zjl w v := by unfold zjl at h ⊢; omega
def Le (v w : Ver) : Prop := v.sl < w.sl ∨ (v.sl = w.sl ∧ v.p.lo ≤ w.p.lo)
theorem Le.trans {u v w : Ver} (h : Le u v) (h' : Le v w) : Le u w := by unfold Le at *; omega
theorem z5e {v w : Ver} : ahead' v w = true ↔ ¬ Le w v := by
 unfold ahead' Le
 split
 · rename_i h
   have h : v.sl = w.sl := by simpa using h
   rw [decide_eq_true_eq]
   omega
 · rename_i h
   have h : v.sl ≠ w.sl := by simpa using h
   rw [decide_eq_true_eq]
   omega
theorem z58 {v w : Ver} : ahead' v w = false ↔ Le w v := by
 rw [← Bool.not_eq_true, z5e, Classical.not_not]
theorem y17 {p : Piece} : right [p] = true ↔ OK p := by
 rw [zqu]
 simp
theorem y7v {v : Ver} : okV v = true ↔ okP v := by
 unfold okV okP
 rw [Bool.and_eq_true, zzo, y17]
 exact Iff.rfl
theorem z55 {a b : Sp} (ha : SpOK a) (hb : SpOK b) : (meet a b).isSome = true ↔ a.1 < b.2 ∧ b.1 < a.2 := by
 obtain ⟨h1, h2, h3⟩ := ha
 obtain ⟨k1, k2, k3⟩ := hb
 unfold meet
 rw [zzo.2 ⟨h1, h2, h3⟩, zzo.2 ⟨k1, k2, k3⟩]
 simp only [Bool.true_and]
 cases e : Span.right (iMax a.1 b.1) (iMin a.2 b.2) with
 | true =>
   rw [zzo] at e
   unfold iMax iMin at e
   simp only [if_true, Option.isSome_some, true_iff]
   split at e <;> split at e <;> omega
 | false =>
   simp only [Bool.false_eq_true, if_false, Option.isSome_none, false_iff]
   intro h
   have : Span.right (iMax a.1 b.1) (iMin a.2 b.2) = true := by
    rw [zzo]
    unfold iMax iMin
    split <;> split <;> omega
   rw [this] at e
   cases e
theorem yzh {v w : Ver} (hv : okP v) (hw : okP w) : clash v w = false ↔ zjl v w := by
 have h1 := z55 hv.1 hw.1
 have h2 := z55 (a := (v.p.lo, v.p.hi)) (b := (w.p.lo, w.p.hi)) hv.2.1 hw.2.1
 rw [← Bool.not_eq_true, clash, Bool.and_eq_true, h1, h2]
 unfold zjl
 simp only
 omega
theorem zvy : ∀ {l prev : List Ver}, (∀ w ∈ prev, okP w) → (zq6 prev l = true ↔ (∀ v ∈ l, okP v) ∧ (∀ w ∈ prev, ∀ v ∈ l, zjl w v) ∧ (∀ w, prev.getLast? = some w → ∀ v ∈ l, Le w v) ∧ l.Pairwise fun v w => zjl v w ∧ Le v w)
 | [], prev, _ => by simp [zq6]
 | v :: r, prev, hp => by
   rw [zq6, Bool.and_eq_true, z12, Bool.and_eq_true, Bool.and_eq_true, y7v, List.all_eq_true, List.pairwise_cons]
   have hna : z01 prev v = true ↔ ∀ w, prev.getLast? = some w → Le w v := by
    unfold z01
    cases prev.getLast? with
    | none => simp
    | some w => simp [z58]
   rw [hna]
   constructor
   · rintro ⟨⟨⟨h1, h2⟩, h3⟩, h4⟩
     have hp' : ∀ w ∈ prev ++ [v], okP w := fun w hw => by
      rcases List.mem_append.1 hw with hw | hw
      · exact hp w hw
      · rw [List.mem_singleton.1 hw]; exact h1
     obtain ⟨k1, k2, k3, k4⟩ := (zvy hp').1 h4
     have hap : ∀ w ∈ prev, zjl w v := fun w hw => ((yzh h1 (hp w hw)).1 (by simpa using h3 w hw)).symm
     have hle : ∀ u ∈ r, Le v u := fun u hu => k3 v (by simp) u hu
     refine ⟨fun u hu => ?_, fun w hw u hu => ?_, fun w hw u hu => ?_, fun u hu => ⟨k2 v (by simp) u hu, hle u hu⟩, k4⟩
     · rcases List.mem_cons.1 hu with rfl | hu
       · exact h1
       · exact k1 u hu
     · rcases List.mem_cons.1 hu with rfl | hu
       · exact hap w hw
       · exact k2 w (by simp [hw]) u hu
     · rcases List.mem_cons.1 hu with rfl | hu
       · exact h2 w hw
       · exact (h2 w hw).trans (hle u hu)
   · rintro ⟨h1, h2, h3, h4, h5⟩
     have hv := h1 v Zms2
     have hp' : ∀ w ∈ prev ++ [v], okP w := fun w hw => by
      rcases List.mem_append.1 hw with hw | hw
      · exact hp w hw
      · rw [List.mem_singleton.1 hw]; exact hv
     refine ⟨⟨⟨hv, fun w hw => h3 w hw v Zms2⟩, fun w hw => ?_⟩, (zvy hp').2 ⟨fun u hu => h1 u (List.mem_cons_of_mem _ hu), fun w hw u hu => ?_, fun w hw u hu => ?_, h5⟩⟩
     · rw [(yzh hv (hp w hw)).2 (h2 w hw v Zms2).symm]; rfl
     · rcases List.mem_append.1 hw with hw | hw
       · exact h2 w hw u (List.mem_cons_of_mem _ hu)
       · rw [List.mem_singleton.1 hw]; exact (h4 u hu).1
     · rw [List.getLast?_append] at hw
       simp at hw
       rw [← hw]
       exact (h4 u hu).2
theorem zq7 {l : List Ver} : zqt l = true ↔ (∀ v ∈ l, okP v) ∧ l.Pairwise fun v w => zjl v w ∧ Le v w := by
 rw [zqt, zvy (fun w hw => by cases hw)]
 constructor
 · rintro ⟨h1, _, _, h4⟩
   exact ⟨h1, h4⟩
 · rintro ⟨h1, h4⟩
   exact ⟨h1, fun w hw => (by cases hw), fun w hw => (by cases hw), h4⟩
theorem zvz {l m : List Ver} (h : m.Sublist l) (hr : zqt l = true) : zqt m = true := by
 rw [zq7] at hr ⊢
 exact ⟨fun v hv => hr.1 v (h.subset hv), hr.2.sublist h⟩
theorem zjl.ne {v w : Ver} (hv : okP v) (h : zjl v w) : v ≠ w := fun e => by
 subst e
 obtain ⟨⟨_, h2, _⟩, ⟨_, h5, _⟩, _⟩ := hv
 simp only at h2
 unfold zjl at h
 omega
theorem z8e : ∀ {a b : List Ver}, zqt a = true → zqt b = true → (∀ x, x ∈ a ↔ x ∈ b) → a = b
 | [], [], _, _, _ => rfl
 | [], y :: _, _, _, h => absurd ((h y).2 Zms2) (by simp)
 | x :: _, [], _, _, h => absurd ((h x).1 Zms2) (by simp)
 | x :: a, y :: b, ha, hb, h => by
   obtain ⟨a1, a2⟩ := zq7.1 ha
   obtain ⟨b1, b2⟩ := zq7.1 hb
   have a3 := List.pairwise_cons.1 a2
   have b3 := List.pairwise_cons.1 b2
   have hxy : x = y := by
    rcases List.mem_cons.1 ((h x).1 Zms2) with e | hx
    · exact e
    rcases List.mem_cons.1 ((h y).2 Zms2) with e | hy
    · exact e.symm
    have k1 := (b3.1 x hx)
    have k2 := (a3.1 y hy)
    exfalso
    obtain ⟨⟨_, hx2, _⟩, ⟨_, hx5, _⟩, _⟩ := a1 x Zms2
    obtain ⟨⟨_, hy2, _⟩, ⟨_, hy5, _⟩, _⟩ := b1 y Zms2
    simp only at hx2 hy2
    unfold zjl Le at k1 k2
    omega
   subst hxy
   congr 1
   refine z8e (zvz (List.sublist_cons_self _ _) ha) (zvz (List.sublist_cons_self _ _) hb) fun z => ?_
   constructor
   · intro hz
     rcases List.mem_cons.1 ((h z).1 (List.mem_cons_of_mem _ hz)) with e | hz'
     · exact absurd e.symm ((a3.1 z hz).1.ne (a1 x Zms2))
     · exact hz'
   · intro hz
     rcases List.mem_cons.1 ((h z).2 (List.mem_cons_of_mem _ hz)) with e | hz'
     · exact absurd e.symm ((b3.1 z hz).1.ne (b1 x Zms2))
     · exact hz'
theorem z4u {a b t : Int} (h : SpOK (a, b)) : Span.has a b t = true ↔ a ≤ t ∧ t < b := by
 unfold Span.has
 rw [zzo.2 h]
 simp
theorem ywm {α : Type} (f : α → Bool) (l : List α) : l.take (l.takeWhile f).length = l.takeWhile f ∧ l.drop (l.takeWhile f).length = l.dropWhile f := by
 have e := List.takeWhile_append_dropWhile (p := f) (l := l)
 constructor
 · conv => lhs; rw [← e]
   rw [List.takeWhile_append_dropWhile]
   exact (by
    have : ∀ (a b : List α), (a ++ b).take a.length = a := fun a b => List.take_left
    have h := this (l.takeWhile f) (l.dropWhile f)
    rwa [e] at h)
 · have : ∀ (a b : List α), (a ++ b).drop a.length = b := fun a b => List.drop_left
   have h := this (l.takeWhile f) (l.dropWhile f)
   rwa [e] at h
theorem y2o {α : Type} {f : α → Bool} : ∀ {l : List α} {x : α}, x ∈ l.takeWhile f → f x = true
 | a :: l, x, h => by
   rw [List.takeWhile_cons] at h
   split at h
   · rename_i ha
     rcases List.mem_cons.1 h with rfl | h
     · exact ha
     · exact y2o h
   · cases h
def putV (out : List Piece) (v : Ver) : List Piece := putP out (v.p.lo, v.p.hi) v.p.row
def Off (out : List Piece) (p : Piece) : Prop := ∀ x ∈ out, x.hi ≤ p.lo ∨ p.hi ≤ x.lo
theorem y7h {out : List Piece} {v : Ver} (h : right out = true) (hv : OK v.p) (ha : Off out v.p) : insP out v = putV out v := by
 have hp : puts (v.p.lo, v.p.hi) v.p.row = true := by unfold puts; rw [zzo.2 hv.1, hv.2]; rfl
 obtain ⟨h1, h2⟩ := zqu.1 h
 have hs := z74 (s := (v.p.lo, v.p.hi)) hv.1 (q := out) (fun x hx => ⟨h1 x hx, ha x hx⟩)
 have hs : rests (v.p.lo, v.p.hi) out = out := hs
 rw [putV, z9h h hp, hs, insert']
 obtain ⟨e1, e2⟩ := ywm (Go.Proofs.ahead (v.p.lo, v.p.hi)) out
 rw [← e1, ← e2]
 have hbad : ∀ x ∈ out.takeWhile (Go.Proofs.ahead (v.p.lo, v.p.hi)), x.lo < v.p.lo := fun x hx => by
  have := y2o hx
  simpa [Go.Proofs.ahead] using this
 have hgood : ∀ x ∈ out.dropWhile (Go.Proofs.ahead (v.p.lo, v.p.hi)), v.p.lo < x.lo := by
  have hsub : (out.dropWhile (Go.Proofs.ahead (v.p.lo, v.p.hi))).Sublist out := List.dropWhile_sublist _
  have hpw := h2.sublist hsub
  have hmem : ∀ x ∈ out.dropWhile (Go.Proofs.ahead (v.p.lo, v.p.hi)), x ∈ out := fun x hx => hsub.subset hx
  cases hd : out.dropWhile (Go.Proofs.ahead (v.p.lo, v.p.hi)) with
  | nil => intro x hx; cases hx
  | cons y r =>
    rw [hd] at hpw hmem
    have hy : ¬ y.lo < v.p.lo := by
     have := List.head_dropWhile_not (Go.Proofs.ahead (v.p.lo, v.p.hi)) (l := out) (by rw [hd]; simp)
     simp only [hd, List.head_cons] at this
     simpa [Go.Proofs.ahead] using this
    have hyo := h1 y (hmem y Zms2)
    have hya := ha y (hmem y Zms2)
    obtain ⟨⟨_, hv2, _⟩, _⟩ := hv
    obtain ⟨⟨_, hy2, _⟩, _⟩ := hyo
    intro x hx
    rcases List.mem_cons.1 hx with rfl | hx
    · omega
    · have hle := (List.pairwise_cons.1 hpw).1 x hx
      omega
 generalize hn : (out.takeWhile (Go.Proofs.ahead (v.p.lo, v.p.hi))).length = n at *
 have hnl : n ≤ out.length := by rw [← hn]; exact (List.takeWhile_sublist _).length_le
 refine y0b hnl ?_ ?_
 · rw [e2, List.all_eq_true]
   intro x hx
   have := hgood x hx
   simpa [gtP] using this
 · intro y h0 hy
   have : y ∈ out.takeWhile (Go.Proofs.ahead (v.p.lo, v.p.hi)) := by
    rw [← e1]
    exact Zme (i := n - 1) (by rw [List.getElem?_take, if_pos (by omega)]; exact hy)
   have := hbad y this
   simp [gtP]
   omega
theorem yv3 {out : List Piece} {v : Ver} (h : right out = true) : right (putV out v) = true := zj6 h
theorem yzy {out : List Piece} {v : Ver} {x : Piece} : x ∈ insP out v ↔ x = v.p ∨ x ∈ out := z56
theorem yvs {l : List Ver} {t : Int} (h : zqt l = true) : (l.filter fun v => Span.has v.sl v.sh t).Pairwise fun v w => v.p.hi ≤ w.p.lo ∨ w.p.hi ≤ v.p.lo := by
 obtain ⟨h1, h2⟩ := zq7.1 h
 have hp := h2.sublist (List.filter_sublist (p := fun v => Span.has v.sl v.sh t))
 refine hp.imp_of_mem fun {v w} hv hw k => ?_
 obtain ⟨hv1, hv2⟩ := List.mem_filter.1 hv
 obtain ⟨hw1, hw2⟩ := List.mem_filter.1 hw
 rw [z4u (h1 v hv1).1] at hv2
 rw [z4u (h1 w hw1).1] at hw2
 rcases k.1 with k | k
 · omega
 · exact k
theorem yzx : ∀ (m : List Ver) (out : List Piece), (∀ v ∈ m, OK v.p) → m.Pairwise (fun v w => v.p.hi ≤ w.p.lo ∨ w.p.hi ≤ v.p.lo) → right out = true → (∀ v ∈ m, Off out v.p) →
 m.foldl insP out = m.foldl putV out ∧ right (m.foldl insP out) = true ∧ ∀ x, x ∈ m.foldl insP out ↔ x ∈ out ∨ ∃ v ∈ m, x = v.p
 | [], out, _, _, hr, _ => ⟨rfl, hr, fun x => by simp⟩
 | v :: m, out, ho, hp, hr, ha => by
   have hv := ho v Zms2
   have e := y7h hr hv (ha v Zms2)
   have hp' := List.pairwise_cons.1 hp
   obtain ⟨k1, k2, k3⟩ := yzx m (insP out v) (fun w hw => ho w (List.mem_cons_of_mem _ hw)) hp'.2 (by rw [e]; exact yv3 hr) (fun w hw x hx => by
    rcases yzy.1 hx with rfl | hx
    · exact hp'.1 w hw
    · exact ha w (List.mem_cons_of_mem _ hw) x hx)
   refine ⟨by rw [List.foldl_cons, List.foldl_cons, k1, e], k2, fun x => ?_⟩
   rw [List.foldl_cons, k3 x, yzy]
   constructor
   · rintro ((h | h) | ⟨w, hw, h⟩)
     · exact .inr ⟨v, Zms2, h⟩
     · exact .inl h
     · exact .inr ⟨w, List.mem_cons_of_mem _ hw, h⟩
   · rintro (h | ⟨w, hw, h⟩)
     · exact .inl (.inr h)
     · rcases List.mem_cons.1 hw with rfl | hw
       · exact .inl (.inl h)
       · exact .inr ⟨w, hw, h⟩
theorem z20 {l : List Ver} (h : zqt l = true) (t : Int) : vAt l t = (l.filter fun v => Span.has v.sl v.sh t).foldl putV [] ∧ right (vAt l t) = true ∧ ∀ x, x ∈ vAt l t ↔ ∃ v ∈ l, (v.sl ≤ t ∧ t < v.sh) ∧ x = v.p := by
 obtain ⟨h1, _⟩ := zq7.1 h
 obtain ⟨k1, k2, k3⟩ := yzx (l.filter fun v => Span.has v.sl v.sh t) [] (fun v hv => (h1 v (List.mem_filter.1 hv).1).2) (yvs h) rfl (fun v _ x hx => by cases hx)
 have e : vAt l t = (l.filter fun v => Span.has v.sl v.sh t).foldl insP [] := by rw [vAt, if_pos h]
 rw [e]
 refine ⟨k1, k2, fun x => ?_⟩
 rw [k3 x]
 constructor
 · rintro (h | ⟨v, hv, rfl⟩)
   · cases h
   · obtain ⟨hv1, hv2⟩ := List.mem_filter.1 hv
     exact ⟨v, hv1, (z4u (h1 v hv1).1).1 hv2, rfl⟩
 · rintro ⟨v, hv, hh, rfl⟩
   exact .inr ⟨v, List.mem_filter.2 ⟨hv, (z4u (h1 v hv).1).2 hh⟩, rfl⟩
theorem z6u (l : List Ver) (t : Int) : right (vAt l t) = true := by
 cases h : zqt l with
 | true => exact (z20 h t).2.1
 | false => rw [vAt, h]; rfl
theorem yzw {α : Type} (gt : α → Bool) (l : List α) (x : α) : (zkq gt l x).Perm (x :: l) := by
 have e := List.takeWhile_append_dropWhile (p := gt) (l := l.reverse)
 have e2 : l = (l.reverse.dropWhile gt).reverse ++ (l.reverse.takeWhile gt).reverse := by
  rw [← List.reverse_append, e, List.reverse_reverse]
 unfold zkq
 conv => rhs; rw [e2]
 exact List.perm_middle
theorem yqp {l : List Ver} {v : Ver} (h : l.Pairwise Le) : (y19 l v).Pairwise Le := by
 have e := List.takeWhile_append_dropWhile (p := ahead' v) (l := l.reverse)
 have e2 : l = (l.reverse.dropWhile (ahead' v)).reverse ++ (l.reverse.takeWhile (ahead' v)).reverse := by
  rw [← List.reverse_append, e, List.reverse_reverse]
 have hb : ∀ y ∈ (l.reverse.takeWhile (ahead' v)).reverse, Le v y := fun y hy => by
  have := y2o (List.mem_reverse.1 hy)
  rw [z5e] at this
  unfold Le at this ⊢
  omega
 rw [e2] at h
 obtain ⟨h1, h2, h3⟩ := List.pairwise_append.1 h
 have ha : ∀ y ∈ (l.reverse.dropWhile (ahead' v)).reverse, Le y v := by
  cases hd : l.reverse.dropWhile (ahead' v) with
  | nil => intro y hy; cases hy
  | cons z r =>
    have hz : ahead' v z = false := by
     have := List.head_dropWhile_not (ahead' v) (l := l.reverse) (by rw [hd]; simp)
     simpa only [hd, List.head_cons] using this
    rw [z58] at hz
    rw [hd, List.reverse_cons] at h1
    have k := (List.pairwise_append.1 h1).2.2
    intro y hy
    rw [List.reverse_cons] at hy
    rcases List.mem_append.1 hy with hy | hy
    · exact (k y hy z (by simp)).trans hz
    · rw [List.mem_singleton.1 hy]; exact hz
 show (zkq (fun y => ahead' v y) l v).Pairwise Le
 unfold zkq
 refine List.pairwise_append.2 ⟨h1, List.pairwise_cons.2 ⟨hb, h2⟩, fun a ha' b hb' => ?_⟩
 rcases List.mem_cons.1 hb' with rfl | hb'
 · exact ha a ha'
 · exact (ha a ha').trans (hb b hb')
theorem yqq : ∀ (l out : List Ver), out.Pairwise Le → (l.foldl y19 out).Perm (out ++ l) ∧ (l.foldl y19 out).Pairwise Le
 | [], out, h => ⟨by rw [List.append_nil]; exact List.Perm.refl _, h⟩
 | v :: l, out, h => by
   obtain ⟨k1, k2⟩ := yqq l (y19 out v) (yqp h)
   refine ⟨k1.trans ?_, k2⟩
   refine ((yzw _ out v).append_right l).trans ?_
   rw [List.cons_append]
   exact List.perm_middle.symm
theorem z6f (l : List Ver) : (rise l).Perm l ∧ (rise l).Pairwise Le := yqq l [] List.Pairwise.nil
theorem ywc {l : List Ver} (h1 : ∀ v ∈ l, okP v) (h2 : l.Pairwise zjl) : zqt (rise l) = true := by
 obtain ⟨k1, k2⟩ := z6f l
 rw [zq7]
 exact ⟨fun v hv => h1 v (k1.mem_iff.1 hv), ((k1.pairwise_iff (fun h => h.symm)).2 h2).and k2⟩
theorem ykq {l : List Ver} {x : Ver} : x ∈ rise l ↔ x ∈ l := (z6f l).1.mem_iff
theorem y7d (a b : Int) : iMax a b = max a b := by unfold iMax; split <;> omega
theorem yz7 : ∀ (l : List Ver) (t : Int), t ≤ l.foldl zxf t ∧ (∀ v ∈ l, v.sl ≤ l.foldl zxf t ∧ (v.sh ≠ 1099511627776 → v.sh ≤ l.foldl zxf t)) ∧ (l.foldl zxf t = t ∨ ∃ v ∈ l, l.foldl zxf t = v.sl ∨ (v.sh ≠ 1099511627776 ∧ l.foldl zxf t = v.sh))
 | [], t => ⟨Int.le_refl _, fun v hv => by (cases hv), .inl rfl⟩
 | v :: l, t => by
   obtain ⟨k1, k2, k3⟩ := yz7 l (zxf t v)
   rw [List.foldl_cons]
   have hs : zxf t v = if v.sh = 1099511627776 then max t v.sl else max (max t v.sl) v.sh := by
    unfold zxf Ver.open'
    by_cases h : v.sh = 1099511627776 <;> simp [h, y7d]
   generalize l.foldl zxf (zxf t v) = n at *
   refine ⟨?_, fun w hw => ?_, ?_⟩
   · rw [hs] at k1; split at k1 <;> omega
   · rcases List.mem_cons.1 hw with rfl | hw
     · rw [hs] at k1; split at k1 <;> omega
     · exact k2 w hw
   · rcases k3 with k3 | ⟨w, hw, k3⟩
     · rw [hs] at k3
       split at k3
       · rcases Int.le_total t v.sl with h | h
         · exact .inr ⟨v, Zms2, .inl (by omega)⟩
         · exact .inl (by omega)
       · rename_i hne
         rcases Int.le_total (max t v.sl) v.sh with h | h
         · exact .inr ⟨v, Zms2, .inr ⟨hne, by omega⟩⟩
         · rcases Int.le_total t v.sl with h | h
           · exact .inr ⟨v, Zms2, .inl (by omega)⟩
           · exact .inl (by omega)
     · exact .inr ⟨w, List.mem_cons_of_mem _ hw, k3⟩
theorem z8d {l : List Ver} (h : zqt l = true) : 0 ≤ z3q l ∧ (∀ v ∈ l, v.sl ≤ z3q l ∧ (v.sh ≠ 1099511627776 → v.sh ≤ z3q l)) ∧ (z3q l = 0 ∨ ∃ v ∈ l, z3q l = v.sl ∨ (v.sh ≠ 1099511627776 ∧ z3q l = v.sh)) := by
 rw [z3q, if_pos h]
 exact yz7 l 0
theorem yx1 {l : List Ver} (h : zqt l = true) {x : Piece} : x ∈ vAt l 1099511627775 ↔ ∃ v ∈ l, v.sh = 1099511627776 ∧ x = v.p := by
 rw [(z20 h _).2.2]
 have hs := fun v hv => ((zq7.1 h).1 v hv).1
 constructor
 · rintro ⟨v, hv, hh, e⟩
   obtain ⟨_, _, h3⟩ := hs v hv
   simp only at h3
   exact ⟨v, hv, by omega, e⟩
 · rintro ⟨v, hv, hh, e⟩
   obtain ⟨_, h2, h3⟩ := hs v hv
   simp only at h2 h3
   exact ⟨v, hv, by omega, e⟩
theorem y0p {a b : List Piece} (ha : right a = true) (hb : right b = true) : diff a b = (without a b, without b a) := by
 unfold diff; rw [ha, hb]; rfl
theorem z0v {l : List Ver} (h : zqt l = true) {p : List Piece} {v : Ver} (hv : v ∈ l) : z11 (without (vAt l 1099511627775) p) v = true ↔ v.sh = 1099511627776 ∧ v.p ∉ p := by
 unfold z11 Ver.open'
 rw [Bool.and_eq_true, yj7, zvg, beq_iff_eq, yx1 h]
 constructor
 · rintro ⟨h1, _, h3⟩; exact ⟨h1, h3⟩
 · rintro ⟨h1, h3⟩; exact ⟨h1, ⟨v, hv, h1, rfl⟩, h3⟩
theorem z33 {α : Type} {R : α → α → Prop} : ∀ {l : List α} {x y : α}, l.Pairwise R → x ∈ l → y ∈ l → x ≠ y → R x y ∨ R y x
 | a :: l, x, y, h, hx, hy, hne => by
   obtain ⟨h1, h2⟩ := List.pairwise_cons.1 h
   rcases List.mem_cons.1 hx with e | hx'
   · rcases List.mem_cons.1 hy with e' | hy'
     · exact absurd (e.trans e'.symm) hne
     · rw [e]; exact .inl (h1 y hy')
   · rcases List.mem_cons.1 hy with e' | hy'
     · rw [e']; exact .inr (h1 x hx')
     · exact z33 h2 hx' hy' hne
structure Sets (l : List Ver) (t : Int) (p : List Piece) : Prop where
 hl : zqt l = true
 hp : right p = true
 ht : z3q l ≤ t
 hm : t < 1099511627776
theorem z9r {l : List Ver} {t : Int} {p : List Piece} : z0o l t p = true ↔ Sets l t p := by
 unfold z0o
 constructor
 · intro h
   simp only [Bool.and_eq_true, Bool.not_eq_true', decide_eq_false_iff_not] at h
   exact ⟨h.1.1.1, h.1.1.2, by omega, by omega⟩
 · rintro ⟨h1, h2, h3, h4⟩
   simp only [Bool.and_eq_true, Bool.not_eq_true', decide_eq_false_iff_not]
   exact ⟨⟨⟨h1, h2⟩, by omega⟩, by omega⟩
def gone (l : List Ver) (p : List Piece) : List Piece := without (vAt l 1099511627775) p
def come (l : List Ver) (p : List Piece) : List Piece := without p (vAt l 1099511627775)
def yvu (l : List Ver) (t : Int) (p : List Piece) : List Ver := vMid (gone l p) t (z9v l (gone l p) t) (come l p)
theorem z6w {l : List Ver} {t : Int} {p : List Piece} (h : Sets l t p) : z22 l t p = rise (yvu l t p) := by
 unfold z22
 rw [y0p (z6u _ _) h.hp]
 rfl
theorem zkm {q : List Piece} {t : Int} {v : Ver} : (vCut q t v).sl = v.sl ∧ (vCut q t v).p = v.p := by
 unfold vCut; split <;> exact ⟨rfl, rfl⟩
theorem y1p {l : List Ver} {t : Int} {p : List Piece} (h : Sets l t p) {x : Ver} : x ∈ yvu l t p ↔
 (∃ v ∈ l, ¬ (v.sh = 1099511627776 ∧ v.p ∉ p) ∧ x = v) ∨ (∃ v ∈ l, (v.sh = 1099511627776 ∧ v.p ∉ p) ∧ v.sl < t ∧ x = { v with sh := t }) ∨ ∃ c ∈ p, c ∉ vAt l 1099511627775 ∧ x = ⟨t, 1099511627776, c⟩ := by
 unfold yvu vMid
 rw [Zma, Zmm, Zmm]
 constructor
 · rintro (⟨v, hv, rfl⟩ | ⟨c, hc, rfl⟩)
   · obtain ⟨hv1, hv2⟩ := List.mem_filter.1 hv
     cases he : z11 (gone l p) v with
     | true =>
       have hi := (z0v h.hl hv1).1 he
       rw [he] at hv2
       simp at hv2
       refine .inr (.inl ⟨v, hv1, hi, hv2, ?_⟩)
       unfold vCut; rw [if_pos he]
     | false =>
       have hi := (not_congr (z0v (p := p) h.hl hv1)).1 (by rw [show without (vAt l 1099511627775) p = gone l p from rfl, he]; simp)
       refine .inl ⟨v, hv1, hi, ?_⟩
       unfold vCut; rw [if_neg (by rw [he]; simp)]
   · obtain ⟨h1, h2⟩ := zvg.1 hc
     exact .inr (.inr ⟨c, h1, h2, rfl⟩)
 · rintro (⟨v, hv, hi, rfl⟩ | ⟨v, hv, hi, ht, rfl⟩ | ⟨c, h1, h2, rfl⟩)
   · have he : z11 (gone l p) x = false := by
      rw [← Bool.not_eq_true]; exact (not_congr (z0v (p := p) h.hl hv)).2 hi
     refine .inl ⟨x, List.mem_filter.2 ⟨hv, by rw [he]; rfl⟩, ?_⟩
     unfold vCut; rw [if_neg (by rw [he]; simp)]
   · have he : z11 (gone l p) v = true := (z0v h.hl hv).2 hi
     refine .inl ⟨v, List.mem_filter.2 ⟨hv, by simp [ht]⟩, ?_⟩
     unfold vCut; rw [if_pos he]
   · exact .inr ⟨c, zvg.2 ⟨h1, h2⟩, rfl⟩
theorem y1q {l : List Ver} {t : Int} {p : List Piece} (h : Sets l t p) : (∀ v ∈ yvu l t p, okP v) ∧ (yvu l t p).Pairwise zjl := by
 have hr := zq7.1 h.hl
 have hL := z8d h.hl
 have ht := h.ht
 have hm := h.hm
 have hp := zqu.1 h.hp
 constructor
 · intro x hx
   rcases (y1p h).1 hx with ⟨v, hv, _, rfl⟩ | ⟨v, hv, _, hlt, rfl⟩ | ⟨c, hc, _, rfl⟩
   · exact hr.1 x hv
   · obtain ⟨⟨a, b, c⟩, d⟩ := hr.1 v hv
     simp only at a b c
     exact ⟨⟨a, hlt, by show t ≤ _; omega⟩, d⟩
   · exact ⟨⟨by show 0 ≤ t; omega, hm, Int.le_refl _⟩, hp.1 c hc⟩
 · unfold yvu vMid
   refine List.pairwise_append.2 ⟨?_, ?_, ?_⟩
   · refine List.pairwise_map.2 ?_
     have hl : l.Pairwise zjl := hr.2.imp fun h => h.1
     refine (hl.sublist List.filter_sublist).imp_of_mem fun {v w} hv hw k => ?_
     have hle : ∀ v ∈ z9v l (gone l p) t, (vCut (gone l p) t v).sh ≤ v.sh := fun v hv => by
      unfold vCut
      split
      · rename_i he
        have := (z0v h.hl (List.mem_filter.1 hv).1).1 he
        show t ≤ v.sh
        omega
      · exact Int.le_refl _
     have h1 := hle v hv
     have h2 := hle w hw
     unfold zjl at k ⊢
     rw [zkm.1, zkm.1, zkm.2, zkm.2]
     omega
   · refine List.pairwise_map.2 ?_
     have := (zqu.1 (z9x (q := vAt l 1099511627775) h.hp)).2
     exact this.imp fun h => .inr (.inl h)
   · intro a ha b hb
     obtain ⟨v, hv, rfl⟩ := List.mem_map.1 ha
     obtain ⟨c, hc, rfl⟩ := List.mem_map.1 hb
     obtain ⟨hv1, hv2⟩ := List.mem_filter.1 hv
     obtain ⟨hc1, hc2⟩ := zvg.1 hc
     cases he : z11 (gone l p) v with
     | true =>
       unfold vCut; rw [if_pos he]
       exact .inl (.inl (Int.le_refl _))
     | false =>
       have hi := (not_congr (z0v (p := p) h.hl hv1)).1 (by rw [show without (vAt l 1099511627775) p = gone l p from rfl, he]; simp)
       unfold vCut; rw [if_neg (by rw [he]; simp)]
       by_cases ho : v.sh = 1099511627776
       · have hvp : v.p ∈ p := Classical.byContradiction fun hn => hi ⟨ho, hn⟩
         have hne : v.p ≠ c := fun e => hc2 ((yx1 h.hl).2 ⟨v, hv1, ho, e.symm⟩)
         rcases z33 hp.2 hvp hc1 hne with k | k
         · exact .inr (.inl k)
         · exact .inr (.inr k)
       · have := (hL.2.1 v hv1).2 ho
         exact .inl (.inl (by show v.sh ≤ t; omega))
theorem z4c {l : List Ver} {t : Int} {p : List Piece} (h : Sets l t p) : zqt (z22 l t p) = true := by
 rw [z6w h]
 exact ywc (y1q h).1 (y1q h).2
theorem z09 {l : List Ver} {t : Int} {p : List Piece} (h : Sets l t p) {x : Ver} : x ∈ z22 l t p ↔
 (∃ v ∈ l, ¬ (v.sh = 1099511627776 ∧ v.p ∉ p) ∧ x = v) ∨ (∃ v ∈ l, (v.sh = 1099511627776 ∧ v.p ∉ p) ∧ v.sl < t ∧ x = { v with sh := t }) ∨ ∃ c ∈ p, c ∉ vAt l 1099511627775 ∧ x = ⟨t, 1099511627776, c⟩ := by
 rw [z6w h, ykq]
 exact y1p h
theorem ywo {l : List Ver} {t u : Int} {p : List Piece} (h : Sets l t p) (h1 : t ≤ u) (h2 : u < 1099511627776) : vAt (z22 l t p) u = p := by
 have hL := z8d h.hl
 have ht := h.ht
 refine yqn (z6u _ _) h.hp fun x => ?_
 rw [(z20 (z4c h) u).2.2]
 constructor
 · rintro ⟨v, hv, hh, rfl⟩
   rcases (z09 h).1 hv with ⟨w, hw, hi, rfl⟩ | ⟨w, hw, _, _, rfl⟩ | ⟨c, hc, _, rfl⟩
   · by_cases ho : v.sh = 1099511627776
     · exact Classical.byContradiction fun hn => hi ⟨ho, hn⟩
     · have := (hL.2.1 v hw).2 ho
       omega
   · exact absurd hh.2 (by show ¬ u < t; omega)
   · exact hc
 · intro hx
   by_cases ho : x ∈ vAt l 1099511627775
   · obtain ⟨v, hv, hvo, rfl⟩ := (yx1 h.hl).1 ho
     have := (hL.2.1 v hv).1
     exact ⟨v, (z09 h).2 (.inl ⟨v, hv, fun k => k.2 hx, rfl⟩), by omega, rfl⟩
   · exact ⟨⟨t, 1099511627776, x⟩, (z09 h).2 (.inr (.inr ⟨x, hx, ho, rfl⟩)), ⟨h1, h2⟩, rfl⟩
structure BI (l : List Ver) (lo t : Int) (out : List TSt) : Prop where
 ok : ∀ w ∈ out, lo ≤ w.sl ∧ w.sl < w.sh ∧ w.sh ≤ t ∧ w.ps ≠ [] ∧ ∀ u, w.sl ≤ u → u < w.sh → coalesce (vAt l u) = w.ps
 cov : ∀ u, lo ≤ u → u < t → (∃ w ∈ out, w.sl ≤ u ∧ u < w.sh) ∨ coalesce (vAt l u) = []
 con : ∀ (i : Nat) (a b : TSt), out[i]? = some a → out[i + 1]? = some b → a.sh ≤ b.sl ∧ ¬ (a.sh = b.sl ∧ a.ps = b.ps)
end Go.Proofs
