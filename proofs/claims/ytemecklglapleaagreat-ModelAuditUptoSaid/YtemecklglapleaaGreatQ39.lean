/-
  Parts of the proof, laid together: PwKe, PwKf.
-/
import Derived.Test.YtemecklglapleaaGreatQ38

set_option maxRecDepth 30000
set_option maxHeartbeats 16000000
namespace Go.Proofs
open Go.PW
structure Seg where
 lo : Int
 hi : Int
 ps : List Piece
def y40 (acc : List Seg) (p : List Piece) : Bool := match acc[acc.length - 1]? with
 | some z => zq5 z.ps p
 | none => false
def zvv (acc : List Seg) (t n : Int) (p : List Piece) : List Seg := if y40 acc p = true then acc.set (acc.length - 1) { (acc.getD (acc.length - 1) ⟨0, 0, []⟩) with hi := n } else acc ++ [⟨t, n, p⟩]
def segs (c : List Int) (f : Int → List Piece) : Nat → List Seg
 | 0 => []
 | i + 1 => zvv (segs c f i) (c.getD i 0) (c.getD (i + 1) 0) (f (c.getD i 0))
def z9p (z : Seg) : List D := [dI z.lo, dI z.hi]
def yjc (z : Seg) : List D := [zzk z.ps]
attribute [go_sem] z9p yjc
def z2v (k : List UInt8) (z : Seg) (p : Piece) : XR := ⟨k, z.lo, z.hi, p.lo, p.hi, p.row⟩
def zvu (k : List UInt8) (zs : List Seg) : List XR := zs.flatMap fun z => z.ps.map (z2v k z)
def z1m (q : Qy) (l : List Txn) (s : Sch) (lo hi : Int) : List Seg := segs (z3c l lo hi) (hadS q l s (keyB q.key)) ((z3c l lo hi).length - 1)
def z6z (q : Qy) (l : List Txn) (s : Sch) (lo hi : Int) : List XR := if Span.right lo hi = true then zvu (keyB q.key) (z1m q l s lo hi) else []
theorem y53 (l : List Seg) : Szd 1 (l.map yjc) := fun e he => by
 obtain ⟨p, _, rfl⟩ := List.mem_map.1 he
 rfl
theorem Tryz.appPss : AppT Tryz.prog 147 30 1 24 := ⟨Tryz.underlying147, Tryz.cl30, Tryz.by30, Tryz.zo30, by decide, by decide⟩
theorem yjd {acc : List Seg} {t n : Int} {p : List Piece} : (zvv acc t n p).length ≤ acc.length + 1 := by
 unfold zvv
 split
 · rw [List.length_set]; omega
 · rw [Zla, List.length_singleton]; omega
theorem z45 (c : List Int) (f : Int → List Piece) : ∀ i, (segs c f i).length ≤ i
 | 0 => Zlr _
 | i + 1 => by
   have := z45 c f i
   have := @yjd (segs c f i) (c.getD i 0) (c.getD (i + 1) 0) (f (c.getD i 0))
   rw [segs]
   omega
theorem z2w {P : List Piece → Prop} {c : List Int} {f : Int → List Piece} (hf : ∀ t, P (f t)) : ∀ i, ∀ z ∈ segs c f i, P z.ps
 | 0, z, h => by cases h
 | i + 1, z, h => by
   have ih := z2w (c := c) hf i
   rw [segs] at h
   unfold zvv at h
   split at h
   · rename_i hg
     rcases List.mem_or_eq_of_mem_set h with h | h
     · exact ih z h
     · rw [h]
       show P ((segs c f i).getD _ _).ps
       unfold y40 at hg
       rw [List.getD_eq_getElem?_getD]
       cases e : (segs c f i)[(segs c f i).length - 1]? with
       | none => rw [e] at hg; cases hg
       | some w => exact ih w (Zme e)
   · rcases List.mem_append.1 h with h | h
     · exact ih z h
     · rw [List.mem_singleton.1 h]; exact hf _
theorem y42 {α : Type} {l : List α} {i : Nat} {a : α} (h : l[i]? = some a) : l.set i a = l := by
 apply List.ext_getElem?
 intro j
 rw [List.getElem?_set]
 split
 · rename_i e
   subst e
   split
   · exact h.symm
   · rename_i hh
     rw [List.getElem?_eq_none (by omega)] at h
     cases h
 · rfl
theorem z39 {k : List UInt8} {zs : List Seg} {i : Nat} {z : Seg} (h : zs[i]? = some z) : zvu k (zs.take (i + 1)) = zvu k (zs.take i) ++ z.ps.map (z2v k z) := by
 unfold zvu
 rw [zzw h, List.flatMap_append, List.flatMap_singleton]
theorem z10 {k : List UInt8} {zs : List Seg} (h : ∀ z ∈ zs, z.ps.length ≤ 131072) : ∀ i, (zvu k (zs.take i)).length ≤ i * 131072
 | 0 => Zlr _
 | i + 1 => by
   have ih := z10 (k := k) h i
   rcases Zlg i zs.length with hlt | hge
   · have hg := Zge hlt
     rw [z39 hg, Zla, List.length_map]
     have h3 := h _ (Zme hg)
     rw [Nat.add_mul, Nat.one_mul]
     exact Nat.add_le_add ih h3
   · have e : zs.take (i + 1) = zs.take i := by rw [Ztl hge, Ztl (by omega)]
     rw [e, Nat.add_mul]
     exact Nat.le_trans ih (Nat.le_add_right _ _)
theorem Tryz.hadS_sm {q : Qy} {l : List Txn} {s : Sch} (h : LSm l q.tab) (k : List UInt8) (t : Int) : (hadS q l s k t).length ≤ 131072 ∧ ∀ p ∈ hadS q l s k t, p.row.length ≤ 1048576 := by
 refine ⟨?_, z8r z6s⟩
 have h1 := z5i (zw5 s (zq4 l q.tab k t))
 rw [z2y] at h1
 exact Nat.le_trans h1 (Tryz.stateS_sm h k t).1
theorem Tryz.kBetwX (q : Qy) (l : List Txn) (s : Sch) (hz : Int) (lo b : Int) (hl : LSm l q.tab) (hs : s.sz) (hk : q.key.length ≤ 1048576) (hbits : zwv q.key) {H : HMap} (hD : z5m H) (hid : H 19 = some ((askE q l s hz).map .d)) :
 zqf Tryz.prog 56 2000 H noA [.c (.ptr 19 0), pA (zqj lo b)] (pD (z1e (z6z q l s lo b))) H noA := by
 refine zqh (E := envOf Tryz.prog [81, 82, 9000000 + 31, 9000000 + 7, 9000000 + 13] 2000 [76] [23]) (zzx Tryz.mixed) Tryz.func56 rfl Tryz.call56 (by kernel_rfl) (by exact Zle rfl) (fun hab => ?_)
 have h3 : H 2003 = none := (hab _ (by omega)).1
 have h17 : H 2017 = none := (hab _ (by omega)).1
 have p19 : H 19 ≠ none := by rw [hid]; simp
 have ks := Tryz.spanRight lo b
 have eb : z6z q l s lo b = if Span.right lo b = true then zvu (keyB q.key) (z1m q l s lo b) else [] := rfl
 cases hR : Span.right lo b with
 | false =>
   rw [hR] at ks eb
   repeat' (first|(with_reducible first|refine vSq fun K hK=>?_|apply vRg|apply vBl|apply vSc|apply vIf|apply vSk|apply vEx|apply vRt|((first|apply gNt|apply gCs)<;>(intro h;try simp only[h]))|((first|apply hK|(clear hK K;first|apply hK|(clear hK K;first|apply hK|(clear hK K;apply hK))));clear hK K)|(refine todo ?_;simp +decide only[go_sem, h3]))|refine zzq ks rfl rfl rfl rfl ?_)
   rw [eb]
   refine zql (zzu (p := .c (.full [])) rfl (by unfold zzn; simp +decide only [go_sem])) ?_ Zti (zj9 hD) (fun i hi => zza _ _ (by rintro rfl; exact hi h3)) (fun _ _ => rfl)
   exact wk_c (.inr (.inr (.inl ⟨_, rfl, .inl rfl⟩)))
 | true =>
   rw [hR] at ks eb
   have kk := Tryz.kKeyOf q.key (by omega) hbits
   have hD3 : z5m (upd H 2003 (some [.d (dI lo), .d (dI b)])) := fun id cs h c hc => by
    unfold upd at h
    split at h
    · cases h
      simp only [List.mem_cons, List.not_mem_nil, or_false] at hc
      rcases hc with rfl | rfl <;> exact ⟨_, rfl⟩
    · exact hD id cs h c hc
   have kc := Tryz.kCuts q l s hz lo b hl.len hD3 (by rw [zza _ _ (by decide)]; exact hid)
   have abC : Above 3000 (upd H 2003 (some [.d (dI lo), .d (dI b)])) noA := fun i hi => ⟨by rw [zza _ _ (by omega)]; exact (hab i (by omega)).1, fun _ => rfl⟩
   have ec : z1m q l s lo b = segs (z3c l lo b) (hadS q l s (keyB q.key)) ((z3c l lo b).length - 1) := rfl
   have hc1 : 2 ≤ (z3c l lo b).length ∧ (z3c l lo b).length ≤ 1048578 := by
    have h1 := z5l l lo b
    have h2 := hl.len
    unfold z3c
    rw [Zla, List.length_cons, List.length_singleton]
    omega
   rw [if_pos rfl, ec] at eb
   clear ec
   generalize z3c l lo b = c at *
   have hw1 : IntKind.i64.wrap ((c.length : Int) - 1) = ((c.length - 1 : Nat) : Int) := by rw [Go.IntWalk.i64_in _ (by omega)]; omega
   have hct : List.take (c.length - 1 - 0) (c.map fun n => [dI n]) = (c.take (c.length - 1)).map fun n => [dI n] := by rw [Nat.sub_zero, List.map_take]
   simp only [go_sem] at hct
   repeat' (first|(with_reducible first|refine vSq fun K hK=>?_|apply vRg|apply vBl|apply vSc|apply vIf|apply vSk|apply vEx|apply vRt|((first|apply gNt|apply gCs)<;>(intro h;try simp only[h]))|((first|apply hK|(clear hK K;first|apply hK|(clear hK K;first|apply hK|(clear hK K;apply hK))));clear hK K)|(refine todo ?_;simp +decide only[go_sem, h3, hid, hw1, hct]))|refine zzq ks rfl rfl rfl rfl ?_|refine zzq kk rfl rfl rfl rfl ?_|refine zz7 rfl kc rfl abC ?_|refine zvh Tryz.appInts rfl (l := 0) (h := c.length - 1) rfl (by simp [zz0, natOf?, intOf?]) (Nat.zero_le _) (by simp) (y2l _) ?_)
   have hct2 : (c.take (c.length - 1)).length = c.length - 1 := by rw [Zlt]; omega
   refine zzj (c.length - 1) (fun _ => True) (fun i => over [(0, .c (.ptr 19 0)), (5, pD (dS (keyB q.key))), (8, pD (z8v c)), (34, pD (z8v (c.take (c.length - 1)))), (35, pD (dI (c.length - 1 : Nat))), (36, pD (dI i)), (6, .c (.mt (2076, 0) 2 (segs c (hadS q l s (keyB q.key)) i).length)), (7, .c (.own (2080, 0) ((segs c (hadS q l s (keyB q.key)) i).map yjc)))] [] H (aOf [((2076, 0), .mu 2 ((segs c (hadS q l s (keyB q.key)) i).map z9p)), ((2080, 0), .co 1 (segs c (hadS q l s (keyB q.key)) i).length)])) Zti ?_ ?_
   · refine zqe hD (fun id hid => ?_) ?_ ?_ ?_ <;> simp +decide only [go_sem, segs, hct2]
     · rw [if_neg (by rintro rfl; exact hid h3)]
     · exact ⟨zzh p19, xz9 rfl rfl, zju rfl rfl⟩
   · intro i hi _
     rcases Zlg i (c.length - 1) with hlt | hge
     · have hg := Zge (show i < (c.take (c.length - 1)).length by omega)
       have hg1 := Zge (show i < c.length by omega)
       have hg2 := Zge (show i + 1 < c.length by omega)
       rw [List.getElem_take] at hg
       have hd := zze hlt
       have hw := zzl hlt (show c.length - 1 ≤ 4294967296 by omega)
       generalize c[i] = t at hg hg1
       generalize c[i + 1] = n at hg2
       have hsg : segs c (hadS q l s (keyB q.key)) (i + 1) = zvv (segs c (hadS q l s (keyB q.key)) i) t n (hadS q l s (keyB q.key) t) := by
        rw [segs, List.getD_eq_getElem?_getD, List.getD_eq_getElem?_getD, hg1, hg2]
        rfl
       have hzl := z45 c (hadS q l s (keyB q.key)) i
       have hzm := z2w (P := fun ps => ps.length ≤ 131072 ∧ ∀ p ∈ ps, p.row.length ≤ 1048576) (c := c) (fun t => Tryz.hadS_sm (s := s) hl (keyB q.key) t) i
       generalize segs c (hadS q l s (keyB q.key)) i = z at *
       have kh := Tryz.kHad q l s hz (keyB q.key) t hl hs (H := H) (A := aOf [((2076, 0), .mu 2 (z.map z9p)), ((2080, 0), .co 1 z.length)]) (zj9 hD) hid
       have abA : Above 3000 H (aOf [((2076, 0), .mu 2 (z.map z9p)), ((2080, 0), .co 1 z.length)]) := fun i hi => ⟨(hab i (by omega)).1, fun k => by simp [aOf, show i ≠ 2076 by omega, show i ≠ 2080 by omega]⟩
       generalize hadS q l s (keyB q.key) t = p at *
       have hi1 : ((i : Int) + 1) = ((i + 1 : Nat) : Int) := by omega
       rcases Nat.eq_zero_or_pos z.length with hz0 | hz0
       · obtain rfl : z = [] := List.eq_nil_of_length_eq_zero hz0
         have hst : zvv [] t n p = [⟨t, n, p⟩] := rfl
         rw [hst] at hsg
         have hwm : IntKind.i64.wrap (0 - 1) = -1 := by decide
         repeat' (first|(with_reducible first|refine vSq fun K hK=>?_|apply vRg|apply vBl|apply vSc|apply vIf|apply vSk|apply vEx|apply vRt|((first|apply gNt|apply gCs)<;>(intro h;try simp only[h]))|((first|apply hK|(clear hK K;first|apply hK|(clear hK K;first|apply hK|(clear hK K;apply hK))));clear hK K)|(refine todo ?_;simp +decide only[go_sem, hg, hg2, hd, hw, hwm, List.length_nil]))|refine zz7 rfl kh rfl abA ?_|refine zx1 Tryz.appPss rfl (y53 []) (zqk rfl) (by simp) (by simp [aOf, upd]) ?_|refine W_mt Tryz.appSpans (els := []) (by simp +decide only [go_sem]) (by simp +decide only [go_sem]) rfl (zqk rfl) (by simp) ?_)
         refine zzi hlt Zti ?_
         simp only [hsg]
         refine zqe hD (fun id hid => rfl) ?_ ?_ ?_ <;> simp +decide only [go_sem]
         exact ⟨zzh p19, z6x (by simp [aOf]) (by simp [aOf, upd]), zqb (by simp [aOf]) (by simp [aOf, upd])⟩
       · have hwz : IntKind.i64.wrap ((z.length : Int) - 1) = ((z.length - 1 : Nat) : Int) := by rw [Go.IntWalk.i64_in _ (by omega)]; omega
         have hgez : (0 ≤ ((z.length - 1 : Nat) : Int)) = True := eq_true (by omega)
         have hltz : (z.length - 1 < z.length) = True := eq_true (by omega)
         have hgz := Zge (show z.length - 1 < z.length by omega)
         generalize z[z.length - 1] = w at hgz
         obtain ⟨m1, m2⟩ := hzm w (Zme hgz)
         have kse := Tryz.kSameP w.ps p (by omega) m2
         have hgo : y40 z p = zq5 w.ps p := by unfold y40; rw [hgz]
         cases hsame : zq5 w.ps p with
         | false =>
           rw [hsame] at kse hgo
           have hst : zvv z t n p = z ++ [⟨t, n, p⟩] := by unfold zvv; rw [hgo]; rfl
           rw [hst] at hsg
           repeat' (first|(with_reducible first|refine vSq fun K hK=>?_|apply vRg|apply vBl|apply vSc|apply vIf|apply vSk|apply vEx|apply vRt|((first|apply gNt|apply gCs)<;>(intro h;try simp only[h]))|((first|apply hK|(clear hK K;first|apply hK|(clear hK K;first|apply hK|(clear hK K;apply hK))));clear hK K)|(refine todo ?_;simp +decide only[go_sem, hg, hg2, hd, hw, hwz, hgez, hgz]))|refine zz7 rfl kh rfl abA ?_|refine zzq kse rfl rfl rfl rfl ?_|(refine zx1 Tryz.appPss rfl (y53 z) (zqk rfl) (by simp; omega) (by simp [aOf, upd]) ?_)|(refine W_mt Tryz.appSpans (els := z.map z9p) (by simp +decide only [go_sem]) (by simp +decide only [go_sem]) rfl (zqk rfl) (by simp; omega) ?_))
           refine zzi hlt Zti ?_
           simp only [hsg]
           refine zqe hD (fun id hid => rfl) ?_ ?_ ?_ <;> simp +decide only [go_sem]
           exact ⟨zzh p19, z6x (by simp [aOf]) (by simp [aOf, upd]), zqb (by simp [aOf]) (by simp [aOf, upd])⟩
         | true =>
           rw [hsame] at kse hgo
           have hst : zvv z t n p = z.set (z.length - 1) { w with hi := n } := by unfold zvv; rw [hgo, List.getD_eq_getElem?_getD, hgz]; rfl
           rw [hst] at hsg
           repeat' (first|(with_reducible first|refine vSq fun K hK=>?_|apply vRg|apply vBl|apply vSc|apply vIf|apply vSk|apply vEx|apply vRt|((first|apply gNt|apply gCs)<;>(intro h;try simp only[h]))|((first|apply hK|(clear hK K;first|apply hK|(clear hK K;first|apply hK|(clear hK K;apply hK))));clear hK K)|(refine todo ?_;simp +decide only[go_sem, hg, hg2, hd, hw, hwz, hgez, hltz, hgz, yvg]))|refine zz7 rfl kh rfl abA ?_|refine zzq kse rfl rfl rfl rfl ?_)
           have es : (z.set (z.length - 1) { w with hi := n }).map z9p = (z.map z9p).set (z.length - 1) [dI w.lo, dI n] := List.map_set
           have ep : (z.set (z.length - 1) { w with hi := n }).map yjc = z.map yjc := by rw [List.map_set]; exact y42 (by rw [List.getElem?_map, hgz]; rfl)
           refine zzi hlt Zti ?_
           simp only [hsg, es, ep, List.length_set]
           refine zqe hD (fun id hid => rfl) ?_ ?_ ?_ <;> simp +decide only [go_sem]
           exact ⟨zzh p19, z6x (by simp [aOf]) (by simp [aOf, upd]), zqb (by simp [aOf]) (by simp [aOf, upd])⟩
     · have hd := zzf hge
       have hie : i = c.length - 1 := by omega
       subst hie
       have hzl := z45 c (hadS q l s (keyB q.key)) (c.length - 1)
       have hzm := z2w (P := fun ps => ps.length ≤ 131072 ∧ ∀ p ∈ ps, p.row.length ≤ 1048576) (c := c) (fun t => Tryz.hadS_sm (s := s) hl (keyB q.key) t) (c.length - 1)
       generalize segs c (hadS q l s (keyB q.key)) (c.length - 1) = zs at *
       repeat' (first|(with_reducible first|refine vSq fun K hK=>?_|apply vRg|apply vBl|apply vSc|apply vIf|apply vSk|apply vEx|apply vRt|((first|apply gNt|apply gCs)<;>(intro h;try simp only[h]))|((first|apply hK|(clear hK K;first|apply hK|(clear hK K;first|apply hK|(clear hK K;apply hK))));clear hK K)|(refine todo ?_;simp +decide only[go_sem, hd])))
       refine zzj zs.length (fun _ => True) (fun i => over [(5, pD (dS (keyB q.key))), (6, .c (.mt (2076, 0) 2 zs.length)), (82, .c (.own (2080, 0) (zs.map yjc))), (83, pD (dI zs.length)), (84, pD (dI i)), (13, .c (.own (2107, 0) ((zvu (keyB q.key) (zs.take i)).map XR.enc)))] [] H (aOf [((2076, 0), .mu 2 (zs.map z9p)), ((2080, 0), .co 1 zs.length), ((2107, 0), .co 6 (zvu (keyB q.key) (zs.take i)).length)])) Zti ?_ ?_
       · have e0 : zvu (keyB q.key) (zs.take 0) = [] := rfl
         rw [e0]
         refine zqe hD (fun id hid => rfl) ?_ ?_ ?_ <;> simp +decide only [go_sem]
         exact ⟨z6x (by simp [aOf]) (by simp [aOf]), zqb (by simp [aOf]) (by simp [aOf]), zju rfl rfl⟩
       · intro i hi _
         have hol := z10 (k := keyB q.key) (zs := zs) (fun z hz => (hzm z hz).1) i
         rcases Zlg i zs.length with hlt | hge
         · have hg := Zge hlt
           have hd := zze hlt
           have hltT : (i < zs.length) = True := eq_true hlt
           have hw := zzl hlt (show zs.length ≤ 4294967296 by omega)
           generalize zs[i] = z at hg
           have hnx := z39 (k := keyB q.key) hg
           obtain ⟨m1, m2⟩ := hzm z (Zme hg)
           generalize zvu (keyB q.key) (zs.take i) = out at *
           repeat' (first|(with_reducible first|refine vSq fun K hK=>?_|apply vRg|apply vBl|apply vSc|apply vIf|apply vSk|apply vEx|apply vRt|((first|apply gNt|apply gCs)<;>(intro h;try simp only[h]))|((first|apply hK|(clear hK K;first|apply hK|(clear hK K;first|apply hK|(clear hK K;apply hK))));clear hK K)|(refine todo ?_;simp +decide only[go_sem, hg, hd])))
           refine zzj z.ps.length (fun _ => True) (fun j => over [(5, pD (dS (keyB q.key))), (6, .c (.mt (2076, 0) 2 zs.length)), (82, .c (.own (2080, 0) (zs.map yjc))), (83, pD (dI zs.length)), (84, pD (dI i)), (14, pD (dI i)), (89, pD (zzk z.ps)), (90, pD (dI z.ps.length)), (91, pD (dI j)), (13, .c (.own (2107, 0) ((out ++ (z.ps.take j).map (z2v (keyB q.key) z)).map XR.enc)))] [] H (aOf [((2076, 0), .mu 2 (zs.map z9p)), ((2080, 0), .co 1 zs.length), ((2107, 0), .co 6 (out ++ (z.ps.take j).map (z2v (keyB q.key) z)).length)])) Zti ?_ ?_
           · rw [List.take_zero, List.map_nil, List.append_nil]
             refine zqe hD (fun id hid => rfl) ?_ ?_ ?_ <;> simp +decide only [go_sem]
             exact ⟨z6x (by simp [aOf]) rfl, zqb (by simp [aOf]) rfl, zqb (by simp [aOf]) rfl⟩
           · intro j hj _
             rcases Zlg j z.ps.length with hjt | hjge
             · have hgp := Zge hjt
               have hdj := zze hjt
               have hwj := zzl hjt (show z.ps.length ≤ 4294967296 by omega)
               have hjl : (z.ps.take j).length = j := by rw [Zlt]; omega
               generalize z.ps[j] = p at hgp
               have e : (z.ps.take (j + 1)).map (z2v (keyB q.key) z) = (z.ps.take j).map (z2v (keyB q.key) z) ++ [z2v (keyB q.key) z p] := by rw [zzw hgp, List.map_append]; rfl
               generalize hpart : (z.ps.take j).map (z2v (keyB q.key) z) = part at *
               have htl : (z.ps.take (j + 1)).length = part.length + 1 := by rw [← hpart, List.length_map, hjl, Zlt]; omega
               have hpl : part.length = j := by rw [← hpart, List.length_map, hjl]
               repeat' (first|(with_reducible first|refine vSq fun K hK=>?_|apply vRg|apply vBl|apply vSc|apply vIf|apply vSk|apply vEx|apply vRt|((first|apply gNt|apply gCs)<;>(intro h;try simp only[h]))|((first|apply hK|(clear hK K;first|apply hK|(clear hK K;first|apply hK|(clear hK K;apply hK))));clear hK K)|(refine todo ?_;simp +decide only[go_sem, h17, hgp, hdj, hwj, hg, yvg, hltT]))|(refine zx1 Tryz.appXRs rfl (z0l (yq5 _) (yq5 _)) (zqk rfl) (by simp; omega) (by simp [aOf]) ?_))
               refine zzi hjt Zti ?_
               simp only [e]
               refine zqe hD (fun id hid => ?_) ?_ ?_ ?_ <;> simp +decide only [go_sem, z2v, List.append_assoc, htl]
               · rw [if_neg (by rintro rfl; exact hid h17), if_neg (by rintro rfl; exact hid h17)]
               · exact ⟨z6x (by simp [aOf]) (by simp [aOf, upd]), zqb (by simp [aOf]) (by simp [aOf, upd]), zqb (by simp [aOf]) (by simp [aOf, upd, Nat.add_assoc])⟩
               · exact rfl
             · have hdj := zzf hjge
               rw [Ztl hjge]
               repeat' (first|(with_reducible first|refine vSq fun K hK=>?_|apply vRg|apply vBl|apply vSc|apply vIf|apply vSk|apply vEx|apply vRt|((first|apply gNt|apply gCs)<;>(intro h;try simp only[h]))|((first|apply hK|(clear hK K;first|apply hK|(clear hK K;first|apply hK|(clear hK K;apply hK))));clear hK K)|(refine todo ?_;simp +decide only[go_sem, hdj, hw])))
               refine zzi hlt Zti ?_
               simp only [hnx]
               refine zqe hD (fun id hid => rfl) ?_ ?_ ?_ <;> simp +decide only [go_sem]
               exact ⟨z6x (by simp [aOf]) rfl, zqb (by simp [aOf]) rfl, zqb (by simp [aOf]) rfl⟩
         · have hd := zzf hge
           rw [Ztl hge]
           repeat' (first|(with_reducible first|refine vSq fun K hK=>?_|apply vRg|apply vBl|apply vSc|apply vIf|apply vSk|apply vEx|apply vRt|((first|apply gNt|apply gCs)<;>(intro h;try simp only[h]))|((first|apply hK|(clear hK K;first|apply hK|(clear hK K;first|apply hK|(clear hK K;apply hK))));clear hK K)|(refine todo ?_;simp +decide only[go_sem, hd])))
           rw [eb]
           exact z17 (κ := (2107, 0)) (zzu rfl (by unfold zzn; simp +decide only [go_sem])) (zj9 hD) (fun _ _ => rfl) (fun _ h => absurd rfl h)
theorem yjn {P : Program} {fn : Func} {H H' : HMap} {A : AMap} {S : St} {x : Value} (hp : zve P S fn.results.toList = some (pD (.lit x))) (hw : Wf H' A) (hH : ∀ i, H' i ≠ none → S.H i = H' i) (hA : S.A = A) (k0 : ∀ id, H id ≠ none → H' id ≠ none) : RetR P fn H A (pD (.lit x)) H' A S := by
 refine zqq hp (wk_c (.inr (.inl ⟨rfl, Zti⟩))) Zti hw (fun i es hi => ⟨es, by rw [hH i (by rw [hi]; simp), hi], z48 fun c hc => zwl (fun i h => h) (fun κ h => ⟨h, by rw [hA]⟩) (hw i es c hi hc)⟩) (fun κ => .inr (.inl (by rw [hA]))) k0 (fun _ h => h)
def tQ (q : Qy) (l : List Txn) : Int := if nowQ q = true then q.t else zxd l
def farQ (q : Qy) (l : List Txn) (hz : Int) : Bool := (nowQ q && decide (tQ q l < hz)) || (nowQ q && decide (zxd l < tQ q l))
def schQ (q : Qy) (l : List Txn) : Sch := (schS l q.tab (tQ q l)).getD zvc
def wrgS (q : Qy) (l : List Txn) (s0 : Sch) (hz : Int) : Sch := if farQ q l hz = true then s0 else schQ q l
def zvr (q : Qy) (l : List Txn) (hz : Int) : Int :=
 if (nowQ q && decide (tQ q l < hz)) = true then 15
 else if (nowQ q && decide (zxd l < tQ q l)) = true then 16
 else if (sErr (schS l q.tab (tQ q l)) != 0) = true then sErr (schS l q.tab (tQ q l))
 else if z34 q (schQ q l) = false then 14
 else if (q.kind == 3 && decide (q.lo < hz)) = true then 15
 else if (q.kind == 3 && decide (zxd l + 1 < q.hi)) = true then 16
 else 0
theorem Tryz.kWrong (q : Qy) (l : List Txn) (s0 : Sch) (hz : Int) (hl : LSm l q.tab) (hk : q.key.length ≤ 1048576) (hwl : IntKind.i64.wrap (zxd l + 1) = zxd l + 1) {H : HMap} (hD : z5m H) (hid : H 19 = some ((askE q l s0 hz).map .d)) :
 zqf Tryz.prog 36 1000 H noA [.c (.ptr 19 0)] (pD (dI (zvr q l hz))) (upd H 19 (some ((askE q l (wrgS q l s0 hz) hz).map .d))) noA := by
 refine zqh (E := envOf Tryz.prog [54, 9000000 + 10, 9000000 + 16, 9000000 + 55] 1000 [] []) (zzx Tryz.mixed) Tryz.func36 rfl Tryz.call36 (by kernel_rfl) (by exact Zle rfl) (fun hab => ?_)
 have h5 : H 1005 = none := (hab _ (by omega)).1
 have p19 : H 19 ≠ none := by rw [hid]; simp
 have ab2 : Above 2000 H noA := fun i hi => hab i (by omega)
 have k1 := Tryz.kLastM l hl.len
 have k2 := Tryz.kNow q l s0 hz (A := noA) (zj9 hD) hid
 have k3 := Tryz.kSchema l q.tab (tQ q l) hl.len (fun x hx => ⟨(hl.cs x hx).1, fun c hc => ((hl.cs x hx).2 c hc).1⟩)
 have k4 := Tryz.kQRight q (schQ q l) hk
 have hs : schQ q l = (schS l q.tab (tQ q l)).getD zvc := rfl
 rw [← hs] at k3
 have ew : zvr q l hz = if (nowQ q && decide (tQ q l < hz)) = true then 15
  else if (nowQ q && decide (zxd l < tQ q l)) = true then 16
  else if (sErr (schS l q.tab (tQ q l)) != 0) = true then sErr (schS l q.tab (tQ q l))
  else if z34 q (schQ q l) = false then 14
  else if (q.kind == 3 && decide (q.lo < hz)) = true then 15
  else if (q.kind == 3 && decide (zxd l + 1 < q.hi)) = true then 16
  else 0 := rfl
 have es : wrgS q l s0 hz = if ((nowQ q && decide (tQ q l < hz)) || (nowQ q && decide (zxd l < tQ q l))) = true then s0 else schQ q l := rfl
 have et : tQ q l = if nowQ q = true then q.t else zxd l := rfl
 have hD2 : ∀ s, z5m (upd H 19 (some ((askE q l s hz).map .d))) := fun s id cs h c hc => by
  unfold upd at h
  split at h
  · cases h
    obtain ⟨d, _, rfl⟩ := List.mem_map.1 hc
    exact ⟨d, rfl⟩
  · exact hD id cs h c hc
 have k0 : ∀ s id, H id ≠ none → upd H 19 (some ((askE q l s hz).map .d)) id ≠ none := fun s id h => by
  unfold upd
  split
  · simp
  · exact h
 have hsame : upd H 19 (some ((askE q l s0 hz).map .d)) = H := by
  funext i
  unfold upd
  split
  · rename_i e; subst e; exact hid.symm
  · rfl
 have done1 : ∀ {fn : Func} {S : St} {x : Value}, zve Tryz.prog S fn.results.toList = some (pD (.lit x)) → (∀ i, H i ≠ none → S.H i = H i) → S.A = noA → RetR Tryz.prog fn H noA (pD (.lit x)) H noA S := fun hp hH hA => yjn hp (zj9 hD) hH hA (fun _ h => h)
 have done2 : ∀ {fn : Func} {S : St} {x : Value}, zve Tryz.prog S fn.results.toList = some (pD (.lit x)) → (∀ i, upd H 19 (some ((askE q l (schQ q l) hz).map .d)) i ≠ none → S.H i = upd H 19 (some ((askE q l (schQ q l) hz).map .d)) i) → S.A = noA → RetR Tryz.prog fn H noA (pD (.lit x)) (upd H 19 (some ((askE q l (schQ q l) hz).map .d))) noA S := fun hp hH hA => yjn hp (zj9 (hD2 _)) hH hA (k0 _)
 have hfin : ∀ (X Y : Option (List CV)) (i : Nat), upd H 19 (some ((askE q l (schQ q l) hz).map .d)) i ≠ none → upd (upd (upd H 1005 X) 1005 Y) 19 (some ((askE q l (schQ q l) hz).map .d)) i = upd H 19 (some ((askE q l (schQ q l) hz).map .d)) i := fun X Y i hi => by
  by_cases e : i = 19
  · subst e; rw [zzc, zzc]
  · have e2 : i ≠ 1005 := by
     rintro rfl
     rw [zza _ _ e, h5] at hi
     exact hi rfl
    rw [zza _ _ e, zza _ _ e, zza _ _ e2, zza _ _ e2]
 -- BEGIN
 cases hn : nowQ q with
 | true =>
   rw [hn] at k2 ew es et
   simp only [if_true, Bool.true_and] at ew es et
   rw [et] at k3 ew es
   cases c1 : decide (q.t < hz) with
   | true =>
     rw [c1] at ew es
     simp only [if_true, Bool.true_or] at ew es
     rw [ew, es, hsame]
     repeat' (first|(with_reducible first|refine vSq fun K hK=>?_|apply vRg|apply vBl|apply vSc|apply vIf|apply vSk|apply vEx|apply vRt|((first|apply gNt|apply gCs)<;>(intro h;try simp only[h]))|((first|apply hK|(clear hK K;first|apply hK|(clear hK K;first|apply hK|(clear hK K;apply hK))));clear hK K)|(refine todo ?_;simp +decide only[go_sem, hid, c1]))|refine zzq k1 rfl rfl rfl rfl ?_|refine zz7 rfl k2 rfl ab2 ?_)
     exact done1 (zzu rfl (by unfold zzn; simp +decide only [go_sem])) (fun _ _ => rfl) rfl
   | false =>
     cases c2 : decide (zxd l < q.t) with
     | true =>
       rw [c1, c2] at ew es
       simp only [if_true, Bool.false_or, Bool.false_eq_true, if_false] at ew es
       rw [ew, es, hsame]
       repeat' (first|(with_reducible first|refine vSq fun K hK=>?_|apply vRg|apply vBl|apply vSc|apply vIf|apply vSk|apply vEx|apply vRt|((first|apply gNt|apply gCs)<;>(intro h;try simp only[h]))|((first|apply hK|(clear hK K;first|apply hK|(clear hK K;first|apply hK|(clear hK K;apply hK))));clear hK K)|(refine todo ?_;simp +decide only[go_sem, hid, c1, c2]))|refine zzq k1 rfl rfl rfl rfl ?_|refine zz7 rfl k2 rfl ab2 ?_)
       exact done1 (zzu rfl (by unfold zzn; simp +decide only [go_sem])) (fun _ _ => rfl) rfl
     | false =>
       rw [c1, c2] at ew es
       simp only [Bool.false_or, Bool.false_eq_true, if_false] at ew es
       cases e0 : (sErr (schS l q.tab q.t) != 0) with
       | true =>
         simp only [e0, if_true] at ew
         rw [ew, es]
         repeat' (first|(with_reducible first|refine vSq fun K hK=>?_|apply vRg|apply vBl|apply vSc|apply vIf|apply vSk|apply vEx|apply vRt|((first|apply gNt|apply gCs)<;>(intro h;try simp only[h]))|((first|apply hK|(clear hK K;first|apply hK|(clear hK K;first|apply hK|(clear hK K;apply hK))));clear hK K)|(refine todo ?_;simp +decide only[go_sem, hid, h5, c1, c2, e0]))|refine zzq k1 rfl rfl rfl rfl ?_|refine zz7 rfl k2 rfl ab2 ?_|refine zzq k3 rfl rfl rfl rfl ?_)
         refine done2 (zzu rfl (by unfold zzn; simp +decide only [go_sem])) (fun i hi => ?_) rfl
         exact hfin _ _ i hi
       | false =>
         simp only [e0, Bool.false_eq_true, if_false] at ew
         cases e1 : z34 q (schQ q l) with
         | false =>
           rw [e1] at k4
           simp only [e1, if_true] at ew
           rw [ew, es]
           repeat' (first|(with_reducible first|refine vSq fun K hK=>?_|apply vRg|apply vBl|apply vSc|apply vIf|apply vSk|apply vEx|apply vRt|((first|apply gNt|apply gCs)<;>(intro h;try simp only[h]))|((first|apply hK|(clear hK K;first|apply hK|(clear hK K;first|apply hK|(clear hK K;apply hK))));clear hK K)|(refine todo ?_;simp +decide only[go_sem, hid, h5, c1, c2, e0]))|refine zzq k1 rfl rfl rfl rfl ?_|refine zz7 rfl k2 rfl ab2 ?_|refine zzq k3 rfl rfl rfl rfl ?_|refine zzq k4 rfl rfl rfl rfl ?_)
           refine done2 (zzu rfl (by unfold zzn; simp +decide only [go_sem])) (fun i hi => ?_) rfl
           exact hfin _ _ i hi
         | true =>
           rw [e1] at k4
           simp only [e1, Bool.true_eq_false, if_false] at ew
           cases e2 : (q.kind == 3) with
           | false =>
             simp only [e2, Bool.false_and, Bool.false_eq_true, if_false] at ew
             rw [ew, es]
             repeat' (first|(with_reducible first|refine vSq fun K hK=>?_|apply vRg|apply vBl|apply vSc|apply vIf|apply vSk|apply vEx|apply vRt|((first|apply gNt|apply gCs)<;>(intro h;try simp only[h]))|((first|apply hK|(clear hK K;first|apply hK|(clear hK K;first|apply hK|(clear hK K;apply hK))));clear hK K)|(refine todo ?_;simp +decide only[go_sem, hid, h5, c1, c2, e0, e2]))|refine zzq k1 rfl rfl rfl rfl ?_|refine zz7 rfl k2 rfl ab2 ?_|refine zzq k3 rfl rfl rfl rfl ?_|refine zzq k4 rfl rfl rfl rfl ?_)
             refine done2 (zzu rfl (by unfold zzn; simp +decide only [go_sem])) (fun i hi => ?_) rfl
             exact hfin _ _ i hi
           | true =>
             simp only [e2, Bool.true_and] at ew
             cases e3 : decide (q.lo < hz) with
             | true =>
               simp only [e3, if_true] at ew
               rw [ew, es]
               repeat' (first|(with_reducible first|refine vSq fun K hK=>?_|apply vRg|apply vBl|apply vSc|apply vIf|apply vSk|apply vEx|apply vRt|((first|apply gNt|apply gCs)<;>(intro h;try simp only[h]))|((first|apply hK|(clear hK K;first|apply hK|(clear hK K;first|apply hK|(clear hK K;apply hK))));clear hK K)|(refine todo ?_;simp +decide only[go_sem, hid, h5, c1, c2, e0, e2, e3]))|refine zzq k1 rfl rfl rfl rfl ?_|refine zz7 rfl k2 rfl ab2 ?_|refine zzq k3 rfl rfl rfl rfl ?_|refine zzq k4 rfl rfl rfl rfl ?_)
               refine done2 (zzu rfl (by unfold zzn; simp +decide only [go_sem])) (fun i hi => ?_) rfl
               exact hfin _ _ i hi
             | false =>
               simp only [e3, Bool.false_eq_true, if_false] at ew
               cases e4 : decide (zxd l + 1 < q.hi) with
               | true =>
                 simp only [e4, if_true] at ew
                 rw [ew, es]
                 repeat' (first|(with_reducible first|refine vSq fun K hK=>?_|apply vRg|apply vBl|apply vSc|apply vIf|apply vSk|apply vEx|apply vRt|((first|apply gNt|apply gCs)<;>(intro h;try simp only[h]))|((first|apply hK|(clear hK K;first|apply hK|(clear hK K;first|apply hK|(clear hK K;apply hK))));clear hK K)|(refine todo ?_;simp +decide only[go_sem, hid, h5, c1, c2, e0, e2, e3, e4, hwl]))|refine zzq k1 rfl rfl rfl rfl ?_|refine zz7 rfl k2 rfl ab2 ?_|refine zzq k3 rfl rfl rfl rfl ?_|refine zzq k4 rfl rfl rfl rfl ?_)
                 refine done2 (zzu rfl (by unfold zzn; simp +decide only [go_sem])) (fun i hi => ?_) rfl
                 exact hfin _ _ i hi
               | false =>
                 simp only [e4, Bool.false_eq_true, if_false] at ew
                 rw [ew, es]
                 repeat' (first|(with_reducible first|refine vSq fun K hK=>?_|apply vRg|apply vBl|apply vSc|apply vIf|apply vSk|apply vEx|apply vRt|((first|apply gNt|apply gCs)<;>(intro h;try simp only[h]))|((first|apply hK|(clear hK K;first|apply hK|(clear hK K;first|apply hK|(clear hK K;apply hK))));clear hK K)|(refine todo ?_;simp +decide only[go_sem, hid, h5, c1, c2, e0, e2, e3, e4, hwl]))|refine zzq k1 rfl rfl rfl rfl ?_|refine zz7 rfl k2 rfl ab2 ?_|refine zzq k3 rfl rfl rfl rfl ?_|refine zzq k4 rfl rfl rfl rfl ?_)
                 refine done2 (zzu rfl (by unfold zzn; simp +decide only [go_sem])) (fun i hi => ?_) rfl
                 exact hfin _ _ i hi
 | false =>
   rw [hn] at k2 ew es et
   simp only [Bool.false_and, Bool.false_or, Bool.false_eq_true, if_false] at ew es et
   rw [et] at k3 ew
   cases e0 : (sErr (schS l q.tab (zxd l)) != 0) with
   | true =>
     simp only [e0, if_true] at ew
     rw [ew, es]
     repeat' (first|(with_reducible first|refine vSq fun K hK=>?_|apply vRg|apply vBl|apply vSc|apply vIf|apply vSk|apply vEx|apply vRt|((first|apply gNt|apply gCs)<;>(intro h;try simp only[h]))|((first|apply hK|(clear hK K;first|apply hK|(clear hK K;first|apply hK|(clear hK K;apply hK))));clear hK K)|(refine todo ?_;simp +decide only[go_sem, hid, h5, e0]))|refine zzq k1 rfl rfl rfl rfl ?_|refine zz7 rfl k2 rfl ab2 ?_|refine zzq k3 rfl rfl rfl rfl ?_)
     refine done2 (zzu rfl (by unfold zzn; simp +decide only [go_sem])) (fun i hi => ?_) rfl
     exact hfin _ _ i hi
   | false =>
     simp only [e0, Bool.false_eq_true, if_false] at ew
     cases e1 : z34 q (schQ q l) with
     | false =>
       rw [e1] at k4
       simp only [e1, if_true] at ew
       rw [ew, es]
       repeat' (first|(with_reducible first|refine vSq fun K hK=>?_|apply vRg|apply vBl|apply vSc|apply vIf|apply vSk|apply vEx|apply vRt|((first|apply gNt|apply gCs)<;>(intro h;try simp only[h]))|((first|apply hK|(clear hK K;first|apply hK|(clear hK K;first|apply hK|(clear hK K;apply hK))));clear hK K)|(refine todo ?_;simp +decide only[go_sem, hid, h5, e0]))|refine zzq k1 rfl rfl rfl rfl ?_|refine zz7 rfl k2 rfl ab2 ?_|refine zzq k3 rfl rfl rfl rfl ?_|refine zzq k4 rfl rfl rfl rfl ?_)
       refine done2 (zzu rfl (by unfold zzn; simp +decide only [go_sem])) (fun i hi => ?_) rfl
       exact hfin _ _ i hi
     | true =>
       rw [e1] at k4
       simp only [e1, Bool.true_eq_false, if_false] at ew
       cases e2 : (q.kind == 3) with
       | false =>
         simp only [e2, Bool.false_and, Bool.false_eq_true, if_false] at ew
         rw [ew, es]
         repeat' (first|(with_reducible first|refine vSq fun K hK=>?_|apply vRg|apply vBl|apply vSc|apply vIf|apply vSk|apply vEx|apply vRt|((first|apply gNt|apply gCs)<;>(intro h;try simp only[h]))|((first|apply hK|(clear hK K;first|apply hK|(clear hK K;first|apply hK|(clear hK K;apply hK))));clear hK K)|(refine todo ?_;simp +decide only[go_sem, hid, h5, e0, e2]))|refine zzq k1 rfl rfl rfl rfl ?_|refine zz7 rfl k2 rfl ab2 ?_|refine zzq k3 rfl rfl rfl rfl ?_|refine zzq k4 rfl rfl rfl rfl ?_)
         refine done2 (zzu rfl (by unfold zzn; simp +decide only [go_sem])) (fun i hi => ?_) rfl
         exact hfin _ _ i hi
       | true =>
         simp only [e2, Bool.true_and] at ew
         cases e3 : decide (q.lo < hz) with
         | true =>
           simp only [e3, if_true] at ew
           rw [ew, es]
           repeat' (first|(with_reducible first|refine vSq fun K hK=>?_|apply vRg|apply vBl|apply vSc|apply vIf|apply vSk|apply vEx|apply vRt|((first|apply gNt|apply gCs)<;>(intro h;try simp only[h]))|((first|apply hK|(clear hK K;first|apply hK|(clear hK K;first|apply hK|(clear hK K;apply hK))));clear hK K)|(refine todo ?_;simp +decide only[go_sem, hid, h5, e0, e2, e3]))|refine zzq k1 rfl rfl rfl rfl ?_|refine zz7 rfl k2 rfl ab2 ?_|refine zzq k3 rfl rfl rfl rfl ?_|refine zzq k4 rfl rfl rfl rfl ?_)
           refine done2 (zzu rfl (by unfold zzn; simp +decide only [go_sem])) (fun i hi => ?_) rfl
           exact hfin _ _ i hi
         | false =>
           simp only [e3, Bool.false_eq_true, if_false] at ew
           cases e4 : decide (zxd l + 1 < q.hi) with
           | true =>
             simp only [e4, if_true] at ew
             rw [ew, es]
             repeat' (first|(with_reducible first|refine vSq fun K hK=>?_|apply vRg|apply vBl|apply vSc|apply vIf|apply vSk|apply vEx|apply vRt|((first|apply gNt|apply gCs)<;>(intro h;try simp only[h]))|((first|apply hK|(clear hK K;first|apply hK|(clear hK K;first|apply hK|(clear hK K;apply hK))));clear hK K)|(refine todo ?_;simp +decide only[go_sem, hid, h5, e0, e2, e3, e4, hwl]))|refine zzq k1 rfl rfl rfl rfl ?_|refine zz7 rfl k2 rfl ab2 ?_|refine zzq k3 rfl rfl rfl rfl ?_|refine zzq k4 rfl rfl rfl rfl ?_)
             refine done2 (zzu rfl (by unfold zzn; simp +decide only [go_sem])) (fun i hi => ?_) rfl
             exact hfin _ _ i hi
           | false =>
             simp only [e4, Bool.false_eq_true, if_false] at ew
             rw [ew, es]
             repeat' (first|(with_reducible first|refine vSq fun K hK=>?_|apply vRg|apply vBl|apply vSc|apply vIf|apply vSk|apply vEx|apply vRt|((first|apply gNt|apply gCs)<;>(intro h;try simp only[h]))|((first|apply hK|(clear hK K;first|apply hK|(clear hK K;first|apply hK|(clear hK K;apply hK))));clear hK K)|(refine todo ?_;simp +decide only[go_sem, hid, h5, e0, e2, e3, e4, hwl]))|refine zzq k1 rfl rfl rfl rfl ?_|refine zz7 rfl k2 rfl ab2 ?_|refine zzq k3 rfl rfl rfl rfl ?_|refine zzq k4 rfl rfl rfl rfl ?_)
             refine done2 (zzu rfl (by unfold zzn; simp +decide only [go_sem])) (fun i hi => ?_) rfl
             exact hfin _ _ i hi
 -- END
end Go.Proofs
