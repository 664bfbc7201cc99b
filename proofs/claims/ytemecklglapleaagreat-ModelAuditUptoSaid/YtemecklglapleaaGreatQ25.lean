/-
  Parts of the proof, laid together: PwUc, PwUd, PwUe, PwMa.
-/
import Derived.Test.YtemecklglapleaaGreatQ24

set_option maxRecDepth 30000
set_option maxHeartbeats 16000000
namespace Go.Proofs
open Go.PW
theorem yqr {l : List Ver} (h : z3j l) (t : Int) : z1g (vAt l t) := fun p hp => by
 obtain ⟨v, hv, e⟩ := yji hp
 rw [e]; exact h v hv
theorem Tryz.rLastV (l : List Ver) (hn : l.length ≤ 1048576) (hr : ∀ v ∈ l, v.p.row.length ≤ 1048576) (hok : z3j l) : zzr Tryz.prog 73 [pD (zxs l)] (.one (.d (.lit (.int .i64 (z3q l))))) := by
 refine Tryz.pure (md := []) Tryz.func73 rfl Tryz.call73 (by kernel_rfl) (by rfl) (by exact Zle rfl) ?_
 have kr := Tryz.rRightV l hn hr hok
 have e : z3q l = if zqt l = true then l.foldl zxf 0 else 0 := rfl
 rcases Nat.eq_zero_or_pos l.length with h0 | h0
 · have hl : l = [] := List.eq_nil_of_length_eq_zero h0
   subst hl
   repeat' (first|(with_reducible first|refine vSq fun K hK=>?_|apply vRg|apply vBl|apply vSc|apply vIf|apply vSk|apply vEx|apply vRt|((first|apply gNt|apply gCs)<;>(intro h;try simp only[h]))|((first|apply hK|(clear hK K;first|apply hK|(clear hK K;first|apply hK|(clear hK K;apply hK))));clear hK K)|(refine todo ?_;simp +decide only[go_sem])))
   refine zzj 0 (fun _ => True) (fun _ => frame [(0, pD (zxs [])), (3, pD (.lit (.int .i64 0))), (4, pD (.lit (.int .i64 0)))] [] []) Zti ?_ ?_
   · refine zzb ?_ ?_ ?_ <;> simp +decide only [go_sem]
   · intro i hi hI
     repeat' (first|(with_reducible first|refine vSq fun K hK=>?_|apply vRg|apply vBl|apply vSc|apply vIf|apply vSk|apply vEx|apply vRt|((first|apply gNt|apply gCs)<;>(intro h;try simp only[h]))|((first|apply hK|(clear hK K;first|apply hK|(clear hK K;first|apply hK|(clear hK K;apply hK))));clear hK K)|(refine todo ?_;simp +decide only[go_sem])))
     exact zzs rfl rfl
 cases hR : zqt l with
 | false =>
   rw [hR] at kr e
   have hd := zze h0
   repeat' (first|(with_reducible first|refine vSq fun K hK=>?_|apply vRg|apply vBl|apply vSc|apply vIf|apply vSk|apply vEx|apply vRt|((first|apply gNt|apply gCs)<;>(intro h;try simp only[h]))|((first|apply hK|(clear hK K;first|apply hK|(clear hK K;first|apply hK|(clear hK K;apply hK))));clear hK K)|(refine todo ?_;simp +decide only[go_sem])))
   refine zzj 0 (fun _ => True) (fun _ => frame [(0, pD (zxs l)), (3, pD (.lit (.int .i64 0))), (4, pD (.lit (.int .i64 0)))] [] []) Zti ?_ ?_
   · refine zzb ?_ ?_ ?_ <;> simp +decide only [go_sem]
   · intro i hi hI
     have hd : ((0 : Int) < (l.length : Int)) = True := eq_true (by omega)
     repeat' (first|(with_reducible first|refine vSq fun K hK=>?_|apply vRg|apply vBl|apply vSc|apply vIf|apply vSk|apply vEx|apply vRt|((first|apply gNt|apply gCs)<;>(intro h;try simp only[h]))|((first|apply hK|(clear hK K;first|apply hK|(clear hK K;first|apply hK|(clear hK K;apply hK))));clear hK K)|(refine todo ?_;simp +decide only[go_sem, hd]))|refine zzd kr rfl rfl (fun _ => rfl) ?_)
     rw [e]
     exact zzs rfl rfl
 | true =>
   rw [hR] at kr e
   repeat' (first|(with_reducible first|refine vSq fun K hK=>?_|apply vRg|apply vBl|apply vSc|apply vIf|apply vSk|apply vEx|apply vRt|((first|apply gNt|apply gCs)<;>(intro h;try simp only[h]))|((first|apply hK|(clear hK K;first|apply hK|(clear hK K;first|apply hK|(clear hK K;apply hK))));clear hK K)|(refine todo ?_;simp +decide only[go_sem])))
   refine zzj l.length (fun _ => True) (fun i => frame [(0, pD (zxs l)), (3, pD (.lit (.int .i64 ((l.take i).foldl zxf 0)))), (4, pD (.lit (.int .i64 i)))] [] []) Zti ?_ ?_
   · refine zzb ?_ ?_ ?_ <;> simp +decide only [go_sem, List.foldl_nil]
   · intro i hi hI
     rcases Zlg i l.length with hlt | hge
     · have hg := Zge hlt
       have hd := zze hlt
       have hwi := zzl hlt (show l.length ≤ 4294967296 by omega)
       generalize l[i] = x at hg
       have hnx := yve (f := zxf) (b := 0) hg
       have hxo := ((zq7.1 hR).1 x (Zme hg)).1
       have hs : ∀ t, zxf t x = if x.open' = true then iMax t x.sl else iMax (iMax t x.sl) x.sh := fun t => rfl
       cases hx : x.open' with
       | true =>
         have hsh : (x.sh < 1099511627776) = False := eq_false (by have : x.sh = 1099511627776 := by simpa [Ver.open'] using hx
                                                                   omega)
         rw [hx] at hs
         repeat' (first|(with_reducible first|refine vSq fun K hK=>?_|apply vRg|apply vBl|apply vSc|apply vIf|apply vSk|apply vEx|apply vRt|((first|apply gNt|apply gCs)<;>(intro h;try simp only[h]))|((first|apply hK|(clear hK K;first|apply hK|(clear hK K;first|apply hK|(clear hK K;apply hK))));clear hK K)|(refine todo ?_;simp +decide only[go_sem, hg, hd, hwi, hsh]))|refine zzd kr rfl rfl (fun _ => rfl) ?_)
         refine zzi hlt Zti (zzb ?_ ?_ ?_) <;> simp +decide only [go_sem, hnx, hs, iMax]
       | false =>
         have hsh : (x.sh < 1099511627776) = True := eq_true (by
          have h1 : x.sh ≠ 1099511627776 := by simpa [Ver.open'] using hx
          obtain ⟨_, _, h3⟩ := hxo
          simp only at h3
          omega)
         rw [hx] at hs
         repeat' (first|(with_reducible first|refine vSq fun K hK=>?_|apply vRg|apply vBl|apply vSc|apply vIf|apply vSk|apply vEx|apply vRt|((first|apply gNt|apply gCs)<;>(intro h;try simp only[h]))|((first|apply hK|(clear hK K;first|apply hK|(clear hK K;first|apply hK|(clear hK K;apply hK))));clear hK K)|(refine todo ?_;simp +decide only[go_sem, hg, hd, hwi, hsh]))|refine zzd kr rfl rfl (fun _ => rfl) ?_)
         refine zzi hlt Zti (zzb ?_ ?_ ?_) <;> simp +decide only [go_sem, hnx, hs, iMax]
         try exact wk_c (.inr (.inl ⟨rfl, Zti⟩))
     · have hd := zzf hge
       rw [Ztl hge]
       repeat' (first|(with_reducible first|refine vSq fun K hK=>?_|apply vRg|apply vBl|apply vSc|apply vIf|apply vSk|apply vEx|apply vRt|((first|apply gNt|apply gCs)<;>(intro h;try simp only[h]))|((first|apply hK|(clear hK K;first|apply hK|(clear hK K;first|apply hK|(clear hK K;apply hK))));clear hK K)|(refine todo ?_;simp +decide only[go_sem, hd])))
       rw [e]
       exact zzs rfl rfl
theorem z6v {l : List Ver} (h : zqt l = true) (i : Nat) : zqt (l.take i) = true := zvz (List.take_sublist i l) h
theorem y49 {l : List Ver} (h : zqt l = true) {i : Nat} {x : Ver} (hg : l[i]? = some x) (t : Int) : vAt (l.take (i + 1)) t = if Span.has x.sl x.sh t = true then putV (vAt (l.take i) t) x else vAt (l.take i) t := by
 rw [(z20 (z6v h (i + 1)) t).1, (z20 (z6v h i) t).1, zzw hg, List.filter_append, List.foldl_append]
 cases hh : Span.has x.sl x.sh t <;> simp [hh]
theorem Tryz.rAtV (l : List Ver) (t : Int) (hn : l.length ≤ 131072) (hr : ∀ v ∈ l, v.p.row.length ≤ 1048576) (hok : z3j l) : zzr Tryz.prog 68 [pD (zxs l), pD (.lit (.int .i64 t))] (.one (.d (zzk (vAt l t)))) := by
 refine Tryz.pure (md := []) Tryz.func68 rfl Tryz.call68 (by kernel_rfl) (by rfl) (by exact Zle rfl) ?_
 have kr := Tryz.rRightV l (by omega) hr hok
 cases hR : zqt l with
 | false =>
   rw [hR] at kr
   have e : vAt l t = [] := by rw [vAt, hR]; rfl
   repeat' (first|(with_reducible first|refine vSq fun K hK=>?_|apply vRg|apply vBl|apply vSc|apply vIf|apply vSk|apply vEx|apply vRt|((first|apply gNt|apply gCs)<;>(intro h;try simp only[h]))|((first|apply hK|(clear hK K;first|apply hK|(clear hK K;first|apply hK|(clear hK K;apply hK))));clear hK K)|(refine todo ?_;simp +decide only[go_sem]))|refine zzd kr rfl rfl (fun _ => rfl) ?_)
   rw [e]
   exact zzs rfl rfl
 | true =>
   rw [hR] at kr
   repeat' (first|(with_reducible first|refine vSq fun K hK=>?_|apply vRg|apply vBl|apply vSc|apply vIf|apply vSk|apply vEx|apply vRt|((first|apply gNt|apply gCs)<;>(intro h;try simp only[h]))|((first|apply hK|(clear hK K;first|apply hK|(clear hK K;first|apply hK|(clear hK K;apply hK))));clear hK K)|(refine todo ?_;simp +decide only[go_sem]))|refine zzd kr rfl rfl (fun _ => rfl) ?_)
   refine zzj l.length (fun _ => True) (fun i => frame [(0, pD (zxs l)), (1, pD (.lit (.int .i64 t))), (5, pD (zzk (vAt (l.take i) t))), (6, pD (.lit (.int .i64 i)))] [] []) Zti ?_ ?_
   · have e0 : vAt (l.take 0) t = [] := rfl
     rw [e0]
     refine zzb ?_ ?_ ?_ <;> simp +decide only [go_sem]
   · intro i hi hI
     rcases Zlg i l.length with hlt | hge
     · have hg := Zge hlt
       have hd := zze hlt
       have hwi := zzl hlt (show l.length ≤ 4294967296 by omega)
       generalize l[i] = x at hg
       have hx := hr x (Zme hg)
       have hxo := hok x (Zme hg)
       have hnx := y49 hR hg t
       have hol := z08 (l.take i) t
       have hor : ∀ p ∈ vAt (l.take i) t, p.row.length ≤ 1048576 := fun p hp => by obtain ⟨v, hv, e⟩ := yji hp; rw [e]; exact hr v (List.mem_of_mem_take hv)
       have hoo : z1g (vAt (l.take i) t) := yqr (fun v hv => hok v (List.mem_of_mem_take hv)) t
       rw [Zlt] at hol
       generalize vAt (l.take i) t = out at *
       have kh := Tryz.rSpanHas x.sl x.sh t
       have kp := Tryz.rPut out (x.p.lo, x.p.hi) x.p.row (by omega) hor hoo hx hxo
       change zzr _ _ _ (.one (.d (zzk (putV out x)))) at kp
       cases hh : Span.has x.sl x.sh t with
       | true =>
         rw [hh] at kh
         rw [hh, if_pos rfl] at hnx
         generalize putV out x = np at *
         repeat' (first|(with_reducible first|refine vSq fun K hK=>?_|apply vRg|apply vBl|apply vSc|apply vIf|apply vSk|apply vEx|apply vRt|((first|apply gNt|apply gCs)<;>(intro h;try simp only[h]))|((first|apply hK|(clear hK K;first|apply hK|(clear hK K;first|apply hK|(clear hK K;apply hK))));clear hK K)|(refine todo ?_;simp +decide only[go_sem, hg, hd, hwi]))|refine zzd kh rfl rfl (fun _ => rfl) ?_|refine zzd kp rfl rfl (fun _ => rfl) ?_)
         refine zzi hlt Zti (zzb ?_ ?_ ?_) <;> simp +decide only [go_sem, hnx]
       | false =>
         rw [hh] at kh
         rw [hh, if_neg (by decide)] at hnx
         repeat' (first|(with_reducible first|refine vSq fun K hK=>?_|apply vRg|apply vBl|apply vSc|apply vIf|apply vSk|apply vEx|apply vRt|((first|apply gNt|apply gCs)<;>(intro h;try simp only[h]))|((first|apply hK|(clear hK K;first|apply hK|(clear hK K;first|apply hK|(clear hK K;apply hK))));clear hK K)|(refine todo ?_;simp +decide only[go_sem, hg, hd, hwi]))|refine zzd kh rfl rfl (fun _ => rfl) ?_)
         refine zzi hlt Zti (zzb ?_ ?_ ?_) <;> simp +decide only [go_sem, hnx]
     · have hd := zzf hge
       rw [Ztl hge]
       repeat' (first|(with_reducible first|refine vSq fun K hK=>?_|apply vRg|apply vBl|apply vSc|apply vIf|apply vSk|apply vEx|apply vRt|((first|apply gNt|apply gCs)<;>(intro h;try simp only[h]))|((first|apply hK|(clear hK K;first|apply hK|(clear hK K;first|apply hK|(clear hK K;apply hK))));clear hK K)|(refine todo ?_;simp +decide only[go_sem, hd])))
       exact zzs rfl rfl
theorem Tryz.rAmongV (q : List Piece) (x : Piece) (hn : q.length ≤ 1048576) (hr : ∀ p ∈ q, p.row.length ≤ 1048576) : zzr Tryz.prog 75 [pD (zzk q), pA x.enc] (.one (dB (isIn q x))) := by
 refine Tryz.pure (md := []) Tryz.func75 rfl Tryz.call75 (by kernel_rfl) (by rfl) (by exact Zle rfl) ?_
 repeat' (first|(with_reducible first|refine vSq fun K hK=>?_|apply vRg|apply vBl|apply vSc|apply vIf|apply vSk|apply vEx|apply vRt|((first|apply gNt|apply gCs)<;>(intro h;try simp only[h]))|((first|apply hK|(clear hK K;first|apply hK|(clear hK K;first|apply hK|(clear hK K;apply hK))));clear hK K)|(refine todo ?_;simp +decide only[go_sem])))
 refine zzj q.length (fun i => isIn (q.take i) x = false) (fun i => frame [(0, pD (zzk q)), (3, .c (.ptr 3 0)), (5, pD (.lit (.int .i64 i)))] [(3, [.d (.lit (.int .i64 x.lo)), .d (.lit (.int .i64 x.hi)), .d (zz4 x.row)])] []) rfl ?_ ?_
 · refine zzb ?_ ?_ ?_ <;> simp +decide only [go_sem]
   exact zzh (by simp [hOf])
 · intro i hi hI
   rcases Zlg i q.length with hlt | hge
   · have hg := Zge hlt
     have hd := zze hlt
     have hw := zzl hlt (show q.length ≤ 4294967296 by omega)
     generalize q[i] = y at hg
     have hy := hr y (Zme hg)
     repeat' (first|(with_reducible first|refine vSq fun K hK=>?_|apply vRg|apply vBl|apply vSc|apply vIf|apply vSk|apply vEx|apply vRt|((first|apply gNt|apply gCs)<;>(intro h;try simp only[h]))|((first|apply hK|(clear hK K;first|apply hK|(clear hK K;first|apply hK|(clear hK K;apply hK))));clear hK K)|(refine todo ?_;simp +decide only[go_sem, hg, hd, hw]))|refine zzd (Tryz.kRows y.row x.row (by omega)) rfl rfl (fun _ => rfl) ?_)
     all_goals first
      | (have hs : zqg x y = true := by rw [zkf]; unfold zqg; simp [*]
         refine zzs rfl ?_
         simp +decide only [go_sem, z7w hg hs])
      | (have hs : zqg x y = false := by rw [zkf]; unfold zqg; simp [*]
         refine zzi hlt (yz1 hg hI hs) (zzb ?_ ?_ ?_) <;> simp +decide only [go_sem]
         exact zzh (by simp [hOf]))
   · have hd := zzf hge
     rw [Ztl hge] at hI
     repeat' (first|(with_reducible first|refine vSq fun K hK=>?_|apply vRg|apply vBl|apply vSc|apply vIf|apply vSk|apply vEx|apply vRt|((first|apply gNt|apply gCs)<;>(intro h;try simp only[h]))|((first|apply hK|(clear hK K;first|apply hK|(clear hK K;first|apply hK|(clear hK K;apply hK))));clear hK K)|(refine todo ?_;simp +decide only[go_sem, hd])))
     refine zzs rfl ?_
     simp +decide only [go_sem, hI]
def zw2 (l : List Ver) (v : Ver) : List Ver := l.takeWhile (fun w => !ahead' v w) ++ v :: l.dropWhile (fun w => !ahead' v w)
theorem z3i (l : List Ver) (v : Ver) : (zw2 l v).Perm (v :: l) := by
 unfold zw2
 refine List.perm_middle.trans (List.Perm.cons v ?_)
 rw [List.takeWhile_append_dropWhile]
theorem yqg (l : List Ver) (v : Ver) : (zw2 l v).length = l.length + 1 := (z3i l v).length_eq
theorem z36 : ∀ {l : List Ver} {v : Ver}, l.Pairwise Le → (zw2 l v).Pairwise Le
 | [], v, _ => by simp [zw2]
 | w :: r, v, h => by
   obtain ⟨h1, h2⟩ := List.pairwise_cons.1 h
   cases ha : ahead' v w with
   | true =>
     have e : zw2 (w :: r) v = v :: w :: r := by simp [zw2, ha]
     rw [e]
     have hvw : Le v w := by
      have := z5e.1 ha
      unfold Le at this ⊢
      omega
     refine List.pairwise_cons.2 ⟨fun y hy => ?_, h⟩
     rcases List.mem_cons.1 hy with rfl | hy
     · exact hvw
     · exact hvw.trans (h1 y hy)
   | false =>
     have e : zw2 (w :: r) v = w :: zw2 r v := by simp [zw2, ha]
     rw [e]
     refine List.pairwise_cons.2 ⟨fun y hy => ?_, z36 h2⟩
     rcases List.mem_cons.1 ((z3i r v).mem_iff.1 hy) with rfl | hy
     · exact z58.1 ha
     · exact h1 y hy
def z1x (t : Int) (out : List Ver) (cs : List Piece) : List Ver := cs.foldl (fun out c => zw2 out (z21 t c)) out
theorem z71 {t : Int} : ∀ (cs : List Piece) (out : List Ver), out.Pairwise Le → (z1x t out cs).Perm (out ++ cs.map (z21 t)) ∧ (z1x t out cs).Pairwise Le
 | [], out, h => by rw [List.map_nil, List.append_nil]; exact ⟨List.Perm.refl _, h⟩
 | c :: cs, out, h => by
   obtain ⟨k1, k2⟩ := z71 cs (zw2 out (z21 t c)) (z36 h)
   refine ⟨k1.trans ?_, k2⟩
   rw [List.map_cons]
   exact ((z3i out (z21 t c)).append_right _).trans List.perm_middle.symm
theorem y4r {l : List Ver} {t : Int} {p : List Piece} (h : Sets l t p) : z1x t ((z9v l (gone l p) t).map (vCut (gone l p) t)) (come l p) = z22 l t p := by
 have hr := zq7.1 h.hl
 have hs : ((z9v l (gone l p) t).map (vCut (gone l p) t)).Pairwise Le := by
  refine List.pairwise_map.2 ?_
  have hl : l.Pairwise Le := hr.2.imp fun h => h.2
  refine (hl.sublist List.filter_sublist).imp fun {v w} k => ?_
  unfold Le at k ⊢
  rw [zkm.1, zkm.1, zkm.2, zkm.2]
  exact k
 obtain ⟨k1, k2⟩ := z71 (t := t) (come l p) _ hs
 have hm := y1q h
 refine z8e ?_ (z4c h) fun x => ?_
 · rw [zq7]
   refine ⟨fun v hv => hm.1 v (k1.mem_iff.1 hv), ?_⟩
   have ha : (z1x t ((z9v l (gone l p) t).map (vCut (gone l p) t)) (come l p)).Pairwise zjl := (k1.pairwise_iff (fun h => h.symm)).2 hm.2
   exact ha.and k2
 · rw [k1.mem_iff, z6w h, ykq]
   exact Iff.rfl
theorem z37 {t : Int} : ∀ (cs : List Piece) (out : List Ver), (z1x t out cs).length = out.length + cs.length
 | [], out => by simp [z1x]
 | c :: cs, out => by
   have := z37 (t := t) cs (zw2 out (z21 t c))
   rw [yqg] at this
   rw [show z1x t out (c :: cs) = z1x t (zw2 out (z21 t c)) cs from rfl, this, List.length_cons]
   omega
theorem yv6 {t : Int} {out : List Ver} {cs : List Piece} {i : Nat} {c : Piece} (h : cs[i]? = some c) : z1x t out (cs.take (i + 1)) = zw2 (z1x t out (cs.take i)) (z21 t c) := by
 rw [zzw h, z1x, List.foldl_append]; rfl
def z4j (l : List Ver) (q : List Piece) (t : Int) : List Ver := (l.map (vCut q t)).filter (fun v => decide (v.sl < v.sh))
theorem y4q {l : List Ver} {q : List Piece} {t : Int} (h : ∀ v ∈ l, v.sl < v.sh) : z4j l q t = (z9v l q t).map (vCut q t) := by
 unfold z4j z9v
 rw [List.filter_map]
 congr 1
 refine List.filter_congr fun v hv => ?_
 have := h v hv
 simp only [Function.comp]
 unfold vCut
 cases z11 q v with
 | true => simp
 | false => simp [this]
theorem yv5 {l : List Ver} {q : List Piece} {t : Int} {i : Nat} {v : Ver} (h : l[i]? = some v) : z4j (l.take (i + 1)) q t = z4j (l.take i) q t ++ if (vCut q t v).sl < (vCut q t v).sh then [vCut q t v] else [] := by
 unfold z4j
 rw [zzw h, List.map_append, List.filter_append, List.map_singleton]
 congr 1
 simp only [List.filter_cons, List.filter_nil, decide_eq_true_eq]
theorem z35 (l : List Ver) (q : List Piece) (t : Int) : (z4j l q t).length ≤ l.length := by
 unfold z4j
 exact Nat.le_trans (List.length_filter_le _ _) (by simp)
theorem Tryz.rPutV (l : List Ver) (v : Ver) (hn : l.length ≤ 1048576) : zzr Tryz.prog 76 [pD (zxs l), pA v.enc] (.one (.d (zxs (zw2 l v)))) := by
 refine Tryz.pure (md := []) Tryz.func76 rfl Tryz.call76 (by kernel_rfl) (by rfl) (by exact Zle rfl) ?_
 repeat' (first|(with_reducible first|refine vSq fun K hK=>?_|apply vRg|apply vBl|apply vSc|apply vIf|apply vSk|apply vEx|apply vRt|((first|apply gNt|apply gCs)<;>(intro h;try simp only[h]))|((first|apply hK|(clear hK K;first|apply hK|(clear hK K;first|apply hK|(clear hK K;apply hK))));clear hK K)|(refine todo ?_;simp +decide only[go_sem])))
 refine zzj l.length (fun i => (l.take i).all (fun w => !ahead' v w) = true) (fun i => frame [(0, pD (zxs l)), (3, .c (.ptr 3 0)), (5, .c (.own (26, 0) ((l.take i).map Ver.enc))), (6, pD (.lit (.int .i64 i)))]
  [(3, [.d (.lit (.int .i64 v.sl)), .d (.lit (.int .i64 v.sh)), .d (.lit (.int .i64 v.p.lo)), .d (.lit (.int .i64 v.p.hi)), .d (zz4 v.p.row)])] [((26, 0), .co 5 (l.take i).length)]) rfl ?_ ?_
 · refine zzb ?_ ?_ ?_ <;> simp +decide only [go_sem]
   exact ⟨zzh (by simp [hOf]), zju rfl rfl⟩
 · intro i hi hI
   have htl : (l.take i).length = i := by rw [Zlt]; omega
   have hq2 : List.take (l.length - i) ((l.drop i).map Ver.enc) = (l.drop i).map Ver.enc := Ztl (by simp)
   have hend : (∀ y, l[i]? = some y → (!ahead' v y) = false) → zw2 l v = l.take i ++ [v] ++ l.drop i := fun h => by
    obtain ⟨e1, e2⟩ := zji hI h
    rw [zw2, e1, e2]
    simp
   rcases Zlg i l.length with hlt | hge
   · have hg := Zge hlt
     have hd := zze hlt
     have hwi := zzl hlt (show l.length ≤ 4294967296 by omega)
     generalize l[i] = x at hg
     have ka := Tryz.rAheadV v x
     have hnx := zzw hg
     cases hA : ahead' v x with
     | false =>
       rw [hA] at ka
       repeat' (first|(with_reducible first|refine vSq fun K hK=>?_|apply vRg|apply vBl|apply vSc|apply vIf|apply vSk|apply vEx|apply vRt|((first|apply gNt|apply gCs)<;>(intro h;try simp only[h]))|((first|apply hK|(clear hK K;first|apply hK|(clear hK K;first|apply hK|(clear hK K;apply hK))));clear hK K)|(refine todo ?_;simp +decide only[go_sem, hg, hd, hwi]))|refine zzd ka rfl rfl (fun _ => rfl) ?_|(refine zx1 Tryz.appRefV rfl (zw0 _) (zqk rfl) (by simp; omega) (by simp [aOf]) ?_))
       refine zzi hlt (zz8 hI hg (by rw [hA]; rfl)) (zzb ?_ ?_ ?_) <;> simp +decide only [go_sem, hnx]
       exact ⟨zzh (by simp [hOf]), zqb (by simp [aOf]) (by simp [aOf, upd])⟩
     | true =>
       rw [hA] at ka
       repeat' (first|(with_reducible first|refine vSq fun K hK=>?_|apply vRg|apply vBl|apply vSc|apply vIf|apply vSk|apply vEx|apply vRt|((first|apply gNt|apply gCs)<;>(intro h;try simp only[h]))|((first|apply hK|(clear hK K;first|apply hK|(clear hK K;first|apply hK|(clear hK K;apply hK))));clear hK K)|(refine todo ?_;simp +decide only[go_sem, hg, hd, ← List.map_drop, hq2]))|refine zzd ka rfl rfl (fun _ => rfl) ?_|(refine zx1 Tryz.appRefV rfl (zw0 _) (zqk rfl) (by simp; omega) (by simp [aOf]) ?_)|(refine zx1 Tryz.appRefV rfl (z0l (zw0 _) (zqk rfl)) (zw0 _) (by simp; omega) (by simp +decide only [go_sem]) ?_)|refine zvh Tryz.appRefV rfl (l := i) (h := l.length) (by simp [zz0, natOf?, intOf?]) (by simp [zz0]) (by omega) (by simp) (zw0 _) ?_)
       rw [hend (fun y hy => by rw [hg] at hy; cases hy; rw [hA]; rfl)]
       refine zzs rfl ?_
       simp +decide only [go_sem, List.append_assoc]
   · have hd := zzf hge
     repeat' (first|(with_reducible first|refine vSq fun K hK=>?_|apply vRg|apply vBl|apply vSc|apply vIf|apply vSk|apply vEx|apply vRt|((first|apply gNt|apply gCs)<;>(intro h;try simp only[h]))|((first|apply hK|(clear hK K;first|apply hK|(clear hK K;first|apply hK|(clear hK K;apply hK))));clear hK K)|(refine todo ?_;simp +decide only[go_sem, hd, ← List.map_drop, hq2]))|(refine zx1 Tryz.appRefV rfl (zw0 _) (zqk rfl) (by simp; omega) (by simp [aOf]) ?_)|(refine zx1 Tryz.appRefV rfl (z0l (zw0 _) (zqk rfl)) (zw0 _) (by simp; omega) (by simp +decide only [go_sem]) ?_)|refine zvh Tryz.appRefV rfl (l := i) (h := l.length) (by simp [zz0, natOf?, intOf?]) (by simp [zz0]) (by omega) (by simp) (zw0 _) ?_)
     rw [hend (fun y hy => by rw [List.getElem?_eq_none hge] at hy; cases hy)]
     refine zzs rfl ?_
     simp +decide only [go_sem, List.append_assoc]
theorem Tryz.rSetV (l : List Ver) (t : Int) (p : List Piece) (hn : l.length ≤ 131072) (hr : ∀ v ∈ l, v.p.row.length ≤ 1048576) (hok : z3j l) (hn' : p.length ≤ 131072) (hr' : ∀ x ∈ p, x.row.length ≤ 1048576) (hok' : z1g p) :
 zzr Tryz.prog 45 [pD (zxs l), pD (.lit (.int .i64 t)), pD (zzk p)] (.tup [.d (zxs (vSet l t p)), .d (.lit (.int .i64 (if z0o l t p = true then 0 else 1)))]) := by
 refine Tryz.pure (md := []) Tryz.func45 rfl Tryz.call45 (by kernel_rfl) (by rfl) (by exact Zle rfl) ?_
 have kr := Tryz.rRightV l (by omega) hr hok
 have kp := Tryz.rRight p (by omega) hr' hok'
 have kl := Tryz.rLastV l (by omega) hr hok
 have e : vSet l t p = if z0o l t p = true then z22 l t p else [] := rfl
 have e1 : z0o l t p = (((zqt l && right p) && !decide (t < z3q l)) && !decide (1099511627776 ≤ t)) := rfl
 cases hR : zqt l with
 | false =>
   rw [hR] at kr e1
   repeat' (first|(with_reducible first|refine vSq fun K hK=>?_|apply vRg|apply vBl|apply vSc|apply vIf|apply vSk|apply vEx|apply vRt|((first|apply gNt|apply gCs)<;>(intro h;try simp only[h]))|((first|apply hK|(clear hK K;first|apply hK|(clear hK K;first|apply hK|(clear hK K;apply hK))));clear hK K)|(refine todo ?_;simp +decide only[go_sem]))|refine zzd kr rfl rfl (fun _ => rfl) ?_)
   rw [e, show z0o l t p = false from e1]
   exact z1j none rfl (.inl rfl) (.inl rfl)
 | true =>
   rw [hR] at kr e1
   cases hP : right p with
   | false =>
     rw [hP] at kp e1
     repeat' (first|(with_reducible first|refine vSq fun K hK=>?_|apply vRg|apply vBl|apply vSc|apply vIf|apply vSk|apply vEx|apply vRt|((first|apply gNt|apply gCs)<;>(intro h;try simp only[h]))|((first|apply hK|(clear hK K;first|apply hK|(clear hK K;first|apply hK|(clear hK K;apply hK))));clear hK K)|(refine todo ?_;simp +decide only[go_sem]))|refine zzd kr rfl rfl (fun _ => rfl) ?_|refine zzd kp rfl rfl (fun _ => rfl) ?_)
     rw [e, show z0o l t p = false from e1]
     exact z1j none rfl (.inl rfl) (.inl rfl)
   | true =>
     rw [hP] at kp e1
     cases hL : decide (t < z3q l) with
     | true =>
       rw [hL] at e1
       repeat' (first|(with_reducible first|refine vSq fun K hK=>?_|apply vRg|apply vBl|apply vSc|apply vIf|apply vSk|apply vEx|apply vRt|((first|apply gNt|apply gCs)<;>(intro h;try simp only[h]))|((first|apply hK|(clear hK K;first|apply hK|(clear hK K;first|apply hK|(clear hK K;apply hK))));clear hK K)|(refine todo ?_;simp +decide only[go_sem, hL]))|refine zzd kr rfl rfl (fun _ => rfl) ?_|refine zzd kp rfl rfl (fun _ => rfl) ?_|refine zzd kl rfl rfl (fun _ => rfl) ?_)
       rw [e, show z0o l t p = false from e1]
       exact z1j none rfl (.inl rfl) (.inl rfl)
     | false =>
       rw [hL] at e1
       cases hM : decide (1099511627776 ≤ t) with
       | true =>
         rw [hM] at e1
         repeat' (first|(with_reducible first|refine vSq fun K hK=>?_|apply vRg|apply vBl|apply vSc|apply vIf|apply vSk|apply vEx|apply vRt|((first|apply gNt|apply gCs)<;>(intro h;try simp only[h]))|((first|apply hK|(clear hK K;first|apply hK|(clear hK K;first|apply hK|(clear hK K;apply hK))));clear hK K)|(refine todo ?_;simp +decide only[go_sem, hL, hM]))|refine zzd kr rfl rfl (fun _ => rfl) ?_|refine zzd kp rfl rfl (fun _ => rfl) ?_|refine zzd kl rfl rfl (fun _ => rfl) ?_)
         rw [e, show z0o l t p = false from e1]
         exact z1j none rfl (.inl rfl) (.inl rfl)
       | false =>
         rw [hM] at e1
         have e1 : z0o l t p = true := e1
         have hS := z9r.1 e1
         have hps := y4r hS
         rw [e, e1, if_pos rfl, if_pos rfl, ← hps]
         have hpos : ∀ v ∈ l, v.sl < v.sh := fun v hv => ((zq7.1 hR).1 v hv).1.2.1
         rw [← y4q hpos]
         have ka := Tryz.rAtV l 1099511627775 hn hr hok
         have hol : ∀ x ∈ vAt l 1099511627775, x.row.length ≤ 1048576 := fun x hx => by obtain ⟨v, hv, e⟩ := yji hx; rw [e]; exact hr v hv
         have hoo := yqr hok 1099511627775
         have hoL := z08 l 1099511627775
         have hdf := y0p (z6u l 1099511627775) hS.hp
         have hcl : (come l p).length ≤ p.length := zxr _ _
         have hgl : (gone l p).length ≤ l.length := Nat.le_trans (zxr _ _) hoL
         have hgr : ∀ x ∈ gone l p, x.row.length ≤ 1048576 := fun x hx => hol x (zvg.1 hx).1
         have kd := Tryz.rDiff (vAt l 1099511627775) p (by omega) hol hoo (by omega) hr' hok'
         rw [hdf] at kd
         change zzr _ _ _ (.tup [.d (zzk (gone l p)), .d (zzk (come l p))]) at kd
         generalize vAt l 1099511627775 = old at *
         generalize gone l p = goes at *
         generalize come l p = comes at *
         repeat' (first|(with_reducible first|refine vSq fun K hK=>?_|apply vRg|apply vBl|apply vSc|apply vIf|apply vSk|apply vEx|apply vRt|((first|apply gNt|apply gCs)<;>(intro h;try simp only[h]))|((first|apply hK|(clear hK K;first|apply hK|(clear hK K;first|apply hK|(clear hK K;apply hK))));clear hK K)|(refine todo ?_;simp +decide only[go_sem, hL, hM]))|refine zzd kr rfl rfl (fun _ => rfl) ?_|refine zzd kp rfl rfl (fun _ => rfl) ?_|refine zzd kl rfl rfl (fun _ => rfl) ?_|refine zzd ka rfl rfl (fun _ => rfl) ?_|refine zzd kd rfl rfl (fun _ => rfl) ?_)
         refine zzj l.length (fun _ => True) (fun i => frame [(0, pD (zxs l)), (1, pD (.lit (.int .i64 t))), (8, .c (.own (72, 0) ((z4j (l.take i) goes t).map Ver.enc))), (9, pD (zzk goes)), (10, pD (zzk comes)), (11, pD (.lit (.int .i64 i)))] [] [((72, 0), .co 5 (z4j (l.take i) goes t).length)]) Zti ?_ ?_
         · have e0 : z4j (l.take 0) goes t = [] := rfl
           rw [e0]
           refine zzb ?_ ?_ ?_ <;> simp +decide only [go_sem]
           exact zju rfl rfl
         · intro i hi hI
           rcases Zlg i l.length with hlt | hge
           · have hg := Zge hlt
             have hd := zze hlt
             have hwi := zzl hlt (show l.length ≤ 4294967296 by omega)
             generalize l[i] = x at hg
             have hnx := yv5 (q := goes) (t := t) hg
             have hkl := z35 (l.take i) goes t
             rw [Zlt] at hkl
             generalize z4j (l.take i) goes t = out at *
             have kam := Tryz.rAmongV goes x.p (by omega) hgr
             have hxp := hpos x (Zme hg)
             have hve : z11 goes x = ((x.sh == 1099511627776) && isIn goes x.p) := rfl
             have hcut : vCut goes t x = if z11 goes x = true then { x with sh := t } else x := rfl
             cases ho : (x.sh == 1099511627776) with
             | false =>
               rw [ho] at hve
               rw [show vCut goes t x = x by rw [hcut, show z11 goes x = false from hve]; rfl, if_pos hxp] at hnx
               have hsl : (x.sl < x.sh) = True := eq_true hxp
               repeat' (first|(with_reducible first|refine vSq fun K hK=>?_|apply vRg|apply vBl|apply vSc|apply vIf|apply vSk|apply vEx|apply vRt|((first|apply gNt|apply gCs)<;>(intro h;try simp only[h]))|((first|apply hK|(clear hK K;first|apply hK|(clear hK K;first|apply hK|(clear hK K;apply hK))));clear hK K)|(refine todo ?_;simp +decide only[go_sem, hg, hd, hwi, ho, hsl]))|(refine zx1 Tryz.appRefV rfl (zw0 _) (zqk rfl) (by simp; omega) (by simp; rfl) ?_))
               refine zzi hlt Zti (zzb ?_ ?_ ?_) <;> simp +decide only [go_sem, hnx]
               exact zqb (by simp [aOf]) (by simp [aOf, upd])
             | true =>
               rw [ho] at hve
               cases hin : isIn goes x.p with
               | false =>
                 rw [hin] at hve kam
                 rw [show vCut goes t x = x by rw [hcut, show z11 goes x = false from hve]; rfl, if_pos hxp] at hnx
                 have hsl : (x.sl < x.sh) = True := eq_true hxp
                 repeat' (first|(with_reducible first|refine vSq fun K hK=>?_|apply vRg|apply vBl|apply vSc|apply vIf|apply vSk|apply vEx|apply vRt|((first|apply gNt|apply gCs)<;>(intro h;try simp only[h]))|((first|apply hK|(clear hK K;first|apply hK|(clear hK K;first|apply hK|(clear hK K;apply hK))));clear hK K)|(refine todo ?_;simp +decide only[go_sem, hg, hd, hwi, ho, hsl]))|refine zzd kam rfl rfl (fun _ => rfl) ?_|(refine zx1 Tryz.appRefV rfl (zw0 _) (zqk rfl) (by simp; omega) (by simp; rfl) ?_))
                 refine zzi hlt Zti (zzb ?_ ?_ ?_) <;> simp +decide only [go_sem, hnx]
                 exact zqb (by simp [aOf]) (by simp [aOf, upd])
               | true =>
                 rw [hin] at hve kam
                 rw [show vCut goes t x = { x with sh := t } by rw [hcut, show z11 goes x = true from hve]; rfl] at hnx
                 rcases Int.lt_or_le x.sl t with hst | hst
                 · have hsl : (x.sl < t) = True := eq_true hst
                   rw [if_pos hst] at hnx
                   repeat' (first|(with_reducible first|refine vSq fun K hK=>?_|apply vRg|apply vBl|apply vSc|apply vIf|apply vSk|apply vEx|apply vRt|((first|apply gNt|apply gCs)<;>(intro h;try simp only[h]))|((first|apply hK|(clear hK K;first|apply hK|(clear hK K;first|apply hK|(clear hK K;apply hK))));clear hK K)|(refine todo ?_;simp +decide only[go_sem, hg, hd, hwi, ho, hsl]))|refine zzd kam rfl rfl (fun _ => rfl) ?_|(refine zx1 Tryz.appRefV rfl (zw0 _) (zqk rfl) (by simp; omega) (by simp; rfl) ?_))
                   refine zzi hlt Zti (zzb ?_ ?_ ?_) <;> simp +decide only [go_sem, hnx]
                   exact zqb (by simp [aOf]) (by simp [aOf, upd])
                 · have hsl : (x.sl < t) = False := eq_false (by omega)
                   rw [if_neg (by show ¬ x.sl < t; omega), List.append_nil] at hnx
                   repeat' (first|(with_reducible first|refine vSq fun K hK=>?_|apply vRg|apply vBl|apply vSc|apply vIf|apply vSk|apply vEx|apply vRt|((first|apply gNt|apply gCs)<;>(intro h;try simp only[h]))|((first|apply hK|(clear hK K;first|apply hK|(clear hK K;first|apply hK|(clear hK K;apply hK))));clear hK K)|(refine todo ?_;simp +decide only[go_sem, hg, hd, hwi, ho, hsl]))|refine zzd kam rfl rfl (fun _ => rfl) ?_)
                   refine zzi hlt Zti (zzb ?_ ?_ ?_) <;> simp +decide only [go_sem, hnx]
                   exact zqb (by simp [aOf]) (by simp [aOf])
           · have hd := zzf hge
             have hkl := z35 l goes t
             rw [Ztl hge]
             generalize z4j l goes t = kept at *
             repeat' (first|(with_reducible first|refine vSq fun K hK=>?_|apply vRg|apply vBl|apply vSc|apply vIf|apply vSk|apply vEx|apply vRt|((first|apply gNt|apply gCs)<;>(intro h;try simp only[h]))|((first|apply hK|(clear hK K;first|apply hK|(clear hK K;first|apply hK|(clear hK K;apply hK))));clear hK K)|(refine todo ?_;simp +decide only[go_sem, hd])))
             refine zzj comes.length (fun _ => True) (fun j => frame [(1, pD (.lit (.int .i64 t))), (8, pD (zxs (z1x t kept (comes.take j)))), (10, pD (zzk comes)), (13, pD (.lit (.int .i64 j)))] [] []) Zti ?_ ?_
             · have e0 : z1x t kept (comes.take 0) = kept := rfl
               rw [e0]
               refine zzb ?_ ?_ ?_ <;> simp +decide only [go_sem]
             · intro j hj hJ
               rcases Zlg j comes.length with hjt | hjge
               · have hgj := Zge hjt
                 have hdj := zze hjt
                 have hwj := zzl hjt (show comes.length ≤ 4294967296 by omega)
                 generalize comes[j] = c at hgj
                 have hnx := yv6 (t := t) (out := kept) hgj
                 have hol : (z1x t kept (comes.take j)).length ≤ 262144 := by rw [z37, Zlt]; omega
                 generalize z1x t kept (comes.take j) = out at *
                 have kpu := Tryz.rPutV out (z21 t c) (by omega)
                 repeat' (first|(with_reducible first|refine vSq fun K hK=>?_|apply vRg|apply vBl|apply vSc|apply vIf|apply vSk|apply vEx|apply vRt|((first|apply gNt|apply gCs)<;>(intro h;try simp only[h]))|((first|apply hK|(clear hK K;first|apply hK|(clear hK K;first|apply hK|(clear hK K;apply hK))));clear hK K)|(refine todo ?_;simp +decide only[go_sem, hgj, hdj, hwj]))|refine zzd kpu rfl rfl (fun _ => rfl) ?_)
                 refine zzi hjt Zti (zzb ?_ ?_ ?_) <;> simp +decide only [go_sem, hnx]
               · have hdj := zzf hjge
                 rw [Ztl hjge]
                 repeat' (first|(with_reducible first|refine vSq fun K hK=>?_|apply vRg|apply vBl|apply vSc|apply vIf|apply vSk|apply vEx|apply vRt|((first|apply gNt|apply gCs)<;>(intro h;try simp only[h]))|((first|apply hK|(clear hK K;first|apply hK|(clear hK K;first|apply hK|(clear hK K;apply hK))));clear hK K)|(refine todo ?_;simp +decide only[go_sem, hdj])))
                 exact z1j none rfl (.inl rfl) (.inl rfl)
structure Col where
 name : List UInt8
 kind : Int
 need : Bool
structure Sch where
 name : List UInt8
 cols : List Col
 keys : Int
structure Chg where
 op : Int
 tab : List UInt8
 row : Row
 lo : Int
 hi : Int
 d : Sch
structure Txn where
 seq : Int
 time : Int
 chs : List Chg
def Col.enc (c : Col) : List D := [dS c.name, dI c.kind, .lit (.bool c.need)]
def zwh (l : List Col) : D := .sl (l.map Col.enc)
def Sch.enc (s : Sch) : List D := [dS s.name, zwh s.cols, dI s.keys]
def Chg.enc (c : Chg) : List D := [dI c.op, dS c.tab, zz4 c.row, dI c.lo, dI c.hi, dS c.d.name, zwh c.d.cols, dI c.d.keys]
def z1p (l : List Chg) : D := .sl (l.map Chg.enc)
def Txn.enc (t : Txn) : List D := [dI t.seq, dI t.time, z1p t.chs]
attribute [go_sem] Col.enc zwh Sch.enc Chg.enc z1p Txn.enc zk3
theorem y52 (l : List Col) : Szd 3 (l.map Col.enc) := fun e he => by
 obtain ⟨p, _, rfl⟩ := List.mem_map.1 he
 rfl
def z4v (c : UInt8) : Bool := decide (97 ≤ (c.toNat : Int)) && decide ((c.toNat : Int) ≤ 122) || ((c.toNat : Int) == 95)
def nmAt (p : UInt8 × Nat) : Bool := z4v p.1 || !((p.2 : Int) == 0) && !decide ((p.1.toNat : Int) < 48) && !decide (57 < (p.1.toNat : Int))
def zvn (l : List UInt8) : Bool := l.zipIdx.all nmAt && (decide (1 ≤ (l.length : Int)) && decide ((l.length : Int) ≤ 32))
theorem Tryz.rName (l : List UInt8) (hn : l.length ≤ 4294967296) : zzr Tryz.prog 112 [pD (dS l)] (.one (dB (zvn l))) := by
 refine Tryz.pure (md := []) Tryz.func112 rfl Tryz.call112 (by kernel_rfl) (by rfl) (by exact Zle rfl) ?_
 repeat' (first|(with_reducible first|refine vSq fun K hK=>?_|apply vRg|apply vBl|apply vSc|apply vIf|apply vSk|apply vEx|apply vRt|((first|apply gNt|apply gCs)<;>(intro h;try simp only[h]))|((first|apply hK|(clear hK K;first|apply hK|(clear hK K;first|apply hK|(clear hK K;apply hK))));clear hK K)|(refine todo ?_;simp +decide only[go_sem])))
 refine zzj l.length (fun i => (l.zipIdx.take i).all nmAt = true) (fun i => frame [(0, pD (dS l)), (3, pD (.lit (.int .i64 i)))] [] []) rfl ?_ ?_
 · refine zzb ?_ ?_ ?_ <;> simp +decide only [go_sem]
 · intro i hi hI
   rcases Zlg i l.length with hlt | hge
   · have hg := Zge hlt
     have hd := zze hlt
     have hw := zzl hlt hn
     generalize l[i] = c at hg
     have hz : l.zipIdx[i]? = some (c, i) := by rw [List.getElem?_zipIdx, hg]; simp
     repeat' (first|(with_reducible first|refine vSq fun K hK=>?_|apply vRg|apply vBl|apply vSc|apply vIf|apply vSk|apply vEx|apply vRt|((first|apply gNt|apply gCs)<;>(intro h;try simp only[h]))|((first|apply hK|(clear hK K;first|apply hK|(clear hK K;first|apply hK|(clear hK K;apply hK))));clear hK K)|(refine todo ?_;simp +decide only[go_sem, hg, hd, hw])))
     all_goals first
      | (have e : nmAt (c, i) = true := by simp +decide only [go_sem, nmAt, z4v, *]
         refine zzi hlt (zz8 hI hz e) (zzb ?_ ?_ ?_) <;> simp +decide only [go_sem])
      | (have e : nmAt (c, i) = false := by simp +decide only [go_sem, nmAt, z4v, *]
         refine zzs rfl ?_
         simp +decide only [go_sem, zvn, zqr hz e])
   · have hd := zzf hge
     rw [Ztl (by rw [List.length_zipIdx]; exact hge)] at hI
     repeat' (first|(with_reducible first|refine vSq fun K hK=>?_|apply vRg|apply vBl|apply vSc|apply vIf|apply vSk|apply vEx|apply vRt|((first|apply gNt|apply gCs)<;>(intro h;try simp only[h]))|((first|apply hK|(clear hK K;first|apply hK|(clear hK K;first|apply hK|(clear hK K;apply hK))));clear hK K)|(refine todo ?_;simp +decide only[go_sem, hd])))
     all_goals (refine zzs rfl ?_; simp +decide only [go_sem, zvn, *])
end Go.Proofs
