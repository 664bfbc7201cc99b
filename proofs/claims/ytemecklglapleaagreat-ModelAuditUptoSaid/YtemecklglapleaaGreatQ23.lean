/-
  Parts of the proof, laid together: PwRb, PwRc, PwRd, PwRe, PwTa, PwTb, PwTc, PwTd, PwTe, PwTf, PwTg, PwTh, PwTi, PwTj, PwTk, PwUa.
-/
import Derived.Test.YtemecklglapleaaGreatQ22
import Derived.Test.YtemecklglapleaaGreatQ21

set_option maxRecDepth 30000
set_option maxHeartbeats 16000000
namespace Go.Proofs
open Go.PW
theorem Tryz.appRef : AppT Tryz.prog 105 137 3 40 := ⟨Tryz.underlying105, Tryz.cl137, Tryz.by137, Tryz.zo137, by decide, by decide⟩
def z1g (ps : List Piece) : Prop := ∀ p ∈ ps, Row.ok' p.row
theorem Tryz.rRight (ps : List Piece) (hn : ps.length ≤ 1048576) (hr : ∀ p ∈ ps, p.row.length ≤ 1048576) (hok : z1g ps) : zzr Tryz.prog 72 [pD (zzk ps)] (.one (dB (right ps))) := by
 refine Tryz.pure (md := []) Tryz.func72 rfl Tryz.call72 (by kernel_rfl) (by rfl) (by exact Zle rfl) ?_
 repeat' (first|(with_reducible first|refine vSq fun K hK=>?_|apply vRg|apply vBl|apply vSc|apply vIf|apply vSk|apply vEx|apply vRt|((first|apply gNt|apply gCs)<;>(intro h;try simp only[h]))|((first|apply hK|(clear hK K;first|apply hK|(clear hK K;first|apply hK|(clear hK K;apply hK))));clear hK K)|(refine todo ?_;simp +decide only[go_sem])))
 refine zzj ps.length (fun i => right (ps.take i) = true) (fun i => frame [(0, pD (zzk ps)), (3, pD (.lit (.int .i64 i)))] [] []) rfl ?_ ?_
 · refine zzb ?_ ?_ ?_ <;> simp +decide only [go_sem]
 · intro i hi hI
   rcases Zlg i ps.length with hlt | hge
   · have hg := Zge hlt
     have hd := zze hlt
     have hw := zzl hlt (show ps.length ≤ 4294967296 by omega)
     generalize ps[i] = x at hg
     have hx : x.row.length ≤ 4294967296 := Nat.le_trans (hr x (Zme hg)) (by decide)
     have hxo := hok x (Zme hg)
     have hnt := yqo hg
     have hrn := z76 hg hI
     rcases Nat.eq_zero_or_pos i with hi0 | hi0
     · have hl0 : zx5 0 (ps.take i) = 0 := by rw [hi0]; rfl
       rw [hl0] at hnt hrn
       have hlo : Span.right x.lo x.hi = true → decide (x.lo < 0) = false := fun h => by rw [zzo] at h; simp; omega
       have hgt : ((0 : Int) < (i : Int)) = False := eq_false (by omega)
       repeat' (first|(with_reducible first|refine vSq fun K hK=>?_|apply vRg|apply vBl|apply vSc|apply vIf|apply vSk|apply vEx|apply vRt|((first|apply gNt|apply gCs)<;>(intro h;try simp only[h]))|((first|apply hK|(clear hK K;first|apply hK|(clear hK K;first|apply hK|(clear hK K;apply hK))));clear hK K)|(refine todo ?_;simp +decide only[go_sem, hg, hd, hw, hgt]))|refine zzd (Tryz.rSpanRight x.lo x.hi) rfl rfl (fun _ => rfl) ?_|refine zzd (Tryz.rRowRight x.row hx hxo) rfl rfl (fun _ => rfl) ?_)
       all_goals first
        | (have hp : zqn 0 x = true := by unfold zqn; simp [*]
           refine zzi hlt (hrn hp) (zzb ?_ ?_ ?_) <;> simp +decide only [go_sem])
        | (have hp : zqn 0 x = false := by unfold zqn; simp [*]
           refine zzs rfl ?_
           simp +decide only [go_sem, hnt hp])
     · have hgy := Zge (show i - 1 < ps.length by omega)
       generalize ps[i - 1] = y at hgy
       have hl0 : zx5 0 (ps.take i) = y.hi := by
        have := z30 hgy
        rwa [show i - 1 + 1 = i by omega] at this
       rw [hl0] at hnt hrn
       have hgt : ((0 : Int) < (i : Int)) = True := eq_true (by omega)
       have hw1 : IntKind.i64.wrap ((i : Int) - 1) = ((i - 1 : Nat) : Int) := by rw [Go.IntWalk.i64_in _ (by omega)]; omega
       repeat' (first|(with_reducible first|refine vSq fun K hK=>?_|apply vRg|apply vBl|apply vSc|apply vIf|apply vSk|apply vEx|apply vRt|((first|apply gNt|apply gCs)<;>(intro h;try simp only[h]))|((first|apply hK|(clear hK K;first|apply hK|(clear hK K;first|apply hK|(clear hK K;apply hK))));clear hK K)|(refine todo ?_;simp +decide only[go_sem, hg, hd, hw, hgt, hw1, hgy]))|refine zzd (Tryz.rSpanRight x.lo x.hi) rfl rfl (fun _ => rfl) ?_|refine zzd (Tryz.rRowRight x.row hx hxo) rfl rfl (fun _ => rfl) ?_)
       all_goals first
        | (have hp : zqn y.hi x = true := by unfold zqn; simp [*]
           refine zzi hlt (hrn hp) (zzb ?_ ?_ ?_) <;> simp +decide only [go_sem])
        | (have hp : zqn y.hi x = false := by unfold zqn; simp [*]
           refine zzs rfl ?_
           simp +decide only [go_sem, hnt hp])
   · have hd := zzf hge
     rw [Ztl hge] at hI
     repeat' (first|(with_reducible first|refine vSq fun K hK=>?_|apply vRg|apply vBl|apply vSc|apply vIf|apply vSk|apply vEx|apply vRt|((first|apply gNt|apply gCs)<;>(intro h;try simp only[h]))|((first|apply hK|(clear hK K;first|apply hK|(clear hK K;first|apply hK|(clear hK K;apply hK))));clear hK K)|(refine todo ?_;simp +decide only[go_sem, hd])))
     refine zzs rfl ?_
     simp +decide only [go_sem, hI]
theorem zkf (x y : Piece) : zqg x y = zqg y x := by
 rw [Bool.eq_iff_iff, zjt, zjt]
 exact eq_comm
theorem Tryz.rAmong (q : List Piece) (x : Piece) (hn : q.length ≤ 1048576) (hr : ∀ p ∈ q, p.row.length ≤ 1048576) : zzr Tryz.prog 103 [pD (zzk q), pA x.enc] (.one (dB (isIn q x))) := by
 refine Tryz.pure (md := []) Tryz.func103 rfl Tryz.call103 (by kernel_rfl) (by rfl) (by exact Zle rfl) ?_
 repeat' (first|(with_reducible first|refine vSq fun K hK=>?_|apply vRg|apply vBl|apply vSc|apply vIf|apply vSk|apply vEx|apply vRt|((first|apply gNt|apply gCs)<;>(intro h;try simp only[h]))|((first|apply hK|(clear hK K;first|apply hK|(clear hK K;first|apply hK|(clear hK K;apply hK))));clear hK K)|(refine todo ?_;simp +decide only[go_sem])))
 refine zzj q.length (fun i => isIn (q.take i) x = false) (fun i => frame [(0, pD (zzk q)), (3, .c (.ptr 3 0)), (5, pD (.lit (.int .i64 i)))] [(3, [.d (.lit (.int .i64 x.lo)), .d (.lit (.int .i64 x.hi)), .d (zz4 x.row)])] []) rfl ?_ ?_
 · refine zzb ?_ ?_ ?_ <;> simp +decide only [go_sem]
   exact zzh (by simp [hOf])
 · intro i hi hI
   rcases Zlg i q.length with hlt | hge
   · have hg := Zge hlt
     have hd := zze hlt
     have hw := zzl hlt (show q.length ≤ 4294967296 by omega)
     generalize q[i] = y at hg
     have hy := hr y (Zme hg)
     repeat' (first|(with_reducible first|refine vSq fun K hK=>?_|apply vRg|apply vBl|apply vSc|apply vIf|apply vSk|apply vEx|apply vRt|((first|apply gNt|apply gCs)<;>(intro h;try simp only[h]))|((first|apply hK|(clear hK K;first|apply hK|(clear hK K;first|apply hK|(clear hK K;apply hK))));clear hK K)|(refine todo ?_;simp +decide only[go_sem, hg, hd, hw]))|refine zzd (Tryz.kRows y.row x.row (by omega)) rfl rfl (fun _ => rfl) ?_)
     all_goals first
      | (have hs : zqg x y = true := by rw [zkf]; unfold zqg; simp [*]
         refine zzs rfl ?_
         simp +decide only [go_sem, z7w hg hs])
      | (have hs : zqg x y = false := by rw [zkf]; unfold zqg; simp [*]
         refine zzi hlt (yz1 hg hI hs) (zzb ?_ ?_ ?_) <;> simp +decide only [go_sem]
         exact zzh (by simp [hOf]))
   · have hd := zzf hge
     rw [Ztl hge] at hI
     repeat' (first|(with_reducible first|refine vSq fun K hK=>?_|apply vRg|apply vBl|apply vSc|apply vIf|apply vSk|apply vEx|apply vRt|((first|apply gNt|apply gCs)<;>(intro h;try simp only[h]))|((first|apply hK|(clear hK K;first|apply hK|(clear hK K;first|apply hK|(clear hK K;apply hK))));clear hK K)|(refine todo ?_;simp +decide only[go_sem, hd])))
     refine zzs rfl ?_
     simp +decide only [go_sem, hI]
theorem Tryz.rDiff (a b : List Piece) (hn : a.length ≤ 1048576) (hr : ∀ p ∈ a, p.row.length ≤ 1048576) (hok : z1g a) (hn' : b.length ≤ 1048576) (hr' : ∀ p ∈ b, p.row.length ≤ 1048576) (hok' : z1g b) :
 zzr Tryz.prog 74 [pD (zzk a), pD (zzk b)] (.tup [.d (zzk (diff a b).1), .d (zzk (diff a b).2)]) := by
 refine Tryz.pure (md := []) Tryz.func74 rfl Tryz.call74 (by kernel_rfl) (by rfl) (by exact Zle rfl) ?_
 repeat' (first|(with_reducible first|refine vSq fun K hK=>?_|apply vRg|apply vBl|apply vSc|apply vIf|apply vSk|apply vEx|apply vRt|((first|apply gNt|apply gCs)<;>(intro h;try simp only[h]))|((first|apply hK|(clear hK K;first|apply hK|(clear hK K;first|apply hK|(clear hK K;apply hK))));clear hK K)|(refine todo ?_;simp +decide only[go_sem]))|refine zzd (Tryz.rRight a hn hr hok) rfl rfl (fun _ => rfl) ?_|refine zzd (Tryz.rRight b hn' hr' hok') rfl rfl (fun _ => rfl) ?_)
 · have hD : diff a b = (without a b, without b a) := by unfold diff; simp [*]
   rw [hD] at hK ⊢
   refine zzj a.length (fun _ => True) (fun i => frame [(0, pD (zzk a)), (1, pD (zzk b)), (8, pD (.lit (.int .i64 i))), (7, .c (.full [])), (6, .c (.own (39, 0) ((without (a.take i) b).map Piece.enc)))] [] [((39, 0), .co 3 (without (a.take i) b).length)]) Zti ?_ ?_
   · refine zzb ?_ ?_ ?_ <;> simp +decide only [go_sem, without, List.filter_nil]
     exact zju rfl rfl
   · intro i hi hI
     rcases Zlg i a.length with hlt | hge
     · have hg := Zge hlt
       have hd := zze hlt
       have hw := zzl hlt (show a.length ≤ 4294967296 by omega)
       generalize a[i] = x at hg
       have hl : (without (a.take i) b).length ≤ i := Nat.le_trans (zxr _ _) (by rw [Zlt]; omega)
       have hnx := z4d (q := b) hg
       repeat' (first|(with_reducible first|refine vSq fun K hK=>?_|apply vRg|apply vBl|apply vSc|apply vIf|apply vSk|apply vEx|apply vRt|((first|apply gNt|apply gCs)<;>(intro h;try simp only[h]))|((first|apply hK|(clear hK K;first|apply hK|(clear hK K;first|apply hK|(clear hK K;apply hK))));clear hK K)|(refine todo ?_;simp +decide only[go_sem, hg, hd, hw]))|refine zzd (Tryz.rAmong b x hn' hr') rfl rfl (fun _ => rfl) ?_|(refine zx1 Tryz.appRef rfl (zqm _) (zqk rfl) (by simp; omega) (by simp +decide only [go_sem]) ?_))
       all_goals
        simp only [h, if_true, Bool.false_eq_true, if_false, List.append_nil] at hnx
        refine zzi hlt Zti (zzb ?_ ?_ ?_) <;> simp +decide only [go_sem, hnx]
        exact zqb (by simp [aOf]) rfl
     · have hd := zzf hge
       rw [Ztl hge]
       repeat' (first|(with_reducible first|refine vSq fun K hK=>?_|apply vRg|apply vBl|apply vSc|apply vIf|apply vSk|apply vEx|apply vRt|((first|apply gNt|apply gCs)<;>(intro h;try simp only[h]))|((first|apply hK|(clear hK K;first|apply hK|(clear hK K;first|apply hK|(clear hK K;apply hK))));clear hK K)|(refine todo ?_;simp +decide only[go_sem, hd])))
       refine zzj b.length (fun _ => True) (fun j => frame [(0, pD (zzk a)), (1, pD (zzk b)), (9, pD (.lit (.int .i64 j))), (6, pD (zzk (without a b))), (7, .c (.own (59, 0) ((without (b.take j) a).map Piece.enc)))] [] [((59, 0), .co 3 (without (b.take j) a).length)]) Zti ?_ ?_
       · refine zzb ?_ ?_ ?_ <;> simp +decide only [go_sem, show without [] a = [] from rfl]
         exact zju rfl rfl
       · intro j hj hJ
         rcases Zlg j b.length with hlt' | hge'
         · have hg := Zge hlt'
           have hd := zze hlt'
           have hw := zzl hlt' (show b.length ≤ 4294967296 by omega)
           generalize b[j] = x at hg
           have hl : (without (b.take j) a).length ≤ j := Nat.le_trans (zxr _ _) (by rw [Zlt]; omega)
           have hnx := z4d (q := a) hg
           repeat' (first|(with_reducible first|refine vSq fun K hK=>?_|apply vRg|apply vBl|apply vSc|apply vIf|apply vSk|apply vEx|apply vRt|((first|apply gNt|apply gCs)<;>(intro h;try simp only[h]))|((first|apply hK|(clear hK K;first|apply hK|(clear hK K;first|apply hK|(clear hK K;apply hK))));clear hK K)|(refine todo ?_;simp +decide only[go_sem, hg, hd, hw]))|refine zzd (Tryz.rAmong a x hn hr) rfl rfl (fun _ => rfl) ?_|(refine zx1 Tryz.appRef rfl (zqm _) (zqk rfl) (by simp; omega) (by simp +decide only [go_sem]) ?_))
           all_goals
            simp only [h, if_true, Bool.false_eq_true, if_false, List.append_nil] at hnx
            refine zzi hlt' Zti (zzb ?_ ?_ ?_) <;> simp +decide only [go_sem, hnx]
            exact zqb (by simp [aOf]) rfl
         · have hd := zzf hge'
           rw [Ztl hge']
           repeat' (first|(with_reducible first|refine vSq fun K hK=>?_|apply vRg|apply vBl|apply vSc|apply vIf|apply vSk|apply vEx|apply vRt|((first|apply gNt|apply gCs)<;>(intro h;try simp only[h]))|((first|apply hK|(clear hK K;first|apply hK|(clear hK K;first|apply hK|(clear hK K;apply hK))));clear hK K)|(refine todo ?_;simp +decide only[go_sem, hd])))
           exact z1j none rfl (.inl rfl) (.inl rfl)
 all_goals
  have hD : diff a b = ([], []) := by unfold diff; simp [*]
  rw [hD]
  exact z1j none rfl (.inl rfl) (.inl rfl)
theorem y3g {a b m : Sp} (h : meet a b = some m) : cut a b = (if a.1 < m.1 then [(a.1, m.1)] else []) ++ (if m.2 < a.2 then [(m.2, a.2)] else []) := by
 have ha : Span.right a.1 a.2 = true := by
  cases e : Span.right a.1 a.2 with
  | true => rfl
  | false => rw [z9a (.inl e)] at h; cases h
 have hb : Span.right b.1 b.2 = true := by
  cases e : Span.right b.1 b.2 with
  | true => rfl
  | false => rw [z9a (.inr e)] at h; cases h
 have h' := h
 rw [yxw ha hb] at h'
 rw [zzo] at ha hb
 split at h'
 · cases h'
 · rename_i hm
   cases h'
   unfold cut
   rw [h]
   simp only [rights, List.filter_cons, List.filter_nil]
   unfold iMin iMax at hm
   have e1 : Sp.right (a.1, iMax a.1 b.1) = decide (a.1 < iMax a.1 b.1) := by
    rw [Bool.eq_iff_iff, Sp.right, zzo, decide_eq_true_eq]; unfold iMax; split <;> omega
   have e2 : Sp.right (iMin a.2 b.2, a.2) = decide (iMin a.2 b.2 < a.2) := by
    rw [Bool.eq_iff_iff, Sp.right, zzo, decide_eq_true_eq]; unfold iMin; split <;> omega
   simp only [e1, e2, decide_eq_true_eq]
   split <;> split <;> rfl
theorem y3f {a b : Sp} (h : meet a b = none) : cut a b = if Span.right a.1 a.2 = true then [a] else [] := by
 unfold cut
 rw [h]
 cases hr : Span.right a.1 a.2 <;> simp [rights, Sp.right, hr]
theorem Tryz.rCut (a b : Sp) : zzr Tryz.prog 100 [pA a.enc, pA b.enc] (.one (.d (.sl ((cut a b).map Sp.enc)))) := by
 refine Tryz.pure (md := []) Tryz.func100 rfl Tryz.call100 (by kernel_rfl) (by rfl) (by exact Zle rfl) ?_
 have ha : a.enc = zqj a.1 a.2 := rfl
 have hb : b.enc = zqj b.1 b.2 := rfl
 have hM := Tryz.rMeet a b
 cases hm : meet a b with
 | none =>
   rw [hm] at hM
   rw [y3f hm]
   have kr := Tryz.rSpanRight a.1 a.2
   cases hr : Span.right a.1 a.2 with
   | true =>
     rw [hr] at kr
     repeat' (first|(with_reducible first|refine vSq fun K hK=>?_|apply vRg|apply vBl|apply vSc|apply vIf|apply vSk|apply vEx|apply vRt|((first|apply gNt|apply gCs)<;>(intro h;try simp only[h]))|((first|apply hK|(clear hK K;first|apply hK|(clear hK K;first|apply hK|(clear hK K;apply hK))));clear hK K)|(refine todo ?_;simp +decide only[go_sem, ha, hb, zvd]))|refine zzd hM rfl rfl (fun _ => rfl) ?_|refine zzd kr rfl rfl (fun _ => rfl) ?_)
     exact zzs rfl rfl
   | false =>
     rw [hr] at kr
     repeat' (first|(with_reducible first|refine vSq fun K hK=>?_|apply vRg|apply vBl|apply vSc|apply vIf|apply vSk|apply vEx|apply vRt|((first|apply gNt|apply gCs)<;>(intro h;try simp only[h]))|((first|apply hK|(clear hK K;first|apply hK|(clear hK K;first|apply hK|(clear hK K;apply hK))));clear hK K)|(refine todo ?_;simp +decide only[go_sem, ha, hb, zvd]))|refine zzd hM rfl rfl (fun _ => rfl) ?_|refine zzd kr rfl rfl (fun _ => rfl) ?_)
     exact zzs rfl rfl
 | some m =>
   rw [hm] at hM
   rw [y3g hm]
   have hme : m.enc = zqj m.1 m.2 := rfl
   by_cases h1 : a.1 < m.1 <;> by_cases h2 : m.2 < a.2
   all_goals
    simp only [h1, h2, if_true, if_false]
    repeat' (first|(with_reducible first|refine vSq fun K hK=>?_|apply vRg|apply vBl|apply vSc|apply vIf|apply vSk|apply vEx|apply vRt|((first|apply gNt|apply gCs)<;>(intro h;try simp only[h]))|((first|apply hK|(clear hK K;first|apply hK|(clear hK K;first|apply hK|(clear hK K;apply hK))));clear hK K)|(refine todo ?_;simp +decide only[go_sem, ha, hb, hme, h1, h2, zvd]))|refine zzd hM rfl rfl (fun _ => rfl) ?_|refine zx2 Tryz.appSpans rfl rfl zvw (zqk rfl) (by simp) rfl ?_|refine zx1 Tryz.appSpans rfl (zqk rfl) (zqk rfl) (by simp) (by simp +decide only [go_sem]) ?_)
    exact zzs rfl rfl
theorem Tryz.rDrop (ps : List Piece) (s : Sp) (hn : ps.length ≤ 262144) (hr : ∀ p ∈ ps, p.row.length ≤ 1048576) (hok : z1g ps) : zzr Tryz.prog 70 [pD (zzk ps), pA s.enc] (.one (.d (zzk (drop ps s)))) := by
 refine Tryz.pure (md := []) Tryz.func70 rfl Tryz.call70 (by kernel_rfl) (by rfl) (by exact Zle rfl) ?_
 have hs : s.enc = zqj s.1 s.2 := rfl
 have hrt := Tryz.rRight ps (by omega) hr hok
 repeat' (first|(with_reducible first|refine vSq fun K hK=>?_|apply vRg|apply vBl|apply vSc|apply vIf|apply vSk|apply vEx|apply vRt|((first|apply gNt|apply gCs)<;>(intro h;try simp only[h]))|((first|apply hK|(clear hK K;first|apply hK|(clear hK K;first|apply hK|(clear hK K;apply hK))));clear hK K)|(refine todo ?_;simp +decide only[go_sem, hs]))|refine zzd hrt rfl rfl (fun _ => rfl) ?_|refine zzd (Tryz.rSpanRight s.1 s.2) rfl rfl (fun _ => rfl) ?_)
 · have hD : drop ps s = rests s ps := by unfold drop; simp [*]
   rw [hD] at hK ⊢
   refine zzj ps.length (fun _ => True) (fun i => frame [(0, pD (zzk ps)), (6, pD (.lit (.int .i64 i))), (5, .c (.own (49, 0) ((rests s (ps.take i)).map Piece.enc))), (3, .c (.ptr 3 0))]
    [(3, [.d (.lit (.int .i64 s.1)), .d (.lit (.int .i64 s.2))])] [((49, 0), .co 3 (rests s (ps.take i)).length)]) Zti ?_ ?_
   · refine zzb ?_ ?_ ?_ <;> simp +decide only [go_sem, rests, List.flatMap_nil]
     exact ⟨zju rfl rfl, zzh (by simp [hOf])⟩
   · intro i hi hI
     rcases Zlg i ps.length with hlt | hge
     · have hg := Zge hlt
       have hd := zze hlt
       have hw := zzl hlt (show ps.length ≤ 4294967296 by omega)
       generalize ps[i] = x at hg
       have hnx := z73 (s := s) hg
       have hl : (rests s (ps.take i)).length ≤ 2 * i := Nat.le_trans (zvp _ _) (by rw [Zlt]; omega)
       have hcut := Tryz.rCut (x.lo, x.hi) s
       have hxe : Sp.enc (x.lo, x.hi) = zqj x.lo x.hi := rfl
       have hcl := z3b (x.lo, x.hi) s
       repeat' (first|(with_reducible first|refine vSq fun K hK=>?_|apply vRg|apply vBl|apply vSc|apply vIf|apply vSk|apply vEx|apply vRt|((first|apply gNt|apply gCs)<;>(intro h;try simp only[h]))|((first|apply hK|(clear hK K;first|apply hK|(clear hK K;first|apply hK|(clear hK K;apply hK))));clear hK K)|(refine todo ?_;simp +decide only[go_sem, hg, hd]))|refine zzd hcut rfl rfl (fun _ => rfl) ?_)
       have hL : zwm s x = (cut (x.lo, x.hi) s).map fun m => ⟨m.1, m.2, x.row⟩ := rfl
       generalize cut (x.lo, x.hi) s = L at hcut hcl hL
       refine zzj L.length (fun _ => True) (fun j => frame [(7, pD (.sl (L.map Sp.enc))), (8, pD (.lit (.int .i64 j))), (0, pD (zzk ps)), (6, pD (.lit (.int .i64 i))),
        (5, .c (.own (49, 0) ((rests s (ps.take i)).map Piece.enc ++ (L.take j).map fun m => Piece.enc ⟨m.1, m.2, x.row⟩))), (3, .c (.ptr 3 0))]
        [(3, [.d (.lit (.int .i64 s.1)), .d (.lit (.int .i64 s.2))])] [((49, 0), .co 3 ((rests s (ps.take i)).length + (L.take j).length))]) Zti ?_ ?_
       · refine zzb ?_ ?_ ?_ <;> simp +decide only [go_sem]
         exact ⟨zqb (by simp [aOf]) rfl, zzh (by simp [hOf])⟩
       · intro j hj hJ
         rcases Zlg j L.length with hlt' | hge'
         · have hg' := Zge hlt'
           have hd' := zze hlt'
           have hw' := zzl hlt' (show L.length ≤ 4294967296 by omega)
           generalize L[j] = y at hg'
           have hy : y.enc = zqj y.1 y.2 := rfl
           have htk := zzw hg'
           have hlj : (L.take j).length = j := by rw [Zlt]; omega
           repeat' (first|(with_reducible first|refine vSq fun K hK=>?_|apply vRg|apply vBl|apply vSc|apply vIf|apply vSk|apply vEx|apply vRt|((first|apply gNt|apply gCs)<;>(intro h;try simp only[h]))|((first|apply hK|(clear hK K;first|apply hK|(clear hK K;first|apply hK|(clear hK K;apply hK))));clear hK K)|(refine todo ?_;simp +decide only[go_sem, hg, hg', hd', hw', hy]))|(refine zx1 Tryz.appRef rfl (z0l (zqm _) (szPM _ _)) (zqk rfl) (by simp; omega) (by simp; rfl) ?_))
           refine zzi hlt' Zti (zzb ?_ ?_ ?_) <;> simp +decide only [go_sem, htk, List.append_assoc, Nat.add_assoc]
           exact ⟨zqb (by simp [aOf]) rfl, zzh (by simp [hOf])⟩
         · have hd' := zzf hge'
           rw [Ztl hge']
           repeat' (first|(with_reducible first|refine vSq fun K hK=>?_|apply vRg|apply vBl|apply vSc|apply vIf|apply vSk|apply vEx|apply vRt|((first|apply gNt|apply gCs)<;>(intro h;try simp only[h]))|((first|apply hK|(clear hK K;first|apply hK|(clear hK K;first|apply hK|(clear hK K;apply hK))));clear hK K)|(refine todo ?_;simp +decide only[go_sem, hd', hw])))
           refine zzi hlt Zti (zzb ?_ ?_ ?_) <;> simp +decide only [go_sem, hnx, hL, List.map_map]
           exact ⟨zqb (by simp [aOf]) rfl, zzh (by simp [hOf])⟩
     · have hd := zzf hge
       rw [Ztl hge]
       repeat' (first|(with_reducible first|refine vSq fun K hK=>?_|apply vRg|apply vBl|apply vSc|apply vIf|apply vSk|apply vEx|apply vRt|((first|apply gNt|apply gCs)<;>(intro h;try simp only[h]))|((first|apply hK|(clear hK K;first|apply hK|(clear hK K;first|apply hK|(clear hK K;apply hK))));clear hK K)|(refine todo ?_;simp +decide only[go_sem, hd])))
       exact zzs rfl rfl
 all_goals
  have hD : drop ps s = ps := by unfold drop; simp [*]
  rw [hD]
  exact zzs rfl rfl
theorem Tryz.rPut (ps : List Piece) (s : Sp) (r : Row) (hn : ps.length ≤ 131072) (hr : ∀ p ∈ ps, p.row.length ≤ 1048576) (hok : z1g ps) (hrr : r.length ≤ 1048576) (hrok : Row.ok' r) : zzr Tryz.prog 69 [pD (zzk ps), pA s.enc, pD (zz4 r)] (.one (.d (zzk (putP ps s r)))) := by
 refine Tryz.pure (md := []) Tryz.func69 rfl Tryz.call69 (by kernel_rfl) (by rfl) (by exact Zle rfl) ?_
 have hs : s.enc = zqj s.1 s.2 := rfl
 have hrt := Tryz.rRight ps (by omega) hr hok
 have hdr := Tryz.rDrop ps s (by omega) hr hok
 repeat' (first|(with_reducible first|refine vSq fun K hK=>?_|apply vRg|apply vBl|apply vSc|apply vIf|apply vSk|apply vEx|apply vRt|((first|apply gNt|apply gCs)<;>(intro h;try simp only[h]))|((first|apply hK|(clear hK K;first|apply hK|(clear hK K;first|apply hK|(clear hK K;apply hK))));clear hK K)|(refine todo ?_;simp +decide only[go_sem, hs]))|refine zzd hrt rfl rfl (fun _ => rfl) ?_|refine zzd (Tryz.rSpanRight s.1 s.2) rfl rfl (fun _ => rfl) ?_|refine zzd (Tryz.rRowRight r (by omega) hrok) rfl rfl (fun _ => rfl) ?_|refine zzd hdr rfl rfl (fun _ => rfl) ?_)
 · have hP : putP ps s r = insert' s r (drop ps s) := by unfold putP; simp [*]
   have hql := drop_length ps s
   rw [hP] at hK ⊢
   generalize drop ps s = q at *
   refine zzj q.length (fun i => (q.take i).all (ahead s) = true) (fun i => frame [(2, pD (zz4 r)), (4, .c (.ptr 4 0)), (8, pD (zzk q)), (9, pD (.lit (.int .i64 i))), (7, .c (.own (48, 0) ((q.take i).map Piece.enc)))]
    [(4, [.d (.lit (.int .i64 s.1)), .d (.lit (.int .i64 s.2))])] [((48, 0), .co 3 (q.take i).length)]) rfl ?_ ?_
   · refine zzb ?_ ?_ ?_ <;> simp +decide only [go_sem]
     exact ⟨zzh (by simp [hOf]), zju rfl rfl⟩
   · intro i hi hI
     have hend : (∀ x, q[i]? = some x → ahead s x = false) → insert' s r q = q.take i ++ (⟨s.1, s.2, r⟩ :: q.drop i) := fun h => by
      obtain ⟨e1, e2⟩ := zji hI h
      rw [insert', e1, e2]
     have hq2 : List.take (q.length - i) ((q.drop i).map Piece.enc) = (q.drop i).map Piece.enc := Ztl (by simp)
     have hlt1 : (q.take i).length = i := by rw [Zlt]; omega
     rcases Zlg i q.length with hlt | hge
     · have hg := Zge hlt
       have hd := zze hlt
       have hw := zzl hlt (show q.length ≤ 4294967296 by omega)
       generalize q[i] = x at hg
       have htk := zzw hg
       rw [yj2]
       repeat' (first|(with_reducible first|refine vSq fun K hK=>?_|apply vRg|apply vBl|apply vSc|apply vIf|apply vSk|apply vEx|apply vRt|((first|apply gNt|apply gCs)<;>(intro h;try simp only[h]))|((first|apply hK|(clear hK K;first|apply hK|(clear hK K;first|apply hK|(clear hK K;apply hK))));clear hK K)|(refine todo ?_;simp +decide only[go_sem, hg, hd, hw, ← List.map_drop, hq2]))|(refine zx1 Tryz.appRef rfl (zqm _) (zqk rfl) (by simp; omega) (by simp; rfl) ?_)|refine zvh Tryz.appRef rfl (l := i) (h := q.length) (by simp [zz0, natOf?, intOf?]) (by simp [zz0]) (by omega) (by simp) (zqm _) ?_|(refine zx1 Tryz.appRef rfl (z0l (zqm _) (zqk rfl)) (zqm _) (by simp; omega) (by simp; rfl) ?_))
       · refine zzi hlt (zz8 hI hg h) (zzb ?_ ?_ ?_) <;> simp +decide only [go_sem, htk]
         exact ⟨zzh (by simp [hOf]), zqb (by simp [aOf]) rfl⟩
       · rw [hend (fun y hy => by rw [hg] at hy; cases hy; exact h)]
         refine zzs rfl ?_
         simp +decide only [go_sem, List.append_assoc]
     · have hd := zzf hge
       rw [yj2]
       repeat' (first|(with_reducible first|refine vSq fun K hK=>?_|apply vRg|apply vBl|apply vSc|apply vIf|apply vSk|apply vEx|apply vRt|((first|apply gNt|apply gCs)<;>(intro h;try simp only[h]))|((first|apply hK|(clear hK K;first|apply hK|(clear hK K;first|apply hK|(clear hK K;apply hK))));clear hK K)|(refine todo ?_;simp +decide only[go_sem, hd, ← List.map_drop, hq2]))|(refine zx1 Tryz.appRef rfl (zqm _) (zqk rfl) (by simp; omega) (by simp; rfl) ?_)|refine zvh Tryz.appRef rfl (l := i) (h := q.length) (by simp [zz0, natOf?, intOf?]) (by simp [zz0]) (by omega) (by simp) (zqm _) ?_|(refine zx1 Tryz.appRef rfl (z0l (zqm _) (zqk rfl)) (zqm _) (by simp; omega) (by simp; rfl) ?_))
       rw [hend (fun y hy => by rw [List.getElem?_eq_none hge] at hy; cases hy)]
       refine zzs rfl ?_
       simp +decide only [go_sem, List.append_assoc]
 all_goals
  have hP : putP ps s r = ps := by unfold putP; simp [*]
  rw [hP]
  exact zzs rfl rfl
structure Ver where
 sl : Int
 sh : Int
 p : Piece
def Ver.enc (v : Ver) : List D := [.lit (.int .i64 v.sl), .lit (.int .i64 v.sh), .lit (.int .i64 v.p.lo), .lit (.int .i64 v.p.hi), zz4 v.p.row]
def zxs (l : List Ver) : D := .sl (l.map Ver.enc)
attribute [go_sem] Ver.enc zxs
theorem zw0 (l : List Ver) : Szd 5 (l.map Ver.enc) := fun e he => by
 obtain ⟨p, _, rfl⟩ := List.mem_map.1 he
 rfl
def Ver.open' (v : Ver) : Bool := v.sh == 1099511627776
def ahead' (v w : Ver) : Bool := if (v.sl == w.sl) = true then decide (v.p.lo < w.p.lo) else decide (v.sl < w.sl)
def clash (v w : Ver) : Bool := (meet (v.sl, v.sh) (w.sl, w.sh)).isSome && (meet (v.p.lo, v.p.hi) (w.p.lo, w.p.hi)).isSome
end Go.Proofs
namespace Go.PW
def xxr (l : List (Nat × PV)) (h : List (Nat × List CV)) (H : HMap) (A : AMap) (κ : Tok) (ar : Arr) : St := ⟨z2q l, zzy h H, upd A κ (some ar)⟩
@[go_sem] theorem xqv (l : List (Nat × PV)) (h : List (Nat × List CV)) (H : HMap) (A : AMap) (κ : Tok) (ar : Arr) : xxr l h H A κ ar = ⟨z2q l, zzy h H, upd A κ (some ar)⟩ := rfl
theorem z6x {H' : HMap} {A A' : AMap} {κ : Tok} {m n : Nat} (h : A' κ ≠ none) (e : A' κ = A κ) : PV.wk H' A A' (.c (.mt κ m n)) (.c (.mt κ m n)) := wk_c (.inr (.inl ⟨rfl, h, e⟩))
theorem z8f {H' : HMap} {A A' : AMap} {f : FuncId} {caps : List (Nat × Nat)} (h : ∀ p ∈ caps, H' p.1 ≠ none) : PV.wk H' A A' (.c (.fn f caps)) (.c (.fn f caps)) := wk_c (.inr (.inl ⟨rfl, h⟩))
end Go.PW
namespace Go.Proofs
open Go.PW
def okV (v : Ver) : Bool := Span.right v.sl v.sh && right [v.p]
def z01 (prev : List Ver) (v : Ver) : Bool := match prev.getLast? with
 | none => true
 | some w => !ahead' v w
def z12 (prev : List Ver) (v : Ver) : Bool := (okV v && z01 prev v) && prev.all fun w => !clash v w
def zq6 : List Ver → List Ver → Bool
 | _, [] => true
 | prev, v :: r => z12 prev v && zq6 (prev ++ [v]) r
def zqt (l : List Ver) : Bool := zq6 [] l
theorem zwc (l m : List Ver) : ∀ p, zq6 p (l ++ m) = (zq6 p l && zq6 (p ++ l) m) := by
 induction l with
 | nil => intro p; simp [zq6]
 | cons v r ih => intro p; simp only [List.cons_append, zq6, ih, Bool.and_assoc, List.append_assoc, List.nil_append]
theorem yjk {l : List Ver} {i : Nat} {x : Ver} (h : l[i]? = some x) (hI : zqt (l.take i) = true) (hf : z12 (l.take i) x = true) : zqt (l.take (i + 1)) = true := by
 unfold zqt at hI ⊢
 rw [zzw h, zwc, hI, List.nil_append, zq6, hf]
 rfl
theorem ywn {l : List Ver} {i : Nat} {x : Ver} (h : l[i]? = some x) (hf : z12 (l.take i) x = false) : zqt l = false := by
 unfold zqt
 rw [yku h, zwc, zq6, List.nil_append, hf]
 simp
def zxf (t : Int) (v : Ver) : Int := if v.open' = true then iMax t v.sl else iMax (iMax t v.sl) v.sh
def z3q (l : List Ver) : Int := if zqt l = true then l.foldl zxf 0 else 0
theorem yve {α β : Type} {f : β → α → β} {b : β} {l : List α} {i : Nat} {x : α} (h : l[i]? = some x) : (l.take (i + 1)).foldl f b = f ((l.take i).foldl f b) x := by
 rw [zzw h, List.foldl_append]
 rfl
theorem zz7 {P : Program} {effs : List FuncId} {off : Nat} {md st : List Nat} {n : Nat} {f : FuncId} {H H' : HMap} {A A' : AMap} {args args' : List PV} {v : PV} {KK : PV → HMap → AMap → Prop} (he : effs.contains f = true) (h : zqf P f (off + 1000) H A args' v H' A') (ha : args.map PV.frz = args')
 (hb : Above (off + 1000) H A) (hK : Todo (KK v H' A')) : zxm (envOf P effs off md st) n f H A args KK := yww he (by rw [ha]; exact h) hb hK
theorem zqd {A : AMap} : Wf noH A := fun _ _ _ h => by cases h
section slc3
variable {P : Program} {t e : TypeId} {c b : Nat} {els : List (List D)}
theorem ywx {x m : PV} {lo hi : Option PV} {l h : Nat} {K : PV → Prop} (T : AppT P t e c b) (hx : zqc x = some els) (hl : zz0 lo 0 = some l) (hh : zz0 hi els.length = some h) (hhi : hi.isSome = true) (hm : natOf? m = some h) (h1 : l ≤ h) (h2 : h ≤ els.length) (sz : Szd c els)
 (hK : Todo (K (.c (.full ((els.drop l).take (h - l)))))) : slcV P t x lo hi (some m) K := by
 unfold slcV
 rw [T.und]
 simp only [T.hc, hx, hl, hh, Opt]
 refine ⟨T.pc, ⟨h1, h2, sz, fun _ => hhi⟩, ?_⟩
 unfold slcM
 simp only [hm, Opt]
 exact ⟨trivial, hK⟩
@[congr] theorem y8a {T : TypeId} {x y : PV} {lo hi lo' hi' : Option PV} {m m' : PV} {K : PV → Prop} (hx : idd x = y) (hl : idd lo = lo') (hh : idd hi = hi') (hm : idd m = m') : slcV P T x lo hi (some m) K = slcV P T y lo' hi' (some m') K := by rw [← hx, ← hl, ← hh, ← hm]; rfl
end slc3
def zkq {α : Type} (gt : α → Bool) (l : List α) (x : α) : List α := (l.reverse.dropWhile gt).reverse ++ x :: (l.reverse.takeWhile gt).reverse
theorem y0b {α : Type} {gt : α → Bool} {l : List α} {x : α} {n : Nat} (hn : n ≤ l.length) (h : (l.drop n).all gt = true) (hs : ∀ y, n ≠ 0 → l[n - 1]? = some y → gt y = false) : zkq gt l x = l.take n ++ x :: l.drop n := by
 have e1 : l.reverse.take (l.length - n) = (l.drop n).reverse := by rw [List.take_reverse, show l.length - (l.length - n) = n by omega]
 have e2 : l.reverse.drop (l.length - n) = (l.take n).reverse := by rw [List.drop_reverse, show l.length - (l.length - n) = n by omega]
 obtain ⟨k1, k2⟩ := zji (l := l.reverse) (i := l.length - n) (f := gt) (by rw [e1, List.all_reverse]; exact h) (fun y hy => by
  rcases Nat.eq_zero_or_pos n with h0 | h0
  · rw [List.getElem?_eq_none (by simp; omega)] at hy; cases hy
  · rw [List.getElem?_reverse (by omega), show l.length - 1 - (l.length - n) = n - 1 by omega] at hy
    exact hs y (by omega) hy)
 rw [zkq, k1, k2, e1, e2, List.reverse_reverse, List.reverse_reverse]
theorem z63 {α : Type} (gt : α → Bool) (l : List α) (x : α) : (zkq gt l x).length = l.length + 1 := by
 have := congrArg List.length (List.takeWhile_append_dropWhile (p := gt) (l := l.reverse))
 rw [Zla, List.length_reverse] at this
 rw [zkq, Zla, List.length_cons, List.length_reverse, List.length_reverse]
 omega
theorem z56 {α : Type} {gt : α → Bool} {l : List α} {x y : α} : y ∈ zkq gt l x ↔ y = x ∨ y ∈ l := by
 have e := List.takeWhile_append_dropWhile (p := gt) (l := l.reverse)
 rw [zkq, Zma, List.mem_cons, List.mem_reverse, List.mem_reverse]
 have h : y ∈ l ↔ y ∈ l.reverse.takeWhile gt ∨ y ∈ l.reverse.dropWhile gt := by rw [← Zma, e, List.mem_reverse]
 rw [h]
 constructor
 · rintro (h | h | h)
   · exact .inr (.inr h)
   · exact .inl h
   · exact .inr (.inl h)
 · rintro (h | h | h)
   · exact .inr (.inl h)
   · exact .inr (.inr h)
   · exact .inl h
def gtP (p y : Piece) : Bool := decide (p.lo < y.lo)
def insP (out : List Piece) (v : Ver) : List Piece := zkq (gtP v.p) out v.p
def vAt (l : List Ver) (t : Int) : List Piece := if zqt l = true then (l.filter (fun v => Span.has v.sl v.sh t)).foldl insP [] else []
theorem y3y (l : List Ver) : ∀ out : List Piece, (l.foldl insP out).length = out.length + l.length := by
 induction l with
 | nil => intro out; rfl
 | cons v r ih => intro out; rw [List.foldl_cons, ih, insP, z63, List.length_cons]; omega
end Go.Proofs
namespace Go.PW
end Go.PW
namespace Go.Proofs
open Go.PW
def joins (v w : Ver) : Bool := (w.sh == v.sl) && zqg w.p v.p
def join : List Ver → Ver → Option (List Ver)
 | [], _ => none
 | w :: r, v => if joins v w = true then some ({ w with sh := v.sh } :: r) else (join r v).map (w :: ·)
end Go.Proofs
namespace Go.PW
end Go.PW
namespace Go.Proofs
open Go.PW
def y19 (l : List Ver) (v : Ver) : List Ver := zkq (fun y => ahead' v y) l v
def rise (l : List Ver) : List Ver := l.foldl y19 []
def z11 (q : List Piece) (v : Ver) : Bool := v.open' && isIn q v.p
end Go.Proofs

namespace Go.PW
end Go.PW
namespace Go.Proofs
open Go.PW
def vCut (q : List Piece) (t : Int) (v : Ver) : Ver := if z11 q v = true then { v with sh := t } else v
def z9v (l : List Ver) (q : List Piece) (t : Int) : List Ver := l.filter (fun v => !z11 q v || decide (v.sl < t))
def z21 (t : Int) (c : Piece) : Ver := ⟨t, 1099511627776, c⟩
def vMid (q : List Piece) (t : Int) (kept : List Ver) (cs : List Piece) : List Ver := kept.map (vCut q t) ++ cs.map (z21 t)
theorem yjj {q : List Piece} {t : Int} {kept : List Ver} {cs : List Piece} : (vMid q t kept cs).length = kept.length + cs.length := by simp [vMid]
def z22 (l : List Ver) (t : Int) (p : List Piece) : List Ver :=
 rise (vMid (diff (vAt l 1099511627775) p).1 t (z9v l (diff (vAt l 1099511627775) p).1 t) (diff (vAt l 1099511627775) p).2)
def z0o (l : List Ver) (t : Int) (p : List Piece) : Bool := ((zqt l && right p) && !decide (t < z3q l)) && !decide (1099511627776 ≤ t)
def vSet (l : List Ver) (t : Int) (p : List Piece) : List Ver := if z0o l t p = true then z22 l t p else []
theorem yj3 (l : List Ver) : ∀ {out : List Piece} {x : Piece}, x ∈ l.foldl insP out → x ∈ out ∨ ∃ v ∈ l, x = v.p := by
 induction l with
 | nil => exact fun h => .inl h
 | cons v r ih =>
   intro out x h
   rcases ih h with h | ⟨w, hw, e⟩
   · rcases z56.1 h with e | h
     · exact .inr ⟨v, Zms2, e⟩
     · exact .inl h
   · exact .inr ⟨w, List.mem_cons_of_mem _ hw, e⟩
theorem yji {l : List Ver} {t : Int} {x : Piece} (h : x ∈ vAt l t) : ∃ v ∈ l, x = v.p := by
 unfold vAt at h
 split at h
 · rcases yj3 _ h with h | ⟨v, hv, e⟩
   · cases h
   · exact ⟨v, (List.mem_filter.1 hv).1, e⟩
 · cases h
theorem z08 (l : List Ver) (t : Int) : (vAt l t).length ≤ l.length := by
 unfold vAt
 split
 · rw [y3y]
   have := List.length_filter_le (fun v => Span.has v.sl v.sh t) l
   simp; omega
 · simp
theorem y3j (ps q : List Piece) : (diff ps q).1.length ≤ ps.length ∧ (diff ps q).2.length ≤ q.length ∧ (∀ x ∈ (diff ps q).1, x ∈ ps) ∧ ∀ x ∈ (diff ps q).2, x ∈ q := by
 unfold diff
 split
 · exact ⟨zxr _ _, zxr _ _, fun x h => (List.mem_filter.1 h).1, fun x h => (List.mem_filter.1 h).1⟩
 · exact ⟨by simp, by simp, fun x h => by (cases h), fun x h => by (cases h)⟩
end Go.Proofs
namespace Go.PW
theorem xz9 {H' : HMap} {A A' : AMap} {κ : Tok} {sz : Nat} (h : A κ = none) (e : A' κ = some (.mu sz [])) : CV.wk H' A A' (.mt κ sz 0) (.full []) := .inr (.inr (.inr (.inr (.inl ⟨rfl, κ, sz, .inl rfl, h, e⟩))))
end Go.PW
namespace Go.Proofs
open Go.PW
structure TSt where
 sl : Int
 sh : Int
 ps : List Piece
def TSt.enc (v : TSt) : List D := [.lit (.int .i64 v.sl), .lit (.int .i64 v.sh), zzk v.ps]
def y95 (l : List TSt) : D := .sl (l.map TSt.enc)
attribute [go_sem] TSt.enc y95
def cntV (l : List Ver) (t : Int) : Nat := l.countP (fun v => decide (t < v.sl)) + l.countP (fun v => decide (t < v.sh))
def left (l : List Ver) (hi t : Int) : Nat := if t < hi then cntV l t + 1 else 0
theorem z5i (ps : List Piece) : (coalesce ps).length ≤ ps.length := by
 unfold coalesce
 split
 · exact yzj ps
 · exact Zlr _
theorem z8r {N : Nat} {ps : List Piece} (h : ∀ p ∈ ps, p.row.length ≤ N) : ∀ p ∈ coalesce ps, p.row.length ≤ N := by
 unfold coalesce
 split
 · exact y0h h
 · exact h
theorem Tryz.appRefV : AppT Tryz.prog 104 139 5 56 := ⟨Tryz.underlying104, Tryz.cl139, Tryz.by139, Tryz.zo139, by decide, by decide⟩
theorem Tryz.rAheadV (v w : Ver) : zzr Tryz.prog 102 [pA v.enc, pA w.enc] (.one (dB (ahead' v w))) := by
 refine Tryz.pure (md := []) Tryz.func102 rfl Tryz.call102 (by kernel_rfl) (by rfl) (by exact Zle rfl) ?_
 cases h : (v.sl == w.sl) with
 | true =>
   have h2 : (v.sl != w.sl) = false := by rw [bne, h]; rfl
   repeat' (first|(with_reducible first|refine vSq fun K hK=>?_|apply vRg|apply vBl|apply vSc|apply vIf|apply vSk|apply vEx|apply vRt|((first|apply gNt|apply gCs)<;>(intro h;try simp only[h]))|((first|apply hK|(clear hK K;first|apply hK|(clear hK K;first|apply hK|(clear hK K;apply hK))));clear hK K)|(refine todo ?_;simp +decide only[go_sem, h2])))
   refine zzs rfl ?_
   simp +decide only [go_sem, ahead', h]
 | false =>
   have h2 : (v.sl != w.sl) = true := by rw [bne, h]; rfl
   repeat' (first|(with_reducible first|refine vSq fun K hK=>?_|apply vRg|apply vBl|apply vSc|apply vIf|apply vSk|apply vEx|apply vRt|((first|apply gNt|apply gCs)<;>(intro h;try simp only[h]))|((first|apply hK|(clear hK K;first|apply hK|(clear hK K;first|apply hK|(clear hK K;apply hK))));clear hK K)|(refine todo ?_;simp +decide only[go_sem, h2])))
   refine zzs rfl ?_
   simp +decide only [go_sem, ahead', h]
end Go.Proofs
