/-
  Parts of the proof, laid together: PwFj, PwFk, PwFl, PwLa, PwLb, PwLd, PwFo.
-/
import Derived.Test.YtemecklglapleaaGreatQ20

set_option maxRecDepth 30000
set_option maxHeartbeats 16000000
namespace Go.Proofs
open Go.PW
def diff (ps q : List Piece) : List Piece × List Piece := if right ps && right q then (without ps q, without q ps) else ([], [])
def zq5 (a b : List Piece) : Bool := a.length == b.length && (List.zipWith zqg a b).all id
theorem y5g {α : Type} {f : α → α → Bool} {a b : List α} {i : Nat} {x y : α} (h : (List.zipWith f (a.take i) (b.take i)).all id = true) (hx : a[i]? = some x) (hy : b[i]? = some y) (hf : f x y = true) : (List.zipWith f (a.take (i + 1)) (b.take (i + 1))).all id = true := by
 rw [← List.take_zipWith] at h ⊢
 refine zz8 (x := true) h ?_ rfl
 rw [List.getElem?_zipWith, hx, hy]
 simp [hf]
theorem y8k {α : Type} {f : α → α → Bool} {a b : List α} {i : Nat} {x y : α} (hx : a[i]? = some x) (hy : b[i]? = some y) (hf : f x y = false) : (List.zipWith f a b).all id = false := by
 refine zqr (i := i) (x := false) ?_ rfl
 rw [List.getElem?_zipWith, hx, hy]
 simp [hf]
theorem Tryz.kSameP (a b : List Piece) (hr : a.length ≤ 1048576) (hrr : ∀ p ∈ a, p.row.length ≤ 1048576) : zzr Tryz.prog 13 [pD (zzk a), pD (zzk b)] (.one (dB (zq5 a b))) := by
 refine Tryz.pure (md := []) Tryz.func13 rfl Tryz.call13 (by kernel_rfl) (by rfl) (by exact Zle rfl) ?_
 repeat' (first|(with_reducible first|refine vSq fun K hK=>?_|apply vRg|apply vBl|apply vSc|apply vIf|apply vSk|apply vEx|apply vRt|((first|apply gNt|apply gCs)<;>(intro h;try simp only[h]))|((first|apply hK|(clear hK K;first|apply hK|(clear hK K;first|apply hK|(clear hK K;apply hK))));clear hK K)|(refine todo ?_;simp +decide only[go_sem])))
 · refine zzs rfl ?_
   have hne : (a.length == b.length) = false := by
    rw [beq_eq_false_iff_ne]; intro e; rw [e] at h; simp at h
   simp +decide only [go_sem, zq5, hne]
 · have hlen : a.length = b.length := by
    have e : ((a.length : Int) == (b.length : Int)) = true := by simpa [bne] using h
    exact Int.ofNat_inj.1 (by simpa using e)
   refine zzj a.length (fun i => (List.zipWith zqg (a.take i) (b.take i)).all id = true) (fun i => frame [(0, pD (zzk a)), (1, pD (zzk b)), (12, pD (.lit (.int .i64 a.length))), (13, pD (.lit (.int .i64 i)))] [] []) rfl ?_ ?_
   · refine zzb ?_ ?_ ?_ <;> simp +decide only [go_sem]
   · intro i hi hI
     rcases Zlg i a.length with hlt | hge
     · have hg := Zge hlt
       have hg' := Zge (show i < b.length by omega)
       have hd := zze hlt
       have hw := zzl hlt (show a.length ≤ 4294967296 by omega)
       generalize a[i] = x at hg
       generalize b[i] = y at hg'
       have hx := hrr x (Zme hg)
       repeat' (first|(with_reducible first|refine vSq fun K hK=>?_|apply vRg|apply vBl|apply vSc|apply vIf|apply vSk|apply vEx|apply vRt|((first|apply gNt|apply gCs)<;>(intro h;try simp only[h]))|((first|apply hK|(clear hK K;first|apply hK|(clear hK K;first|apply hK|(clear hK K;apply hK))));clear hK K)|(refine todo ?_;simp +decide only[go_sem, hg, hg', hd, hw]))|refine zzd (Tryz.kSame x.row y.row (by omega)) rfl rfl (fun _ => rfl) ?_)
       all_goals first
        | (have hf : zqg x y = true := by unfold zqg; simp [*]
           refine zzi hlt (y5g hI hg hg' hf) (zzb ?_ ?_ ?_) <;> simp +decide only [go_sem])
        | (have hf : zqg x y = false := by unfold zqg; simp [*]
           refine zzs rfl ?_
           simp +decide only [go_sem, zq5, y8k hg hg' hf])
     · have hd := zzf hge
       rw [Ztl hge, Ztl (show b.length ≤ i by omega)] at hI
       repeat' (first|(with_reducible first|refine vSq fun K hK=>?_|apply vRg|apply vBl|apply vSc|apply vIf|apply vSk|apply vEx|apply vRt|((first|apply gNt|apply gCs)<;>(intro h;try simp only[h]))|((first|apply hK|(clear hK K;first|apply hK|(clear hK K;first|apply hK|(clear hK K;apply hK))));clear hK K)|(refine todo ?_;simp +decide only[go_sem, hd])))
       refine zzs rfl ?_
       simp +decide only [go_sem, zq5, hI, hlen]
def touches (out : List Piece) (x : Piece) : Bool :=
 match out.getLast? with
 | none => false
 | some y => y.hi == x.lo && zx6 y.row x.row
theorem yvg {P : Program} {e : TypeId} {n : Nat} {κ : Tok} {sz len : Nat} : idxE P e n (.c (.mt κ sz len)) = if n < len ∧ sz = P.cellsOf e then some (.c (.mptr κ sz len n 0)) else none := rfl
theorem Tryz.kTouches (out : List Piece) (x : Piece) (hn : out.length ≤ 1048576) (hr : ∀ p ∈ out, p.row.length ≤ 1048576) {H : HMap} {A : AMap} (hw : Wf H A) {id : Nat} {κ : Tok} (hid : H id = some [.mt κ 3 out.length]) (hκ : A κ = some (.mu 3 (out.map Piece.enc))) :
 zqf Tryz.prog 40 1000 H A [pA x.enc, .c (.ptr id 0)] (pD (.lit (.bool (touches out x)))) H A := by
 refine y5p (E := envOf Tryz.prog [] 1000 [] []) (zzx Tryz.mixed) Tryz.func40 rfl Tryz.call40 (by kernel_rfl) (by exact Zle rfl) (fun hab => ?_)
 have hi : id < 1000 := Nat.lt_of_not_le fun h => by rw [(hab id h).1] at hid; cases hid
 have h2 : H 1002 = none := (hab _ (by decide)).1
 have h4 : H 1004 = none := (hab _ (by decide)).1
 have n2 : (id = 1002) = False := eq_false (by omega)
 cases hl : out.getLast? with
 | none =>
   have e : out = [] := List.getLast?_eq_none_iff.1 hl
   subst e
   repeat' (first|(with_reducible first|refine vSq fun K hK=>?_|apply vRg|apply vBl|apply vSc|apply vIf|apply vSk|apply vEx|apply vRt|((first|apply gNt|apply gCs)<;>(intro h;try simp only[h]))|((first|apply hK|(clear hK K;first|apply hK|(clear hK K;first|apply hK|(clear hK K;apply hK))));clear hK K)|(refine todo ?_;simp +decide only[go_sem, hid, h2, n2])))
   exact z5d hw (z50 h2 zx3) rfl rfl rfl
 | some y =>
   have hne : out ≠ [] := fun e => by rw [e] at hl; cases hl
   have hpos := List.length_pos_iff.2 hne
   have hg : out[out.length - 1]? = some y := by rw [← List.getLast?_eq_getElem?]; exact hl
   have hy := hr y (Zme hg)
   have hz : (((out.length : Int)) == 0) = false := by rw [beq_eq_false_iff_ne]; omega
   have hwr : IntKind.i64.wrap ((out.length : Int) - 1) = ((out.length - 1 : Nat) : Int) := by rw [Go.IntWalk.i64_in _ (by omega)]; omega
   have hlt : (out.length - 1 < out.length) = True := eq_true (by omega)
   have ht : touches out x = ((y.hi == x.lo) && zx6 y.row x.row) := by unfold touches; rw [hl]
   rw [ht]
   repeat' (first|(with_reducible first|refine vSq fun K hK=>?_|apply vRg|apply vBl|apply vSc|apply vIf|apply vSk|apply vEx|apply vRt|((first|apply gNt|apply gCs)<;>(intro h;try simp only[h]))|((first|apply hK|(clear hK K;first|apply hK|(clear hK K;first|apply hK|(clear hK K;apply hK))));clear hK K)|(refine todo ?_;simp +decide only[go_sem, hid, h2, h4, n2, yvg, hκ, hz, hwr, hlt, hg]))|refine zzd (Tryz.kSame y.row x.row (by omega)) rfl rfl (fun k => (hab _ (by decide)).2 k) ?_)
   all_goals
    rw [h]
    exact z5d hw (z50 h4 (z50 h4 (z50 h2 zx3))) rfl rfl rfl
def yje (out : List Piece) (h : Int) : List Piece := match out.getLast? with
 | none => out
 | some y => out.set (out.length - 1) { y with hi := h }
def zjx (out : List Piece) (x : Piece) : List Piece := if touches out x then yje out x.hi else out ++ [x]
def co (ps : List Piece) : List Piece := ps.foldl zjx []
def coalesce (ps : List Piece) : List Piece := if right ps then co ps else ps
theorem z4a (out : List Piece) (h : Int) : (yje out h).length = out.length := by
 unfold yje
 split
 · rfl
 · exact List.length_set
theorem z8q (out : List Piece) (x : Piece) : (zjx out x).length ≤ out.length + 1 ∧ out.length ≤ (zjx out x).length := by
 unfold zjx
 split
 · rw [z4a]; omega
 · rw [Zla]; exact ⟨Zlr _, Nat.le_add_right _ _⟩
theorem yk9 {out : List Piece} {x : Piece} {N : Nat} (h : ∀ p ∈ out, p.row.length ≤ N) (hx : x.row.length ≤ N) : ∀ p ∈ zjx out x, p.row.length ≤ N := by
 intro p hp
 unfold zjx at hp
 split at hp
 · unfold yje at hp
   split at hp
   · exact h p hp
   · rename_i y hy
     rcases List.mem_or_eq_of_mem_set hp with hp | rfl
     · exact h p hp
     · exact h y (List.mem_of_getLast? hy)
 · rcases List.mem_append.1 hp with hp | hp
   · exact h p hp
   · rw [List.mem_singleton.1 hp]; exact hx
theorem y0g {out : List Piece} {x : Piece} : zjx out x ≠ [] := by
 intro e
 unfold zjx at e
 split at e
 · rename_i h
   unfold touches at h
   split at h
   · cases h
   · rename_i y hy
     have := congrArg List.length e
     rw [z4a] at this
     rw [List.eq_nil_of_length_eq_zero this] at hy
     cases hy
 · simp at e
theorem y6x {ps : List Piece} {x : Piece} {i : Nat} (h : ps[i]? = some x) : co (ps.take (i + 1)) = zjx (co (ps.take i)) x := by
 rw [zzw h, co, List.foldl_append]; rfl
theorem y9w (ps : List Piece) : ∀ out : List Piece, (ps.foldl zjx out).length ≤ out.length + ps.length := by
 induction ps with
 | nil => intro out; simp
 | cons x r ih =>
   intro out
   have := ih (zjx out x)
   have := (z8q out x).1
   simp only [List.foldl_cons, List.length_cons]
   omega
theorem yzj (ps : List Piece) : (co ps).length ≤ ps.length := by
 have := y9w ps []
 simpa [co] using this
theorem y9x {N : Nat} (ps : List Piece) : ∀ out : List Piece, (∀ p ∈ ps, p.row.length ≤ N) → (∀ p ∈ out, p.row.length ≤ N) → ∀ p ∈ ps.foldl zjx out, p.row.length ≤ N := by
 induction ps with
 | nil => intro out _ h; exact h
 | cons x r ih =>
   intro out h h'
   exact ih (zjx out x) (fun p hp => h p (List.mem_cons_of_mem _ hp)) (yk9 h' (h x (Zms2 ..)))
theorem y0h {N : Nat} {ps : List Piece} (h : ∀ p ∈ ps, p.row.length ≤ N) : ∀ p ∈ co ps, p.row.length ≤ N := y9x ps [] h (fun p hp => by cases hp)
theorem Tryz.kTouches0 (x : Piece) {H : HMap} {A : AMap} (hw : Wf H A) {id : Nat} (hid : H id = some [.full []]) :
 zqf Tryz.prog 40 1000 H A [pA x.enc, .c (.ptr id 0)] (pD (.lit (.bool false))) H A := by
 refine y5p (E := envOf Tryz.prog [] 1000 [] []) (zzx Tryz.mixed) Tryz.func40 rfl Tryz.call40 (by kernel_rfl) (by exact Zle rfl) (fun hab => ?_)
 have hi : id < 1000 := Nat.lt_of_not_le fun h => by rw [(hab id h).1] at hid; cases hid
 have h2 : H 1002 = none := (hab _ (by decide)).1
 have n2 : (id = 1002) = False := eq_false (by omega)
 repeat' (first|(with_reducible first|refine vSq fun K hK=>?_|apply vRg|apply vBl|apply vSc|apply vIf|apply vSk|apply vEx|apply vRt|((first|apply gNt|apply gCs)<;>(intro h;try simp only[h]))|((first|apply hK|(clear hK K;first|apply hK|(clear hK K;first|apply hK|(clear hK K;apply hK))));clear hK K)|(refine todo ?_;simp +decide only[go_sem, hid, h2, n2])))
 exact z5d hw (z50 h2 zx3) rfl rfl rfl
theorem y8i {H' : HMap} {A A' : AMap} {κ : Tok} {m n : Nat} (h : A' κ ≠ none) (e : A' κ = A κ) : CV.wk H' A A' (.mt κ m n) (.mt κ m n) := .inr (.inl ⟨rfl, h, e⟩)
theorem xq8 {u n m : Nat} {κ : Tok} {ar : Arr} : Wf (hOf [(u, [.mt κ m n])]) (aOf [(κ, ar)]) := by
 intro id cs c h hc
 unfold hOf at h
 split at h
 · cases h
   rw [List.mem_singleton.1 hc]
   show aOf [(κ, ar)] κ ≠ none
   simp [aOf]
 · cases h
section mt
variable {P : Program} {t e : TypeId} {c b : Nat} {md : List Nat} {k q : Nat} {A : AMap} {els ys : List (List D)} {y : PV} {κ : Tok} {KK : PV → AMap → Prop}
theorem W_mt {n : Nat} (T : AppT P t e c b) (hA : A κ = some (.mu c els)) (hn : n = els.length) (hy : zqc y = some ys) (s2 : Szd c ys) (s3 : (els.length + ys.length) * b ≤ 140737488355328)
 (hK : Todo (KK (.c (.mt κ c (els ++ ys).length)) (upd A κ (some (.mu c (els ++ ys)))))) : appV P md k q A [t, t] (.c (.mt κ c n)) y KK := by
 unfold appV
 simp only [T.und, T.hc, T.hb, T.hz, hy, hA]
 exact ⟨⟨trivial, T.pc, trivial, T.pb⟩, ⟨trivial, trivial, hn, s2, s3⟩, hK⟩
end mt
def outC : List Piece → CV
 | [] => .full []
 | x :: r => .mt (36, 0) 3 (x :: r).length
def outA : List Piece → List (Tok × Arr)
 | [] => []
 | x :: r => [((36, 0), .mu 3 ((x :: r).map Piece.enc))]
theorem yx3 {out : List Piece} (h : out ≠ []) : outC out = .mt (36, 0) 3 out.length := by cases out with | nil => exact absurd rfl h | cons => rfl
theorem yx2 {out : List Piece} (h : out ≠ []) : outA out = [((36, 0), .mu 3 (out.map Piece.enc))] := by cases out with | nil => exact absurd rfl h | cons => rfl
theorem Tryz.kCoalesce (ps : List Piece) (hn : ps.length ≤ 131072) (hr : ∀ p ∈ ps, p.row.length ≤ 1048576) : zzr Tryz.prog 17 [pD (zzk ps)] (.one (.d (zzk (coalesce ps)))) := by
 refine Tryz.pure (md := [36]) Tryz.func17 rfl Tryz.call17 (by kernel_rfl) (by rfl) (by exact Zle rfl) ?_
 repeat' (first|(with_reducible first|refine vSq fun K hK=>?_|apply vRg|apply vBl|apply vSc|apply vIf|apply vSk|apply vEx|apply vRt|((first|apply gNt|apply gCs)<;>(intro h;try simp only[h]))|((first|apply hK|(clear hK K;first|apply hK|(clear hK K;first|apply hK|(clear hK K;apply hK))));clear hK K)|(refine todo ?_;simp +decide only[go_sem]))|refine zzd (Tryz.kOwn ps (by omega) hr) rfl rfl (fun _ => rfl) ?_|refine zzd (Tryz.kRight ps (by omega) hr) rfl rfl (fun _ => rfl) ?_)
 · have hR : coalesce ps = co ps := by unfold coalesce; rw [h]; rfl
   rw [hR]
   refine zzj ps.length (fun _ => True) (fun i => frame [(3, .c (.ptr 3 0)), (4, .c (.fn 40 [(3, 0)])), (14, pD (zzk ps)), (15, pD (.lit (.int .i64 ps.length))), (16, pD (.lit (.int .i64 i)))] [(3, [outC (co (ps.take i))])] (outA (co (ps.take i)))) Zti ?_ ?_
   · refine zzb ?_ ?_ ?_ <;> simp +decide only [go_sem, co, List.foldl_nil, outC, outA]
     exact ⟨zzh (by simp [hOf]), z9y (by simp [hOf])⟩
   · intro i hi hI
     dsimp only
     rcases Zlg i ps.length with hlt | hge
     · have hg := Zge hlt
       have hd := zze hlt
       have hwi := zzl hlt (show ps.length ≤ 4294967296 by omega)
       generalize ps[i] = x at hg
       have hx := hr x (Zme hg)
       have hl : (co (ps.take i)).length ≤ i := Nat.le_trans (yzj _) (by rw [Zlt]; omega)
       have hro : ∀ p ∈ co (ps.take i), p.row.length ≤ 1048576 := y0h (fun p hp => hr p (List.mem_of_mem_take hp))
       have hnx := y6x hg
       have hne' : co (ps.take (i + 1)) ≠ [] := by rw [hnx]; exact y0g
       have hC := yx3 hne'
       have hA := yx2 hne'
       rw [hnx] at hC hA
       generalize co (ps.take i) = out at hl hro hnx hC hA ⊢
       cases out with
       | nil =>
         have hs : zjx [] x = [x] := rfl
         rw [hs] at hC hA
         rw [show outC [] = .full [] from rfl, show outA [] = [] from rfl]
         repeat' (first|(with_reducible first|refine vSq fun K hK=>?_|apply vRg|apply vBl|apply vSc|apply vIf|apply vSk|apply vEx|apply vRt|((first|apply gNt|apply gCs)<;>(intro h;try simp only[h]))|((first|apply hK|(clear hK K;first|apply hK|(clear hK K;first|apply hK|(clear hK K;apply hK))));clear hK K)|(refine todo ?_;simp +decide only[go_sem, hg, hd, hwi]))|refine z4e (Tryz.kTouches0 x (yjo (yjo (y5m rfl) rfl) rfl) (id := 3) (by simp +decide only [go_sem])) rfl (zk0 (zk0 (z8g rfl rfl) (by decide)) (by decide)) ?_|refine y6j Tryz.appPieces rfl rfl (zqk rfl) (by simp) rfl ?_)
         refine zzi hlt Zti (zzb ?_ ?_ ?_) <;> simp +decide only [go_sem, hnx, hs, hC, hA]
         · exact ⟨zzh (by simp [hOf]), z9y (by simp [hOf])⟩
         · exact y8i (by simp [aOf]) rfl
       | cons z zs =>
         have hne : z :: zs ≠ [] := List.cons_ne_nil z zs
         rw [yx3 hne, yx2 hne]
         have hpos := List.length_pos_iff.2 hne
         generalize z :: zs = out at *
         have kT := Tryz.kTouches out x (by omega) hro (H := upd (upd (hOf [(3, [.mt (36, 0) 3 out.length])]) 6 (some [.d (.lit (.int .i64 0)), .d (.lit (.int .i64 0)), .full []])) 6 (some [.d (.lit (.int .i64 x.lo)), .d (.lit (.int .i64 x.hi)), .d (zz4 x.row)])) (A := aOf [((36, 0), .mu 3 (out.map Piece.enc))])
          (yjo (yjo xq8 rfl) rfl) (id := 3) (κ := (36, 0)) (by simp +decide only [go_sem]) (by simp +decide only [go_sem])
         cases hto : touches out x with
         | false =>
           rw [hto] at kT
           have hs : zjx out x = out ++ [x] := by unfold zjx; rw [hto]; rfl
           rw [hs] at hC hA
           repeat' (first|(with_reducible first|refine vSq fun K hK=>?_|apply vRg|apply vBl|apply vSc|apply vIf|apply vSk|apply vEx|apply vRt|((first|apply gNt|apply gCs)<;>(intro h;try simp only[h]))|((first|apply hK|(clear hK K;first|apply hK|(clear hK K;first|apply hK|(clear hK K;apply hK))));clear hK K)|(refine todo ?_;simp +decide only[go_sem, hg, hd, hwi]))|refine z4e kT rfl (zk0 (zk0 (z8g rfl rfl) (by decide)) (by decide)) ?_|(refine W_mt Tryz.appPieces (els := out.map Piece.enc) (by simp +decide only [go_sem]) (by simp +decide only [go_sem]) rfl (zqk rfl) (by simp; omega) ?_))
           refine zzi hlt Zti (zzb ?_ ?_ ?_) <;> simp +decide only [go_sem, hnx, hs, hC, hA]
           · exact ⟨zzh (by simp [hOf]), z9y (by simp [hOf])⟩
           · exact y8i (by simp [aOf]) rfl
         | true =>
           rw [hto] at kT
           have hs : zjx out x = yje out x.hi := by unfold zjx; rw [hto]; rfl
           rw [hs] at hC hA
           cases hlast : out.getLast? with
           | none => exact absurd (List.getLast?_eq_none_iff.1 hlast) hne
           | some y =>
             have hgl : out[out.length - 1]? = some y := by rw [← List.getLast?_eq_getElem?]; exact hlast
             have hset : yje out x.hi = out.set (out.length - 1) { y with hi := x.hi } := by unfold yje; rw [hlast]
             have hwr : IntKind.i64.wrap ((out.length : Int) - 1) = ((out.length - 1 : Nat) : Int) := by rw [Go.IntWalk.i64_in _ (by omega)]; omega
             have hll : (out.length - 1 < out.length) = True := eq_true (by omega)
             rw [hset] at hC hA
             repeat' (first|(with_reducible first|refine vSq fun K hK=>?_|apply vRg|apply vBl|apply vSc|apply vIf|apply vSk|apply vEx|apply vRt|((first|apply gNt|apply gCs)<;>(intro h;try simp only[h]))|((first|apply hK|(clear hK K;first|apply hK|(clear hK K;first|apply hK|(clear hK K;apply hK))));clear hK K)|(refine todo ?_;simp +decide only[go_sem, hg, hd, hwi, yvg, hwr, hll, hgl]))|refine z4e kT rfl (zk0 (zk0 (z8g rfl rfl) (by decide)) (by decide)) ?_)
             refine zzi hlt Zti (zzb ?_ ?_ ?_) <;> simp +decide only [go_sem, hnx, hs, hset, hC, hA, List.map_set, List.length_set]
             · exact ⟨zzh (by simp [hOf]), z9y (by simp [hOf])⟩
             · exact y8i (by simp [aOf]) rfl
     · have hd := zzf hge
       rw [Ztl hge]
       generalize hc : co ps = out
       cases out with
       | nil =>
         rw [show outC [] = .full [] from rfl, show outA [] = [] from rfl]
         repeat' (first|(with_reducible first|refine vSq fun K hK=>?_|apply vRg|apply vBl|apply vSc|apply vIf|apply vSk|apply vEx|apply vRt|((first|apply gNt|apply gCs)<;>(intro h;try simp only[h]))|((first|apply hK|(clear hK K;first|apply hK|(clear hK K;first|apply hK|(clear hK K;apply hK))));clear hK K)|(refine todo ?_;simp +decide only[go_sem, hd])))
         rw [hR, hc]
         exact zzs rfl rfl
       | cons y r =>
         rw [yx3 (List.cons_ne_nil y r), yx2 (List.cons_ne_nil y r)]
         repeat' (first|(with_reducible first|refine vSq fun K hK=>?_|apply vRg|apply vBl|apply vSc|apply vIf|apply vSk|apply vEx|apply vRt|((first|apply gNt|apply gCs)<;>(intro h;try simp only[h]))|((first|apply hK|(clear hK K;first|apply hK|(clear hK K;first|apply hK|(clear hK K;apply hK))));clear hK K)|(refine todo ?_;simp +decide only[go_sem, hd])))
         rw [hR, hc]
         exact y9e (36, 0) rfl (sz := 3) (by simp +decide only [go_sem]) (by simp +decide only [go_sem])
 · have hR : coalesce ps = ps := by unfold coalesce; rw [h]; rfl
   rw [hR]
   refine zzs rfl ?_
   simp +decide only [go_sem]
end Go.Proofs
namespace Go.Proofs
open Go.PW
theorem z7m {s t : ByteArray} : s.toList = t.toList ↔ s = t := by
 constructor
 · intro h
   rw [ByteArray.toList_eq, ByteArray.toList_eq] at h
   exact ByteArray.ext (Array.toList_inj.1 h)
 · intro h; rw [h]
theorem Val.same_iff {v w : Val} : v.same w = true ↔ v = w := by
 unfold Val.same
 simp only [Bool.and_eq_true, beq_iff_eq, z7m]
 constructor
 · rintro ⟨h1, h2, h3, h4⟩; cases v; cases w; simp_all
 · rintro rfl; exact ⟨rfl, rfl, rfl, rfl⟩
theorem z6k : ∀ {a b : Row}, zx6 a b = true ↔ a = b
 | [], [] => by simp [zx6]
 | [], _ :: _ => by simp [zx6]
 | _ :: _, [] => by simp [zx6]
 | x :: a, y :: b => by
   have ih := z6k (a := a) (b := b)
   unfold zx6 at ih ⊢
   simp only [List.zipWith_cons_cons, List.all_cons, List.length_cons, Bool.and_eq_true, id_eq, Val.same_iff, beq_iff_eq, Nat.add_right_cancel_iff, List.cons.injEq] at ih ⊢
   rw [← ih]
   constructor
   · rintro ⟨h1, h2, h3⟩; exact ⟨h2, h1, h3⟩
   · rintro ⟨h1, h2, h3⟩; exact ⟨h2, h1, h3⟩
theorem zjt {x y : Piece} : zqg x y = true ↔ x = y := by
 unfold zqg
 simp only [Bool.and_eq_true, z6k, beq_iff_eq]
 constructor
 · rintro ⟨⟨h1, h2⟩, h3⟩; cases x; cases y; simp_all
 · rintro rfl; exact ⟨⟨rfl, rfl⟩, rfl⟩
theorem z1h : ∀ {a b : List Piece}, zq5 a b = true ↔ a = b
 | [], [] => by simp [zq5]
 | [], _ :: _ => by simp [zq5]
 | _ :: _, [] => by simp [zq5]
 | x :: a, y :: b => by
   have ih := z1h (a := a) (b := b)
   unfold zq5 at ih ⊢
   simp only [List.zipWith_cons_cons, List.all_cons, List.length_cons, Bool.and_eq_true, id_eq, zjt, beq_iff_eq, Nat.add_right_cancel_iff, List.cons.injEq] at ih ⊢
   rw [← ih]
   constructor
   · rintro ⟨h1, h2, h3⟩; exact ⟨h2, h1, h3⟩
   · rintro ⟨h1, h2, h3⟩; exact ⟨h2, h1, h3⟩
theorem yj7 {q : List Piece} {x : Piece} : isIn q x = true ↔ x ∈ q := by
 unfold isIn
 rw [List.any_eq_true]
 constructor
 · rintro ⟨y, h, e⟩; rw [zjt.1 e]; exact h
 · intro h; exact ⟨x, h, zjt.2 rfl⟩
def OK (p : Piece) : Prop := (0 ≤ p.lo ∧ p.lo < p.hi ∧ p.hi ≤ 1099511627776) ∧ zqi p.row = true
theorem zzo {a b : Int} : Span.right a b = true ↔ 0 ≤ a ∧ a < b ∧ b ≤ 1099511627776 := by
 unfold Span.right
 simp only [Bool.and_eq_true, decide_eq_true_eq, and_assoc]
theorem z2r : ∀ {ps : List Piece} {e : Int}, zxw e ps = true ↔ (∀ p ∈ ps, OK p ∧ e ≤ p.lo) ∧ ps.Pairwise fun p q => p.hi ≤ q.lo
 | [], e => by simp [zxw]
 | x :: r, e => by
   rw [zxw, Bool.and_eq_true, z2r (ps := r), zqn, Bool.and_eq_true, Bool.and_eq_true, zzo]
   simp only [Bool.not_eq_true', decide_eq_false_iff_not, Int.not_lt, List.pairwise_cons, List.forall_mem_cons, OK]
   constructor
   · rintro ⟨⟨⟨h1, h2⟩, h3⟩, h4, h5⟩
     exact ⟨⟨⟨⟨h1, h2⟩, h3⟩, fun p hp => ⟨(h4 p hp).1, by have := (h4 p hp).2; omega⟩⟩, fun p hp => (h4 p hp).2, h5⟩
   · rintro ⟨⟨⟨⟨h1, h2⟩, h3⟩, h4⟩, h5, h6⟩
     exact ⟨⟨⟨h1, h2⟩, h3⟩, fun p hp => ⟨(h4 p hp).1, h5 p hp⟩, h6⟩
theorem zqu {ps : List Piece} : right ps = true ↔ (∀ p ∈ ps, OK p) ∧ ps.Pairwise fun p q => p.hi ≤ q.lo := by
 rw [right, z2r]
 constructor
 · rintro ⟨h1, h2⟩; exact ⟨fun p hp => (h1 p hp).1, h2⟩
 · rintro ⟨h1, h2⟩; exact ⟨fun p hp => ⟨h1 p hp, (h1 p hp).1.1⟩, h2⟩
theorem z2s {ps qs : List Piece} (h : qs.Sublist ps) (hr : right ps = true) : right qs = true := by
 rw [zqu] at hr ⊢
 exact ⟨fun p hp => hr.1 p (h.subset hp), hr.2.sublist h⟩
theorem z6e {ps : List Piece} (h : right ps = true) : ps.Nodup := by
 rw [zqu] at h
 rw [List.nodup_iff_pairwise_ne]
 refine List.Pairwise.imp_of_mem (fun {p q} hp hq h' e => ?_) h.2
 subst e
 have := (h.1 p hp).1
 omega
theorem y91 {lo hi : Int} {s : Sp} (hp : lo < hi ∧ 0 ≤ lo ∧ hi ≤ 1099511627776) (hs : 0 ≤ s.1 ∧ s.1 < s.2 ∧ s.2 ≤ 1099511627776) :
 cut (lo, hi) s = if hi ≤ s.1 ∨ s.2 ≤ lo then [(lo, hi)] else (if lo < s.1 then [(lo, s.1)] else []) ++ (if s.2 < hi then [(s.2, hi)] else []) := by
 have h1 : Span.right lo hi = true := zzo.2 ⟨hp.2.1, hp.1, hp.2.2⟩
 have h2 : Span.right s.1 s.2 = true := zzo.2 hs
 unfold cut meet
 simp only [h1, h2, Bool.true_and]
 by_cases hm : hi ≤ s.1 ∨ s.2 ≤ lo
 · have : Span.right (iMax lo s.1) (iMin hi s.2) = false := by
    rw [Bool.eq_false_iff]; intro h; rw [zzo] at h; unfold iMax iMin at h; split at h <;> split at h <;> omega
   rw [this, if_pos hm]
   simp [rights, Sp.right, h1]
 · have : Span.right (iMax lo s.1) (iMin hi s.2) = true := by
    rw [zzo]; unfold iMax iMin; split <;> split <;> omega
   rw [this, if_neg hm]
   simp only [if_true, rights, List.filter_cons, List.filter_nil]
   have e1 : Sp.right (lo, iMax lo s.1) = decide (lo < s.1) := by
    rw [Bool.eq_iff_iff, Sp.right, zzo, decide_eq_true_eq]; unfold iMax; split <;> omega
   have e2 : Sp.right (iMin hi s.2, hi) = decide (s.2 < hi) := by
    rw [Bool.eq_iff_iff, Sp.right, zzo, decide_eq_true_eq]; unfold iMin; split <;> omega
   simp only [e1, e2]
   by_cases h3 : lo < s.1
   · have : iMax lo s.1 = s.1 := by unfold iMax; split <;> omega
     by_cases h4 : s.2 < hi
     · have h5 : iMin hi s.2 = s.2 := by unfold iMin; split <;> omega
       simp [h3, h4, this, h5]
     · simp [h3, h4, this]
   · by_cases h4 : s.2 < hi
     · have h5 : iMin hi s.2 = s.2 := by unfold iMin; split <;> omega
       simp [h3, h4, h5]
     · simp [h3, h4]
def SpOK (s : Sp) : Prop := 0 ≤ s.1 ∧ s.1 < s.2 ∧ s.2 ≤ 1099511627776
theorem zwn {p : Piece} {s : Sp} (hp : OK p) (hs : SpOK s) : zwm s p = if p.hi ≤ s.1 ∨ s.2 ≤ p.lo then [p] else (if p.lo < s.1 then [⟨p.lo, s.1, p.row⟩] else []) ++ (if s.2 < p.hi then [⟨s.2, p.hi, p.row⟩] else []) := by
 obtain ⟨⟨h1, h2, h3⟩, _⟩ := hp
 rw [zwm, y91 ⟨h2, h1, h3⟩ hs]
 split
 · rfl
 · split <;> split <;> rfl
theorem zv7 {p x : Piece} {s : Sp} (hp : OK p) (hs : SpOK s) (h : x ∈ zwm s p) : OK x ∧ p.lo ≤ x.lo ∧ x.hi ≤ p.hi ∧ (x.hi ≤ s.1 ∨ s.2 ≤ x.lo) := by
 rw [zwn hp hs] at h
 obtain ⟨⟨h1, h2, h3⟩, h4⟩ := hp
 obtain ⟨k1, k2, k3⟩ := hs
 split at h
 · rw [Zmg] at h
   subst h
   exact ⟨⟨⟨h1, h2, h3⟩, h4⟩, by omega, by omega, by assumption⟩
 · rename_i hm
   rw [Zma] at h
   rcases h with h | h <;> split at h
   · rw [Zmg] at h
     subst h
     exact ⟨⟨⟨h1, by assumption, by show s.1 ≤ _; omega⟩, h4⟩, by simp, by show s.1 ≤ _; omega, .inl (by simp)⟩
   · cases h
   · rw [Zmg] at h
     subst h
     exact ⟨⟨⟨by show 0 ≤ s.2; omega, by assumption, h3⟩, h4⟩, by show _ ≤ s.2; omega, by simp, .inr (by simp)⟩
   · cases h
theorem ywb {p : Piece} {s : Sp} (hp : OK p) (hs : SpOK s) : (zwm s p).Pairwise fun p q => p.hi ≤ q.lo := by
 rw [zwn hp hs]
 obtain ⟨k1, k2, k3⟩ := hs
 split
 · simp
 · split <;> split <;> simp
   omega
theorem yja {ps : List Piece} {s : Sp} (h : right ps = true) (hs : SpOK s) : right (rests s ps) = true := by
 rw [zqu] at h ⊢
 obtain ⟨h1, h2⟩ := h
 constructor
 · intro x hx
   obtain ⟨p, hp, hx⟩ := List.mem_flatMap.1 hx
   exact (zv7 (h1 p hp) hs hx).1
 · rw [rests, List.pairwise_flatMap]
   refine ⟨fun p hp => ywb (h1 p hp) hs, List.Pairwise.imp_of_mem (fun {p q} hp hq h' x hx y hy => ?_) h2⟩
   have a := zv7 (h1 p hp) hs hx
   have b := zv7 (h1 q hq) hs hy
   omega
theorem yx9 {ps : List Piece} {s : Sp} (h : right ps = true) (hs : SpOK s) : ∀ x ∈ rests s ps, x.hi ≤ s.1 ∨ s.2 ≤ x.lo := by
 rw [zqu] at h
 intro x hx
 obtain ⟨p, hp, hx⟩ := List.mem_flatMap.1 hx
 exact (zv7 (h.1 p hp) hs hx).2.2.2
theorem y14 {p : Piece} {s : Sp} (hp : OK p) (hs : SpOK s) : (zwm s p).length ≤ 1 ∨ ((zwm s p).length ≤ 2 ∧ s.2 < p.hi) := by
 rw [zwn hp hs]
 split
 · simp
 · split <;> split <;> simp_all
theorem yqk {s : Sp} (hs : SpOK s) : ∀ {ps : List Piece}, (∀ p ∈ ps, OK p ∧ s.2 ≤ p.lo) → rests s ps = ps
 | [], _ => rfl
 | p :: r, h => by
   have hp := h p (Zms2 ..)
   have e : zwm s p = [p] := by rw [zwn hp.1 hs, if_pos (.inr hp.2)]
   have ih := yqk hs (ps := r) (fun q hq => h q (List.mem_cons_of_mem _ hq))
   unfold rests at ih ⊢
   rw [List.flatMap_cons, e, ih]
   rfl
theorem yql {s : Sp} (hs : SpOK s) : ∀ {ps : List Piece}, right ps = true → (rests s ps).length ≤ ps.length + 1
 | [], _ => by simp [rests]
 | p :: r, h => by
   have hr : right r = true := z2s (List.sublist_cons_self p r) h
   rw [zqu, List.pairwise_cons] at h
   have hp := h.1 p (Zms2 ..)
   have ih := yql hs hr
   have e : (rests s (p :: r)).length = (zwm s p).length + (rests s r).length := by unfold rests; rw [List.flatMap_cons, Zla]
   rw [e, List.length_cons]
   rcases y14 hp hs with h1 | ⟨h1, h2⟩
   · omega
   · rw [yqk hs (fun q hq => ⟨h.1 q (List.mem_cons_of_mem _ hq), by have := h.2.1 q hq; omega⟩)]
     omega
theorem z7r {ps : List Piece} {s : Sp} (h : right ps = true) : right (drop ps s) = true := by
 unfold drop
 split
 · rename_i hc
   rw [Bool.and_eq_true, zzo] at hc
   exact yja h hc.2
 · exact h
theorem yjx {ps : List Piece} {s : Sp} (h : right ps = true) : (drop ps s).length ≤ ps.length + 1 := by
 unfold drop
 split
 · rename_i hc
   rw [Bool.and_eq_true, zzo] at hc
   exact yql hc.2 h
 · omega
theorem yzz {q : List Piece} {s : Sp} {r : Row} (h : right q = true) (hs : SpOK s) (hr : zqi r = true) (ha : ∀ x ∈ q, x.hi ≤ s.1 ∨ s.2 ≤ x.lo) : right (insert' s r q) = true := by
 have hq := (List.takeWhile_append_dropWhile (p := ahead s) (l := q)).symm
 rw [zqu] at h ⊢
 obtain ⟨h1, h2⟩ := h
 have hmt : ∀ x ∈ q.takeWhile (ahead s), x ∈ q ∧ x.lo < s.1 := fun x hx => ⟨(List.takeWhile_sublist _).subset hx, by have := List.all_eq_true.1 (List.all_takeWhile (p := ahead s) (l := q)) x hx; simpa [ahead] using this⟩
 have hmd : ∀ x ∈ q.dropWhile (ahead s), x ∈ q ∧ s.1 ≤ x.lo := by
  have hp : (q.dropWhile (ahead s)).Pairwise fun p q => p.hi ≤ q.lo := h2.sublist (List.dropWhile_sublist _)
  have hsub : ∀ x ∈ q.dropWhile (ahead s), x ∈ q := fun x hx => (List.dropWhile_sublist _).subset hx
  cases hd : q.dropWhile (ahead s) with
  | nil => intro x hx; cases hx
  | cons y t =>
    have hy : ahead s y = false := by
     have := List.head?_dropWhile_not (ahead s) q
     rw [hd] at this
     simpa using this
    have hy' : s.1 ≤ y.lo := by simpa [ahead] using hy
    rw [hd] at hp hsub
    intro x hx
    rcases List.mem_cons.1 hx with rfl | hx'
    · exact ⟨hsub _ hx, hy'⟩
    · have := (List.pairwise_cons.1 hp).1 x hx'
      have := (h1 y (hsub y (Zms2 ..))).1
      exact ⟨hsub _ hx, by omega⟩
 constructor
 · intro p hp
   rcases List.mem_append.1 hp with hp | hp
   · exact h1 p (hmt p hp).1
   · rcases List.mem_cons.1 hp with rfl | hp
     · exact ⟨hs, hr⟩
     · exact h1 p (hmd p hp).1
 · rw [insert', List.pairwise_append, List.pairwise_cons]
   refine ⟨h2.sublist (List.takeWhile_sublist _), ⟨fun x hx => ?_, h2.sublist (List.dropWhile_sublist _)⟩, fun a ha' b hb => ?_⟩
   · have := ha x (hmd x hx).1
     have := (hmd x hx).2
     have := (h1 x (hmd x hx).1).1
     show s.2 ≤ x.lo
     omega
   · have h3 := hmt a ha'
     have h4 := ha a h3.1
     have h5 := (h1 a h3.1).1
     obtain ⟨k1, k2, k3⟩ := hs
     rcases List.mem_cons.1 hb with rfl | hb
     · show a.hi ≤ s.1
       omega
     · have h6 := hmd b hb
       omega
theorem yvh (q : List Piece) (s : Sp) (r : Row) : (insert' s r q).length = q.length + 1 := by
 have := congrArg List.length (List.takeWhile_append_dropWhile (p := ahead s) (l := q))
 rw [Zla] at this
 rw [insert', Zla, List.length_cons]
 omega
theorem zj6 {ps : List Piece} {s : Sp} {r : Row} (h : right ps = true) : right (putP ps s r) = true := by
 unfold putP
 split
 · rename_i hc
   rw [Bool.and_eq_true, Bool.and_eq_true, zzo] at hc
   obtain ⟨⟨_, hs⟩, hr⟩ := hc
   refine yzz (z7r h) hs hr ?_
   have hd : drop ps s = rests s ps := by unfold drop; rw [h, zzo.2 hs]; rfl
   rw [hd]
   exact yx9 h hs
 · exact h
theorem y4n {ps : List Piece} {s : Sp} {r : Row} (h : right ps = true) : (putP ps s r).length ≤ ps.length + 2 := by
 unfold putP
 split
 · rw [yvh]; have := yjx (s := s) h; omega
 · omega
structure OpP where
 dr : Bool
 s : Sp
 row : Row
def OpP.enc (o : OpP) : List D := [.lit (.bool o.dr), .lit (.int .i64 o.s.1), .lit (.int .i64 o.s.2), zz4 o.row]
def y94 (l : List OpP) : D := .sl (l.map OpP.enc)
attribute [go_sem] OpP.enc y94
theorem zvg {ps q : List Piece} {x : Piece} : x ∈ without ps q ↔ x ∈ ps ∧ x ∉ q := by
 rw [without, List.mem_filter, Bool.not_eq_true', Bool.eq_false_iff]
 exact and_congr Iff.rfl (not_congr yj7)
theorem z9x {ps q : List Piece} (h : right ps = true) : right (without ps q) = true := z2s List.filter_sublist h
theorem z74 {s : Sp} (hs : SpOK s) : ∀ {q : List Piece}, (∀ x ∈ q, OK x ∧ (x.hi ≤ s.1 ∨ s.2 ≤ x.lo)) → rests s q = q
 | [], _ => rfl
 | p :: r, h => by
   have hp := h p (Zms2 ..)
   have e : zwm s p = [p] := by rw [zwn hp.1 hs, if_pos hp.2]
   have ih := z74 hs (q := r) (fun q hq => h q (List.mem_cons_of_mem _ hq))
   unfold rests at ih ⊢
   rw [List.flatMap_cons, e, ih]
   rfl
def puts (s : Sp) (r : Row) : Bool := Span.right s.1 s.2 && zqi r
theorem z9h {ps : List Piece} {s : Sp} {r : Row} (hp : right ps = true) (h : puts s r = true) : putP ps s r = insert' s r (rests s ps) := by
 unfold puts at h
 have h' := h
 rw [Bool.and_eq_true] at h'
 unfold putP drop
 rw [Bool.and_assoc, hp, h, h'.1]
 rfl
theorem yqn : ∀ {a b : List Piece}, right a = true → right b = true → (∀ x, x ∈ a ↔ x ∈ b) → a = b := by
 intro a b ha hb h
 refine List.Perm.eq_of_pairwise (le := fun p q => p = q ∨ p.hi ≤ q.lo) (fun x y hx hy h1 h2 => ?_) ?_ ?_ ((List.perm_ext_iff_of_nodup (z6e ha) (z6e hb)).2 h)
 · rcases h1 with h1 | h1
   · exact h1
   · rcases h2 with h2 | h2
     · exact h2.symm
     · have h3 := ((zqu.1 ha).1 x hx).1
       have h4 := ((zqu.1 hb).1 y hy).1
       omega
 · exact (zqu.1 ha).2.imp fun h => .inr h
 · exact (zqu.1 hb).2.imp fun h => .inr h
theorem Tryz.kRows (a b : Row) (hr : a.length ≤ 4294967296) : zzr Tryz.prog 104 [pD (zz4 a), pD (zz4 b)] (.one (dB (zx6 a b))) := by
 refine Tryz.pure (md := []) Tryz.func104 rfl Tryz.call104 (by kernel_rfl) (by rfl) (by exact Zle rfl) ?_
 repeat' (first|(with_reducible first|refine vSq fun K hK=>?_|apply vRg|apply vBl|apply vSc|apply vIf|apply vSk|apply vEx|apply vRt|((first|apply gNt|apply gCs)<;>(intro h;try simp only[h]))|((first|apply hK|(clear hK K;first|apply hK|(clear hK K;first|apply hK|(clear hK K;apply hK))));clear hK K)|(refine todo ?_;simp +decide only[go_sem])))
 · refine zzs rfl ?_
   have hne : (a.length == b.length) = false := by
    rw [beq_eq_false_iff_ne]; intro e; rw [e] at h; simp at h
   simp +decide only [go_sem, zx6, hne]
 · have hlen : a.length = b.length := by
    have e : ((a.length : Int) == (b.length : Int)) = true := by simpa [bne] using h
    exact Int.ofNat_inj.1 (by simpa using e)
   refine zzj a.length (fun i => (List.zipWith Val.same (a.take i) (b.take i)).all id = true) (fun i => frame [(0, pD (zz4 a)), (1, pD (zz4 b)), (5, pD (.lit (.int .i64 i)))] [] []) rfl ?_ ?_
   · refine zzb ?_ ?_ ?_ <;> simp +decide only [go_sem]
   · intro i hi hI
     rcases Zlg i a.length with hlt | hge
     · have hg := Zge hlt
       have hg' := Zge (show i < b.length by omega)
       have hd := zze hlt
       have hw := zzl hlt hr
       generalize a[i] = x at hg
       generalize b[i] = y at hg'
       repeat' (first|(with_reducible first|refine vSq fun K hK=>?_|apply vRg|apply vBl|apply vSc|apply vIf|apply vSk|apply vEx|apply vRt|((first|apply gNt|apply gCs)<;>(intro h;try simp only[h]))|((first|apply hK|(clear hK K;first|apply hK|(clear hK K;first|apply hK|(clear hK K;apply hK))));clear hK K)|(refine todo ?_;simp +decide only[go_sem, hg, hg', hd, hw])))
       · refine zzi hlt (yqy hI hg hg' h) (zzb ?_ ?_ ?_) <;> simp +decide only [go_sem]
       · refine zzs rfl ?_
         simp +decide only [go_sem, zx6, yks hg hg' h]
     · have hd := zzf hge
       rw [Ztl hge, Ztl (show b.length ≤ i by omega)] at hI
       repeat' (first|(with_reducible first|refine vSq fun K hK=>?_|apply vRg|apply vBl|apply vSc|apply vIf|apply vSk|apply vEx|apply vRt|((first|apply gNt|apply gCs)<;>(intro h;try simp only[h]))|((first|apply hK|(clear hK K;first|apply hK|(clear hK K;first|apply hK|(clear hK K;apply hK))));clear hK K)|(refine todo ?_;simp +decide only[go_sem, hd])))
       refine zzs rfl ?_
       simp +decide only [go_sem, zx6, hI, hlen]
end Go.Proofs
