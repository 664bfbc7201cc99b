/-
  Parts of the proof, laid together: PwKc, PwKd.
-/
import Derived.Test.YtemecklglapleaaGreatQ37

set_option maxRecDepth 30000
set_option maxHeartbeats 16000000
namespace Go.Proofs
open Go.PW
def zxd (l : List Txn) : Int := match l.getLast? with
 | none => -1
 | some x => x.time
theorem Tryz.kLastM (l : List Txn) (hl : l.length ≤ 1048576) : zzr Tryz.prog 16 [pD (zq1 l)] (.one (.d (dI (zxd l)))) := by
 refine Tryz.pure (md := []) Tryz.func16 rfl Tryz.call16 (by kernel_rfl) (by rfl) (by exact Zle rfl) ?_
 rcases List.eq_nil_or_concat l with rfl | ⟨l', x, rfl⟩
 · repeat' (first
    |with_reducible first|refine vSq fun K hK=>?_|refine vRg ?_|refine vBl ?_|refine vSc ?_|refine vIf ?_|refine vSk ?_|refine vEx ?_|refine vRt ?_
    |(with_reducible first|refine gNt (fun h=>?_) (fun h=>?_)|refine gCs (fun h=>?_) (fun h=>?_))<;>(try simp only[h])
    |with_reducible first|(refine hK _ ?_;clear hK K)|(clear hK K;refine hK _ ?_;clear hK K)|(clear hK K;clear hK K;refine hK _ ?_;clear hK K)|(clear hK K;clear hK K;clear hK K;refine hK _ ?_;clear hK K)
    |(with_reducible refine todo ?_;simp +decide only[go_sem]))
   refine zzs rfl ?_
   simp +decide only [go_sem, zxd, List.getLast?_nil]
 · rw [List.concat_eq_append] at hl ⊢
   have hne : (((l' ++ [x]).length : Int) == 0) = false := by rw [beq_eq_false_iff_ne, Zla, List.length_singleton]; omega
   have hw1 : IntKind.i64.wrap (((l' ++ [x]).length : Int) - 1) = (l'.length : Int) := by rw [Zla, List.length_singleton] at hl ⊢; rw [Go.IntWalk.i64_in _ (by omega)]; omega
   have hg : (l' ++ [x])[l'.length]? = some x := by simp
   have hlast : zxd (l' ++ [x]) = x.time := by unfold zxd; rw [List.getLast?_concat]
   generalize l' ++ [x] = l at *
   repeat' (first|(with_reducible first|refine vSq fun K hK=>?_|apply vRg|apply vBl|apply vSc|apply vIf|apply vSk|apply vEx|apply vRt|((first|apply gNt|apply gCs)<;>(intro h;try simp only[h]))|((first|apply hK|(clear hK K;first|apply hK|(clear hK K;first|apply hK|(clear hK K;apply hK))));clear hK K)|(refine todo ?_;simp +decide only[go_sem, hne, hw1, hg])))
   refine zzs rfl ?_
   simp +decide only [go_sem, hlast]
def xz5 (s : Sch) (p : Piece) : Piece := ⟨p.lo, p.hi, widen s p.row⟩
def zw5 (s : Sch) (ps : List Piece) : List Piece := ps.map (xz5 s)
theorem Tryz.kTold (s : Sch) (ps : List Piece) (hs : s.sz) (hn : ps.length ≤ 1048576) : zzr Tryz.prog 83 [pA s.enc, pD (zzk ps)] (.one (.d (zzk (zw5 s ps)))) := by
 refine Tryz.pure (md := []) Tryz.func83 rfl Tryz.call83 (by kernel_rfl) (by rfl) (by exact Zle rfl) ?_
 repeat' (first|(with_reducible first|refine vSq fun K hK=>?_|apply vRg|apply vBl|apply vSc|apply vIf|apply vSk|apply vEx|apply vRt|((first|apply gNt|apply gCs)<;>(intro h;try simp only[h]))|((first|apply hK|(clear hK K;first|apply hK|(clear hK K;first|apply hK|(clear hK K;apply hK))));clear hK K)|(refine todo ?_;simp +decide only[go_sem])))
 refine zzj ps.length (fun _ => True) (fun i => frame [(2, .c (.ptr 2 0)), (8, pD (zzk ps)), (9, pD (dI ps.length)), (10, pD (dI i)), (5, .c (.own (25, 0) ((zw5 s (ps.take i)).map Piece.enc)))] [(2, s.enc.map .d)] [((25, 0), .co 3 (zw5 s (ps.take i)).length)]) Zti ?_ ?_
 · refine zzb ?_ ?_ ?_ <;> simp +decide only [go_sem]
   · exact ⟨zzh (by simp [hOf]), zju rfl rfl⟩
   · exact rfl
 · intro i hi hI
   rcases Zlg i ps.length with hlt | hge
   · have hg := Zge hlt
     have hd := zze hlt
     have hw := zzl hlt (show ps.length ≤ 4294967296 by omega)
     generalize ps[i] = x at hg
     have kw := Tryz.kWiden s x.row hs
     have htk := zzw hg
     have htk2 : zw5 s (ps.take (i + 1)) = zw5 s (ps.take i) ++ [xz5 s x] := by unfold zw5; rw [htk, List.map_append]; rfl
     have hl : (ps.take i).length = i := by rw [Zlt]; omega
     have hl2 : (zw5 s (ps.take i)).length = i := by unfold zw5; rw [List.length_map, hl]
     repeat' (first|(with_reducible first|refine vSq fun K hK=>?_|apply vRg|apply vBl|apply vSc|apply vIf|apply vSk|apply vEx|apply vRt|((first|apply gNt|apply gCs)<;>(intro h;try simp only[h]))|((first|apply hK|(clear hK K;first|apply hK|(clear hK K;first|apply hK|(clear hK K;apply hK))));clear hK K)|(refine todo ?_;simp +decide only[go_sem, hg, hd, hw]))|refine zzd kw rfl rfl (fun j => by simp [aOf]) ?_|(refine zx1 Tryz.appPieces rfl (zqm _) (zqk rfl) (by simp; omega) (by simp; rfl) ?_))
     refine zzi hlt Zti (zzb ?_ ?_ ?_) <;> simp +decide only [go_sem, htk2]
     exact ⟨zzh (by simp [hOf]), zqb (by simp [aOf]) rfl⟩
   · have hd := zzf hge
     rw [Ztl hge]
     repeat' (first|(with_reducible first|refine vSq fun K hK=>?_|apply vRg|apply vBl|apply vSc|apply vIf|apply vSk|apply vEx|apply vRt|((first|apply gNt|apply gCs)<;>(intro h;try simp only[h]))|((first|apply hK|(clear hK K;first|apply hK|(clear hK K;first|apply hK|(clear hK K;apply hK))));clear hK K)|(refine todo ?_;simp +decide only[go_sem, hd])))
     exact zzs rfl rfl
theorem Tryz.stateS_sm {l : List Txn} {tab : List UInt8} (h : LSm l tab) (k : List UInt8) (t : Int) : (zq4 l tab k t).length ≤ 131072 ∧ ∀ p ∈ zq4 l tab k t, p.row.length ≤ 1048576 := by
 have h00 : stI 0 none := ⟨Nat.zero_le _, fun p hp => by cases hp⟩
 have hI := z3d (Tryz.rowDo (Tryz.stDo k (tot l) h.cnt) (schS l tab 1099511627776) h.ks) (tab := tab) (t := t) l (p := (0, none)) h00 (by show 0 + _ ≤ _; omega) (fun x hx c hc => ((h.cs x hx).2 c hc).2)
 refine ⟨?_, hI.2⟩
 have h1 := hI.1
 have h2 : (zq4 l tab k t).length = ((zxv l tab t (zqp (schS l tab 1099511627776) (zx9 k)) (0, none)).2.getD []).length := rfl
 have h3 := z4p (tab := tab) (t := t) (step := zqp (schS l tab 1099511627776) (zx9 k)) l (0, none)
 have h4 := h.cnt
 rw [h2]
 simp only [Nat.zero_add] at h3
 omega
def askE (q : Qy) (l : List Txn) (s : Sch) (hz : Int) : List D := [dI q.kind, dS q.tab, zz4 q.key, dI q.t, dI q.v, dI q.lo, dI q.hi, .sl [], .sl [], dI 0, .lit (.bool false), zq1 l, dS s.name, zwh s.cols, dI s.keys, dI hz]
attribute [go_sem] askE
def nowQ (q : Qy) : Bool := q.kind == 1 || q.kind == 2
theorem Tryz.kNow (q : Qy) (l : List Txn) (s : Sch) (hz : Int) {H : HMap} {A : AMap} (hw : Wf H A) (hid : H 19 = some ((askE q l s hz).map .d)) :
 zqf Tryz.prog 54 2000 H A [.c (.ptr 19 0)] (pD (.lit (.bool (nowQ q)))) H A := by
 refine zqh (E := envOf Tryz.prog [] 2000 [] []) (zzx Tryz.mixed) Tryz.func54 rfl Tryz.call54 (by kernel_rfl) (by exact Zle rfl) (fun hab => ?_)
 repeat' (first|(with_reducible first|refine vSq fun K hK=>?_|apply vRg|apply vBl|apply vSc|apply vIf|apply vSk|apply vEx|apply vRt|((first|apply gNt|apply gCs)<;>(intro h;try simp only[h]))|((first|apply hK|(clear hK K;first|apply hK|(clear hK K;first|apply hK|(clear hK K;apply hK))));clear hK K)|(refine todo ?_;simp +decide only[go_sem, hid])))
 all_goals exact zql (zzu (p := pD (.lit (.bool (nowQ q)))) rfl (by unfold zzn; simp +decide only [go_sem, nowQ, *])) (by simp +decide only [go_sem]) Zti hw (fun i hi => rfl) (fun _ _ => rfl)
theorem z2y (s : Sch) (ps : List Piece) : (zw5 s ps).length = ps.length := List.length_map ..
theorem y2t {s : Sch} (r : Row) : (widen s r).length ≤ 1048576 := by
 unfold widen
 split
 · split
   · exact Nat.zero_le _
   · split
     · rename_i h1 h2 _
       have hle : r.length ≤ s.cols.length := by simp only [decide_eq_true_eq] at h2; omega
       have hn := z2i h1
       rw [yq8 hle]
       omega
     · exact Nat.zero_le _
 · exact Nat.zero_le _
theorem z6s {s : Sch} {ps : List Piece} : ∀ p ∈ zw5 s ps, p.row.length ≤ 1048576 := fun p hp => by
 obtain ⟨x, _, rfl⟩ := List.mem_map.1 hp
 exact y2t x.row
def hadS (q : Qy) (l : List Txn) (s : Sch) (k : List UInt8) (t : Int) : List Piece := coalesce (zw5 s (zq4 l q.tab k t))
theorem Tryz.kHad (q : Qy) (l : List Txn) (s : Sch) (hz : Int) (k : List UInt8) (t : Int) (hl : LSm l q.tab) (hs : s.sz) {H : HMap} {A : AMap} (hw : Wf H A) (hid : H 19 = some ((askE q l s hz).map .d)) :
 zqf Tryz.prog 82 3000 H A [.c (.ptr 19 0), pD (dS k), pD (dI t)] (pD (zzk (hadS q l s k t))) H A := by
 refine zqh (E := envOf Tryz.prog [9000000 + 8, 9000000 + 83, 9000000 + 17] 3000 [] []) (zzx Tryz.mixed) Tryz.func82 rfl Tryz.call82 (by kernel_rfl) (by exact Zle rfl) (fun hab => ?_)
 have k1 := Tryz.kState l q.tab k t hl
 obtain ⟨n1, n2⟩ := Tryz.stateS_sm hl k t
 have k2 := Tryz.kTold s (zq4 l q.tab k t) hs (by omega)
 have k3 := Tryz.kCoalesce (zw5 s (zq4 l q.tab k t)) (by rw [z2y]; exact n1) z6s
 repeat' (first|(with_reducible first|refine vSq fun K hK=>?_|apply vRg|apply vBl|apply vSc|apply vIf|apply vSk|apply vEx|apply vRt|((first|apply gNt|apply gCs)<;>(intro h;try simp only[h]))|((first|apply hK|(clear hK K;first|apply hK|(clear hK K;first|apply hK|(clear hK K;apply hK))));clear hK K)|(refine todo ?_;simp +decide only[go_sem, hid]))|refine zzq k1 rfl rfl rfl rfl ?_|refine zzq k2 rfl rfl rfl rfl ?_|refine zzq k3 rfl rfl rfl rfl ?_)
 exact zql (zzu (p := pD (zzk (hadS q l s k t))) rfl (by unfold zzn; simp +decide only [go_sem, hadS])) (by simp +decide only [go_sem]) Zti hw (fun i hi => rfl) (fun _ _ => rfl)
def z5m (H : HMap) : Prop := ∀ id cs, H id = some cs → ∀ c ∈ cs, ∃ d, c = .d d
theorem zj9 {H : HMap} {A : AMap} (h : z5m H) : Wf H A := fun id cs c e hc => by
 obtain ⟨d, rfl⟩ := h id cs e c hc
 exact Zti
theorem z5u {H : HMap} {A A' : AMap} {S : St} (hD : z5m H) (hb : ∀ id, H id ≠ none → S.H id = H id) {all : List (Nat × List CV)} : ∀ {l : List (Nat × List CV)}, z4h (zzy all H) A A' S.H l → ∀ id, zzy l H id = none ∨ ∃ cs ds, zzy l H id = some cs ∧ S.H id = some ds ∧ cs.length = ds.length ∧
 ∀ (k : Nat) (c d : CV), cs[k]? = some c → ds[k]? = some d → CV.wk (zzy all H) A A' c d
 | [], _, t => by
   cases hH : H t with
   | none => exact .inl hH
   | some cs =>
     refine .inr ⟨cs, cs, hH, by rw [hb t (by rw [hH]; simp), hH], rfl, fun k c d h1 h2 => ?_⟩
     rw [h1] at h2
     cases h2
     obtain ⟨_, rfl⟩ := hD t cs hH c (Zme h1)
     exact .inr (.inl ⟨rfl, Zti⟩)
 | (u, x) :: r, h, t => by
   unfold zzy
   split
   · rename_i e
     subst e
     right
     obtain ⟨h1, _⟩ := h
     cases hH : S.H t with
     | none => rw [hH] at h1; exact h1.elim
     | some ds => rw [hH] at h1; exact ⟨x, ds, rfl, rfl, zjj h1⟩
   · exact z5u hD hb h.2 t
theorem zqe {H : HMap} {S : St} {l : List (Nat × PV)} {h : List (Nat × List CV)} {a : List (Tok × Arr)} (hD : z5m H) (hb : ∀ id, H id ≠ none → S.H id = H id) (h1 : z84 (zzy h H) S.A (aOf a) S.ρ l) (h2 : z4h (zzy h H) S.A (aOf a) S.H h) (h3 : yxq S.A a) : Weak H noA S (over l h H (aOf a)) :=
 ⟨fun t => zj3 h1 t, fun id => z5u hD hb h2 id, fun κ => z3e h3 κ, fun _ h => zx8 h, fun _ h => absurd rfl h⟩
def z1c (l : List Txn) (lo hi : Int) : List Int := (l.filter fun x => decide (lo < x.time) && decide (x.time < hi)).map (·.time)
def z3c (l : List Txn) (lo hi : Int) : List Int := lo :: z1c l lo hi ++ [hi]
theorem z17 {P : Program} {fn : Func} {H : HMap} {A : AMap} {els : List (List D)} {κ : Tok} {S : St} (hp : zve P S fn.results.toList = some (.c (.own κ els))) (hw : Wf H A) (hH : ∀ i, H i ≠ none → S.H i = H i) (hA : ∀ κ, A κ ≠ none → S.A κ = A κ) : RetR P fn H A (pD (.sl els)) H A S :=
 zql hp (wk_c (.inr (.inr (.inl ⟨_, rfl, .inr ⟨_, rfl⟩⟩)))) Zti hw hH hA
def cutC (lo : Int) : List Int → PV
 | [] => .c (.full [[dI lo]])
 | x :: xs => .c (.own (3036, 0) ((lo :: x :: xs).map fun n => [dI n]))
def cutA : List Int → List (Tok × Arr)
 | [] => []
 | _ :: xs => [((3036, 0), .co 1 (xs.length + 2))]
def y62 (lo hi : Int) (x : Txn) : Bool := decide (lo < x.time) && decide (x.time < hi)
theorem yvb {l : List Txn} {i : Nat} {x : Txn} {lo hi : Int} (h : l[i]? = some x) : z1c (l.take (i + 1)) lo hi = if y62 lo hi x = true then z1c (l.take i) lo hi ++ [x.time] else z1c (l.take i) lo hi := by
 unfold z1c
 rw [zzw h, List.filter_append, List.map_append, List.filter_cons, List.filter_nil]
 unfold y62
 split
 · rfl
 · exact List.append_nil _
theorem y0m {H' : HMap} {lo : Int} {xs : List Int} : PV.wk H' (aOf (cutA xs)) (aOf (cutA xs)) (cutC lo xs) (cutC lo xs) := by
 cases xs with
 | nil => exact wk_c (.inr (.inl ⟨rfl, Zti⟩))
 | cons y ys => exact zqb (by simp [aOf, cutA]) rfl
theorem yzk {xs : List Int} : yxq (aOf (cutA xs)) (cutA xs) := by
 cases xs with
 | nil => exact Zti
 | cons y ys => simp [yxq, y1f, aOf, cutA]
theorem z5l (l : List Txn) (lo hi : Int) : (z1c l lo hi).length ≤ l.length := by
 unfold z1c
 rw [List.length_map]
 exact List.length_filter_le _ _
def z8v (l : List Int) : D := .sl (l.map fun n => [dI n])
attribute [go_sem] z8v
theorem y2l (l : List Int) : Szd 1 (l.map fun n => [dI n]) := fun e he => by
 obtain ⟨p, _, rfl⟩ := List.mem_map.1 he
 rfl
theorem Tryz.appInts : AppT Tryz.prog 55 3 1 8 := ⟨Tryz.underlying55, Tryz.cl3, Tryz.by3, Tryz.zo3, by decide, by decide⟩
theorem Tryz.kCuts (q : Qy) (l : List Txn) (s : Sch) (hz : Int) (lo b : Int) (hl : l.length ≤ 1048576) {H : HMap} (hD : z5m H) (hid : H 19 = some ((askE q l s hz).map .d)) :
 zqf Tryz.prog 81 3000 H noA [.c (.ptr 19 0), pA (zqj lo b)] (pD (z8v (z3c l lo b))) H noA := by
 refine zqh (E := envOf Tryz.prog [] 3000 [] []) (zzx Tryz.mixed) Tryz.func81 rfl Tryz.call81 (by kernel_rfl) (by exact Zle rfl) (fun hab => ?_)
 have h3 : H 3003 = none := (hab _ (by omega)).1
 have h7 : H 3007 = none := (hab _ (by omega)).1
 have a36 : noA (3036, 0) = none := rfl
 repeat' (first|(with_reducible first|refine vSq fun K hK=>?_|apply vRg|apply vBl|apply vSc|apply vIf|apply vSk|apply vEx|apply vRt|((first|apply gNt|apply gCs)<;>(intro h;try simp only[h]))|((first|apply hK|(clear hK K;first|apply hK|(clear hK K;first|apply hK|(clear hK K;apply hK))));clear hK K)|(refine todo ?_;simp +decide only[go_sem, hid, h3])))
 refine zzj l.length (fun _ => True) (fun i => over [(3, .c (.ptr 3003 0)), (14, pD (zq1 l)), (15, pD (dI l.length)), (16, pD (dI i)), (5, cutC lo (z1c (l.take i) lo b))] [(3003, [.d (dI lo), .d (dI b)])] H (aOf (cutA (z1c (l.take i) lo b)))) Zti ?_ ?_
 · have e0 : z1c (l.take 0) lo b = [] := rfl
   rw [e0]
   refine zqe hD (fun id hid => ?_) ?_ ?_ ?_ <;> simp +decide only [go_sem, cutC, cutA]
   · rw [if_neg (fun e => hid (by rw [e]; exact h3))]
   · exact zzh (by simp [zzy])
 · intro i hi hI
   have hlc := z5l (l.take i) lo b
   rcases Zlg i l.length with hlt | hge
   · have hg := Zge hlt
     have hd := zze hlt
     have hw := zzl hlt (show l.length ≤ 4294967296 by omega)
     generalize l[i] = x at hg
     have hnx := yvb (lo := lo) (hi := b) hg
     have hl : (l.take i).length = i := by rw [Zlt]; omega
     have o19 : (3003 = 3007) = False := eq_false (by decide)
     have oh : ∀ (X Y : List CV) (id : Nat), H id ≠ none → (if id = 3000 + 7 then some X else if id = 3000 + 7 then some Y else if id = 3003 then some [CV.d (dI lo), CV.d (dI b)] else H id) = H id := fun X Y id hid => by rw [if_neg (by rintro rfl; exact hid h7), if_neg (by rintro rfl; exact hid h7), if_neg (by rintro rfl; exact hid h3)]
     rw [hl] at hlc
     generalize z1c (l.take i) lo b = xs at *
     have hin : y62 lo b x = (decide (lo < x.time) && decide (x.time < b)) := rfl
     cases hc1 : decide (lo < x.time) with
     | false =>
       rw [hin, hc1] at hnx
       have e : z1c (l.take (i + 1)) lo b = xs := hnx
       repeat' (first|(with_reducible first|refine vSq fun K hK=>?_|apply vRg|apply vBl|apply vSc|apply vIf|apply vSk|apply vEx|apply vRt|((first|apply gNt|apply gCs)<;>(intro h;try simp only[h]))|((first|apply hK|(clear hK K;first|apply hK|(clear hK K;first|apply hK|(clear hK K;apply hK))));clear hK K)|(refine todo ?_;simp +decide only[go_sem, h7, hg, hd, hw, hc1])))
       refine zzi hlt Zti ?_
       simp only [e]
       refine zqe hD (fun id hid => ?_) ?_ ?_ ?_ <;> simp +decide only [go_sem]
       · exact oh _ _ _ hid
       · exact ⟨zzh (by simp [zzy]), y0m⟩
       · exact yzk
     | true =>
       cases hc2 : decide (x.time < b) with
       | false =>
         rw [hin, hc1, hc2] at hnx
         have e : z1c (l.take (i + 1)) lo b = xs := hnx
         repeat' (first|(with_reducible first|refine vSq fun K hK=>?_|apply vRg|apply vBl|apply vSc|apply vIf|apply vSk|apply vEx|apply vRt|((first|apply gNt|apply gCs)<;>(intro h;try simp only[h]))|((first|apply hK|(clear hK K;first|apply hK|(clear hK K;first|apply hK|(clear hK K;apply hK))));clear hK K)|(refine todo ?_;simp +decide only[go_sem, h7, hg, hd, hw, hc1, hc2])))
         refine zzi hlt Zti ?_
         simp only [e]
         refine zqe hD (fun id hid => ?_) ?_ ?_ ?_ <;> simp +decide only [go_sem]
         · exact oh _ _ _ hid
         · exact ⟨zzh (by simp [zzy]), y0m⟩
         · exact yzk
       | true =>
         rw [hin, hc1, hc2] at hnx
         have e : z1c (l.take (i + 1)) lo b = xs ++ [x.time] := hnx
         cases xs with
         | nil =>
           repeat' (first|(with_reducible first|refine vSq fun K hK=>?_|apply vRg|apply vBl|apply vSc|apply vIf|apply vSk|apply vEx|apply vRt|((first|apply gNt|apply gCs)<;>(intro h;try simp only[h]))|((first|apply hK|(clear hK K;first|apply hK|(clear hK K;first|apply hK|(clear hK K;apply hK))));clear hK K)|(refine todo ?_;simp +decide only[go_sem, h7, hg, hd, hw, hc1, hc2, cutC, cutA]))|refine zx2 Tryz.appInts rfl rfl (zqk rfl) (zqk rfl) (by simp) rfl ?_)
           refine zzi hlt Zti ?_
           simp only [e]
           refine zqe hD (fun id hid => ?_) ?_ ?_ ?_ <;> simp +decide only [go_sem]
           · exact oh _ _ _ hid
           · exact ⟨zzh (by simp [zzy]), zqb (by simp [aOf]) rfl⟩
         | cons y ys =>
           repeat' (first|(with_reducible first|refine vSq fun K hK=>?_|apply vRg|apply vBl|apply vSc|apply vIf|apply vSk|apply vEx|apply vRt|((first|apply gNt|apply gCs)<;>(intro h;try simp only[h]))|((first|apply hK|(clear hK K;first|apply hK|(clear hK K;first|apply hK|(clear hK K;apply hK))));clear hK K)|(refine todo ?_;simp +decide only[go_sem, h7, hg, hd, hw, hc1, hc2, cutC, cutA]))|(refine zx1 Tryz.appInts rfl (y2l (lo :: y :: ys)) (zqk rfl) (by simp at hlc ⊢; omega) (by simp [aOf]) ?_))
           refine zzi hlt Zti ?_
           simp only [e]
           refine zqe hD (fun id hid => ?_) ?_ ?_ ?_ <;> simp +decide only [go_sem]
           · exact oh _ _ _ hid
           · exact ⟨zzh (by simp [zzy]), zqb (by simp [aOf]) rfl⟩
   · have hd := zzf hge
     rw [Ztl hge]
     rw [Ztl hge] at hlc
     have ec : z3c l lo b = lo :: z1c l lo b ++ [b] := rfl
     have oe : ∀ (X : List CV) (id : Nat), H id ≠ none → zzy [(3003, X)] H id = H id := fun X id hid => by show (if id = 3003 then some X else H id) = H id; rw [if_neg (by rintro rfl; exact hid h3)]
     generalize z1c l lo b = xs at *
     cases xs with
     | nil =>
       repeat' (first|(with_reducible first|refine vSq fun K hK=>?_|apply vRg|apply vBl|apply vSc|apply vIf|apply vSk|apply vEx|apply vRt|((first|apply gNt|apply gCs)<;>(intro h;try simp only[h]))|((first|apply hK|(clear hK K;first|apply hK|(clear hK K;first|apply hK|(clear hK K;apply hK))));clear hK K)|(refine todo ?_;simp +decide only[go_sem, hd, cutC, cutA]))|refine zx2 Tryz.appInts rfl rfl (zqk rfl) (zqk rfl) (by simp) rfl ?_)
       rw [ec]
       exact z17 (κ := (3042, 0)) (zzu rfl (by unfold zzn; simp +decide only [go_sem])) (zj9 hD) (fun i hi => oe _ i hi) (fun _ h => absurd rfl h)
     | cons y ys =>
       repeat' (first|(with_reducible first|refine vSq fun K hK=>?_|apply vRg|apply vBl|apply vSc|apply vIf|apply vSk|apply vEx|apply vRt|((first|apply gNt|apply gCs)<;>(intro h;try simp only[h]))|((first|apply hK|(clear hK K;first|apply hK|(clear hK K;first|apply hK|(clear hK K;apply hK))));clear hK K)|(refine todo ?_;simp +decide only[go_sem, hd, cutC, cutA]))|(refine zx1 Tryz.appInts rfl (y2l (lo :: y :: ys)) (zqk rfl) (by simp at hlc ⊢; omega) (by simp [aOf]) ?_))
       rw [ec]
       exact z17 (κ := (3036, 0)) (zzu rfl (by unfold zzn; simp +decide only [go_sem])) (zj9 hD) (fun i hi => oe _ i hi) (fun _ h => absurd rfl h)
structure XR where
 key : List UInt8
 sl : Int
 sh : Int
 lo : Int
 hi : Int
 vals : Row
def XR.enc (x : XR) : List D := [dS x.key, dI x.sl, dI x.sh, dI x.lo, dI x.hi, zz4 x.vals]
def z1e (l : List XR) : D := .sl (l.map XR.enc)
attribute [go_sem] XR.enc z1e
theorem yq5 (l : List XR) : Szd 6 (l.map XR.enc) := fun e he => by
 obtain ⟨p, _, rfl⟩ := List.mem_map.1 he
 rfl
theorem Tryz.appXRs : AppT Tryz.prog 51 60 6 72 := ⟨Tryz.underlying51, Tryz.cl60, Tryz.by60, Tryz.zo60, by decide, by decide⟩
def yw8 (q : Qy) (p : Piece) : Bool := q.kind == 1 || Span.has p.lo p.hi q.v
def yk6 (k : List UInt8) (p : Piece) : XR := ⟨k, 0, 0, p.lo, p.hi, p.row⟩
def zkt (q : Qy) (k : List UInt8) (ps : List Piece) : List XR := (ps.filter (yw8 q)).map (yk6 k)
def z4f (q : Qy) (l : List Txn) (s : Sch) (ks : List (List UInt8)) : List XR := ks.flatMap fun k => zkt q k (zw5 s (zq4 l q.tab k q.t))
def atS (q : Qy) (l : List Txn) (s : Sch) : List XR := z4f q l s (zw1 l q.tab q.t)
theorem yxd {q : Qy} {k : List UInt8} {ps : List Piece} {i : Nat} {p : Piece} (h : ps[i]? = some p) : zkt q k (ps.take (i + 1)) = if yw8 q p = true then zkt q k (ps.take i) ++ [yk6 k p] else zkt q k (ps.take i) := by
 unfold zkt
 rw [zzw h, List.filter_append, List.map_append, List.filter_cons, List.filter_nil]
 split
 · rfl
 · exact List.append_nil _
theorem yk5 {q : Qy} {l : List Txn} {s : Sch} {ks : List (List UInt8)} {i : Nat} {k : List UInt8} (h : ks[i]? = some k) : z4f q l s (ks.take (i + 1)) = z4f q l s (ks.take i) ++ zkt q k (zw5 s (zq4 l q.tab k q.t)) := by
 unfold z4f
 rw [zzw h, List.flatMap_append, List.flatMap_singleton]
theorem z7i (q : Qy) (k : List UInt8) (ps : List Piece) : (zkt q k ps).length ≤ ps.length := by
 unfold zkt
 rw [List.length_map]
 exact List.length_filter_le _ _
theorem Tryz.keysS_len {l : List Txn} {tab : List UInt8} (h : LSm l tab) (t : Int) : (zw1 l tab t).length ≤ 65536 := by
 have h00 : kyI 0 none := Zlr _
 have hI := z3d (Tryz.rowDo (Tryz.kyDo (tot l) h.cnt) (schS l tab 1099511627776) h.ks) (tab := tab) (t := t) l (p := (0, none)) h00 (by show 0 + _ ≤ _; omega) (fun x hx c hc => ⟨trivial, ((h.cs x hx).2 c hc).2.2⟩)
 have h3 := z4p (tab := tab) (t := t) (step := zqp (schS l tab 1099511627776) zjy) l (0, none)
 have h4 := h.cnt
 have h2 : (zw1 l tab t).length = ((zxv l tab t (zqp (schS l tab 1099511627776) zjy) (0, none)).2.getD []).length := rfl
 have h1 : ((zxv l tab t (zqp (schS l tab 1099511627776) zjy) (0, none)).2.getD []).length ≤ (zxv l tab t (zqp (schS l tab 1099511627776) zjy) (0, none)).1 := hI
 simp only [Nat.zero_add] at h3
 omega
theorem Tryz.atAll_len {q : Qy} {l : List Txn} {s : Sch} (h : LSm l q.tab) : ∀ ks : List (List UInt8), (z4f q l s ks).length ≤ ks.length * 131072
 | [] => Nat.zero_le _
 | k :: ks => by
   have ih := Tryz.atAll_len (s := s) h ks
   have e : z4f q l s (k :: ks) = zkt q k (zw5 s (zq4 l q.tab k q.t)) ++ z4f q l s ks := by unfold z4f; rw [List.flatMap_cons]
   have h1 := z7i q k (zw5 s (zq4 l q.tab k q.t))
   rw [z2y] at h1
   have h2 := (Tryz.stateS_sm h k q.t).1
   rw [e, Zla, List.length_cons]
   omega
theorem Tryz.kAtX (q : Qy) (l : List Txn) (s : Sch) (hz : Int) (hl : LSm l q.tab) (hs : s.sz) {H : HMap} (hD : z5m H) (hid : H 19 = some ((askE q l s hz).map .d)) :
 zqf Tryz.prog 57 2000 H noA [.c (.ptr 19 0)] (pD (z1e (atS q l s))) H noA := by
 refine zqh (E := envOf Tryz.prog [9000000 + 8, 9000000 + 83, 9000000 + 18, 9000000 + 84] 2000 [] []) (zzx Tryz.mixed) Tryz.func57 rfl Tryz.call57 (by kernel_rfl) (by exact Zle rfl) (fun hab => ?_)
 have h7 : H 2007 = none := (hab _ (by omega)).1
 have kk := Tryz.kKeys l q.tab q.t hl
 have hkl := Tryz.keysS_len hl q.t
 repeat' (first|(with_reducible first|refine vSq fun K hK=>?_|apply vRg|apply vBl|apply vSc|apply vIf|apply vSk|apply vEx|apply vRt|((first|apply gNt|apply gCs)<;>(intro h;try simp only[h]))|((first|apply hK|(clear hK K;first|apply hK|(clear hK K;first|apply hK|(clear hK K;apply hK))));clear hK K)|(refine todo ?_;simp +decide only[go_sem, hid]))|refine zzq kk rfl rfl rfl rfl ?_)
 have p19 : H 19 ≠ none := by rw [hid]; simp
 have ea : atS q l s = z4f q l s (zw1 l q.tab q.t) := rfl
 generalize zw1 l q.tab q.t = ks at *
 refine zzj ks.length (fun _ => True) (fun i => over [(0, .c (.ptr 19 0)), (22, pD (zxu ks)), (23, pD (dI ks.length)), (24, pD (dI i)), (3, .c (.own (2078, 0) ((z4f q l s (ks.take i)).map XR.enc)))] [] H (aOf [((2078, 0), .co 6 (z4f q l s (ks.take i)).length)])) Zti ?_ ?_
 · refine zqe hD (fun id hid => ?_) ?_ ?_ ?_ <;> simp +decide only [go_sem]
   · exact ⟨zzh p19, zju rfl rfl⟩
   · exact rfl
 · intro i hi hI
   have hlc := Tryz.atAll_len (s := s) hl (ks.take i)
   rcases Zlg i ks.length with hlt | hge
   · have hg := Zge hlt
     have hd := zze hlt
     have hw := zzl hlt (show ks.length ≤ 4294967296 by omega)
     generalize ks[i] = k at hg
     have hnx := yk5 (q := q) (l := l) (s := s) hg
     have hl2 : (ks.take i).length = i := by rw [Zlt]; omega
     rw [hl2] at hlc
     have k1 := Tryz.kState l q.tab k q.t hl
     obtain ⟨n1, n2⟩ := Tryz.stateS_sm hl k q.t
     have k2 := Tryz.kTold s (zq4 l q.tab k q.t) hs (by omega)
     have hpl := z2y s (zq4 l q.tab k q.t)
     repeat' (first|(with_reducible first|refine vSq fun K hK=>?_|apply vRg|apply vBl|apply vSc|apply vIf|apply vSk|apply vEx|apply vRt|((first|apply gNt|apply gCs)<;>(intro h;try simp only[h]))|((first|apply hK|(clear hK K;first|apply hK|(clear hK K;first|apply hK|(clear hK K;apply hK))));clear hK K)|(refine todo ?_;simp +decide only[go_sem, hid, hg, hd]))|refine zzq k1 rfl rfl rfl rfl ?_|refine zzq k2 rfl rfl rfl rfl ?_)
     generalize zw5 s (zq4 l q.tab k q.t) = ps at *
     generalize z4f q l s (ks.take i) = out at *
     refine zzj ps.length (fun _ => True) (fun j => over [(0, .c (.ptr 19 0)), (22, pD (zxu ks)), (23, pD (dI ks.length)), (24, pD (dI i)), (5, pD (dS k)), (48, pD (zzk ps)), (49, pD (dI ps.length)), (50, pD (dI j)), (3, .c (.own (2078, 0) ((out ++ zkt q k (ps.take j)).map XR.enc)))] [] H (aOf [((2078, 0), .co 6 (out ++ zkt q k (ps.take j)).length)])) Zti ?_ ?_
     · have e0 : zkt q k (ps.take 0) = [] := rfl
       rw [e0, List.append_nil]
       refine zqe hD (fun id hid => rfl) ?_ ?_ ?_ <;> simp +decide only [go_sem]
       exact ⟨zzh p19, zqb (by simp [aOf]) rfl⟩
     · intro j hj _
       have hjl := z7i q k (ps.take j)
       rcases Zlg j ps.length with hjt | hjge
       · have hgp := Zge hjt
         have hdj := zze hjt
         have hwj := zzl hjt (show ps.length ≤ 4294967296 by omega)
         generalize ps[j] = p at hgp
         have hnp := yxd (q := q) (k := k) hgp
         rw [Zlt] at hjl
         generalize zkt q k (ps.take j) = part at *
         have ksp := Tryz.spanHas p.lo p.hi q.v
         have oh : ∀ (X Y : List CV) (id : Nat), H id ≠ none → (if id = 2000 + 7 then some X else if id = 2000 + 7 then some Y else H id) = H id := fun X Y id hid => by rw [if_neg (by rintro rfl; exact hid h7), if_neg (by rintro rfl; exact hid h7)]
         cases hk1 : (q.kind == 1) with
         | true =>
           have e : zkt q k (ps.take (j + 1)) = part ++ [yk6 k p] := by rw [hnp, if_pos (by unfold yw8; rw [hk1]; rfl)]
           repeat' (first|(with_reducible first|refine vSq fun K hK=>?_|apply vRg|apply vBl|apply vSc|apply vIf|apply vSk|apply vEx|apply vRt|((first|apply gNt|apply gCs)<;>(intro h;try simp only[h]))|((first|apply hK|(clear hK K;first|apply hK|(clear hK K;first|apply hK|(clear hK K;apply hK))));clear hK K)|(refine todo ?_;simp +decide only[go_sem, hid, h7, hgp, hdj, hwj, hk1]))|(refine zx1 Tryz.appXRs rfl (z0l (yq5 _) (yq5 _)) (zqk rfl) (by simp; omega) (by simp [aOf]) ?_))
           refine zzi hjt Zti ?_
           simp only [e]
           refine zqe hD (fun id hid => ?_) ?_ ?_ ?_ <;> simp +decide only [go_sem, yk6, List.append_assoc]
           · exact oh _ _ _ hid
           · exact ⟨zzh p19, zqb (by simp [aOf]) rfl⟩
           · exact rfl
         | false =>
           cases hsp : Span.has p.lo p.hi q.v with
           | true =>
             rw [hsp] at ksp
             have e : zkt q k (ps.take (j + 1)) = part ++ [yk6 k p] := by rw [hnp, if_pos (by unfold yw8; rw [hk1, hsp]; rfl)]
             repeat' (first|(with_reducible first|refine vSq fun K hK=>?_|apply vRg|apply vBl|apply vSc|apply vIf|apply vSk|apply vEx|apply vRt|((first|apply gNt|apply gCs)<;>(intro h;try simp only[h]))|((first|apply hK|(clear hK K;first|apply hK|(clear hK K;first|apply hK|(clear hK K;apply hK))));clear hK K)|(refine todo ?_;simp +decide only[go_sem, hid, h7, hgp, hdj, hwj, hk1]))|refine zzq ksp rfl rfl rfl rfl ?_|(refine zx1 Tryz.appXRs rfl (z0l (yq5 _) (yq5 _)) (zqk rfl) (by simp; omega) (by simp [aOf]) ?_))
             refine zzi hjt Zti ?_
             simp only [e]
             refine zqe hD (fun id hid => ?_) ?_ ?_ ?_ <;> simp +decide only [go_sem, yk6, List.append_assoc]
             · exact oh _ _ _ hid
             · exact ⟨zzh p19, zqb (by simp [aOf]) rfl⟩
             · exact rfl
           | false =>
             rw [hsp] at ksp
             have e : zkt q k (ps.take (j + 1)) = part := by rw [hnp, if_neg (by unfold yw8; rw [hk1, hsp]; decide)]
             repeat' (first|(with_reducible first|refine vSq fun K hK=>?_|apply vRg|apply vBl|apply vSc|apply vIf|apply vSk|apply vEx|apply vRt|((first|apply gNt|apply gCs)<;>(intro h;try simp only[h]))|((first|apply hK|(clear hK K;first|apply hK|(clear hK K;first|apply hK|(clear hK K;apply hK))));clear hK K)|(refine todo ?_;simp +decide only[go_sem, hid, h7, hgp, hdj, hwj, hk1]))|refine zzq ksp rfl rfl rfl rfl ?_)
             refine zzi hjt Zti ?_
             simp only [e]
             refine zqe hD (fun id hid => ?_) ?_ ?_ ?_ <;> simp +decide only [go_sem]
             · exact oh _ _ _ hid
             · exact ⟨zzh p19, zqb (by simp [aOf]) rfl⟩
       · have hdj := zzf hjge
         rw [Ztl hjge] at hjl ⊢
         repeat' (first|(with_reducible first|refine vSq fun K hK=>?_|apply vRg|apply vBl|apply vSc|apply vIf|apply vSk|apply vEx|apply vRt|((first|apply gNt|apply gCs)<;>(intro h;try simp only[h]))|((first|apply hK|(clear hK K;first|apply hK|(clear hK K;first|apply hK|(clear hK K;apply hK))));clear hK K)|(refine todo ?_;simp +decide only[go_sem, hdj, hw])))
         refine zzi hlt Zti ?_
         simp only [hnx]
         refine zqe hD (fun id hid => rfl) ?_ ?_ ?_ <;> simp +decide only [go_sem]
         exact ⟨zzh p19, zqb (by simp [aOf]) rfl⟩
   · have hd := zzf hge
     rw [Ztl hge]
     repeat' (first|(with_reducible first|refine vSq fun K hK=>?_|apply vRg|apply vBl|apply vSc|apply vIf|apply vSk|apply vEx|apply vRt|((first|apply gNt|apply gCs)<;>(intro h;try simp only[h]))|((first|apply hK|(clear hK K;first|apply hK|(clear hK K;first|apply hK|(clear hK K;apply hK))));clear hK K)|(refine todo ?_;simp +decide only[go_sem, hd])))
     rw [ea]
     exact z17 (κ := (2078, 0)) (zzu rfl (by unfold zzn; simp +decide only [go_sem])) (zj9 hD) (fun _ _ => rfl) (fun _ h => absurd rfl h)
end Go.Proofs
