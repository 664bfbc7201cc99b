/-
  Parts of the proof, laid together: PwBc, PwBd, PwBe.
-/
import Derived.Test.YtemecklglapleaaGreatQ28

set_option maxRecDepth 30000
set_option maxHeartbeats 16000000
namespace Go.Proofs
open Go.PW
theorem Tryz.appTabs : AppT Tryz.prog 95 103 1 8 := ⟨Tryz.underlying95, Tryz.cl103, Tryz.by103, Tryz.zo103, by decide, by decide⟩
theorem Tryz.appDefs : AppT Tryz.prog 100 161 4 56 := ⟨Tryz.underlying100, Tryz.cl161, Tryz.by161, Tryz.zo161, by decide, by decide⟩
theorem z8a (l : List Tb) : Szd 1 (zzp l) := fun e he => by
 obtain ⟨p, _, rfl⟩ := List.mem_map.1 he
 rfl
theorem z6r (l : List Df) : Szd 4 (l.map Df.enc) := fun e he => by
 obtain ⟨p, _, rfl⟩ := List.mem_map.1 he
 rfl
theorem zkz {hk : Nat → Prop} {tk : Tok → Prop} : ∀ y ∈ ([] : List PV), y.oks hk tk := fun _ h => by cases h
theorem zxp {hk : Nat → Prop} {tk : Tok → Prop} {x : D} {l : List PV} (h : ∀ y ∈ l, y.oks hk tk) : ∀ y ∈ PV.c (.d x) :: l, y.oks hk tk := fun y hy => by
 rcases List.mem_cons.1 hy with rfl | hy
 · exact Zti
 · exact h y hy
theorem yvx {hk : Nat → Prop} {tk : Tok → Prop} {x : List D} {l : List PV} (h : ∀ y ∈ l, y.oks hk tk) : ∀ y ∈ pA x :: l, y.oks hk tk := fun y hy => by
 rcases List.mem_cons.1 hy with rfl | hy
 · exact yki
 · exact h y hy
theorem y4k (l : List Tb) (k : List UInt8) : place l k ≤ l.length := by
 unfold place
 induction l with
 | nil => simp
 | cons x l ih => rw [List.takeWhile_cons]; split <;> simp <;> omega
def yqb (c : Nat) (x : Chg) (time : Int) : Tb := ⟨c + 1, none, x.tab, [⟨time, x.d⟩], []⟩
def Bs.add (b : Bs) (c : Nat) (x : Chg) (time : Int) : Bs := { b with q := some (c + 3), tabs := b.tabs.take (place b.tabs x.tab) ++ yqb c x time :: b.tabs.drop (place b.tabs x.tab) }
def addA (A : AMap) (b : Bs) (c : Nat) (x : Chg) (time : Int) : AMap :=
 upd (upd (upd (upd A (0, b.p) (some (.pr b.p (.ob (b.add c x time).cells)))) (0, c + 3) (some (.pr (c + 3) (.mu 1 (zzp (b.add c x time).tabs))))) (0, c + 1) (some (.pr (c + 1) (.ob (yqb c x time).cells)))) (0, 0) (some (.cnt (c + 4)))
section
variable {A : AMap}
theorem z8j (b : Bs) (c : Nat) (x : Chg) (time : Int) : ∀ κ, A κ ≠ none → addA A b c x time κ ≠ none := fun κ h => by
 unfold addA upd
 repeat' split
 all_goals first
  | exact h
  | simp
theorem z26 (b : Bs) (c : Nat) (x : Chg) (time : Int) {κ : Tok} (h1 : κ ≠ (0, b.p)) (h2 : κ ≠ (0, c + 3)) (h4 : κ ≠ (0, c + 1)) (h3 : κ ≠ (0, 0)) : addA A b c x time κ = A κ := by
 unfold addA
 rw [zza _ _ h3, zza _ _ h4, zza _ _ h2, zza _ _ h1]
theorem yjp {b : Bs} {c : Nat} {x : Chg} {time : Int} (c3 : ∀ j, c ≤ j → A (0, j) = none) {B : AMap} (b0 : B (0, 0) = some (.cnt (c + 4))) (b1 : B (0, c + 3) = some (.pr (c + 3) (.mu 1 (zzp (b.add c x time).tabs))))
 (b4 : B (0, c + 1) = some (.pr (c + 1) (.ob (yqb c x time).cells))) (b2 : B (0, b.p) = some (.pr b.p (.ob (b.add c x time).cells))) (b3 : ∀ κ, κ ≠ (0, 0) → κ ≠ (0, c) → κ ≠ (0, c + 1) → κ ≠ (0, c + 2) → κ ≠ (0, c + 3) → κ ≠ (0, b.p) → B κ = A κ) :
 ∀ κ, addA A b c x time κ = none ∨ addA A b c x time κ = B κ ∨ (B κ = none ∧ ∃ sz, addA A b c x time κ = some (.co sz 0) ∨ addA A b c x time κ = some (.mu sz [])) ∨ yqe (B κ) (addA A b c x time κ) := fun κ => by
 by_cases e0 : κ = (0, 0)
 · subst e0
   refine .inr (.inl ?_)
   rw [b0]; unfold addA; rw [zzc]
 by_cases e4 : κ = (0, c + 1)
 · subst e4
   refine .inr (.inl ?_)
   rw [b4]; unfold addA; rw [zza _ _ e0, zzc]
 by_cases e1 : κ = (0, c + 3)
 · subst e1
   refine .inr (.inl ?_)
   rw [b1]; unfold addA; rw [zza _ _ e0, zza _ _ e4, zzc]
 by_cases e2 : κ = (0, b.p)
 · subst e2
   refine .inr (.inl ?_)
   rw [b2]; unfold addA; rw [zza _ _ e0, zza _ _ e4, zza _ _ e1, zzc]
 rw [z26 b c x time e2 e1 e4 e0]
 by_cases e3 : κ = (0, c)
 · subst e3; exact .inl (c3 c (Zlr _))
 by_cases e5 : κ = (0, c + 2)
 · subst e5; exact .inl (c3 (c + 2) (by omega))
 exact .inr (.inl (b3 κ e0 e3 e4 e5 e1 e2).symm)
theorem Tryz.rDefNew (off : Nat) (b : Bs) (x : Chg) (time : Int) (c : Nat) (hb : BAt A b) (hp : b.p ≠ 0) (hcn : Cn A c) (hl : b.tabs.length ≤ 1048576) (hn : ∀ t ∈ b.tabs, t.name.length ≤ 1048576) (hx : x.d.cols.length ≤ 1048576) (his : isAt b.tabs x.tab = false) :
 zqf Tryz.prog 60 off noH A [rfD b.p, pA x.enc, pD (dI time)] (pD (dI 0)) noH (addA A b c x time) := by
 have kt := Tryz.rTable (off + 1000) zqd b x.tab hb hl hn
 rw [his] at kt
 obtain ⟨h1, h2, h3⟩ := hb
 have hpc : b.p < c := hcn.lt (by rw [h1]; simp)
 obtain ⟨c1, c2, c3⟩ := hcn
 refine zqh (E := envOf Tryz.prog [61, 2000000 + 62, 9000000 + 90, 8000000 + 102, 10000000 + 95] off [] [5, 10]) (zzx Tryz.mixed) Tryz.func60 rfl Tryz.call60 (by kernel_rfl) (by exact Zle rfl) (fun hab => ?_)
 have h4 : noH (off + 4) = none := rfl
 have ab1 : Above (off + 1000) (upd noH (off + 4) (some (x.enc.map .d))) A := fun i hi => ⟨by rw [zza _ _ (by omega)]; rfl, (hab i (by omega)).2⟩
 have hle := y4k b.tabs x.tab
 cases hq : b.q with
 | none =>
   rw [hq] at h2
   have hnil : b.tabs = [] := by have := h2; unfold ArAt zzp at this; simpa using this
   have hc : b.cells = [dI b.seq, dI b.time, dI b.hor, .nl] := by unfold Bs.cells; rw [hq]; rfl
   rw [hc] at h1
   have ep : place b.tabs x.tab = 0 := by rw [hnil]; rfl
   have c0 : ¬ c = 0 := by omega
   have p0 : (b.p = 0) = False := eq_false hp
   have p1 : (b.p = c) = False := eq_false (by omega)
   have p2 : (b.p = c + 1) = False := eq_false (by omega)
   have p3 : (b.p = c + 2) = False := eq_false (by omega)
   have p4 : (b.p = c + 3) = False := eq_false (by omega)
   have ko := Tryz.rOwn x.d hx
   rw [ep] at kt
   repeat' (first|(with_reducible first|refine vSq fun K hK=>?_|apply vRg|apply vBl|apply vSc|apply vIf|apply vSk|apply vEx|apply vRt|((first|apply gNt|apply gCs)<;>(intro h;try simp only[h]))|((first|apply hK|(clear hK K;first|apply hK|(clear hK K;first|apply hK|(clear hK K;apply hK))));clear hK K)|(refine todo ?_;simp +decide only[go_sem, h1, Prod.mk.injEq, p0, p1, p2, p3, p4, and_false]))|refine zz7 rfl (zq0 kt (zxp (zxp zkz))) rfl ab1 ?_|refine zzq ko rfl rfl rfl rfl ?_|refine zvh Tryz.appTabs (els := []) rfl (l := 0) (h := 0) rfl rfl (by omega) (by simp) z0m ?_|refine zv3 Tryz.appTabs (o := none) (ys := []) (zqx rfl) z0m (by simp) c1 (c3 c (Zlr _)) ?_|(refine z3u (c := c + 1) (by simp [upd]) (by simp [upd]; exact c3 (c + 1) (by omega)) ?_)|(refine z18 Tryz.appTabs (o := none) (p := c) (cn := c + 2) (els := []) (ys := [[.rf (c + 1) 0]]) (by simp [upd, c0]) (by simp) (zqx rfl) (by simp) z0m (zqk rfl) (by simp) (by simp [upd]) (by simp [upd]; exact c3 (c + 2) (by omega)) ?_)|(refine z18 Tryz.appTabs (o := none) (p := c + 2) (cn := c + 3) (els := [[.rf (c + 1) 0]]) (ys := []) (by simp [upd]) (by simp) (zqx rfl) (by simp) (zqk rfl) z0m (by simp) (by simp [upd]) (by simp [upd]; exact c3 (c + 3) (by omega)) ?_))
   have els : zzp (b.add c x time).tabs = [[.rf (c + 1) 0]] := by simp [Bs.add, zzp, yqb, hnil]
   have eln : (b.add c x time).tabs.length = 1 := by simp [Bs.add, hnil]
   refine zqq (zzu (p := pD (dI 0)) rfl (by unfold zzn; simp +decide only [go_sem])) (by simp +decide only [go_sem]) Zti zqd (fun id cs h => by cases h) (yjp c3 ?_ ?_ ?_ ?_ ?_) (fun _ h => h) (z8j b c x time)
   · simp [upd]; omega
   · rw [els]; simp [upd, show ¬ c + 3 = b.p by omega]
   · simp [upd, show ¬ c + 1 = b.p by omega]; rfl
   · simp [upd, Bs.cells, eln]; exact ⟨rfl, rfl, rfl, rfl⟩
   · intro κ g0 g1 g2 g3 g4 g5; simp [upd, g0, g1, g2, g3, g4, g5]
 | some q =>
   rw [hq] at h2
   have hc : b.cells = [dI b.seq, dI b.time, dI b.hor, .sa q 1 b.tabs.length] := by unfold Bs.cells; rw [hq]; rfl
   rw [hc] at h1
   have hA2 : A (0, q) = some (.pr q (.mu 1 (zzp b.tabs))) := h2
   have hlen : (zzp b.tabs).length = b.tabs.length := by simp [zzp]
   have hqc : q < c := Nat.lt_of_not_le fun e => by rw [c3 q e] at hA2; cases hA2
   have hq0 : q ≠ 0 := fun e => by rw [e, c1] at hA2; cases hA2
   have hqp : q ≠ b.p := fun e => by rw [e, h1] at hA2; cases hA2
   have c0 : ¬ c = 0 := by omega
   have q1 : ¬ q = c := by omega
   have q2 : ¬ q = c + 1 := by omega
   have q3 : ¬ q = c + 2 := by omega
   have p0 : (b.p = 0) = False := eq_false hp
   have p1 : (b.p = c) = False := eq_false (by omega)
   have p2 : (b.p = c + 1) = False := eq_false (by omega)
   have p3 : (b.p = c + 2) = False := eq_false (by omega)
   have p4 : (b.p = c + 3) = False := eq_false (by omega)
   have ko := Tryz.rOwn x.d hx
   repeat' (first|(with_reducible first|refine vSq fun K hK=>?_|apply vRg|apply vBl|apply vSc|apply vIf|apply vSk|apply vEx|apply vRt|((first|apply gNt|apply gCs)<;>(intro h;try simp only[h]))|((first|apply hK|(clear hK K;first|apply hK|(clear hK K;first|apply hK|(clear hK K;apply hK))));clear hK K)|(refine todo ?_;simp +decide only[go_sem, h1, Prod.mk.injEq, p0, p1, p2, p3, p4, and_false]))|refine zz7 rfl (zq0 kt (zxp (zxp zkz))) rfl ab1 ?_|refine zzq ko rfl rfl rfl rfl ?_|refine yk0 Tryz.appTabs (l := 0) (m := place b.tabs x.tab) rfl (by simp [zz0, natOf?, intOf?]) (by omega) (by omega) ?_|refine yk0 Tryz.appTabs (l := place b.tabs x.tab) (m := b.tabs.length) (by simp [zz0, natOf?, intOf?]) rfl (by omega) (Zlr _) ?_|(refine zv3 Tryz.appTabs (o := some q) (ys := zzp (b.tabs.take (place b.tabs x.tab))) ((zwa hA2 (by simp [hlen])).trans (by rw [List.drop_zero, Nat.sub_zero]; simp [zzp])) (z8a _) (by simp [zzp]; omega) c1 (c3 c (Zlr _)) ?_)|(refine z3u (c := c + 1) (by simp [upd]) (by simp [upd]; exact c3 (c + 1) (by omega)) ?_)|(refine z18 Tryz.appTabs (o := none) (p := c) (cn := c + 2) (els := zzp (b.tabs.take (place b.tabs x.tab))) (ys := [[.rf (c + 1) 0]]) (by simp [upd, c0]) (by simp [zzp]) (zqx rfl) (by simp) (z8a _) (zqk rfl) (by simp [zzp]; omega) (by simp [upd]) (by simp [upd]; exact c3 (c + 2) (by omega)) ?_)|(refine z18 Tryz.appTabs (o := some q) (p := c + 2) (cn := c + 3) (els := zzp (b.tabs.take (place b.tabs x.tab)) ++ [[.rf (c + 1) 0]]) (ys := zzp (b.tabs.drop (place b.tabs x.tab))) (by simp [upd]) (by simp [zzp]) ((zwa (els := zzp b.tabs) (by simp [upd, hq0, q1, q2, q3, hA2]) (by simp [hlen])).trans (by rw [Ztl (by simp [zzp])]; simp [zzp])) (by simp [q3]) (z0l (z8a _) (zqk rfl)) (z8a _) (by simp [zzp]; omega) (by simp [upd]) (by simp [upd]; exact c3 (c + 3) (by omega)) ?_))
   have els : zzp (b.add c x time).tabs = zzp (b.tabs.take (place b.tabs x.tab)) ++ [[.rf (c + 1) 0]] ++ zzp (b.tabs.drop (place b.tabs x.tab)) := by simp [Bs.add, zzp, yqb]
   have eln : (b.add c x time).tabs.length = place b.tabs x.tab + 1 + (b.tabs.length - place b.tabs x.tab) := by simp [Bs.add]; omega
   refine zqq (zzu (p := pD (dI 0)) rfl (by unfold zzn; simp +decide only [go_sem])) (by simp +decide only [go_sem]) Zti zqd (fun id cs h => by cases h) (yjp c3 ?_ ?_ ?_ ?_ ?_) (fun _ h => h) (z8j b c x time)
   · simp [upd]; omega
   · rw [els]; simp [upd, show ¬ c + 3 = b.p by omega]
   · simp [upd, show ¬ c + 1 = b.p by omega]; rfl
   · have l1 : (zzp (b.tabs.take (place b.tabs x.tab))).length = place b.tabs x.tab := by simp [zzp]; omega
     have l2 : (zzp (b.tabs.drop (place b.tabs x.tab))).length = b.tabs.length - place b.tabs x.tab := by simp [zzp]
     simp [upd, Bs.cells, eln]; rw [l1, l2]; exact ⟨rfl, rfl, rfl, rfl⟩
   · intro κ g0 g1 g2 g3 g4 g5; simp [upd, g0, g1, g2, g3, g4, g5]
end
end Go.Proofs
namespace Go.Proofs
open Go.PW
def Tb.redef (t : Tb) (d : Df) (time : Int) (s : Sch) : Tb := { t with defs := t.defs.take (if (d.t == time) = true then t.defs.length - 1 else t.defs.length) ++ [⟨time, s⟩] }
def redA (A : AMap) (t : Tb) (d : Df) (time : Int) (s : Sch) : AMap := upd A (0, t.p) (some (.pr t.p (.ob (t.redef d time s).cells)))
theorem y3z {l : List Tb} {k : List UInt8} (h : isAt l k = true) : ∃ t, l[place l k]? = some t ∧ t.name = k := by
 unfold isAt at h
 split at h
 · rename_i t e; exact ⟨t, e, by simpa using h⟩
 · cases h
theorem z97 {A : AMap} {q : Option Nat} {sz : Nat} {els : List (List D)} (h : ArAt A q sz els) (h0 : 0 < els.length) : ∃ p, q = some p ∧ A (0, p) = some (.pr p (.mu sz els)) := by
 cases q with
 | none => rw [show els = [] from h] at h0; simp at h0
 | some p => exact ⟨p, rfl, h⟩
section
variable {A : AMap}
theorem Tryz.rDefNo (off : Nat) (b : Bs) (x : Chg) (time : Int) (hb : BAt A b) (hl : b.tabs.length ≤ 1048576) (hn : ∀ t ∈ b.tabs, t.name.length ≤ 1048576) (his : isAt b.tabs x.tab = true) {t : Tb} {d : Df} (ht : b.tabs[place b.tabs x.tab]? = some t)
 (hd : t.defs[t.defs.length - 1]? = some d) (hdl : t.defs.length ≤ 1048576) (hds : d.s.sz) (hxs : x.d.sz) (he : ext d.s x.d = false) :
 zqf Tryz.prog 60 off noH A [rfD b.p, pA x.enc, pD (dI time)] (pD (dI 11)) noH A := by
 have kt := Tryz.rTable (off + 1000) zqd b x.tab hb hl hn
 rw [his] at kt
 obtain ⟨h1, h2, h3⟩ := hb
 obtain ⟨hlt, _⟩ := List.getElem?_eq_some_iff.1 ht
 obtain ⟨t1, _⟩ := h3 t (Zme ht)
 have kl := Tryz.rLast (off + 1000) zqd t d t1 hd hdl
 have ke := Tryz.rExt d.s x.d hds hxs
 rw [he] at ke
 obtain ⟨q, hq, hA2⟩ := z97 h2 (by simp [zzp]; omega)
 have hc : b.cells = [dI b.seq, dI b.time, dI b.hor, .sa q 1 b.tabs.length] := by unfold Bs.cells; rw [hq]; rfl
 rw [hc] at h1
 have hlen : (zzp b.tabs).length = b.tabs.length := by simp [zzp]
 have hg' : (zzp b.tabs)[place b.tabs x.tab]? = some [.rf t.p 0] := by rw [zzp, List.getElem?_map, ht]; rfl
 have hlt' : (place b.tabs x.tab < b.tabs.length) = True := eq_true hlt
 refine zqh (E := envOf Tryz.prog [61, 2000000 + 62, 9000000 + 90, 8000000 + 102, 10000000 + 95] off [] [5, 10]) (zzx Tryz.mixed) Tryz.func60 rfl Tryz.call60 (by kernel_rfl) (by exact Zle rfl) (fun hab => ?_)
 have ab1 : Above (off + 1000) (upd noH (off + 4) (some (x.enc.map .d))) A := fun i hi => ⟨by rw [zza _ _ (by omega)]; rfl, (hab i (by omega)).2⟩
 repeat' (first|(with_reducible first|refine vSq fun K hK=>?_|apply vRg|apply vBl|apply vSc|apply vIf|apply vSk|apply vEx|apply vRt|((first|apply gNt|apply gCs)<;>(intro h;try simp only[h]))|((first|apply hK|(clear hK K;first|apply hK|(clear hK K;first|apply hK|(clear hK K;apply hK))));clear hK K)|(refine todo ?_;simp +decide only[go_sem, h1, hA2, hlen, hlt', hg']))|refine zz7 rfl (zq0 kt (zxp (zxp zkz))) rfl ab1 ?_|refine zw6 rfl rfl (zq0 kl (zxp zkz)) rfl ab1 ?_|refine zzd ke rfl rfl (fun j => (hab _ (by omega)).2 j) ?_)
 exact zqq (zzu (p := pD (dI 11)) rfl (by unfold zzn; simp +decide only [go_sem])) (by simp +decide only [go_sem]) Zti zqd (fun id cs h => by cases h) (fun κ => .inr (.inl rfl)) (fun _ h => h) (fun _ h => h)
theorem Tryz.rDefExt (off : Nat) (b : Bs) (x : Chg) (time : Int) (hb : BAt A b) (hl : b.tabs.length ≤ 1048576) (hn : ∀ t ∈ b.tabs, t.name.length ≤ 1048576) (his : isAt b.tabs x.tab = true) {t : Tb} {d : Df} (ht : b.tabs[place b.tabs x.tab]? = some t)
 (hd : t.defs[t.defs.length - 1]? = some d) (hdl : t.defs.length ≤ 1048576) (hds : d.s.sz) (hxs : x.d.sz) (he : ext d.s x.d = true) (hxc : x.d.cols.length ≤ 1048576) :
 zqf Tryz.prog 60 off noH A [rfD b.p, pA x.enc, pD (dI time)] (pD (dI 0)) noH (redA A t d time x.d) := by
 have kt := Tryz.rTable (off + 1000) zqd b x.tab hb hl hn
 rw [his] at kt
 obtain ⟨h1, h2, h3⟩ := hb
 obtain ⟨hlt, _⟩ := List.getElem?_eq_some_iff.1 ht
 obtain ⟨t1, _⟩ := h3 t (Zme ht)
 have kl := Tryz.rLast (off + 1000) zqd t d t1 hd hdl
 have ke := Tryz.rExt d.s x.d hds hxs
 rw [he] at ke
 obtain ⟨q, hq, hA2⟩ := z97 h2 (by simp [zzp]; omega)
 have hc : b.cells = [dI b.seq, dI b.time, dI b.hor, .sa q 1 b.tabs.length] := by unfold Bs.cells; rw [hq]; rfl
 rw [hc] at h1
 have hlen : (zzp b.tabs).length = b.tabs.length := by simp [zzp]
 have hg' : (zzp b.tabs)[place b.tabs x.tab]? = some [.rf t.p 0] := by rw [zzp, List.getElem?_map, ht]; rfl
 have hlt' : (place b.tabs x.tab < b.tabs.length) = True := eq_true hlt
 refine zqh (E := envOf Tryz.prog [61, 2000000 + 62, 9000000 + 90, 8000000 + 102, 10000000 + 95] off [] [5, 10]) (zzx Tryz.mixed) Tryz.func60 rfl Tryz.call60 (by kernel_rfl) (by exact Zle rfl) (fun hab => ?_)
 have ab1 : Above (off + 1000) (upd noH (off + 4) (some (x.enc.map .d))) A := fun i hi => ⟨by rw [zza _ _ (by omega)]; rfl, (hab i (by omega)).2⟩
 have hdp : 0 < t.defs.length := by
  rcases Nat.eq_zero_or_pos t.defs.length with h | h
  · rw [List.getElem?_eq_none (by omega)] at hd; cases hd
  · exact h
 have ko := Tryz.rOwn x.d hxc
 have hw1 : IntKind.i64.wrap ((t.defs.length : Int) - 1) = ((t.defs.length - 1 : Nat) : Int) := by rw [Go.IntWalk.i64_in _ (by omega)]; omega
 obtain ⟨m, hm⟩ : ∃ m, m = if (d.t == time) = true then t.defs.length - 1 else t.defs.length := ⟨_, rfl⟩
 have hml : m ≤ t.defs.length := by rw [hm]; split <;> omega
 have tk : List.take (m - 0) (List.drop 0 (t.defs.map Df.enc)) = (t.defs.take m).map Df.enc := by simp
 repeat' (first|(with_reducible first|refine vSq fun K hK=>?_|apply vRg|apply vBl|apply vSc|apply vIf|apply vSk|apply vEx|apply vRt|((first|apply gNt|apply gCs)<;>(intro h;try simp only[h]))|((first|apply hK|(clear hK K;first|apply hK|(clear hK K;first|apply hK|(clear hK K;apply hK))));clear hK K)|(refine todo ?_;simp +decide only[go_sem, h1, hA2, hlen, hlt', hg', t1, Tb.cells, hd, hw1]))|refine zz7 rfl (zq0 kt (zxp (zxp zkz))) rfl ab1 ?_|refine zw6 rfl rfl (zq0 kl (zxp zkz)) rfl ab1 ?_|refine zzd ke rfl rfl (fun j => (hab _ (by omega)).2 j) ?_|refine zzq ko rfl rfl rfl rfl ?_|(refine zvh Tryz.appDefs rfl (l := 0) (h := m) rfl (by simp [zz0, natOf?, intOf?, *]) (by omega) (by simp; omega) (z6r _) ?_; rw [tk])|(refine zx2 Tryz.appDefs rfl rfl zvw (z6r _) (by simp; omega) ((hab (off + 93) (by omega)).2 0) ?_)|(refine zx1 Tryz.appDefs rfl (z6r _) (zqk rfl) (by simp; omega) (by simp [upd]) ?_))
 all_goals
  have em : (t.redef d time x.d).cells = [dS t.name, .sl ((t.defs.take m).map Df.enc ++ [[dI time, dS x.d.name, zwh x.d.cols, dI x.d.keys]]), slD t.q 4 t.keys.length] := by
   unfold Tb.redef Tb.cells; rw [← hm]; simp; rfl
  refine zqq (zzu (p := pD (dI 0)) rfl (by unfold zzn; simp +decide only [go_sem])) (by simp +decide only [go_sem]) Zti zqd (fun id cs h => by cases h) (fun κ => ?_) (fun _ h => h) (fun κ h => ?_)
  · unfold redA
    rw [em]
    by_cases e0 : κ = (0, t.p)
    · subst e0
      refine .inr (.inl ?_)
      simp [upd]
      exact ⟨rfl, rfl, rfl, rfl, rfl⟩
    · rw [zza _ _ e0]
      by_cases e1 : κ = (off + 93, 0)
      · subst e1; exact .inl ((hab _ (by omega)).2 0)
      · refine .inr (.inl ?_)
        simp [upd, e0, e1]
  · unfold redA upd
    split
    · simp
    · exact h
end
end Go.Proofs
namespace Go.Proofs
open Go.PW
def En.step (e : En) (x : Chg) : En :=
 let now := if e.named = true then e.now else vAt e.l 1099511627775
 { e with named := true, now := if (x.op == 1) = true then putP now (x.lo, x.hi) x.row else drop now (x.lo, x.hi) }
def zje (s : Sch) (x : Chg) : List UInt8 := keyB (if (x.op == 1) = true then z4i s x.row else x.row)
def setA (A : AMap) (q : Nat) (l : List En) (i : Nat) (e : En) : AMap := upd A (0, q) (some (.pr q (.mu 4 ((l.set i e).map En.enc))))
section
variable {A A' : AMap}
theorem y2g {q : Nat} {l : List En} {i : Nat} {e : En} (hk : ∀ κ, A κ ≠ none → A' κ ≠ none) : ∀ κ, A κ ≠ none → setA A' q l i e κ ≠ none := fun κ h => by
 unfold setA upd
 split
 · simp
 · exact hk κ h
theorem ykt {q : Nat} {l : List En} {i : Nat} {e : En} {B : AMap} (h1 : B (0, q) = some (.pr q (.mu 4 ((l.set i e).map En.enc)))) (h2 : ∀ κ, κ ≠ (0, q) → B κ = A' κ) :
 ∀ κ, setA A' q l i e κ = none ∨ setA A' q l i e κ = B κ ∨ (B κ = none ∧ ∃ sz, setA A' q l i e κ = some (.co sz 0) ∨ setA A' q l i e κ = some (.mu sz [])) ∨ yqe (B κ) (setA A' q l i e κ) := fun κ => by
 refine .inr (.inl ?_)
 by_cases e0 : κ = (0, q)
 · subst e0; unfold setA; rw [zzc, h1]
 · unfold setA; rw [zza _ _ e0, h2 κ e0]
theorem Tryz.rChgDef (off : Nat) (b : Bs) (x : Chg) (time : Int) (e : Int) (hop : (x.op == 3) = true) (hk : ∀ κ, A κ ≠ none → A' κ ≠ none)
 (kd : zqf Tryz.prog 60 (off + 1000) noH A [rfD b.p, pA x.enc, pD (dI time)] (pD (dI e)) noH A') :
 zqf Tryz.prog 44 off noH A [rfD b.p, pA x.enc, pD (dI time)] (pD (dI e)) noH A' := by
 refine zqh (E := envOf Tryz.prog [60, 61, 66, 2000000 + 62, 9000000 + 68, 9000000 + 69, 9000000 + 70] off [] [19, 21, 22]) (zzx Tryz.mixed) Tryz.func44 rfl Tryz.call44 (by kernel_rfl) (by exact Zle rfl) (fun hab => ?_)
 have ab1 : Above (off + 1000) (upd noH (off + 4) (some (x.enc.map .d))) A := fun i hi => ⟨by rw [zza _ _ (by omega)]; rfl, (hab i (by omega)).2⟩
 repeat' (first|(with_reducible first|refine vSq fun K hK=>?_|apply vRg|apply vBl|apply vSc|apply vIf|apply vSk|apply vEx|apply vRt|((first|apply gNt|apply gCs)<;>(intro h;try simp only[h]))|((first|apply hK|(clear hK K;first|apply hK|(clear hK K;first|apply hK|(clear hK K;apply hK))));clear hK K)|(refine todo ?_;simp +decide only[go_sem, hop]))|refine zz7 rfl (zq0 kd (zxp (yvx (zxp zkz)))) rfl ab1 ?_)
 exact zqq (zzu (p := pD (dI e)) rfl (by unfold zzn; simp +decide only [go_sem])) (by simp +decide only [go_sem]) Zti zqd (fun id cs h => by cases h) (fun κ => .inr (.inl rfl)) (fun _ h => h) hk
theorem Tryz.rChgNone (off : Nat) (b : Bs) (x : Chg) (time : Int) (hop : (x.op == 3) = false) (hb : BAt A b) (hl : b.tabs.length ≤ 1048576) (hn : ∀ t ∈ b.tabs, t.name.length ≤ 1048576) (his : isAt b.tabs x.tab = false) :
 zqf Tryz.prog 44 off noH A [rfD b.p, pA x.enc, pD (dI time)] (pD (dI 18)) noH A := by
 have kt := Tryz.rTable (off + 1000) zqd b x.tab hb hl hn
 rw [his] at kt
 refine zqh (E := envOf Tryz.prog [60, 61, 66, 2000000 + 62, 9000000 + 68, 9000000 + 69, 9000000 + 70] off [] [19, 21, 22]) (zzx Tryz.mixed) Tryz.func44 rfl Tryz.call44 (by kernel_rfl) (by exact Zle rfl) (fun hab => ?_)
 have ab1 : Above (off + 1000) (upd noH (off + 4) (some (x.enc.map .d))) A := fun i hi => ⟨by rw [zza _ _ (by omega)]; rfl, (hab i (by omega)).2⟩
 repeat' (first|(with_reducible first|refine vSq fun K hK=>?_|apply vRg|apply vBl|apply vSc|apply vIf|apply vSk|apply vEx|apply vRt|((first|apply gNt|apply gCs)<;>(intro h;try simp only[h]))|((first|apply hK|(clear hK K;first|apply hK|(clear hK K;first|apply hK|(clear hK K;apply hK))));clear hK K)|(refine todo ?_;simp +decide only[go_sem, hop]))|refine zz7 rfl (zq0 kt (zxp (zxp zkz))) rfl ab1 ?_)
 exact zqq (zzu (p := pD (dI 18)) rfl (by unfold zzn; simp +decide only [go_sem])) (by simp +decide only [go_sem]) Zti zqd (fun id cs h => by cases h) (fun κ => .inr (.inl rfl)) (fun _ h => h) (fun _ h => h)
def zjz (s : Sch) (x : Chg) : Int := if (x.op == 1) = true then fits s x.row else if keyed s x.row = true then 0 else 10
theorem Tryz.rChgBad (off : Nat) (b : Bs) (x : Chg) (time : Int) (hop : (x.op == 3) = false) (hb : BAt A b) (hl : b.tabs.length ≤ 1048576) (hn : ∀ t ∈ b.tabs, t.name.length ≤ 1048576) (his : isAt b.tabs x.tab = true) {t : Tb} {d : Df} (ht : b.tabs[place b.tabs x.tab]? = some t)
 (hd : t.defs[t.defs.length - 1]? = some d) (hdl : t.defs.length ≤ 1048576) (hds : d.s.sz) (hkl : d.s.keys ≤ d.s.cols.length) (hr : x.row.length ≤ 1048576) (hok : Row.ok' x.row) (he : (zjz d.s x != 0) = true) :
 zqf Tryz.prog 44 off noH A [rfD b.p, pA x.enc, pD (dI time)] (pD (dI (zjz d.s x))) noH A := by
 have kt := Tryz.rTable (off + 1000) zqd b x.tab hb hl hn
 rw [his] at kt
 obtain ⟨h1, h2, h3⟩ := hb
 obtain ⟨hlt, _⟩ := List.getElem?_eq_some_iff.1 ht
 obtain ⟨t1, _⟩ := h3 t (Zme ht)
 have kl := Tryz.rLast (off + 1000) zqd t d t1 hd hdl
 have kf := Tryz.rFits d.s x.row hds (by omega) hok
 have kk := Tryz.rKeyed d.s x.row hkl (by omega) hok
 obtain ⟨q, hq, hA2⟩ := z97 h2 (by simp [zzp]; omega)
 have hc : b.cells = [dI b.seq, dI b.time, dI b.hor, .sa q 1 b.tabs.length] := by unfold Bs.cells; rw [hq]; rfl
 rw [hc] at h1
 have hlen : (zzp b.tabs).length = b.tabs.length := by simp [zzp]
 have hg' : (zzp b.tabs)[place b.tabs x.tab]? = some [.rf t.p 0] := by rw [zzp, List.getElem?_map, ht]; rfl
 have hlt' : (place b.tabs x.tab < b.tabs.length) = True := eq_true hlt
 refine zqh (E := envOf Tryz.prog [60, 61, 66, 2000000 + 62, 9000000 + 68, 9000000 + 69, 9000000 + 70] off [] [19, 21, 22]) (zzx Tryz.mixed) Tryz.func44 rfl Tryz.call44 (by kernel_rfl) (by exact Zle rfl) (fun hab => ?_)
 have ab1 : Above (off + 1000) (upd noH (off + 4) (some (x.enc.map .d))) A := fun i hi => ⟨by rw [zza _ _ (by omega)]; rfl, (hab i (by omega)).2⟩
 have s1 : (off + 10 = off + 4) = False := eq_false (by omega)
 have s2 : (off + 4 = off + 10) = False := eq_false (by omega)
 cases hop1 : (x.op == 1) with
 | true =>
   have er : zjz d.s x = fits d.s x.row := by unfold zjz; rw [if_pos hop1]
   rw [er] at he ⊢
   repeat' (first|(with_reducible first|refine vSq fun K hK=>?_|apply vRg|apply vBl|apply vSc|apply vIf|apply vSk|apply vEx|apply vRt|((first|apply gNt|apply gCs)<;>(intro h;try simp only[h]))|((first|apply hK|(clear hK K;first|apply hK|(clear hK K;first|apply hK|(clear hK K;apply hK))));clear hK K)|(refine todo ?_;simp +decide only[go_sem, hop, h1, hA2, hlen, hlt', hg', s1, s2, hop1, he]))|refine zz7 rfl (zq0 kt (zxp (zxp zkz))) rfl ab1 ?_|refine zw6 rfl rfl (zq0 kl (zxp zkz)) rfl ab1 ?_|refine zzd kf rfl rfl (fun j => (hab _ (by omega)).2 j) ?_|refine zzd kk rfl rfl (fun j => (hab _ (by omega)).2 j) ?_)
   exact zqq (zzu (p := pD (dI (fits d.s x.row))) rfl (by unfold zzn; simp +decide only [go_sem])) (by simp +decide only [go_sem]) Zti zqd (fun id cs h => by cases h) (fun κ => .inr (.inl rfl)) (fun _ h => h) (fun _ h => h)
 | false =>
   have ek : keyed d.s x.row = false := by
    cases h : keyed d.s x.row with
    | false => rfl
    | true => exfalso; unfold zjz at he; simp [hop1, h] at he
   have er : zjz d.s x = 10 := by unfold zjz; simp [hop1, ek]
   rw [er]
   repeat' (first|(with_reducible first|refine vSq fun K hK=>?_|apply vRg|apply vBl|apply vSc|apply vIf|apply vSk|apply vEx|apply vRt|((first|apply gNt|apply gCs)<;>(intro h;try simp only[h]))|((first|apply hK|(clear hK K;first|apply hK|(clear hK K;first|apply hK|(clear hK K;apply hK))));clear hK K)|(refine todo ?_;simp +decide only[go_sem, hop, h1, hA2, hlen, hlt', hg', s1, s2, hop1, ek]))|refine zz7 rfl (zq0 kt (zxp (zxp zkz))) rfl ab1 ?_|refine zw6 rfl rfl (zq0 kl (zxp zkz)) rfl ab1 ?_|refine zzd kf rfl rfl (fun j => (hab _ (by omega)).2 j) ?_|refine zzd kk rfl rfl (fun j => (hab _ (by omega)).2 j) ?_)
   exact zqq (zzu (p := pD (dI 10)) rfl (by unfold zzn; simp +decide only [go_sem])) (by simp +decide only [go_sem]) Zti zqd (fun id cs h => by cases h) (fun κ => .inr (.inl rfl)) (fun _ h => h) (fun _ h => h)
theorem Tryz.rChgRow (off : Nat) (b : Bs) (x : Chg) (time : Int) (hop : (x.op == 3) = false) (hb : BAt A b) (hl : b.tabs.length ≤ 1048576) (hn : ∀ t ∈ b.tabs, t.name.length ≤ 1048576) (his : isAt b.tabs x.tab = true) {t : Tb} {d : Df} (ht : b.tabs[place b.tabs x.tab]? = some t)
 (hd : t.defs[t.defs.length - 1]? = some d) (hdl : t.defs.length ≤ 1048576) (hds : d.s.sz) (hkl : d.s.keys ≤ d.s.cols.length) (hr : x.row.length ≤ 1048576) (hok : Row.ok' x.row) (he : zjz d.s x = 0)
 {t1 : Tb} {q1 i : Nat} {e : En} (ken : zqf Tryz.prog 66 (off + 1000) noH A [rfD t.p, pD (dS (zje d.s x))] (pD (dI i)) noH A') (hk : ∀ κ, A κ ≠ none → A' κ ≠ none)
 (g1 : A' (0, t.p) = some (.pr t.p (.ob t1.cells))) (g2 : t1.q = some q1) (g3 : A' (0, q1) = some (.pr q1 (.mu 4 (t1.keys.map En.enc)))) (g4 : t1.keys[i]? = some e)
 (hel : e.l.length ≤ 131072) (her : ∀ v ∈ e.l, v.p.row.length ≤ 1048576) (heo : z3j e.l) (hnl : e.now.length ≤ 131072) (hnr : ∀ v ∈ e.now, v.row.length ≤ 1048576) (hno : z1g e.now) (hvl : (vAt e.l 1099511627775).length ≤ 131072) (hvr : ∀ v ∈ vAt e.l 1099511627775, v.row.length ≤ 1048576) (hvo : z1g (vAt e.l 1099511627775)) :
 zqf Tryz.prog 44 off noH A [rfD b.p, pA x.enc, pD (dI time)] (pD (dI 0)) noH (setA A' q1 t1.keys i (e.step x)) := by
 have kt := Tryz.rTable (off + 1000) zqd b x.tab hb hl hn
 rw [his] at kt
 obtain ⟨h1, h2, h3⟩ := hb
 obtain ⟨hlt, _⟩ := List.getElem?_eq_some_iff.1 ht
 obtain ⟨ht1, _⟩ := h3 t (Zme ht)
 have kl := Tryz.rLast (off + 1000) zqd t d ht1 hd hdl
 have kf := Tryz.rFits d.s x.row hds (by omega) hok
 have kk := Tryz.rKeyed d.s x.row hkl (by omega) hok
 obtain ⟨q, hq, hA2⟩ := z97 h2 (by simp [zzp]; omega)
 have hc : b.cells = [dI b.seq, dI b.time, dI b.hor, .sa q 1 b.tabs.length] := by unfold Bs.cells; rw [hq]; rfl
 rw [hc] at h1
 have hlen : (zzp b.tabs).length = b.tabs.length := by simp [zzp]
 have hg' : (zzp b.tabs)[place b.tabs x.tab]? = some [.rf t.p 0] := by rw [zzp, List.getElem?_map, ht]; rfl
 have hlt' : (place b.tabs x.tab < b.tabs.length) = True := eq_true hlt
 refine zqh (E := envOf Tryz.prog [60, 61, 66, 2000000 + 62, 9000000 + 68, 9000000 + 69, 9000000 + 70] off [] [19, 21, 22]) (zzx Tryz.mixed) Tryz.func44 rfl Tryz.call44 (by kernel_rfl) (by exact Zle rfl) (fun hab => ?_)
 have ab1 : Above (off + 1000) (upd noH (off + 4) (some (x.enc.map .d))) A := fun i hi => ⟨by rw [zza _ _ (by omega)]; rfl, (hab i (by omega)).2⟩
 have s1 : (off + 10 = off + 4) = False := eq_false (by omega)
 have s2 : (off + 4 = off + 10) = False := eq_false (by omega)
 have hc1 : t1.cells = [dS t1.name, .sl (t1.defs.map Df.enc), .sa q1 4 t1.keys.length] := by unfold Tb.cells; rw [g2]; rfl
 rw [hc1] at g1
 have hi : i < t1.keys.length := (List.getElem?_eq_some_iff.1 g4).1
 have hi' : (i < t1.keys.length) = True := eq_true hi
 have hset : ∀ y, ((t1.keys.map En.enc).set i y)[i]? = some y := fun y => by rw [List.getElem?_set_self (by simp; exact hi)]
 have ka := Tryz.rAtV e.l 1099511627775 hel her heo
 have tq : (t.p = q1) = False := eq_false fun e => by rw [e, g3] at g1; cases g1
 have ab2 : ∀ X Y, Above (off + 1000) (upd (upd (upd noH (off + 4) (some (x.enc.map .d))) (off + 10) X) (off + 10) Y) A := fun X Y i hi => ⟨by rw [zza _ _ (by omega), zza _ _ (by omega), zza _ _ (by omega)]; rfl, (hab i (by omega)).2⟩
 cases hop1 : (x.op == 1) with
 | true =>
   have er : fits d.s x.row = 0 := by unfold zjz at he; rw [if_pos hop1] at he; exact he
   rw [er] at kf
   have kp1 := Tryz.rPut e.now (x.lo, x.hi) x.row hnl hnr hno hr hok
   have kp2 := Tryz.rPut (vAt e.l 1099511627775) (x.lo, x.hi) x.row hvl hvr hvo hr hok
   have ky := Tryz.rKey d.s x.row hds hr hok
   have eck : zje d.s x = keyB (z4i d.s x.row) := by unfold zje; rw [if_pos hop1]
   rw [eck] at ken
   have kol : (z4i d.s x.row).length ≤ 1048576 := by unfold z4i; split <;> simp <;> omega
   have koo : Row.ok' (z4i d.s x.row) := fun v hv => by
    unfold z4i at hv
    rw [if_pos er] at hv
    exact hok v (List.mem_of_mem_take hv)
   have ko := Tryz.rKeyOf (z4i d.s x.row) (by omega) koo
   repeat' (first|(with_reducible first|refine vSq fun K hK=>?_|apply vRg|apply vBl|apply vSc|apply vIf|apply vSk|apply vEx|apply vRt|((first|apply gNt|apply gCs)<;>(intro h;try simp only[h]))|((first|apply hK|(clear hK K;first|apply hK|(clear hK K;first|apply hK|(clear hK K;apply hK))));clear hK K)|(refine todo ?_;simp +decide only[go_sem, hop, h1, hA2, hlen, hlt', hg', s1, s2, hop1, hi', g1, g3, g4, tq, hset, List.set_set, List.length_set, List.length_map]))|refine zz7 rfl (zq0 kt (zxp (zxp zkz))) rfl ab1 ?_|refine zw6 rfl rfl (zq0 kl (zxp zkz)) rfl ab1 ?_|refine zzd kf rfl rfl (fun j => (hab _ (by omega)).2 j) ?_|refine zzd kk rfl rfl (fun j => (hab _ (by omega)).2 j) ?_|refine zzd ky rfl rfl (fun j => (hab _ (by omega)).2 j) ?_|refine zzd ko rfl rfl (fun j => (hab _ (by omega)).2 j) ?_|refine zz7 rfl (zq0 ken (zxp (zxp zkz))) rfl (ab2 _ _) ?_|refine zzq ka rfl rfl rfl rfl ?_|refine zzq kp1 rfl rfl rfl rfl ?_|refine zzq kp2 rfl rfl rfl rfl ?_)
   all_goals
    refine zqq (zzu (p := pD (dI 0)) rfl (by unfold zzn; simp +decide only [go_sem])) (by simp +decide only [go_sem]) Zti zqd (fun id cs h => by cases h) (ykt ?_ (fun κ g => ?_)) (fun _ h => h) (y2g hk)
    · rw [List.map_set]
      simp [upd, En.step, En.enc, hop1, h]
      try rfl
    · simp [upd, g]
 | false =>
   have er : keyed d.s x.row = true := by
    cases h : keyed d.s x.row with
    | true => rfl
    | false => exfalso; unfold zjz at he; simp [hop1, h] at he
   have kp1 := Tryz.rDrop e.now (x.lo, x.hi) (by omega) hnr hno
   have kp2 := Tryz.rDrop (vAt e.l 1099511627775) (x.lo, x.hi) (by omega) hvr hvo
   have eck : zje d.s x = keyB x.row := by unfold zje; simp [hop1]
   rw [eck] at ken
   have ko := Tryz.rKeyOf x.row (by omega) hok
   repeat' (first|(with_reducible first|refine vSq fun K hK=>?_|apply vRg|apply vBl|apply vSc|apply vIf|apply vSk|apply vEx|apply vRt|((first|apply gNt|apply gCs)<;>(intro h;try simp only[h]))|((first|apply hK|(clear hK K;first|apply hK|(clear hK K;first|apply hK|(clear hK K;apply hK))));clear hK K)|(refine todo ?_;simp +decide only[go_sem, hop, h1, hA2, hlen, hlt', hg', s1, s2, hop1, er, hi', g1, g3, g4, tq, hset, List.set_set, List.length_set, List.length_map]))|refine zz7 rfl (zq0 kt (zxp (zxp zkz))) rfl ab1 ?_|refine zw6 rfl rfl (zq0 kl (zxp zkz)) rfl ab1 ?_|refine zzd kk rfl rfl (fun j => (hab _ (by omega)).2 j) ?_|refine zzd ko rfl rfl (fun j => (hab _ (by omega)).2 j) ?_|refine zz7 rfl (zq0 ken (zxp (zxp zkz))) rfl (ab2 _ _) ?_|refine zzq ka rfl rfl rfl rfl ?_|refine zzq kp1 rfl rfl rfl rfl ?_|refine zzq kp2 rfl rfl rfl rfl ?_)
   all_goals
    refine zqq (zzu (p := pD (dI 0)) rfl (by unfold zzn; simp +decide only [go_sem])) (by simp +decide only [go_sem]) Zti zqd (fun id cs h => by cases h) (ykt ?_ (fun κ g => ?_)) (fun _ h => h) (y2g hk)
    · rw [List.map_set]
      simp [upd, En.step, En.enc, hop1, h]
      try rfl
    · simp [upd, g]
end
end Go.Proofs
