/-
  Parts of the proof, laid together: PwBi, PwBj, PwBk.
-/
import Derived.Test.YtemecklglapleaaGreatQ30

set_option maxRecDepth 30000
set_option maxHeartbeats 16000000
namespace Go.Proofs
open Go.PW
theorem z1q {A A' : AMap} {S : St} {all : List (Nat × List CV)} : ∀ {l : List (Nat × List CV)}, z4h (zzy all noH) A A' S.H l → ∀ id, zzy l noH id = none ∨ ∃ cs ds, zzy l noH id = some cs ∧ S.H id = some ds ∧ cs.length = ds.length ∧
 ∀ (k : Nat) (c d : CV), cs[k]? = some c → ds[k]? = some d → CV.wk (zzy all noH) A A' c d
 | [], _, _ => .inl rfl
 | (u, x) :: r, h, t => by
   unfold zzy
   split
   · rename_i e
     subst e
     right
     obtain ⟨h1, _⟩ := h
     cases hH : S.H t with
     | none => rw [hH] at h1; exact h1.elim
     | some ds => rw [hH] at h1; exact ⟨x, ds, rfl, rfl, zjj h1⟩
   · exact z1q h.2 t
theorem zz1 {A B : AMap} {S : St} {l : List (Nat × PV)} {h : List (Nat × List CV)} (hA : ∀ κ, B κ = none ∨ B κ = S.A κ) (kA : ∀ κ, A κ ≠ none → B κ ≠ none) (h1 : z84 (zzy h noH) S.A B S.ρ l) (h2 : z4h (zzy h noH) S.A B S.H h) : Weak noH A S (over l h noH B) :=
 ⟨fun t => zj3 h1 t, fun id => z1q h2 id, fun κ => (hA κ).imp_right .inl, fun _ h => absurd rfl h, kA⟩
def kill (A : AMap) (q : Option Nat) : AMap := match q with
 | none => A
 | some q => upd A (0, q) (some .dead)
def cpT (c : Nat) (t : Tb) : Tb := { t with p := c, q := some (c + 1) }
def cpB (b : Bs) (c : Nat) (t : Tb) : Bs := { b with q := some (c + 2), tabs := b.tabs ++ [cpT c t] }
def cpA (A : AMap) (b : Bs) (c : Nat) (t : Tb) : AMap :=
 upd (upd (upd (upd (upd (kill A b.q) (0, c) (some (.pr c (.ob (cpT c t).cells)))) (0, c + 1) (some (.pr (c + 1) (.mu 4 (t.keys.map En.enc))))) (0, c + 2) (some (.pr (c + 2) (.mu 1 (zzp (cpB b c t).tabs))))) (0, b.p) (some (.pr b.p (.ob (cpB b c t).cells)))) (0, 0) (some (.cnt (c + 3)))
def y0k (s : AMap × Bs × Nat) (t : Tb) : AMap × Bs × Nat := (cpA s.1 s.2.1 s.2.2 t, cpB s.2.1 s.2.2 t, s.2.2 + 3)
def cpB0 (b : Bs) (c : Nat) : Bs := { b with p := c, q := none, tabs := [] }
def cpA0 (A : AMap) (b : Bs) (c : Nat) : AMap := upd (upd A (0, c) (some (.pr c (.ob (cpB0 b c).cells)))) (0, 0) (some (.cnt (c + 1)))
def z1b (A : AMap) (b : Bs) (c : Nat) (l : List Tb) : AMap × Bs × Nat := l.foldl y0k (cpA0 A b c, cpB0 b c, c + 1)
theorem z7q {A : AMap} {b : Bs} {c : Nat} {l : List Tb} {i : Nat} {t : Tb} (h : l[i]? = some t) : z1b A b c (l.take (i + 1)) = y0k (z1b A b c (l.take i)) t := by
 unfold z1b
 rw [zzw h, List.foldl_append]
 rfl
theorem yvo {A : AMap} {q : Option Nat} {κ : Tok} (h : ∀ p, q = some p → κ ≠ (0, p)) : kill A q κ = A κ := by
 unfold kill
 split
 · rfl
 · exact zza _ _ (h _ rfl)
theorem z0c {A : AMap} {b : Bs} {c : Nat} {t : Tb} {κ : Tok} (h0 : κ ≠ (0, 0)) (h1 : κ ≠ (0, c)) (h2 : κ ≠ (0, c + 1)) (h3 : κ ≠ (0, c + 2)) (h4 : κ ≠ (0, b.p)) (h5 : ∀ p, b.q = some p → κ ≠ (0, p)) : cpA A b c t κ = A κ := by
 unfold cpA
 rw [zza _ _ h0, zza _ _ h4, zza _ _ h3, zza _ _ h2, zza _ _ h1, yvo h5]
theorem y5o {A : AMap} {b : Bs} {c : Nat} {t : Tb} : ∀ κ, A κ ≠ none → cpA A b c t κ ≠ none := fun κ h => by
 unfold cpA kill
 split
 all_goals
  unfold upd
  repeat' split
  all_goals first
   | exact h
   | simp
theorem BW.copy {A : AMap} {b : Bs} {k c : Nat} {t : Tb} (h : BW A b k c) (hk : k ≤ c) : BW (cpA A b c t) (cpB b c t) k (c + 3) := by
 obtain ⟨⟨b1, b2, b3⟩, nd, hcn, k1, lp, lq, lt⟩ := h
 have hne : ∀ x ar, A (0, x) = some (.pr x ar) → x ≠ 0 ∧ x < c := fun x ar hx => hcn.ne hx
 have hbp := hne _ _ b1
 have hbq : ∀ q, b.q = some q → q ≠ 0 ∧ q < c := fun q e => hne _ _ (zqo b2 e)
 have keep : ∀ y ar, A (0, y) = some (.pr y ar) → y ≠ b.p → (∀ q, b.q = some q → y ≠ q) → cpA A b c t (0, y) = A (0, y) := fun y ar hy h1 h2 => by
  have := hne _ _ hy
  exact z0c (by simp; omega) (by simp; omega) (by simp; omega) (by simp; omega) (by simp; omega) (fun p e e2 => h2 p e (Prod.mk.inj e2).2)
 have kt : ∀ u ∈ b.tabs, TAt (cpA A b c t) u := fun u hu => by
  have hTu := b3 u hu
  refine z92 hTu ?_ fun q e => ?_
  · exact keep _ _ hTu.1 (z6c hTu.1 b1 (by unfold Bs.cells Tb.cells; simp)) (fun q e => z6c hTu.1 (zqo b2 e) (by simp))
  · exact keep _ _ (zqo hTu.2 e) (z6c (zqo hTu.2 e) b1 (by simp)) (fun q' e' e2 => by
     have h5 := zqo b2 e'
     rw [← e2, zqo hTu.2 e] at h5
     simp at h5)
 have hT : TAt (cpA A b c t) (cpT c t) := by
  constructor
  · show cpA A b c t (0, c) = _
    unfold cpA
    rw [zza _ _ (by simp; omega), zza _ _ (by simp; omega), zza _ _ (by simp), zza _ _ (by simp), zzc]; rfl
  · show cpA A b c t (0, c + 1) = _
    unfold cpA
    rw [zza _ _ (by simp), zza _ _ (by simp; omega), zza _ _ (by simp), zzc]; rfl
 have hm : ∀ u, u ∈ (cpB b c t).tabs → u = cpT c t ∨ u ∈ b.tabs := fun u hu => by
  rcases List.mem_append.1 hu with h1 | h1
  · exact .inr h1
  · exact .inl (List.mem_singleton.1 h1)
 refine ⟨⟨?_, ?_, ?_⟩, ?_, ⟨?_, by omega, fun j hj => ?_⟩, k1, lp, ?_, ?_⟩
 · show cpA A b c t (0, b.p) = _
   unfold cpA
   rw [zza _ _ (by simp; omega), zzc]; rfl
 · show cpA A b c t (0, c + 2) = _
   unfold cpA
   rw [zza _ _ (by simp), zza _ _ (by simp; omega), zzc]
 · intro u hu
   rcases hm u hu with rfl | hu
   · exact hT
   · exact kt u hu
 · refine List.pairwise_append.2 ⟨nd, List.pairwise_singleton _ _, fun u hu v hv => ?_⟩
   rw [List.mem_singleton.1 hv]
   have h1 := hne _ _ (b3 u hu).1
   refine ⟨fun e => ?_, fun q e e2 => ?_⟩
   · have : u.p = c := e
     omega
   · have h2 := (hne _ _ (zqo (b3 u hu).2 e)).2
     have : c + 1 = q := Option.some.inj e2
     omega
 · unfold cpA; rw [zzc]
 · rw [z0c (by simp; omega) (by simp; omega) (by simp; omega) (by simp; omega) (by simp; omega) (fun p e => by have := (hbq p e).2; simp; omega)]
   exact hcn.2.2 j (by omega)
 · intro q e
   cases e
   omega
 · intro u hu
   rcases hm u hu with rfl | hu
   · refine ⟨by show k ≤ c; omega, fun q e => ?_⟩
     have : c + 1 = q := Option.some.inj e
     omega
   · exact lt u hu
theorem y61 {A : AMap} {b : Bs} {k c : Nat} {t : Tb} (h : BW A b k c) (hk : k ≤ c) : Low k A (cpA A b c t) := fun κ h0 h1 => by
 have h2 := h.lp
 refine z0c h0 ?_ ?_ ?_ ?_ (fun q e => ?_)
 all_goals (rintro rfl; simp at h1; try omega)
 have := h.lq q e
 omega
structure CpI (A : AMap) (b : Bs) (c : Nat) (l : List Tb) (s : AMap × Bs × Nat) : Prop where
 w : BW s.1 s.2.1 c s.2.2
 gt : c < s.2.2
 low : Low c A s.1
 kA : ∀ κ, A κ ≠ none → s.1 κ ≠ none
 abs : s.2.1.abs = l.map Tb.abs
 p : s.2.1.p = c
 seq : s.2.1.seq = b.seq
 time : s.2.1.time = b.time
 hor : s.2.1.hor = b.hor
 len : s.2.1.tabs.length = l.length
theorem xxb {A : AMap} {b : Bs} {k c : Nat} (h : BW A b k c) : CpI A b c [] (cpA0 A b c, cpB0 b c, c + 1) := by
 have hc := h.cn
 have h1 := hc.2.1
 refine ⟨⟨⟨?_, rfl, fun t ht => by cases ht⟩, .nil, ⟨?_, by show 1 ≤ c + 1; omega, fun j hj => ?_⟩, h1, Zlr _, fun q e => (by cases e), fun t ht => by cases ht⟩, Nat.lt_succ_self _, fun κ h2 h3 => ?_, fun κ h2 => ?_, rfl, rfl, rfl, rfl, rfl, rfl⟩
 · show cpA0 A b c (0, c) = _
   unfold cpA0
   rw [zza _ _ (by simp; omega), zzc]; rfl
 · show cpA0 A b c (0, 0) = _
   unfold cpA0; rw [zzc]
 · have : c + 1 ≤ j := hj
   show cpA0 A b c (0, j) = _
   unfold cpA0
   rw [zza _ _ (by simp; omega), zza _ _ (by simp; omega)]
   exact hc.2.2 j (by omega)
 · show cpA0 A b c κ = _
   unfold cpA0
   rw [zza _ _ h2, zza _ _ (by rintro rfl; simp at h3)]
 · show cpA0 A b c κ ≠ none
   unfold cpA0 upd
   repeat' split
   all_goals first
    | exact h2
    | simp
theorem y3e {A : AMap} {b : Bs} {c : Nat} {l : List Tb} {s : AMap × Bs × Nat} {t : Tb} (h : CpI A b c l s) : CpI A b c (l ++ [t]) (y0k s t) := by
 refine ⟨h.w.copy (Nat.le_of_lt h.gt), by have := h.gt; show c < s.2.2 + 3; omega, h.low.trans (y61 h.w (Nat.le_of_lt h.gt)), fun κ hκ => y5o κ (h.kA κ hκ), ?_, h.p, h.seq, h.time, h.hor, ?_⟩
 · show (s.2.1.tabs ++ [cpT s.2.2 t]).map Tb.abs = _
   rw [List.map_append, List.map_append]
   have := h.abs
   unfold Bs.abs at this
   rw [this]; rfl
 · show (s.2.1.tabs ++ [cpT s.2.2 t]).length = _
   rw [Zla, Zla, h.len]; rfl
theorem yxh {A : AMap} {b : Bs} {k c : Nat} (h : BW A b k c) (l : List Tb) : ∀ i, i ≤ l.length → CpI A b c (l.take i) (z1b A b c (l.take i))
 | 0, _ => by rw [List.take_zero]; exact xxb h
 | i + 1, hi => by
   have hg := Zge (show i < l.length by omega)
   rw [z7q hg, zzw hg]
   exact y3e (yxh h l i (by omega))
theorem z8t {A B : AMap} {b : Bs} {c : Nat} {t : Tb} {τ : Tok} (a0 : A τ = none) (τ0 : τ.1 ≠ 0) (b0 : B (0, 0) = some (.cnt (c + 3))) (b1 : B (0, c) = some (.pr c (.ob (cpT c t).cells)))
 (b2 : B (0, c + 1) = some (.pr (c + 1) (.mu 4 (t.keys.map En.enc)))) (b3 : B (0, c + 2) = some (.pr (c + 2) (.mu 1 (zzp (cpB b c t).tabs)))) (b4 : B (0, b.p) = some (.pr b.p (.ob (cpB b c t).cells))) (b5 : ∀ q, b.q = some q → B (0, q) = some .dead)
 (b6 : ∀ κ, κ ≠ τ → κ ≠ (0, 0) → κ ≠ (0, c) → κ ≠ (0, c + 1) → κ ≠ (0, c + 2) → κ ≠ (0, b.p) → (∀ q, b.q = some q → κ ≠ (0, q)) → B κ = A κ) : ∀ κ, cpA A b c t κ = none ∨ cpA A b c t κ = B κ := fun κ => by
 by_cases e1 : κ = τ
 · left
   subst e1
   have h : ∀ n, κ ≠ (0, n) := fun n e => τ0 (by rw [e])
   rw [z0c (h _) (h _) (h _) (h _) (h _) (fun _ _ => h _)]
   exact a0
 · right
   by_cases e2 : κ = (0, 0)
   · subst e2; unfold cpA; rw [zzc, b0]
   by_cases e3 : κ = (0, b.p)
   · subst e3; unfold cpA; rw [zza _ _ e2, zzc, b4]
   by_cases e4 : κ = (0, c + 2)
   · subst e4; unfold cpA; rw [zza _ _ e2, zza _ _ e3, zzc, b3]
   by_cases e5 : κ = (0, c + 1)
   · subst e5; unfold cpA; rw [zza _ _ e2, zza _ _ e3, zza _ _ e4, zzc, b2]
   by_cases e6 : κ = (0, c)
   · subst e6; unfold cpA; rw [zza _ _ e2, zza _ _ e3, zza _ _ e4, zza _ _ e5, zzc, b1]
   by_cases e7 : ∃ q, b.q = some q ∧ κ = (0, q)
   · obtain ⟨q, h1, rfl⟩ := e7
     unfold cpA
     rw [zza _ _ e2, zza _ _ e3, zza _ _ e4, zza _ _ e5, zza _ _ e6, b5 q h1, h1]
     exact zzc ..
   · have e8 : ∀ q, b.q = some q → κ ≠ (0, q) := fun q h1 h2 => e7 ⟨q, h1, h2⟩
     rw [z0c e2 e6 e5 e4 e3 e8, b6 κ e1 e2 e6 e5 e4 e3 e8]
section
variable {A : AMap}
theorem Tryz.rCopy (off : Nat) {M N P W k c : Nat} (b : Bs) (h : BW A b k c) (hL : LOK M N P W b.abs) (hM : M ≤ 1048576) :
 zqf Tryz.prog 43 off noH A [rfD b.p] (rfD c) noH (z1b A b c b.tabs).1 := by
 obtain ⟨hl, hts⟩ := hL.of_abs
 have hb := h.ba
 have hcn := h.cn
 obtain ⟨h1, h2, h3⟩ := hb
 have hbp := hcn.ne h1
 have hcI := yxh h b.tabs
 have p0 : (b.p = c) = False := eq_false (by omega)
 have p1 : (b.p = 0) = False := eq_false (by omega)
 refine zqh (E := envOf Tryz.prog [8000000 + 97, 8000000 + 102, 10000000 + 95, 10000000 + 99] off [] [1, 6, 7]) (zzx Tryz.mixed) Tryz.func43 rfl Tryz.call43 (by kernel_rfl) (by exact Zle rfl) (fun hab => ?_)
 have hc : b.cells = [dI b.seq, dI b.time, dI b.hor, slD b.q 1 b.tabs.length] := rfl
 rw [hc] at h1
 repeat' (first|(with_reducible first|refine vSq fun K hK=>?_|apply vRg|apply vBl|apply vSc|apply vIf|apply vSk|apply vEx|apply vRt|((first|apply gNt|apply gCs)<;>(intro h;try simp only[h]))|((first|apply hK|(clear hK K;first|apply hK|(clear hK K;first|apply hK|(clear hK K;apply hK))));clear hK K)|(refine todo ?_;simp +decide only[go_sem, h1]))|(refine z3u (c := c) hcn.1 (hcn.2.2 c (Zlr _)) ?_; refine todo ?_; try simp +decide only [go_sem]))
 refine zzj b.tabs.length (fun _ => True) (fun i => over [(0, rfD b.p), (3, rfD c), (4, pD (dI i))] [] noH (z1b A b c (b.tabs.take i)).1) Zti ?_ ?_
 · refine zz1 (fun κ => .inr ?_) (hcI 0 (Nat.zero_le _)).kA ?_ ?_ <;> simp +decide only [go_sem]
   show cpA0 A b c κ = _
   unfold cpA0
   simp [upd]
   rfl
 · intro i hi _
   have hI := hcI i hi
   rcases Zlg i b.tabs.length with hlt | hge
   · have hg := Zge hlt
     have hd := zze hlt
     have hlt' : (i < b.tabs.length) = True := eq_true hlt
     have hnx := zzl hlt (show b.tabs.length ≤ 4294967296 by omega)
     have hsq := z7q (A := A) (b := b) (c := c) hg
     generalize b.tabs[i] = t at hg hsq
     have htm := Zme hg
     generalize hs : z1b A b c (b.tabs.take i) = s at hI hsq
     have hkA : ∀ κ, A κ ≠ none → (z1b A b c (b.tabs.take (i + 1))).1 κ ≠ none := by rw [hsq]; exact fun κ hκ => y5o κ (hI.kA κ hκ)
     obtain ⟨A', b', n⟩ := s
     have e1 : (z1b A b c (b.tabs.take (i + 1))).1 = cpA A' b' n t := by rw [hsq]; rfl
     rw [e1] at hkA
     have hw := hI.w
     have hcn' : c < n := hI.gt
     have hlow := hI.low
     have hbp' : b'.p = c := hI.p
     simp only at hw hlow
     obtain ⟨k1, k2, k3⟩ := hw.cn
     obtain ⟨v1, v2, v3⟩ := hw.ba
     rw [hbp'] at v1
     have g1 : A' (0, b.p) = some (.pr b.p (.ob [dI b.seq, dI b.time, dI b.hor, slD b.q 1 b.tabs.length])) := by rw [hlow (0, b.p) (by simp; omega) (.inr (by simp; omega)), h1]
     obtain ⟨q0, hq0, hA0⟩ := z97 h2 (by simp [zzp]; omega)
     have hq0c := hcn.ne hA0
     have g2 : A' (0, q0) = some (.pr q0 (.mu 1 (zzp b.tabs))) := by rw [hlow (0, q0) (by simp; omega) (.inr (by simp; omega)), hA0]
     rw [hq0] at g1
     simp only [slD] at g1
     have hTt := h3 t htm
     have htc := hcn.ne hTt.1
     have g3 : A' (0, t.p) = some (.pr t.p (.ob t.cells)) := by rw [hlow (0, t.p) (by simp; omega) (.inr (by simp; omega)), hTt.1]
     have htO := hts t htm
     have hlen : (zzp b.tabs).length = b.tabs.length := by simp [zzp]
     have hg' : (zzp b.tabs)[i]? = some [.rf t.p 0] := by rw [zzp, List.getElem?_map, hg]; rfl
     have gτ : A' (off + 56, 0) = none := by rw [hlow (off + 56, 0) (by simp) (.inl (by simp))]; exact (hab (off + 56) (by omega)).2 0
     have o0 : (off + 56 = 0) = False := eq_false (by omega)
     have a1 : (b.p = n) = False := eq_false (by omega)
     have a2 : (b.p = n + 1) = False := eq_false (by omega)
     have a3 : (q0 = n) = False := eq_false (by omega)
     have a4 : (q0 = n + 1) = False := eq_false (by omega)
     have a5 : (q0 = 0) = False := eq_false (by omega)
     have a6 : (t.p = n) = False := eq_false (by omega)
     have a7 : (t.p = n + 1) = False := eq_false (by omega)
     have a8 : (t.p = 0) = False := eq_false (by omega)
     have a9 : (n = 0) = False := eq_false (by omega)
     have b1 : (c = 0) = False := eq_false (by omega)
     have b2 : (c = n) = False := eq_false (by omega)
     have b3 : (c = n + 1) = False := eq_false (by omega)
     have b4 : (n + 1 = n) = False := eq_false (by omega)
     have b5 : (n = n + 1) = False := eq_false (by omega)
     have b6 : (n + 1 = 0) = False := eq_false (by omega)
     have b7 : (c = n + 2) = False := eq_false (by omega)
     have z1 : (0 = n) = False := eq_false (by omega)
     have z2 : (0 = c) = False := eq_false (by omega)
     have z3 : (n = c) = False := eq_false (by omega)
     have z4 : (n + 1 = c) = False := eq_false (by omega)
     have z5 : (n + 2 = c) = False := eq_false (by omega)
     have hb'l : b'.tabs.length = i := by have := hI.len; simp at this; omega
     have tcs : t.cells = [dS t.name, .sl (t.defs.map Df.enc), slD t.q 4 t.keys.length] := rfl
     have bcs : b'.cells = [dI b'.seq, dI b'.time, dI b'.hor, slD b'.q 1 b'.tabs.length] := rfl
     have els : zzp (cpB b' n t).tabs = zzp b'.tabs ++ [[.rf n 0]] := by simp [zzp, cpB, cpT]
     cases htq : t.q with
     | none =>
       have g3' := g3
       rw [tcs, htq] at g3'
       simp only [slD] at g3'
       have hk0 : t.keys = [] := by have := zk5 hTt.2 htq; simpa using this
       cases hb'q : b'.q with
       | none =>
         have hb0 : b'.tabs = [] := by have := zk5 v2 hb'q; unfold zzp at this; simpa using this
         have hi0 : i = 0 := by rw [← hb'l, hb0]; rfl
         have v1' := v1
         rw [bcs, hb'q] at v1'
         simp only [slD] at v1'
         repeat' (first|(with_reducible first|refine vSq fun K hK=>?_|apply vRg|apply vBl|apply vSc|apply vIf|apply vSk|apply vEx|apply vRt|((first|apply gNt|apply gCs)<;>(intro h;try simp only[h]))|((first|apply hK|(clear hK K;first|apply hK|(clear hK K;first|apply hK|(clear hK K;apply hK))));clear hK K)|(refine todo ?_;simp +decide only[go_sem, g1, g2, g3', hlen, hlt', hg', hd, hnx, v1', a1, a3, a5, a6, a8, a9, b1, b2, b3, b5, b7, Prod.mk.injEq, and_false, p1]))|(refine z3u (c := n) k1 (k3 n (Zlr _)) ?_; refine todo ?_; try simp +decide only [go_sem])|(refine zx2 Tryz.appDefs rfl rfl zvw (z6r _) (by have := htO.dl; simp; omega) (by simp [upd]; exact gτ) ?_)|(refine zv3 Tryz.appEnts (o := none) (cn := n + 1) (ys := []) (zqx rfl) z0m (by simp) (by simp [upd, z1]) (by simp [upd]; exact k3 (n + 1) (by omega)) ?_)|(refine zv3 Tryz.appTabs (o := none) (cn := n + 2) (ys := [[.rf n 0]]) (zqx rfl) (zqk rfl) (by simp) (by simp [upd, z1]) (by simp [upd]; exact k3 (n + 2) (by omega)) ?_))
         refine zzi (I := fun _ => True) hlt Zti ?_
         show Weak noH A _ (over [(0, rfD b.p), (3, rfD c), (4, pD (dI (i + 1 : Nat)))] [] noH (z1b A b c (b.tabs.take (i + 1))).1)
         rw [e1]
         refine zz1 (z8t gτ (by simp) ?_ ?_ ?_ ?_ ?_ ?_ ?_) hkA ?_ ?_
         · simp [upd, z2]
         · rw [show (cpT n t).cells = [dS t.name, .sl (t.defs.map Df.enc), .sa (n + 1) 4 t.keys.length] from rfl]
           simp [upd, z3, a9, hk0]
           try rfl
         · simp [upd, z4, hk0]
         · rw [els]
           simp [upd, z5, hb0, zzp]
         · rw [hbp']
           simp [upd, Bs.cells, cpB, hb'l, slD, hi0]
           try exact ⟨rfl, rfl, rfl⟩
         · intro q e
           rw [hb'q] at e
           cases e
           try simp [upd, b1]
         · intro κ f0 f1 f2 f3 f4 f5 f6
           rw [hbp'] at f5
           skip
           simp [upd, f0, f1, f2, f3, f4, f5]
         · simp +decide only [go_sem]
         · simp +decide only [go_sem]
       | some qb =>
         have v2' := zqo v2 hb'q
         have hqb := hw.cn.ne v2'
         have v1' := v1
         rw [bcs, hb'q] at v1'
         simp only [slD] at v1'
         have hqc : qb ≠ c := fun e => by rw [e, v1'] at v2'; cases v2'
         have d1 : (qb = n) = False := eq_false (by omega)
         have d2 : (qb = n + 1) = False := eq_false (by omega)
         have d3 : (qb = 0) = False := eq_false (by omega)
         have d4 : (qb = c) = False := eq_false hqc
         have d5 : (c = qb) = False := eq_false (fun e => hqc e.symm)
         have d6 : (n = qb) = False := eq_false (by omega)
         have d7 : (n + 1 = qb) = False := eq_false (by omega)
         have d8 : (qb = n + 2) = False := eq_false (by omega)
         have hb'n : b'.tabs.length ≤ 1048576 := by omega
         repeat' (first|(with_reducible first|refine vSq fun K hK=>?_|apply vRg|apply vBl|apply vSc|apply vIf|apply vSk|apply vEx|apply vRt|((first|apply gNt|apply gCs)<;>(intro h;try simp only[h]))|((first|apply hK|(clear hK K;first|apply hK|(clear hK K;first|apply hK|(clear hK K;apply hK))));clear hK K)|(refine todo ?_;simp +decide only[go_sem, g1, g2, g3', hlen, hlt', hg', hd, hnx, v1', a1, a3, a5, a6, a8, a9, b1, b2, b3, b5, b7, Prod.mk.injEq, and_false, p1, d5]))|(refine z3u (c := n) k1 (k3 n (Zlr _)) ?_; refine todo ?_; try simp +decide only [go_sem])|(refine zx2 Tryz.appDefs rfl rfl zvw (z6r _) (by have := htO.dl; simp; omega) (by simp [upd]; exact gτ) ?_)|(refine zv3 Tryz.appEnts (o := none) (cn := n + 1) (ys := []) (zqx rfl) z0m (by simp) (by simp [upd, z1]) (by simp [upd]; exact k3 (n + 1) (by omega)) ?_)|(refine z18 Tryz.appTabs (o := none) (p := qb) (cn := n + 2) (els := zzp b'.tabs) (ys := [[.rf n 0]]) (by simp [upd, d1, d2, d3]; exact v2') (by simp [zzp]) (zqx rfl) (by simp) (z8a _) (zqk rfl) (by simp [zzp]; omega) (by simp [upd, z1]) (by simp [upd]; exact k3 (n + 2) (by omega)) ?_))
         refine zzi (I := fun _ => True) hlt Zti ?_
         show Weak noH A _ (over [(0, rfD b.p), (3, rfD c), (4, pD (dI (i + 1 : Nat)))] [] noH (z1b A b c (b.tabs.take (i + 1))).1)
         rw [e1]
         refine zz1 (z8t gτ (by simp) ?_ ?_ ?_ ?_ ?_ ?_ ?_) hkA ?_ ?_
         · simp [upd, z2]
         · rw [show (cpT n t).cells = [dS t.name, .sl (t.defs.map Df.enc), .sa (n + 1) 4 t.keys.length] from rfl]
           simp [upd, z3, a9, d6, hk0]
           try rfl
         · simp [upd, z4, d7, hk0]
         · rw [els]
           simp [upd, z5, zzp]
         · rw [hbp']
           simp [upd, Bs.cells, cpB, hb'l, slD]
           exact ⟨rfl, rfl, rfl, by simp [zzp, hb'l]⟩
         · intro q e
           rw [hb'q] at e
           cases e
           try simp [upd, d3, d4, d8]
         · intro κ f0 f1 f2 f3 f4 f5 f6
           rw [hbp'] at f5
           have f7 := f6 qb hb'q
           simp [upd, f0, f1, f2, f3, f4, f5, f7]
         · simp +decide only [go_sem]
         · simp +decide only [go_sem]
     | some tq =>
       have g3' := g3
       rw [tcs, htq] at g3'
       simp only [slD] at g3'
       have hAt := zqo hTt.2 htq
       have htqc := hcn.ne hAt
       have g4 : A' (0, tq) = some (.pr tq (.mu 4 (t.keys.map En.enc))) := by rw [hlow (0, tq) (by simp; omega) (.inr (by simp; omega)), hAt]
       have c1 : (tq = n) = False := eq_false (by omega)
       have c2 : (tq = n + 1) = False := eq_false (by omega)
       have c3 : (tq = 0) = False := eq_false (by omega)
       cases hb'q : b'.q with
       | none =>
         have hb0 : b'.tabs = [] := by have := zk5 v2 hb'q; unfold zzp at this; simpa using this
         have hi0 : i = 0 := by rw [← hb'l, hb0]; rfl
         have v1' := v1
         rw [bcs, hb'q] at v1'
         simp only [slD] at v1'
         repeat' (first|(with_reducible first|refine vSq fun K hK=>?_|apply vRg|apply vBl|apply vSc|apply vIf|apply vSk|apply vEx|apply vRt|((first|apply gNt|apply gCs)<;>(intro h;try simp only[h]))|((first|apply hK|(clear hK K;first|apply hK|(clear hK K;first|apply hK|(clear hK K;apply hK))));clear hK K)|(refine todo ?_;simp +decide only[go_sem, g1, g2, g3', hlen, hlt', hg', hd, hnx, v1', a1, a3, a5, a6, a8, a9, b1, b2, b3, b5, b7, Prod.mk.injEq, and_false, p1]))|(refine z3u (c := n) k1 (k3 n (Zlr _)) ?_; refine todo ?_; try simp +decide only [go_sem])|(refine zx2 Tryz.appDefs rfl rfl zvw (z6r _) (by have := htO.dl; simp; omega) (by simp [upd]; exact gτ) ?_)|(refine zv3 Tryz.appEnts (o := some tq) (cn := n + 1) (ys := t.keys.map En.enc) (yq0 (by simp [upd, c1, c3]; exact g4) (by simp)) (zw4 _) (by have := htO.kl; simp; omega) (by simp [upd, z1]) (by simp [upd]; exact k3 (n + 1) (by omega)) ?_)|(refine zv3 Tryz.appTabs (o := none) (cn := n + 2) (ys := [[.rf n 0]]) (zqx rfl) (zqk rfl) (by simp) (by simp [upd, z1]) (by simp [upd]; exact k3 (n + 2) (by omega)) ?_))
         refine zzi (I := fun _ => True) hlt Zti ?_
         show Weak noH A _ (over [(0, rfD b.p), (3, rfD c), (4, pD (dI (i + 1 : Nat)))] [] noH (z1b A b c (b.tabs.take (i + 1))).1)
         rw [e1]
         refine zz1 (z8t gτ (by simp) ?_ ?_ ?_ ?_ ?_ ?_ ?_) hkA ?_ ?_
         · simp [upd, z2]
         · rw [show (cpT n t).cells = [dS t.name, .sl (t.defs.map Df.enc), .sa (n + 1) 4 t.keys.length] from rfl]
           simp [upd, z3, a9]
           try rfl
         · simp [upd, z4]
         · rw [els]
           simp [upd, z5, hb0, zzp]
         · rw [hbp']
           simp [upd, Bs.cells, cpB, hb'l, slD, hi0]
           try exact ⟨rfl, rfl, rfl⟩
         · intro q e
           rw [hb'q] at e
           cases e
           try simp [upd, b1]
         · intro κ f0 f1 f2 f3 f4 f5 f6
           rw [hbp'] at f5
           skip
           simp [upd, f0, f1, f2, f3, f4, f5]
         · simp +decide only [go_sem]
         · simp +decide only [go_sem]
       | some qb =>
         have v2' := zqo v2 hb'q
         have hqb := hw.cn.ne v2'
         have v1' := v1
         rw [bcs, hb'q] at v1'
         simp only [slD] at v1'
         have hqc : qb ≠ c := fun e => by rw [e, v1'] at v2'; cases v2'
         have d1 : (qb = n) = False := eq_false (by omega)
         have d2 : (qb = n + 1) = False := eq_false (by omega)
         have d3 : (qb = 0) = False := eq_false (by omega)
         have d4 : (qb = c) = False := eq_false hqc
         have d5 : (c = qb) = False := eq_false (fun e => hqc e.symm)
         have d6 : (n = qb) = False := eq_false (by omega)
         have d7 : (n + 1 = qb) = False := eq_false (by omega)
         have d8 : (qb = n + 2) = False := eq_false (by omega)
         have hb'n : b'.tabs.length ≤ 1048576 := by omega
         repeat' (first|(with_reducible first|refine vSq fun K hK=>?_|apply vRg|apply vBl|apply vSc|apply vIf|apply vSk|apply vEx|apply vRt|((first|apply gNt|apply gCs)<;>(intro h;try simp only[h]))|((first|apply hK|(clear hK K;first|apply hK|(clear hK K;first|apply hK|(clear hK K;apply hK))));clear hK K)|(refine todo ?_;simp +decide only[go_sem, g1, g2, g3', hlen, hlt', hg', hd, hnx, v1', a1, a3, a5, a6, a8, a9, b1, b2, b3, b5, b7, Prod.mk.injEq, and_false, p1, d5]))|(refine z3u (c := n) k1 (k3 n (Zlr _)) ?_; refine todo ?_; try simp +decide only [go_sem])|(refine zx2 Tryz.appDefs rfl rfl zvw (z6r _) (by have := htO.dl; simp; omega) (by simp [upd]; exact gτ) ?_)|(refine zv3 Tryz.appEnts (o := some tq) (cn := n + 1) (ys := t.keys.map En.enc) (yq0 (by simp [upd, c1, c3]; exact g4) (by simp)) (zw4 _) (by have := htO.kl; simp; omega) (by simp [upd, z1]) (by simp [upd]; exact k3 (n + 1) (by omega)) ?_)|(refine z18 Tryz.appTabs (o := none) (p := qb) (cn := n + 2) (els := zzp b'.tabs) (ys := [[.rf n 0]]) (by simp [upd, d1, d2, d3]; exact v2') (by simp [zzp]) (zqx rfl) (by simp) (z8a _) (zqk rfl) (by simp [zzp]; omega) (by simp [upd, z1]) (by simp [upd]; exact k3 (n + 2) (by omega)) ?_))
         refine zzi (I := fun _ => True) hlt Zti ?_
         show Weak noH A _ (over [(0, rfD b.p), (3, rfD c), (4, pD (dI (i + 1 : Nat)))] [] noH (z1b A b c (b.tabs.take (i + 1))).1)
         rw [e1]
         refine zz1 (z8t gτ (by simp) ?_ ?_ ?_ ?_ ?_ ?_ ?_) hkA ?_ ?_
         · simp [upd, z2]
         · rw [show (cpT n t).cells = [dS t.name, .sl (t.defs.map Df.enc), .sa (n + 1) 4 t.keys.length] from rfl]
           simp [upd, z3, a9, d6]
           try rfl
         · simp [upd, z4, d7]
         · rw [els]
           simp [upd, z5, zzp]
         · rw [hbp']
           simp [upd, Bs.cells, cpB, hb'l, slD]
           exact ⟨rfl, rfl, rfl, by simp [zzp, hb'l]⟩
         · intro q e
           rw [hb'q] at e
           cases e
           try simp [upd, d3, d4, d8]
         · intro κ f0 f1 f2 f3 f4 f5 f6
           rw [hbp'] at f5
           have f7 := f6 qb hb'q
           simp [upd, f0, f1, f2, f3, f4, f5, f7]
         · simp +decide only [go_sem]
         · simp +decide only [go_sem]
   · have hd := zzf hge
     have he : i = b.tabs.length := by omega
     subst he
     rw [List.take_length] at hI ⊢
     have h4 := hcn.2.1
     have g1 : (z1b A b c b.tabs).1 (0, b.p) = some (.pr b.p (.ob [dI b.seq, dI b.time, dI b.hor, slD b.q 1 b.tabs.length])) := by rw [hI.low (0, b.p) (by simp; omega) (.inr (by simp; omega)), h1]
     cases hq : b.q with
     | none =>
       rw [hq] at g1
       simp only [slD] at g1
       have h0 : b.tabs.length = 0 := by have := zk5 h2 hq; unfold zzp at this; simpa using this
       have hd0 : ((b.tabs.length : Int) < 0) = False := eq_false (by omega)
       repeat' (first|(with_reducible first|refine vSq fun K hK=>?_|apply vRg|apply vBl|apply vSc|apply vIf|apply vSk|apply vEx|apply vRt|((first|apply gNt|apply gCs)<;>(intro h;try simp only[h]))|((first|apply hK|(clear hK K;first|apply hK|(clear hK K;first|apply hK|(clear hK K;apply hK))));clear hK K)|(refine todo ?_;simp +decide only[go_sem, g1, hd0])))
       exact zqq (zzu (p := rfD c) rfl (by unfold zzn; simp +decide only [go_sem])) (by simp +decide only [go_sem]) Zti zqd (fun id cs h => by cases h) (fun κ => .inr (.inl rfl)) (fun _ h => h) hI.kA
     | some q =>
       rw [hq] at g1
       simp only [slD] at g1
       repeat' (first|(with_reducible first|refine vSq fun K hK=>?_|apply vRg|apply vBl|apply vSc|apply vIf|apply vSk|apply vEx|apply vRt|((first|apply gNt|apply gCs)<;>(intro h;try simp only[h]))|((first|apply hK|(clear hK K;first|apply hK|(clear hK K;first|apply hK|(clear hK K;apply hK))));clear hK K)|(refine todo ?_;simp +decide only[go_sem, g1, hd])))
       exact zqq (zzu (p := rfD c) rfl (by unfold zzn; simp +decide only [go_sem])) (by simp +decide only [go_sem]) Zti zqd (fun id cs h => by cases h) (fun κ => .inr (.inl rfl)) (fun _ h => h) hI.kA
end
end Go.Proofs
namespace Go.Proofs
open Go.PW
def zxz (seq time : Int) (t : Txn) : Int := if z0n t = true then (if decide (t.seq ≤ seq) = true then 5 else if decide (seq + 1 < t.seq) = true then 12 else if decide (t.time ≤ time) = true then 1 else 0) else 7
def newB (c : Nat) : Bs := ⟨c, none, 0, -1, 0, []⟩
def newA (A : AMap) (c : Nat) : AMap := upd (upd A (0, c) (some (.pr c (.ob (newB c).cells)))) (0, 0) (some (.cnt (c + 1)))
theorem y7r {A : AMap} {c : Nat} (h : Cn A c) : BW (newA A c) (newB c) c (c + 1) := by
 have h1 := h.2.1
 refine ⟨⟨?_, rfl, fun t ht => by cases ht⟩, .nil, ⟨?_, by omega, fun j hj => ?_⟩, h1, Zlr _, fun q e => (by cases e), fun t ht => by cases ht⟩
 · show newA A c (0, c) = _
   unfold newA
   rw [zza _ _ (by simp; omega), zzc]; rfl
 · unfold newA; rw [zzc]
 · unfold newA
   rw [zza _ _ (by simp; omega), zza _ _ (by simp; omega)]
   exact h.2.2 j (by omega)
section
variable {A : AMap}
theorem Tryz.rBNew (off : Nat) {c : Nat} (h : Cn A c) : zqf Tryz.prog 21 off noH A [] (rfD c) noH (newA A c) := by
 refine zqh (E := envOf Tryz.prog [8000000 + 97] off [] []) (zzx Tryz.mixed) Tryz.func21 rfl Tryz.call21 (by kernel_rfl) (by exact Zle rfl) (fun hab => ?_)
 repeat' (first|(with_reducible first|refine vSq fun K hK=>?_|apply vRg|apply vBl|apply vSc|apply vIf|apply vSk|apply vEx|apply vRt|((first|apply gNt|apply gCs)<;>(intro h;try simp only[h]))|((first|apply hK|(clear hK K;first|apply hK|(clear hK K;first|apply hK|(clear hK K;apply hK))));clear hK K)|(refine todo ?_;simp +decide only[go_sem]))|(refine z3u (c := c) h.1 (h.2.2 c (Zlr _)) ?_; refine todo ?_; try simp +decide only [go_sem]))
 refine zqq (zzu (p := rfD c) rfl (by unfold zzn; simp +decide only [go_sem])) (by simp +decide only [go_sem]) Zti zqd (fun id cs h => by cases h) (fun κ => .inr (.inl ?_)) (fun _ h => h) (fun κ hκ => ?_)
 · unfold newA
   simp [upd]
   rfl
 · unfold newA upd
   repeat' split
   all_goals first
    | exact hκ
    | simp
theorem Tryz.rWrong (off : Nat) (b : Bs) (t : Txn) (hb : A (0, b.p) = some (.pr b.p (.ob b.cells))) (ht : t.sm) (h0 : 0 ≤ b.seq) (h1 : b.seq ≤ 1099511627776) :
 zqf Tryz.prog 42 off noH A [rfD b.p, pA t.enc] (pD (dI (zxz b.seq b.time t))) noH A := by
 refine zqh (E := envOf Tryz.prog [] off [] [3, 5, 7]) (zzx Tryz.mixed) Tryz.func42 rfl Tryz.call42 (by kernel_rfl) (by exact Zle rfl) (fun hab => ?_)
 have hc : b.cells = [dI b.seq, dI b.time, dI b.hor, slD b.q 1 b.tabs.length] := rfl
 rw [hc] at hb
 have hw : IntKind.i64.wrap (b.seq + 1) = b.seq + 1 := Go.IntWalk.i64_in _ (by omega)
 have kt := Tryz.rTxn t ht.sz
 repeat' (first|(with_reducible first|refine vSq fun K hK=>?_|apply vRg|apply vBl|apply vSc|apply vIf|apply vSk|apply vEx|apply vRt|((first|apply gNt|apply gCs)<;>(intro h;try simp only[h]))|((first|apply hK|(clear hK K;first|apply hK|(clear hK K;first|apply hK|(clear hK K;apply hK))));clear hK K)|(refine todo ?_;simp +decide only[go_sem, hb, hw]))|refine zzd kt rfl rfl (fun j => (hab _ (by omega)).2 j) ?_)
 all_goals first
  | (have e : zxz b.seq b.time t = 5 := by simp only [zxz, *, if_true, Bool.false_eq_true, if_false]
     rw [e]
     exact zql (zzu (p := pD (dI 5)) rfl (by unfold zzn; simp +decide only [go_sem])) (by simp +decide only [go_sem]) Zti zqd (fun i h => absurd rfl h) (fun _ _ => rfl))
  | (have e : zxz b.seq b.time t = 12 := by simp only [zxz, *, if_true, Bool.false_eq_true, if_false]
     rw [e]
     exact zql (zzu (p := pD (dI 12)) rfl (by unfold zzn; simp +decide only [go_sem])) (by simp +decide only [go_sem]) Zti zqd (fun i h => absurd rfl h) (fun _ _ => rfl))
  | (have e : zxz b.seq b.time t = 1 := by simp only [zxz, *, if_true, Bool.false_eq_true, if_false]
     rw [e]
     exact zql (zzu (p := pD (dI 1)) rfl (by unfold zzn; simp +decide only [go_sem])) (by simp +decide only [go_sem]) Zti zqd (fun i h => absurd rfl h) (fun _ _ => rfl))
  | (have e : zxz b.seq b.time t = 0 := by simp only [zxz, *, if_true, Bool.false_eq_true, if_false]
     rw [e]
     exact zql (zzu (p := pD (dI 0)) rfl (by unfold zzn; simp +decide only [go_sem])) (by simp +decide only [go_sem]) Zti zqd (fun i h => absurd rfl h) (fun _ _ => rfl))
  | (have e : zxz b.seq b.time t = 7 := by simp only [zxz, *, Bool.false_eq_true, if_false]
     rw [e]
     exact zql (zzu (p := pD (dI 7)) rfl (by unfold zzn; simp +decide only [go_sem])) (by simp +decide only [go_sem]) Zti zqd (fun i h => absurd rfl h) (fun _ _ => rfl))
end
end Go.Proofs
namespace Go.Proofs
open Go.PW
def zvi (time : Int) : List Tb → List Chg → Int × List Tb
 | L, [] => (0, L)
 | L, x :: l => if ((chgS L x time).1 != 0) = true then chgS L x time else zvi time (chgS L x time).2 l
def Lq (time : Int) (L : List Tb) (l : List Chg) : List Tb := l.foldl (fun L x => (chgS L x time).2) L
theorem z29 (time : Int) (L : List Tb) (x : Chg) (l : List Chg) : zvi time L (x :: l) = if ((chgS L x time).1 != 0) = true then chgS L x time else zvi time (chgS L x time).2 l := rfl
theorem z8o {time : Int} : ∀ {l : List Chg} {L : List Tb}, (zvi time L l).1 = 0 → (zvi time L l).2 = Lq time L l ∧ ∀ m, zvi time L (l ++ m) = zvi time (Lq time L l) m
 | [], L, _ => ⟨rfl, fun _ => rfl⟩
 | x :: l, L, h => by
   rw [z29] at h ⊢
   cases e : ((chgS L x time).1 != 0) with
   | true =>
     rw [e, if_pos rfl] at h
     rw [h] at e
     cases e
   | false =>
     rw [e, if_neg (by simp)] at h
     have ih := z8o h
     refine ⟨by rw [if_neg (by simp)]; exact ih.1, fun m => ?_⟩
     rw [List.cons_append, z29, e, if_neg (by simp)]
     exact ih.2 m
theorem yk8 {time : Int} {L : List Tb} {l : List Chg} {i : Nat} {x : Chg} (h : (zvi time L (l.take i)).1 = 0) (hx : l[i]? = some x) (he : (chgS (Lq time L (l.take i)) x time).1 = 0) : (zvi time L (l.take (i + 1))).1 = 0 := by
 rw [zzw hx, (z8o h).2]
 unfold zvi
 rw [he]
 rfl
theorem y0f {time : Int} {L : List Tb} {l : List Chg} {i : Nat} {x : Chg} (h : (zvi time L (l.take i)).1 = 0) (hx : l[i]? = some x) (he : ((chgS (Lq time L (l.take i)) x time).1 != 0) = true) : (zvi time L l).1 = (chgS (Lq time L (l.take i)) x time).1 := by
 obtain ⟨hi, e⟩ := List.getElem?_eq_some_iff.1 hx
 have e1 : l = l.take i ++ x :: l.drop (i + 1) := by rw [← e, List.getElem_cons_drop, List.take_append_drop]
 conv => lhs; rw [e1]
 rw [(z8o h).2]
 unfold zvi
 rw [if_pos he]
theorem y6c {time : Int} {L : List Tb} {l : List Chg} {i : Nat} {x : Chg} (hx : l[i]? = some x) : Lq time L (l.take (i + 1)) = (chgS (Lq time L (l.take i)) x time).2 := by
 unfold Lq
 rw [zzw hx, List.foldl_append]
 rfl
def newL (time : Int) (e : En) : List Ver := if e.named = true then vSet e.l time e.now else e.l
def zjv (time : Int) (e : En) : List En := if (newL time e).length = 0 then [] else [⟨e.key, newL time e, [], false⟩]
def Tb.fin (time : Int) (t : Tb) : Tb := { t with keys := t.keys.flatMap (zjv time) }
def zk4 (seq time : Int) (L : List Tb) (t : Txn) : Int := if (zxz seq time t != 0) = true then zxz seq time t else (zvi t.time L t.chs).1
def z3v (L : List Tb) (t : Txn) : List Tb := (Lq t.time L t.chs).map (Tb.fin t.time)
theorem y2q (l : List Ver) (t : Int) (p : List Piece) : (vSet l t p).length ≤ l.length + p.length := by
 unfold vSet
 split
 · unfold z22
   rw [(z6f _).1.length_eq, yjj]
   have h1 := List.length_filter_le (fun v => !z11 (diff (vAt l 1099511627775) p).1 v || decide (v.sl < t)) l
   have h2 := (y3j (vAt l 1099511627775) p).2.1
   unfold z9v
   omega
 · simp
theorem y5a (l : List Ver) (t : Int) (p : List Piece) : (vAt (vSet l t p) 1099511627775).length ≤ p.length := by
 unfold vSet
 split
 · rename_i h
   have hs := z9r.1 h
   rw [ywo hs (by have := hs.hm; omega) (by omega)]
   exact Zlr _
 · have := z08 [] 1099511627775
   simp at this ⊢
   rw [this]; simp
theorem y5b {l : List Ver} {t : Int} {p : List Piece} {v : Ver} (h : v ∈ vSet l t p) : (∃ w ∈ l, v.p.row = w.p.row) ∨ ∃ c ∈ p, v.p.row = c.row := by
 unfold vSet at h
 split at h
 · rename_i hs
   rcases (z09 (z9r.1 hs)).1 h with ⟨w, hw, _, rfl⟩ | ⟨w, hw, _, _, rfl⟩ | ⟨c, hc, _, rfl⟩
   · exact .inl ⟨v, hw, rfl⟩
   · exact .inl ⟨w, hw, rfl⟩
   · exact .inr ⟨c, hc, rfl⟩
 · cases h
theorem y7s {N P W : Nat} {time : Int} {e : En} (h : EnOK N P W e) (hp : P ≤ W) : (newL time e).length ≤ N + W ∧ (vAt (newL time e) 1099511627775).length ≤ W ∧ ∀ v ∈ newL time e, z68 v.p.row := by
 unfold newL
 split
 · have h1 := y2q e.l time e.now
   have h2 := y5a e.l time e.now
   have h3 := h.l
   have h4 := h.w
   refine ⟨by omega, by omega, fun v hv => ?_⟩
   rcases y5b hv with ⟨w, hw, e⟩ | ⟨c, hc, e⟩
   · rw [e]; exact h.lr w hw
   · rw [e]; exact h.nr c hc
 · exact ⟨by have := h.l; omega, by have := h.at'; omega, h.lr⟩
theorem y34 {N P W : Nat} {time : Int} {e x : En} (h : EnOK N P W e) (hp : P ≤ W) (hx : x ∈ zjv time e) : EnOK (N + W) W W x := by
 unfold zjv at hx
 split at hx
 · cases hx
 · rw [Zmg] at hx
   subst hx
   have h1 := y7s (time := time) h hp
   exact ⟨h.key, h1.1, h1.2.2, h1.2.1, by simp, fun v hv => by cases hv⟩
theorem z4w (time : Int) : ∀ l : List En, (l.flatMap (zjv time)).length ≤ l.length
 | [] => by simp
 | e :: l => by
   have h1 := z4w time l
   have h2 : (zjv time e).length ≤ 1 := by unfold zjv; split <;> simp
   rw [List.flatMap_cons, Zla, List.length_cons]
   omega
theorem y97 {M N P W : Nat} {time : Int} {t : Tb} (h : TbOK M N P W t) (hp : P ≤ W) : TbOK M (N + W) W W (t.fin time) := by
 refine ⟨h.name, h.d0, h.dl, h.ds, ?_, fun e he => ?_⟩
 · have := z4w time t.keys
   have := h.kl
   show (t.keys.flatMap (zjv time)).length ≤ M
   omega
 · obtain ⟨x, hx, he⟩ := List.mem_flatMap.1 he
   exact y34 (h.ks x hx) hp he
theorem y2y {time : Int} : ∀ {l : List Chg} {M N P W : Nat} {L : List Tb}, LOK M N P W L → P ≤ W → (∀ x ∈ l, x.good) → LOK (M + l.length) N P (W + 2 * l.length) (Lq time L l)
 | [], M, N, P, W, L, h, _, _ => h
 | x :: l, M, N, P, W, L, h, hp, hx => by
   have h1 := y6t (time := time) h (hx x (Zms2 ..)) hp
   have h2 := y2y (time := time) (l := l) h1 (by omega) (fun y hy => hx y (List.mem_cons_of_mem _ hy))
   exact h2.mono (by rw [List.length_cons]; omega) (by rw [List.length_cons]; omega)
theorem yw5 {M N P : Nat} {L : List Tb} {t : Txn} (h : LOK M N P P L) (hx : ∀ x ∈ t.chs, x.good) : LOK (M + t.chs.length) (N + P + 2 * t.chs.length) (P + 2 * t.chs.length) (P + 2 * t.chs.length) (z3v L t) := by
 have h1 := y2y (time := t.time) h (Zlr _) hx
 refine ⟨by unfold z3v; rw [List.length_map]; exact h1.l, fun u hu => ?_⟩
 obtain ⟨w, hw, rfl⟩ := List.mem_map.1 hu
 have h2 := y97 (time := t.time) (h1.t w hw) (by omega)
 rw [Nat.add_assoc]
 exact h2
end Go.Proofs
