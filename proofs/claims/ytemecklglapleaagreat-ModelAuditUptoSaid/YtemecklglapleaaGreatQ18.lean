/-
  Parts of the proof, laid together: PwU, PwW.
-/
import Derived.Test.YtemecklglapleaaGreatQ17

namespace Go.PW
def z2q : List (Nat × PV) → Nat → PV
 | [], _ => .c .any
 | (u, x) :: r, t => if t = u then x else z2q r t
def hOf : List (Nat × List CV) → HMap
 | [], _ => none
 | (u, x) :: r, t => if t = u then some x else hOf r t
def aOf : List (Tok × Arr) → AMap
 | [], _ => none
 | (u, x) :: r, t => if t = u then some x else aOf r t
def frame (l : List (Nat × PV)) (h : List (Nat × List CV)) (a : List (Tok × Arr)) : St := ⟨z2q l, hOf h, aOf a⟩
def z3r (H' : HMap) (A A' : AMap) : List CV → List CV → Prop
 | [], [] => True
 | c :: r, d :: s => CV.wk H' A A' c d ∧ z3r H' A A' r s
 | _, _ => False
theorem zjj {H' : HMap} {A A' : AMap} : ∀ {cs ds : List CV}, z3r H' A A' cs ds → cs.length = ds.length ∧ ∀ (k : Nat) (c d : CV), cs[k]? = some c → ds[k]? = some d → CV.wk H' A A' c d
 | [], [], _ => ⟨rfl, fun k c d h => by simp at h⟩
 | c :: r, d :: s, h => by
   obtain ⟨h1, h2⟩ := zjj h.2
   refine ⟨by simp [h1], fun k x y hx hy => ?_⟩
   cases k with
   | zero => simp at hx hy; rw [← hx, ← hy]; exact h.1
   | succ k => exact h2 k x y (by simpa using hx) (by simpa using hy)
 | [], _ :: _, h => h.elim
 | _ :: _, [], h => h.elim
def z84 (H' : HMap) (A A' : AMap) (ρ : Nat → PV) : List (Nat × PV) → Prop
 | [] => True
 | (t, x) :: r => PV.wk H' A A' x (ρ t) ∧ z84 H' A A' ρ r
def xzd (H' : HMap) (A A' : AMap) (cs : List CV) : Option (List CV) → Prop
 | some ds => z3r H' A A' cs ds
 | none => False
def z4h (H' : HMap) (A A' : AMap) (H : HMap) : List (Nat × List CV) → Prop
 | [] => True
 | (t, x) :: r => xzd H' A A' x (H t) ∧ z4h H' A A' H r
def y5q : Arr → Prop
 | .co _ n => n = 0
 | .mu _ els => els = []
 | _ => False
def y1f (ar : Arr) : Option Arr → Prop
 | some x => x = ar
 | none => y5q ar
def yxq (A : AMap) : List (Tok × Arr) → Prop
 | [] => True
 | (t, x) :: r => y1f x (A t) ∧ yxq A r
theorem zj3 {H' : HMap} {A A' : AMap} {ρ : Nat → PV} : ∀ {l : List (Nat × PV)}, z84 H' A A' ρ l → ∀ t, PV.wk H' A A' (z2q l t) (ρ t)
 | [], _, _ => Zti
 | (u, x) :: r, h, t => by
   unfold z2q
   split
   · rename_i e; rw [e]; exact h.1
   · exact zj3 h.2 t
theorem z7x {H' : HMap} {A A' : AMap} {H : HMap} : ∀ {l : List (Nat × List CV)}, z4h H' A A' H l → ∀ id, hOf l id = none ∨ ∃ cs ds, hOf l id = some cs ∧ H id = some ds ∧ cs.length = ds.length ∧ ∀ (k : Nat) (c d : CV), cs[k]? = some c → ds[k]? = some d → CV.wk H' A A' c d
 | [], _, _ => .inl rfl
 | (u, x) :: r, h, t => by
   unfold hOf
   split
   · rename_i e
     subst e
     right
     obtain ⟨h1, _⟩ := h
     cases hH : H t with
     | none => rw [hH] at h1; exact h1.elim
     | some ds => rw [hH] at h1; exact ⟨x, ds, rfl, rfl, zjj h1⟩
   · exact z7x h.2 t
theorem z3e {A : AMap} : ∀ {l : List (Tok × Arr)}, yxq A l → ∀ κ, aOf l κ = none ∨ aOf l κ = A κ ∨ (A κ = none ∧ ∃ sz, aOf l κ = some (.co sz 0) ∨ aOf l κ = some (.mu sz [])) ∨ yqe (A κ) (aOf l κ)
 | [], _, _ => .inl rfl
 | (u, x) :: r, h, t => by
   unfold aOf
   split
   · rename_i e
     subst e
     right
     obtain ⟨h1, _⟩ := h
     cases hA : A t with
     | none =>
       rw [hA] at h1
       right
       left
       refine ⟨rfl, ?_⟩
       cases x with
       | co sz n => exact ⟨sz, .inl (by rw [show n = 0 from h1])⟩
       | mu sz els => exact ⟨sz, .inr (by rw [show els = [] from h1])⟩
       | _ => exact False.elim h1
     | some y => rw [hA] at h1; exact .inl (by rw [show y = x from h1])
   · exact z3e h.2 t
theorem zzb {S : St} {l : List (Nat × PV)} {h : List (Nat × List CV)} {a : List (Tok × Arr)} (h1 : z84 (hOf h) S.A (aOf a) S.ρ l) (h2 : z4h (hOf h) S.A (aOf a) S.H h) (h3 : yxq S.A a) : Weak noH noA S (frame l h a) :=
 ⟨zj3 h1, z7x h2, z3e h3, fun _ h => absurd rfl h, fun _ h => absurd rfl h⟩
def Next (H0 : HMap) (A0 : AMap) (n : Nat) (I : Nat → Prop) (F : Nat → St) (i : Nat) (S : St) : Prop := ∃ j : {i : Nat // i ≤ n ∧ I i}, Weak H0 A0 S (F j.1) ∧ n - j.1 < n - i
theorem zzi {H0 : HMap} {A0 : AMap} {n : Nat} {I : Nat → Prop} {F : Nat → St} {i : Nat} {S : St} (hi : i < n) (h : I (i + 1)) (hw : Weak H0 A0 S (F (i + 1))) : Next H0 A0 n I F i S :=
 ⟨⟨i + 1, hi, h⟩, hw, by show n - (i + 1) < n - i; omega⟩
theorem zzj {E : Env} {H0 : HMap} {A0 : AMap} {c : Code} {Q : Post} {S : St} (n : Nat) (I : Nat → Prop) (F : Nat → St) (i0 : I 0) (h0 : Weak H0 A0 S (F 0))
 (h : ∀ i, i ≤ n → I i → VC E H0 A0 c ⟨Next H0 A0 n I F i, Q.ret, Q.ext⟩ (F i)) : VC E H0 A0 (.loop c) Q S :=
 ⟨{i : Nat // i ≤ n ∧ I i}, fun i => F i.1, fun i => n - i.1, ⟨⟨0, Nat.zero_le _, i0⟩, h0⟩, fun i => h i.1 i.2.1 i.2.2⟩
@[congr] theorem y8l {H0 : HMap} {A0 : AMap} {n m : Nat} {I : Nat → Prop} {F : Nat → St} {i : Nat} {S : St} (h : idd n = m) : Next H0 A0 n I F i S = Next H0 A0 m I F i S := by rw [← h]; rfl
@[congr] theorem y9d {P : Program} {fn : Func} {r r' : RV} {S : St} (h : idd r = r') : Ret P fn r S = Ret P fn r' S := by rw [← h]; rfl
@[go_sem] theorem xqh {h : Decidable True} : @decide True h = true := by cases h with | isTrue _ => rfl | isFalse h => exact absurd Zti h
@[go_sem] theorem y93 {h : Decidable False} : @decide False h = false := by cases h with | isTrue h => exact h.elim | isFalse _ => rfl
@[go_sem] theorem xql : ((0 : Nat) : Int) = 0 := rfl
@[go_sem] theorem xzy {t : Nat} : z2q [] t = .c .any := rfl
@[go_sem] theorem y81 {t u : Nat} {x : PV} {r : List (Nat × PV)} : z2q ((u, x) :: r) t = if t = u then x else z2q r t := rfl
@[go_sem] theorem xxj {t : Nat} : hOf [] t = none := rfl
@[go_sem] theorem xqk {t u : Nat} {x : List CV} {r : List (Nat × List CV)} : hOf ((u, x) :: r) t = if t = u then some x else hOf r t := rfl
@[go_sem] theorem xq9 {t : Tok} : aOf [] t = none := rfl
@[go_sem] theorem xqe {t u : Tok} {x : Arr} {r : List (Tok × Arr)} : aOf ((u, x) :: r) t = if t = u then some x else aOf r t := rfl
@[go_sem] theorem yj2 (l : List (Nat × PV)) (h : List (Nat × List CV)) (a : List (Tok × Arr)) : frame l h a = ⟨z2q l, hOf h, aOf a⟩ := rfl
@[go_sem] theorem y6d {E : Env} {fb : Option (List Nat)} {ops : Array Oper} {o : Oper} {r : List Oper} {K : St → Prop} (l : List (Nat × PV)) (h : List (Nat × List CV)) (a : List (Tok × Arr)) : RunV E fb ops (o :: r) (frame l h a) K = RunV E fb ops (o :: r) ⟨z2q l, hOf h, aOf a⟩ K := rfl
section wk
variable {H' : HMap} {A A' : AMap}
@[go_sem] theorem wk_d {x : D} : CV.wk H' A A' (.d x) (.d x) = True := eq_true (.inr (.inl ⟨rfl, Zti⟩))
@[go_sem] theorem y8h {x : List (List D)} : CV.wk H' A A' (.full x) (.full x) = True := eq_true (.inr (.inl ⟨rfl, Zti⟩))
@[go_sem] theorem y5e {x : List (List D)} : CV.wk H' A A' (.d (.sl x)) (.full x) = True := eq_true (.inr (.inr (.inl ⟨x, rfl, .inl rfl⟩)))
@[go_sem] theorem y8g {κ : Tok} {x : List (List D)} : CV.wk H' A A' (.d (.sl x)) (.own κ x) = True := eq_true (.inr (.inr (.inl ⟨x, rfl, .inr ⟨κ, rfl⟩⟩)))
@[go_sem] theorem xq1 {x : CV} : CV.wk H' A A' .any x = True := eq_true (.inl rfl)
@[go_sem] theorem xx5 {x : PV} : PV.wk H' A A' (.c .any) x = True := rfl
theorem wk_c {x y : CV} (h : CV.wk H' A A' x y) : PV.wk H' A A' (.c x) (.c y) := by
 unfold PV.wk
 split
 · exact Zti
 · rename_i h1 h2; cases h1; cases h2; exact h
 · rename_i h1 _; cases h1
 · rename_i h1 _; cases h1
 · rename_i h1 h2 h3 h4; exact (h2 _ _ rfl rfl).elim
@[go_sem] theorem xx4 {x : D} : PV.wk H' A A' (.c (.d x)) (.c (.d x)) = True := eq_true (wk_c (by rw [wk_d]; exact Zti))
@[go_sem] theorem xq0 {x : List (List D)} : PV.wk H' A A' (.c (.full x)) (.c (.full x)) = True := eq_true (wk_c (by rw [y8h]; exact Zti))
@[go_sem] theorem xz8 {x : List (List D)} : PV.wk H' A A' (.c (.d (.sl x))) (.c (.full x)) = True := eq_true (wk_c (by rw [y5e]; exact Zti))
@[go_sem] theorem xqz {κ : Tok} {x : List (List D)} : PV.wk H' A A' (.c (.d (.sl x))) (.c (.own κ x)) = True := eq_true (wk_c (by rw [y8g]; exact Zti))
theorem zqb {κ : Tok} {x : List (List D)} (h : A' κ ≠ none) (e : A' κ = A κ) : PV.wk H' A A' (.c (.own κ x)) (.c (.own κ x)) := wk_c (.inr (.inl ⟨rfl, h, e⟩))
theorem zju {κ : Tok} {sz : Nat} (h : A κ = none) (e : A' κ = some (.co sz 0)) : PV.wk H' A A' (.c (.own κ [])) (.c (.full [])) := wk_c (.inr (.inr (.inr (.inl ⟨rfl, κ, sz, rfl, h, e⟩))))
theorem zzh {id o : Nat} (h : H' id ≠ none) : PV.wk H' A A' (.c (.ptr id o)) (.c (.ptr id o)) := wk_c (.inr (.inl ⟨rfl, h⟩))
end wk
theorem zkv {P : Program} {fn : Func} {S : St} {v v' : ResultVar} {r r' : RT} {p p' : PV} (k : Option Tok) (hr : fn.results.toList = [v, v']) (h : zzn P S v = some p) (h' : zzn P S v' = some p') (e : RetT S.A k r p) (e' : RetT S.A none r' p') : Ret P fn (.tup [r, r']) S := by
 refine ⟨by show [r, r'].length ≠ 1; simp, [k, none], fun i j κ hi hj => ?_, by rw [hr]; exact ⟨p, h, e, p', h', e', rfl⟩⟩
 match i, j with
 | 0, 0 => rfl
 | 1, _ => simp at hi
 | 0, 1 => simp at hj
 | 0, j + 2 => simp at hj
 | i + 2, _ => simp at hi
theorem zw9 {P : Program} {fn : Func} {S : St} {t t' : Nat} {T : TypeId} {cs : List D} {x : D} (hr : fn.results.toList = [.cell t T, .tmp t']) (h : z53 P none S.H S.A T (S.ρ t) = some (.agg (cs.map .d))) (h' : S.ρ t' = .c (.d x)) : Ret P fn (.tup [.agg cs, .d x]) S := by
 refine zkv none hr h rfl ?_ (.inl (by rw [h']; rfl))
 show PV.frz _ = _
 simp only [PV.frz, List.map_map]
 congr 1
def Todo (p : Prop) : Prop := p
theorem todo {p : Prop} (h : p) : Todo p := h
theorem vRg {E : Env} {H0 : HMap} {A0 : AMap} {id : Nat} {l : List Oper} {draw : Bool} {Q : Post} {S : St} (h : Todo (RunV E (fbOf E id l.toArray draw) l.toArray l S Q.nrm)) : VC E H0 A0 (.region id l.toArray draw) Q S := z0a h
theorem gNt {b : Bool} {X Y : Prop} (h : b = true → Todo Y) (h' : b = false → Todo X) : zjd (some (!b)) X Y := ykz h h'
theorem gCs {b : Bool} {X Y : Prop} (h : b = true → Todo X) (h' : b = false → Todo Y) : zjd (some b) X Y := zw7 h h'
theorem zzd {P : Program} {effs : List FuncId} {off : Nat} {md st : List Nat} {n : Nat} {f : FuncId} {H : HMap} {A : AMap} {args args' : List PV} {rv : RV} {KK : PV → HMap → AMap → Prop} (h : zzr P f args' rv) (ha : args.map PV.frz = args') (he : (effs.contains f || effs.contains (2000000 + f) || effs.contains (7000000 + f) || effs.contains (9000000 + f)) = false)
 (hA : ∀ k, A (off + n, k) = none) (hK : Todo (KK (rv.pv (off + n)) H (RT.install (off + n) A 0 rv.list))) : zxm (envOf P effs off md st) n f H A args KK := yzb h ha he hA hK
theorem zzq {P : Program} {effs : List FuncId} {off : Nat} {md st : List Nat} {n : Nat} {f : FuncId} {H : HMap} {A : AMap} {args args' : List PV} {rv : RV} {KK : PV → HMap → AMap → Prop} (h : zzr P f args' rv) (ha : args.map PV.frz = args') (he : (effs.contains f || effs.contains (2000000 + f) || effs.contains (7000000 + f)) = false)
 (hp : effs.contains (9000000 + f) = true) (hpl : rv.plain = true) (hK : Todo (KK (rv.pv 0) H A)) : zxm (envOf P effs off md st) n f H A args KK := y6f he hp (by rw [ha]; exact h) hpl hK
theorem z3u {A : AMap} {ar : Arr} {c : Nat} {K : Nat → AMap → Prop} (hc : A (0, 0) = some (.cnt c)) (hn : A (0, c) = none) (hK : Todo (K c (upd (upd A (0, c) (some (.pr c ar))) (0, 0) (some (.cnt (c + 1)))))) : newP A ar K := by
 unfold newP
 rw [hc]
 exact ⟨hn, hK⟩
structure AppT (P : Program) (t e : TypeId) (c b : Nat) : Prop where
 und : P.underlying t = some (.slice e)
 hc : P.cellsOf e = c
 hb : P.bytesOf e = b
 hz : zzt P e = true
 pc : 0 < c
 pb : 0 < b
section app
variable {P : Program} {t e : TypeId} {c b : Nat} {md : List Nat} {k q : Nat} {A : AMap} {els ys : List (List D)} {y : PV} {κ : Tok} {KK : PV → AMap → Prop}
theorem zx2 (T : AppT P t e c b) (hy : zqc y = some ys) (hm : md.contains q = false) (s1 : Szd c els) (s2 : Szd c ys) (s3 : (els.length + ys.length) * b ≤ 140737488355328) (ha : A (k + q, 0) = none)
 (hK : Todo (KK (.c (.own (k + q, 0) (els ++ ys))) (upd A (k + q, 0) (some (.co c (els ++ ys).length))))) : appV P md k q A [t, t] (.c (.full els)) y KK := by
 rw [yw1 T.und hy hm, T.hc, T.hb]
 exact ⟨⟨⟨T.pc, T.hz, T.pb⟩, s1, s2, s3, ha⟩, hK⟩
theorem y6j (T : AppT P t e c b) (hy : zqc y = some ys) (hm : md.contains q = true) (s2 : Szd c ys) (s3 : ys.length * b ≤ 140737488355328) (ha : A (k + q, 0) = none)
 (hK : Todo (KK (.c (.mt (k + q, 0) c ys.length)) (upd A (k + q, 0) (some (.mu c ys))))) : appV P md k q A [t, t] (.c (.full [])) y KK := by
 rw [yk3 T.und hy hm, T.hc, T.hb]
 exact ⟨⟨⟨T.pc, T.hz, T.pb⟩, ⟨(fun _ h => nomatch h), s2, (by simpa using s3), ha⟩, rfl⟩, hK⟩
theorem zx1 (T : AppT P t e c b) (hy : zqc y = some ys) (s1 : Szd c els) (s2 : Szd c ys) (s3 : (els.length + ys.length) * b ≤ 140737488355328) (ha : A κ = some (.co c els.length))
 (hK : Todo (KK (.c (.own κ (els ++ ys))) (upd A κ (some (.co c (els ++ ys).length))))) : appV P md k q A [t, t] (.c (.own κ els)) y KK := by
 rw [y24 T.und hy, T.hc, T.hb]
 exact ⟨⟨⟨T.pc, T.hz, T.pb⟩, s1, s2, s3, ha⟩, hK⟩
theorem z0m {c : Nat} : Szd c [] := fun _ h => by cases h
theorem zqx {x : PV} (h : zqc x = some ys) : z0i A x = some (none, ys) := by
 unfold z0i
 split
 · cases h
 · cases h
 · rw [h]; rfl
theorem yq0 {p n : Nat} (hA : A (0, p) = some (.pr p (.mu c els))) (hn : n = els.length) : z0i A (.c (.d (.sa p c n))) = some (some p, els) := by
 unfold z0i
 simp only [hA, hn, and_self, if_true]
theorem zwa {p L lo n : Nat} (hA : A (0, p) = some (.pr p (.mu c els))) (hL : L = els.length) : z0i A (.c (.d (.vw p c L lo n))) = some (some p, (els.drop lo).take n) := by
 unfold z0i
 simp only [hA, hL, and_self, if_true]
theorem zv3 {o : Option Nat} {cn : Nat} (T : AppT P t e c b) (hy : z0i A y = some (o, ys)) (s2 : Szd c ys) (s3 : ys.length * b ≤ 140737488355328) (hc : A (0, 0) = some (.cnt cn)) (hn : A (0, cn) = none)
 (hK : Todo (KK (.c (.d (.sa cn c ys.length))) (upd (upd A (0, cn) (some (.pr cn (.mu c ys)))) (0, 0) (some (.cnt (cn + 1)))))) : apdV P A [t, t] (.c (.full [])) y KK := by
 unfold apdV
 simp only [T.und, T.hc, T.hb]
 refine ⟨⟨trivial, T.pc, T.hz, T.pb⟩, ?_⟩
 rw [hy]
 refine ⟨⟨z0m, s2, by simpa using s3, .inl rfl⟩, ?_⟩
 show newP A _ _
 unfold newP
 rw [hc]
 exact ⟨hn, hK⟩
theorem z18 {o : Option Nat} {p n cn : Nat} (T : AppT P t e c b) (hA : A (0, p) = some (.pr p (.mu c els))) (hl : n = els.length) (hy : z0i A y = some (o, ys)) (ho : o ≠ some p) (s1 : Szd c els) (s2 : Szd c ys) (s3 : (els.length + ys.length) * b ≤ 140737488355328)
 (hc : A (0, 0) = some (.cnt cn)) (hn : A (0, cn) = none) (hK : Todo (KK (.c (.d (.sa cn c (els ++ ys).length))) (upd (upd (upd A (0, p) (some .dead)) (0, cn) (some (.pr cn (.mu c (els ++ ys))))) (0, 0) (some (.cnt (cn + 1)))))) :
 apdV P A [t, t] (.c (.d (.sa p c n))) y KK := by
 unfold apdV
 simp only [T.und, T.hc, T.hb]
 refine ⟨⟨trivial, T.pc, T.hz, T.pb⟩, ?_⟩
 have hd : yjy A c (.c (.d (.sa p c n))) = some (some p, els) := by
  unfold yjy
  simp only [hA, hl, and_self, if_true]
 rw [hd, hy]
 refine ⟨⟨s1, s2, s3, .inr fun e => ho e.symm⟩, ?_⟩
 have hp0 : ((0, 0) : Tok) ≠ (0, p) := fun e => by rw [← e, hc] at hA; cases hA
 have hpc : ((0, cn) : Tok) ≠ (0, p) := fun e => by rw [← e, hn] at hA; cases hA
 show newP (upd A (0, p) (some .dead)) _ _
 unfold newP
 rw [zza _ _ hp0, hc]
 exact ⟨by rw [zza _ _ hpc]; exact hn, hK⟩
theorem zvh {x : PV} {lo hi : Option PV} {l h : Nat} {K : PV → Prop} (T : AppT P t e c b) (hx : zqc x = some els) (hl : zz0 lo 0 = some l) (hh : zz0 hi els.length = some h) (h1 : l ≤ h) (h2 : h ≤ els.length) (sz : Szd c els)
 (hK : Todo (K (.c (.d (.sl ((els.drop l).take (h - l))))))) : slcV P t x lo hi none K := by
 unfold slcV
 rw [T.und]
 simp only [T.hc, hx, hl, hh, Opt]
 exact ⟨T.pc, ⟨h1, h2, sz, fun h => by cases h⟩, hK⟩
end app
theorem yk0 {P : Program} {t e : TypeId} {c b p n l m : Nat} {lo hi : Option PV} {K : PV → Prop} (T : AppT P t e c b) (hl : zz0 lo 0 = some l) (hh : zz0 hi n = some m) (h1 : l ≤ m) (h2 : m ≤ n) (hK : Todo (K (.c (.d (.vw p c n l (m - l)))))) : slcV P t (.c (.d (.sa p c n))) lo hi none K := by
 unfold slcV
 rw [T.und]
 refine ⟨by rw [T.hc]; exact T.pc, ?_⟩
 show slcW P e (.c (.d (.sa p c n))) lo hi none K
 unfold slcW
 simp only [hl, hh, Opt]
 exact ⟨⟨trivial, T.hc.symm⟩, ⟨h1, h2⟩, hK⟩
@[congr] theorem y83 {P : Program} {T : TypeId} {x y : PV} {lo hi mx lo' hi' : Option PV} {K : PV → Prop} (hx : idd x = y) (hl : idd lo = lo') (hh : idd hi = hi') : slcV P T x lo hi mx K = slcV P T y lo' hi' mx K := by rw [← hx, ← hl, ← hh]; rfl
theorem zvw {c : Nat} : Szd c [] := fun _ h => by cases h
theorem zqk {c : Nat} {x : List D} (h : x.length = c) : Szd c [x] := fun e he => by rw [List.mem_singleton.1 he]; exact h
theorem z0l {c : Nat} {x y : List (List D)} (h : Szd c x) (h' : Szd c y) : Szd c (x ++ y) := fun e he => (List.mem_append.1 he).elim (h e) (h' e)
@[congr] theorem xqd {E : Env} {H0 H1 : HMap} {A0 : AMap} {c : Code} {Q : Post} {S : St} (h : idd H0 = H1) : VC E H0 A0 c Q S = VC E H1 A0 c Q S := by rw [← h]; rfl
theorem vIf {E : Env} {H0 : HMap} {A0 : AMap} {c : Operand} {x y : Code} {Q : Post} {S : St} (h : Todo (zjd (boolOf? (ev S.ρ c)) (VC E H0 A0 x Q S) (VC E H0 A0 y Q S))) : VC E H0 A0 (.cond c x y) Q S := by
 unfold Todo at h
 cases hb : boolOf? (ev S.ρ c) with
 | none => rw [hb] at h; exact h.elim
 | some b =>
   rw [hb] at h
   refine y6i b hb (fun e => ?_) (fun e => ?_)
   · rw [e] at h; exact h
   · rw [e] at h; exact h
theorem vSk {E : Env} {H0 : HMap} {A0 : AMap} {Q : Post} {S : St} (h : Todo (Q.nrm S)) : VC E H0 A0 .skip Q S := h
theorem vEx {E : Env} {H0 : HMap} {A0 : AMap} {id : Nat} {Q : Post} {S : St} (h : Todo (Q.ext id S)) : VC E H0 A0 (.exit id) Q S := h
theorem vRt {E : Env} {H0 : HMap} {A0 : AMap} {Q : Post} {S : St} (h : Todo (Q.ret S)) : VC E H0 A0 .ret Q S := h
theorem vSc {E : Env} {H0 : HMap} {A0 : AMap} {c : Code} {Q : Post} {S : St} (h : VC E H0 A0 c Q S) : VC E H0 A0 (.scope c) Q S := h
theorem zze {i n : Nat} (h : i < n) : ((i : Int) < (n : Int)) = True := eq_true (by omega)
theorem zzf {i n : Nat} (h : n ≤ i) : ((i : Int) < (n : Int)) = False := eq_false (by omega)
theorem zzl {i n : Nat} (h : i < n) (hn : n ≤ 4294967296) : IntKind.i64.wrap ((i : Int) + 1) = ((i + 1 : Nat) : Int) := Go.IntWalk.i64_in _ (by omega)
theorem yvi {i : Nat} : (0 ≤ (i : Int)) = True := eq_true (by omega)
attribute [go_sem] List.map_append Zla List.replicate_succ List.replicate_zero List.flatten_cons List.flatten_nil Nat.zero_mul Nat.one_mul Nat.mul_one List.singleton_append List.take_succ_cons List.cons_append
attribute [go_sem] yvi Int.toNat_natCast List.getElem?_map List.length_map
attribute [go_sem] z84 z4h yxq xzd y1f y5q z3r
section texts
variable {P : Program} {T : TypeId} {a : List UInt8}
theorem y5l {x : PV} {lo hi : Option PV} {l h : Nat} {K : PV → Prop} (hT : P.underlying T = some .string) (hx : x = .c (.d (.lit (.string ⟨a.toArray⟩)))) (hl : zz0 lo 0 = some l) (hh : zz0 hi a.length = some h) (h1 : l ≤ h) (h2 : h ≤ a.length)
 (hK : Todo (K (.c (.d (.lit (.string ⟨((a.drop l).take (h - l)).toArray⟩)))))) : slcV P T x lo hi none K := by
 subst hx
 unfold slcV
 rw [hT]
 simp only [strOf?, Opt, hl, zwr, hh]
 exact ⟨rfl, ⟨h1, h2⟩, by rw [lit, yxm]; exact hK⟩
theorem yjw {P : Program} {A : AMap} {s d : TypeId} {κ : Tok} {n : Nat} {l : List UInt8} (hs : zj1 P s = true) (hd : P.underlying d = some .string) (hn : n = l.length) (hA : A κ = some (.mu 1 (zzg l))) : z3a P A s d (.c (.mt κ 1 n)) = some (.c (.d (.lit (.string ⟨l.toArray⟩)))) := by
 unfold z3a
 rw [hd]
 simp only [hs, if_true]
 show (match A κ with | some (.mu sz' els) => if sz' = 1 ∧ 1 = 1 ∧ n = els.length then some els else none | _ => none).bind _ = _
 rw [hA]
 simp only
 rw [if_pos ⟨trivial, trivial, by rw [zqz]; exact hn⟩, Option.bind_some, zka]
 rfl
theorem y9o {E : Env} {t : Nat} {T e : TypeId} {k k' : IntKind} {n : Nat} {z : D} {A : AMap} {K : PV → AMap → Prop} (hu : E.P.underlying T = some (.slice e)) (hz : zzm E.P e = some [.d z]) (hc : E.P.cellsOf e = 1) (hn : 0 < n) (hs : n ≤ 16777216) (hb : n * E.P.bytesOf e ≤ 16777216) (hA : A (E.off + t, 0) = none)
 (hK : Todo (K (.c (.mt (E.off + t, 0) 1 n)) (upd A (E.off + t, 0) (some (.mu 1 (List.replicate n [z])))))) : mksV E (some t) T (.c (.d (.lit (.int k (n : Int))))) (.c (.d (.lit (.int k' (n : Int))))) A K := by
 have h1 : ∀ m, (List.replicate m [CV.d z]).flatten = List.replicate m (CV.d z) := fun m => by
  induction m with
  | zero => rfl
  | succ m ih => rw [List.replicate_succ, List.flatten_cons, ih]; rfl
 have h2 : ∀ m, toDs (List.replicate m (CV.d z)) = some (List.replicate m z) := fun m => by
  induction m with
  | zero => rfl
  | succ m ih => rw [List.replicate_succ, List.replicate_succ]; simp [toDs, CV.toD, ih]
 have h3 : ∀ m, chunk 1 m (List.replicate m z) = List.replicate m [z] := fun m => by
  induction m with
  | zero => rfl
  | succ m ih => rw [List.replicate_succ, List.replicate_succ]; simp [chunk, ih]
 have h4 : ∀ k : IntKind, natOf? (.c (.d (.lit (.int k (n : Int))))) = some n := fun k => by
  show (if (0 : Int) ≤ (n : Int) then some (n : Int).toNat else none) = _
  rw [if_pos (by omega)]
  simp
 have hm : mksS E.P T (.c (.d (.lit (.int k (n : Int))))) (.c (.d (.lit (.int k' (n : Int))))) = some (.c (.full (List.replicate n [z]))) := by
  unfold mksS
  rw [hu]
  simp only [h4, hz, Option.bind_some, hc]
  rw [if_pos ⟨trivial, by omega, by omega, hn, hb⟩, h1, h2]
  simp [h3]
 unfold mksV elsM
 have h0 : mks0 E.P T (.c (.d (.lit (.int k (n : Int))))) (.c (.d (.lit (.int k' (n : Int))))) = false := by
  unfold mks0
  rw [hu]
  simp only [h4]
  split
  · rename_i e; cases e; omega
  · rfl
 rw [h0]
 refine Opt.iff.2 ⟨t, rfl, ?_⟩
 rw [hm]
 refine Opt.iff.2 ⟨_, rfl, hA, ?_⟩
 have hsz : szOf E.P T = 1 := by unfold szOf; rw [hu]; exact hc
 rw [hsz, List.length_replicate]
 exact hK
theorem y9n {E : Env} {t : Nat} {T e : TypeId} {k k' : IntKind} {n : Nat} {z : List D} {A : AMap} {K : PV → AMap → Prop} (hu : E.P.underlying T = some (.slice e)) (hz : zzm E.P e = some (z.map .d)) (hc : E.P.cellsOf e = z.length) (h0 : 0 < z.length) (hn : 0 < n) (hs : n * z.length ≤ 16777216) (hb : n * E.P.bytesOf e ≤ 16777216) (hA : A (E.off + t, 0) = none)
 (hK : Todo (K (.c (.mt (E.off + t, 0) z.length n)) (upd A (E.off + t, 0) (some (.mu z.length (List.replicate n z)))))) : mksV E (some t) T (.c (.d (.lit (.int k (n : Int))))) (.c (.d (.lit (.int k' (n : Int))))) A K := by
 have h1 : ∀ m, (List.replicate m (z.map CV.d)).flatten = ((List.replicate m z).flatten).map CV.d := fun m => by
  induction m with
  | zero => rfl
  | succ m ih => rw [List.replicate_succ, List.flatten_cons, ih, List.replicate_succ, List.flatten_cons, List.map_append]
 have h2 : ∀ l : List D, toDs (l.map CV.d) = some l := fun l => by
  induction l with
  | nil => rfl
  | cons x l ih => simp [toDs, CV.toD, ih]
 have h3 : ∀ m, chunk z.length m (List.replicate m z).flatten = List.replicate m z := fun m => by
  induction m with
  | zero => rfl
  | succ m ih => rw [List.replicate_succ, List.flatten_cons]; simp [chunk, ih]
 have h4 : ∀ k : IntKind, natOf? (.c (.d (.lit (.int k (n : Int))))) = some n := fun k => by
  show (if (0 : Int) ≤ (n : Int) then some (n : Int).toNat else none) = _
  rw [if_pos (by omega)]
  simp
 have hm : mksS E.P T (.c (.d (.lit (.int k (n : Int))))) (.c (.d (.lit (.int k' (n : Int))))) = some (.c (.full (List.replicate n z))) := by
  unfold mksS
  rw [hu]
  simp only [h4, hz, Option.bind_some, hc]
  rw [if_pos ⟨trivial, hs, h0, hn, hb⟩, h1, h2]
  simp [h3]
 unfold mksV elsM
 have hk : mks0 E.P T (.c (.d (.lit (.int k (n : Int))))) (.c (.d (.lit (.int k' (n : Int))))) = false := by
  unfold mks0
  rw [hu]
  simp only [h4]
  split
  · rename_i e; cases e; omega
  · rfl
 rw [hk]
 refine Opt.iff.2 ⟨t, rfl, ?_⟩
 rw [hm]
 refine Opt.iff.2 ⟨_, rfl, hA, ?_⟩
 have hsz : szOf E.P T = z.length := by unfold szOf; rw [hu]; exact hc
 rw [hsz, List.length_replicate]
 exact hK
theorem y9m {E : Env} {t : Nat} {T e : TypeId} {k k' : IntKind} {n : Nat} {z : List CV} {A : AMap} {K : PV → AMap → Prop} (hu : E.P.underlying T = some (.slice e)) (hz : zzm E.P e = some z) (hc : 0 < E.P.cellsOf e) (hn : 0 < n) (hs : n * E.P.cellsOf e ≤ 16777216) (hb : n * E.P.bytesOf e ≤ 16777216) (hA : A (E.off + t, 0) = none)
 (hK : Todo (K (.c (.mt (E.off + t, 0) (E.P.cellsOf e) 0)) (upd A (E.off + t, 0) (some (.mu (E.P.cellsOf e) []))))) : mksV E (some t) T (.c (.d (.lit (.int k 0)))) (.c (.d (.lit (.int k' (n : Int))))) A K := by
 have h4 : natOf? (.c (.d (.lit (.int k' (n : Int))))) = some n := by
  show (if (0 : Int) ≤ (n : Int) then some (n : Int).toNat else none) = _
  rw [if_pos (by omega)]
  simp
 have h5 : natOf? (.c (.d (.lit (.int k 0)))) = some 0 := rfl
 have hk : mks0 E.P T (.c (.d (.lit (.int k 0)))) (.c (.d (.lit (.int k' (n : Int))))) = true := by
  unfold mks0
  rw [hu]
  simp only [h4, h5, hz, Option.isSome_some, Bool.true_and]
  exact decide_eq_true ⟨hs, hc, hn, hb⟩
 unfold mksV elsM
 rw [hk]
 refine Opt.iff.2 ⟨t, rfl, Opt.iff.2 ⟨_, rfl, hA, ?_⟩⟩
 have hsz : szOf E.P T = E.P.cellsOf e := by unfold szOf; rw [hu]
 rw [hsz]
 exact hK
theorem y9p {P : Program} {md : List Nat} {k q : Nat} {t u e b : TypeId} {κ : Tok} {els : List (List D)} {l : List UInt8} {A : AMap} {KK : PV → AMap → Prop} (T : AppT P t e 1 b) (hs : strT P u = true) (hA : A κ = some (.mu 1 els)) (hl : (els.length + l.length) * b ≤ 140737488355328)
 (hK : Todo (KK (.c (.mt κ 1 (els.length + l.length))) (upd A κ (some (.mu 1 (els ++ zzg l)))))) : appW P md k q A [t, u] (.c (.mt κ 1 els.length)) (.c (.d (.lit (.string ⟨l.toArray⟩)))) KK := by
 show apsV P A [t, u] (.c (.mt κ 1 els.length)) ⟨l.toArray⟩ KK
 unfold apsV
 simp only [T.und, hA, T.hc, T.hb]
 have hz : zzt P e = true := T.hz
 have e1 : (zzg l).length = l.length := by simp [zzg]
 refine ⟨⟨hs, trivial, hz, T.pb⟩, ⟨trivial, trivial, trivial, by rw [e1]; exact hl⟩, ?_⟩
 rw [Zla, e1]
 exact hK
theorem xq7 {P : Program} {t u e c : TypeId} {κ : Tok} {els ys : List (List D)} {y : PV} {A : AMap} {KK : PV → AMap → Prop} (hu : P.underlying t = some (.slice e)) (hc : P.cellsOf e = c) (hp : 0 < c) (hA : A κ = some (.mu c els)) (hy : zqc y = some ys) (hs : Szd c ys) (hl : ys.length ≤ els.length)
 (hK : Todo (KK (.c (.d (.lit (.int .i64 ys.length)))) (upd A κ (some (.mu c (ys ++ els.drop ys.length)))))) : cpyV P A [t, u] (.c (.mt κ c els.length)) y KK := by
 subst hc
 unfold cpyV
 simp only [hu, hA, hy]
 exact ⟨⟨trivial, trivial, trivial, hs, hl, hp⟩, hK⟩
end texts
section rng
variable {E : Env} {d : Option Nat} {T kt e : TypeId} {κ : Tok} {m left : List (Value × MV)} {cur : Option (Value × MV)} {bi : Nat} {A : AMap} {K : PV → AMap → Prop}
theorem y9q {t : Nat} {s : ByteArray} (hT : E.P.underlying T = some .string) (hA : A (E.off + t, 0) = none) (hK : Todo (K (.c (.sit (E.off + t, 0))) (upd A (E.off + t, 0) (some (.si s 0))))) : rngV E (some t) T (.c (.d (.lit (.string s)))) A K := by
 unfold rngV
 simp only [hT]
 exact ⟨hA, hK⟩
theorem y5k {s : ByteArray} {pos : Nat} (hA : A κ = some (.si s pos)) (hp : pos < s.size) (hK : Todo (K (.tup [.c (.d (.lit (.bool true))), .c (.d (.lit (.int .i64 (pos : Int)))), .c (.d (.lit (.int .i32 (Utf8.decode s pos).1)))]) (upd A κ (some (.si s (pos + (Utf8.decode s pos).2)))))) : nxtV (.c (.sit κ)) true A K := by
 unfold nxtV
 simp only [hA, if_pos hp]
 exact hK
theorem y6k {s : ByteArray} {pos : Nat} (hA : A κ = some (.si s pos)) (hp : ¬ pos < s.size) (hK : Todo (K (.tup [.c (.d (.lit (.bool false)))]) A)) : nxtV (.c (.sit κ)) true A K := by
 unfold nxtV
 simp only [hA, if_neg hp]
 exact hK
end rng
end Go.PW
namespace Go.PW
def zzy : List (Nat × List CV) → HMap → HMap
 | [], H, t => H t
 | (u, x) :: r, H, t => if t = u then some x else zzy r H t
def Wf (H : HMap) (A : AMap) : Prop := ∀ id cs c, H id = some cs → c ∈ cs → CV.ok (fun i => H i ≠ none) (fun κ => A κ ≠ none) c
theorem zx8 {H : HMap} : ∀ {l : List (Nat × List CV)} {t : Nat}, H t ≠ none → zzy l H t ≠ none
 | [], _, h => h
 | (u, x) :: r, t, h => by
   unfold zzy
   split
   · simp
   · exact zx8 h
theorem zwl {hk hk' : Nat → Prop} {tk tk' : Tok → Prop} (h : ∀ i, hk i → hk' i) (h' : ∀ κ, tk κ → tk' κ) {c : CV} (hc : c.ok hk tk) : c.ok hk' tk' := by
 cases c with
 | own κ els => exact h' _ hc
 | mt κ sz n => exact h' _ hc
 | tv κ sz n L => exact h' _ hc
 | mptr κ sz n i o => exact h' _ hc
 | ptr id o => exact h _ hc
 | fn f caps => exact fun p hp => h _ (hc p hp)
 | mpr κ => exact h' _ hc
 | sit κ => exact h' _ hc
 | itr κ bi => exact h' _ hc
 | vsl id n => exact h _ hc
 | bfn f fst caps => exact ⟨fun p hp => h _ (hc.1 p hp), fun p hp => h _ (hc.2 p hp)⟩
 | _ => exact Zti
theorem z0x {H : HMap} {A : AMap} {S : St} (hw : Wf H A) (hb : ∀ id, H id ≠ none → S.H id = H id) {all : List (Nat × List CV)} : ∀ {l : List (Nat × List CV)}, z4h (zzy all H) A A S.H l → ∀ id, zzy l H id = none ∨ ∃ cs ds, zzy l H id = some cs ∧ S.H id = some ds ∧ cs.length = ds.length ∧
 ∀ (k : Nat) (c d : CV), cs[k]? = some c → ds[k]? = some d → CV.wk (zzy all H) A A c d
 | [], _, t => by
   cases hH : H t with
   | none => exact .inl hH
   | some cs =>
     refine .inr ⟨cs, cs, hH, by rw [hb t (by rw [hH]; simp), hH], rfl, fun k c d h1 h2 => ?_⟩
     rw [h1] at h2
     cases h2
     exact .inr (.inl ⟨rfl, zwl (fun i hi => zx8 hi) (fun κ hκ => ⟨hκ, rfl⟩) (hw t cs c hH (Zme h1))⟩)
 | (u, x) :: r, h, t => by
   unfold zzy
   split
   · rename_i e
     subst e
     right
     obtain ⟨h1, _⟩ := h
     cases hH : S.H t with
     | none => rw [hH] at h1; exact h1.elim
     | some ds => rw [hH] at h1; exact ⟨x, ds, rfl, rfl, zjj h1⟩
   · exact z0x hw hb h.2 t
def over (l : List (Nat × PV)) (h : List (Nat × List CV)) (H : HMap) (A : AMap) : St := ⟨z2q l, zzy h H, A⟩
theorem zxg {H : HMap} {A : AMap} {S : St} {l : List (Nat × PV)} {h : List (Nat × List CV)} (hw : Wf H A) (hb : ∀ id, H id ≠ none → S.H id = H id) (hA : S.A = A) (h1 : z84 (zzy h H) A A S.ρ l) (h2 : z4h (zzy h H) A A S.H h) : Weak H A S (over l h H A) := by
 refine ⟨fun t => ?_, fun id => ?_, fun κ => .inr (.inl ?_), fun id h => zx8 h, fun κ h => h⟩
 · rw [hA]; exact zj3 h1 t
 · rw [hA]; exact z0x hw hb h2 id
 · show A κ = S.A κ
   rw [hA]
@[go_sem] theorem xza {H : HMap} {t : Nat} : zzy [] H t = H t := rfl
@[go_sem] theorem y8w {H : HMap} {t u : Nat} {x : List CV} {r : List (Nat × List CV)} : zzy ((u, x) :: r) H t = if t = u then some x else zzy r H t := rfl
@[go_sem] theorem xxs (l : List (Nat × PV)) (h : List (Nat × List CV)) (H : HMap) (A : AMap) : over l h H A = ⟨z2q l, zzy h H, A⟩ := rfl
@[go_sem] theorem y9h {E : Env} {fb : Option (List Nat)} {ops : Array Oper} {o : Oper} {r : List Oper} {K : St → Prop} (l : List (Nat × PV)) (h : List (Nat × List CV)) (H : HMap) (A : AMap) : RunV E fb ops (o :: r) (over l h H A) K = RunV E fb ops (o :: r) ⟨z2q l, zzy h H, A⟩ K := rfl
def y31 (o : Oper) : Bool := match o.op, o.dst with
 | .alloc _, some _ => true
 | .box _ _, some _ => true
 | _, _ => false
theorem y1b {off : Nat} {o : Oper} (h : y31 o = false) : yxy off o = none := by
 unfold y31 at h
 unfold yxy
 split
 · rename_i e1 e2; rw [e1, e2] at h; cases h
 · rename_i e1 e2; rw [e1, e2] at h; cases h
 · rfl
def y4f : List Oper → Bool
 | [] => true
 | o :: l => !y31 o && y4f l
@[go_sem] theorem y7t {off : Nat} : ∀ {l : List Oper} (_ : y4f l = true), List.filterMap (yxy off) l = []
  | [], _ => rfl
  | o :: l, h => by
    have h' : (!y31 o) = true ∧ y4f l = true := by simpa only [y4f, Bool.and_eq_true] using h
    rw [List.filterMap_cons, y1b (by simpa using h'.1)]
    exact y7t h'.2
@[go_sem] theorem xk1 : ((0 : Nat) == 1) = false := rfl
@[go_sem] theorem xk2 : ((1 : Nat) == 1) = true := rfl
@[go_sem] theorem y5v {i : Nat} : ([] : List Nat).contains i = false := rfl
theorem z5d {P : Program} {fn : Func} {H : HMap} {A : AMap} {S : St} {t : Nat} {x : D} (hw : Wf H A) (hb : ∀ id, H id ≠ none → S.H id = H id) (hA : S.A = A) (hr : fn.results.toList = [.tmp t]) (h : S.ρ t = .c (.d x)) : RetE P fn H A (.c (.d x)) H A S := by
 refine ⟨S.ρ t, by rw [hr]; rfl, ?_⟩
 refine ⟨fun _ => ?_, fun id => ?_, fun κ => .inr (.inl ?_), fun id h => h, fun κ h => h⟩
 · show PV.wk _ _ _ _ (S.ρ t)
   rw [h, xx4]
   exact Zti
 · show _ ∨ ∃ cs ds, H id = some cs ∧ S.H id = some ds ∧ _
   rw [hA]
   exact z0x (all := []) (l := []) hw hb Zti id
 · show A κ = S.A κ
   rw [hA]
theorem zx3 {H : HMap} : ∀ id, H id ≠ none → H id = H id := fun _ _ => rfl
theorem z50 {H G : HMap} {u : Nat} {x : Option (List CV)} (hn : H u = none) (h : ∀ id, H id ≠ none → G id = H id) : ∀ id, H id ≠ none → upd G u x id = H id := fun i hi => by
 rw [z07]
 split
 · rename_i e; subst e; exact absurd hn hi
 · exact h i hi
theorem z4e {P : Program} {effs : List FuncId} {off : Nat} {md st : List Nat} {f : FuncId} {caps : List (Nat × Nat)} {H H' : HMap} {A A' : AMap} {args args' : List PV} {v : PV} {KK : PV → HMap → AMap → Prop} (h : zqf P f (off + 1000) H A args' v H' A') (ha : args.map PV.frz ++ caps.map z60 = args')
 (hb : Above (off + 1000) H A) (hK : Todo (KK v H' A')) : z3w (envOf P effs off md st) H A (.c (.fn f caps)) args KK := ⟨v, H', A', by rw [ha]; exact h, hb, hK⟩
def CV.isD : CV → Bool
 | .d _ => true
 | .full _ => true
 | _ => false
theorem y5s {hk : Nat → Prop} {tk : Tok → Prop} {c : CV} (h : c.isD = true) : c.ok hk tk := by cases c <;> first | exact Zti | cases h
theorem yjo {H : HMap} {A : AMap} {u : Nat} {cs : List CV} (h : Wf H A) (hc : cs.all CV.isD = true) : Wf (upd H u (some cs)) A := fun id ds c hd hc' => by
 have hk : ∀ i, H i ≠ none → upd H u (some cs) i ≠ none := fun i hi => by
  rw [z07]; split
  · simp
  · exact hi
 rw [z07] at hd
 split at hd
 · cases hd; exact y5s (List.all_eq_true.1 hc c hc')
 · exact zwl hk (fun _ h => h) (h id ds c hd hc')
theorem y5m {A : AMap} : ∀ {l : List (Nat × List CV)}, l.all (fun p => p.2.all CV.isD) = true → Wf (hOf l) A
 | [], _ => fun _ _ _ h => by cases h
 | (u, x) :: r, h => fun id ds c hd hc => by
   simp only [List.all_cons, Bool.and_eq_true] at h
   unfold hOf at hd
   split at hd
   · cases hd; exact y5s (List.all_eq_true.1 h.1 c hc)
   · exact zwl (fun i hi => by unfold hOf; split <;> simp_all) (fun _ h => h) (y5m h.2 id ds c hd hc)
theorem z8g {n : Nat} {a : List (Tok × Arr)} : ∀ {l : List (Nat × List CV)}, l.all (fun p => decide (p.1 < n)) = true → a.all (fun p => decide (p.1.1 < n)) = true → Above n (hOf l) (aOf a) := by
 intro l hl ha i hi
 refine ⟨?_, fun k => ?_⟩
 · induction l with
   | nil => rfl
   | cons p r ih =>
     simp only [List.all_cons, Bool.and_eq_true, decide_eq_true_eq] at hl
     unfold hOf
     rw [if_neg (by omega)]
     exact ih (by simpa using hl.2)
 · induction a with
   | nil => rfl
   | cons p r ih =>
     simp only [List.all_cons, Bool.and_eq_true, decide_eq_true_eq] at ha
     unfold aOf
     rw [if_neg (fun e => by rw [← e] at ha; exact absurd ha.1 (by simpa using hi))]
     exact ih (by simpa using ha.2)
theorem z9y {H' : HMap} {A A' : AMap} {f : FuncId} {id o : Nat} (h : H' id ≠ none) : PV.wk H' A A' (.c (.fn f [(id, o)])) (.c (.fn f [(id, o)])) := wk_c (.inr (.inl ⟨rfl, fun p hp => by rw [List.mem_singleton.1 hp]; exact h⟩))
theorem z4n {E : Env} {H0 : HMap} {A0 : AMap} {c : Code} {Q : Post} {S : St} {ι : Type} (I : ι → Prop) (F : ι → St) (μ : ι → Nat) (i0 : ι) (hi : I i0) (h0 : Weak H0 A0 S (F i0))
 (h : ∀ i, I i → VC E H0 A0 c ⟨fun S' => ∃ j : {i : ι // I i}, Weak H0 A0 S' (F j.1) ∧ μ j.1 < μ i, Q.ret, Q.ext⟩ (F i)) : VC E H0 A0 (.loop c) Q S :=
 ⟨{i : ι // I i}, fun i => F i.1, fun i => μ i.1, ⟨⟨i0, hi⟩, h0⟩, fun i => h i.1 i.2⟩
theorem zw6 {P : Program} {effs : List FuncId} {off : Nat} {md st : List Nat} {n : Nat} {f : FuncId} {H : HMap} {A : AMap} {args args' : List PV} {v : PV} {KK : PV → HMap → AMap → Prop} (he : effs.contains f = false) (hq : effs.contains (2000000 + f) = true) (h : zqf P f (off + 1000) H A args' v H A) (ha : args.map PV.frz = args')
 (hb : Above (off + 1000) H A) (hK : Todo (KK v H A)) : zxm (envOf P effs off md st) n f H A args KK := y6g he hq (by rw [ha]; exact h) hb hK
theorem zqq {P : Program} {fn : Func} {H : HMap} {A : AMap} {v : PV} {H' : HMap} {A' : AMap} {S : St} {p : PV} (hp : zve P S fn.results.toList = some p) (hv : PV.wk H' S.A A' v p) (hok : v.oks (fun i => H' i ≠ none) (fun κ => A' κ ≠ none)) (hw : Wf H' A')
 (hH : ∀ id cs, H' id = some cs → ∃ ds, S.H id = some ds ∧ z3r H' S.A A' cs ds) (hA : ∀ κ, A' κ = none ∨ A' κ = S.A κ ∨ (S.A κ = none ∧ ∃ sz, A' κ = some (.co sz 0) ∨ A' κ = some (.mu sz [])) ∨ yqe (S.A κ) (A' κ)) (kH : ∀ id, H id ≠ none → H' id ≠ none) (kA : ∀ κ, A κ ≠ none → A' κ ≠ none) : RetR P fn H A v H' A' S := by
 have im_id : ∀ c : CV, c.im (fun i => i) (fun κ => κ) = c := fun c => by cases c <;> simp [CV.im]
 have ims : (CV.im (fun i => i) (fun κ => κ)) = id := funext im_id
 have imt : (TV.im (fun i => i) (fun κ => κ)) = id := funext fun x => by cases x <;> simp [TV.im, ims]
 refine ⟨p, ⟨fun _ => v, H', A'⟩, fun i => i, fun κ => κ, hp, ⟨fun _ => hv, fun id => ?_, hA, kH, kA⟩, ?_, hok, ⟨fun id h => ⟨rfl, kH id h⟩, fun κ h => ⟨rfl, kA κ h⟩, fun _ _ _ _ h => h, fun _ _ _ _ h => h, fun id cs h => ⟨by rw [ims, List.map_id]; exact h, fun c hc => hw id cs c h hc⟩, fun κ ar h => h⟩⟩
 · show H' id = none ∨ ∃ cs ds, H' id = some cs ∧ S.H id = some ds ∧ _
   cases h : H' id with
   | none => exact .inl rfl
   | some cs =>
     obtain ⟨ds, h1, h2⟩ := hH id cs h
     obtain ⟨h3, h4⟩ := zjj h2
     exact .inr ⟨cs, ds, rfl, h1, h3, h4⟩
 · show v = v.im _ _
   cases v <;> simp [PV.im, ims, imt]
theorem z48 {H' : HMap} {A A' : AMap} : ∀ {cs : List CV}, (∀ c ∈ cs, c.ok (fun i => H' i ≠ none) (fun κ => A' κ ≠ none ∧ A' κ = A κ)) → z3r H' A A' cs cs
 | [], _ => Zti
 | c :: _, h => ⟨.inr (.inl ⟨rfl, h c Zms2⟩), z48 fun c hc => h c (List.mem_cons_of_mem _ hc)⟩
theorem zql {P : Program} {fn : Func} {H : HMap} {A : AMap} {v : PV} {S : St} {p : PV} (hp : zve P S fn.results.toList = some p) (hv : PV.wk H S.A A v p) (hok : v.oks (fun i => H i ≠ none) (fun κ => A κ ≠ none)) (hw : Wf H A)
 (hH : ∀ i, H i ≠ none → S.H i = H i) (hA : ∀ κ, A κ ≠ none → S.A κ = A κ) : RetR P fn H A v H A S := by
 refine zqq hp hv hok hw (fun i es hi => ⟨es, by rw [hH i (by rw [hi]; simp), hi], z48 fun c hc => zwl (fun i h => h) (fun κ h => ⟨h, (hA κ h).symm⟩) (hw i es c hi hc)⟩) (fun κ => ?_) (fun _ h => h) (fun _ h => h)
 cases h : A κ with
 | none => exact .inl rfl
 | some ar => exact .inr (.inl (by rw [hA κ (by rw [h]; simp), h]))
end Go.PW
