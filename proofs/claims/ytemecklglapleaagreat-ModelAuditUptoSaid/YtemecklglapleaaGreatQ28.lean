/-
  Parts of the proof, laid together: PwBa, PwBb.
-/
import Derived.Test.YtemecklglapleaaGreatQ27

set_option maxRecDepth 30000
set_option maxHeartbeats 16000000
namespace Go.Proofs
open Go.PW
theorem Tryz.appCols : AppT Tryz.prog 38 94 3 32 := ⟨Tryz.underlying38, Tryz.cl94, Tryz.by94, Tryz.zo94, by decide, by decide⟩
theorem y20 {P : Program} {fn : Func} {S : St} {v : ResultVar} {r : RT} {p : PV} (k : Option Tok) (hr : fn.results.toList = [v]) (h : zzn P S v = some p) (e : RetT S.A k r p) : Ret P fn (.one r) S :=
 ⟨Zti, [k], z49, by rw [hr]; exact ⟨p, h, e, rfl⟩⟩
theorem Tryz.rOwn (s : Sch) (hs : s.cols.length ≤ 1048576) : zzr Tryz.prog 90 [pA s.enc] (.one (.agg s.enc)) := by
 refine Tryz.pure (md := []) Tryz.func90 rfl Tryz.call90 (by kernel_rfl) (by rfl) (by exact Zle rfl) ?_
 repeat' (first|(with_reducible first|refine vSq fun K hK=>?_|apply vRg|apply vBl|apply vSc|apply vIf|apply vSk|apply vEx|apply vRt|((first|apply gNt|apply gCs)<;>(intro h;try simp only[h]))|((first|apply hK|(clear hK K;first|apply hK|(clear hK K;first|apply hK|(clear hK K;apply hK))));clear hK K)|(refine todo ?_;simp +decide only[go_sem]))|(refine zx2 Tryz.appCols rfl rfl zvw (y52 _) (by simp; omega) rfl ?_))
 refine y20 none rfl (p := .agg [.d (dS s.name), .own (7, 0) (s.cols.map Col.enc), .d (dI s.keys)]) ?_ rfl
 unfold zzn
 simp +decide only [go_sem]
def keyed (s : Sch) (r : Row) : Bool := !((r.length : Int) != s.keys) && r.zipIdx.all fun p => match s.cols[p.2]? with
 | some c => !(p.1.kind != c.kind) && p.1.right
 | none => false
def z3f (s : Sch) (p : Val × Nat) : Bool := match s.cols[p.2]? with
 | some c => !(p.1.kind != c.kind) && p.1.right
 | none => false
theorem Tryz.rKeyed (s : Sch) (r : Row) (hk : s.keys ≤ s.cols.length) (hr : r.length ≤ 4294967296) (hok : Row.ok' r) : zzr Tryz.prog 65 [pA s.enc, pD (zz4 r)] (.one (dB (keyed s r))) := by
 have ek : keyed s r = (!((r.length : Int) != s.keys) && r.zipIdx.all (z3f s)) := rfl
 rw [ek]
 refine Tryz.pure (md := []) Tryz.func65 rfl Tryz.call65 (by kernel_rfl) (by rfl) (by exact Zle rfl) ?_
 repeat' (first|(with_reducible first|refine vSq fun K hK=>?_|apply vRg|apply vBl|apply vSc|apply vIf|apply vSk|apply vEx|apply vRt|((first|apply gNt|apply gCs)<;>(intro h;try simp only[h]))|((first|apply hK|(clear hK K;first|apply hK|(clear hK K;first|apply hK|(clear hK K;apply hK))));clear hK K)|(refine todo ?_;simp +decide only[go_sem])))
 all_goals try (refine zzs rfl ?_; simp +decide only [go_sem, *]; done)
 · have hl' : ((r.length : Int) != s.keys) = false := by assumption
   have hl : (r.length : Int) = s.keys := by simpa using hl'
   refine zzj r.length (fun i => (r.zipIdx.take i).all (z3f s) = true) (fun i => frame [(1, pD (zz4 r)), (5, pD (.lit (.int .i64 i))), (2, .c (.ptr 2 0))] [(2, s.enc.map .d)] []) rfl ?_ ?_
   · refine zzb ?_ ?_ ?_ <;> simp +decide only [go_sem]
     exact zzh (by simp [hOf])
   · intro i hi hI
     rcases Zlg i r.length with hlt | hge
     · have hg := Zge hlt
       have hg2 := Zge (show i < s.cols.length by omega)
       have hd := zze hlt
       have hw := zzl hlt hr
       generalize r[i] = v at hg
       generalize s.cols[i] = c at hg2
       have hz : r.zipIdx[i]? = some (v, i) := by rw [List.getElem?_zipIdx, hg]; simp
       have hv := hok v (Zme hg)
       repeat' (first|(with_reducible first|refine vSq fun K hK=>?_|apply vRg|apply vBl|apply vSc|apply vIf|apply vSk|apply vEx|apply vRt|((first|apply gNt|apply gCs)<;>(intro h;try simp only[h]))|((first|apply hK|(clear hK K;first|apply hK|(clear hK K;first|apply hK|(clear hK K;apply hK))));clear hK K)|(refine todo ?_;simp +decide only[go_sem, hg, hg2, hd, hw]))|refine zzd (Tryz.rValue v hv) rfl rfl (fun _ => rfl) ?_)
       all_goals first
        | (have e : z3f s (v, i) = true := by simp_all [z3f]
           refine zzi hlt (zz8 hI hz e) (zzb ?_ ?_ ?_) <;> simp +decide only [go_sem]
           exact zzh (by simp [hOf]))
        | (have e : z3f s (v, i) = false := by simp_all [z3f]
           refine zzs rfl ?_
           simp +decide only [go_sem, hl', zqr hz e])
     · have hd := zzf hge
       rw [Ztl (by rw [List.length_zipIdx]; exact hge)] at hI
       repeat' (first|(with_reducible first|refine vSq fun K hK=>?_|apply vRg|apply vBl|apply vSc|apply vIf|apply vSk|apply vEx|apply vRt|((first|apply gNt|apply gCs)<;>(intro h;try simp only[h]))|((first|apply hK|(clear hK K;first|apply hK|(clear hK K;first|apply hK|(clear hK K;apply hK))));clear hK K)|(refine todo ?_;simp +decide only[go_sem, hd])))
       refine zzs rfl ?_
       simp +decide only [go_sem, hl', hI]
structure En where
 key : List UInt8
 l : List Ver
 now : List Piece
 named : Bool
def En.enc (e : En) : List D := [dS e.key, zxs e.l, zzk e.now, .lit (.bool e.named)]
structure Df where
 t : Int
 s : Sch
def Df.enc (d : Df) : List D := [dI d.t, dS d.s.name, zwh d.s.cols, dI d.s.keys]
structure Tb where
 p : Nat
 q : Option Nat
 name : List UInt8
 defs : List Df
 keys : List En
structure Bs where
 p : Nat
 q : Option Nat
 seq : Int
 time : Int
 hor : Int
 tabs : List Tb
attribute [go_sem] En.enc Df.enc
def slD (q : Option Nat) (sz n : Nat) : D := match q with
 | none => .nl
 | some q => .sa q sz n
def Tb.cells (t : Tb) : List D := [dS t.name, .sl (t.defs.map Df.enc), slD t.q 4 t.keys.length]
def Bs.cells (b : Bs) : List D := [dI b.seq, dI b.time, dI b.hor, slD b.q 1 b.tabs.length]
def ArAt (A : AMap) (q : Option Nat) (sz : Nat) (els : List (List D)) : Prop := match q with
 | none => els = []
 | some q => A (0, q) = some (.pr q (.mu sz els))
def TAt (A : AMap) (t : Tb) : Prop := A (0, t.p) = some (.pr t.p (.ob t.cells)) ∧ ArAt A t.q 4 (t.keys.map En.enc)
def zzp (l : List Tb) : List (List D) := l.map fun t => [.rf t.p 0]
def BAt (A : AMap) (b : Bs) : Prop := A (0, b.p) = some (.pr b.p (.ob b.cells)) ∧ ArAt A b.q 1 (zzp b.tabs) ∧ ∀ t ∈ b.tabs, TAt A t
def rfD (p : Nat) : PV := .c (.d (.rf p 0))
@[go_sem] theorem xjw (p : Nat) : rfD p = .c (.d (.rf p 0)) := rfl
theorem zzu {P : Program} {S : St} {fn : Func} {v : ResultVar} {p : PV} (hr : fn.results.toList = [v]) (h : zzn P S v = some p) : zve P S fn.results.toList = some p := by
 rw [hr, zve, ywa, h]; rfl
theorem yx8 {P : Program} {S : St} {fn : Func} {v v' : ResultVar} {p p' : PV} {x x' : TV} (hr : fn.results.toList = [v, v']) (h : zzn P S v = some p) (h' : zzn P S v' = some p') (e : y2n [p, p'] = some [x, x']) : zve P S fn.results.toList = some (.tup [x, x']) := by
 rw [hr, zve, ywa, h, ywa, h']
 show (y2n [p, p']).map PV.tup = _
 rw [e]; rfl
theorem xx6 {H' : HMap} {A A' : AMap} {x : List D} : PV.wk H' A A' (pA x) (pA x) := ⟨rfl, fun k c d h1 h2 => by
 rw [h1] at h2; cases h2
 obtain ⟨y, _, rfl⟩ := List.mem_map.1 (Zme h1)
 exact .inr (.inl ⟨rfl, Zti⟩)⟩
theorem y2u {H' : HMap} {A A' : AMap} {a b : D} : PV.wk H' A A' (.tup [.c (.d a), .c (.d b)]) (.tup [.c (.d a), .c (.d b)]) := ⟨rfl, fun k x y h1 h2 => by
 rw [h1] at h2; cases h2
 match k with
 | 0 => cases h1; exact .inr (.inl ⟨rfl, Zti⟩)
 | 1 => cases h1; exact .inr (.inl ⟨rfl, Zti⟩)
 | k + 2 => simp at h1⟩
theorem yx0 {hk : Nat → Prop} {tk : Tok → Prop} {a b : D} : (PV.tup [.c (.d a), .c (.d b)]).oks hk tk := fun x hx => by
 rcases List.mem_cons.1 hx with rfl | hx
 · exact Zti
 · rcases List.mem_cons.1 hx with rfl | hx
   · exact Zti
   · cases hx
theorem yki {hk : Nat → Prop} {tk : Tok → Prop} {x : List D} : (pA x).oks hk tk := fun c hc => by
 obtain ⟨y, _, rfl⟩ := List.mem_map.1 hc
 exact Zti
variable {H : HMap} {A : AMap}
theorem Tryz.rLast (off : Nat) (hw : Wf H A) (t : Tb) (d : Df) (hA : A (0, t.p) = some (.pr t.p (.ob t.cells))) (hd : t.defs[t.defs.length - 1]? = some d) (hl : t.defs.length ≤ 1048576) :
 zqf Tryz.prog 62 off H A [rfD t.p] (pA d.s.enc) H A := by
 refine zqh (E := envOf Tryz.prog [] off [] [1]) (zzx Tryz.mixed) Tryz.func62 rfl Tryz.call62 (by kernel_rfl) (by exact Zle rfl) (fun hab => ?_)
 have h2 : H (off + 2) = none := (hab _ (by omega)).1
 have hp : 0 < t.defs.length := by
  rcases Nat.eq_zero_or_pos t.defs.length with h | h
  · rw [List.getElem?_eq_none (by omega)] at hd; cases hd
  · exact h
 have hw1 : IntKind.i64.wrap ((t.defs.length : Int) - 1) = ((t.defs.length - 1 : Nat) : Int) := by rw [Go.IntWalk.i64_in _ (by omega)]; omega
 repeat' (first|(with_reducible first|refine vSq fun K hK=>?_|apply vRg|apply vBl|apply vSc|apply vIf|apply vSk|apply vEx|apply vRt|((first|apply gNt|apply gCs)<;>(intro h;try simp only[h]))|((first|apply hK|(clear hK K;first|apply hK|(clear hK K;first|apply hK|(clear hK K;apply hK))));clear hK K)|(refine todo ?_;simp +decide only[go_sem, hA, Tb.cells, hd, hw1, h2])))
 exact zql (v := pA d.s.enc) (p := pA d.s.enc) (zzu rfl (by unfold zzn; simp +decide only [go_sem])) xx6 yki hw (z50 h2 (z50 h2 zx3)) (fun _ _ => rfl)
def before (k : List UInt8) (t : Tb) : Bool := decide (cmpB t.name k < 0)
def place (l : List Tb) (k : List UInt8) : Nat := (l.takeWhile (before k)).length
def isAt (l : List Tb) (k : List UInt8) : Bool := match l[place l k]? with
 | some t => t.name == k
 | none => false
theorem Tryz.rTable (off : Nat) (hw : Wf H A) (b : Bs) (k : List UInt8) (hb : BAt A b) (hl : b.tabs.length ≤ 1048576) (hn : ∀ t ∈ b.tabs, t.name.length ≤ 1048576) :
 zqf Tryz.prog 61 off H A [rfD b.p, pD (dS k)] (.tup [.c (.d (dI (place b.tabs k))), .c (.d (.lit (.bool (isAt b.tabs k))))]) H A := by
 obtain ⟨h1, h2, h3⟩ := hb
 refine zqh (E := envOf Tryz.prog [] off [] [2, 4]) (zzx Tryz.mixed) Tryz.func61 rfl Tryz.call61 (by kernel_rfl) (by exact Zle rfl) (fun hab => ?_)
 have hplace : ∀ i, (b.tabs.take i).all (before k) = true → (∀ t, b.tabs[i]? = some t → before k t = false) → i ≤ b.tabs.length → place b.tabs k = i := fun i e1 e2 e3 => by
  unfold place
  rw [(zji e1 e2).1, Zlt]
  omega
 repeat' (first|(with_reducible first|refine vSq fun K hK=>?_|apply vRg|apply vBl|apply vSc|apply vIf|apply vSk|apply vEx|apply vRt|((first|apply gNt|apply gCs)<;>(intro h;try simp only[h]))|((first|apply hK|(clear hK K;first|apply hK|(clear hK K;first|apply hK|(clear hK K;apply hK))));clear hK K)|(refine todo ?_;simp +decide only[go_sem])))
 cases hq : b.q with
 | none =>
   rw [hq] at h2
   have hnil : b.tabs = [] := by have := h2; unfold ArAt zzp at this; simpa using this
   have hc : b.cells = [dI b.seq, dI b.time, dI b.hor, .nl] := by unfold Bs.cells; rw [hq]; rfl
   rw [hc] at h1
   have ep : place b.tabs k = 0 := by rw [hnil]; rfl
   have ea : isAt b.tabs k = false := by rw [hnil]; rfl
   refine zzj 0 (fun _ => True) (fun i => over [(0, rfD b.p), (1, pD (dS k)), (6, pD (dI i))] [] H A) Zti ?_ ?_
   · refine zxg hw zx3 rfl ?_ ?_ <;> simp +decide only [go_sem]
   · intro i hi _
     obtain rfl : i = 0 := by omega
     repeat' (first|(with_reducible first|refine vSq fun K hK=>?_|apply vRg|apply vBl|apply vSc|apply vIf|apply vSk|apply vEx|apply vRt|((first|apply gNt|apply gCs)<;>(intro h;try simp only[h]))|((first|apply hK|(clear hK K;first|apply hK|(clear hK K;first|apply hK|(clear hK K;apply hK))));clear hK K)|(refine todo ?_;simp +decide only[go_sem, h1])))
     rw [ep, ea]
     exact zql (yx8 (p := pD (dI 0)) (p' := pD (.lit (.bool false))) rfl (by unfold zzn; simp +decide only [go_sem]) (by unfold zzn; simp +decide only [go_sem]) rfl) y2u yx0 hw zx3 (fun _ _ => rfl)
 | some q =>
   rw [hq] at h2
   have hc : b.cells = [dI b.seq, dI b.time, dI b.hor, .sa q 1 b.tabs.length] := by unfold Bs.cells; rw [hq]; rfl
   rw [hc] at h1
   have hA2 : A (0, q) = some (.pr q (.mu 1 (zzp b.tabs))) := h2
   have hlen : (zzp b.tabs).length = b.tabs.length := by simp [zzp]
   refine zzj b.tabs.length (fun i => (b.tabs.take i).all (before k) = true) (fun i => over [(0, rfD b.p), (1, pD (dS k)), (6, pD (dI i))] [] H A) rfl ?_ ?_
   · refine zxg hw zx3 rfl ?_ ?_ <;> simp +decide only [go_sem]
   · intro i hi hI
     rcases Zlg i b.tabs.length with hlt | hge
     · have hg := Zge hlt
       have hd := zze hlt
       have hnx := zzl hlt (show b.tabs.length ≤ 4294967296 by omega)
       generalize b.tabs[i] = t at hg
       obtain ⟨ht, _⟩ := h3 t (Zme hg)
       have hg' : (zzp b.tabs)[i]? = some [.rf t.p 0] := by rw [zzp, List.getElem?_map, hg]; rfl
       have hnm := hn t (Zme hg)
       have hlt' : (i < b.tabs.length) = True := eq_true hlt
       repeat' (first|(with_reducible first|refine vSq fun K hK=>?_|apply vRg|apply vBl|apply vSc|apply vIf|apply vSk|apply vEx|apply vRt|((first|apply gNt|apply gCs)<;>(intro h;try simp only[h]))|((first|apply hK|(clear hK K;first|apply hK|(clear hK K;first|apply hK|(clear hK K;apply hK))));clear hK K)|(refine todo ?_;simp +decide only[go_sem, h1, hA2, hlen, hlt', hg', ht, Tb.cells, hd, hnx]))|refine zzd (Tryz.rBytes t.name k (by omega)) rfl rfl (fun j => (hab _ (by omega)).2 j) ?_)
       · refine zzi hlt (zz8 hI hg h) (zxg hw zx3 rfl ?_ ?_) <;> simp +decide only [go_sem]
       · have ep := hplace i hI (fun y hy => by rw [hg] at hy; cases hy; exact h) hi
         have ea : isAt b.tabs k = (t.name == k) := by unfold isAt; rw [ep, hg]
         rw [ep, ea]
         exact zql (yx8 (p := pD (dI i)) (p' := pD (.lit (.bool (t.name == k)))) rfl (by unfold zzn; simp +decide only [go_sem]) (by unfold zzn; simp +decide only [go_sem]) rfl) y2u yx0 hw zx3 (fun _ _ => rfl)
     · have hd := zzf hge
       have ep := hplace i hI (fun y hy => by rw [List.getElem?_eq_none hge] at hy; cases hy) hi
       have ea : isAt b.tabs k = false := by unfold isAt; rw [ep, List.getElem?_eq_none hge]
       repeat' (first|(with_reducible first|refine vSq fun K hK=>?_|apply vRg|apply vBl|apply vSc|apply vIf|apply vSk|apply vEx|apply vRt|((first|apply gNt|apply gCs)<;>(intro h;try simp only[h]))|((first|apply hK|(clear hK K;first|apply hK|(clear hK K;first|apply hK|(clear hK K;apply hK))));clear hK K)|(refine todo ?_;simp +decide only[go_sem, h1, hd])))
       rw [ep, ea]
       exact zql (yx8 (p := pD (dI i)) (p' := pD (.lit (.bool false))) rfl (by unfold zzn; simp +decide only [go_sem]) (by unfold zzn; simp +decide only [go_sem]) rfl) y2u yx0 hw zx3 (fun _ _ => rfl)
end Go.Proofs
namespace Go.Proofs
open Go.PW
theorem zq0 {P : Program} {f : FuncId} {n : Nat} {A A' : AMap} {args : List PV} {v : PV} (h : zqf P f n noH A args v noH A') (ha : ∀ x ∈ args, x.oks (fun i => noH i ≠ none) (fun κ => A κ ≠ none)) {H : HMap} : zqf P f n H A args v H A' :=
 y0t h zqd ha (fun id h => absurd rfl h) (fun id _ _ => ⟨rfl, rfl⟩) (fun id h => by
  rcases h with h | h
  · exact absurd rfl h
  · exact h)
theorem Tryz.appEnts : AppT Tryz.prog 99 107 4 72 := ⟨Tryz.underlying99, Tryz.cl107, Tryz.by107, Tryz.zo107, by decide, by decide⟩
theorem zw4 (l : List En) : Szd 4 (l.map En.enc) := fun e he => by
 obtain ⟨p, _, rfl⟩ := List.mem_map.1 he
 rfl
def Cn (A : AMap) (c : Nat) : Prop := A (0, 0) = some (.cnt c) ∧ 1 ≤ c ∧ ∀ j, c ≤ j → A (0, j) = none
theorem Cn.lt {A : AMap} {c p : Nat} (h : Cn A c) (hp : A (0, p) ≠ none) : p < c := Nat.lt_of_not_le fun e => hp (h.2.2 p e)
def ebefore (k : List UInt8) (e : En) : Bool := decide (cmpB e.key k < 0)
def eplace (l : List En) (k : List UInt8) : Nat := (l.takeWhile (ebefore k)).length
def eIs (l : List En) (k : List UInt8) : Bool := match l[eplace l k]? with
 | some e => e.key == k
 | none => false
def zky (k : List UInt8) : En := ⟨k, [], [], false⟩
def eIns (l : List En) (k : List UInt8) : List En := l.take (eplace l k) ++ zky k :: l.drop (eplace l k)
def Tb.ins (t : Tb) (c : Nat) (k : List UInt8) : Tb := { t with q := some (c + 2), keys := eIns t.keys k }
def insA (A : AMap) (t : Tb) (c : Nat) (k : List UInt8) : AMap :=
 upd (upd (upd A (0, t.p) (some (.pr t.p (.ob (t.ins c k).cells)))) (0, c + 2) (some (.pr (c + 2) (.mu 4 ((eIns t.keys k).map En.enc))))) (0, 0) (some (.cnt (c + 3)))
section
variable {A : AMap}
theorem z2f {l : List En} {k : List UInt8} {i : Nat} (e1 : (l.take i).all (ebefore k) = true) (e2 : ∀ t, l[i]? = some t → ebefore k t = false) (e3 : i ≤ l.length) : eplace l k = i := by
 unfold eplace
 rw [(zji e1 e2).1, Zlt]
 omega
theorem z5q (l : List En) (k : List UInt8) : eplace l k ≤ l.length := by
 unfold eplace
 induction l with
 | nil => simp
 | cons x l ih => rw [List.takeWhile_cons]; split <;> simp <;> omega
theorem Tryz.rEntryIs (off : Nat) (t : Tb) (k : List UInt8) (ht : TAt A t) (hl : t.keys.length ≤ 1048576) (hn : ∀ e ∈ t.keys, e.key.length ≤ 1048576) (his : eIs t.keys k = true) :
 zqf Tryz.prog 66 off noH A [rfD t.p, pD (dS k)] (pD (dI (eplace t.keys k))) noH A := by
 obtain ⟨h1, h2⟩ := ht
 refine zqh (E := envOf Tryz.prog [10000000 + 99] off [] []) (zzx Tryz.mixed) Tryz.func66 rfl Tryz.call66 (by kernel_rfl) (by exact Zle rfl) (fun hab => ?_)
 cases hq : t.q with
 | none =>
   rw [hq] at h2
   have hnil : t.keys = [] := by have := h2; unfold ArAt at this; simpa using this
   rw [hnil] at his
   cases his
 | some q =>
   rw [hq] at h2
   have hc : t.cells = [dS t.name, .sl (t.defs.map Df.enc), .sa q 4 t.keys.length] := by unfold Tb.cells; rw [hq]; rfl
   rw [hc] at h1
   have hA2 : A (0, q) = some (.pr q (.mu 4 (t.keys.map En.enc))) := h2
   repeat' (first|(with_reducible first|refine vSq fun K hK=>?_|apply vRg|apply vBl|apply vSc|apply vIf|apply vSk|apply vEx|apply vRt|((first|apply gNt|apply gCs)<;>(intro h;try simp only[h]))|((first|apply hK|(clear hK K;first|apply hK|(clear hK K;first|apply hK|(clear hK K;apply hK))));clear hK K)|(refine todo ?_;simp +decide only[go_sem])))
   refine zzj t.keys.length (fun i => (t.keys.take i).all (ebefore k) = true) (fun i => over [(0, rfD t.p), (1, pD (dS k)), (5, pD (dI i))] [] noH A) rfl ?_ ?_
   · refine zxg zqd zx3 rfl ?_ ?_ <;> simp +decide only [go_sem]
   · intro i hi hI
     rcases Zlg i t.keys.length with hlt | hge
     · have hg := Zge hlt
       have hd := zze hlt
       have hlt' : (i < t.keys.length) = True := eq_true hlt
       have hnx := zzl hlt (show t.keys.length ≤ 4294967296 by omega)
       generalize t.keys[i] = e at hg
       have hnm := hn e (Zme hg)
       by_cases hb : ebefore k e = true
       · have hb' : decide (cmpB e.key k < 0) = true := hb
         repeat' (first|(with_reducible first|refine vSq fun K hK=>?_|apply vRg|apply vBl|apply vSc|apply vIf|apply vSk|apply vEx|apply vRt|((first|apply gNt|apply gCs)<;>(intro h;try simp only[h]))|((first|apply hK|(clear hK K;first|apply hK|(clear hK K;first|apply hK|(clear hK K;apply hK))));clear hK K)|(refine todo ?_;simp +decide only[go_sem, h1, hA2, hlt', hg, hd, hnx, hb', List.length_map]))|refine zzd (Tryz.rBytes e.key k (by omega)) rfl rfl (fun j => (hab _ (by omega)).2 j) ?_)
         refine zzi hlt (zz8 hI hg hb) (zxg zqd zx3 rfl ?_ ?_) <;> simp +decide only [go_sem]
       · have hb' : decide (cmpB e.key k < 0) = false := by simpa [ebefore] using hb
         have ep := z2f hI (fun y hy => by rw [hg] at hy; cases hy; exact hb') hi
         have ek : (e.key == k) = true := by have := his; unfold eIs at this; rw [ep, hg] at this; exact this
         repeat' (first|(with_reducible first|refine vSq fun K hK=>?_|apply vRg|apply vBl|apply vSc|apply vIf|apply vSk|apply vEx|apply vRt|((first|apply gNt|apply gCs)<;>(intro h;try simp only[h]))|((first|apply hK|(clear hK K;first|apply hK|(clear hK K;first|apply hK|(clear hK K;apply hK))));clear hK K)|(refine todo ?_;simp +decide only[go_sem, h1, hA2, hlt', hg, hd, hb', ek, List.length_map]))|refine zzd (Tryz.rBytes e.key k (by omega)) rfl rfl (fun j => (hab _ (by omega)).2 j) ?_)
         rw [ep]
         exact zql (zzu (p := pD (dI i)) rfl (by unfold zzn; simp +decide only [go_sem])) (by simp +decide only [go_sem]) Zti zqd zx3 (fun _ _ => rfl)
     · have ep := z2f hI (fun y hy => by rw [List.getElem?_eq_none hge] at hy; cases hy) hi
       unfold eIs at his
       rw [ep, List.getElem?_eq_none hge] at his
       cases his
theorem y09 (t : Tb) (c : Nat) (k : List UInt8) (hp : t.p ≠ 0) (hc : t.p < c) : TAt (insA A t c k) (t.ins c k) := by
 constructor
 · unfold insA
   rw [zza _ _ (by simp [Tb.ins]; omega), zza _ _ (by simp [Tb.ins]; omega)]
   show upd A (0, t.p) _ (0, t.p) = _
   rw [zzc]; rfl
 · show insA A t c k (0, c + 2) = _
   unfold insA
   rw [zza _ _ (by simp), zzc]; rfl
theorem y7g (t : Tb) (c : Nat) (k : List UInt8) (h : Cn A c) (hc : t.p < c) : Cn (insA A t c k) (c + 3) := by
 refine ⟨by unfold insA; rw [zzc], by omega, fun j hj => ?_⟩
 unfold insA
 rw [zza _ _ (by simp; omega), zza _ _ (by simp; omega), zza _ _ (by simp; omega)]
 exact h.2.2 j (by omega)
theorem z7v (t : Tb) (c : Nat) (k : List UInt8) {κ : Tok} (h1 : κ ≠ (0, t.p)) (h2 : κ ≠ (0, c + 2)) (h3 : κ ≠ (0, 0)) : insA A t c k κ = A κ := by
 unfold insA
 rw [zza _ _ h3, zza _ _ h2, zza _ _ h1]
theorem z82 (t : Tb) (c : Nat) (k : List UInt8) : ∀ κ, A κ ≠ none → insA A t c k κ ≠ none := fun κ h => by
 unfold insA upd
 repeat' split
 all_goals first
  | exact h
  | simp
theorem z81 {t : Tb} {c : Nat} {k : List UInt8} (c3 : ∀ j, c ≤ j → A (0, j) = none) {B : AMap} (b0 : B (0, 0) = some (.cnt (c + 3))) (b1 : B (0, c + 2) = some (.pr (c + 2) (.mu 4 ((eIns t.keys k).map En.enc))))
 (b2 : t.p ≠ 0 → B (0, t.p) = some (.pr t.p (.ob (t.ins c k).cells))) (hp : t.p ≠ 0) (b3 : ∀ κ, κ ≠ (0, 0) → κ ≠ (0, c) → κ ≠ (0, c + 1) → κ ≠ (0, c + 2) → κ ≠ (0, t.p) → B κ = A κ) :
 ∀ κ, insA A t c k κ = none ∨ insA A t c k κ = B κ ∨ (B κ = none ∧ ∃ sz, insA A t c k κ = some (.co sz 0) ∨ insA A t c k κ = some (.mu sz [])) ∨ yqe (B κ) (insA A t c k κ) := fun κ => by
 by_cases e0 : κ = (0, 0)
 · subst e0
   refine .inr (.inl ?_)
   rw [b0]; unfold insA; rw [zzc]
 by_cases e1 : κ = (0, c + 2)
 · subst e1
   refine .inr (.inl ?_)
   rw [b1]; unfold insA; rw [zza _ _ e0, zzc]
 by_cases e2 : κ = (0, t.p)
 · subst e2
   refine .inr (.inl ?_)
   rw [b2 hp]; unfold insA; rw [zza _ _ e0, zza _ _ e1, zzc]
 rw [z7v t c k e2 e1 e0]
 by_cases e3 : κ = (0, c)
 · subst e3; exact .inl (c3 c (Zlr _))
 by_cases e4 : κ = (0, c + 1)
 · subst e4; exact .inl (c3 (c + 1) (by omega))
 exact .inr (.inl (b3 κ e0 e3 e4 e1 e2).symm)
theorem Tryz.rEntryNo (off : Nat) (t : Tb) (k : List UInt8) (c : Nat) (ht : TAt A t) (hp : t.p ≠ 0) (hcn : Cn A c) (hl : t.keys.length ≤ 1048576) (hn : ∀ e ∈ t.keys, e.key.length ≤ 1048576) (his : eIs t.keys k = false) :
 zqf Tryz.prog 66 off noH A [rfD t.p, pD (dS k)] (pD (dI (eplace t.keys k))) noH (insA A t c k) := by
 obtain ⟨h1, h2⟩ := ht
 have hpc : t.p < c := hcn.lt (by rw [h1]; simp)
 obtain ⟨c1, c2, c3⟩ := hcn
 refine zqh (E := envOf Tryz.prog [10000000 + 99] off [] []) (zzx Tryz.mixed) Tryz.func66 rfl Tryz.call66 (by kernel_rfl) (by exact Zle rfl) (fun hab => ?_)
 have hle := z5q t.keys k
 cases hq : t.q with
 | none =>
   rw [hq] at h2
   have hnil : t.keys = [] := by have := h2; unfold ArAt at this; simpa using this
   have hc : t.cells = [dS t.name, .sl (t.defs.map Df.enc), .nl] := by unfold Tb.cells; rw [hq]; rfl
   rw [hc] at h1
   have ep : eplace t.keys k = 0 := by rw [hnil]; rfl
   have c0 : ¬ c = 0 := by omega
   have p0 : (t.p = 0) = False := eq_false hp
   have p1 : (t.p = c) = False := eq_false (by omega)
   have p2 : (t.p = c + 1) = False := eq_false (by omega)
   have p3 : (t.p = c + 2) = False := eq_false (by omega)
   repeat' (first|(with_reducible first|refine vSq fun K hK=>?_|apply vRg|apply vBl|apply vSc|apply vIf|apply vSk|apply vEx|apply vRt|((first|apply gNt|apply gCs)<;>(intro h;try simp only[h]))|((first|apply hK|(clear hK K;first|apply hK|(clear hK K;first|apply hK|(clear hK K;apply hK))));clear hK K)|(refine todo ?_;simp +decide only[go_sem])))
   refine zzj 0 (fun _ => True) (fun i => over [(0, rfD t.p), (1, pD (dS k)), (5, pD (dI i))] [] noH A) Zti ?_ ?_
   · refine zxg zqd zx3 rfl ?_ ?_ <;> simp +decide only [go_sem]
   · intro i hi _
     obtain rfl : i = 0 := by omega
     repeat' (first|(with_reducible first|refine vSq fun K hK=>?_|apply vRg|apply vBl|apply vSc|apply vIf|apply vSk|apply vEx|apply vRt|((first|apply gNt|apply gCs)<;>(intro h;try simp only[h]))|((first|apply hK|(clear hK K;first|apply hK|(clear hK K;first|apply hK|(clear hK K;apply hK))));clear hK K)|(refine todo ?_;simp +decide only[go_sem, h1, Prod.mk.injEq, p0, p1, p2, p3, and_false]))|refine zvh Tryz.appEnts (els := []) rfl (l := 0) (h := 0) rfl rfl (by omega) (by simp) z0m ?_|refine zv3 Tryz.appEnts (o := none) (ys := []) (zqx rfl) z0m (by simp) c1 (c3 c (Zlr _)) ?_|(refine z18 Tryz.appEnts (o := none) (p := c) (cn := c + 1) (els := []) (ys := [En.enc (zky k)]) (by simp [upd, c0]) (by simp) (zqx rfl) (by simp) z0m (zw4 [zky k]) (by simp) (by simp [upd]) (by simp [upd]; exact c3 (c + 1) (by omega)) ?_)|(refine z18 Tryz.appEnts (o := none) (p := c + 1) (cn := c + 2) (els := [En.enc (zky k)]) (ys := []) (by simp [upd]; rfl) (by simp) (zqx rfl) (by simp) (zw4 [zky k]) z0m (by simp) (by simp [upd]) (by simp [upd]; exact c3 (c + 2) (by omega)) ?_))
     have els : (eIns t.keys k).map En.enc = [En.enc (zky k)] := by unfold eIns; rw [ep, hnil]; rfl
     have eln : (eIns t.keys k).length = 1 := by unfold eIns; rw [ep, hnil]; rfl
     refine zqq (zzu (p := pD (dI 0)) rfl (by unfold zzn; simp +decide only [go_sem])) (by rw [ep]; simp +decide only [go_sem]) Zti zqd (fun id cs h => by cases h) (z81 c3 ?_ ?_ ?_ hp ?_) (fun _ h => h) (z82 t c k)
     · simp [upd]; omega
     · rw [els]; simp [upd, show ¬ c + 2 = t.p by omega]; rfl
     · intro _; simp [upd, Tb.cells, Tb.ins, slD, eln]; rfl
     · intro κ g0 g1 g2 g3 g4; simp [upd, g0, g1, g2, g3, g4]
 | some q =>
   rw [hq] at h2
   have hc : t.cells = [dS t.name, .sl (t.defs.map Df.enc), .sa q 4 t.keys.length] := by unfold Tb.cells; rw [hq]; rfl
   rw [hc] at h1
   have hA2 : A (0, q) = some (.pr q (.mu 4 (t.keys.map En.enc))) := h2
   have hqc : q < c := Nat.lt_of_not_le fun e => by rw [c3 q e] at hA2; cases hA2
   have hq0 : q ≠ 0 := fun e => by rw [e, c1] at hA2; cases hA2
   have hqp : q ≠ t.p := fun e => by rw [e, h1] at hA2; cases hA2
   have c0 : ¬ c = 0 := by omega
   have q1 : ¬ q = c := by omega
   have q2 : ¬ q = c + 1 := by omega
   have q3 : ¬ q = c + 2 := by omega
   have p0 : (t.p = 0) = False := eq_false hp
   have p1 : (t.p = c) = False := eq_false (by omega)
   have p2 : (t.p = c + 1) = False := eq_false (by omega)
   have p3 : (t.p = c + 2) = False := eq_false (by omega)
   repeat' (first|(with_reducible first|refine vSq fun K hK=>?_|apply vRg|apply vBl|apply vSc|apply vIf|apply vSk|apply vEx|apply vRt|((first|apply gNt|apply gCs)<;>(intro h;try simp only[h]))|((first|apply hK|(clear hK K;first|apply hK|(clear hK K;first|apply hK|(clear hK K;apply hK))));clear hK K)|(refine todo ?_;simp +decide only[go_sem])))
   refine zzj t.keys.length (fun i => (t.keys.take i).all (ebefore k) = true) (fun i => over [(0, rfD t.p), (1, pD (dS k)), (5, pD (dI i))] [] noH A) rfl ?_ ?_
   · refine zxg zqd zx3 rfl ?_ ?_ <;> simp +decide only [go_sem]
   · intro i hi hI
     rcases Zlg i t.keys.length with hlt | hge
     · have hg := Zge hlt
       have hd := zze hlt
       have hlt' : (i < t.keys.length) = True := eq_true hlt
       have hnx := zzl hlt (show t.keys.length ≤ 4294967296 by omega)
       generalize t.keys[i] = e at hg
       have hnm := hn e (Zme hg)
       by_cases hb : ebefore k e = true
       · have hb' : decide (cmpB e.key k < 0) = true := hb
         repeat' (first|(with_reducible first|refine vSq fun K hK=>?_|apply vRg|apply vBl|apply vSc|apply vIf|apply vSk|apply vEx|apply vRt|((first|apply gNt|apply gCs)<;>(intro h;try simp only[h]))|((first|apply hK|(clear hK K;first|apply hK|(clear hK K;first|apply hK|(clear hK K;apply hK))));clear hK K)|(refine todo ?_;simp +decide only[go_sem, h1, hA2, hlt', hg, hd, hnx, hb', List.length_map]))|refine zzd (Tryz.rBytes e.key k (by omega)) rfl rfl (fun j => (hab _ (by omega)).2 j) ?_)
         refine zzi hlt (zz8 hI hg hb) (zxg zqd zx3 rfl ?_ ?_) <;> simp +decide only [go_sem]
       · have hb' : decide (cmpB e.key k < 0) = false := by simpa [ebefore] using hb
         have ep := z2f hI (fun y hy => by rw [hg] at hy; cases hy; exact hb') hi
         have ek : (e.key == k) = false := by have := his; unfold eIs at this; rw [ep, hg] at this; exact this
         repeat' (first|(with_reducible first|refine vSq fun K hK=>?_|apply vRg|apply vBl|apply vSc|apply vIf|apply vSk|apply vEx|apply vRt|((first|apply gNt|apply gCs)<;>(intro h;try simp only[h]))|((first|apply hK|(clear hK K;first|apply hK|(clear hK K;first|apply hK|(clear hK K;apply hK))));clear hK K)|(refine todo ?_;simp +decide only[go_sem, h1, hA2, hlt', hg, hd, hb', ek, List.length_map, Prod.mk.injEq, p0, p1, p2, p3, and_false]))|refine zzd (Tryz.rBytes e.key k (by omega)) rfl rfl (fun j => (hab _ (by omega)).2 j) ?_|refine yk0 Tryz.appEnts (l := 0) (m := i) rfl (by simp [zz0, natOf?, intOf?]) (by omega) (by omega) ?_|refine yk0 Tryz.appEnts (l := i) (m := t.keys.length) (by simp [zz0, natOf?, intOf?]) rfl (by omega) (Zlr _) ?_|(refine zv3 Tryz.appEnts (o := some q) (ys := (t.keys.take i).map En.enc) ((zwa hA2 (by simp)).trans (by rw [List.drop_zero, Nat.sub_zero, ← List.map_take])) (zw4 _) (by simp; omega) c1 (c3 c (Zlr _)) ?_)|(refine z18 Tryz.appEnts (o := none) (p := c) (cn := c + 1) (els := (t.keys.take i).map En.enc) (ys := [En.enc (zky k)]) (by simp [upd, c0]) (by simp) (zqx rfl) (by simp) (zw4 _) (zw4 [zky k]) (by simp; omega) (by simp [upd]) (by simp [upd]; exact c3 (c + 1) (by omega)) ?_)|(refine z18 Tryz.appEnts (o := some q) (p := c + 1) (cn := c + 2) (els := (t.keys.take i).map En.enc ++ [En.enc (zky k)]) (ys := (t.keys.drop i).map En.enc) (by simp [upd]; rfl) (by simp) ((zwa (els := t.keys.map En.enc) (by simp [upd, hq0, q1, q2, hA2]) (by simp)).trans (by rw [← List.map_drop, Ztl (by simp)])) (by simp [q2]) (z0l (zw4 _) (zw4 [zky k])) (zw4 _) (by simp; omega) (by simp [upd]) (by simp [upd]; exact c3 (c + 2) (by omega)) ?_))
         have els : (eIns t.keys k).map En.enc = (t.keys.take i).map En.enc ++ [En.enc (zky k)] ++ (t.keys.drop i).map En.enc := by unfold eIns; rw [ep]; simp
         have eln : (eIns t.keys k).length = i + 1 + (t.keys.length - i) := by unfold eIns; rw [ep]; simp; omega
         refine zqq (zzu (p := pD (dI i)) rfl (by unfold zzn; simp +decide only [go_sem])) (by rw [ep]; simp +decide only [go_sem]) Zti zqd (fun id cs h => by cases h) (z81 c3 ?_ ?_ ?_ hp ?_) (fun _ h => h) (z82 t c k)
         · simp [upd]; omega
         · rw [els]; simp [upd, show ¬ c + 2 = t.p by omega]; rfl
         · intro _; simp [upd, Tb.cells, Tb.ins, slD, eln]; exact ⟨rfl, by omega⟩
         · intro κ g0 g1 g2 g3 g4; simp [upd, g0, g1, g2, g3, g4]
     · have ep := z2f hI (fun y hy => by rw [List.getElem?_eq_none hge] at hy; cases hy) hi
       have hd := zzf hge
       have hil : i = t.keys.length := by omega
       repeat' (first|(with_reducible first|refine vSq fun K hK=>?_|apply vRg|apply vBl|apply vSc|apply vIf|apply vSk|apply vEx|apply vRt|((first|apply gNt|apply gCs)<;>(intro h;try simp only[h]))|((first|apply hK|(clear hK K;first|apply hK|(clear hK K;first|apply hK|(clear hK K;apply hK))));clear hK K)|(refine todo ?_;simp +decide only[go_sem, h1, hd, Prod.mk.injEq, p0, p1, p2, p3, and_false]))|refine yk0 Tryz.appEnts (l := 0) (m := i) rfl (by simp [zz0, natOf?, intOf?]) (by omega) (by omega) ?_|refine yk0 Tryz.appEnts (l := i) (m := t.keys.length) (by simp [zz0, natOf?, intOf?]) rfl (by omega) (Zlr _) ?_|(refine zv3 Tryz.appEnts (o := some q) (ys := (t.keys.take i).map En.enc) ((zwa hA2 (by simp)).trans (by rw [List.drop_zero, Nat.sub_zero, ← List.map_take])) (zw4 _) (by simp; omega) c1 (c3 c (Zlr _)) ?_)|(refine z18 Tryz.appEnts (o := none) (p := c) (cn := c + 1) (els := (t.keys.take i).map En.enc) (ys := [En.enc (zky k)]) (by simp [upd, c0]) (by simp) (zqx rfl) (by simp) (zw4 _) (zw4 [zky k]) (by simp; omega) (by simp [upd]) (by simp [upd]; exact c3 (c + 1) (by omega)) ?_)|(refine z18 Tryz.appEnts (o := some q) (p := c + 1) (cn := c + 2) (els := (t.keys.take i).map En.enc ++ [En.enc (zky k)]) (ys := (t.keys.drop i).map En.enc) (by simp [upd]; rfl) (by simp) ((zwa (els := t.keys.map En.enc) (by simp [upd, hq0, q1, q2, hA2]) (by simp)).trans (by rw [← List.map_drop, Ztl (by simp)])) (by simp [q2]) (z0l (zw4 _) (zw4 [zky k])) (zw4 _) (by simp; omega) (by simp [upd]) (by simp [upd]; exact c3 (c + 2) (by omega)) ?_))
       have els : (eIns t.keys k).map En.enc = (t.keys.take i).map En.enc ++ [En.enc (zky k)] ++ (t.keys.drop i).map En.enc := by unfold eIns; rw [ep]; simp
       have eln : (eIns t.keys k).length = i + 1 + (t.keys.length - i) := by unfold eIns; rw [ep]; simp; omega
       refine zqq (zzu (p := pD (dI i)) rfl (by unfold zzn; simp +decide only [go_sem])) (by rw [ep]; simp +decide only [go_sem]) Zti zqd (fun id cs h => by cases h) (z81 c3 ?_ ?_ ?_ hp ?_) (fun _ h => h) (z82 t c k)
       · simp [upd]; omega
       · rw [els]; simp [upd, show ¬ c + 2 = t.p by omega]; rfl
       · intro _; simp [upd, Tb.cells, Tb.ins, slD, eln]; exact ⟨rfl, by omega⟩
       · intro κ g0 g1 g2 g3 g4; simp [upd, g0, g1, g2, g3, g4]
end
end Go.Proofs
