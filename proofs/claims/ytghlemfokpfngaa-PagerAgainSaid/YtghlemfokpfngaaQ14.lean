/-
  Parts of the proof, laid together: PwU, PwW.
-/
import Derived.Test.YtghlemfokpfngaaQ13

namespace Go.PW
def rhoOf : List (Nat × PV) → Nat → PV
  | [], _ => .c .any
  | (u, x) :: r, t => if t = u then x else rhoOf r t
def hOf : List (Nat × List CV) → HMap
  | [], _ => none
  | (u, x) :: r, t => if t = u then some x else hOf r t
def aOf : List (Tok × Arr) → AMap
  | [], _ => none
  | (u, x) :: r, t => if t = u then some x else aOf r t
def frame (l : List (Nat × PV)) (h : List (Nat × List CV)) (a : List (Tok × Arr)) : St := ⟨rhoOf l, hOf h, aOf a⟩
def wkCells (H' : HMap) (A A' : AMap) : List CV → List CV → Prop
  | [], [] => True
  | c :: r, d :: s => CV.wk H' A A' c d ∧ wkCells H' A A' r s
  | _, _ => False
theorem wkCells_spec {H' : HMap} {A A' : AMap} : ∀ {cs ds : List CV}, wkCells H' A A' cs ds → cs.length = ds.length ∧ ∀ (k : Nat) (c d : CV), cs[k]? = some c → ds[k]? = some d → CV.wk H' A A' c d
  | [], [], _ => ⟨rfl, fun k c d h => by simp at h⟩
  | c :: r, d :: s, h => by
    obtain ⟨h1, h2⟩ := wkCells_spec h.2
    refine ⟨by simp [h1], fun k x y hx hy => ?_⟩
    cases k with
    | zero => simp at hx hy; rw [← hx, ← hy]; exact h.1
    | succ k => exact h2 k x y (by simpa using hx) (by simpa using hy)
  | [], _ :: _, h => h.elim
  | _ :: _, [], h => h.elim
def keepP (H' : HMap) (A A' : AMap) (ρ : Nat → PV) : List (Nat × PV) → Prop
  | [] => True
  | (t, x) :: r => PV.wk H' A A' x (ρ t) ∧ keepP H' A A' ρ r
def keepC (H' : HMap) (A A' : AMap) (cs : List CV) : Option (List CV) → Prop
  | some ds => wkCells H' A A' cs ds
  | none => False
def keepH (H' : HMap) (A A' : AMap) (H : HMap) : List (Nat × List CV) → Prop
  | [] => True
  | (t, x) :: r => keepC H' A A' x (H t) ∧ keepH H' A A' H r
def freshA : Arr → Prop
  | .co _ n => n = 0
  | .mu _ els => els = []
  | .mp _ => False
  | .mpi _ _ _ _ => False
  | .si _ _ => False
def keepA1 (ar : Arr) : Option Arr → Prop
  | some x => x = ar
  | none => freshA ar
def keepA (A : AMap) : List (Tok × Arr) → Prop
  | [] => True
  | (t, x) :: r => keepA1 x (A t) ∧ keepA A r
theorem keepP_spec {H' : HMap} {A A' : AMap} {ρ : Nat → PV} : ∀ {l : List (Nat × PV)}, keepP H' A A' ρ l → ∀ t, PV.wk H' A A' (rhoOf l t) (ρ t)
  | [], _, _ => True.intro
  | (u, x) :: r, h, t => by
    unfold rhoOf
    split
    · rename_i e; rw [e]; exact h.1
    · exact keepP_spec h.2 t
theorem keepH_spec {H' : HMap} {A A' : AMap} {H : HMap} : ∀ {l : List (Nat × List CV)}, keepH H' A A' H l → ∀ id, hOf l id = none ∨ ∃ cs ds, hOf l id = some cs ∧ H id = some ds ∧ cs.length = ds.length ∧ ∀ (k : Nat) (c d : CV), cs[k]? = some c → ds[k]? = some d → CV.wk H' A A' c d
  | [], _, _ => .inl rfl
  | (u, x) :: r, h, t => by
    unfold hOf
    split
    · rename_i e
      subst e
      right
      obtain ⟨h1, _⟩ := h
      cases hH : H t with
      | none => rw [hH] at h1; exact h1.elim
      | some ds => rw [hH] at h1; exact ⟨x, ds, rfl, rfl, wkCells_spec h1⟩
    · exact keepH_spec h.2 t
theorem keepA_spec {A : AMap} : ∀ {l : List (Tok × Arr)}, keepA A l → ∀ κ, aOf l κ = none ∨ aOf l κ = A κ ∨ (A κ = none ∧ ∃ sz, aOf l κ = some (.co sz 0) ∨ aOf l κ = some (.mu sz [])) ∨ permA (A κ) (aOf l κ)
  | [], _, _ => .inl rfl
  | (u, x) :: r, h, t => by
    unfold aOf
    split
    · rename_i e
      subst e
      right
      obtain ⟨h1, _⟩ := h
      cases hA : A t with
      | none =>
        rw [hA] at h1
        right
        left
        refine ⟨rfl, ?_⟩
        cases x with
        | co sz n => exact ⟨sz, .inl (by rw [show n = 0 from h1])⟩
        | mu sz els => exact ⟨sz, .inr (by rw [show els = [] from h1])⟩
        | mp m => exact False.elim h1
        | mpi m c l i => exact False.elim h1
        | si s p => exact False.elim h1
      | some y => rw [hA] at h1; exact .inl (by rw [show y = x from h1])
    · exact keepA_spec h.2 t
theorem Weak_frame {S : St} {l : List (Nat × PV)} {h : List (Nat × List CV)} {a : List (Tok × Arr)} (h1 : keepP (hOf h) S.A (aOf a) S.ρ l) (h2 : keepH (hOf h) S.A (aOf a) S.H h) (h3 : keepA S.A a) : Weak noH noA S (frame l h a) :=
  ⟨keepP_spec h1, keepH_spec h2, keepA_spec h3, fun _ h => absurd rfl h, fun _ h => absurd rfl h⟩
def Next (H0 : HMap) (A0 : AMap) (n : Nat) (I : Nat → Prop) (F : Nat → St) (i : Nat) (S : St) : Prop := ∃ j : {i : Nat // i ≤ n ∧ I i}, Weak H0 A0 S (F j.1) ∧ n - j.1 < n - i
theorem Next_of {H0 : HMap} {A0 : AMap} {n : Nat} {I : Nat → Prop} {F : Nat → St} {i : Nat} {S : St} (hi : i < n) (h : I (i + 1)) (hw : Weak H0 A0 S (F (i + 1))) : Next H0 A0 n I F i S :=
  ⟨⟨i + 1, hi, h⟩, hw, by show n - (i + 1) < n - i; omega⟩
theorem VC_range {E : Env} {H0 : HMap} {A0 : AMap} {c : Code} {Q : Post} {S : St} (n : Nat) (I : Nat → Prop) (F : Nat → St) (i0 : I 0) (h0 : Weak H0 A0 S (F 0))
    (h : ∀ i, i ≤ n → I i → VC E H0 A0 c ⟨Next H0 A0 n I F i, Q.ret, Q.ext⟩ (F i)) : VC E H0 A0 (.loop c) Q S :=
  ⟨{i : Nat // i ≤ n ∧ I i}, fun i => F i.1, fun i => n - i.1, ⟨⟨0, Nat.zero_le _, i0⟩, h0⟩, fun i => h i.1 i.2.1 i.2.2⟩
@[congr] theorem Next_congr {H0 : HMap} {A0 : AMap} {n m : Nat} {I : Nat → Prop} {F : Nat → St} {i : Nat} {S : St} (h : idd n = m) : Next H0 A0 n I F i S = Next H0 A0 m I F i S := by rw [← h]; rfl
@[congr] theorem Ret_congr {P : Program} {fn : Func} {r r' : RV} {S : St} (h : idd r = r') : Ret P fn r S = Ret P fn r' S := by rw [← h]; rfl
@[go_sem] theorem dec_true {h : Decidable True} : @decide True h = true := by cases h with | isTrue _ => rfl | isFalse h => exact absurd True.intro h
@[go_sem] theorem dec_false {h : Decidable False} : @decide False h = false := by cases h with | isTrue h => exact h.elim | isFalse _ => rfl
@[go_sem] theorem int_zero : ((0 : Nat) : Int) = 0 := rfl
@[go_sem] theorem rhoOf_nil {t : Nat} : rhoOf [] t = .c .any := rfl
@[go_sem] theorem rhoOf_cons {t u : Nat} {x : PV} {r : List (Nat × PV)} : rhoOf ((u, x) :: r) t = if t = u then x else rhoOf r t := rfl
@[go_sem] theorem hOf_nil {t : Nat} : hOf [] t = none := rfl
@[go_sem] theorem hOf_cons {t u : Nat} {x : List CV} {r : List (Nat × List CV)} : hOf ((u, x) :: r) t = if t = u then some x else hOf r t := rfl
@[go_sem] theorem aOf_nil {t : Tok} : aOf [] t = none := rfl
@[go_sem] theorem aOf_cons {t u : Tok} {x : Arr} {r : List (Tok × Arr)} : aOf ((u, x) :: r) t = if t = u then some x else aOf r t := rfl
@[go_sem] theorem frame_eq (l : List (Nat × PV)) (h : List (Nat × List CV)) (a : List (Tok × Arr)) : frame l h a = ⟨rhoOf l, hOf h, aOf a⟩ := rfl
section wk
variable {H' : HMap} {A A' : AMap}
@[go_sem] theorem wk_d {x : D} : CV.wk H' A A' (.d x) (.d x) = True := eq_true (.inr (.inl ⟨rfl, True.intro⟩))
@[go_sem] theorem wk_full {x : List (List D)} : CV.wk H' A A' (.full x) (.full x) = True := eq_true (.inr (.inl ⟨rfl, True.intro⟩))
@[go_sem] theorem wk_dfull {x : List (List D)} : CV.wk H' A A' (.d (.sl x)) (.full x) = True := eq_true (.inr (.inr (.inl ⟨x, rfl, .inl rfl⟩)))
@[go_sem] theorem wk_down {κ : Tok} {x : List (List D)} : CV.wk H' A A' (.d (.sl x)) (.own κ x) = True := eq_true (.inr (.inr (.inl ⟨x, rfl, .inr ⟨κ, rfl⟩⟩)))
@[go_sem] theorem wk_canyc {x : CV} : CV.wk H' A A' .any x = True := eq_true (.inl rfl)
@[go_sem] theorem wk_anyc {x : PV} : PV.wk H' A A' (.c .any) x = True := rfl
theorem wk_c {x y : CV} (h : CV.wk H' A A' x y) : PV.wk H' A A' (.c x) (.c y) := by
  unfold PV.wk
  split
  · exact True.intro
  · rename_i h1 h2; cases h1; cases h2; exact h
  · rename_i h1 _; cases h1
  · rename_i h1 _; cases h1
  · rename_i h1 h2 h3 h4; exact (h2 _ _ rfl rfl).elim
@[go_sem] theorem wkP_d {x : D} : PV.wk H' A A' (.c (.d x)) (.c (.d x)) = True := eq_true (wk_c (by rw [wk_d]; exact True.intro))
@[go_sem] theorem wkP_down {κ : Tok} {x : List (List D)} : PV.wk H' A A' (.c (.d (.sl x))) (.c (.own κ x)) = True := eq_true (wk_c (by rw [wk_down]; exact True.intro))
theorem wkP_own {κ : Tok} {x : List (List D)} (h : A' κ ≠ none) (e : A' κ = A κ) : PV.wk H' A A' (.c (.own κ x)) (.c (.own κ x)) := wk_c (.inr (.inl ⟨rfl, h, e⟩))
theorem wkP_new {κ : Tok} {sz : Nat} (h : A κ = none) (e : A' κ = some (.co sz 0)) : PV.wk H' A A' (.c (.own κ [])) (.c (.full [])) := wk_c (.inr (.inr (.inr (.inl ⟨rfl, κ, sz, rfl, h, e⟩))))
theorem wkP_ptr {id o : Nat} (h : H' id ≠ none) : PV.wk H' A A' (.c (.ptr id o)) (.c (.ptr id o)) := wk_c (.inr (.inl ⟨rfl, h⟩))
end wk
def Todo (p : Prop) : Prop := p
theorem todo {p : Prop} (h : p) : Todo p := h
theorem vRg {E : Env} {H0 : HMap} {A0 : AMap} {id : Nat} {l : List Oper} {draw : Bool} {Q : Post} {S : St} (h : Todo (RunV E (fbOf E id l.toArray draw) l.toArray l S Q.nrm)) : VC E H0 A0 (.region id l.toArray draw) Q S := VC_region h
theorem gNt {b : Bool} {X Y : Prop} (h : b = true → Todo Y) (h' : b = false → Todo X) : GuardP (some (!b)) X Y := GuardP_not h h'
theorem gCs {b : Bool} {X Y : Prop} (h : b = true → Todo X) (h' : b = false → Todo Y) : GuardP (some b) X Y := GuardP_cases h h'
theorem C_pure {P : Program} {effs : List FuncId} {off : Nat} {md st : List Nat} {n : Nat} {f : FuncId} {H : HMap} {A : AMap} {args args' : List PV} {rv : RV} {KK : PV → HMap → AMap → Prop} (h : PureOK P f args' rv) (ha : args.map PV.frz = args') (he : (effs.contains f || effs.contains (2000000 + f) || effs.contains (7000000 + f)) = false)
    (hA : ∀ k, A (off + n, k) = none) (hK : Todo (KK (rv.pv (off + n)) H (RT.install (off + n) A 0 rv.list))) : callV (envOf P effs off md st) n f H A args KK := call_pure h ha he hA hK
structure AppT (P : Program) (t e : TypeId) (c b : Nat) : Prop where
  und : P.underlying t = some (.slice e)
  hc : P.cellsOf e = c
  hb : P.bytesOf e = b
  hz : zeroOK P e = true
  pc : 0 < c
  pb : 0 < b
section app
variable {P : Program} {t e : TypeId} {c b : Nat} {md : List Nat} {k q : Nat} {A : AMap} {els ys : List (List D)} {y : PV} {κ : Tok} {KK : PV → AMap → Prop}
theorem W_full (T : AppT P t e c b) (hy : sliceEls y = some ys) (hm : md.contains q = false) (s1 : Szd c els) (s2 : Szd c ys) (s3 : (els.length + ys.length) * b ≤ 140737488355328) (ha : A (k + q, 0) = none)
    (hK : Todo (KK (.c (.own (k + q, 0) (els ++ ys))) (upd A (k + q, 0) (some (.co c (els ++ ys).length))))) : appV P md k q A [t, t] (.c (.full els)) y KK := by
  rw [appV_full T.und hy hm, T.hc, T.hb]
  exact ⟨⟨⟨T.pc, T.hz, T.pb⟩, s1, s2, s3, ha⟩, hK⟩
theorem W_own (T : AppT P t e c b) (hy : sliceEls y = some ys) (s1 : Szd c els) (s2 : Szd c ys) (s3 : (els.length + ys.length) * b ≤ 140737488355328) (ha : A κ = some (.co c els.length))
    (hK : Todo (KK (.c (.own κ (els ++ ys))) (upd A κ (some (.co c (els ++ ys).length))))) : appV P md k q A [t, t] (.c (.own κ els)) y KK := by
  rw [appV_own T.und hy, T.hc, T.hb]
  exact ⟨⟨⟨T.pc, T.hz, T.pb⟩, s1, s2, s3, ha⟩, hK⟩
theorem W_slc {x : PV} {lo hi : Option PV} {l h : Nat} {K : PV → Prop} (T : AppT P t e c b) (hx : sliceEls x = some els) (hl : optNat lo 0 = some l) (hh : optNat hi els.length = some h) (h1 : l ≤ h) (h2 : h ≤ els.length) (sz : Szd c els)
    (hK : Todo (K (.c (.d (.sl ((els.drop l).take (h - l))))))) : slcV P t x lo hi none K := by
  unfold slcV
  rw [T.und]
  simp only [T.hc, hx, hl, hh, Opt]
  exact ⟨T.pc, ⟨h1, h2, sz, fun h => by cases h⟩, hK⟩
end app
@[congr] theorem slcV_congr {P : Program} {T : TypeId} {x y : PV} {lo hi mx lo' hi' : Option PV} {K : PV → Prop} (hx : idd x = y) (hl : idd lo = lo') (hh : idd hi = hi') : slcV P T x lo hi mx K = slcV P T y lo' hi' mx K := by rw [← hx, ← hl, ← hh]; rfl
theorem szNil {c : Nat} : Szd c [] := fun _ h => by cases h
theorem szOne {c : Nat} {x : List D} (h : x.length = c) : Szd c [x] := fun e he => by rw [List.mem_singleton.1 he]; exact h
@[congr] theorem VC_congr {E : Env} {H0 H1 : HMap} {A0 : AMap} {c : Code} {Q : Post} {S : St} (h : idd H0 = H1) : VC E H0 A0 c Q S = VC E H1 A0 c Q S := by rw [← h]; rfl
theorem vIf {E : Env} {H0 : HMap} {A0 : AMap} {c : Operand} {x y : Code} {Q : Post} {S : St} (h : Todo (GuardP (boolOf? (ev S.ρ c)) (VC E H0 A0 x Q S) (VC E H0 A0 y Q S))) : VC E H0 A0 (.cond c x y) Q S := by
  unfold Todo at h
  cases hb : boolOf? (ev S.ρ c) with
  | none => rw [hb] at h; exact h.elim
  | some b =>
    rw [hb] at h
    refine VC_cond b hb (fun e => ?_) (fun e => ?_)
    · rw [e] at h; exact h
    · rw [e] at h; exact h
theorem vSk {E : Env} {H0 : HMap} {A0 : AMap} {Q : Post} {S : St} (h : Todo (Q.nrm S)) : VC E H0 A0 .skip Q S := h
theorem vEx {E : Env} {H0 : HMap} {A0 : AMap} {id : Nat} {Q : Post} {S : St} (h : Todo (Q.ext id S)) : VC E H0 A0 (.exit id) Q S := h
theorem vRt {E : Env} {H0 : HMap} {A0 : AMap} {Q : Post} {S : St} (h : Todo (Q.ret S)) : VC E H0 A0 .ret Q S := h
theorem vSc {E : Env} {H0 : HMap} {A0 : AMap} {c : Code} {Q : Post} {S : St} (h : VC E H0 A0 c Q S) : VC E H0 A0 (.scope c) Q S := h
theorem int_lt_true {i n : Nat} (h : i < n) : ((i : Int) < (n : Int)) = True := eq_true (by omega)
theorem int_lt_false {i n : Nat} (h : n ≤ i) : ((i : Int) < (n : Int)) = False := eq_false (by omega)
theorem int_next {i n : Nat} (h : i < n) (hn : n ≤ 4294967296) : IntKind.i64.wrap ((i : Int) + 1) = ((i + 1 : Nat) : Int) := Go.IntWalk.i64_in _ (by omega)
theorem int_nonneg {i : Nat} : (0 ≤ (i : Int)) = True := eq_true (by omega)
attribute [go_sem] List.map_append List.length_append List.replicate_succ List.replicate_zero List.flatten_cons List.flatten_nil Nat.zero_mul Nat.one_mul Nat.mul_one List.singleton_append List.take_succ_cons List.cons_append
attribute [go_sem] int_nonneg Int.toNat_natCast List.getElem?_map List.length_map
attribute [go_sem] keepP keepH keepA keepC keepA1 freshA wkCells
section texts
variable {P : Program} {T : TypeId} {a : List UInt8}
theorem W_slcS {x : PV} {lo hi : Option PV} {l h : Nat} {K : PV → Prop} (hT : P.underlying T = some .string) (hx : x = .c (.d (.lit (.string ⟨a.toArray⟩)))) (hl : optNat lo 0 = some l) (hh : optNat hi a.length = some h) (h1 : l ≤ h) (h2 : h ≤ a.length)
    (hK : Todo (K (.c (.d (.lit (.string ⟨((a.drop l).take (h - l)).toArray⟩)))))) : slcV P T x lo hi none K := by
  subst hx
  unfold slcV
  rw [hT]
  simp only [strOf?, Opt, hl, size_str, hh]
  exact ⟨rfl, ⟨h1, h2⟩, by rw [lit, extract_str]; exact hK⟩
theorem W_bytes {E : Env} {t : Nat} {st dt : TypeId} {l : List UInt8} {A : AMap} {K : PV → AMap → Prop} (h1 : isStr E.P st = true) (h2 : isBytes E.P dt = true) (hmd : E.md.contains t = false) (hA : A (E.off + t, 0) = none)
    (hK : Todo (K (.c (.own (E.off + t, 0) (bytesEls l))) (upd A (E.off + t, 0) (some (.co 1 l.length))))) : bytV E (some t) st dt (.c (.d (.lit (.string ⟨l.toArray⟩)))) A K := by
  refine ⟨⟨h1, h2⟩, ?_⟩
  show A (E.off + t, 0) = none ∧ _
  refine ⟨hA, ?_⟩
  rw [size_str, hmd]
  exact hK
theorem W_bytesm {E : Env} {t : Nat} {st dt : TypeId} {l : List UInt8} {A : AMap} {K : PV → AMap → Prop} (h1 : isStr E.P st = true) (h2 : isBytes E.P dt = true) (hmd : E.md.contains t = true) (hA : A (E.off + t, 0) = none)
    (hK : Todo (K (.c (.mt (E.off + t, 0) 1 l.length)) (upd A (E.off + t, 0) (some (.mu 1 (bytesEls l)))))) : bytV E (some t) st dt (.c (.d (.lit (.string ⟨l.toArray⟩)))) A K := by
  refine ⟨⟨h1, h2⟩, ?_⟩
  show A (E.off + t, 0) = none ∧ _
  refine ⟨hA, ?_⟩
  rw [size_str, hmd]
  exact hK
theorem convA_of {P : Program} {A : AMap} {s d : TypeId} {κ : Tok} {n : Nat} {l : List UInt8} (hs : isBytes P s = true) (hd : P.underlying d = some .string) (hn : n = l.length) (hA : A κ = some (.mu 1 (bytesEls l))) : convA P A s d (.c (.mt κ 1 n)) = some (.c (.d (.lit (.string ⟨l.toArray⟩)))) := by
  unfold convA
  rw [hd]
  simp only [hs, if_true]
  show (match A κ with | some (.mu sz' els) => if sz' = 1 ∧ 1 = 1 ∧ n = els.length then some els else none | _ => none).bind _ = _
  rw [hA]
  simp only
  rw [if_pos ⟨trivial, trivial, by rw [bytesEls_length]; exact hn⟩, Option.bind_some, elsBytes_bytes]
  rfl
theorem lenM_of {P : Program} {A : AMap} {t kt e : TypeId} {κ : Tok} {m : List (Value × Value)} (ht : P.underlying t = some (.map kt e)) (hA : A κ = some (.mp m)) : lenM P A [t] [.c (.mpr κ)] = some (.c (.d (.lit (.int .i64 m.length)))) := by
  unfold lenM
  simp only [ht, mapOf_mpr hA]
  rfl
end texts
section rng
variable {E : Env} {d : Option Nat} {T kt e : TypeId} {κ : Tok} {m left : List (Value × Value)} {cur : Option (Value × Value)} {bi : Nat} {A : AMap} {K : PV → AMap → Prop}
theorem W_rngM (hT : E.P.underlying T = some (.map kt e)) (hA : A κ = some (.mp m)) (hK : ∀ bi, Todo (K (.c (.itr κ bi)) (upd A κ (some (.mpi m none m bi))))) : rngV E d T (.c (.mpr κ)) A K := by
  unfold rngV
  simp only [hT, hA]
  exact hK
theorem W_nxtM (hA : A κ = some (.mpi m cur left bi)) (h0 : left = [] → Todo (K (.tup [.c (.d (.lit (.bool false)))]) (upd A κ (some (.mp m)))))
    (h1 : ∀ (i : Nat) (p : Value × Value), left[i]? = some p → Todo (K (.tup [.c (.d (.lit (.bool true))), .c (.d (.lit p.1)), .c (.d (.lit p.2))]) (upd A κ (some (.mpi m (some p) (left.eraseIdx i) bi))))) : nxtV (.c (.itr κ bi)) false A K := by
  unfold nxtV
  simp only [hA]
  exact ⟨trivial, h0, h1⟩
theorem W_entM {p : Value × Value} {K : PV → Prop} (hA : A κ = some (.mpi m (some p) left bi)) (hK : Todo (K (.tup [.c (.d (.lit p.1)), .c (.d (.lit p.2))]))) : entV (.c (.itr κ bi)) A K := by
  unfold entV
  simp only [hA]
  exact ⟨trivial, hK⟩
theorem wkP_itr {H' : HMap} {A A' : AMap} {κ : Tok} {bi : Nat} (h : A' κ ≠ none) (e : A' κ = A κ) : PV.wk H' A A' (.c (.itr κ bi)) (.c (.itr κ bi)) := wk_c (.inr (.inl ⟨rfl, h, e⟩))
theorem wkC_perm {H' : HMap} {A A' : AMap} {κ : Tok} (h : permA (A κ) (A' κ)) : CV.wk H' A A' (.mpr κ) (.mpr κ) := .inr (.inr (.inr (.inr (.inr ⟨κ, rfl, rfl, h⟩))))
theorem Weak_gen2 {H0 : HMap} {A0 : AMap} {S S' : St} {H : HMap} {A : AMap} (hw : ∀ id cs c, H id = some cs → c ∈ cs → CV.ok (fun i => H i ≠ none) (fun κ => A κ ≠ none) c) (hk : ∀ i, H i ≠ none → S'.H i ≠ none) (hb : ∀ id, H id ≠ none → S.H id = H id) (hA : ∀ κ, A κ ≠ none → S'.A κ ≠ none ∧ S'.A κ = S.A κ)
    (hρ : ∀ t, PV.wk S'.H S.A S'.A (S'.ρ t) (S.ρ t)) (hH : ∀ id, S'.H id = none ∨ S'.H id = H id ∨ ∃ cs ds, S'.H id = some cs ∧ S.H id = some ds ∧ cs.length = ds.length ∧ ∀ (k : Nat) (c d : CV), cs[k]? = some c → ds[k]? = some d → CV.wk S'.H S.A S'.A c d)
    (hAA : ∀ κ, S'.A κ = none ∨ S'.A κ = S.A κ ∨ (S.A κ = none ∧ ∃ sz, S'.A κ = some (.co sz 0) ∨ S'.A κ = some (.mu sz [])) ∨ permA (S.A κ) (S'.A κ)) (kH : ∀ id, H0 id ≠ none → S'.H id ≠ none) (kA : ∀ κ, A0 κ ≠ none → S'.A κ ≠ none) : Weak H0 A0 S S' := by
  refine ⟨hρ, fun id => ?_, hAA, kH, kA⟩
  rcases hH id with h | h | h
  · exact .inl h
  · cases hh : H id with
    | none => exact .inl (by rw [h, hh])
    | some cs =>
      refine .inr ⟨cs, cs, by rw [h, hh], by rw [hb id (by rw [hh]; simp), hh], rfl, fun k c d h1 h2 => ?_⟩
      rw [h1] at h2
      cases h2
      have hc := hw id cs c hh (List.mem_of_getElem? h1)
      refine .inr (.inl ⟨rfl, ?_⟩)
      cases c with
      | own κ els => exact hA _ hc
      | mt κ sz n => exact hA _ hc
      | tv κ sz n L => exact hA _ hc
      | mptr κ sz n i o => exact hA _ hc
      | ptr id o => exact hk _ hc
      | fn f caps => exact fun p hp => hk _ (hc p hp)
      | mpr κ => exact hA _ hc
      | sit κ => exact hA _ hc
      | itr κ bi => exact hA _ hc
      | vsl id n => exact hk _ hc
      | bfn f fst caps => exact ⟨fun p hp => hk _ (hc.1 p hp), fun p hp => hk _ (hc.2 p hp)⟩
      | _ => exact True.intro
  · exact .inr h
end rng
end Go.PW

namespace Go.PW
def hOver : List (Nat × List CV) → HMap → HMap
  | [], H, t => H t
  | (u, x) :: r, H, t => if t = u then some x else hOver r H t
def Wf (H : HMap) (A : AMap) : Prop := ∀ id cs c, H id = some cs → c ∈ cs → CV.ok (fun i => H i ≠ none) (fun κ => A κ ≠ none) c
theorem hOver_old {H : HMap} : ∀ {l : List (Nat × List CV)} {t : Nat}, H t ≠ none → hOver l H t ≠ none
  | [], _, h => h
  | (u, x) :: r, t, h => by
    unfold hOver
    split
    · simp
    · exact hOver_old h
theorem ok_mono {hk hk' : Nat → Prop} {tk tk' : Tok → Prop} (h : ∀ i, hk i → hk' i) (h' : ∀ κ, tk κ → tk' κ) {c : CV} (hc : c.ok hk tk) : c.ok hk' tk' := by
  cases c with
  | own κ els => exact h' _ hc
  | mt κ sz n => exact h' _ hc
  | tv κ sz n L => exact h' _ hc
  | mptr κ sz n i o => exact h' _ hc
  | ptr id o => exact h _ hc
  | fn f caps => exact fun p hp => h _ (hc p hp)
  | mpr κ => exact h' _ hc
  | sit κ => exact h' _ hc
  | itr κ bi => exact h' _ hc
  | vsl id n => exact h _ hc
  | bfn f fst caps => exact ⟨fun p hp => h _ (hc.1 p hp), fun p hp => h _ (hc.2 p hp)⟩
  | _ => exact True.intro
theorem hOver_spec {H : HMap} {A : AMap} {S : St} (hw : Wf H A) (hb : ∀ id, H id ≠ none → S.H id = H id) {all : List (Nat × List CV)} : ∀ {l : List (Nat × List CV)}, keepH (hOver all H) A A S.H l → ∀ id, hOver l H id = none ∨ ∃ cs ds, hOver l H id = some cs ∧ S.H id = some ds ∧ cs.length = ds.length ∧
    ∀ (k : Nat) (c d : CV), cs[k]? = some c → ds[k]? = some d → CV.wk (hOver all H) A A c d
  | [], _, t => by
    cases hH : H t with
    | none => exact .inl hH
    | some cs =>
      refine .inr ⟨cs, cs, hH, by rw [hb t (by rw [hH]; simp), hH], rfl, fun k c d h1 h2 => ?_⟩
      rw [h1] at h2
      cases h2
      exact .inr (.inl ⟨rfl, ok_mono (fun i hi => hOver_old hi) (fun κ hκ => ⟨hκ, rfl⟩) (hw t cs c hH (List.mem_of_getElem? h1))⟩)
  | (u, x) :: r, h, t => by
    unfold hOver
    split
    · rename_i e
      subst e
      right
      obtain ⟨h1, _⟩ := h
      cases hH : S.H t with
      | none => rw [hH] at h1; exact h1.elim
      | some ds => rw [hH] at h1; exact ⟨x, ds, rfl, rfl, wkCells_spec h1⟩
    · exact hOver_spec hw hb h.2 t
def over (l : List (Nat × PV)) (h : List (Nat × List CV)) (H : HMap) (A : AMap) : St := ⟨rhoOf l, hOver h H, A⟩
theorem Weak_over {H : HMap} {A : AMap} {S : St} {l : List (Nat × PV)} {h : List (Nat × List CV)} (hw : Wf H A) (hb : ∀ id, H id ≠ none → S.H id = H id) (hA : S.A = A) (h1 : keepP (hOver h H) A A S.ρ l) (h2 : keepH (hOver h H) A A S.H h) : Weak H A S (over l h H A) := by
  refine ⟨fun t => ?_, fun id => ?_, fun κ => .inr (.inl ?_), fun id h => hOver_old h, fun κ h => h⟩
  · rw [hA]; exact keepP_spec h1 t
  · rw [hA]; exact hOver_spec hw hb h2 id
  · show A κ = S.A κ
    rw [hA]
@[go_sem] theorem hOver_nil {H : HMap} {t : Nat} : hOver [] H t = H t := rfl
@[go_sem] theorem hOver_cons {H : HMap} {t u : Nat} {x : List CV} {r : List (Nat × List CV)} : hOver ((u, x) :: r) H t = if t = u then some x else hOver r H t := rfl
@[go_sem] theorem over_eq (l : List (Nat × PV)) (h : List (Nat × List CV)) (H : HMap) (A : AMap) : over l h H A = ⟨rhoOf l, hOver h H, A⟩ := rfl
theorem kp_refl {H : HMap} : ∀ id, H id ≠ none → H id = H id := fun _ _ => rfl
theorem kp_nil {H : HMap} : ∀ id, H id ≠ none → hOver [] H id = H id := fun _ _ => rfl
theorem kp_upd {H G : HMap} {u : Nat} {x : Option (List CV)} (hn : H u = none) (h : ∀ id, H id ≠ none → G id = H id) : ∀ id, H id ≠ none → upd G u x id = H id := fun i hi => by
  rw [upd_apply']
  split
  · rename_i e; subst e; exact absurd hn hi
  · exact h i hi
def CV.isD : CV → Bool
  | .d _ => true
  | .full _ => true
  | _ => false
theorem isD_ok {hk : Nat → Prop} {tk : Tok → Prop} {c : CV} (h : c.isD = true) : c.ok hk tk := by cases c <;> first | exact True.intro | cases h
theorem Wf_upd {H : HMap} {A : AMap} {u : Nat} {cs : List CV} (h : Wf H A) (hc : cs.all CV.isD = true) : Wf (upd H u (some cs)) A := fun id ds c hd hc' => by
  have hk : ∀ i, H i ≠ none → upd H u (some cs) i ≠ none := fun i hi => by
    rw [upd_apply']; split
    · simp
    · exact hi
  rw [upd_apply'] at hd
  split at hd
  · cases hd; exact isD_ok (List.all_eq_true.1 hc c hc')
  · exact ok_mono hk (fun _ h => h) (h id ds c hd hc')
theorem VC_while {E : Env} {H0 : HMap} {A0 : AMap} {c : Code} {Q : Post} {S : St} {ι : Type} (I : ι → Prop) (F : ι → St) (μ : ι → Nat) (i0 : ι) (hi : I i0) (h0 : Weak H0 A0 S (F i0))
    (h : ∀ i, I i → VC E H0 A0 c ⟨fun S' => ∃ j : {i : ι // I i}, Weak H0 A0 S' (F j.1) ∧ μ j.1 < μ i, Q.ret, Q.ext⟩ (F i)) : VC E H0 A0 (.loop c) Q S :=
  ⟨{i : ι // I i}, fun i => F i.1, fun i => μ i.1, ⟨⟨i0, hi⟩, h0⟩, fun i => h i.1 i.2⟩
theorem C_call {P : Program} {effs : List FuncId} {off : Nat} {md st : List Nat} {n : Nat} {f : FuncId} {H H' : HMap} {A A' : AMap} {args args' : List PV} {v : PV} {KK : PV → HMap → AMap → Prop} (he : effs.contains f = true) (h : EffOK P f (off + 1000) H A args' v H' A') (ha : args.map PV.frz = args')
    (hb : Above (off + 1000) H A) (hK : Todo (KK v H' A')) : callV (envOf P effs off md st) n f H A args KK := S_calle he (by rw [ha]; exact h) hb hK
theorem C_quiet {P : Program} {effs : List FuncId} {off : Nat} {md st : List Nat} {n : Nat} {f : FuncId} {H : HMap} {A : AMap} {args args' : List PV} {v : PV} {KK : PV → HMap → AMap → Prop} (he : effs.contains f = false) (hq : effs.contains (2000000 + f) = true) (h : EffOK P f (off + 1000) H A args' v H A) (ha : args.map PV.frz = args')
    (hb : Above (off + 1000) H A) (hK : Todo (KK v H A)) : callV (envOf P effs off md st) n f H A args KK := S_callq he hq (by rw [ha]; exact h) hb hK
theorem C_rquiet {P : Program} {effs : List FuncId} {off : Nat} {md st : List Nat} {n : Nat} {f : FuncId} {H : HMap} {A : AMap} {args args' : List PV} {v : PV} {KK : PV → HMap → AMap → Prop} (he : (effs.contains f || effs.contains (2000000 + f)) = false) (hq : effs.contains (7000000 + f) = true)
    (h : ∀ H2 : HMap, (∀ id, H id ≠ none → H2 id = H id) → (∀ id, off + 1000 ≤ id → H2 id = none) → EffOK P f (off + 1000) H2 A args' v H2 A) (ha : args.map PV.frz = args')
    (hb : Above (off + 1000) H A) (hK : Todo (KK v H A)) : callV (envOf P effs off md st) n f H A args KK := S_callr he hq (by rw [ha]; exact h) hb hK
theorem RetR_of {P : Program} {fn : Func} {H : HMap} {A : AMap} {v : PV} {H' : HMap} {A' : AMap} {S : St} {p : PV} (hp : resPVs P S fn.results.toList = some p) (hv : PV.wk H' S.A A' v p) (hok : v.oks (fun i => H' i ≠ none) (fun κ => A' κ ≠ none)) (hw : Wf H' A')
    (hH : ∀ id cs, H' id = some cs → ∃ ds, S.H id = some ds ∧ wkCells H' S.A A' cs ds) (hA : ∀ κ, A' κ = none ∨ A' κ = S.A κ ∨ (S.A κ = none ∧ ∃ sz, A' κ = some (.co sz 0) ∨ A' κ = some (.mu sz [])) ∨ permA (S.A κ) (A' κ)) (kH : ∀ id, H id ≠ none → H' id ≠ none) (kA : ∀ κ, A κ ≠ none → A' κ ≠ none) : RetR P fn H A v H' A' S := by
  have im_id : ∀ c : CV, c.im (fun i => i) (fun κ => κ) = c := fun c => by cases c <;> simp [CV.im]
  have ims : (CV.im (fun i => i) (fun κ => κ)) = id := funext im_id
  have imt : (TV.im (fun i => i) (fun κ => κ)) = id := funext fun x => by cases x <;> simp [TV.im, ims]
  refine ⟨p, ⟨fun _ => v, H', A'⟩, fun i => i, fun κ => κ, hp, ⟨fun _ => hv, fun id => ?_, hA, kH, kA⟩, ?_, hok, ⟨fun id h => ⟨rfl, kH id h⟩, fun κ h => ⟨rfl, kA κ h⟩, fun _ _ _ _ h => h, fun _ _ _ _ h => h, fun id cs h => ⟨by rw [ims, List.map_id]; exact h, fun c hc => hw id cs c h hc⟩, fun κ ar h => h⟩⟩
  · show H' id = none ∨ ∃ cs ds, H' id = some cs ∧ S.H id = some ds ∧ _
    cases h : H' id with
    | none => exact .inl rfl
    | some cs =>
      obtain ⟨ds, h1, h2⟩ := hH id cs h
      obtain ⟨h3, h4⟩ := wkCells_spec h2
      exact .inr ⟨cs, ds, rfl, h1, h3, h4⟩
  · show v = v.im _ _
    cases v <;> simp [PV.im, ims, imt]
theorem wkC_same {H' : HMap} {A A' : AMap} : ∀ {cs : List CV}, (∀ c ∈ cs, c.ok (fun i => H' i ≠ none) (fun κ => A' κ ≠ none ∧ A' κ = A κ)) → wkCells H' A A' cs cs
  | [], _ => True.intro
  | c :: _, h => ⟨.inr (.inl ⟨rfl, h c List.mem_cons_self⟩), wkC_same fun c hc => h c (List.mem_cons_of_mem _ hc)⟩
theorem RetR_set {P : Program} {fn : Func} {H : HMap} {A : AMap} {v : PV} {S : St} {p : PV} {id : Nat} {cs ds : List CV} {A' : AMap} (hp : resPVs P S fn.results.toList = some p) (hv : PV.wk (upd H id (some cs)) S.A A' v p) (hok : v.oks (fun i => upd H id (some cs) i ≠ none) (fun κ => A' κ ≠ none)) (hw : Wf H A)
    (hid : H id ≠ none) (hS : S.H id = some ds) (hcs : wkCells (upd H id (some cs)) S.A A' cs ds) (hcok : ∀ c ∈ cs, c.ok (fun i => upd H id (some cs) i ≠ none) (fun κ => A' κ ≠ none)) (hH : ∀ i, i ≠ id → H i ≠ none → S.H i = H i)
    (hA : ∀ κ, A' κ = none ∨ A' κ = S.A κ ∨ (S.A κ = none ∧ ∃ sz, A' κ = some (.co sz 0) ∨ A' κ = some (.mu sz [])) ∨ permA (S.A κ) (A' κ)) (kA : ∀ κ, A κ ≠ none → A' κ ≠ none ∧ A' κ = S.A κ) : RetR P fn H A v (upd H id (some cs)) A' S := by
  have hk : ∀ i, H i ≠ none → upd H id (some cs) i ≠ none := fun i hi => by
    rw [upd_apply']; split
    · simp
    · exact hi
  refine RetR_of hp hv hok ?_ ?_ hA hk (fun κ h => (kA κ h).1)
  · intro i es c hi hc
    rw [upd_apply'] at hi
    split at hi
    · cases hi; exact hcok c hc
    · exact ok_mono hk (fun κ h => (kA κ h).1) (hw i es c hi hc)
  · intro i es hi
    rw [upd_apply'] at hi
    split at hi
    · rename_i e
      subst e
      cases hi
      exact ⟨ds, hS, hcs⟩
    · rename_i e
      exact ⟨es, by rw [hH i e (by rw [hi]; simp), hi], wkC_same fun c hc => ok_mono hk (fun κ h => kA κ h) (hw i es c hi hc)⟩
theorem RetR_same {P : Program} {fn : Func} {H : HMap} {A : AMap} {v : PV} {S : St} {p : PV} (hp : resPVs P S fn.results.toList = some p) (hv : PV.wk H S.A A v p) (hok : v.oks (fun i => H i ≠ none) (fun κ => A κ ≠ none)) (hw : Wf H A)
    (hH : ∀ i, H i ≠ none → S.H i = H i) (hA : ∀ κ, A κ ≠ none → S.A κ = A κ) : RetR P fn H A v H A S := by
  refine RetR_of hp hv hok hw (fun i es hi => ⟨es, by rw [hH i (by rw [hi]; simp), hi], wkC_same fun c hc => ok_mono (fun i h => h) (fun κ h => ⟨h, (hA κ h).symm⟩) (hw i es c hi hc)⟩) (fun κ => ?_) (fun _ h => h) (fun _ h => h)
  cases h : A κ with
  | none => exact .inl rfl
  | some ar => exact .inr (.inl (by rw [hA κ (by rw [h]; simp), h]))
end Go.PW
