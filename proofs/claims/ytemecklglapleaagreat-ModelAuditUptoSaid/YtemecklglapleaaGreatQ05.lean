/-
  Parts of the proof, laid together: PwF.
-/
import Derived.Test.YtemecklglapleaaGreatQ04

namespace Go.PW
inductive RT where
 | d (x : D)
 | own (sz : Nat) (els : List (List D))
 | mu (sz : Nat) (els : List (List D))
 | agg (cs : List D)
inductive RV where
 | one (r : RT)
 | tup (rs : List RT)
def RT.tv (κ : Tok) : RT → TV
 | .d x => .c (.d x)
 | .own _ els => .c (.own κ els)
 | .mu sz els => .c (.mt κ sz els.length)
 | .agg cs => .agg (cs.map .d)
def RT.ar : RT → Option Arr
 | .d _ => none
 | .own sz els => some (.co sz els.length)
 | .mu sz els => some (.mu sz els)
 | .agg _ => none
def RV.list : RV → List RT
 | .one r => [r]
 | .tup rs => rs
def RT.plain : RT → Bool
 | .d _ => true
 | .agg _ => true
 | _ => false
def RV.plain (r : RV) : Bool := r.list.all RT.plain
def RT.tvs (id : Nat) : Nat → List RT → List TV
 | _, [] => []
 | k, r :: rs => r.tv (id, k) :: RT.tvs id (k + 1) rs
def RV.pv (id : Nat) : RV → PV
 | .one r => (r.tv (id, 0)).pv
 | .tup rs => .tup (RT.tvs id 0 rs)
def RT.install (id : Nat) (A : AMap) : Nat → List RT → AMap
 | _, [] => A
 | k, r :: rs => match r.ar with
   | some ar => upd (RT.install id A (k + 1) rs) (id, k) (some ar)
   | none => RT.install id A (k + 1) rs
def Above (n : Nat) (H : HMap) (A : AMap) : Prop := ∀ id, n ≤ id → H id = none ∧ ∀ k, A (id, k) = none
structure Env where
 P : Program
 Γ : FuncId → List PV → RV → Prop
 Γe : FuncId → Nat → HMap → AMap → List PV → PV → HMap → AMap → Prop
 effs : List FuncId
 off : Nat
 md : List Nat
 st : List Nat
 Γs : FuncId → Nat → HMap → AMap → List PV → (PV → HMap → AMap → Prop) → Prop
def z60 (p : Nat × Nat) : PV := .c (.ptr p.1 p.2)
def zxm (E : Env) (d : Nat) (f : FuncId) (H : HMap) (A : AMap) (args : List PV) (K : PV → HMap → AMap → Prop) : Prop :=
 match E.effs.contains f with
 | true => ∃ v H' A', E.Γe f (E.off + 1000) H A (args.map PV.frz) v H' A' ∧ Above (E.off + 1000) H A ∧ K v H' A'
 | false => match E.effs.contains (2000000 + f) with
   | true => ∃ v, E.Γe f (E.off + 1000) H A (args.map PV.frz) v H A ∧ Above (E.off + 1000) H A ∧ K v H A
   | false => match E.effs.contains (7000000 + f) with
     | true => ∃ v, (∀ H2 : HMap, (∀ id, H id ≠ none → H2 id = H id) → (∀ id, E.off + 1000 ≤ id → H2 id = none) → E.Γe f (E.off + 1000) H2 A (args.map PV.frz) v H2 A) ∧ Above (E.off + 1000) H A ∧ K v H A
     | false => match E.effs.contains (9000000 + f) with
       | true => ∃ r, E.Γ f (args.map PV.frz) r ∧ r.plain = true ∧ K (r.pv 0) H A
       | false => ∃ r, E.Γ f (args.map PV.frz) r ∧ (∀ k, A (E.off + d, k) = none) ∧ K (r.pv (E.off + d)) H (RT.install (E.off + d) A 0 r.list)
def z3w (E : Env) (H : HMap) (A : AMap) (x : PV) (args : List PV) (K : PV → HMap → AMap → Prop) : Prop :=
 match x with
 | .c (.fn f caps) => ∃ v H' A', E.Γe f (E.off + 1000) H A (args.map PV.frz ++ caps.map z60) v H' A' ∧ Above (E.off + 1000) H A ∧ K v H' A'
 | .c (.bfn f fst caps) => ∃ v H' A', E.Γe f (E.off + 1000) H A (fst.map z60 ++ (args.map PV.frz ++ caps.map z60)) v H' A' ∧ Above (E.off + 1000) H A ∧ K v H' A'
 | .c (.d (.fn f)) => ∃ v H' A', E.Γe f (E.off + 1000) H A (args.map PV.frz) v H' A' ∧ Above (E.off + 1000) H A ∧ K v H' A'
 | _ => False
def boxS (x : PV) : Option (List CV) := (z7n x).bind fun cs => if cs.all CV.known = true then some cs else none
def zj5 (P : Program) (rop : ROp) (K : PV → Prop) : Prop :=
 match rop with
 | .slc T x lo hi mx => slcV P T x lo hi mx K
 | rop => Opt (y4m P rop) K
def strT (P : Program) (t : TypeId) : Bool := match P.underlying t with
 | some .string => true
 | _ => false
def apsV (P : Program) (A : AMap) (ats : List TypeId) (x : PV) (s : ByteArray) (K : PV → AMap → Prop) : Prop :=
 match ats with
 | [t, u] => match P.underlying t with
   | some (.slice e) => (strT P u = true ∧ P.cellsOf e = 1 ∧ zzt P e = true ∧ 0 < P.bytesOf e) ∧ (match x with
     | .c (.mt κ sz n) => match A κ with
       | some (.mu sz' els) => (sz = 1 ∧ sz' = 1 ∧ n = els.length ∧ (els.length + (zzg s.data.toList).length) * P.bytesOf e ≤ 140737488355328) ∧
          K (.c (.mt κ 1 (els ++ zzg s.data.toList).length)) (upd A κ (some (.mu 1 (els ++ zzg s.data.toList))))
       | _ => False
     | _ => False)
   | _ => False
 | _ => False
def appW (P : Program) (md : List Nat) (k d : Nat) (A : AMap) (ats : List TypeId) (x y : PV) (K : PV → AMap → Prop) : Prop := match strOf? y with
 | some s => apsV P A ats x s K
 | none => appV P md k d A ats x y K
def cpyV (P : Program) (A : AMap) (ats : List TypeId) (x y : PV) (K : PV → AMap → Prop) : Prop :=
 match ats with
 | t :: _ => match P.underlying t with
   | some (.slice e) => match x with
     | .c (.mt κ sz n) => match A κ with
       | some (.mu sz' els) => match zqc y with
         | some ys => (sz = P.cellsOf e ∧ sz' = sz ∧ n = els.length ∧ Szd sz ys ∧ ys.length ≤ els.length ∧ 0 < P.cellsOf e) ∧ K (lit (.int .i64 ys.length)) (upd A κ (some (.mu sz (ys ++ els.drop ys.length))))
         | none => False
       | _ => False
     | _ => False
   | _ => False
 | _ => False
def cpyC (E : Env) (H : HMap) (A : AMap) (ats : List TypeId) (args : List PV) (K : PV → HMap → AMap → Prop) : Prop :=
 match args with
 | [x, y] => cpyV E.P A ats x y fun v A' => K v H A'
 | _ => False
def mks0 (P : Program) (T : TypeId) (l c : PV) : Bool := match P.underlying T with
 | some (.slice e) => match natOf? l with
   | some 0 => match natOf? c with
     | some n => (zzm P e).isSome && decide (n * P.cellsOf e ≤ 16777216 ∧ 0 < P.cellsOf e ∧ 0 < n ∧ n * P.bytesOf e ≤ 16777216)
     | none => false
   | _ => false
 | _ => false
def elsM (P : Program) (T : TypeId) (l c : PV) : Option (List (List D)) := match mks0 P T l c with
 | true => some []
 | false => elsF (mksS P T l c)
def appC (E : Env) (d : Option Nat) (H : HMap) (A : AMap) (ats : List TypeId) (args : List PV) (K : PV → HMap → AMap → Prop) : Prop :=
 match args with
 | [x, y] => Opt d fun d => appW E.P E.md E.off d A ats x y fun v A' => K v H A'
 | _ => False
def apdC (E : Env) (H : HMap) (A : AMap) (ats : List TypeId) (args : List PV) (K : PV → HMap → AMap → Prop) : Prop :=
 match args with
 | [x, y] => apdV E.P A ats x y fun v A' => K v H A'
 | _ => False
def yvk (P : Program) (t : TypeId) : Bool := match P.underlying t with
 | some .string => true
 | _ => false
def bytV (E : Env) (d : Option Nat) (st dt : TypeId) (x : PV) (A : AMap) (K : PV → AMap → Prop) : Prop :=
 (yvk E.P st = true ∧ zj1 E.P dt = true) ∧ Opt d fun d => Opt (strOf? x) fun s => A (E.off + d, 0) = none ∧ (match E.md.contains d with
   | true => K (.c (.mt (E.off + d, 0) 1 s.size)) (upd A (E.off + d, 0) (some (.mu 1 (zzg s.data.toList))))
   | false => K (.c (.own (E.off + d, 0) (zzg s.data.toList))) (upd A (E.off + d, 0) (some (.co 1 s.size))))
def delC (E : Env) (H : HMap) (A : AMap) (ats : List TypeId) (args : List PV) (K : PV → HMap → AMap → Prop) : Prop :=
 match ats, args with
 | t :: _, [x, k] => Opt (y1o E.P A t x k) fun A' => K (.c .any) H A'
 | _, _ => False
def zj2 (effs : List FuncId) (d : TypeId) : Bool := effs.contains (1000000 + d)
def zkr (effs : List FuncId) (s : TypeId) : Bool := effs.contains (3000000 + s)
def z5v (effs : List FuncId) (T : TypeId) : Bool := effs.contains (4000000 + T)
def zva (effs : List FuncId) : List TypeId → Bool
 | [t] => effs.contains (5000000 + t)
 | _ => false
def z64 (effs : List FuncId) (T : TypeId) : Bool := effs.contains (6000000 + T)
def z1d (effs : List FuncId) (T : TypeId) : Bool := effs.contains (8000000 + T)
def z1f (effs : List FuncId) : List TypeId → Bool
 | [t, _] => effs.contains (10000000 + t)
 | _ => false
def yz2 (effs : List FuncId) (T : TypeId) : Bool := effs.contains (11000000 + T)
def mksV (E : Env) (d : Option Nat) (T : TypeId) (l c : PV) (A : AMap) (K : PV → AMap → Prop) : Prop :=
 Opt d fun d => Opt (elsM E.P T l c) fun els => A (E.off + d, 0) = none ∧ K (.c (.mt (E.off + d, 0) (szOf E.P T) els.length)) (upd A (E.off + d, 0) (some (.mu (szOf E.P T) els)))
def bslV (E : Env) (d : Option Nat) (T : TypeId) (n : Nat) (ps : List (Nat × PV)) (H : HMap) (K : PV → HMap → Prop) : Prop :=
 Opt d fun d => Opt (bslC E.P T n ps) fun cs => H (E.off + d) = none ∧ K (.c (.vsl (E.off + d) n)) (upd H (E.off + d) (some cs))
def rngV (E : Env) (d : Option Nat) (T : TypeId) (x : PV) (A : AMap) (K : PV → AMap → Prop) : Prop :=
 match E.P.underlying T with
 | some .string => Opt d fun d => Opt (strOf? x) fun s => A (E.off + d, 0) = none ∧ K (.c (.sit (E.off + d, 0))) (upd A (E.off + d, 0) (some (.si s 0)))
 | some (.map _ _) => (match x with
   | .c (.mpr κ) => (match A κ with
     | some (.mp m) => ∀ bi, K (.c (.itr κ bi)) (upd A κ (some (.mpi m none m bi)))
     | _ => False)
   | .c (.d (.mr p)) => (match A (0, p) with
     | some (.pr q (.mp m)) => q = p ∧ ∀ bi, K (.c (.itr (0, p) bi)) (upd A (0, p) (some (.pr p (.mpi m none m bi))))
     | _ => False)
   | _ => False)
 | _ => False
def nxtV (x : PV) (str : Bool) (A : AMap) (K : PV → AMap → Prop) : Prop :=
 match str with
 | true => (match x with
   | .c (.sit κ) => (match A κ with
     | some (.si s pos) => if pos < s.size then K (.tup [.c (.d (.lit (.bool true))), .c (.d (.lit (.int .i64 (pos : Int)))), .c (.d (.lit (.int .i32 (Utf8.decode s pos).1)))]) (upd A κ (some (.si s (pos + (Utf8.decode s pos).2))))
        else K (.tup [.c (.d (.lit (.bool false)))]) A
     | _ => False)
   | _ => False)
 | false => (match x with
   | .c (.itr κ bi) => (match A κ with
     | some (.mpi m _ left bi') => bi = bi' ∧ (left = [] → K (.tup [.c (.d (.lit (.bool false)))]) (upd A κ (some (.mp m)))) ∧
        ∀ i e, left[i]? = some e → K (.tup [.c (.d (.lit (.bool true))), xwz e.1, e.2.tv]) (upd A κ (some (.mpi m (some e) (left.eraseIdx i) bi)))
     | some (.pr p (.mpi m _ left bi')) => bi = bi' ∧ (left = [] → K (.tup [.c (.d (.lit (.bool false)))]) (upd A κ (some (.pr p (.mp m))))) ∧
        ∀ i e, left[i]? = some e → K (.tup [.c (.d (.lit (.bool true))), xwz e.1, e.2.tv]) (upd A κ (some (.pr p (.mpi m (some e) (left.eraseIdx i) bi))))
     | _ => False)
   | _ => False)
def entV (x : PV) (A : AMap) (K : PV → Prop) : Prop :=
 match x with
 | .c (.itr κ bi) => (match A κ with
   | some (.mpi _ (some e) _ bi') => bi = bi' ∧ K (.tup [xwz e.1, e.2.tv])
   | some (.pr _ (.mpi _ (some e) _ bi')) => bi = bi' ∧ K (.tup [xwz e.1, e.2.tv])
   | _ => False)
 | _ => False
def xwu (effs : List FuncId) (f : FuncId) : Bool := effs.contains (12000000 + f)
def xw5 (E : Env) (f : FuncId) (H : HMap) (A : AMap) (args : List PV) (K : PV → HMap → AMap → Prop) : Prop :=
 ∃ R, E.Γs f (E.off + 1000) H A (args.map PV.frz) R ∧ Above (E.off + 1000) H A ∧ ∀ v H' A', R v H' A' → K v H' A'
def ROp.dem (effs : List FuncId) : ROp → Bool
 | .rng _ _ => true
 | .nxt _ _ => true
 | .call f _ => xwu effs f
 | _ => false
def zqv (E : Env) (fb : Option (List Nat)) (d : Option Nat) (rop : ROp) (H : HMap) (A : AMap) (K : PV → HMap → AMap → Prop) : Prop :=
 match rop with
 | .alloc T => (match z1d E.effs T with
   | true => Opt (zzm E.P T) fun z => objV A z fun v A' => K v H A'
   | false => Opt d fun d => Opt (zzm E.P T) fun z => H (E.off + d) = none ∧ K (.c (.ptr (E.off + d) 0)) (upd H (E.off + d) (some z)) A)
 | .box T x => (match z1d E.effs T with
   | true => Opt (boxS x) fun z => objV A z fun v A' => K v H A'
   | false => Opt d fun d => Opt (boxS x) fun z => H (E.off + d) = none ∧ K (.c (.ptr (E.off + d) 0)) (upd H (E.off + d) (some z)) A)
 | .load T a => Opt (z53 E.P fb H A T a) fun v => K v H A
 | .store T a x => 0 < E.P.cellsOf T ∧ Opt (z0k E.P fb H A T a x) fun m => K (.c .skip) m.1 m.2
 | .call f args => (match xwu E.effs f with
   | true => xw5 E f H A args K
   | false => (match zvm fb with
     | true => zxm E (d.getD 0) f H A args fun v H' A' => (∀ id ∈ yz3 fb, H' id = H id) ∧ K v H' A'
     | false => zxm E (d.getD 0) f H A args K))
 | .callv x args => z3w E H A x args K
 | .blt .append ats _ args => (match z1f E.effs ats with
   | true => apdC E H A ats args K
   | false => appC E d H A ats args K)
 | .blt .delete ats _ args => delC E H A ats args K
 | .blt .copy ats _ args => cpyC E H A ats args K
 | .mmk T => (match yz2 E.effs T with
   | true => newP A (.mp []) fun c A' => K (.c (.d (.mr c))) H A'
   | false => Opt d fun d => A (E.off + d, 0) = none ∧ K (.c (.mpr (E.off + d, 0))) H (upd A (E.off + d, 0) (some (.mp []))))
 | .mlk T x i ok => Opt (y1l E.P A T x i ok) fun v => K v H A
 | .mup T m k v => Opt (mupS E.P A T m k v) fun A' => K (.c .any) H A'
 | .conv s dt x => (match zj2 E.effs dt with
   | true => bytV E d s dt x A fun v A' => K v H A'
   | false => (match zkr E.effs s with
     | true => Opt (z3a E.P A s dt x) fun v => K v H A
     | false => zj5 E.P (.conv s dt x) fun v => K v H A))
 | .mks T l c => (match z5v E.effs T with
   | true => mksV E d T l c A fun v A' => K v H A'
   | false => zj5 E.P (.mks T l c) fun v => K v H A)
 | .bsl T n ps => (match z64 E.effs T with
   | true => bslV E d T n ps H fun v H' => K v H' A
   | false => zj5 E.P (.bsl T n ps) fun v => K v H A)
 | .blt .len ats T args => (match zva E.effs ats with
   | true => Opt (lenM E.P A ats args) fun v => K v H A
   | false => zj5 E.P (.blt .len ats T args) fun v => K v H A)
 | .rng T x => rngV E d T x A fun v A' => K v H A'
 | .nxt x str => nxtV x str A fun v A' => K v H A'
 | .ent x => entV x A fun v => K v H A
 | rop => zj5 E.P rop fun v => K v H A
theorem Opt.iff {α : Type} {x : Option α} {K : α → Prop} : Opt x K ↔ ∃ a, x = some a ∧ K a := by
 cases x with
 | none => simp [Opt]
 | some a => simp [Opt]
theorem y79 {els : List (List D)} {l h : Nat} {mx : Option PV} {K : PV → Prop} (hh : slcM els l h mx K) : ∃ v, slcM els l h mx (· = v) ∧ K v := by
 unfold slcM at hh ⊢
 split at hh
 · exact ⟨_, rfl, hh⟩
 · obtain ⟨m, hm, he, hK⟩ := Opt.iff.1 hh
   exact ⟨_, Opt.iff.2 ⟨m, hm, he, rfl⟩, hK⟩
theorem z9g {P : Program} {rop : ROp} {K : PV → Prop} (h : zj5 P rop K) : ∃ v, zj5 P rop (· = v) ∧ K v := by
 unfold zj5 at h ⊢
 split at h
 · unfold slcV at h ⊢
   split at h
   · obtain ⟨hn, h⟩ := h
     obtain ⟨s, hs, h⟩ := Opt.iff.1 h
     obtain ⟨l, hl, h⟩ := Opt.iff.1 h
     obtain ⟨e, he, hb, h⟩ := Opt.iff.1 h
     exact ⟨_, ⟨hn, Opt.iff.2 ⟨s, hs, Opt.iff.2 ⟨l, hl, Opt.iff.2 ⟨e, he, hb, rfl⟩⟩⟩⟩, h⟩
   · obtain ⟨hn, h⟩ := h
     split at h
     · unfold slcW at h ⊢
       split at h
       · obtain ⟨h1, h⟩ := h
         obtain ⟨m, hm, h2, h⟩ := Opt.iff.1 h
         exact ⟨_, ⟨hn, h1, Opt.iff.2 ⟨m, hm, h2, rfl⟩⟩, h⟩
       · obtain ⟨h1, h⟩ := h
         obtain ⟨l, hl, h⟩ := Opt.iff.1 h
         obtain ⟨m, hm, h2, h⟩ := Opt.iff.1 h
         exact ⟨_, ⟨hn, h1, Opt.iff.2 ⟨l, hl, Opt.iff.2 ⟨m, hm, h2, rfl⟩⟩⟩, h⟩
       · exact h.elim
     · obtain ⟨l, hl, h⟩ := Opt.iff.1 h
       obtain ⟨e, he, hb, h⟩ := Opt.iff.1 h
       obtain ⟨v, hv, hK⟩ := y79 h
       exact ⟨v, ⟨hn, Opt.iff.2 ⟨l, hl, Opt.iff.2 ⟨e, he, hb, hv⟩⟩⟩, hK⟩
   · exact h.elim
 · obtain ⟨a, ha, h⟩ := Opt.iff.1 h
   exact ⟨a, Opt.iff.2 ⟨a, ha, rfl⟩, h⟩
theorem y6m {P : Program} {md : List Nat} {k d : Nat} {A : AMap} {ats : List TypeId} {x y : PV} {K : PV → AMap → Prop} (h : appV P md k d A ats x y K) :
 ∃ v A', appV P md k d A ats x y (fun v' A'' => v' = v ∧ A'' = A') ∧ K v A' := by
 unfold appV at h ⊢
 split at h
 · split at h
   · obtain ⟨h0, h⟩ := h
     split at h
     · split at h
       · obtain ⟨h1, h⟩ := h
         split at h
         · exact ⟨_, _, ⟨h0, h1, h.1, rfl, rfl⟩, h.2⟩
         · exact ⟨_, _, ⟨h0, h1, rfl, rfl⟩, h⟩
       · exact ⟨_, _, ⟨h0, h.1, rfl, rfl⟩, h.2⟩
       · split at h
         · exact ⟨_, _, ⟨h0, h.1, rfl, rfl⟩, h.2⟩
         · exact h.elim
       · unfold appT at h ⊢
         split at h
         · obtain ⟨h1, h⟩ := h
           split at h
           · exact ⟨_, _, ⟨h0, h1, rfl, rfl⟩, h⟩
           · split at h
             · exact ⟨_, _, ⟨h0, h1, rfl, rfl⟩, h⟩
             · exact h.elim
         · exact h.elim
       · exact h.elim
     · exact h.elim
   · exact h.elim
 · exact h.elim
theorem y6o {P : Program} {A : AMap} {ats : List TypeId} {x : PV} {s : ByteArray} {K : PV → AMap → Prop} (h : apsV P A ats x s K) :
 ∃ v A', apsV P A ats x s (fun v' A'' => v' = v ∧ A'' = A') ∧ K v A' := by
 unfold apsV at h ⊢
 split at h
 · split at h
   · obtain ⟨h0, h⟩ := h
     split at h
     · split at h
       · obtain ⟨h1, h⟩ := h
         exact ⟨_, _, ⟨h0, h1, rfl, rfl⟩, h⟩
       · exact h.elim
     · exact h.elim
   · exact h.elim
 · exact h.elim
theorem y0l {P : Program} {A : AMap} {ats : List TypeId} {x y : PV} {K : PV → AMap → Prop} (h : cpyV P A ats x y K) :
 ∃ v A', cpyV P A ats x y (fun v' A'' => v' = v ∧ A'' = A') ∧ K v A' := by
 unfold cpyV at h ⊢
 split at h
 · split at h
   · split at h
     · split at h
       · split at h
         · obtain ⟨h1, h⟩ := h
           exact ⟨_, _, ⟨h1, rfl, rfl⟩, h⟩
         · exact h.elim
       · exact h.elim
     · exact h.elim
   · exact h.elim
 · exact h.elim
theorem yxc {P : Program} {md : List Nat} {k d : Nat} {A : AMap} {ats : List TypeId} {x y : PV} {K : PV → AMap → Prop} (h : appW P md k d A ats x y K) :
 ∃ v A', appW P md k d A ats x y (fun v' A'' => v' = v ∧ A'' = A') ∧ K v A' := by
 unfold appW at h ⊢
 split at h
 · exact y6o h
 · exact y6m h
def zq9 (E : Env) (fb : Option (List Nat)) (d : Option Nat) (rop : ROp) (H : HMap) (A : AMap) (v : PV) (H' : HMap) (A' : AMap) : Prop :=
 zqv E fb d rop H A fun v' H'' A'' => v' = v ∧ H'' = H' ∧ A'' = A'
def yvy (effs : List FuncId) : Op → Bool
 | .range _ _ => true
 | .next _ _ => true
 | .call ⟨.value (.func f), _, _⟩ => xwu effs f
 | _ => false
theorem y70 {effs : List FuncId} {e : Operand → PV} {T : TypeId} {op : Op} : (res e T op).dem effs = yvy effs op := by
 cases op with
 | call c =>
   obtain ⟨callee, args, ats⟩ := c
   cases callee with
   | value x => cases x <;> rfl
   | invoke r m => rfl
   | builtin b => cases b <;> rfl
 | makeFunc fn first caps =>
   show (resF e fn first _).dem effs = false
   unfold resF
   split
   · split <;> rfl
   · rfl
 | makeMap T r => cases r <;> rfl
 | _ => rfl
theorem z8m {E : Env} {d : Nat} {f : FuncId} {H : HMap} {A : AMap} {args : List PV} {K : PV → HMap → AMap → Prop} (h : zxm E d f H A args K) :
 ∃ v H' A', zxm E d f H A args (fun v' H'' A'' => v' = v ∧ H'' = H' ∧ A'' = A') ∧ K v H' A' := by
 unfold zxm at h ⊢
 split at h
 · obtain ⟨v, H', A', h1, h2, h3⟩ := h
   exact ⟨v, H', A', ⟨v, H', A', h1, h2, rfl, rfl, rfl⟩, h3⟩
 · split at h
   · obtain ⟨v, h1, h2, h3⟩ := h
     exact ⟨v, H, A, ⟨v, h1, h2, rfl, rfl, rfl⟩, h3⟩
   · split at h
     · obtain ⟨v, h1, h2, h3⟩ := h
       exact ⟨v, H, A, ⟨v, h1, h2, rfl, rfl, rfl⟩, h3⟩
     · split at h
       · obtain ⟨r, h1, h2, h3⟩ := h
         exact ⟨_, _, _, ⟨r, h1, h2, rfl, rfl, rfl⟩, h3⟩
       · obtain ⟨r, h1, h2, h3⟩ := h
         exact ⟨_, _, _, ⟨r, h1, h2, rfl, rfl, rfl⟩, h3⟩
theorem z27 {E : Env} {d : Nat} {f : FuncId} {H : HMap} {A : AMap} {args : List PV} {K K' : PV → HMap → AMap → Prop} (hk : ∀ v H A, K v H A → K' v H A) (h : zxm E d f H A args K) : zxm E d f H A args K' := by
 unfold zxm at h ⊢
 split at h
 · obtain ⟨v, H', A', h1, h2, h3⟩ := h
   exact ⟨v, H', A', h1, h2, hk _ _ _ h3⟩
 · split at h
   · obtain ⟨v, h1, h2, h3⟩ := h
     exact ⟨v, h1, h2, hk _ _ _ h3⟩
   · split at h
     · obtain ⟨v, h1, h2, h3⟩ := h
       exact ⟨v, h1, h2, hk _ _ _ h3⟩
     · split at h
       · obtain ⟨r, h1, h2, h3⟩ := h
         exact ⟨r, h1, h2, hk _ _ _ h3⟩
       · obtain ⟨r, h1, h2, h3⟩ := h
         exact ⟨r, h1, h2, hk _ _ _ h3⟩
theorem zwb {E : Env} {fb : Option (List Nat)} {d : Option Nat} {f : FuncId} {args : List PV} {H H' : HMap} {A A' : AMap} {v : PV} (hs : xwu E.effs f = false) (h : zq9 E fb d (.call f args) H A v H' A') :
 zxm E (d.getD 0) f H A args (fun v' H'' A'' => v' = v ∧ H'' = H' ∧ A'' = A') ∧ (zvm fb = true → ∀ id ∈ yz3 fb, H' id = H id) := by
 unfold zq9 zqv at h
 simp only [hs] at h
 split at h
 · rename_i hk
   refine ⟨z27 (fun _ _ _ e => e.2) h, fun _ => ?_⟩
   obtain ⟨v1, H1, A1, _, h2, rfl, rfl, rfl⟩ := z8m h
   exact h2
 · rename_i hk
   exact ⟨h, fun e => by rw [hk] at e; cases e⟩
theorem z5g {E : Env} {fb : Option (List Nat)} {d : Option Nat} {f : FuncId} {args : List PV} {H H' : HMap} {A A' : AMap} {v : PV} (hs : xwu E.effs f = false) (h : zxm E (d.getD 0) f H A args (fun v' H'' A'' => v' = v ∧ H'' = H' ∧ A'' = A')) (hk : zvm fb = true → ∀ id ∈ yz3 fb, H' id = H id) :
 zq9 E fb d (.call f args) H A v H' A' := by
 unfold zq9 zqv
 simp only [hs]
 split
 · rename_i e
   exact z27 (fun _ _ _ q => ⟨by obtain ⟨_, rfl, _⟩ := q; exact hk e, q⟩) h
 · exact h
theorem yxz {A : AMap} {ar : Arr} {K : Nat → AMap → Prop} (h : newP A ar K) : ∃ c A', newP A ar (fun c' A'' => c' = c ∧ A'' = A') ∧ K c A' := by
 unfold newP at h ⊢
 split at h
 · exact ⟨_, _, ⟨h.1, rfl, rfl⟩, h.2⟩
 · exact h.elim
theorem z57 {A : AMap} {ar : Arr} {K K' : Nat → AMap → Prop} (hk : ∀ c A, K c A → K' c A) (h : newP A ar K) : newP A ar K' := by
 unfold newP at h ⊢
 split at h
 · exact ⟨h.1, hk _ _ h.2⟩
 · exact h.elim
theorem y1w {A : AMap} {cs : List CV} {K : PV → AMap → Prop} (h : objV A cs K) : ∃ v A', objV A cs (fun v' A'' => v' = v ∧ A'' = A') ∧ K v A' := by
 unfold objV at h ⊢
 obtain ⟨ds, hd, h⟩ := Opt.iff.1 h
 obtain ⟨c, A', h1, h2⟩ := yxz h
 exact ⟨_, A', Opt.iff.2 ⟨ds, hd, z57 (fun c A e => by obtain ⟨rfl, rfl⟩ := e; exact ⟨rfl, rfl⟩) h1⟩, h2⟩
theorem yw0 {P : Program} {A : AMap} {ats : List TypeId} {x y : PV} {K : PV → AMap → Prop} (h : apdV P A ats x y K) : ∃ v A', apdV P A ats x y (fun v' A'' => v' = v ∧ A'' = A') ∧ K v A' := by
 unfold apdV at h ⊢
 split at h
 · split at h
   · obtain ⟨h0, h⟩ := h
     obtain ⟨a, ha, h⟩ := Opt.iff.1 h
     obtain ⟨b, hb, h1, h⟩ := Opt.iff.1 h
     obtain ⟨c, A', h2, h3⟩ := yxz h
     exact ⟨_, A', ⟨h0, Opt.iff.2 ⟨a, ha, Opt.iff.2 ⟨b, hb, h1, z57 (fun c A e => by obtain ⟨rfl, rfl⟩ := e; exact ⟨rfl, rfl⟩) h2⟩⟩⟩, h3⟩
   · exact h.elim
 · exact h.elim
theorem y22 {E : Env} {fb : Option (List Nat)} {d : Option Nat} {rop : ROp} {H : HMap} {A : AMap} {K : PV → HMap → AMap → Prop} (hdem : rop.dem E.effs = false) (h : zqv E fb d rop H A K) :
 ∃ v H' A', zq9 E fb d rop H A v H' A' ∧ K v H' A' := by
 have pure1 : ∀ {rop : ROp}, (zj5 E.P rop fun v => K v H A) → ∃ v H' A', (zj5 E.P rop fun v' => v' = v ∧ H = H' ∧ A = A') ∧ K v H' A' := fun h => by
  obtain ⟨v, h1, h2⟩ := z9g h
  refine ⟨v, H, A, ?_, h2⟩
  have e : (fun v' => v' = v) = (fun v' => v' = v ∧ H = H ∧ A = A) := by funext; simp
  rw [← e]
  exact h1
 unfold zq9
 unfold zqv at h ⊢
 split at h
 · split at h
   · obtain ⟨z, hz, h⟩ := Opt.iff.1 h
     obtain ⟨v, A', h1, h2⟩ := y1w h
     refine ⟨v, H, A', Opt.iff.2 ⟨z, hz, ?_⟩, h2⟩
     have e : (fun v' A'' => v' = v ∧ A'' = A') = (fun v' A'' => v' = v ∧ H = H ∧ A'' = A') := by funext; simp
     rw [← e]
     exact h1
   · obtain ⟨d, hd, h⟩ := Opt.iff.1 h
     obtain ⟨z, hz, h1, h⟩ := Opt.iff.1 h
     exact ⟨_, _, _, Opt.iff.2 ⟨d, hd, Opt.iff.2 ⟨z, hz, h1, rfl, rfl, rfl⟩⟩, h⟩
 · split at h
   · obtain ⟨z, hz, h⟩ := Opt.iff.1 h
     obtain ⟨v, A', h1, h2⟩ := y1w h
     refine ⟨v, H, A', Opt.iff.2 ⟨z, hz, ?_⟩, h2⟩
     have e : (fun v' A'' => v' = v ∧ A'' = A') = (fun v' A'' => v' = v ∧ H = H ∧ A'' = A') := by funext; simp
     rw [← e]
     exact h1
   · obtain ⟨d, hd, h⟩ := Opt.iff.1 h
     obtain ⟨z, hz, h1, h⟩ := Opt.iff.1 h
     exact ⟨_, _, _, Opt.iff.2 ⟨d, hd, Opt.iff.2 ⟨z, hz, h1, rfl, rfl, rfl⟩⟩, h⟩
 · obtain ⟨z, hz, h⟩ := Opt.iff.1 h
   exact ⟨_, _, _, Opt.iff.2 ⟨z, hz, rfl, rfl, rfl⟩, h⟩
 · obtain ⟨h0, h⟩ := h
   obtain ⟨z, hz, h⟩ := Opt.iff.1 h
   exact ⟨_, _, _, ⟨h0, Opt.iff.2 ⟨z, hz, rfl, rfl, rfl⟩⟩, h⟩
 · have hs := hdem
   unfold ROp.dem at hs
   simp only at hs
   simp only [hs] at h ⊢
   split at h
   · obtain ⟨v, H', A', h1, h2, h3⟩ := z8m h
     exact ⟨v, H', A', z27 (fun v1 H1 A1 e => by obtain ⟨rfl, rfl, rfl⟩ := e; exact ⟨h2, rfl, rfl, rfl⟩) h1, h3⟩
   · exact z8m h
 · unfold z3w at h ⊢
   split at h
   · obtain ⟨v, H', A', h1, h2, h3⟩ := h
     exact ⟨v, H', A', ⟨v, H', A', h1, h2, rfl, rfl, rfl⟩, h3⟩
   · obtain ⟨v, H', A', h1, h2, h3⟩ := h
     exact ⟨v, H', A', ⟨v, H', A', h1, h2, rfl, rfl, rfl⟩, h3⟩
   · obtain ⟨v, H', A', h1, h2, h3⟩ := h
     exact ⟨v, H', A', ⟨v, H', A', h1, h2, rfl, rfl, rfl⟩, h3⟩
   · exact h.elim
 · split at h
   · unfold apdC at h ⊢
     split at h
     · obtain ⟨v, A', h1, h2⟩ := yw0 h
       refine ⟨v, H, A', ?_, h2⟩
       have e : (fun v' A'' => v' = v ∧ A'' = A') = (fun v' A'' => v' = v ∧ H = H ∧ A'' = A') := by funext; simp
       rw [← e]
       exact h1
     · exact h.elim
   · unfold appC at h ⊢
     split at h
     · obtain ⟨d, hd, h⟩ := Opt.iff.1 h
       obtain ⟨v, A', h1, h2⟩ := yxc h
       refine ⟨v, H, A', Opt.iff.2 ⟨d, hd, ?_⟩, h2⟩
       have e : (fun v' A'' => v' = v ∧ A'' = A') = (fun v' A'' => v' = v ∧ H = H ∧ A'' = A') := by funext; simp
       rw [← e]
       exact h1
     · exact h.elim
 · unfold delC at h ⊢
   split at h
   · obtain ⟨z, hz, h⟩ := Opt.iff.1 h
     exact ⟨_, _, _, Opt.iff.2 ⟨z, hz, rfl, rfl, rfl⟩, h⟩
   · exact h.elim
 · unfold cpyC at h ⊢
   split at h
   · obtain ⟨v, A', h1, h2⟩ := y0l h
     refine ⟨v, H, A', ?_, h2⟩
     have e : (fun v' A'' => v' = v ∧ A'' = A') = (fun v' A'' => v' = v ∧ H = H ∧ A'' = A') := by funext; simp
     rw [← e]
     exact h1
   · exact h.elim
 · split at h
   · obtain ⟨c, A', h1, h2⟩ := yxz h
     exact ⟨_, H, A', z57 (fun c A e => by obtain ⟨rfl, rfl⟩ := e; exact ⟨rfl, rfl, rfl⟩) h1, h2⟩
   · obtain ⟨d, hd, h1, h⟩ := Opt.iff.1 h
     exact ⟨_, _, _, Opt.iff.2 ⟨d, hd, h1, rfl, rfl, rfl⟩, h⟩
 · obtain ⟨z, hz, h⟩ := Opt.iff.1 h
   exact ⟨_, _, _, Opt.iff.2 ⟨z, hz, rfl, rfl, rfl⟩, h⟩
 · obtain ⟨z, hz, h⟩ := Opt.iff.1 h
   exact ⟨_, _, _, Opt.iff.2 ⟨z, hz, rfl, rfl, rfl⟩, h⟩
 · split at h
   · obtain ⟨h0, h⟩ := h
     obtain ⟨d, hd, h⟩ := Opt.iff.1 h
     obtain ⟨s, hs, h1, h⟩ := Opt.iff.1 h
     split at h
     · rename_i hmd
       refine ⟨_, _, _, ⟨h0, Opt.iff.2 ⟨d, hd, Opt.iff.2 ⟨s, hs, h1, ?_⟩⟩⟩, h⟩
       rw [hmd]
       exact ⟨rfl, rfl, rfl⟩
     · rename_i hmd
       refine ⟨_, _, _, ⟨h0, Opt.iff.2 ⟨d, hd, Opt.iff.2 ⟨s, hs, h1, ?_⟩⟩⟩, h⟩
       rw [hmd]
       exact ⟨rfl, rfl, rfl⟩
   · split at h
     · obtain ⟨z, hz, h⟩ := Opt.iff.1 h
       exact ⟨_, _, _, Opt.iff.2 ⟨z, hz, rfl, rfl, rfl⟩, h⟩
     · exact pure1 h
 · split at h
   · obtain ⟨d, hd, h⟩ := Opt.iff.1 h
     obtain ⟨els, hs, h1, h⟩ := Opt.iff.1 h
     exact ⟨_, _, _, Opt.iff.2 ⟨d, hd, Opt.iff.2 ⟨els, hs, h1, rfl, rfl, rfl⟩⟩, h⟩
   · exact pure1 h
 · split at h
   · obtain ⟨d, hd, h⟩ := Opt.iff.1 h
     obtain ⟨els, hs, h1, h⟩ := Opt.iff.1 h
     exact ⟨_, _, _, Opt.iff.2 ⟨d, hd, Opt.iff.2 ⟨els, hs, h1, rfl, rfl, rfl⟩⟩, h⟩
   · exact pure1 h
 · split at h
   · obtain ⟨z, hz, h⟩ := Opt.iff.1 h
     exact ⟨_, _, _, Opt.iff.2 ⟨z, hz, rfl, rfl, rfl⟩, h⟩
   · exact pure1 h
 · cases hdem
 · cases hdem
 · unfold entV at h ⊢
   split at h
   · split at h
     · exact ⟨_, _, _, ⟨h.1, rfl, rfl, rfl⟩, h.2⟩
     · exact ⟨_, _, _, ⟨h.1, rfl, rfl, rfl⟩, h.2⟩
     · exact h.elim
   · exact h.elim
 · obtain ⟨v, h1, h2⟩ := z9g h
   refine ⟨v, H, A, ?_, h2⟩
   have e : (fun v' => v' = v) = (fun v' => v' = v ∧ H = H ∧ A = A) := by funext; simp
   rw [← e]
   exact h1
def put (ρ : Nat → PV) (d : Option Nat) (v : PV) : Nat → PV :=
 match d with
 | some d => upd ρ d v
 | none => ρ
def gOf (want : Bool) : PV → Option Bool
 | .c (.d (.lit (.bool b))) => some (b == want)
 | .c .skip => some false
 | _ => none
def zww (ops : Array Oper) (ρ : Nat → PV) (g : Option (Nat × Bool)) : Option Bool :=
 match g with
 | none => some true
 | some (j, want) => match (ops[j]?).bind (·.dst) with
   | none => some false
   | some t => gOf want (ρ t)
def RunV (E : Env) (fb : Option (List Nat)) (ops : Array Oper) : List Oper → St → (St → Prop) → Prop
 | [], S, K => K S
 | o :: r, S, K => Opt (zww ops S.ρ o.guard) fun g =>
     (g = true → zqv E fb o.dst (res (ev S.ρ) o.type o.op) S.H S.A fun v H A => RunV E fb ops r ⟨put S.ρ o.dst v, H, A⟩ K) ∧
     (g = false → RunV E fb ops r ⟨put S.ρ o.dst (.c .skip), S.H, S.A⟩ K)
def yxy (off : Nat) (o : Oper) : Option Nat :=
 match o.op, o.dst with
 | .alloc _, some d => some (off + d)
 | .box _ _, some d => some (off + d)
 | _, _ => none
def lwE (id : Nat) : List Nat → Bool
 | [] => false
 | e :: r => if e / 1000 = id + 1 then true else lwE id r
def y1m (off id : Nat) : List Nat → List Nat
 | [] => []
 | e :: r => if e / 1000 = id + 1 then (off + e % 1000) :: y1m off id r else y1m off id r
def mkM : Bool → Nat
 | true => 1
 | false => 0
theorem y4c {b : Bool} {l : List Nat} : lwOf (some (mkM b :: l)) = b := by cases b <;> rfl
theorem yvj {b : Bool} {l : List Nat} : zvm (some (mkM b :: l)) = false := by cases b <;> rfl
theorem yxe {b : Bool} {l : List Nat} {id : Nat} : blocked (some (mkM b :: l)) id = l.contains id := by cases b <;> rfl
def kpE (id : Nat) : List Nat → Bool
 | [] => false
 | e :: r => if e / 1000 = 1001 + id then true else kpE id r
def kpSl (id : Nat) : List Nat → List Nat
 | [] => []
 | e :: r => if e / 1000 = 1001 + id then (e % 1000) :: kpSl id r else kpSl id r
def fbOf (E : Env) (id : Nat) (ops : Array Oper) (draw : Bool) : Option (List Nat) :=
 match draw with
 | false => none
 | true => match E.st.contains id with
   | true => none
   | false => match kpE id E.st with
     | true => some (2 :: (kpSl id E.st).map fun s => E.off + s)
     | false => some (mkM (lwE id E.st) :: (y1m E.off id E.st ++ ops.toList.filterMap (yxy E.off)))
structure Post where
 nrm : St → Prop
 ret : St → Prop
 ext : Nat → St → Prop
def CV.ok (hk : Nat → Prop) (tk : Tok → Prop) : CV → Prop
 | .own κ _ => tk κ
 | .mt κ _ _ => tk κ
 | .tv κ _ _ _ => tk κ
 | .mptr κ _ _ _ _ => tk κ
 | .ptr id _ => hk id
 | .fn _ caps => ∀ p ∈ caps, hk p.1
 | .mpr κ => tk κ
 | .sit κ => tk κ
 | .itr κ _ => tk κ
 | .vsl id _ => hk id
 | .bfn _ fst caps => (∀ p ∈ fst, hk p.1) ∧ ∀ p ∈ caps, hk p.1
 | _ => True
def yqe (old new : Option Arr) : Prop :=
 (∃ m m', new = some (.mp m') ∧ m.Perm m' ∧ (old = some (.mp m) ∨ ∃ c l i, old = some (.mpi m c l i))) ∨
 (∃ p m m', new = some (.pr p (.mp m')) ∧ m.Perm m' ∧ (old = some (.pr p (.mp m)) ∨ ∃ c l i, old = some (.pr p (.mpi m c l i)))) ∨
 (∃ n m, old = some (.cnt n) ∧ new = some (.cnt m) ∧ n ≤ m) ∨ ∃ p ar, old = some (.pr p ar) ∧ new = some .dead
def CV.wk (H' : HMap) (A A' : AMap) (new old : CV) : Prop :=
 new = .any ∨
 (new = old ∧ new.ok (fun id => H' id ≠ none) (fun κ => A' κ ≠ none ∧ A' κ = A κ)) ∨
 (∃ els, new = .d (.sl els) ∧ (old = .full els ∨ ∃ κ, old = .own κ els)) ∨
 (old = .full [] ∧ ∃ κ sz, new = .own κ [] ∧ A κ = none ∧ A' κ = some (.co sz 0)) ∨
 (old = .full [] ∧ ∃ κ sz, (new = .mt κ sz 0 ∨ new = .tv κ sz 0 0) ∧ A κ = none ∧ A' κ = some (.mu sz [])) ∨
 (∃ κ, new = .mpr κ ∧ old = .mpr κ ∧ yqe (A κ) (A' κ))
def TV.wk (H' : HMap) (A A' : AMap) : TV → TV → Prop
 | .c x, .c y => CV.wk H' A A' x y
 | .agg cs, .agg ds => cs.length = ds.length ∧ ∀ (k : Nat) (c d : CV), cs[k]? = some c → ds[k]? = some d → CV.wk H' A A' c d
 | _, _ => False
def PV.wk (H' : HMap) (A A' : AMap) : PV → PV → Prop
 | .c .any, _ => True
 | .c x, .c y => CV.wk H' A A' x y
 | .agg cs, .agg ds => cs.length = ds.length ∧ ∀ (k : Nat) (c d : CV), cs[k]? = some c → ds[k]? = some d → CV.wk H' A A' c d
 | .tup xs, .tup ys => xs.length = ys.length ∧ ∀ (k : Nat) (x y : TV), xs[k]? = some x → ys[k]? = some y → TV.wk H' A A' x y
 | _, _ => False
structure Weak (H0 : HMap) (A0 : AMap) (S S' : St) : Prop where
 ρ : ∀ t, PV.wk S'.H S.A S'.A (S'.ρ t) (S.ρ t)
 H : ∀ id, S'.H id = none ∨ ∃ cs ds, S'.H id = some cs ∧ S.H id = some ds ∧ cs.length = ds.length ∧ ∀ (k : Nat) (c d : CV), cs[k]? = some c → ds[k]? = some d → CV.wk S'.H S.A S'.A c d
 A : ∀ κ, S'.A κ = none ∨ S'.A κ = S.A κ ∨ (S.A κ = none ∧ ∃ sz, S'.A κ = some (.co sz 0) ∨ S'.A κ = some (.mu sz [])) ∨ yqe (S.A κ) (S'.A κ)
 kH : ∀ id, H0 id ≠ none → S'.H id ≠ none
 kA : ∀ κ, A0 κ ≠ none → S'.A κ ≠ none
def VC (E : Env) (H0 : HMap) (A0 : AMap) : Code → Post → St → Prop
 | .skip, Q, S => Q.nrm S
 | .region id ops draw, Q, S => RunV E (fbOf E id ops draw) ops ops.toList S Q.nrm
 | .seq a b, Q, S => VC E H0 A0 a { Q with nrm := VC E H0 A0 b Q } S
 | .cond c x y, Q, S => Opt (boolOf? (ev S.ρ c)) fun b => (b = true → VC E H0 A0 x Q S) ∧ (b = false → VC E H0 A0 y Q S)
 | .block id c, Q, S => VC E H0 A0 c { Q with ext := fun j S' => if j = id then Q.nrm S' else Q.ext j S' } S
 | .loop c, Q, S => ∃ (ι : Type) (F : ι → St) (μ : ι → Nat), (∃ i, Weak H0 A0 S (F i)) ∧ ∀ i, VC E H0 A0 c { Q with nrm := fun S' => ∃ j, Weak H0 A0 S' (F j) ∧ μ j < μ i } (F i)
 | .exit id, Q, S => Q.ext id S
 | .label _, Q, S => Q.nrm S
 | .scope c, Q, S => VC E H0 A0 c Q S
 | .ret, Q, S => Q.ret S
 | _, _, _ => False
end Go.PW
