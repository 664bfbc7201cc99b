/-
  The abstract machine: a step, a region in the order of its text, code; what must be shown of a body ('VC').
-/
import Derived.Test.YtgpmdeembgohdaaPwE
namespace Go.PW

/-- What a call hands back. -/
inductive RT where
  | d (x : D)
  | own (sz : Nat) (els : List (List D))
  | mu (sz : Nat) (els : List (List D))
  | agg (cs : List D)

inductive RV where
  | one (r : RT)
  | tup (rs : List RT)

def RT.tv (κ : Tok) : RT → TV
  | .d x => .c (.d x)
  | .own _ els => .c (.own κ els)
  | .mu sz els => .c (.mt κ sz els.length)
  | .agg cs => .agg (cs.map .d)

def RT.ar : RT → Option Arr
  | .d _ => none
  | .own sz els => some (.co sz els.length)
  | .mu sz els => some (.mu sz els)
  | .agg _ => none

def RV.list : RV → List RT
  | .one r => [r]
  | .tup rs => rs

def RT.tvs (id : Nat) : Nat → List RT → List TV
  | _, [] => []
  | k, r :: rs => r.tv (id, k) :: RT.tvs id (k + 1) rs

def RV.pv (id : Nat) : RV → PV
  | .one r => (r.tv (id, 0)).pv
  | .tup rs => .tup (RT.tvs id 0 rs)

def RT.install (id : Nat) (A : AMap) : Nat → List RT → AMap
  | _, [] => A
  | k, r :: rs => match r.ar with
    | some ar => upd (RT.install id A (k + 1) rs) (id, k) (some ar)
    | none => RT.install id A (k + 1) rs

/-- Nothing from a number on. -/
def Above (n : Nat) (H : HMap) (A : AMap) : Prop := ∀ id, n ≤ id → H id = none ∧ ∀ k, A (id, k) = none

structure Env where
  P : Program
  Γ : FuncId → List PV → RV → Prop
  Γe : FuncId → Nat → HMap → AMap → List PV → PV → HMap → AMap → Prop
  effs : List FuncId
  off : Nat
  md : List Nat
  st : List Nat

def capPV (p : Nat × Nat) : PV := .c (.ptr p.1 p.2)

def callV (E : Env) (d : Nat) (f : FuncId) (H : HMap) (A : AMap) (args : List PV) (K : PV → HMap → AMap → Prop) : Prop :=
  match E.effs.contains f with
  | true => ∃ v H' A', E.Γe f (E.off + 1000) H A (args.map PV.frz) v H' A' ∧ Above (E.off + 1000) H A ∧ K v H' A'
  | false => ∃ r, E.Γ f (args.map PV.frz) r ∧ (∀ k, A (E.off + d, k) = none) ∧ K (r.pv (E.off + d)) H (RT.install (E.off + d) A 0 r.list)

def callvV (E : Env) (H : HMap) (A : AMap) (x : PV) (args : List PV) (K : PV → HMap → AMap → Prop) : Prop :=
  match x with
  | .c (.fn f caps) => ∃ v H' A', E.Γe f (E.off + 1000) H A (args.map PV.frz ++ caps.map capPV) v H' A' ∧ Above (E.off + 1000) H A ∧ K v H' A'
  | _ => False

def boxS (x : PV) : Option (List CV) := (cellsP x).bind fun cs => if cs.all CV.known = true then some cs else none

def pureV (P : Program) (rop : ROp) (K : PV → Prop) : Prop :=
  match rop with
  | .slc T x lo hi mx => slcV P T x lo hi mx K
  | rop => Opt (pureS P rop) K

def appC (E : Env) (d : Option Nat) (H : HMap) (A : AMap) (ats : List TypeId) (args : List PV) (K : PV → HMap → AMap → Prop) : Prop :=
  match args with
  | [x, y] => Opt d fun d => appV E.P E.md E.off d A ats x y fun v A' => K v H A'
  | _ => False

/-- One operation. 'fb': none: in the order of the text; else the new variables of a region that draws its order. -/
def StepV (E : Env) (fb : Option (List Nat)) (d : Option Nat) (rop : ROp) (H : HMap) (A : AMap) (K : PV → HMap → AMap → Prop) : Prop :=
  match rop with
  | .alloc T => Opt d fun d => Opt (zeroOf E.P T) fun z => H (E.off + d) = none ∧ K (.c (.ptr (E.off + d) 0)) (upd H (E.off + d) (some z)) A
  | .box _ x => Opt d fun d => Opt (boxS x) fun z => H (E.off + d) = none ∧ K (.c (.ptr (E.off + d) 0)) (upd H (E.off + d) (some z)) A
  | .load T a => Opt (loadS E.P fb H A T a) fun v => K v H A
  | .store T a x => 0 < E.P.cellsOf T ∧ Opt (storeS E.P fb H A T a x) fun m => K (.c .skip) m.1 m.2
  | .call f args => callV E (d.getD 0) f H A args K
  | .callv x args => callvV E H A x args K
  | .blt .append ats _ args => appC E d H A ats args K
  | rop => pureV E.P rop fun v => K v H A

theorem Opt.mono {α : Type} {x : Option α} {K K' : α → Prop} (h : ∀ a, K a → K' a) (hh : Opt x K) : Opt x K' := by
  cases x with
  | none => exact hh
  | some a => exact h _ hh

theorem Opt.iff {α : Type} {x : Option α} {K : α → Prop} : Opt x K ↔ ∃ a, x = some a ∧ K a := by
  cases x with
  | none => simp [Opt]
  | some a => simp [Opt]

theorem slcM_ex {els : List (List D)} {l h : Nat} {mx : Option PV} {K : PV → Prop} (hh : slcM els l h mx K) : ∃ v, slcM els l h mx (· = v) ∧ K v := by
  unfold slcM at hh ⊢
  split at hh
  · exact ⟨_, rfl, hh⟩
  · obtain ⟨m, hm, he, hK⟩ := Opt.iff.1 hh
    exact ⟨_, Opt.iff.2 ⟨m, hm, he, rfl⟩, hK⟩

theorem pureV_ex {P : Program} {rop : ROp} {K : PV → Prop} (h : pureV P rop K) : ∃ v, pureV P rop (· = v) ∧ K v := by
  unfold pureV at h ⊢
  split at h
  · unfold slcV at h ⊢
    split at h
    · obtain ⟨hn, h⟩ := h
      obtain ⟨s, hs, h⟩ := Opt.iff.1 h
      obtain ⟨l, hl, h⟩ := Opt.iff.1 h
      obtain ⟨e, he, hb, h⟩ := Opt.iff.1 h
      exact ⟨_, ⟨hn, Opt.iff.2 ⟨s, hs, Opt.iff.2 ⟨l, hl, Opt.iff.2 ⟨e, he, hb, rfl⟩⟩⟩⟩, h⟩
    · obtain ⟨hn, h⟩ := h
      obtain ⟨s, hs, h⟩ := Opt.iff.1 h
      obtain ⟨l, hl, h⟩ := Opt.iff.1 h
      obtain ⟨e, he, hb, h⟩ := Opt.iff.1 h
      obtain ⟨v, hv, hK⟩ := slcM_ex h
      exact ⟨v, ⟨hn, Opt.iff.2 ⟨s, hs, Opt.iff.2 ⟨l, hl, Opt.iff.2 ⟨e, he, hb, hv⟩⟩⟩⟩, hK⟩
    · exact h.elim
  · obtain ⟨a, ha, h⟩ := Opt.iff.1 h
    exact ⟨a, Opt.iff.2 ⟨a, ha, rfl⟩, h⟩

theorem appV_ex {P : Program} {md : List Nat} {k d : Nat} {A : AMap} {ats : List TypeId} {x y : PV} {K : PV → AMap → Prop} (h : appV P md k d A ats x y K) :
    ∃ v A', appV P md k d A ats x y (fun v' A'' => v' = v ∧ A'' = A') ∧ K v A' := by
  unfold appV at h ⊢
  split at h
  · split at h
    · obtain ⟨h0, h⟩ := h
      split at h
      · split at h
        · obtain ⟨h1, h⟩ := h
          split at h
          · exact ⟨_, _, ⟨h0, h1, h.1, rfl, rfl⟩, h.2⟩
          · exact ⟨_, _, ⟨h0, h1, rfl, rfl⟩, h⟩
        · exact ⟨_, _, ⟨h0, h.1, rfl, rfl⟩, h.2⟩
        · split at h
          · exact ⟨_, _, ⟨h0, h.1, rfl, rfl⟩, h.2⟩
          · exact h.elim
        · exact h.elim
      · exact h.elim
    · exact h.elim
  · exact h.elim

/-- The step, as a relation. -/
def StepR (E : Env) (fb : Option (List Nat)) (d : Option Nat) (rop : ROp) (H : HMap) (A : AMap) (v : PV) (H' : HMap) (A' : AMap) : Prop :=
  StepV E fb d rop H A fun v' H'' A'' => v' = v ∧ H'' = H' ∧ A'' = A'

theorem StepV_ex {E : Env} {fb : Option (List Nat)} {d : Option Nat} {rop : ROp} {H : HMap} {A : AMap} {K : PV → HMap → AMap → Prop} (h : StepV E fb d rop H A K) :
    ∃ v H' A', StepR E fb d rop H A v H' A' ∧ K v H' A' := by
  unfold StepR
  unfold StepV at h ⊢
  split at h
  · obtain ⟨d, hd, h⟩ := Opt.iff.1 h
    obtain ⟨z, hz, h1, h⟩ := Opt.iff.1 h
    exact ⟨_, _, _, Opt.iff.2 ⟨d, hd, Opt.iff.2 ⟨z, hz, h1, rfl, rfl, rfl⟩⟩, h⟩
  · obtain ⟨d, hd, h⟩ := Opt.iff.1 h
    obtain ⟨z, hz, h1, h⟩ := Opt.iff.1 h
    exact ⟨_, _, _, Opt.iff.2 ⟨d, hd, Opt.iff.2 ⟨z, hz, h1, rfl, rfl, rfl⟩⟩, h⟩
  · obtain ⟨z, hz, h⟩ := Opt.iff.1 h
    exact ⟨_, _, _, Opt.iff.2 ⟨z, hz, rfl, rfl, rfl⟩, h⟩
  · obtain ⟨h0, h⟩ := h
    obtain ⟨z, hz, h⟩ := Opt.iff.1 h
    exact ⟨_, _, _, ⟨h0, Opt.iff.2 ⟨z, hz, rfl, rfl, rfl⟩⟩, h⟩
  · unfold callV at h ⊢
    split at h
    · obtain ⟨v, H', A', h1, h2, h3⟩ := h
      exact ⟨v, H', A', ⟨v, H', A', h1, h2, rfl, rfl, rfl⟩, h3⟩
    · obtain ⟨r, h1, h2, h3⟩ := h
      exact ⟨_, _, _, ⟨r, h1, h2, rfl, rfl, rfl⟩, h3⟩
  · unfold callvV at h ⊢
    split at h
    · obtain ⟨v, H', A', h1, h2, h3⟩ := h
      exact ⟨v, H', A', ⟨v, H', A', h1, h2, rfl, rfl, rfl⟩, h3⟩
    · exact h.elim
  · unfold appC at h ⊢
    split at h
    · obtain ⟨d, hd, h⟩ := Opt.iff.1 h
      obtain ⟨v, A', h1, h2⟩ := appV_ex h
      refine ⟨v, H, A', Opt.iff.2 ⟨d, hd, ?_⟩, h2⟩
      have e : (fun v' A'' => v' = v ∧ A'' = A') = (fun v' A'' => v' = v ∧ H = H ∧ A'' = A') := by funext; simp
      rw [← e]
      exact h1
    · exact h.elim
  · obtain ⟨v, h1, h2⟩ := pureV_ex h
    refine ⟨v, H, A, ?_, h2⟩
    have e : (fun v' => v' = v) = (fun v' => v' = v ∧ H = H ∧ A = A) := by funext; simp
    rw [← e]
    exact h1

/-! Regions. -/
def put (ρ : Nat → PV) (d : Option Nat) (v : PV) : Nat → PV :=
  match d with
  | some d => upd ρ d v
  | none => ρ

def gOf (want : Bool) : PV → Option Bool
  | .c (.d (.lit (.bool b))) => some (b == want)
  | .c .skip => some false
  | _ => none

def guardA (ops : Array Oper) (ρ : Nat → PV) (g : Option (Nat × Bool)) : Option Bool :=
  match g with
  | none => some true
  | some (j, want) => match (ops[j]?).bind (·.dst) with
    | none => some false
    | some t => gOf want (ρ t)

def RunV (E : Env) (fb : Option (List Nat)) (ops : Array Oper) : List Oper → St → (St → Prop) → Prop
  | [], S, K => K S
  | o :: r, S, K => Opt (guardA ops S.ρ o.guard) fun g =>
      (g = true → StepV E fb o.dst (res (ev S.ρ) o.type o.op) S.H S.A fun v H A => RunV E fb ops r ⟨put S.ρ o.dst v, H, A⟩ K) ∧
      (g = false → RunV E fb ops r ⟨put S.ρ o.dst (.c .skip), S.H, S.A⟩ K)

def newId (off : Nat) (o : Oper) : Option Nat :=
  match o.op, o.dst with
  | .alloc _, some d => some (off + d)
  | .box _ _, some d => some (off + d)
  | _, _ => none

def fbOf (E : Env) (id : Nat) (ops : Array Oper) (draw : Bool) : Option (List Nat) :=
  match draw with
  | false => none
  | true => match E.st.contains id with
    | true => none
    | false => some (ops.toList.filterMap (newId E.off))

structure Post where
  nrm : St → Prop
  ret : St → Prop
  ext : Nat → St → Prop

/-! From one state to one that says less. -/
def CV.ok (hk : Nat → Prop) (tk : Tok → Prop) : CV → Prop
  | .own κ _ => tk κ
  | .mt κ _ _ => tk κ
  | .mptr κ _ _ _ _ => tk κ
  | .ptr id _ => hk id
  | .fn _ caps => ∀ p ∈ caps, hk p.1
  | _ => True

/-- 'new' says no more than 'old'. 'A': the tokens as they were; 'A'': as they are. -/
def CV.wk (H' : HMap) (A A' : AMap) (new old : CV) : Prop :=
  new = .any ∨
  (new = old ∧ new.ok (fun id => H' id ≠ none) (fun κ => A' κ ≠ none ∧ A' κ = A κ)) ∨
  (∃ els, new = .d (.sl els) ∧ (old = .full els ∨ ∃ κ, old = .own κ els)) ∨
  (old = .full [] ∧ ∃ κ sz, new = .own κ [] ∧ A κ = none ∧ A' κ = some (.co sz 0)) ∨
  (old = .full [] ∧ ∃ κ sz, new = .mt κ sz 0 ∧ A κ = none ∧ A' κ = some (.mu sz []))

def TV.wk (H' : HMap) (A A' : AMap) : TV → TV → Prop
  | .c x, .c y => CV.wk H' A A' x y
  | .agg cs, .agg ds => cs.length = ds.length ∧ ∀ (k : Nat) (c d : CV), cs[k]? = some c → ds[k]? = some d → CV.wk H' A A' c d
  | _, _ => False

def PV.wk (H' : HMap) (A A' : AMap) : PV → PV → Prop
  | .c .any, _ => True
  | .c x, .c y => CV.wk H' A A' x y
  | .agg cs, .agg ds => cs.length = ds.length ∧ ∀ (k : Nat) (c d : CV), cs[k]? = some c → ds[k]? = some d → CV.wk H' A A' c d
  | _, _ => False

/-- 'S'' says no more than 'S'; what the caller has (H0, A0) stays. -/
structure Weak (H0 : HMap) (A0 : AMap) (S S' : St) : Prop where
  ρ : ∀ t, PV.wk S'.H S.A S'.A (S'.ρ t) (S.ρ t)
  H : ∀ id, S'.H id = none ∨ ∃ cs ds, S'.H id = some cs ∧ S.H id = some ds ∧ cs.length = ds.length ∧ ∀ (k : Nat) (c d : CV), cs[k]? = some c → ds[k]? = some d → CV.wk S'.H S.A S'.A c d
  A : ∀ κ, S'.A κ = none ∨ S'.A κ = S.A κ ∨ (S.A κ = none ∧ ∃ sz, S'.A κ = some (.co sz 0) ∨ S'.A κ = some (.mu sz []))
  kH : ∀ id, H0 id ≠ none → S'.H id ≠ none
  kA : ∀ κ, A0 κ ≠ none → S'.A κ ≠ none

def VC (E : Env) (H0 : HMap) (A0 : AMap) : Code → Post → St → Prop
  | .skip, Q, S => Q.nrm S
  | .region id ops draw, Q, S => RunV E (fbOf E id ops draw) ops ops.toList S Q.nrm
  | .seq a b, Q, S => VC E H0 A0 a { Q with nrm := VC E H0 A0 b Q } S
  | .cond c x y, Q, S => Opt (boolOf? (ev S.ρ c)) fun b => (b = true → VC E H0 A0 x Q S) ∧ (b = false → VC E H0 A0 y Q S)
  | .block id c, Q, S => VC E H0 A0 c { Q with ext := fun j S' => if j = id then Q.nrm S' else Q.ext j S' } S
  | .loop c, Q, S => ∃ (ι : Type) (F : ι → St) (μ : ι → Nat), (∃ i, Weak H0 A0 S (F i)) ∧ ∀ i, VC E H0 A0 c { Q with nrm := fun S' => ∃ j, Weak H0 A0 S' (F j) ∧ μ j < μ i } (F i)
  | .exit id, Q, S => Q.ext id S
  | .label _, Q, S => Q.nrm S
  | .scope c, Q, S => VC E H0 A0 c Q S
  | .ret, Q, S => Q.ret S
  | _, _, _ => False

end Go.PW
