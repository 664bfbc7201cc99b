/-
  Parts of the proof, laid together: PwF, PwG.
-/
import Derived.Test.YtghlemfokpfngaaQ03

namespace Go.PW
inductive RT where
  | d (x : D)
  | own (sz : Nat) (els : List (List D))
  | mu (sz : Nat) (els : List (List D))
  | agg (cs : List D)
inductive RV where
  | one (r : RT)
  | tup (rs : List RT)
def RT.tv (κ : Tok) : RT → TV
  | .d x => .c (.d x)
  | .own _ els => .c (.own κ els)
  | .mu sz els => .c (.mt κ sz els.length)
  | .agg cs => .agg (cs.map .d)
def RT.ar : RT → Option Arr
  | .d _ => none
  | .own sz els => some (.co sz els.length)
  | .mu sz els => some (.mu sz els)
  | .agg _ => none
def RV.list : RV → List RT
  | .one r => [r]
  | .tup rs => rs
def RT.tvs (id : Nat) : Nat → List RT → List TV
  | _, [] => []
  | k, r :: rs => r.tv (id, k) :: RT.tvs id (k + 1) rs
def RV.pv (id : Nat) : RV → PV
  | .one r => (r.tv (id, 0)).pv
  | .tup rs => .tup (RT.tvs id 0 rs)
def RT.install (id : Nat) (A : AMap) : Nat → List RT → AMap
  | _, [] => A
  | k, r :: rs => match r.ar with
    | some ar => upd (RT.install id A (k + 1) rs) (id, k) (some ar)
    | none => RT.install id A (k + 1) rs
def Above (n : Nat) (H : HMap) (A : AMap) : Prop := ∀ id, n ≤ id → H id = none ∧ ∀ k, A (id, k) = none
structure Env where
  P : Program
  Γ : FuncId → List PV → RV → Prop
  Γe : FuncId → Nat → HMap → AMap → List PV → PV → HMap → AMap → Prop
  effs : List FuncId
  off : Nat
  md : List Nat
  st : List Nat
def capPV (p : Nat × Nat) : PV := .c (.ptr p.1 p.2)
def callV (E : Env) (d : Nat) (f : FuncId) (H : HMap) (A : AMap) (args : List PV) (K : PV → HMap → AMap → Prop) : Prop :=
  match E.effs.contains f with
  | true => ∃ v H' A', E.Γe f (E.off + 1000) H A (args.map PV.frz) v H' A' ∧ Above (E.off + 1000) H A ∧ K v H' A'
  | false => match E.effs.contains (2000000 + f) with
    | true => ∃ v, E.Γe f (E.off + 1000) H A (args.map PV.frz) v H A ∧ Above (E.off + 1000) H A ∧ K v H A
    | false => match E.effs.contains (7000000 + f) with
      | true => ∃ v, (∀ H2 : HMap, (∀ id, H id ≠ none → H2 id = H id) → (∀ id, E.off + 1000 ≤ id → H2 id = none) → E.Γe f (E.off + 1000) H2 A (args.map PV.frz) v H2 A) ∧ Above (E.off + 1000) H A ∧ K v H A
      | false => ∃ r, E.Γ f (args.map PV.frz) r ∧ (∀ k, A (E.off + d, k) = none) ∧ K (r.pv (E.off + d)) H (RT.install (E.off + d) A 0 r.list)
def callvV (E : Env) (H : HMap) (A : AMap) (x : PV) (args : List PV) (K : PV → HMap → AMap → Prop) : Prop :=
  match x with
  | .c (.fn f caps) => ∃ v H' A', E.Γe f (E.off + 1000) H A (args.map PV.frz ++ caps.map capPV) v H' A' ∧ Above (E.off + 1000) H A ∧ K v H' A'
  | .c (.bfn f fst caps) => ∃ v H' A', E.Γe f (E.off + 1000) H A (fst.map capPV ++ (args.map PV.frz ++ caps.map capPV)) v H' A' ∧ Above (E.off + 1000) H A ∧ K v H' A'
  | _ => False
def boxS (x : PV) : Option (List CV) := (cellsP x).bind fun cs => if cs.all CV.known = true then some cs else none
def pureV (P : Program) (rop : ROp) (K : PV → Prop) : Prop :=
  match rop with
  | .slc T x lo hi mx => slcV P T x lo hi mx K
  | rop => Opt (pureS P rop) K
def appC (E : Env) (d : Option Nat) (H : HMap) (A : AMap) (ats : List TypeId) (args : List PV) (K : PV → HMap → AMap → Prop) : Prop :=
  match args with
  | [x, y] => Opt d fun d => appV E.P E.md E.off d A ats x y fun v A' => K v H A'
  | _ => False
def isStr (P : Program) (t : TypeId) : Bool := match P.underlying t with
  | some .string => true
  | _ => false
def bytV (E : Env) (d : Option Nat) (st dt : TypeId) (x : PV) (A : AMap) (K : PV → AMap → Prop) : Prop :=
  (isStr E.P st = true ∧ isBytes E.P dt = true) ∧ Opt d fun d => Opt (strOf? x) fun s => A (E.off + d, 0) = none ∧ (match E.md.contains d with
    | true => K (.c (.mt (E.off + d, 0) 1 s.size)) (upd A (E.off + d, 0) (some (.mu 1 (bytesEls s.data.toList))))
    | false => K (.c (.own (E.off + d, 0) (bytesEls s.data.toList))) (upd A (E.off + d, 0) (some (.co 1 s.size))))
def delC (E : Env) (H : HMap) (A : AMap) (ats : List TypeId) (args : List PV) (K : PV → HMap → AMap → Prop) : Prop :=
  match ats, args with
  | t :: _, [x, k] => Opt (mdelS E.P A t x k) fun A' => K (.c .any) H A'
  | _, _ => False
def isFresh (effs : List FuncId) (d : TypeId) : Bool := effs.contains (1000000 + d)
def isQuiet (effs : List FuncId) (s : TypeId) : Bool := effs.contains (3000000 + s)
def isMut (effs : List FuncId) (T : TypeId) : Bool := effs.contains (4000000 + T)
def isCount (effs : List FuncId) : List TypeId → Bool
  | [t] => effs.contains (5000000 + t)
  | _ => false
def isRow (effs : List FuncId) (T : TypeId) : Bool := effs.contains (6000000 + T)
def mksV (E : Env) (d : Option Nat) (T : TypeId) (l c : PV) (A : AMap) (K : PV → AMap → Prop) : Prop :=
  Opt d fun d => Opt (elsF (mksS E.P T l c)) fun els => A (E.off + d, 0) = none ∧ K (.c (.mt (E.off + d, 0) (szOf E.P T) els.length)) (upd A (E.off + d, 0) (some (.mu (szOf E.P T) els)))
def bslV (E : Env) (d : Option Nat) (T : TypeId) (n : Nat) (ps : List (Nat × PV)) (H : HMap) (K : PV → HMap → Prop) : Prop :=
  Opt d fun d => Opt (bslC E.P T n ps) fun cs => H (E.off + d) = none ∧ K (.c (.vsl (E.off + d) n)) (upd H (E.off + d) (some cs))
def rngV (E : Env) (d : Option Nat) (T : TypeId) (x : PV) (A : AMap) (K : PV → AMap → Prop) : Prop :=
  match E.P.underlying T with
  | some .string => Opt d fun d => Opt (strOf? x) fun s => A (E.off + d, 0) = none ∧ K (.c (.sit (E.off + d, 0))) (upd A (E.off + d, 0) (some (.si s 0)))
  | some (.map _ _) => (match x with
    | .c (.mpr κ) => (match A κ with
      | some (.mp m) => ∀ bi, K (.c (.itr κ bi)) (upd A κ (some (.mpi m none m bi)))
      | _ => False)
    | _ => False)
  | _ => False
def nxtV (x : PV) (str : Bool) (A : AMap) (K : PV → AMap → Prop) : Prop :=
  match str with
  | true => (match x with
    | .c (.sit κ) => (match A κ with
      | some (.si s pos) => if pos < s.size then K (.tup [.c (.d (.lit (.bool true))), .c (.d (.lit (.int .i64 (pos : Int)))), .c (.d (.lit (.int .i32 (Utf8.decode s pos).1)))]) (upd A κ (some (.si s (pos + (Utf8.decode s pos).2))))
          else K (.tup [.c (.d (.lit (.bool false)))]) A
      | _ => False)
    | _ => False)
  | false => (match x with
    | .c (.itr κ bi) => (match A κ with
      | some (.mpi m _ left bi') => bi = bi' ∧ (left = [] → K (.tup [.c (.d (.lit (.bool false)))]) (upd A κ (some (.mp m)))) ∧
          ∀ i e, left[i]? = some e → K (.tup [.c (.d (.lit (.bool true))), .c (.d (.lit e.1)), .c (.d (.lit e.2))]) (upd A κ (some (.mpi m (some e) (left.eraseIdx i) bi)))
      | _ => False)
    | _ => False)
def entV (x : PV) (A : AMap) (K : PV → Prop) : Prop :=
  match x with
  | .c (.itr κ bi) => (match A κ with
    | some (.mpi _ (some e) _ bi') => bi = bi' ∧ K (.tup [.c (.d (.lit e.1)), .c (.d (.lit e.2))])
    | _ => False)
  | _ => False
def ROp.dem : ROp → Bool
  | .rng _ _ => true
  | .nxt _ _ => true
  | _ => false
def StepV (E : Env) (fb : Option (List Nat)) (d : Option Nat) (rop : ROp) (H : HMap) (A : AMap) (K : PV → HMap → AMap → Prop) : Prop :=
  match rop with
  | .alloc T => Opt d fun d => Opt (zeroOf E.P T) fun z => H (E.off + d) = none ∧ K (.c (.ptr (E.off + d) 0)) (upd H (E.off + d) (some z)) A
  | .box _ x => Opt d fun d => Opt (boxS x) fun z => H (E.off + d) = none ∧ K (.c (.ptr (E.off + d) 0)) (upd H (E.off + d) (some z)) A
  | .load T a => Opt (loadS E.P fb H A T a) fun v => K v H A
  | .store T a x => 0 < E.P.cellsOf T ∧ Opt (storeS E.P fb H A T a x) fun m => K (.c .skip) m.1 m.2
  | .call f args => (match isKeep fb with
    | true => callV E (d.getD 0) f H A args fun v H' A' => (∀ id ∈ keepL fb, H' id = H id) ∧ K v H' A'
    | false => callV E (d.getD 0) f H A args K)
  | .callv x args => callvV E H A x args K
  | .blt .append ats _ args => appC E d H A ats args K
  | .blt .delete ats _ args => delC E H A ats args K
  | .mmk _ => Opt d fun d => A (E.off + d, 0) = none ∧ K (.c (.mpr (E.off + d, 0))) H (upd A (E.off + d, 0) (some (.mp [])))
  | .mlk T x i ok => Opt (lookS E.P A T x i ok) fun v => K v H A
  | .mup T m k v => Opt (mupS E.P A T m k v) fun A' => K (.c .any) H A'
  | .conv s dt x => (match isFresh E.effs dt with
    | true => bytV E d s dt x A fun v A' => K v H A'
    | false => (match isQuiet E.effs s with
      | true => Opt (convA E.P A s dt x) fun v => K v H A
      | false => pureV E.P (.conv s dt x) fun v => K v H A))
  | .mks T l c => (match isMut E.effs T with
    | true => mksV E d T l c A fun v A' => K v H A'
    | false => pureV E.P (.mks T l c) fun v => K v H A)
  | .bsl T n ps => (match isRow E.effs T with
    | true => bslV E d T n ps H fun v H' => K v H' A
    | false => pureV E.P (.bsl T n ps) fun v => K v H A)
  | .blt .len ats T args => (match isCount E.effs ats with
    | true => Opt (lenM E.P A ats args) fun v => K v H A
    | false => pureV E.P (.blt .len ats T args) fun v => K v H A)
  | .rng T x => rngV E d T x A fun v A' => K v H A'
  | .nxt x str => nxtV x str A fun v A' => K v H A'
  | .ent x => entV x A fun v => K v H A
  | rop => pureV E.P rop fun v => K v H A
theorem Opt.iff {α : Type} {x : Option α} {K : α → Prop} : Opt x K ↔ ∃ a, x = some a ∧ K a := by
  cases x with
  | none => simp [Opt]
  | some a => simp [Opt]
theorem slcM_ex {els : List (List D)} {l h : Nat} {mx : Option PV} {K : PV → Prop} (hh : slcM els l h mx K) : ∃ v, slcM els l h mx (· = v) ∧ K v := by
  unfold slcM at hh ⊢
  split at hh
  · exact ⟨_, rfl, hh⟩
  · obtain ⟨m, hm, he, hK⟩ := Opt.iff.1 hh
    exact ⟨_, Opt.iff.2 ⟨m, hm, he, rfl⟩, hK⟩
theorem pureV_ex {P : Program} {rop : ROp} {K : PV → Prop} (h : pureV P rop K) : ∃ v, pureV P rop (· = v) ∧ K v := by
  unfold pureV at h ⊢
  split at h
  · unfold slcV at h ⊢
    split at h
    · obtain ⟨hn, h⟩ := h
      obtain ⟨s, hs, h⟩ := Opt.iff.1 h
      obtain ⟨l, hl, h⟩ := Opt.iff.1 h
      obtain ⟨e, he, hb, h⟩ := Opt.iff.1 h
      exact ⟨_, ⟨hn, Opt.iff.2 ⟨s, hs, Opt.iff.2 ⟨l, hl, Opt.iff.2 ⟨e, he, hb, rfl⟩⟩⟩⟩, h⟩
    · obtain ⟨hn, h⟩ := h
      split at h
      · unfold slcW at h ⊢
        split at h
        · obtain ⟨h1, h⟩ := h
          obtain ⟨m, hm, h2, h⟩ := Opt.iff.1 h
          exact ⟨_, ⟨hn, h1, Opt.iff.2 ⟨m, hm, h2, rfl⟩⟩, h⟩
        · exact h.elim
      · obtain ⟨l, hl, h⟩ := Opt.iff.1 h
        obtain ⟨e, he, hb, h⟩ := Opt.iff.1 h
        obtain ⟨v, hv, hK⟩ := slcM_ex h
        exact ⟨v, ⟨hn, Opt.iff.2 ⟨l, hl, Opt.iff.2 ⟨e, he, hb, hv⟩⟩⟩, hK⟩
    · exact h.elim
  · obtain ⟨a, ha, h⟩ := Opt.iff.1 h
    exact ⟨a, Opt.iff.2 ⟨a, ha, rfl⟩, h⟩
theorem appV_ex {P : Program} {md : List Nat} {k d : Nat} {A : AMap} {ats : List TypeId} {x y : PV} {K : PV → AMap → Prop} (h : appV P md k d A ats x y K) :
    ∃ v A', appV P md k d A ats x y (fun v' A'' => v' = v ∧ A'' = A') ∧ K v A' := by
  unfold appV at h ⊢
  split at h
  · split at h
    · obtain ⟨h0, h⟩ := h
      split at h
      · split at h
        · obtain ⟨h1, h⟩ := h
          split at h
          · exact ⟨_, _, ⟨h0, h1, h.1, rfl, rfl⟩, h.2⟩
          · exact ⟨_, _, ⟨h0, h1, rfl, rfl⟩, h⟩
        · exact ⟨_, _, ⟨h0, h.1, rfl, rfl⟩, h.2⟩
        · split at h
          · exact ⟨_, _, ⟨h0, h.1, rfl, rfl⟩, h.2⟩
          · exact h.elim
        · unfold appT at h ⊢
          split at h
          · obtain ⟨h1, h⟩ := h
            split at h
            · exact ⟨_, _, ⟨h0, h1, rfl, rfl⟩, h⟩
            · split at h
              · exact ⟨_, _, ⟨h0, h1, rfl, rfl⟩, h⟩
              · exact h.elim
          · exact h.elim
        · exact h.elim
      · exact h.elim
    · exact h.elim
  · exact h.elim
def StepR (E : Env) (fb : Option (List Nat)) (d : Option Nat) (rop : ROp) (H : HMap) (A : AMap) (v : PV) (H' : HMap) (A' : AMap) : Prop :=
  StepV E fb d rop H A fun v' H'' A'' => v' = v ∧ H'' = H' ∧ A'' = A'
def opDem : Op → Bool
  | .range _ _ => true
  | .next _ _ => true
  | _ => false
theorem res_dem {e : Operand → PV} {T : TypeId} {op : Op} : (res e T op).dem = opDem op := by
  cases op with
  | call c =>
    obtain ⟨callee, args, ats⟩ := c
    cases callee with
    | value x => cases x <;> rfl
    | invoke r m => rfl
    | builtin b => cases b <;> rfl
  | makeFunc fn first caps =>
    show (resF e fn first _).dem = false
    unfold resF
    split
    · split <;> rfl
    · rfl
  | makeMap T r => cases r <;> rfl
  | _ => rfl
theorem callV_ex {E : Env} {d : Nat} {f : FuncId} {H : HMap} {A : AMap} {args : List PV} {K : PV → HMap → AMap → Prop} (h : callV E d f H A args K) :
    ∃ v H' A', callV E d f H A args (fun v' H'' A'' => v' = v ∧ H'' = H' ∧ A'' = A') ∧ K v H' A' := by
  unfold callV at h ⊢
  split at h
  · obtain ⟨v, H', A', h1, h2, h3⟩ := h
    exact ⟨v, H', A', ⟨v, H', A', h1, h2, rfl, rfl, rfl⟩, h3⟩
  · split at h
    · obtain ⟨v, h1, h2, h3⟩ := h
      exact ⟨v, H, A, ⟨v, h1, h2, rfl, rfl, rfl⟩, h3⟩
    · split at h
      · obtain ⟨v, h1, h2, h3⟩ := h
        exact ⟨v, H, A, ⟨v, h1, h2, rfl, rfl, rfl⟩, h3⟩
      · obtain ⟨r, h1, h2, h3⟩ := h
        exact ⟨_, _, _, ⟨r, h1, h2, rfl, rfl, rfl⟩, h3⟩
theorem callV_mono {E : Env} {d : Nat} {f : FuncId} {H : HMap} {A : AMap} {args : List PV} {K K' : PV → HMap → AMap → Prop} (hk : ∀ v H A, K v H A → K' v H A) (h : callV E d f H A args K) : callV E d f H A args K' := by
  unfold callV at h ⊢
  split at h
  · obtain ⟨v, H', A', h1, h2, h3⟩ := h
    exact ⟨v, H', A', h1, h2, hk _ _ _ h3⟩
  · split at h
    · obtain ⟨v, h1, h2, h3⟩ := h
      exact ⟨v, h1, h2, hk _ _ _ h3⟩
    · split at h
      · obtain ⟨v, h1, h2, h3⟩ := h
        exact ⟨v, h1, h2, hk _ _ _ h3⟩
      · obtain ⟨r, h1, h2, h3⟩ := h
        exact ⟨r, h1, h2, hk _ _ _ h3⟩
theorem step_call {E : Env} {fb : Option (List Nat)} {d : Option Nat} {f : FuncId} {args : List PV} {H H' : HMap} {A A' : AMap} {v : PV} (h : StepR E fb d (.call f args) H A v H' A') :
    callV E (d.getD 0) f H A args (fun v' H'' A'' => v' = v ∧ H'' = H' ∧ A'' = A') ∧ (isKeep fb = true → ∀ id ∈ keepL fb, H' id = H id) := by
  unfold StepR StepV at h
  simp only at h
  split at h
  · rename_i hk
    refine ⟨callV_mono (fun _ _ _ e => e.2) h, fun _ => ?_⟩
    obtain ⟨v1, H1, A1, _, h2, rfl, rfl, rfl⟩ := callV_ex h
    exact h2
  · rename_i hk
    exact ⟨h, fun e => by rw [hk] at e; cases e⟩
theorem call_step {E : Env} {fb : Option (List Nat)} {d : Option Nat} {f : FuncId} {args : List PV} {H H' : HMap} {A A' : AMap} {v : PV} (h : callV E (d.getD 0) f H A args (fun v' H'' A'' => v' = v ∧ H'' = H' ∧ A'' = A')) (hk : isKeep fb = true → ∀ id ∈ keepL fb, H' id = H id) :
    StepR E fb d (.call f args) H A v H' A' := by
  unfold StepR StepV
  simp only
  split
  · rename_i e
    exact callV_mono (fun _ _ _ q => ⟨by obtain ⟨_, rfl, _⟩ := q; exact hk e, q⟩) h
  · exact h
theorem StepV_ex {E : Env} {fb : Option (List Nat)} {d : Option Nat} {rop : ROp} {H : HMap} {A : AMap} {K : PV → HMap → AMap → Prop} (hdem : rop.dem = false) (h : StepV E fb d rop H A K) :
    ∃ v H' A', StepR E fb d rop H A v H' A' ∧ K v H' A' := by
  have pure1 : ∀ {rop : ROp}, (pureV E.P rop fun v => K v H A) → ∃ v H' A', (pureV E.P rop fun v' => v' = v ∧ H = H' ∧ A = A') ∧ K v H' A' := fun h => by
    obtain ⟨v, h1, h2⟩ := pureV_ex h
    refine ⟨v, H, A, ?_, h2⟩
    have e : (fun v' => v' = v) = (fun v' => v' = v ∧ H = H ∧ A = A) := by funext; simp
    rw [← e]
    exact h1
  unfold StepR
  unfold StepV at h ⊢
  split at h
  · obtain ⟨d, hd, h⟩ := Opt.iff.1 h
    obtain ⟨z, hz, h1, h⟩ := Opt.iff.1 h
    exact ⟨_, _, _, Opt.iff.2 ⟨d, hd, Opt.iff.2 ⟨z, hz, h1, rfl, rfl, rfl⟩⟩, h⟩
  · obtain ⟨d, hd, h⟩ := Opt.iff.1 h
    obtain ⟨z, hz, h1, h⟩ := Opt.iff.1 h
    exact ⟨_, _, _, Opt.iff.2 ⟨d, hd, Opt.iff.2 ⟨z, hz, h1, rfl, rfl, rfl⟩⟩, h⟩
  · obtain ⟨z, hz, h⟩ := Opt.iff.1 h
    exact ⟨_, _, _, Opt.iff.2 ⟨z, hz, rfl, rfl, rfl⟩, h⟩
  · obtain ⟨h0, h⟩ := h
    obtain ⟨z, hz, h⟩ := Opt.iff.1 h
    exact ⟨_, _, _, ⟨h0, Opt.iff.2 ⟨z, hz, rfl, rfl, rfl⟩⟩, h⟩
  · split at h
    · obtain ⟨v, H', A', h1, h2, h3⟩ := callV_ex h
      exact ⟨v, H', A', callV_mono (fun v1 H1 A1 e => by obtain ⟨rfl, rfl, rfl⟩ := e; exact ⟨h2, rfl, rfl, rfl⟩) h1, h3⟩
    · exact callV_ex h
  · unfold callvV at h ⊢
    split at h
    · obtain ⟨v, H', A', h1, h2, h3⟩ := h
      exact ⟨v, H', A', ⟨v, H', A', h1, h2, rfl, rfl, rfl⟩, h3⟩
    · obtain ⟨v, H', A', h1, h2, h3⟩ := h
      exact ⟨v, H', A', ⟨v, H', A', h1, h2, rfl, rfl, rfl⟩, h3⟩
    · exact h.elim
  · unfold appC at h ⊢
    split at h
    · obtain ⟨d, hd, h⟩ := Opt.iff.1 h
      obtain ⟨v, A', h1, h2⟩ := appV_ex h
      refine ⟨v, H, A', Opt.iff.2 ⟨d, hd, ?_⟩, h2⟩
      have e : (fun v' A'' => v' = v ∧ A'' = A') = (fun v' A'' => v' = v ∧ H = H ∧ A'' = A') := by funext; simp
      rw [← e]
      exact h1
    · exact h.elim
  · unfold delC at h ⊢
    split at h
    · obtain ⟨z, hz, h⟩ := Opt.iff.1 h
      exact ⟨_, _, _, Opt.iff.2 ⟨z, hz, rfl, rfl, rfl⟩, h⟩
    · exact h.elim
  · obtain ⟨d, hd, h1, h⟩ := Opt.iff.1 h
    exact ⟨_, _, _, Opt.iff.2 ⟨d, hd, h1, rfl, rfl, rfl⟩, h⟩
  · obtain ⟨z, hz, h⟩ := Opt.iff.1 h
    exact ⟨_, _, _, Opt.iff.2 ⟨z, hz, rfl, rfl, rfl⟩, h⟩
  · obtain ⟨z, hz, h⟩ := Opt.iff.1 h
    exact ⟨_, _, _, Opt.iff.2 ⟨z, hz, rfl, rfl, rfl⟩, h⟩
  · split at h
    · obtain ⟨h0, h⟩ := h
      obtain ⟨d, hd, h⟩ := Opt.iff.1 h
      obtain ⟨s, hs, h1, h⟩ := Opt.iff.1 h
      split at h
      · rename_i hmd
        refine ⟨_, _, _, ⟨h0, Opt.iff.2 ⟨d, hd, Opt.iff.2 ⟨s, hs, h1, ?_⟩⟩⟩, h⟩
        rw [hmd]
        exact ⟨rfl, rfl, rfl⟩
      · rename_i hmd
        refine ⟨_, _, _, ⟨h0, Opt.iff.2 ⟨d, hd, Opt.iff.2 ⟨s, hs, h1, ?_⟩⟩⟩, h⟩
        rw [hmd]
        exact ⟨rfl, rfl, rfl⟩
    · split at h
      · obtain ⟨z, hz, h⟩ := Opt.iff.1 h
        exact ⟨_, _, _, Opt.iff.2 ⟨z, hz, rfl, rfl, rfl⟩, h⟩
      · exact pure1 h
  · split at h
    · obtain ⟨d, hd, h⟩ := Opt.iff.1 h
      obtain ⟨els, hs, h1, h⟩ := Opt.iff.1 h
      exact ⟨_, _, _, Opt.iff.2 ⟨d, hd, Opt.iff.2 ⟨els, hs, h1, rfl, rfl, rfl⟩⟩, h⟩
    · exact pure1 h
  · split at h
    · obtain ⟨d, hd, h⟩ := Opt.iff.1 h
      obtain ⟨els, hs, h1, h⟩ := Opt.iff.1 h
      exact ⟨_, _, _, Opt.iff.2 ⟨d, hd, Opt.iff.2 ⟨els, hs, h1, rfl, rfl, rfl⟩⟩, h⟩
    · exact pure1 h
  · split at h
    · obtain ⟨z, hz, h⟩ := Opt.iff.1 h
      exact ⟨_, _, _, Opt.iff.2 ⟨z, hz, rfl, rfl, rfl⟩, h⟩
    · exact pure1 h
  · cases hdem
  · cases hdem
  · unfold entV at h ⊢
    split at h
    · split at h
      · exact ⟨_, _, _, ⟨h.1, rfl, rfl, rfl⟩, h.2⟩
      · exact h.elim
    · exact h.elim
  · obtain ⟨v, h1, h2⟩ := pureV_ex h
    refine ⟨v, H, A, ?_, h2⟩
    have e : (fun v' => v' = v) = (fun v' => v' = v ∧ H = H ∧ A = A) := by funext; simp
    rw [← e]
    exact h1
def put (ρ : Nat → PV) (d : Option Nat) (v : PV) : Nat → PV :=
  match d with
  | some d => upd ρ d v
  | none => ρ
def gOf (want : Bool) : PV → Option Bool
  | .c (.d (.lit (.bool b))) => some (b == want)
  | .c .skip => some false
  | _ => none
def guardA (ops : Array Oper) (ρ : Nat → PV) (g : Option (Nat × Bool)) : Option Bool :=
  match g with
  | none => some true
  | some (j, want) => match (ops[j]?).bind (·.dst) with
    | none => some false
    | some t => gOf want (ρ t)
def RunV (E : Env) (fb : Option (List Nat)) (ops : Array Oper) : List Oper → St → (St → Prop) → Prop
  | [], S, K => K S
  | o :: r, S, K => Opt (guardA ops S.ρ o.guard) fun g =>
      (g = true → StepV E fb o.dst (res (ev S.ρ) o.type o.op) S.H S.A fun v H A => RunV E fb ops r ⟨put S.ρ o.dst v, H, A⟩ K) ∧
      (g = false → RunV E fb ops r ⟨put S.ρ o.dst (.c .skip), S.H, S.A⟩ K)
def newId (off : Nat) (o : Oper) : Option Nat :=
  match o.op, o.dst with
  | .alloc _, some d => some (off + d)
  | .box _ _, some d => some (off + d)
  | _, _ => none
def lwE (id : Nat) : List Nat → Bool
  | [] => false
  | e :: r => if e / 1000 = id + 1 then true else lwE id r
def lwIds (off id : Nat) : List Nat → List Nat
  | [] => []
  | e :: r => if e / 1000 = id + 1 then (off + e % 1000) :: lwIds off id r else lwIds off id r
def mkM : Bool → Nat
  | true => 1
  | false => 0
theorem lwOf_mkM {b : Bool} {l : List Nat} : lwOf (some (mkM b :: l)) = b := by cases b <;> rfl
theorem isKeep_mkM {b : Bool} {l : List Nat} : isKeep (some (mkM b :: l)) = false := by cases b <;> rfl
theorem blocked_mkM {b : Bool} {l : List Nat} {id : Nat} : blocked (some (mkM b :: l)) id = l.contains id := by cases b <;> rfl
def kpE (id : Nat) : List Nat → Bool
  | [] => false
  | e :: r => if e / 1000 = 1001 + id then true else kpE id r
def kpSl (id : Nat) : List Nat → List Nat
  | [] => []
  | e :: r => if e / 1000 = 1001 + id then (e % 1000) :: kpSl id r else kpSl id r
def fbOf (E : Env) (id : Nat) (ops : Array Oper) (draw : Bool) : Option (List Nat) :=
  match draw with
  | false => none
  | true => match E.st.contains id with
    | true => none
    | false => match kpE id E.st with
      | true => some (2 :: (kpSl id E.st).map fun s => E.off + s)
      | false => some (mkM (lwE id E.st) :: (lwIds E.off id E.st ++ ops.toList.filterMap (newId E.off)))
structure Post where
  nrm : St → Prop
  ret : St → Prop
  ext : Nat → St → Prop
def CV.ok (hk : Nat → Prop) (tk : Tok → Prop) : CV → Prop
  | .own κ _ => tk κ
  | .mt κ _ _ => tk κ
  | .tv κ _ _ _ => tk κ
  | .mptr κ _ _ _ _ => tk κ
  | .ptr id _ => hk id
  | .fn _ caps => ∀ p ∈ caps, hk p.1
  | .mpr κ => tk κ
  | .sit κ => tk κ
  | .itr κ _ => tk κ
  | .vsl id _ => hk id
  | .bfn _ fst caps => (∀ p ∈ fst, hk p.1) ∧ ∀ p ∈ caps, hk p.1
  | _ => True
def permA (old new : Option Arr) : Prop := ∃ m m', new = some (.mp m') ∧ m.Perm m' ∧ (old = some (.mp m) ∨ ∃ c l i, old = some (.mpi m c l i))
def CV.wk (H' : HMap) (A A' : AMap) (new old : CV) : Prop :=
  new = .any ∨
  (new = old ∧ new.ok (fun id => H' id ≠ none) (fun κ => A' κ ≠ none ∧ A' κ = A κ)) ∨
  (∃ els, new = .d (.sl els) ∧ (old = .full els ∨ ∃ κ, old = .own κ els)) ∨
  (old = .full [] ∧ ∃ κ sz, new = .own κ [] ∧ A κ = none ∧ A' κ = some (.co sz 0)) ∨
  (old = .full [] ∧ ∃ κ sz, (new = .mt κ sz 0 ∨ new = .tv κ sz 0 0) ∧ A κ = none ∧ A' κ = some (.mu sz [])) ∨
  (∃ κ, new = .mpr κ ∧ old = .mpr κ ∧ permA (A κ) (A' κ))
def TV.wk (H' : HMap) (A A' : AMap) : TV → TV → Prop
  | .c x, .c y => CV.wk H' A A' x y
  | .agg cs, .agg ds => cs.length = ds.length ∧ ∀ (k : Nat) (c d : CV), cs[k]? = some c → ds[k]? = some d → CV.wk H' A A' c d
  | _, _ => False
def PV.wk (H' : HMap) (A A' : AMap) : PV → PV → Prop
  | .c .any, _ => True
  | .c x, .c y => CV.wk H' A A' x y
  | .agg cs, .agg ds => cs.length = ds.length ∧ ∀ (k : Nat) (c d : CV), cs[k]? = some c → ds[k]? = some d → CV.wk H' A A' c d
  | .tup xs, .tup ys => xs.length = ys.length ∧ ∀ (k : Nat) (x y : TV), xs[k]? = some x → ys[k]? = some y → TV.wk H' A A' x y
  | _, _ => False
structure Weak (H0 : HMap) (A0 : AMap) (S S' : St) : Prop where
  ρ : ∀ t, PV.wk S'.H S.A S'.A (S'.ρ t) (S.ρ t)
  H : ∀ id, S'.H id = none ∨ ∃ cs ds, S'.H id = some cs ∧ S.H id = some ds ∧ cs.length = ds.length ∧ ∀ (k : Nat) (c d : CV), cs[k]? = some c → ds[k]? = some d → CV.wk S'.H S.A S'.A c d
  A : ∀ κ, S'.A κ = none ∨ S'.A κ = S.A κ ∨ (S.A κ = none ∧ ∃ sz, S'.A κ = some (.co sz 0) ∨ S'.A κ = some (.mu sz [])) ∨ permA (S.A κ) (S'.A κ)
  kH : ∀ id, H0 id ≠ none → S'.H id ≠ none
  kA : ∀ κ, A0 κ ≠ none → S'.A κ ≠ none
def VC (E : Env) (H0 : HMap) (A0 : AMap) : Code → Post → St → Prop
  | .skip, Q, S => Q.nrm S
  | .region id ops draw, Q, S => RunV E (fbOf E id ops draw) ops ops.toList S Q.nrm
  | .seq a b, Q, S => VC E H0 A0 a { Q with nrm := VC E H0 A0 b Q } S
  | .cond c x y, Q, S => Opt (boolOf? (ev S.ρ c)) fun b => (b = true → VC E H0 A0 x Q S) ∧ (b = false → VC E H0 A0 y Q S)
  | .block id c, Q, S => VC E H0 A0 c { Q with ext := fun j S' => if j = id then Q.nrm S' else Q.ext j S' } S
  | .loop c, Q, S => ∃ (ι : Type) (F : ι → St) (μ : ι → Nat), (∃ i, Weak H0 A0 S (F i)) ∧ ∀ i, VC E H0 A0 c { Q with nrm := fun S' => ∃ j, Weak H0 A0 S' (F j) ∧ μ j < μ i } (F i)
  | .exit id, Q, S => Q.ext id S
  | .label _, Q, S => Q.nrm S
  | .scope c, Q, S => VC E H0 A0 c Q S
  | .ret, Q, S => Q.ret S
  | _, _, _ => False
end Go.PW

namespace Go.PW
variable {P : Program} {g : Gh} {H : HMap} {A : AMap} {w : World}
def DomOK (g : Gh) (H : HMap) : Prop := ∀ id, H id = none → g.β id = none
theorem upd_same {α β : Type} [DecidableEq α] (f : α → β) (a : α) (b : β) : upd f a b a = b := by simp [upd]
theorem upd_other {α β : Type} [DecidableEq α] (f : α → β) {a x : α} (b : β) (h : x ≠ a) : upd f a b x = f x := by simp [upd, h]
theorem TokRep.frame {g g' : Gh} {w w' : World} {κ : Tok} {ar : Arr} (h : TokRep g w κ ar) (hτ : g'.τ κ = g.τ κ) (hC : ∀ b o v, g.C b o = some v → g'.C b o = some v)
    (hb : ∀ b, g.O b = some (.tok κ) → g'.O b = some (.tok κ) ∧ w'.heap[b]? = w.heap[b]? ∧ ∀ o, g'.C b o = g.C b o) : TokRep g' w' κ ar := by
  cases ar with
  | co sz n =>
    obtain ⟨a, cap, h1, h2, h3⟩ := h
    refine ⟨a, cap, hτ.trans h1, h2, h3.imp id ?_⟩
    rintro ⟨b, rfl, ho, hc, vs, e, fz, hh, rest⟩
    obtain ⟨o1, o2, o3⟩ := hb b ho
    exact ⟨b, rfl, o1, fun j hj => by rw [o3]; exact hc j hj, vs, e, fz, by rw [o2]; exact hh, rest⟩
  | mu sz els =>
    obtain ⟨hs, a, cap, h1, h2, h3⟩ := h
    refine ⟨hs, a, cap, hτ.trans h1, h2, h3.imp id ?_⟩
    rintro ⟨b, rfl, ho, hc, vs, e, fz, hh, hu, hcap, hr⟩
    obtain ⟨o1, o2, o3⟩ := hb b ho
    exact ⟨b, rfl, o1, fun j => by rw [o3]; exact hc j, vs, e, fz, by rw [o2]; exact hh, hu, hcap, fun i k e' x h1 h2 => by
      obtain ⟨u, hu, hd⟩ := hr i k e' x h1 h2
      exact ⟨u, hu, DRep.mono hC hd⟩⟩
  | mp m =>
    obtain ⟨b, es, clock, h1, ho, hc, hh, hr⟩ := h
    obtain ⟨o1, o2, o3⟩ := hb b ho
    exact ⟨b, es, clock, hτ.trans h1, o1, fun j => by rw [o3]; exact hc j, by rw [o2]; exact hh, hr⟩
  | mpi m cur left bi =>
    obtain ⟨b, es, clock, h1, ho, hc, hh, hr, seen, ho2, hc2, hh2, hr2⟩ := h
    obtain ⟨o1, o2, o3⟩ := hb b ho
    obtain ⟨p1, p2, p3⟩ := hb bi ho2
    exact ⟨b, es, clock, hτ.trans h1, o1, fun j => by rw [o3]; exact hc j, by rw [o2]; exact hh, hr, seen, p1, fun j => by rw [p3]; exact hc2 j, by rw [p2]; exact hh2, hr2⟩
  | si s pos =>
    obtain ⟨b, h1, ho, hc, hh⟩ := h
    obtain ⟨o1, o2, o3⟩ := hb b ho
    exact ⟨b, hτ.trans h1, o1, fun j => by rw [o3]; exact hc j, by rw [o2]; exact hh⟩
theorem C_none_new (hm : MRel g H A w) (o : Nat) : g.C w.heap.size o = none := by
  cases hc : g.C w.heap.size o with
  | none => rfl
  | some v => exact absurd (C_lt hm hc) (by omega)
theorem newvar (hm : MRel g H A w) (hd : DomOK g H) {id : Nat} (hH : H id = none) {cs : List CV} {vs : Array Value} (hr : CsRep g A cs vs.toList) (e : TypeId) :
    ∃ g', MRel g' (upd H id (some cs)) A (w.alloc (.cells vs e)) ∧ Evol g A w g' A (w.alloc (.cells vs e)) ∧ DomOK g' (upd H id (some cs)) ∧ g'.β id = some w.heap.size := by
  have hold : ∀ b, b < w.heap.size → (w.alloc (.cells vs e)).heap[b]? = w.heap[b]? := fun b hb => heap_alloc_old w _ b hb
  let g' : Gh := { g with β := upd g.β id (some w.heap.size), O := upd g.O w.heap.size (some (.var id)) }
  have hβ : ∀ i, i ≠ id → g'.β i = g.β i := fun i hi => upd_other _ _ hi
  have hO : ∀ b, b ≠ w.heap.size → g'.O b = g.O b := fun b hb => upd_other _ _ hb
  have hM : Mono g A g' A := ⟨fun _ _ _ h => h, fun i b h => by
    by_cases hi : i = id
    · subst hi; rw [hd i hH] at h; cases h
    · rw [hβ i hi]; exact h, fun _ ar h => ⟨ar, h, TokLe.refl _ _⟩⟩
  refine ⟨g', ⟨?_, ?_, ?_, ?_⟩, ⟨hM, fun b hb _ => hold b hb, fun b hb ho => by rw [hO b (by omega)]; exact ho, fun _ _ _ _ => rfl, by simp, rfl, rfl, rfl⟩, ?_, upd_same _ _ _⟩
  · intro b o v hc
    have := hm.com b o v hc
    rw [World.cell?_of_block (w := w) (hold b (C_lt hm hc))]
    exact this
  · intro i b hb
    by_cases hi : i = id
    · subst hi
      have hb' : b = w.heap.size := by have := upd_same g.β i (some w.heap.size); rw [show g'.β i = _ from this] at hb; cases hb; rfl
      subst hb'
      refine ⟨upd_same _ _ _, fun o => C_none_new hm o, cs, vs, e, (0, 0), upd_same _ _ _, heap_alloc_new w _, fun o _ => by simp, hr.mono hM⟩
    · rw [hβ i hi] at hb
      obtain ⟨ho, hc, cs', vs', e', fz, hH', hh, hu, hr'⟩ := hm.var i b hb
      have hlt := heap_lt hh
      exact ⟨by rw [hO b (by omega)]; exact ho, hc, cs', vs', e', fz, by rw [upd_other _ _ hi]; exact hH', by rw [hold b hlt]; exact hh, hu, hr'.mono hM⟩
  · intro κ ar hA
    refine (hm.tok κ ar hA).frame rfl (fun _ _ _ h => h) (fun b ho => ?_)
    have := hm.own b _ ho
    exact ⟨by rw [hO b (by omega)]; exact ho, hold b this, fun _ => rfl⟩
  · intro b o ho
    by_cases hb : b = w.heap.size
    · subst hb; simp
    · rw [hO b hb] at ho
      have := hm.own b o ho
      simp
      omega
  · intro i hi
    by_cases hii : i = id
    · subst hii; rw [upd_same] at hi; cases hi
    · rw [upd_other _ _ hii] at hi
      rw [hβ i hii]
      exact hd i hi
theorem run_loadVar' {T : TypeId} {b off : Nat} {us : List Value} {X : Value} (hl : us.length = P.cellsOf T) (hX : ValIs P T us X) (hc : ∀ j v, us[j]? = some v → w.cell? ⟨b, off + j, none⟩ = some v) :
    (loadVar T ⟨b, off, none⟩).run P w = .ok X w := by
  unfold loadVar
  unfold ValIs at hX
  cases hu : P.underlying T with
  | none => simp [hu] at hX
  | some d =>
    simp only [Sem.run_bind, run_isAgg hu, Result.andThen_ok]
    rw [hu] at hX
    have hag : X = .agg us.toArray → (((sizeOf T).run P w).andThen fun n w' => ((loadCells ⟨b, off, none⟩ n).run P w').andThen fun cs w' => (Result.ok (Value.agg cs) w')) = .ok X w := by
      rintro rfl
      rw [run_sizeOf' hu, Result.andThen_ok, ← hl, run_loadCells_list w ⟨b, off, none⟩ us (fun j v hj => by rw [Addr_add]; exact hc j v hj)]
      rfl
    have hone : us = [X] → (load ⟨b, off, none⟩).run P w = .ok X w := by
      rintro rfl
      have := hc 0 X rfl
      rw [Nat.add_zero] at this
      rw [run_load, this]
    cases d <;> first
      | exact hone hX
      | (simp only [if_true]; simpa using hag hX)
theorem sub_d {e : List D} {off n : Nat} {r : List CV} (h : sub (e.map .d) off n = some r) : off + n ≤ e.length ∧ r = ((e.drop off).take n).map .d := by
  unfold sub at h
  split at h
  · rename_i hl
    cases h
    simp only [List.length_map] at hl
    exact ⟨hl, by rw [← List.map_drop, ← List.map_take]⟩
  · cases h
theorem vals_of {C : Nat → Nat → Option Value} {ds : List D} {f : Nat → Option Value} (h : ∀ (k : Nat) (x : D), ds[k]? = some x → ∃ u, f k = some u ∧ DRep C x u) :
    ∃ us : List Value, us.length = ds.length ∧ (∀ k v, us[k]? = some v → f k = some v) ∧ (∀ (k : Nat) (x : D), ds[k]? = some x → ∃ u, us[k]? = some u ∧ DRep C x u) := by
  induction ds generalizing f with
  | nil => exact ⟨[], rfl, by simp, by simp⟩
  | cons x r ih =>
    obtain ⟨u, hu, hd⟩ := h 0 x rfl
    obtain ⟨us, h1, h2, h3⟩ := ih (f := fun k => f (k + 1)) (fun k y hk => h (k + 1) y (by simpa using hk))
    refine ⟨u :: us, by simp [h1], fun k v hk => ?_, fun k y hk => ?_⟩
    · cases k with
      | zero => simp at hk; subst hk; exact hu
      | succ k => exact h2 k v (by simpa using hk)
    · cases k with
      | zero => simp at hk; subst hk; exact ⟨u, rfl, hd⟩
      | succ k => obtain ⟨u', hu', hd'⟩ := h3 k y (by simpa using hk); exact ⟨u', by simpa using hu', hd'⟩
theorem load_data {T : TypeId} {e : List D} {b o off : Nat} {r : List CV} {v : PV} (hs : sub (e.map .d) off (P.cellsOf T) = some r) (hv : mkPV P T r = some v)
    (hc : ∀ (k : Nat) (x : D), e[k]? = some x → ∃ u, w.cell? ⟨b, o + k, none⟩ = some u ∧ DRep g.C x u) :
    ∃ X, (loadVar T ⟨b, o + off, none⟩).run P w = .ok X w ∧ PRep g A v X := by
  obtain ⟨hl, rfl⟩ := sub_d hs
  have hget : ∀ (k : Nat) (x : D), ((e.drop off).take (P.cellsOf T))[k]? = some x → e[off + k]? = some x := by
    intro k x hk
    rw [List.getElem?_take] at hk
    split at hk
    · rw [List.getElem?_drop] at hk; exact hk
    · cases hk
  obtain ⟨us, h1, h2, h3⟩ := vals_of (C := g.C) (ds := (e.drop off).take (P.cellsOf T)) (f := fun k => w.cell? ⟨b, o + (off + k), none⟩) (fun k x hk => hc (off + k) x (hget k x hk))
  have hcs : CsRep g A (((e.drop off).take (P.cellsOf T)).map .d) us := ⟨by simp [h1], fun k c hk => by
    simp only [List.getElem?_map, Option.map_eq_some_iff] at hk
    obtain ⟨x, hx, rfl⟩ := hk
    exact h3 k x hx⟩
  obtain ⟨X, hX, hp⟩ := mkPV_rep hv hcs
  exact ⟨X, run_loadVar' (by rw [h1]; simp; omega) hX (fun j u hj => by rw [Nat.add_assoc]; exact h2 j u hj), hp⟩
theorem load_ok (hm : MRel g H A w) {fb : Option (List Nat)} {T : TypeId} {a v : PV} {u : Value} (ha : PRep g A a u) (h : loadS P fb H A T a = some v) :
    ∃ X, (Instr.loadAt T u).run P w = .ok X w ∧ PRep g A v X := by
  unfold loadS at h
  split at h
  · rename_i id off
    split at h
    · cases h
    · obtain ⟨cs, hcs, h⟩ := Option.bind_eq_some_iff.1 h
      obtain ⟨r, hr, h⟩ := Option.bind_eq_some_iff.1 h
      obtain ⟨b, hb, rfl⟩ := ha
      obtain ⟨ho, hC, cs', vs, e, fz, hH, hh, hu, hrep⟩ := hm.var id b hb
      rw [hcs] at hH
      cases hH
      obtain ⟨h1, h2, h3⟩ := hrep.sub hr
      obtain ⟨X, hX, hp⟩ := mkPV_rep h h1
      refine ⟨X, ?_, hp⟩
      unfold Instr.loadAt
      simp only [Instr.sureAddr, Sem.run_bind, Sem.run_pure, Result.andThen_ok]
      refine run_loadVar' (by rw [h1.1, h3]) hX (fun j x hj => ?_)
      rw [List.getElem?_take] at hj
      split at hj
      · rw [List.getElem?_drop] at hj
        exact cell_of_heap hh (by simpa using hj)
      · cases hj
  · obtain ⟨r, hr, h⟩ := Option.bind_eq_some_iff.1 h
    obtain ⟨b, o, rfl, hc⟩ := ha
    obtain ⟨X, hX, hp⟩ := load_data (w := w) (g := g) (A := A) (b := b) (o := o) hr h (fun k x hk => by
      obtain ⟨u, hu, hd⟩ := hc k x hk
      exact ⟨u, hm.com _ _ _ hu, hd⟩)
    refine ⟨X, ?_, hp⟩
    unfold Instr.loadAt
    simp only [Instr.sureAddr, Sem.run_bind, Sem.run_pure, Result.andThen_ok]
    exact hX
  · split at h
    · cases h
    · split at h
      · rename_i κ sz n i off _ _ _ els hA
        split at h
        · rename_i hn
          subst hn
          obtain ⟨e, he, h⟩ := Option.bind_eq_some_iff.1 h
          obtain ⟨r, hr, h⟩ := Option.bind_eq_some_iff.1 h
          obtain ⟨b, els', rfl, hA', hle, hcap⟩ := ha
          rw [hA] at hA'
          cases hA'
          obtain ⟨cap, hτ⟩ := hcap rfl
          obtain ⟨hs, a, cap', h1, h2, h3⟩ := hm.tok κ _ hA
          rw [hτ] at h1
          cases h1
          have hlt : i < els.length := (List.getElem?_eq_some_iff.1 he).1
          rcases h3 with h3 | ⟨b', hb', ho, hC, vs, e', fz, hh, hu, hcp, hrep⟩
          · omega
          · cases hb'
            obtain ⟨X, hX, hp⟩ := load_data (w := w) (g := g) (A := A) (b := b) (o := i * sz) hr h (fun k x hk => by
              obtain ⟨u, hu, hd⟩ := hrep i k e x he hk
              exact ⟨u, cell_of_heap hh hu, hd⟩)
            refine ⟨X, ?_, hp⟩
            unfold Instr.loadAt
            simp only [Instr.sureAddr, Sem.run_bind, Sem.run_pure, Result.andThen_ok]
            exact hX
        · cases h
      · cases h
  · cases h
theorem setCells_heap (b : Nat) : ∀ (us : List Value) (o : Nat) (w : World) (vs : Array Value) (e : TypeId) (fz : Nat × Nat), w.heap[b]? = some (.cells vs e fz) → o + us.length ≤ vs.size →
    (w.setCells b o us).heap[b]? = some (.cells (splice vs.toList o us).toArray e fz) ∧ (∀ k, k ≠ b → (w.setCells b o us).heap[k]? = w.heap[k]?) ∧ (w.setCells b o us).heap.size = w.heap.size ∧
    (w.setCells b o us).os = w.os ∧ (w.setCells b o us).tape = w.tape ∧ (w.setCells b o us).output = w.output
  | [], o, w, vs, e, fz, h, _ => by simp [World.setCells, splice, h]
  | u :: us, o, w, vs, e, fz, h, hl => by
    simp only [List.length_cons] at hl
    have h1 : (w.setCell ⟨b, o, none⟩ u).heap[b]? = some (.cells (vs.setIfInBounds o u) e fz) := by
      simp [World.setCell, Array.getElem?_modify, h]
    obtain ⟨i1, i2, i3, i4, i5, i6⟩ := setCells_heap b us (o + 1) (w.setCell ⟨b, o, none⟩ u) (vs.setIfInBounds o u) e fz h1 (by simp; omega)
    refine ⟨?_, fun k hk => ?_, ?_, i4, i5, i6⟩
    · rw [World.setCells, i1]
      congr 2
      apply Array.ext'
      simp only [Array.toList_setIfInBounds, splice, List.length_cons]
      apply List.ext_getElem?
      intro k
      simp only [List.append_assoc, List.getElem?_append, List.length_take, List.length_set, Array.length_toList, List.getElem?_take, List.getElem?_drop, List.getElem?_set]
      have e1 : min o vs.size = o := by omega
      have e2 : min (o + 1) vs.size = o + 1 := by omega
      simp only [e1, e2, List.length_cons]
      by_cases hk : k < o
      · simp [hk, show k < o + 1 by omega, show ¬ o = k by omega]
      · by_cases hk2 : k = o
        · subst hk2
          simp [show k < vs.size by omega]
        · have h3 : ¬ k < o + 1 := by omega
          simp only [hk, h3, if_false]
          have h4 : k - o = (k - (o + 1)) + 1 := by omega
          rw [h4]
          by_cases h5 : k - (o + 1) < us.length
          · simp [h5]
          · simp only [h5, if_false, show ¬ (k - (o + 1) + 1 < us.length + 1) by omega]
            simp only [show ¬ o = o + 1 + us.length + (k - (o + 1) - us.length) by omega, if_false]
            congr 1
            omega
    · rw [World.setCells, i2 k hk]
      simp only [World.setCell, Array.getElem?_modify]
      rw [if_neg (by simpa using Ne.symm hk)]
    · rw [World.setCells, i3]; simp
theorem run_storeCells' {b o : Nat} {us : List Value} {vs : Array Value} {e : TypeId} {fz : Nat × Nat} (h : w.heap[b]? = some (.cells vs e fz)) (hu : Unfz vs.size fz) (hl : o + us.length ≤ vs.size) (h1 : ∀ v ∈ us, v.oneCell' = true) :
    (storeCells ⟨b, o, none⟩ us).run P w = .ok () (w.setCells b o us) := by
  obtain ⟨lo, hi⟩ := fz
  have := run_storeCells_cells (P := P) b o us 0 w (fun j hj => by
    rw [Nat.add_zero, cell_of_heap h (Array.getElem?_eq_getElem (show o + j < vs.size by omega))]; rfl) (fun j hj => by
    have := hu (o + j) (by omega)
    simp only at this
    simp [World.frozen?, h]
    omega) h1
  simpa using this
theorem all_known {cs : List CV} {us : List Value} (h : CsRep g A cs us) (hk : cs.all CV.known = true) : ∀ v ∈ us, v.oneCell' = true := by
  intro v hv
  obtain ⟨k, hk'⟩ := List.mem_iff_getElem?.1 hv
  have hlt : k < cs.length := by rw [← h.1]; exact (List.getElem?_eq_some_iff.1 hk').1
  obtain ⟨v', hv', hr⟩ := h.2 k cs[k] (List.getElem?_eq_getElem hlt)
  rw [hk'] at hv'
  cases hv'
  exact CRep_oneCell hr (List.all_eq_true.1 hk _ (List.getElem_mem hlt))
theorem run_storeVar' {T : TypeId} {x : Value} {b o : Nat} {vs : Array Value} {e : TypeId} {fz : Nat × Nat} (hT : ∃ i, P.info? T = some i ∧ i.size = P.cellsOf T) (hx : x.cells.size = P.cellsOf T)
    (h : w.heap[b]? = some (.cells vs e fz)) (hu : Unfz vs.size fz) (hl : o + x.cells.size ≤ vs.size) (h1 : ∀ v ∈ x.cells.toList, v.oneCell' = true) :
    (Instr.storeAt T (.pointer (some ⟨b, o, none⟩)) x).run P w = .ok () (w.setCells b o x.cells.toList) := by
  obtain ⟨i, hi, hs⟩ := hT
  unfold Instr.storeAt storeVar
  simp only [Instr.sureAddr, Sem.run_bind, Sem.run_pure, Result.andThen_ok, sizeOf, typeInfo, run_program, hi, hs]
  rw [Sem.run_ite, if_neg (by simpa using hx)]
  exact run_storeCells' h hu (by rw [Array.length_toList]; exact hl) h1
end Go.PW
