/-
  Parts of the proof, laid together: PwM.
-/
import Derived.Test.YtghlemfokpfngaaQ09

namespace Go.PW
inductive Kd where
  | P | N | L | W | A | E | Q | R | C
  deriving DecidableEq
def kindF (effs : List FuncId) (f : FuncId) : Kd :=
  match effs.contains f with
  | true => .C
  | false => match effs.contains (2000000 + f) with
    | true => .Q
    | false => match effs.contains (7000000 + f) with
      | true => .R
      | false => .A
theorem kindF_or (effs : List FuncId) (f : FuncId) : kindF effs f = .C ∨ kindF effs f = .A ∧ (effs.contains f = false ∧ effs.contains (2000000 + f) = false ∧ effs.contains (7000000 + f) = false) ∨
    kindF effs f = .Q ∧ (effs.contains f = false ∧ effs.contains (2000000 + f) = true) ∨ kindF effs f = .R ∧ (effs.contains f = false ∧ effs.contains (2000000 + f) = false ∧ effs.contains (7000000 + f) = true) := by
  unfold kindF
  cases effs.contains f
  · cases effs.contains (2000000 + f)
    · cases effs.contains (7000000 + f)
      · exact .inr (.inl ⟨rfl, rfl, rfl, rfl⟩)
      · exact .inr (.inr (.inr ⟨rfl, rfl, rfl, rfl⟩))
    · exact .inr (.inr (.inl ⟨rfl, rfl, rfl⟩))
  · exact .inl rfl
def kindV (effs : List FuncId) (s d : TypeId) : Kd :=
  match isFresh effs d with
  | true => .A
  | false => match isQuiet effs s with
    | true => .Q
    | false => .P
theorem kindV_or (effs : List FuncId) (s d : TypeId) : (kindV effs s d = .A ∧ isFresh effs d = true) ∨ (kindV effs s d = .Q ∧ isFresh effs d = false ∧ isQuiet effs s = true) ∨ (kindV effs s d = .P ∧ isFresh effs d = false ∧ isQuiet effs s = false) := by
  unfold kindV
  cases isFresh effs d
  · cases isQuiet effs s
    · exact .inr (.inr ⟨rfl, rfl, rfl⟩)
    · exact .inr (.inl ⟨rfl, rfl, rfl⟩)
  · exact .inl ⟨rfl, rfl⟩
def kindK (effs : List FuncId) (T : TypeId) : Kd :=
  match isMut effs T with
  | true => .A
  | false => .P
theorem kindK_or (effs : List FuncId) (T : TypeId) : (kindK effs T = .A ∧ isMut effs T = true) ∨ (kindK effs T = .P ∧ isMut effs T = false) := by
  unfold kindK
  cases isMut effs T
  · exact .inr ⟨rfl, rfl⟩
  · exact .inl ⟨rfl, rfl⟩
def kindB (effs : List FuncId) (T : TypeId) : Kd :=
  match isRow effs T with
  | true => .E
  | false => .P
theorem kindB_or (effs : List FuncId) (T : TypeId) : (kindB effs T = .E ∧ isRow effs T = true) ∨ (kindB effs T = .P ∧ isRow effs T = false) := by
  unfold kindB
  cases isRow effs T
  · exact .inr ⟨rfl, rfl⟩
  · exact .inl ⟨rfl, rfl⟩
def kindL (effs : List FuncId) (ats : List TypeId) : Kd :=
  match isCount effs ats with
  | true => .Q
  | false => .P
theorem kindL_or (effs : List FuncId) (ats : List TypeId) : (kindL effs ats = .Q ∧ isCount effs ats = true) ∨ (kindL effs ats = .P ∧ isCount effs ats = false) := by
  unfold kindL
  cases isCount effs ats
  · exact .inr ⟨rfl, rfl⟩
  · exact .inl ⟨rfl, rfl⟩
def kindC (effs : List FuncId) (ats : List TypeId) : Callee → Kd
  | .value (.func f) => kindF effs f
  | .value _ => .E
  | .builtin .append => .A
  | .builtin .delete => .E
  | .builtin .len => kindL effs ats
  | .builtin _ => .P
  | .invoke _ _ => .P
def kind (effs : List FuncId) : Op → Kd
  | .alloc _ => .N
  | .box _ _ => .N
  | .load _ _ => .L
  | .store _ _ _ => .W
  | .call c => kindC effs c.argTypes.toList c.callee
  | .select _ _ => .E
  | .makeMap _ r => match r with
    | none => .E
    | some _ => .P
  | .lookup _ _ _ _ => .E
  | .mapUpdate _ _ _ _ => .E
  | .range _ _ => .E
  | .next _ _ => .E
  | .entry _ => .E
  | .convert s d _ => kindV effs s d
  | .makeSlice T _ _ => kindK effs T
  | .buildSlice T _ _ => kindB effs T
  | _ => .P
def kindR (effs : List FuncId) : ROp → Kd
  | .alloc _ => .N
  | .box _ _ => .N
  | .load _ _ => .L
  | .store _ _ _ => .W
  | .call f _ => kindF effs f
  | .callv _ _ => .E
  | .blt .append _ _ _ => .A
  | .blt .delete _ _ _ => .E
  | .blt .len ats _ _ => kindL effs ats
  | .mmk _ => .E
  | .mlk _ _ _ _ => .E
  | .mup _ _ _ _ => .E
  | .rng _ _ => .E
  | .nxt _ _ => .E
  | .ent _ => .E
  | .conv s d _ => kindV effs s d
  | .mks T _ _ => kindK effs T
  | .bsl T _ _ => kindB effs T
  | _ => .P
def compat (ns : Bool × Bool × Bool) : Kd → Kd → Bool
  | .P, _ => true
  | _, .P => true
  | .N, .N => true
  | .N, .A => true
  | .A, .N => true
  | .L, .L => true
  | .N, .L => ns.1
  | .L, .N => ns.1
  | .L, .A => ns.1
  | .A, .L => ns.1
  | .W, .A => ns.1
  | .A, .W => ns.1
  | .L, .W => ns.2.1
  | .W, .L => ns.2.1
  | .L, .C => ns.2.2
  | .C, .L => ns.2.2
  | .Q, .Q => true
  | .Q, .L => true
  | .L, .Q => true
  | .R, .N => ns.1
  | .R, .L => true
  | .L, .R => true
  | .R, .R => true
  | .R, .Q => true
  | .Q, .R => true
  | _, _ => false
theorem kind_res {effs : List FuncId} {e : Operand → PV} {T : TypeId} {op : Op} (hs : ∀ cs b, op ≠ .select cs b) : kindR effs (res e T op) = kind effs op := by
  cases op with
  | call c =>
    obtain ⟨callee, args, ats⟩ := c
    cases callee with
    | value x => cases x <;> rfl
    | invoke r m => rfl
    | builtin b => cases b <;> rfl
  | makeFunc fn first caps =>
    show kindR effs (resF e fn first _) = .P
    unfold resF
    split
    · split <;> rfl
    · rfl
  | makeMap T r => cases r <;> rfl
  | select cs b => exact (hs cs b rfl).elim
  | _ => rfl
section
variable {E : Env} {fb : Option (List Nat)} {d : Option Nat} {rop : ROp} {H H' : HMap} {A A' : AMap} {v : PV}
theorem step_P (hk : kindR E.effs rop = .P) (h : StepR E fb d rop H A v H' A') : H' = H ∧ A' = A ∧ ∀ H2 A2, StepR E fb d rop H2 A2 v H2 A2 := by
  have key : ∀ rop' : ROp, (∀ K H A, StepV E fb d rop' H A K = pureV E.P rop' fun v => K v H A) → StepR E fb d rop' H A v H' A' → H' = H ∧ A' = A ∧ ∀ H2 A2, StepR E fb d rop' H2 A2 v H2 A2 := by
    intro rop' hr h
    unfold StepR at h ⊢
    rw [hr] at h
    obtain ⟨v1, h1, rfl, rfl, rfl⟩ := pureV_ex h
    refine ⟨rfl, rfl, fun H2 A2 => ?_⟩
    rw [hr]
    have e : (fun v' => v' = v1) = (fun v' => v' = v1 ∧ H2 = H2 ∧ A2 = A2) := by funext; simp
    rw [← e]
    exact h1
  cases rop with
  | alloc T => cases hk
  | box T x => cases hk
  | load T a => cases hk
  | store T a x => cases hk
  | call f args => rcases kindF_or E.effs f with e | ⟨e, _⟩ | ⟨e, _⟩ | ⟨e, _⟩ <;> (rw [show kindR E.effs (.call f args) = kindF E.effs f from rfl, e] at hk; cases hk)
  | callv x args => cases hk
  | blt b ats T args =>
    cases b with
    | append => cases hk
    | delete => cases hk
    | len =>
      rcases kindL_or E.effs ats with ⟨e, _⟩ | ⟨_, e⟩
      · rw [show kindR E.effs (.blt .len ats T args) = kindL E.effs ats from rfl, e] at hk; cases hk
      · refine key _ (fun K H A => ?_) h
        show (match isCount E.effs ats with
          | true => Opt (lenM E.P A ats args) fun v => K v H A
          | false => pureV E.P (.blt .len ats T args) fun v => K v H A) = _
        rw [e]
    | _ => exact key _ (fun _ _ _ => rfl) h
  | mks T l c =>
    rcases kindK_or E.effs T with ⟨e, _⟩ | ⟨_, e⟩
    · rw [show kindR E.effs (.mks T l c) = kindK E.effs T from rfl, e] at hk; cases hk
    · refine key _ (fun K H A => ?_) h
      show (match isMut E.effs T with
        | true => mksV E d T l c A fun v A' => K v H A'
        | false => pureV E.P (.mks T l c) fun v => K v H A) = _
      rw [e]
  | bsl T m ps =>
    rcases kindB_or E.effs T with ⟨e, _⟩ | ⟨_, e⟩
    · rw [show kindR E.effs (.bsl T m ps) = kindB E.effs T from rfl, e] at hk; cases hk
    · refine key _ (fun K H A => ?_) h
      show (match isRow E.effs T with
        | true => bslV E d T m ps H fun v H' => K v H' A
        | false => pureV E.P (.bsl T m ps) fun v => K v H A) = _
      rw [e]
  | mmk T => cases hk
  | mlk T x i ok => cases hk
  | mup T m k v => cases hk
  | rng T x => cases hk
  | nxt x s => cases hk
  | ent x => cases hk
  | conv s dt x =>
    rcases kindV_or E.effs s dt with ⟨e, _⟩ | ⟨e, _⟩ | ⟨_, e, e2⟩
    · rw [show kindR E.effs (.conv s dt x) = kindV E.effs s dt from rfl, e] at hk; cases hk
    · rw [show kindR E.effs (.conv s dt x) = kindV E.effs s dt from rfl, e] at hk; cases hk
    · refine key _ (fun K H A => ?_) h
      show (match isFresh E.effs dt with
        | true => bytV E d s dt x A fun v A' => K v H A'
        | false => (match isQuiet E.effs s with
          | true => Opt (convA E.P A s dt x) fun v => K v H A
          | false => pureV E.P (.conv s dt x) fun v => K v H A)) = _
      rw [e, e2]
  | _ => exact key _ (fun _ _ _ => rfl) h
theorem step_N (hk : kindR E.effs rop = .N) (h : StepR E fb d rop H A v H' A') :
    A' = A ∧ ∃ (d' : Nat) (c : List CV), d = some d' ∧ H (E.off + d') = none ∧ H' = upd H (E.off + d') (some c) ∧ ∀ H2 A2, H2 (E.off + d') = none → StepR E fb d rop H2 A2 v (upd H2 (E.off + d') (some c)) A2 := by
  cases rop with
  | alloc T =>
    obtain ⟨d', rfl, h⟩ := Opt.iff.1 h
    obtain ⟨z, hz, h0, rfl, rfl, rfl⟩ := Opt.iff.1 h
    exact ⟨rfl, d', z, rfl, h0, rfl, fun H2 A2 h2 => Opt.iff.2 ⟨z, hz, h2, rfl, rfl, rfl⟩⟩
  | box T x =>
    obtain ⟨d', rfl, h⟩ := Opt.iff.1 h
    obtain ⟨z, hz, h0, rfl, rfl, rfl⟩ := Opt.iff.1 h
    exact ⟨rfl, d', z, rfl, h0, rfl, fun H2 A2 h2 => Opt.iff.2 ⟨z, hz, h2, rfl, rfl, rfl⟩⟩
  | call f args => rcases kindF_or E.effs f with e | ⟨e, _⟩ | ⟨e, _⟩ | ⟨e, _⟩ <;> (rw [show kindR E.effs (.call f args) = kindF E.effs f from rfl, e] at hk; cases hk)
  | blt b ats T args => cases b <;> first | (cases hk; done) | (rcases kindL_or E.effs ats with ⟨e, _⟩ | ⟨e, _⟩ <;> (rw [show kindR E.effs (.blt .len ats T args) = kindL E.effs ats from rfl, e] at hk; cases hk))
  | mks T l c => rcases kindK_or E.effs T with ⟨e, _⟩ | ⟨e, _⟩ <;> (rw [show kindR E.effs (.mks T l c) = kindK E.effs T from rfl, e] at hk; cases hk)
  | bsl T m ps => rcases kindB_or E.effs T with ⟨e, _⟩ | ⟨e, _⟩ <;> (rw [show kindR E.effs (.bsl T m ps) = kindB E.effs T from rfl, e] at hk; cases hk)
  | conv s dt x => rcases kindV_or E.effs s dt with ⟨e, _⟩ | ⟨e, _⟩ | ⟨e, _⟩ <;> (rw [show kindR E.effs (.conv s dt x) = kindV E.effs s dt from rfl, e] at hk; cases hk)
  | _ => cases hk
theorem loadS_ns {P : Program} {l : List Nat} {T : TypeId} {a : PV} {H3 : HMap} {A3 : AMap} (h : loadS P (some l) H A T a = some v) (hH : ∀ id, blocked (some l) id = false → H3 id = H id) : loadS P (some l) H3 A3 T a = some v := by
  unfold loadS at h ⊢
  split at h
  · split at h
    · cases h
    · rename_i hb
      rw [if_neg hb, hH _ (by simpa using hb)]
      exact h
  · exact h
  · simp at h
  · cases h
theorem step_L (hk : kindR E.effs rop = .L) (h : StepR E fb d rop H A v H' A') :
    H' = H ∧ A' = A ∧ ∀ l, fb = some l → ∀ H2 A2, (∀ id, blocked fb id = false → H2 id = H id) → StepR E fb d rop H2 A2 v H2 A2 := by
  cases rop with
  | load T a =>
    obtain ⟨z, hz, rfl, rfl, rfl⟩ := Opt.iff.1 h
    refine ⟨rfl, rfl, fun l hl H2 A2 hH => ?_⟩
    subst hl
    exact Opt.iff.2 ⟨z, loadS_ns hz hH, rfl, rfl, rfl⟩
  | call f args => rcases kindF_or E.effs f with e | ⟨e, _⟩ | ⟨e, _⟩ | ⟨e, _⟩ <;> (rw [show kindR E.effs (.call f args) = kindF E.effs f from rfl, e] at hk; cases hk)
  | blt b ats T args => cases b <;> first | (cases hk; done) | (rcases kindL_or E.effs ats with ⟨e, _⟩ | ⟨e, _⟩ <;> (rw [show kindR E.effs (.blt .len ats T args) = kindL E.effs ats from rfl, e] at hk; cases hk))
  | mks T l c => rcases kindK_or E.effs T with ⟨e, _⟩ | ⟨e, _⟩ <;> (rw [show kindR E.effs (.mks T l c) = kindK E.effs T from rfl, e] at hk; cases hk)
  | bsl T m ps => rcases kindB_or E.effs T with ⟨e, _⟩ | ⟨e, _⟩ <;> (rw [show kindR E.effs (.bsl T m ps) = kindB E.effs T from rfl, e] at hk; cases hk)
  | conv s dt x => rcases kindV_or E.effs s dt with ⟨e, _⟩ | ⟨e, _⟩ | ⟨e, _⟩ <;> (rw [show kindR E.effs (.conv s dt x) = kindV E.effs s dt from rfl, e] at hk; cases hk)
  | _ => cases hk
theorem step_Q (hk : kindR E.effs rop = .Q) (h : StepR E fb d rop H A v H' A') : H' = H ∧ A' = A := by
  cases rop with
  | call f args =>
    rcases kindF_or E.effs f with e | ⟨e, _⟩ | ⟨_, hf, hq⟩ | ⟨e, _⟩
    · rw [show kindR E.effs (.call f args) = kindF E.effs f from rfl, e] at hk; cases hk
    · rw [show kindR E.effs (.call f args) = kindF E.effs f from rfl, e] at hk; cases hk
    · replace h := (step_call h).1
      unfold callV at h
      rw [hf, hq] at h
      obtain ⟨v', _, _, rfl, rfl, rfl⟩ := h
      exact ⟨rfl, rfl⟩
    · rw [show kindR E.effs (.call f args) = kindF E.effs f from rfl, e] at hk; cases hk
  | blt b ats T args =>
    cases b with
    | len =>
      rcases kindL_or E.effs ats with ⟨_, e⟩ | ⟨e, _⟩
      · change (match isCount E.effs ats with
          | true => Opt (lenM E.P A ats args) fun v' => v' = v ∧ H = H' ∧ A = A'
          | false => pureV E.P (.blt .len ats T args) fun v' => v' = v ∧ H = H' ∧ A = A') at h
        rw [e] at h
        obtain ⟨v', _, rfl, rfl, rfl⟩ := Opt.iff.1 h
        exact ⟨rfl, rfl⟩
      · rw [show kindR E.effs (.blt .len ats T args) = kindL E.effs ats from rfl, e] at hk; cases hk
    | _ => cases hk
  | conv s dt x =>
    rcases kindV_or E.effs s dt with ⟨e, _⟩ | ⟨_, e, e2⟩ | ⟨e, _⟩
    · rw [show kindR E.effs (.conv s dt x) = kindV E.effs s dt from rfl, e] at hk; cases hk
    · change (match isFresh E.effs dt with
        | true => bytV E d s dt x A fun v' A'' => v' = v ∧ H = H' ∧ A'' = A'
        | false => (match isQuiet E.effs s with
          | true => Opt (convA E.P A s dt x) fun v' => v' = v ∧ H = H' ∧ A = A'
          | false => pureV E.P (.conv s dt x) fun v' => v' = v ∧ H = H' ∧ A = A')) at h
      rw [e, e2] at h
      obtain ⟨v', _, rfl, rfl, rfl⟩ := Opt.iff.1 h
      exact ⟨rfl, rfl⟩
    · rw [show kindR E.effs (.conv s dt x) = kindV E.effs s dt from rfl, e] at hk; cases hk
  | mks T l c => rcases kindK_or E.effs T with ⟨e, _⟩ | ⟨e, _⟩ <;> (rw [show kindR E.effs (.mks T l c) = kindK E.effs T from rfl, e] at hk; cases hk)
  | bsl T m ps => rcases kindB_or E.effs T with ⟨e, _⟩ | ⟨e, _⟩ <;> (rw [show kindR E.effs (.bsl T m ps) = kindB E.effs T from rfl, e] at hk; cases hk)
  | _ => cases hk
theorem step_R (hk : kindR E.effs rop = .R) (h : StepR E fb d rop H A v H' A') : H' = H ∧ A' = A ∧ Above (E.off + 1000) H A ∧
    ∀ H2 : HMap, (∀ id, H id ≠ none → H2 id = H id) → (∀ id, E.off + 1000 ≤ id → H2 id = none) → StepR E fb d rop H2 A v H2 A := by
  cases rop with
  | call f args =>
    rcases kindF_or E.effs f with e | ⟨e, _⟩ | ⟨e, _⟩ | ⟨_, hf, hq, hr⟩
    · rw [show kindR E.effs (.call f args) = kindF E.effs f from rfl, e] at hk; cases hk
    · rw [show kindR E.effs (.call f args) = kindF E.effs f from rfl, e] at hk; cases hk
    · rw [show kindR E.effs (.call f args) = kindF E.effs f from rfl, e] at hk; cases hk
    · replace h := (step_call h).1
      unfold callV at h
      rw [hf, hq, hr] at h
      obtain ⟨v', h1, hab, rfl, rfl, rfl⟩ := h
      refine ⟨rfl, rfl, hab, fun H2 k1 k2 => ?_⟩
      refine call_step ?_ (fun _ _ _ => rfl)
      unfold callV
      rw [hf, hq, hr]
      exact ⟨v', fun H3 j1 j2 => h1 H3 (fun id hi => (j1 id (by rw [k1 id hi]; exact hi)).trans (k1 id hi)) j2, fun id hi => ⟨k2 id hi, (hab id hi).2⟩, rfl, rfl, rfl⟩
  | blt b ats T args => cases b <;> first | (cases hk; done) | (rcases kindL_or E.effs ats with ⟨e, _⟩ | ⟨e, _⟩ <;> (rw [show kindR E.effs (.blt .len ats T args) = kindL E.effs ats from rfl, e] at hk; cases hk))
  | mks T l c => rcases kindK_or E.effs T with ⟨e, _⟩ | ⟨e, _⟩ <;> (rw [show kindR E.effs (.mks T l c) = kindK E.effs T from rfl, e] at hk; cases hk)
  | bsl T m ps => rcases kindB_or E.effs T with ⟨e, _⟩ | ⟨e, _⟩ <;> (rw [show kindR E.effs (.bsl T m ps) = kindB E.effs T from rfl, e] at hk; cases hk)
  | conv s dt x => rcases kindV_or E.effs s dt with ⟨e, _⟩ | ⟨e, _⟩ | ⟨e, _⟩ <;> (rw [show kindR E.effs (.conv s dt x) = kindV E.effs s dt from rfl, e] at hk; cases hk)
  | _ => cases hk
theorem storeS_ns {P : Program} {l : List Nat} {T : TypeId} {a x : PV} {m : HMap × AMap} (h : storeS P (some l) H A T a x = some m) : m.2 = A ∧ ∀ A3, storeS P (some l) H A3 T a x = some (m.1, A3) := by
  unfold storeS at h
  rw [Option.bind_eq_some_iff] at h
  obtain ⟨ys, hys, h⟩ := h
  split at h
  · rename_i hc
    split at h
    · obtain ⟨h, hg⟩ := stoG_some h
      rw [Option.bind_eq_some_iff] at h
      obtain ⟨cs, hcs, h⟩ := h
      split at h
      · rename_i hl
        cases h
        refine ⟨rfl, fun A3 => ?_⟩
        simp only [storeS, hys, Option.bind_some]
        rw [if_pos hc]
        simp only [stoG_of hg, hcs, Option.bind_some, if_pos hl]
      · cases h
    · simp at h
    · cases h
  · cases h
theorem storeS_out {P : Program} {l : List Nat} {T : TypeId} {a x : PV} {m : HMap × AMap} (h : storeS P (some l) H A T a x = some m) (hlw : lwOf (some l) = true) : ∀ id, blocked (some l) id = false → m.1 id = H id := by
  unfold storeS at h
  rw [Option.bind_eq_some_iff] at h
  obtain ⟨ys, hys, h⟩ := h
  split at h
  · split at h
    · obtain ⟨h, hg⟩ := stoG_some h
      rw [Option.bind_eq_some_iff] at h
      obtain ⟨cs, hcs, h⟩ := h
      split at h
      · cases h
        intro i hi
        refine upd_other _ _ fun e => ?_
        rw [e, hg hlw] at hi
        cases hi
      · cases h
    · simp at h
    · cases h
  · cases h
theorem step_Wo (hk : kindR E.effs rop = .W) (h : StepR E fb d rop H A v H' A') (hlw : lwOf fb = true) : ∀ id, blocked fb id = false → H' id = H id := by
  cases rop with
  | store T a x =>
    obtain ⟨h0, h⟩ := h
    obtain ⟨m, hz, rfl, rfl, rfl⟩ := Opt.iff.1 h
    cases fb with
    | none => cases hlw
    | some l => exact storeS_out hz hlw
  | call f args => rcases kindF_or E.effs f with e | ⟨e, _⟩ | ⟨e, _⟩ | ⟨e, _⟩ <;> (rw [show kindR E.effs (.call f args) = kindF E.effs f from rfl, e] at hk; cases hk)
  | blt b ats T args => cases b <;> first | (cases hk; done) | (rcases kindL_or E.effs ats with ⟨e, _⟩ | ⟨e, _⟩ <;> (rw [show kindR E.effs (.blt .len ats T args) = kindL E.effs ats from rfl, e] at hk; cases hk))
  | mks T l c => rcases kindK_or E.effs T with ⟨e, _⟩ | ⟨e, _⟩ <;> (rw [show kindR E.effs (.mks T l c) = kindK E.effs T from rfl, e] at hk; cases hk)
  | bsl T m ps => rcases kindB_or E.effs T with ⟨e, _⟩ | ⟨e, _⟩ <;> (rw [show kindR E.effs (.bsl T m ps) = kindB E.effs T from rfl, e] at hk; cases hk)
  | conv s dt x => rcases kindV_or E.effs s dt with ⟨e, _⟩ | ⟨e, _⟩ | ⟨e, _⟩ <;> (rw [show kindR E.effs (.conv s dt x) = kindV E.effs s dt from rfl, e] at hk; cases hk)
  | _ => cases hk
theorem step_W (hk : kindR E.effs rop = .W) (h : StepR E fb d rop H A v H' A') : ∀ l, fb = some l → A' = A ∧ ∀ A2, StepR E fb d rop H A2 v H' A2 := by
  cases rop with
  | store T a x =>
    obtain ⟨h0, h⟩ := h
    obtain ⟨m, hz, rfl, rfl, rfl⟩ := Opt.iff.1 h
    intro l hl
    subst hl
    obtain ⟨h1, h2⟩ := storeS_ns hz
    exact ⟨h1, fun A2 => ⟨h0, Opt.iff.2 ⟨_, h2 A2, rfl, rfl, rfl⟩⟩⟩
  | call f args => rcases kindF_or E.effs f with e | ⟨e, _⟩ | ⟨e, _⟩ | ⟨e, _⟩ <;> (rw [show kindR E.effs (.call f args) = kindF E.effs f from rfl, e] at hk; cases hk)
  | blt b ats T args => cases b <;> first | (cases hk; done) | (rcases kindL_or E.effs ats with ⟨e, _⟩ | ⟨e, _⟩ <;> (rw [show kindR E.effs (.blt .len ats T args) = kindL E.effs ats from rfl, e] at hk; cases hk))
  | mks T l c => rcases kindK_or E.effs T with ⟨e, _⟩ | ⟨e, _⟩ <;> (rw [show kindR E.effs (.mks T l c) = kindK E.effs T from rfl, e] at hk; cases hk)
  | bsl T m ps => rcases kindB_or E.effs T with ⟨e, _⟩ | ⟨e, _⟩ <;> (rw [show kindR E.effs (.bsl T m ps) = kindB E.effs T from rfl, e] at hk; cases hk)
  | conv s dt x => rcases kindV_or E.effs s dt with ⟨e, _⟩ | ⟨e, _⟩ | ⟨e, _⟩ <;> (rw [show kindR E.effs (.conv s dt x) = kindV E.effs s dt from rfl, e] at hk; cases hk)
  | _ => cases hk
theorem step_C (hk : kindR E.effs rop = .C) (h : StepR E fb d rop H A v H' A') (hkp : isKeep fb = true) : ∀ id, blocked fb id = false → H' id = H id := by
  cases rop with
  | call f args => exact fun id hid => (step_call h).2 hkp id (keepL_of hkp hid)
  | blt b ats T args => cases b <;> first | (cases hk; done) | (rcases kindL_or E.effs ats with ⟨e, _⟩ | ⟨e, _⟩ <;> (rw [show kindR E.effs (.blt .len ats T args) = kindL E.effs ats from rfl, e] at hk; cases hk))
  | mks T l c => rcases kindK_or E.effs T with ⟨e, _⟩ | ⟨e, _⟩ <;> (rw [show kindR E.effs (.mks T l c) = kindK E.effs T from rfl, e] at hk; cases hk)
  | bsl T m ps => rcases kindB_or E.effs T with ⟨e, _⟩ | ⟨e, _⟩ <;> (rw [show kindR E.effs (.bsl T m ps) = kindB E.effs T from rfl, e] at hk; cases hk)
  | conv s dt x => rcases kindV_or E.effs s dt with ⟨e, _⟩ | ⟨e, _⟩ | ⟨e, _⟩ <;> (rw [show kindR E.effs (.conv s dt x) = kindV E.effs s dt from rfl, e] at hk; cases hk)
  | _ => cases hk
theorem step_A (hk : kindR E.effs rop = .A) (h : StepR E fb d rop H A v H' A') : H' = H ∧ ∀ H2, StepR E fb d rop H2 A v H2 A' := by
  cases rop with
  | call f args =>
    rcases kindF_or E.effs f with e | ⟨_, hf', hq', hr'⟩ | ⟨e, _⟩ | ⟨e, _⟩
    · rw [show kindR E.effs (.call f args) = kindF E.effs f from rfl, e] at hk; cases hk
    · replace h := (step_call h).1
      unfold callV at h
      rw [hf', hq', hr'] at h
      obtain ⟨r, h1, h2, rfl, rfl, rfl⟩ := h
      refine ⟨rfl, fun H2 => ?_⟩
      refine call_step ?_ (fun _ _ _ => rfl)
      unfold callV
      rw [hf', hq', hr']
      exact ⟨r, h1, h2, rfl, rfl, rfl⟩
    · rw [show kindR E.effs (.call f args) = kindF E.effs f from rfl, e] at hk; cases hk
    · rw [show kindR E.effs (.call f args) = kindF E.effs f from rfl, e] at hk; cases hk
  | blt b ats T args =>
    cases b with
    | append =>
      change appC E d H A ats args (fun v' H'' A'' => v' = v ∧ H'' = H' ∧ A'' = A') at h
      unfold appC at h
      split at h
      · obtain ⟨d', rfl, h0⟩ := Opt.iff.1 h
        obtain ⟨v1, A1, h1, rfl, rfl, rfl⟩ := appV_ex h0
        refine ⟨rfl, fun H2 => ?_⟩
        have e : (fun v' A'' => v' = v1 ∧ A'' = A1) = (fun v' A'' => v' = v1 ∧ H2 = H2 ∧ A'' = A1) := by funext; simp
        show appV E.P E.md E.off d' A ats _ _ (fun v' A'' => v' = v1 ∧ H2 = H2 ∧ A'' = A1)
        rw [← e]
        exact h1
      · exact h.elim
    | len => rcases kindL_or E.effs ats with ⟨e, _⟩ | ⟨e, _⟩ <;> (rw [show kindR E.effs (.blt .len ats T args) = kindL E.effs ats from rfl, e] at hk; cases hk)
    | _ => cases hk
  | bsl T m ps => rcases kindB_or E.effs T with ⟨e, _⟩ | ⟨e, _⟩ <;> (rw [show kindR E.effs (.bsl T m ps) = kindB E.effs T from rfl, e] at hk; cases hk)
  | mks T l c =>
    rcases kindK_or E.effs T with ⟨_, e⟩ | ⟨e, _⟩
    · have key : ∀ (H H' : HMap) (K : Prop), StepR E fb d (.mks T l c) H A v H' A' = mksV E d T l c A (fun v' A'' => v' = v ∧ H = H' ∧ A'' = A') := fun H H' K => by
        show (match isMut E.effs T with
          | true => mksV E d T l c A fun v' A'' => v' = v ∧ H = H' ∧ A'' = A'
          | false => pureV E.P (.mks T l c) fun v' => v' = v ∧ H = H' ∧ A = A') = _
        rw [e]
      rw [key H H' True] at h
      obtain ⟨d', hd', h⟩ := Opt.iff.1 h
      obtain ⟨els, hels, hA0, h1, h2, h3⟩ := Opt.iff.1 h
      refine ⟨h2.symm, fun H2 => ?_⟩
      rw [key H2 H2 True]
      exact Opt.iff.2 ⟨d', hd', Opt.iff.2 ⟨els, hels, hA0, h1, rfl, h3⟩⟩
    · rw [show kindR E.effs (.mks T l c) = kindK E.effs T from rfl, e] at hk; cases hk
  | conv s dt x =>
    rcases kindV_or E.effs s dt with ⟨_, e⟩ | ⟨e, _⟩ | ⟨e, _⟩
    · have key : ∀ (H H' : HMap) (K : Prop), StepR E fb d (.conv s dt x) H A v H' A' = bytV E d s dt x A (fun v' A'' => v' = v ∧ H = H' ∧ A'' = A') := fun H H' K => by
        show (match isFresh E.effs dt with
          | true => bytV E d s dt x A fun v' A'' => v' = v ∧ H = H' ∧ A'' = A'
          | false => (match isQuiet E.effs s with
            | true => Opt (convA E.P A s dt x) fun v' => v' = v ∧ H = H' ∧ A = A'
            | false => pureV E.P (.conv s dt x) fun v' => v' = v ∧ H = H' ∧ A = A')) = _
        rw [e]
      rw [key H H' True] at h
      unfold bytV at h
      obtain ⟨b1, h⟩ := h
      obtain ⟨d', hd', h⟩ := Opt.iff.1 h
      obtain ⟨s', hs', h⟩ := Opt.iff.1 h
      obtain ⟨hA0, h⟩ := h
      split at h
      · rename_i hmd
        obtain ⟨h1, h2, h3⟩ := h
        refine ⟨h2.symm, fun H2 => ?_⟩
        rw [key H2 H2 True]
        unfold bytV
        refine ⟨b1, Opt.iff.2 ⟨d', hd', Opt.iff.2 ⟨s', hs', hA0, ?_⟩⟩⟩
        rw [hmd]
        exact ⟨h1, rfl, h3⟩
      · rename_i hmd
        obtain ⟨h1, h2, h3⟩ := h
        refine ⟨h2.symm, fun H2 => ?_⟩
        rw [key H2 H2 True]
        unfold bytV
        refine ⟨b1, Opt.iff.2 ⟨d', hd', Opt.iff.2 ⟨s', hs', hA0, ?_⟩⟩⟩
        rw [hmd]
        exact ⟨h1, rfl, h3⟩
    · rw [show kindR E.effs (.conv s dt x) = kindV E.effs s dt from rfl, e] at hk; cases hk
    · rw [show kindR E.effs (.conv s dt x) = kindV E.effs s dt from rfl, e] at hk; cases hk
  | _ => cases hk
end
theorem upd_comm {α β : Type} [DecidableEq α] (f : α → β) {a b : α} (x y : β) (h : a ≠ b) : upd (upd f a x) b y = upd (upd f b y) a x := by
  funext z
  unfold upd
  by_cases h1 : z = b
  · subst h1; simp [Ne.symm h]
  · simp [h1]
def NewIn (E : Env) (fb : Option (List Nat)) (d : Option Nat) (rop : ROp) : Prop := ∀ l, fb = some l → kindR E.effs rop = .N → ∀ d', d = some d' → blocked fb (E.off + d') = true ∧ d' < 1000
theorem commute {E : Env} {fb : Option (List Nat)} {di dj : Option Nat} {ri rj : ROp} {H H1 H2 : HMap} {A A1 A2 : AMap} {v v2 : PV} (hc : compat (modeOf fb) (kindR E.effs ri) (kindR E.effs rj) = true)
    (hni : NewIn E fb di ri) (hnj : NewIn E fb dj rj) (hi : StepR E fb di ri H A v H1 A1) (hj : StepR E fb dj rj H1 A1 v2 H2 A2) :
    ∃ H1' A1', StepR E fb dj rj H A v2 H1' A1' ∧ StepR E fb di ri H1' A1' v H2 A2 := by
  have pl : kindR E.effs ri = .P → ∃ H1' A1', StepR E fb dj rj H A v2 H1' A1' ∧ StepR E fb di ri H1' A1' v H2 A2 := fun e => by
    obtain ⟨rfl, rfl, h⟩ := step_P e hi
    exact ⟨H2, A2, hj, h H2 A2⟩
  have pr : kindR E.effs rj = .P → ∃ H1' A1', StepR E fb dj rj H A v2 H1' A1' ∧ StepR E fb di ri H1' A1' v H2 A2 := fun e => by
    obtain ⟨rfl, rfl, h⟩ := step_P e hj
    exact ⟨H, A, h H A, hi⟩
  have hsome : fb.isSome = true → ∃ l, fb = some l := fun h => Option.isSome_iff_exists.1 h
  cases ki : kindR E.effs ri <;> cases kj : kindR E.effs rj <;> first
    | exact pl ki
    | exact pr kj
    | (rw [ki, kj] at hc; cases hc; done)
    | skip
  · -- N N
    obtain ⟨rfl, a, ca, rfl, ha, rfl, hA⟩ := step_N ki hi
    obtain ⟨rfl, b, cb, rfl, hb, rfl, hB⟩ := step_N kj hj
    have hne : E.off + a ≠ E.off + b := fun e => by rw [← e, upd_same] at hb; cases hb
    rw [upd_other _ _ (Ne.symm hne)] at hb
    exact ⟨_, _, hB H _ hb, by rw [upd_comm _ _ _ hne]; exact hA _ _ (by rw [upd_other _ _ hne]; exact ha)⟩
  · -- N L
    rw [ki, kj] at hc
    obtain ⟨l, rfl⟩ := hsome hc
    obtain ⟨rfl, a, ca, rfl, ha, rfl, hA⟩ := step_N ki hi
    obtain ⟨rfl, rfl, hB⟩ := step_L kj hj
    refine ⟨H, _, hB l rfl H _ (fun id hid => ?_), hA H _ ha⟩
    rw [upd_other]
    intro e
    subst e
    rw [(hni l rfl ki a rfl).1] at hid
    cases hid
  · -- N A
    obtain ⟨rfl, a, ca, rfl, ha, rfl, hA⟩ := step_N ki hi
    obtain ⟨rfl, hB⟩ := step_A kj hj
    exact ⟨H, A2, hB H, hA H A2 ha⟩
  · -- L N
    rw [ki, kj] at hc
    obtain ⟨l, rfl⟩ := hsome hc
    obtain ⟨rfl, rfl, hA⟩ := step_L ki hi
    obtain ⟨rfl, b, cb, rfl, hb, rfl, hB⟩ := step_N kj hj
    refine ⟨_, _, hB _ _ hb, hA l rfl _ _ (fun id hid => ?_)⟩
    rw [upd_other]
    intro e
    subst e
    rw [(hnj l rfl kj b rfl).1] at hid
    cases hid
  · -- L L
    obtain ⟨rfl, rfl, _⟩ := step_L ki hi
    obtain ⟨rfl, rfl, _⟩ := step_L kj hj
    exact ⟨_, _, hj, hi⟩
  · -- L W
    rw [ki, kj] at hc
    have hlw : lwOf fb = true := hc
    obtain ⟨l, hl⟩ : ∃ l, fb = some l := by
      cases fb with
      | none => cases hlw
      | some l => exact ⟨l, rfl⟩
    obtain ⟨rfl, rfl, hA⟩ := step_L ki hi
    exact ⟨_, _, hj, hA l hl _ _ (step_Wo kj hj hlw)⟩
  · -- L A
    rw [ki, kj] at hc
    obtain ⟨l, rfl⟩ := hsome hc
    obtain ⟨rfl, rfl, hA⟩ := step_L ki hi
    obtain ⟨rfl, hB⟩ := step_A kj hj
    exact ⟨_, _, hj, hA l rfl _ _ (fun _ _ => rfl)⟩
  · -- L Q
    obtain ⟨rfl, rfl, _⟩ := step_L ki hi
    obtain ⟨rfl, rfl⟩ := step_Q kj hj
    exact ⟨_, _, hj, hi⟩
  · -- L R
    obtain ⟨rfl, rfl, _⟩ := step_L ki hi
    obtain ⟨rfl, rfl, _⟩ := step_R kj hj
    exact ⟨_, _, hj, hi⟩
  · -- L C
    rw [ki, kj] at hc
    have hkp : isKeep fb = true := hc
    obtain ⟨l, hl⟩ : ∃ l, fb = some l := by
      cases fb with
      | none => cases hkp
      | some l => exact ⟨l, rfl⟩
    obtain ⟨rfl, rfl, hA⟩ := step_L ki hi
    exact ⟨_, _, hj, hA l hl _ _ (step_C kj hj hkp)⟩
  · -- W L
    rw [ki, kj] at hc
    have hlw : lwOf fb = true := hc
    obtain ⟨l, hl⟩ : ∃ l, fb = some l := by
      cases fb with
      | none => cases hlw
      | some l => exact ⟨l, rfl⟩
    obtain ⟨rfl, rfl, hB⟩ := step_L kj hj
    obtain ⟨rfl, _⟩ := step_W ki hi l hl
    exact ⟨_, _, hB l hl _ _ (fun id hid => (step_Wo ki hi hlw id hid).symm), hi⟩
  · -- W A
    rw [ki, kj] at hc
    obtain ⟨l, rfl⟩ := hsome hc
    obtain ⟨rfl, hA⟩ := step_W ki hi l rfl
    obtain ⟨rfl, hB⟩ := step_A kj hj
    exact ⟨_, _, hB H, hA _⟩
  · -- A N
    obtain ⟨rfl, hA⟩ := step_A ki hi
    obtain ⟨rfl, b, cb, rfl, hb, rfl, hB⟩ := step_N kj hj
    exact ⟨_, _, hB H1 A hb, hA _⟩
  · -- A L
    rw [ki, kj] at hc
    obtain ⟨l, rfl⟩ := hsome hc
    obtain ⟨rfl, hA⟩ := step_A ki hi
    obtain ⟨rfl, rfl, hB⟩ := step_L kj hj
    exact ⟨_, _, hB l rfl _ A (fun _ _ => rfl), hA _⟩
  · -- A W
    rw [ki, kj] at hc
    obtain ⟨l, rfl⟩ := hsome hc
    obtain ⟨rfl, hA⟩ := step_A ki hi
    obtain ⟨rfl, hB⟩ := step_W kj hj l rfl
    exact ⟨_, _, hB A, hA _⟩
  · -- Q L
    obtain ⟨rfl, rfl⟩ := step_Q ki hi
    obtain ⟨rfl, rfl, _⟩ := step_L kj hj
    exact ⟨_, _, hj, hi⟩
  · -- Q Q
    obtain ⟨rfl, rfl⟩ := step_Q ki hi
    obtain ⟨rfl, rfl⟩ := step_Q kj hj
    exact ⟨_, _, hj, hi⟩
  · -- Q R
    obtain ⟨rfl, rfl⟩ := step_Q ki hi
    obtain ⟨rfl, rfl, _⟩ := step_R kj hj
    exact ⟨_, _, hj, hi⟩
  · -- R N
    rw [ki, kj] at hc
    obtain ⟨l, rfl⟩ := hsome hc
    obtain ⟨rfl, rfl, hab, hR⟩ := step_R ki hi
    obtain ⟨rfl, b, cb, rfl, hb, rfl, hB⟩ := step_N kj hj
    have hlt := (hnj l rfl kj b rfl).2
    refine ⟨_, _, hB _ _ hb, hR _ (fun id hid => upd_other _ _ fun e => hid (by rw [e]; exact hb)) (fun id hid => ?_)⟩
    rw [upd_other _ _ (by omega)]
    exact (hab id hid).1
  · -- R L
    obtain ⟨rfl, rfl, _⟩ := step_R ki hi
    obtain ⟨rfl, rfl, _⟩ := step_L kj hj
    exact ⟨_, _, hj, hi⟩
  · -- R Q
    obtain ⟨rfl, rfl, _⟩ := step_R ki hi
    obtain ⟨rfl, rfl⟩ := step_Q kj hj
    exact ⟨_, _, hj, hi⟩
  · -- R R
    obtain ⟨rfl, rfl, _⟩ := step_R ki hi
    obtain ⟨rfl, rfl, _⟩ := step_R kj hj
    exact ⟨_, _, hj, hi⟩
  · -- C L
    rw [ki, kj] at hc
    have hkp : isKeep fb = true := hc
    obtain ⟨l, hl⟩ : ∃ l, fb = some l := by
      cases fb with
      | none => cases hkp
      | some l => exact ⟨l, rfl⟩
    obtain ⟨rfl, rfl, hB⟩ := step_L kj hj
    exact ⟨_, _, hB l hl _ _ (fun id hid => (step_C ki hi hkp id hid).symm), hi⟩
theorem put_comm (ρ : Nat → PV) {x y : Option Nat} (v u : PV) (h : ∀ d, x = some d → y ≠ some d) : put (put ρ x v) y u = put (put ρ y u) x v := by
  cases x with
  | none => rfl
  | some d => cases y with
    | none => rfl
    | some d' => exact upd_comm _ _ _ (fun e => h d rfl (by rw [e]))
theorem ev_put {ρ : Nat → PV} {d : Option Nat} {v : PV} {x : Operand} (h : ∀ t, d = some t → x ≠ .tmp t) : ev (put ρ d v) x = ev ρ x := by
  cases d with
  | none => rfl
  | some t =>
    cases x with
    | tmp t' => exact upd_other _ _ (fun e => h t rfl (by rw [e]))
    | _ => rfl
theorem map_put {ρ : Nat → PV} {d : Option Nat} {v : PV} {l : List Operand} (h : ∀ x ∈ l, ∀ t, d = some t → x ≠ .tmp t) : l.map (ev (put ρ d v)) = l.map (ev ρ) :=
  List.map_congr_left fun x hx => ev_put (h x hx)
theorem mem_tmps {l : List Operand} {t : Nat} (h : .tmp t ∈ l) : t ∈ l.filterMap (fun | .tmp t => some t | _ => none) := by
  rw [List.mem_filterMap]
  exact ⟨_, h, rfl⟩
theorem res_put {ops : Array Oper} {o : Oper} {ρ : Nat → PV} {d : Option Nat} {v : PV} (hd : ∀ t, d = some t → t ∉ o.looksAt ops) (hs : ∀ cs b, o.op ≠ .select cs b) :
    res (ev (put ρ d v)) o.type o.op = res (ev ρ) o.type o.op := by
  have key : ∀ x ∈ o.op.operands.toList, ∀ t, d = some t → x ≠ .tmp t := by
    intro x hx t ht e
    subst e
    exact hd t ht (List.mem_append.2 (.inl (mem_tmps hx)))
  have one : ∀ x, x ∈ o.op.operands.toList → ev (put ρ d v) x = ev ρ x := fun x hx => ev_put (key x hx)
  have many : ∀ l : List Operand, (∀ x ∈ l, x ∈ o.op.operands.toList) → l.map (ev (put ρ d v)) = l.map (ev ρ) := fun l hl => map_put fun x hx => key x (hl x hx)
  generalize o.op = op at *
  generalize o.type = T
  cases op with
  | call c =>
    obtain ⟨callee, args, ats⟩ := c
    have ha : args.toList.map (ev (put ρ d v)) = args.toList.map (ev ρ) := many _ (fun x hx => by simp only [Op.operands, Call.operands, Array.toList_append, List.mem_append]; exact .inr hx)
    cases callee with
    | value x =>
      show resV (ev (put ρ d v)) x _ = resV (ev ρ) x _
      rw [ha]
      cases x with
      | tmp t =>
        show ROp.callv (ev (put ρ d v) (.tmp t)) _ = ROp.callv (ev ρ (.tmp t)) _
        rw [one (.tmp t) (by simp [Op.operands, Call.operands])]
      | _ => rfl
    | invoke r m => rfl
    | builtin b =>
      show ROp.blt b _ _ _ = ROp.blt b _ _ _
      rw [ha]
  | makeFunc fn first caps =>
    show resF (ev (put ρ d v)) fn first _ = resF (ev ρ) fn first _
    unfold resF
    rw [many caps.toList (fun x hx => by simp only [Op.operands, Array.toList_append, List.mem_append]; exact .inr hx), many first.toList (fun x hx => by simp only [Op.operands, Array.toList_append, List.mem_append]; exact .inl hx)]
  | build T' ps =>
    show ROp.build _ _ = ROp.build _ _
    congr 1
    apply List.map_congr_left
    intro p hp
    rw [one p.2 (by simp only [Op.operands]; exact List.mem_map.2 ⟨p, hp, rfl⟩)]
  | buildSlice T' n ps =>
    show ROp.bsl _ _ _ = ROp.bsl _ _ _
    congr 1
    apply List.map_congr_left
    intro p hp
    rw [one p.2 (by simp only [Op.operands]; exact List.mem_map.2 ⟨p, hp, rfl⟩)]
  | slice T' x lo hi mx =>
    show ROp.slc _ _ _ _ _ = ROp.slc _ _ _ _ _
    have e1 := one x (by simp [Op.operands])
    have e2 : lo.map (ev (put ρ d v)) = lo.map (ev ρ) := by
      cases lo with
      | none => rfl
      | some y => simp [one y (by simp [Op.operands])]
    have e3 : hi.map (ev (put ρ d v)) = hi.map (ev ρ) := by
      cases hi with
      | none => rfl
      | some y => simp [one y (by simp [Op.operands])]
    have e4 : mx.map (ev (put ρ d v)) = mx.map (ev ρ) := by
      cases mx with
      | none => rfl
      | some y => simp [one y (by simp [Op.operands])]
    rw [e1, e2, e3, e4]
  | select cs b => exact (hs cs b rfl).elim
  | _ => first
    | rfl
    | (simp only [res]; simp only [Op.operands, List.mem_cons, List.not_mem_nil, or_false, forall_eq_or_imp, forall_eq] at one; simp [one]; done)
    | (simp only [res]; rw [one _ (by simp [Op.operands])]; done)
    | (simp only [res]; rw [one _ (by simp [Op.operands]), one _ (by simp [Op.operands])]; done)
    | (simp only [res]; rw [one _ (by simp [Op.operands]), one _ (by simp [Op.operands]), one _ (by simp [Op.operands])]; done)
theorem guard_put {ops : Array Oper} {o : Oper} {ρ : Nat → PV} {d : Option Nat} {v : PV} (hd : ∀ t, d = some t → t ∉ o.looksAt ops) : guardA ops (put ρ d v) o.guard = guardA ops ρ o.guard := by
  unfold guardA
  cases hg : o.guard with
  | none => rfl
  | some p =>
    obtain ⟨j, want⟩ := p
    simp only
    cases ht : (ops[j]?).bind (·.dst) with
    | none => rfl
    | some t =>
      simp only
      have : ev (put ρ d v) (.tmp t) = ev ρ (.tmp t) := ev_put (fun t' ht' e => by
        cases e
        refine hd t ht' (List.mem_append.2 (.inr ?_))
        simp [hg, ht])
      exact congrArg (gOf want) this
def Yld (E : Env) (fb : Option (List Nat)) (ops : Array Oper) (o : Oper) (S : St) (v : PV) (H' : HMap) (A' : AMap) : Prop :=
  (guardA ops S.ρ o.guard = some true ∧ StepR E fb o.dst (res (ev S.ρ) o.type o.op) S.H S.A v H' A') ∨ (guardA ops S.ρ o.guard = some false ∧ v = .c .skip ∧ H' = S.H ∧ A' = S.A)
def AOp (E : Env) (fb : Option (List Nat)) (ops : Array Oper) (i : Nat) (K : St → Prop) (S : St) : Prop :=
  match ops[i]? with
  | none => K S
  | some o => ∃ v H' A', Yld E fb ops o S v H' A' ∧ K ⟨put S.ρ o.dst v, H', A'⟩
def anyA (E : Env) (fb : Option (List Nat)) (ops : Array Oper) (K : St → Prop) : Nat → Array Bool → St → Prop
  | 0, listed, S => Region.ready .any ops listed = [] ∧ K S
  | fuel + 1, listed, S => (Region.ready .any ops listed = [] → K S) ∧ ∀ i ∈ Region.ready .any ops listed, AOp E fb ops i (anyA E fb ops K fuel (listed.setIfInBounds i true)) S
def newOK (E : Env) (fb : Option (List Nat)) (o : Oper) : Prop := ∀ l, fb = some l → kind E.effs o.op = .N → ∀ d', o.dst = some d' → blocked fb (E.off + d') = true ∧ d' < 1000
theorem yld_comm {E : Env} {fb : Option (List Nat)} {ops : Array Oper} {oi oj : Oper} (hap : oi.apart ops oj = true) (hc : compat (modeOf fb) (kind E.effs oi.op) (kind E.effs oj.op) = true)
    (hsi : ∀ cs b, oi.op ≠ .select cs b) (hsj : ∀ cs b, oj.op ≠ .select cs b) (hni : newOK E fb oi) (hnj : newOK E fb oj) {S : St} {v v2 : PV} {H1 H2 : HMap} {A1 A2 : AMap}
    (hi : Yld E fb ops oi S v H1 A1) (hj : Yld E fb ops oj ⟨put S.ρ oi.dst v, H1, A1⟩ v2 H2 A2) :
    ∃ H1' A1', Yld E fb ops oj S v2 H1' A1' ∧ Yld E fb ops oi ⟨put S.ρ oj.dst v2, H1', A1'⟩ v H2 A2 := by
  obtain ⟨h1, h2, h3⟩ := Oper.apart_spec hap
  have gj : guardA ops (put S.ρ oi.dst v) oj.guard = guardA ops S.ρ oj.guard := guard_put h1
  have rj : res (ev (put S.ρ oi.dst v)) oj.type oj.op = res (ev S.ρ) oj.type oj.op := res_put h1 hsj
  have gi : guardA ops (put S.ρ oj.dst v2) oi.guard = guardA ops S.ρ oi.guard := guard_put h3
  have ri : res (ev (put S.ρ oj.dst v2)) oi.type oi.op = res (ev S.ρ) oi.type oi.op := res_put h3 hsi
  unfold Yld at *
  simp only [gj, rj, gi, ri] at *
  rcases hi with ⟨g1, s1⟩ | ⟨g1, rfl, rfl, rfl⟩ <;> rcases hj with ⟨g2, s2⟩ | ⟨g2, rfl, rfl, rfl⟩
  · obtain ⟨H1', A1', t1, t2⟩ := commute (by rw [kind_res hsi, kind_res hsj]; exact hc) (fun l hl hk => hni l hl (by rw [← kind_res hsi]; exact hk)) (fun l hl hk => hnj l hl (by rw [← kind_res hsj]; exact hk)) s1 s2
    exact ⟨H1', A1', .inl ⟨g2, t1⟩, .inl ⟨g1, t2⟩⟩
  · exact ⟨_, _, .inr ⟨g2, rfl, rfl, rfl⟩, .inl ⟨g1, s1⟩⟩
  · exact ⟨_, _, .inl ⟨g2, s2⟩, .inr ⟨g1, rfl, rfl, rfl⟩⟩
  · exact ⟨_, _, .inr ⟨g2, rfl, rfl, rfl⟩, .inr ⟨g1, rfl, rfl, rfl⟩⟩
structure Behind (ops : Array Oper) (i : Nat) (Dp : Nat → Bool) : Prop where
  step : ∀ j oj, ops[j]? = some oj → j ≠ i → Dp j = true → ∃ e ∈ oj.after, Region.binds .any e = true ∧ (e.on = i ∨ (e.on ≠ i ∧ Dp e.on = true))
theorem anyA_first {E : Env} {fb : Option (List Nat)} {ops : Array Oper} {K : St → Prop} {i : Nat} {oi : Oper} {v : PV} {Dp : Nat → Bool} (hi : ops[i]? = some oi) (hsel : ∀ (j : Nat) (o : Oper) cs b, ops[j]? = some o → o.op ≠ .select cs b)
    (hnew : ∀ (j : Nat) (o : Oper), ops[j]? = some o → newOK E fb o) (hbe : Behind ops i Dp) :
    ∀ (fuel : Nat) (listed : Array Bool) (S : St) (H1 : HMap) (A1 : AMap), (∀ j, j ≠ i → Dp j = true → listed.getD j true = false) →
      (∀ j oj, ops[j]? = some oj → j ≠ i → listed.getD j true = false → Dp j = false → oi.apart ops oj = true ∧ compat (modeOf fb) (kind E.effs oi.op) (kind E.effs oj.op) = true) →
      i ∈ Region.ready .any ops listed → Yld E fb ops oi S v H1 A1 →
      anyA E fb ops K fuel (listed.setIfInBounds i true) ⟨put S.ρ oi.dst v, H1, A1⟩ → anyA E fb ops K (fuel + 1) listed S := by
  intro fuel
  induction fuel with
  | zero =>
    intro listed S H1 A1 _ _ hr hy h
    refine ⟨fun h => (by rw [h] at hr; cases hr), fun j hj => ?_⟩
    by_cases hji : j = i
    · subst hji
      unfold AOp
      simp only [hi]
      exact ⟨v, H1, A1, hy, h⟩
    · have := ready_mono hj hji
      rw [h.1] at this
      cases this
  | succ fuel ih =>
    intro listed S H1 A1 hinv hfree hr hy h
    refine ⟨fun h => (by rw [h] at hr; cases hr), fun j hj => ?_⟩
    by_cases hji : j = i
    · subst hji
      unfold AOp
      simp only [hi]
      exact ⟨v, H1, A1, hy, h⟩
    · have h1 := h.2 j (ready_mono hj hji)
      obtain ⟨hjun, oj, hoj, hall⟩ := mem_ready.1 hj
      have hnot : Dp j = false := by
        cases hd : Dp j with
        | false => rfl
        | true =>
          obtain ⟨e, he, hb, hon⟩ := hbe.step j oj hoj hji hd
          have h1 := hall e he hb
          have h0 : listed.getD e.on true = false := by
            rcases hon with rfl | ⟨hne, hdp⟩
            · exact (mem_ready.1 hr).1
            · exact hinv _ hne hdp
          rcases Nat.lt_or_ge e.on listed.size with h' | h'
          · simp [h'] at h0 h1; rw [h0] at h1; cases h1
          · simp [Array.getElem?_eq_none h'] at h1
      obtain ⟨hap, hcc⟩ := hfree j oj hoj hji hjun hnot
      unfold AOp at h1 ⊢
      simp only [hoj] at h1 ⊢
      obtain ⟨v2, H2, A2, hy2, hK⟩ := h1
      obtain ⟨H1', A1', c1, c2⟩ := yld_comm hap hcc (fun cs b => hsel i oi cs b hi) (fun cs b => hsel j oj cs b hoj) (hnew i oi hi) (hnew j oj hoj) hy hy2
      refine ⟨v2, H1', A1', c1, ?_⟩
      have hinv' : ∀ k, k ≠ i → Dp k = true → (listed.setIfInBounds j true).getD k true = false := fun k hki hdk => by
        have hjk : j ≠ k := fun e => by rw [e, hdk] at hnot; cases hnot
        rw [getD_set_ne true hjk]
        exact hinv k hki hdk
      have hfree' : ∀ k ok, ops[k]? = some ok → k ≠ i → (listed.setIfInBounds j true).getD k true = false →
          Dp k = false → oi.apart ops ok = true ∧ compat (modeOf fb) (kind E.effs oi.op) (kind E.effs ok.op) = true := fun k ok hk hki hun hno => by
        refine hfree k ok hk hki ?_ hno
        by_cases hjk : j = k
        · subst hjk; exact hjun
        · rw [getD_set_ne true hjk] at hun; exact hun
      refine ih (listed.setIfInBounds j true) _ H2 A2 hinv' hfree' (ready_mono hr (Ne.symm hji)) c2 ?_
      rw [Array.setIfInBounds_comm _ _ hji]
      rw [put_comm _ _ _ (fun d hd he => (Oper.apart_spec hap).2.1 d he hd)]
      exact hK
def bitsOf (l : List Nat) : Nat := l.foldr (fun i m => m ||| (1 <<< i)) 0
theorem testBit_bitsOf {i : Nat} : ∀ {l : List Nat}, (bitsOf l).testBit i = l.contains i
  | [] => by simp [bitsOf]
  | a :: l => by
    have ih := testBit_bitsOf (i := i) (l := l)
    unfold bitsOf at ih ⊢
    rw [List.foldr_cons, Nat.testBit_or, ih, Nat.one_shiftLeft, Nat.testBit_two_pow, List.contains_cons, Bool.or_comm]
    congr 1
    by_cases h : a = i
    · subst h; simp
    · have h' : i ≠ a := fun e => h e.symm
      simp [h, h']
structure Sm where
  dst : Option Nat
  looks : Nat
  after : Nat
  kd : Kd
def ons (o : Oper) : List Nat := o.after.toList.filterMap fun e => if Region.binds .any e = true then some e.on else none
def smOf (effs : List FuncId) (ops : Array Oper) (o : Oper) : Sm := ⟨o.dst, bitsOf (o.looksAt ops), bitsOf (ons o), kind effs o.op⟩
def apartS (x y : Sm) : Bool :=
  (match x.dst with
   | some d => !(y.looks.testBit d) && y.dst != some d
   | none => true) &&
  (match y.dst with
   | some d => !(x.looks.testBit d)
   | none => true)
theorem apartS_eq {effs : List FuncId} {ops : Array Oper} {x y : Oper} : apartS (smOf effs ops x) (smOf effs ops y) = x.apart ops y := by
  unfold apartS Oper.apart smOf
  simp only [testBit_bitsOf]
  rfl
theorem mem_ons {o : Oper} {i : Nat} : i ∈ ons o ↔ ∃ e ∈ o.after, Region.binds .any e = true ∧ e.on = i := by
  unfold ons
  rw [List.mem_filterMap]
  constructor
  · rintro ⟨e, he, h⟩
    split at h
    · rename_i hb
      cases h
      exact ⟨e, by simpa using he, hb, rfl⟩
    · cases h
  · rintro ⟨e, he, hb, rfl⟩
    exact ⟨e, by simpa using he, by rw [if_pos hb]⟩
def orAnc (a : Nat) : List (Sm × Nat) → Nat → Nat → Nat
  | [], _, acc => acc
  | p :: r, i, acc => orAnc a r (i + 1) (bif a.testBit i then acc ||| p.2 else acc)
def okPairs (ns : Bool × Bool × Bool) (s : Sm) (anc : Nat) : List (Sm × Nat) → Nat → Bool
  | [], _ => true
  | p :: r, i => (anc.testBit i || (apartS p.1 s && compat ns p.1.kd s.kd)) && okPairs ns s anc r (i + 1)
def lexB (ns : Bool × Bool × Bool) : List Sm → List (Sm × Nat) → Nat → Bool
  | [], _, _ => true
  | s :: r, prev, j => Nat.beq (s.after >>> j) 0 && (okPairs ns s (orAnc s.after prev 0 s.after) prev 0 && lexB ns r (prev ++ [(s, orAnc s.after prev 0 s.after)]) (j + 1))
theorem orAnc_spec {a k : Nat} : ∀ {l : List (Sm × Nat)} {i acc : Nat}, (orAnc a l i acc).testBit k = true → acc.testBit k = true ∨ ∃ m p, l[m]? = some p ∧ a.testBit (i + m) = true ∧ p.2.testBit k = true
  | [], _, _, h => .inl h
  | p :: r, i, acc, h => by
    unfold orAnc at h
    rcases orAnc_spec h with h | ⟨m, q, h1, h2, h3⟩
    · cases hb : a.testBit i with
      | false => rw [hb] at h; exact .inl h
      | true =>
        rw [hb] at h
        simp only [cond_true, Nat.testBit_or, Bool.or_eq_true] at h
        rcases h with h | h
        · exact .inl h
        · exact .inr ⟨0, p, rfl, hb, h⟩
    · exact .inr ⟨m + 1, q, by simpa using h1, by rw [show i + (m + 1) = i + 1 + m by omega]; exact h2, h3⟩
theorem okPairs_spec {ns : Bool × Bool × Bool} {s : Sm} {anc : Nat} : ∀ {l : List (Sm × Nat)} {i : Nat}, okPairs ns s anc l i = true → ∀ m p, l[m]? = some p → anc.testBit (i + m) = true ∨ (apartS p.1 s = true ∧ compat ns p.1.kd s.kd = true)
  | [], _, _, m, p, hp => by simp at hp
  | q :: r, i, h, m, p, hp => by
    unfold okPairs at h
    simp only [Bool.and_eq_true, Bool.or_eq_true] at h
    cases m with
    | zero => simp at hp; subst hp; exact h.1
    | succ m =>
      have := okPairs_spec h.2 m p (by simpa using hp)
      rwa [show i + 1 + m = i + (m + 1) by omega] at this
structure Good (ns : Bool × Bool × Bool) (l : List (Sm × Nat)) : Prop where
  back : ∀ (j : Nat) (p : Sm × Nat) (i : Nat), l[j]? = some p → p.1.after.testBit i = true → i < j
  anc : ∀ (j : Nat) (p : Sm × Nat) (k : Nat), l[j]? = some p → p.2.testBit k = true → p.1.after.testBit k = true ∨ ∃ (i : Nat) (q : Sm × Nat), p.1.after.testBit i = true ∧ l[i]? = some q ∧ q.2.testBit k = true
  low : ∀ (j : Nat) (p : Sm × Nat) (k : Nat), l[j]? = some p → p.2.testBit k = true → k < j
  pair : ∀ (j : Nat) (p : Sm × Nat) (i : Nat) (q : Sm × Nat), l[j]? = some p → i < j → l[i]? = some q → p.2.testBit i = true ∨ (apartS q.1 p.1 = true ∧ compat ns q.1.kd p.1.kd = true)
theorem snoc_get {α : Type} {l : List α} {x y : α} {j : Nat} (h : (l ++ [x])[j]? = some y) : l[j]? = some y ∨ (j = l.length ∧ y = x) := by
  rcases Nat.lt_or_ge j l.length with hlt | hge
  · rw [List.getElem?_append_left hlt] at h; exact .inl h
  · rw [List.getElem?_append_right hge] at h
    rcases Nat.eq_zero_or_pos (j - l.length) with h0 | h0
    · rw [h0] at h
      exact .inr ⟨by omega, by simpa using h.symm⟩
    · rw [List.getElem?_eq_none (by simp; omega)] at h; cases h
theorem get_lt {α : Type} {l : List α} {y : α} {j : Nat} (h : l[j]? = some y) : j < l.length := (List.getElem?_eq_some_iff.1 h).1
theorem Good_snoc {ns : Bool × Bool × Bool} {prev : List (Sm × Nat)} {s : Sm} (g : Good ns prev) (h1 : Nat.beq (s.after >>> prev.length) 0 = true) (h2 : okPairs ns s (orAnc s.after prev 0 s.after) prev 0 = true) : Good ns (prev ++ [(s, orAnc s.after prev 0 s.after)]) := by
  have hlow : ∀ i, s.after.testBit i = true → i < prev.length := fun i hi => by
    refine Nat.lt_of_not_le fun hge => ?_
    have h0 : s.after >>> prev.length = 0 := Nat.eq_of_beq_eq_true h1
    have : (s.after >>> prev.length).testBit (i - prev.length) = s.after.testBit i := by
      rw [Nat.testBit_shiftRight, show prev.length + (i - prev.length) = i by omega]
    rw [h0, Nat.zero_testBit, hi] at this
    cases this
  have hanc : ∀ k, (orAnc s.after prev 0 s.after).testBit k = true → s.after.testBit k = true ∨ ∃ i q, s.after.testBit i = true ∧ prev[i]? = some q ∧ q.2.testBit k = true := fun k hk => by
    rcases orAnc_spec hk with h | ⟨m, p, e1, e2, e3⟩
    · exact .inl h
    · exact .inr ⟨m, p, by simpa using e2, e1, e3⟩
  refine ⟨fun j p i hj hi => ?_, fun j p k hj hk => ?_, fun j p k hj hk => ?_, fun j p i q hj hij hi => ?_⟩
  · rcases snoc_get hj with hj | ⟨rfl, rfl⟩
    · exact g.back j p i hj hi
    · exact hlow i hi
  · rcases snoc_get hj with hj | ⟨rfl, rfl⟩
    · rcases g.anc j p k hj hk with h | ⟨i, q, e1, e2, e3⟩
      · exact .inl h
      · exact .inr ⟨i, q, e1, by rw [List.getElem?_append_left (get_lt e2)]; exact e2, e3⟩
    · rcases hanc k hk with h | ⟨i, q, e1, e2, e3⟩
      · exact .inl h
      · exact .inr ⟨i, q, e1, by rw [List.getElem?_append_left (get_lt e2)]; exact e2, e3⟩
  · rcases snoc_get hj with hj | ⟨rfl, rfl⟩
    · exact g.low j p k hj hk
    · rcases hanc k hk with h | ⟨i, q, e1, e2, e3⟩
      · exact hlow k h
      · have := g.low i q k e2 e3
        have := get_lt e2
        omega
  · rcases snoc_get hj with hj | ⟨rfl, rfl⟩
    · rcases snoc_get hi with hi | ⟨rfl, _⟩
      · exact g.pair j p i q hj hij hi
      · have := get_lt hj
        omega
    · rcases snoc_get hi with hi | ⟨rfl, _⟩
      · have := okPairs_spec h2 i q hi
        rwa [Nat.zero_add] at this
      · omega
theorem lexB_spec {ns : Bool × Bool × Bool} : ∀ (r : List Sm) (prev : List (Sm × Nat)), lexB ns r prev prev.length = true → Good ns prev → ∃ full, Good ns full ∧ full.map (·.1) = prev.map (·.1) ++ r
  | [], prev, _, g => ⟨prev, g, by simp⟩
  | s :: r, prev, h, g => by
    unfold lexB at h
    simp only [Bool.and_eq_true] at h
    obtain ⟨h1, h2, h3⟩ := h
    have g' := Good_snoc g h1 h2
    obtain ⟨full, k1, k2⟩ := lexB_spec r (prev ++ [(s, orAnc s.after prev 0 s.after)]) (by simpa using h3) g'
    exact ⟨full, k1, by rw [k2]; simp⟩
theorem Good_nil {ns : Bool × Bool × Bool} : Good ns [] := ⟨fun j p i h => (by simp at h), fun j p i h => (by simp at h), fun j p i h => (by simp at h), fun j p i q h => (by simp at h)⟩
theorem RunV_head {E : Env} {fb : Option (List Nat)} {ops : Array Oper} {o : Oper} {r : List Oper} {S : St} {K : St → Prop} (hdm : opDem o.op = false) (h : RunV E fb ops (o :: r) S K) :
    ∃ v H' A', Yld E fb ops o S v H' A' ∧ RunV E fb ops r ⟨put S.ρ o.dst v, H', A'⟩ K := by
  obtain ⟨g, hg, ht, hff⟩ := Opt.iff.1 h
  cases g with
  | true =>
    obtain ⟨v, H', A', h1, h2⟩ := StepV_ex (by rw [res_dem]; exact hdm) (ht rfl)
    exact ⟨v, H', A', .inl ⟨hg, h1⟩, h2⟩
  | false => exact ⟨_, _, _, .inr ⟨hg, rfl, rfl, rfl⟩, hff rfl⟩
def Done (n k : Nat) (listed : Array Bool) : Prop := ∀ j, listed.getD j true = (decide (j < k) || decide (n ≤ j))
theorem Done_next {n k : Nat} {listed : Array Bool} (h : Done n k listed) (hs : listed.size = n) (hk : k < n) : Done n (k + 1) (listed.setIfInBounds k true) := by
  intro j
  by_cases hjk : k = j
  · subst hjk
    rw [Array.getD_eq_getD_getElem?, Array.getElem?_setIfInBounds_self_of_lt (by omega)]
    simp
  · rw [getD_set_ne true hjk, h j]
    congr 1
    rw [Bool.eq_iff_iff, decide_eq_true_eq, decide_eq_true_eq]
    omega
theorem anyA_lex {E : Env} {fb : Option (List Nat)} {ops : Array Oper} {K : St → Prop} {full : List (Sm × Nat)} (hdm : ∀ (j : Nat) (o : Oper), ops[j]? = some o → opDem o.op = false) (hsel : ∀ (j : Nat) (o : Oper) cs b, ops[j]? = some o → o.op ≠ .select cs b) (hnew : ∀ (j : Nat) (o : Oper), ops[j]? = some o → newOK E fb o)
    (g : Good (modeOf fb) full) (hfull : full.map (·.1) = ops.toList.map (smOf E.effs ops)) :
    ∀ (l : List Oper) (k : Nat) (listed : Array Bool) (S : St), (∀ j, l[j]? = ops[k + j]?) → k + l.length = ops.size → listed.size = ops.size → Done ops.size k listed → RunV E fb ops l S K → anyA E fb ops K l.length listed S
  | [], k, listed, _, _, hlen, _, hD, h => by
    refine ⟨List.eq_nil_iff_forall_not_mem.2 fun i hi => ?_, h⟩
    have := (mem_ready.1 hi).1
    rw [hD i] at this
    simp only [Bool.or_eq_false_iff, decide_eq_false_iff_not] at this
    simp only [List.length_nil] at hlen
    omega
  | o :: l, k, listed, S, hl, hlen, hsz, hD, h => by
    have h0 : ops[k]? = some o := by simpa using (hl 0).symm
    simp only [List.length_cons] at hlen
    have at_ : ∀ (j : Nat) (oj : Oper), ops[j]? = some oj → ∃ a : Nat, full[j]? = some (smOf E.effs ops oj, a) := fun j oj hj => by
      have h1 : (full.map (·.1))[j]? = some (smOf E.effs ops oj) := by rw [hfull, List.getElem?_map, Array.getElem?_toList, hj]; rfl
      rw [List.getElem?_map, Option.map_eq_some_iff] at h1
      obtain ⟨p, hp, e⟩ := h1
      exact ⟨p.2, by rw [hp, ← e]⟩
    have ons_ : ∀ (oj : Oper) i, (smOf E.effs ops oj).after.testBit i = true ↔ ∃ e ∈ oj.after, Region.binds .any e = true ∧ e.on = i := fun oj i => by
      show (bitsOf (ons oj)).testBit i = true ↔ _
      rw [testBit_bitsOf, List.contains_iff_mem, mem_ons]
    let Dp : Nat → Bool := fun j => match full[j]? with
      | some p => p.2.testBit k
      | none => false
    have hDp : ∀ j : Nat, Dp j = true → ∃ p : Sm × Nat, full[j]? = some p ∧ p.2.testBit k = true := fun j hj => by
      simp only [Dp] at hj
      split at hj
      · rename_i p hp; exact ⟨p, hp, hj⟩
      · cases hj
    have hDp' : ∀ (j : Nat) (p : Sm × Nat), full[j]? = some p → Dp j = p.2.testBit k := fun j p hp => by simp only [Dp, hp]
    obtain ⟨a0, hf0⟩ := at_ k o h0
    have hbe : Behind ops k Dp := ⟨fun j oj hj hjk hd => by
      obtain ⟨a, hf⟩ := at_ j oj hj
      have hd' : a.testBit k = true := by rw [← hDp' j _ hf]; exact hd
      rcases g.anc j _ k hf hd' with h1 | ⟨i, q, h1, h2, h3⟩
      · obtain ⟨e, he, hb, hon⟩ := (ons_ oj k).1 h1
        exact ⟨e, he, hb, .inl hon⟩
      · obtain ⟨e, he, hb, hon⟩ := (ons_ oj i).1 h1
        by_cases hik : i = k
        · exact ⟨e, he, hb, .inl (hon.trans hik)⟩
        · exact ⟨e, he, hb, .inr ⟨by rw [hon]; exact hik, by rw [hon, hDp' i q h2]; exact h3⟩⟩⟩
    have hinv : ∀ j, j ≠ k → Dp j = true → listed.getD j true = false := fun j hjk hd => by
      obtain ⟨p, hp, hk⟩ := hDp j hd
      have h1 := g.low j p k hp hk
      have h2 : j < ops.size := by
        have := get_lt hp
        have h3 := congrArg List.length hfull
        simp only [List.length_map, Array.length_toList] at h3
        omega
      rw [hD j]
      simp only [Bool.or_eq_false_iff, decide_eq_false_iff_not]
      omega
    have hfree : ∀ j oj, ops[j]? = some oj → j ≠ k → listed.getD j true = false → Dp j = false → o.apart ops oj = true ∧ compat (modeOf fb) (kind E.effs o.op) (kind E.effs oj.op) = true := fun j oj hj hjk hun hd => by
      rw [hD j] at hun
      simp only [Bool.or_eq_false_iff, decide_eq_false_iff_not] at hun
      obtain ⟨a, hf⟩ := at_ j oj hj
      have hd' : a.testBit k = false := by rw [← hDp' j _ hf]; exact hd
      rcases g.pair j _ k _ hf (by omega) hf0 with h1 | ⟨h1, h2⟩
      · rw [hd'] at h1; cases h1
      · rw [apartS_eq] at h1
        exact ⟨h1, h2⟩
    have hr : k ∈ Region.ready .any ops listed := mem_ready.2 ⟨by
        rw [hD k]
        simp only [Bool.or_eq_false_iff, decide_eq_false_iff_not]
        omega, o, h0, fun e he hb => by
        have h1 := g.back k _ e.on hf0 ((ons_ o e.on).2 ⟨e, he, hb, rfl⟩)
        have h2 := hD e.on
        have h3 : e.on < listed.size := by omega
        simp only [h1, decide_true, Bool.true_or] at h2
        rw [Array.getD_eq_getD_getElem?, Array.getElem?_eq_getElem h3] at h2 ⊢
        exact h2⟩
    obtain ⟨v, H', A', hy, hK⟩ := RunV_head (hdm k o h0) h
    exact anyA_first h0 hsel hnew hbe l.length listed S H' A' hinv hfree hr hy
      (anyA_lex hdm hsel hnew g hfull l (k + 1) _ _ (fun j => by have := hl (j + 1); simpa [Nat.add_assoc, Nat.add_comm 1 j] using this) (by omega) (by simpa using hsz) (Done_next hD hsz (by omega)) hK)
end Go.PW
