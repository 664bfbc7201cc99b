/-
  Parts of the proof, laid together: PwM.
-/
import Derived.Test.YtemecklglapleaaGreatQ12

namespace Go.PW
inductive Kd where
 | P | N | L | W | A | E | Q | R | C
 deriving DecidableEq
def zjq (effs : List FuncId) (f : FuncId) : Kd :=
 match xwu effs f with
 | true => .E
 | false => match effs.contains f with
 | true => .C
 | false => match effs.contains (2000000 + f) with
   | true => .Q
   | false => match effs.contains (7000000 + f) with
     | true => .R
     | false => match effs.contains (9000000 + f) with
       | true => .P
       | false => .A
theorem zkx (effs : List FuncId) (f : FuncId) : zjq effs f = .E ∨ zjq effs f = .C ∧ xwu effs f = false ∨ zjq effs f = .A ∧ (xwu effs f = false ∧ effs.contains f = false ∧ effs.contains (2000000 + f) = false ∧ effs.contains (7000000 + f) = false ∧ effs.contains (9000000 + f) = false) ∨
 zjq effs f = .Q ∧ (xwu effs f = false ∧ effs.contains f = false ∧ effs.contains (2000000 + f) = true) ∨ zjq effs f = .R ∧ (xwu effs f = false ∧ effs.contains f = false ∧ effs.contains (2000000 + f) = false ∧ effs.contains (7000000 + f) = true) ∨
 zjq effs f = .P ∧ (xwu effs f = false ∧ effs.contains f = false ∧ effs.contains (2000000 + f) = false ∧ effs.contains (7000000 + f) = false ∧ effs.contains (9000000 + f) = true) := by
 unfold zjq
 cases xwu effs f
 · refine .inr ?_
   cases effs.contains f
   · cases effs.contains (2000000 + f)
     · cases effs.contains (7000000 + f)
       · cases effs.contains (9000000 + f)
         · exact .inr (.inl ⟨rfl, rfl, rfl, rfl, rfl, rfl⟩)
         · exact .inr (.inr (.inr (.inr ⟨rfl, rfl, rfl, rfl, rfl, rfl⟩)))
       · exact .inr (.inr (.inr (.inl ⟨rfl, rfl, rfl, rfl, rfl⟩)))
     · exact .inr (.inr (.inl ⟨rfl, rfl, rfl, rfl⟩))
   · exact .inl ⟨rfl, rfl⟩
 · exact .inl rfl
def z65 (effs : List FuncId) (T : TypeId) : Kd :=
 match z1d effs T with
 | true => .E
 | false => .N
theorem z85 (effs : List FuncId) (T : TypeId) : (z65 effs T = .E ∧ z1d effs T = true) ∨ (z65 effs T = .N ∧ z1d effs T = false) := by
 unfold z65
 cases z1d effs T
 · exact .inr ⟨rfl, rfl⟩
 · exact .inl ⟨rfl, rfl⟩
theorem zxe {effs : List FuncId} {T : TypeId} {k : Kd} (h : z65 effs T = k) : k = .N ∨ k = .E := by
 rcases z85 effs T with ⟨e, _⟩ | ⟨e, _⟩ <;> rw [e] at h <;> subst h
 · exact .inr rfl
 · exact .inl rfl
def z5y (effs : List FuncId) (ats : List TypeId) : Kd :=
 match z1f effs ats with
 | true => .E
 | false => .A
theorem yz5 (effs : List FuncId) (ats : List TypeId) : (z5y effs ats = .E ∧ z1f effs ats = true) ∨ (z5y effs ats = .A ∧ z1f effs ats = false) := by
 unfold z5y
 cases z1f effs ats
 · exact .inr ⟨rfl, rfl⟩
 · exact .inl ⟨rfl, rfl⟩
theorem zjp {effs : List FuncId} {ats : List TypeId} {k : Kd} (h : z5y effs ats = k) : k = .A ∨ k = .E := by
 rcases yz5 effs ats with ⟨e, _⟩ | ⟨e, _⟩ <;> rw [e] at h <;> subst h
 · exact .inr rfl
 · exact .inl rfl
def zwk (effs : List FuncId) (s d : TypeId) : Kd :=
 match zj2 effs d with
 | true => .A
 | false => match zkr effs s with
   | true => .Q
   | false => .P
theorem zke (effs : List FuncId) (s d : TypeId) : (zwk effs s d = .A ∧ zj2 effs d = true) ∨ (zwk effs s d = .Q ∧ zj2 effs d = false ∧ zkr effs s = true) ∨ (zwk effs s d = .P ∧ zj2 effs d = false ∧ zkr effs s = false) := by
 unfold zwk
 cases zj2 effs d
 · cases zkr effs s
   · exact .inr (.inr ⟨rfl, rfl, rfl⟩)
   · exact .inr (.inl ⟨rfl, rfl, rfl⟩)
 · exact .inl ⟨rfl, rfl⟩
def z1v (effs : List FuncId) (T : TypeId) : Kd :=
 match z5v effs T with
 | true => .A
 | false => .P
theorem zkc (effs : List FuncId) (T : TypeId) : (z1v effs T = .A ∧ z5v effs T = true) ∨ (z1v effs T = .P ∧ z5v effs T = false) := by
 unfold z1v
 cases z5v effs T
 · exact .inr ⟨rfl, rfl⟩
 · exact .inl ⟨rfl, rfl⟩
def z1u (effs : List FuncId) (T : TypeId) : Kd :=
 match z64 effs T with
 | true => .E
 | false => .P
theorem zkb (effs : List FuncId) (T : TypeId) : (z1u effs T = .E ∧ z64 effs T = true) ∨ (z1u effs T = .P ∧ z64 effs T = false) := by
 unfold z1u
 cases z64 effs T
 · exact .inr ⟨rfl, rfl⟩
 · exact .inl ⟨rfl, rfl⟩
def z1w (effs : List FuncId) (ats : List TypeId) : Kd :=
 match zva effs ats with
 | true => .Q
 | false => .P
theorem zkd (effs : List FuncId) (ats : List TypeId) : (z1w effs ats = .Q ∧ zva effs ats = true) ∨ (z1w effs ats = .P ∧ zva effs ats = false) := by
 unfold z1w
 cases zva effs ats
 · exact .inr ⟨rfl, rfl⟩
 · exact .inl ⟨rfl, rfl⟩
def xxl (effs : List FuncId) (ats : List TypeId) : Callee → Kd
 | .value (.func f) => zjq effs f
 | .value _ => .E
 | .builtin .append => z5y effs ats
 | .builtin .delete => .E
 | .builtin .copy => .E
 | .builtin .len => z1w effs ats
 | .builtin _ => .P
 | .invoke _ _ => .P
def kind (effs : List FuncId) : Op → Kd
 | .alloc T => z65 effs T
 | .box T _ => z65 effs T
 | .load _ _ => .L
 | .store _ _ _ => .W
 | .call c => xxl effs c.argTypes.toList c.callee
 | .select _ _ => .E
 | .makeMap _ r => match r with
   | none => .E
   | some _ => .P
 | .lookup _ _ _ _ => .E
 | .mapUpdate _ _ _ _ => .E
 | .range _ _ => .E
 | .next _ _ => .E
 | .entry _ => .E
 | .convert s d _ => zwk effs s d
 | .makeSlice T _ _ => z1v effs T
 | .buildSlice T _ _ => z1u effs T
 | _ => .P
def zz5 (effs : List FuncId) : ROp → Kd
 | .alloc T => z65 effs T
 | .box T _ => z65 effs T
 | .load _ _ => .L
 | .store _ _ _ => .W
 | .call f _ => zjq effs f
 | .callv _ _ => .E
 | .blt .append ats _ _ => z5y effs ats
 | .blt .delete _ _ _ => .E
 | .blt .copy _ _ _ => .E
 | .blt .len ats _ _ => z1w effs ats
 | .mmk _ => .E
 | .mlk _ _ _ _ => .E
 | .mup _ _ _ _ => .E
 | .rng _ _ => .E
 | .nxt _ _ => .E
 | .ent _ => .E
 | .conv s d _ => zwk effs s d
 | .mks T _ _ => z1v effs T
 | .bsl T _ _ => z1u effs T
 | _ => .P
def compat (ns : Bool × Bool × Bool) : Kd → Kd → Bool
 | .P, _ => true
 | _, .P => true
 | .N, .N => true
 | .N, .A => true
 | .A, .N => true
 | .L, .L => true
 | .N, .L => ns.1
 | .L, .N => ns.1
 | .L, .A => ns.1
 | .A, .L => ns.1
 | .W, .A => ns.1
 | .A, .W => ns.1
 | .L, .W => ns.2.1
 | .W, .L => ns.2.1
 | .L, .C => ns.2.2
 | .C, .L => ns.2.2
 | .Q, .Q => true
 | .Q, .L => true
 | .L, .Q => true
 | .R, .N => ns.1
 | .R, .L => true
 | .L, .R => true
 | .R, .R => true
 | .R, .Q => true
 | .Q, .R => true
 | _, _ => false
theorem z4x {effs : List FuncId} {e : Operand → PV} {T : TypeId} {op : Op} (hs : ∀ cs b, op ≠ .select cs b) : zz5 effs (res e T op) = kind effs op := by
 cases op with
 | call c =>
   obtain ⟨callee, args, ats⟩ := c
   cases callee with
   | value x => cases x <;> rfl
   | invoke r m => rfl
   | builtin b => cases b <;> rfl
 | makeFunc fn first caps =>
   show zz5 effs (resF e fn first _) = .P
   unfold resF
   split
   · split <;> rfl
   · rfl
 | makeMap T r => cases r <;> rfl
 | select cs b => exact (hs cs b rfl).elim
 | _ => rfl
section
variable {E : Env} {fb : Option (List Nat)} {d : Option Nat} {rop : ROp} {H H' : HMap} {A A' : AMap} {v : PV}
theorem y51 (hk : zz5 E.effs rop = .P) (h : zq9 E fb d rop H A v H' A') : H' = H ∧ A' = A ∧ ∀ H2 A2, zq9 E fb d rop H2 A2 v H2 A2 := by
 have key : ∀ rop' : ROp, (∀ K H A, zqv E fb d rop' H A K = zj5 E.P rop' fun v => K v H A) → zq9 E fb d rop' H A v H' A' → H' = H ∧ A' = A ∧ ∀ H2 A2, zq9 E fb d rop' H2 A2 v H2 A2 := by
  intro rop' hr h
  unfold zq9 at h ⊢
  rw [hr] at h
  obtain ⟨v1, h1, rfl, rfl, rfl⟩ := z9g h
  refine ⟨rfl, rfl, fun H2 A2 => ?_⟩
  rw [hr]
  have e : (fun v' => v' = v1) = (fun v' => v' = v1 ∧ H2 = H2 ∧ A2 = A2) := by funext; simp
  rw [← e]
  exact h1
 cases rop with
 | alloc T => rcases zxe hk with h | h <;> cases h
 | box T x => rcases zxe hk with h | h <;> cases h
 | load T a => cases hk
 | store T a x => cases hk
 | call f args =>
   rcases zkx E.effs f with e | ⟨e, _⟩ | ⟨e, _⟩ | ⟨e, _⟩ | ⟨e, _⟩ | ⟨_, hset, hf, hq, hr, hp⟩
   · rw [show zz5 E.effs (.call f args) = zjq E.effs f from rfl, e] at hk; cases hk
   · rw [show zz5 E.effs (.call f args) = zjq E.effs f from rfl, e] at hk; cases hk
   · rw [show zz5 E.effs (.call f args) = zjq E.effs f from rfl, e] at hk; cases hk
   · rw [show zz5 E.effs (.call f args) = zjq E.effs f from rfl, e] at hk; cases hk
   · rw [show zz5 E.effs (.call f args) = zjq E.effs f from rfl, e] at hk; cases hk
   · replace h := (zwb hset h).1
     unfold zxm at h
     rw [hf, hq, hr, hp] at h
     obtain ⟨r, h1, h2, rfl, rfl, rfl⟩ := h
     refine ⟨rfl, rfl, fun H2 A2 => ?_⟩
     refine z5g hset ?_ (fun _ _ _ => rfl)
     unfold zxm
     rw [hf, hq, hr, hp]
     exact ⟨r, h1, h2, rfl, rfl, rfl⟩
 | callv x args => cases hk
 | blt b ats T args =>
   cases b with
   | append => rcases zjp hk with h | h <;> cases h
   | delete => cases hk
   | copy => cases hk
   | len =>
     rcases zkd E.effs ats with ⟨e, _⟩ | ⟨_, e⟩
     · rw [show zz5 E.effs (.blt .len ats T args) = z1w E.effs ats from rfl, e] at hk; cases hk
     · refine key _ (fun K H A => ?_) h
       show (match zva E.effs ats with
        | true => Opt (lenM E.P A ats args) fun v => K v H A
        | false => zj5 E.P (.blt .len ats T args) fun v => K v H A) = _
       rw [e]
   | _ => exact key _ (fun _ _ _ => rfl) h
 | mks T l c =>
   rcases zkc E.effs T with ⟨e, _⟩ | ⟨_, e⟩
   · rw [show zz5 E.effs (.mks T l c) = z1v E.effs T from rfl, e] at hk; cases hk
   · refine key _ (fun K H A => ?_) h
     show (match z5v E.effs T with
      | true => mksV E d T l c A fun v A' => K v H A'
      | false => zj5 E.P (.mks T l c) fun v => K v H A) = _
     rw [e]
 | bsl T m ps =>
   rcases zkb E.effs T with ⟨e, _⟩ | ⟨_, e⟩
   · rw [show zz5 E.effs (.bsl T m ps) = z1u E.effs T from rfl, e] at hk; cases hk
   · refine key _ (fun K H A => ?_) h
     show (match z64 E.effs T with
      | true => bslV E d T m ps H fun v H' => K v H' A
      | false => zj5 E.P (.bsl T m ps) fun v => K v H A) = _
     rw [e]
 | mmk T => cases hk
 | mlk T x i ok => cases hk
 | mup T m k v => cases hk
 | rng T x => cases hk
 | nxt x s => cases hk
 | ent x => cases hk
 | conv s dt x =>
   rcases zke E.effs s dt with ⟨e, _⟩ | ⟨e, _⟩ | ⟨_, e, e2⟩
   · rw [show zz5 E.effs (.conv s dt x) = zwk E.effs s dt from rfl, e] at hk; cases hk
   · rw [show zz5 E.effs (.conv s dt x) = zwk E.effs s dt from rfl, e] at hk; cases hk
   · refine key _ (fun K H A => ?_) h
     show (match zj2 E.effs dt with
      | true => bytV E d s dt x A fun v A' => K v H A'
      | false => (match zkr E.effs s with
        | true => Opt (z3a E.P A s dt x) fun v => K v H A
        | false => zj5 E.P (.conv s dt x) fun v => K v H A)) = _
     rw [e, e2]
 | _ => exact key _ (fun _ _ _ => rfl) h
theorem z6o (hk : zz5 E.effs rop = .N) (h : zq9 E fb d rop H A v H' A') :
 A' = A ∧ ∃ (d' : Nat) (c : List CV), d = some d' ∧ H (E.off + d') = none ∧ H' = upd H (E.off + d') (some c) ∧ ∀ H2 A2, H2 (E.off + d') = none → zq9 E fb d rop H2 A2 v (upd H2 (E.off + d') (some c)) A2 := by
 cases rop with
 | alloc T =>
   rcases z85 E.effs T with ⟨e, _⟩ | ⟨_, e⟩
   · rw [show zz5 E.effs (.alloc T) = z65 E.effs T from rfl, e] at hk; cases hk
   · have key : ∀ (H : HMap) (A : AMap) (H' : HMap) (A' : AMap), zq9 E fb d (.alloc T) H A v H' A' = Opt d fun d => Opt (zzm E.P T) fun z => H (E.off + d) = none ∧ (PV.c (CV.ptr (E.off + d) 0) = v ∧ upd H (E.off + d) (some z) = H' ∧ A = A') := fun H A H' A' => by
      show (match z1d E.effs T with
       | true => Opt (zzm E.P T) fun z => objV A z fun v' A'' => v' = v ∧ H = H' ∧ A'' = A'
       | false => Opt d fun d => Opt (zzm E.P T) fun z => H (E.off + d) = none ∧ (PV.c (CV.ptr (E.off + d) 0) = v ∧ upd H (E.off + d) (some z) = H' ∧ A = A')) = _
      rw [e]
     rw [key] at h
     obtain ⟨d', hd, h⟩ := Opt.iff.1 h
     obtain ⟨z, hz, h0, e1, e2, e3⟩ := Opt.iff.1 h
     exact ⟨e3.symm, d', z, hd, h0, e2.symm, fun H2 A2 h2 => by rw [key]; exact Opt.iff.2 ⟨d', hd, Opt.iff.2 ⟨z, hz, h2, e1, rfl, rfl⟩⟩⟩
 | box T x =>
   rcases z85 E.effs T with ⟨e, _⟩ | ⟨_, e⟩
   · rw [show zz5 E.effs (.box T x) = z65 E.effs T from rfl, e] at hk; cases hk
   · have key : ∀ (H : HMap) (A : AMap) (H' : HMap) (A' : AMap), zq9 E fb d (.box T x) H A v H' A' = Opt d fun d => Opt (boxS x) fun z => H (E.off + d) = none ∧ (PV.c (CV.ptr (E.off + d) 0) = v ∧ upd H (E.off + d) (some z) = H' ∧ A = A') := fun H A H' A' => by
      show (match z1d E.effs T with
       | true => Opt (boxS x) fun z => objV A z fun v' A'' => v' = v ∧ H = H' ∧ A'' = A'
       | false => Opt d fun d => Opt (boxS x) fun z => H (E.off + d) = none ∧ (PV.c (CV.ptr (E.off + d) 0) = v ∧ upd H (E.off + d) (some z) = H' ∧ A = A')) = _
      rw [e]
     rw [key] at h
     obtain ⟨d', hd, h⟩ := Opt.iff.1 h
     obtain ⟨z, hz, h0, e1, e2, e3⟩ := Opt.iff.1 h
     exact ⟨e3.symm, d', z, hd, h0, e2.symm, fun H2 A2 h2 => by rw [key]; exact Opt.iff.2 ⟨d', hd, Opt.iff.2 ⟨z, hz, h2, e1, rfl, rfl⟩⟩⟩
 | call f args => rcases zkx E.effs f with e | ⟨e, _⟩ | ⟨e, _⟩ | ⟨e, _⟩ | ⟨e, _⟩ | ⟨e, _⟩ <;> (rw [show zz5 E.effs (.call f args) = zjq E.effs f from rfl, e] at hk; cases hk)
 | blt b ats T args => cases b <;> first | (cases hk; done) | (rcases zjp hk with h | h <;> cases h; done) | (rcases zkd E.effs ats with ⟨e, _⟩ | ⟨e, _⟩ <;> (rw [show zz5 E.effs (.blt .len ats T args) = z1w E.effs ats from rfl, e] at hk; cases hk))
 | mks T l c => rcases zkc E.effs T with ⟨e, _⟩ | ⟨e, _⟩ <;> (rw [show zz5 E.effs (.mks T l c) = z1v E.effs T from rfl, e] at hk; cases hk)
 | bsl T m ps => rcases zkb E.effs T with ⟨e, _⟩ | ⟨e, _⟩ <;> (rw [show zz5 E.effs (.bsl T m ps) = z1u E.effs T from rfl, e] at hk; cases hk)
 | conv s dt x => rcases zke E.effs s dt with ⟨e, _⟩ | ⟨e, _⟩ | ⟨e, _⟩ <;> (rw [show zz5 E.effs (.conv s dt x) = zwk E.effs s dt from rfl, e] at hk; cases hk)
 | _ => cases hk
theorem y4a {P : Program} {l : List Nat} {T : TypeId} {a : PV} {H3 : HMap} {A3 : AMap} (h : z53 P (some l) H A T a = some v) (hH : ∀ id, blocked (some l) id = false → H3 id = H id) : z53 P (some l) H3 A3 T a = some v := by
 unfold z53 at h ⊢
 split at h
 · split at h
   · cases h
   · rename_i hb
     rw [if_neg hb, hH _ (by simpa using hb)]
     exact h
 · exact h
 · simp at h
 · simp at h
 · simp at h
 · cases h
theorem zvq (hk : zz5 E.effs rop = .L) (h : zq9 E fb d rop H A v H' A') :
 H' = H ∧ A' = A ∧ ∀ l, fb = some l → ∀ H2 A2, (∀ id, blocked fb id = false → H2 id = H id) → zq9 E fb d rop H2 A2 v H2 A2 := by
 cases rop with
 | load T a =>
   obtain ⟨z, hz, rfl, rfl, rfl⟩ := Opt.iff.1 h
   refine ⟨rfl, rfl, fun l hl H2 A2 hH => ?_⟩
   subst hl
   exact Opt.iff.2 ⟨z, y4a hz hH, rfl, rfl, rfl⟩
 | call f args => rcases zkx E.effs f with e | ⟨e, _⟩ | ⟨e, _⟩ | ⟨e, _⟩ | ⟨e, _⟩ | ⟨e, _⟩ <;> (rw [show zz5 E.effs (.call f args) = zjq E.effs f from rfl, e] at hk; cases hk)
 | blt b ats T args => cases b <;> first | (cases hk; done) | (rcases zjp hk with h | h <;> cases h; done) | (rcases zkd E.effs ats with ⟨e, _⟩ | ⟨e, _⟩ <;> (rw [show zz5 E.effs (.blt .len ats T args) = z1w E.effs ats from rfl, e] at hk; cases hk))
 | mks T l c => rcases zkc E.effs T with ⟨e, _⟩ | ⟨e, _⟩ <;> (rw [show zz5 E.effs (.mks T l c) = z1v E.effs T from rfl, e] at hk; cases hk)
 | bsl T m ps => rcases zkb E.effs T with ⟨e, _⟩ | ⟨e, _⟩ <;> (rw [show zz5 E.effs (.bsl T m ps) = z1u E.effs T from rfl, e] at hk; cases hk)
 | conv s dt x => rcases zke E.effs s dt with ⟨e, _⟩ | ⟨e, _⟩ | ⟨e, _⟩ <;> (rw [show zz5 E.effs (.conv s dt x) = zwk E.effs s dt from rfl, e] at hk; cases hk)
 | alloc T => rcases zxe hk with h | h <;> cases h
 | box T x => rcases zxe hk with h | h <;> cases h
 | _ => cases hk
theorem z79 (hk : zz5 E.effs rop = .Q) (h : zq9 E fb d rop H A v H' A') : H' = H ∧ A' = A := by
 cases rop with
 | call f args =>
   rcases zkx E.effs f with e | ⟨e, _⟩ | ⟨e, _⟩ | ⟨_, hset, hf, hq⟩ | ⟨e, _⟩ | ⟨e, _⟩
   · rw [show zz5 E.effs (.call f args) = zjq E.effs f from rfl, e] at hk; cases hk
   · rw [show zz5 E.effs (.call f args) = zjq E.effs f from rfl, e] at hk; cases hk
   · rw [show zz5 E.effs (.call f args) = zjq E.effs f from rfl, e] at hk; cases hk
   · replace h := (zwb hset h).1
     unfold zxm at h
     rw [hf, hq] at h
     obtain ⟨v', _, _, rfl, rfl, rfl⟩ := h
     exact ⟨rfl, rfl⟩
   · rw [show zz5 E.effs (.call f args) = zjq E.effs f from rfl, e] at hk; cases hk
   · rw [show zz5 E.effs (.call f args) = zjq E.effs f from rfl, e] at hk; cases hk
 | blt b ats T args =>
   cases b with
   | len =>
     rcases zkd E.effs ats with ⟨_, e⟩ | ⟨e, _⟩
     · change (match zva E.effs ats with
        | true => Opt (lenM E.P A ats args) fun v' => v' = v ∧ H = H' ∧ A = A'
        | false => zj5 E.P (.blt .len ats T args) fun v' => v' = v ∧ H = H' ∧ A = A') at h
       rw [e] at h
       obtain ⟨v', _, rfl, rfl, rfl⟩ := Opt.iff.1 h
       exact ⟨rfl, rfl⟩
     · rw [show zz5 E.effs (.blt .len ats T args) = z1w E.effs ats from rfl, e] at hk; cases hk
   | append => rcases zjp hk with h | h <;> cases h
   | _ => cases hk
 | conv s dt x =>
   rcases zke E.effs s dt with ⟨e, _⟩ | ⟨_, e, e2⟩ | ⟨e, _⟩
   · rw [show zz5 E.effs (.conv s dt x) = zwk E.effs s dt from rfl, e] at hk; cases hk
   · change (match zj2 E.effs dt with
      | true => bytV E d s dt x A fun v' A'' => v' = v ∧ H = H' ∧ A'' = A'
      | false => (match zkr E.effs s with
        | true => Opt (z3a E.P A s dt x) fun v' => v' = v ∧ H = H' ∧ A = A'
        | false => zj5 E.P (.conv s dt x) fun v' => v' = v ∧ H = H' ∧ A = A')) at h
     rw [e, e2] at h
     obtain ⟨v', _, rfl, rfl, rfl⟩ := Opt.iff.1 h
     exact ⟨rfl, rfl⟩
   · rw [show zz5 E.effs (.conv s dt x) = zwk E.effs s dt from rfl, e] at hk; cases hk
 | mks T l c => rcases zkc E.effs T with ⟨e, _⟩ | ⟨e, _⟩ <;> (rw [show zz5 E.effs (.mks T l c) = z1v E.effs T from rfl, e] at hk; cases hk)
 | bsl T m ps => rcases zkb E.effs T with ⟨e, _⟩ | ⟨e, _⟩ <;> (rw [show zz5 E.effs (.bsl T m ps) = z1u E.effs T from rfl, e] at hk; cases hk)
 | alloc T => rcases zxe hk with h | h <;> cases h
 | box T x => rcases zxe hk with h | h <;> cases h
 | _ => cases hk
theorem z6p (hk : zz5 E.effs rop = .R) (h : zq9 E fb d rop H A v H' A') : H' = H ∧ A' = A ∧ Above (E.off + 1000) H A ∧
 ∀ H2 : HMap, (∀ id, H id ≠ none → H2 id = H id) → (∀ id, E.off + 1000 ≤ id → H2 id = none) → zq9 E fb d rop H2 A v H2 A := by
 cases rop with
 | call f args =>
   rcases zkx E.effs f with e | ⟨e, _⟩ | ⟨e, _⟩ | ⟨e, _⟩ | ⟨_, hset, hf, hq, hr⟩ | ⟨e, _⟩
   · rw [show zz5 E.effs (.call f args) = zjq E.effs f from rfl, e] at hk; cases hk
   · rw [show zz5 E.effs (.call f args) = zjq E.effs f from rfl, e] at hk; cases hk
   · rw [show zz5 E.effs (.call f args) = zjq E.effs f from rfl, e] at hk; cases hk
   · rw [show zz5 E.effs (.call f args) = zjq E.effs f from rfl, e] at hk; cases hk
   · replace h := (zwb hset h).1
     unfold zxm at h
     rw [hf, hq, hr] at h
     obtain ⟨v', h1, hab, rfl, rfl, rfl⟩ := h
     refine ⟨rfl, rfl, hab, fun H2 k1 k2 => ?_⟩
     refine z5g hset ?_ (fun _ _ _ => rfl)
     unfold zxm
     rw [hf, hq, hr]
     exact ⟨v', fun H3 j1 j2 => h1 H3 (fun id hi => (j1 id (by rw [k1 id hi]; exact hi)).trans (k1 id hi)) j2, fun id hi => ⟨k2 id hi, (hab id hi).2⟩, rfl, rfl, rfl⟩
   · rw [show zz5 E.effs (.call f args) = zjq E.effs f from rfl, e] at hk; cases hk
 | blt b ats T args => cases b <;> first | (cases hk; done) | (rcases zjp hk with h | h <;> cases h; done) | (rcases zkd E.effs ats with ⟨e, _⟩ | ⟨e, _⟩ <;> (rw [show zz5 E.effs (.blt .len ats T args) = z1w E.effs ats from rfl, e] at hk; cases hk))
 | mks T l c => rcases zkc E.effs T with ⟨e, _⟩ | ⟨e, _⟩ <;> (rw [show zz5 E.effs (.mks T l c) = z1v E.effs T from rfl, e] at hk; cases hk)
 | bsl T m ps => rcases zkb E.effs T with ⟨e, _⟩ | ⟨e, _⟩ <;> (rw [show zz5 E.effs (.bsl T m ps) = z1u E.effs T from rfl, e] at hk; cases hk)
 | conv s dt x => rcases zke E.effs s dt with ⟨e, _⟩ | ⟨e, _⟩ | ⟨e, _⟩ <;> (rw [show zz5 E.effs (.conv s dt x) = zwk E.effs s dt from rfl, e] at hk; cases hk)
 | alloc T => rcases zxe hk with h | h <;> cases h
 | box T x => rcases zxe hk with h | h <;> cases h
 | _ => cases hk
theorem y2j {P : Program} {l : List Nat} {T : TypeId} {a x : PV} {m : HMap × AMap} (h : z0k P (some l) H A T a x = some m) : m.2 = A ∧ ∀ A3, z0k P (some l) H A3 T a x = some (m.1, A3) := by
 unfold z0k at h
 rw [Zbs] at h
 obtain ⟨ys, hys, h⟩ := h
 split at h
 · rename_i hc
   split at h
   · obtain ⟨h, hg⟩ := z6q h
     rw [Zbs] at h
     obtain ⟨cs, hcs, h⟩ := h
     split at h
     · rename_i hl
       cases h
       refine ⟨rfl, fun A3 => ?_⟩
       simp only [z0k, hys, Option.bind_some]
       rw [if_pos hc]
       simp only [y8c hg, hcs, Option.bind_some, if_pos hl]
     · cases h
   · simp at h
   · simp at h
   · simp at h
   · cases h
 · cases h
theorem ywk {P : Program} {l : List Nat} {T : TypeId} {a x : PV} {m : HMap × AMap} (h : z0k P (some l) H A T a x = some m) (hlw : lwOf (some l) = true) : ∀ id, blocked (some l) id = false → m.1 id = H id := by
 unfold z0k at h
 rw [Zbs] at h
 obtain ⟨ys, hys, h⟩ := h
 split at h
 · split at h
   · obtain ⟨h, hg⟩ := z6q h
     rw [Zbs] at h
     obtain ⟨cs, hcs, h⟩ := h
     split at h
     · cases h
       intro i hi
       refine zza _ _ fun e => ?_
       rw [e, hg hlw] at hi
       cases hi
     · cases h
   · simp at h
   · simp at h
   · simp at h
   · cases h
 · cases h
theorem y2i (hk : zz5 E.effs rop = .W) (h : zq9 E fb d rop H A v H' A') (hlw : lwOf fb = true) : ∀ id, blocked fb id = false → H' id = H id := by
 cases rop with
 | store T a x =>
   obtain ⟨h0, h⟩ := h
   obtain ⟨m, hz, rfl, rfl, rfl⟩ := Opt.iff.1 h
   cases fb with
   | none => cases hlw
   | some l => exact ywk hz hlw
 | call f args => rcases zkx E.effs f with e | ⟨e, _⟩ | ⟨e, _⟩ | ⟨e, _⟩ | ⟨e, _⟩ | ⟨e, _⟩ <;> (rw [show zz5 E.effs (.call f args) = zjq E.effs f from rfl, e] at hk; cases hk)
 | blt b ats T args => cases b <;> first | (cases hk; done) | (rcases zjp hk with h | h <;> cases h; done) | (rcases zkd E.effs ats with ⟨e, _⟩ | ⟨e, _⟩ <;> (rw [show zz5 E.effs (.blt .len ats T args) = z1w E.effs ats from rfl, e] at hk; cases hk))
 | mks T l c => rcases zkc E.effs T with ⟨e, _⟩ | ⟨e, _⟩ <;> (rw [show zz5 E.effs (.mks T l c) = z1v E.effs T from rfl, e] at hk; cases hk)
 | bsl T m ps => rcases zkb E.effs T with ⟨e, _⟩ | ⟨e, _⟩ <;> (rw [show zz5 E.effs (.bsl T m ps) = z1u E.effs T from rfl, e] at hk; cases hk)
 | conv s dt x => rcases zke E.effs s dt with ⟨e, _⟩ | ⟨e, _⟩ | ⟨e, _⟩ <;> (rw [show zz5 E.effs (.conv s dt x) = zwk E.effs s dt from rfl, e] at hk; cases hk)
 | alloc T => rcases zxe hk with h | h <;> cases h
 | box T x => rcases zxe hk with h | h <;> cases h
 | _ => cases hk
theorem y2h (hk : zz5 E.effs rop = .W) (h : zq9 E fb d rop H A v H' A') : ∀ l, fb = some l → A' = A ∧ ∀ A2, zq9 E fb d rop H A2 v H' A2 := by
 cases rop with
 | store T a x =>
   obtain ⟨h0, h⟩ := h
   obtain ⟨m, hz, rfl, rfl, rfl⟩ := Opt.iff.1 h
   intro l hl
   subst hl
   obtain ⟨h1, h2⟩ := y2j hz
   exact ⟨h1, fun A2 => ⟨h0, Opt.iff.2 ⟨_, h2 A2, rfl, rfl, rfl⟩⟩⟩
 | call f args => rcases zkx E.effs f with e | ⟨e, _⟩ | ⟨e, _⟩ | ⟨e, _⟩ | ⟨e, _⟩ | ⟨e, _⟩ <;> (rw [show zz5 E.effs (.call f args) = zjq E.effs f from rfl, e] at hk; cases hk)
 | blt b ats T args => cases b <;> first | (cases hk; done) | (rcases zjp hk with h | h <;> cases h; done) | (rcases zkd E.effs ats with ⟨e, _⟩ | ⟨e, _⟩ <;> (rw [show zz5 E.effs (.blt .len ats T args) = z1w E.effs ats from rfl, e] at hk; cases hk))
 | mks T l c => rcases zkc E.effs T with ⟨e, _⟩ | ⟨e, _⟩ <;> (rw [show zz5 E.effs (.mks T l c) = z1v E.effs T from rfl, e] at hk; cases hk)
 | bsl T m ps => rcases zkb E.effs T with ⟨e, _⟩ | ⟨e, _⟩ <;> (rw [show zz5 E.effs (.bsl T m ps) = z1u E.effs T from rfl, e] at hk; cases hk)
 | conv s dt x => rcases zke E.effs s dt with ⟨e, _⟩ | ⟨e, _⟩ | ⟨e, _⟩ <;> (rw [show zz5 E.effs (.conv s dt x) = zwk E.effs s dt from rfl, e] at hk; cases hk)
 | alloc T => rcases zxe hk with h | h <;> cases h
 | box T x => rcases zxe hk with h | h <;> cases h
 | _ => cases hk
theorem y50 (hk : zz5 E.effs rop = .C) (h : zq9 E fb d rop H A v H' A') (hkp : zvm fb = true) : ∀ id, blocked fb id = false → H' id = H id := by
 cases rop with
 | call f args =>
   rcases zkx E.effs f with e | ⟨_, hset⟩ | ⟨e, _⟩ | ⟨e, _⟩ | ⟨e, _⟩ | ⟨e, _⟩
   · rw [show zz5 E.effs (.call f args) = zjq E.effs f from rfl, e] at hk; cases hk
   · exact fun id hid => (zwb hset h).2 hkp id (y35 hkp hid)
   all_goals (rw [show zz5 E.effs (.call f args) = zjq E.effs f from rfl, e] at hk; cases hk)
 | blt b ats T args => cases b <;> first | (cases hk; done) | (rcases zjp hk with h | h <;> cases h; done) | (rcases zkd E.effs ats with ⟨e, _⟩ | ⟨e, _⟩ <;> (rw [show zz5 E.effs (.blt .len ats T args) = z1w E.effs ats from rfl, e] at hk; cases hk))
 | mks T l c => rcases zkc E.effs T with ⟨e, _⟩ | ⟨e, _⟩ <;> (rw [show zz5 E.effs (.mks T l c) = z1v E.effs T from rfl, e] at hk; cases hk)
 | bsl T m ps => rcases zkb E.effs T with ⟨e, _⟩ | ⟨e, _⟩ <;> (rw [show zz5 E.effs (.bsl T m ps) = z1u E.effs T from rfl, e] at hk; cases hk)
 | conv s dt x => rcases zke E.effs s dt with ⟨e, _⟩ | ⟨e, _⟩ | ⟨e, _⟩ <;> (rw [show zz5 E.effs (.conv s dt x) = zwk E.effs s dt from rfl, e] at hk; cases hk)
 | alloc T => rcases zxe hk with h | h <;> cases h
 | box T x => rcases zxe hk with h | h <;> cases h
 | _ => cases hk
theorem z78 (hk : zz5 E.effs rop = .A) (h : zq9 E fb d rop H A v H' A') : H' = H ∧ ∀ H2, zq9 E fb d rop H2 A v H2 A' := by
 cases rop with
 | call f args =>
   rcases zkx E.effs f with e | ⟨e, _⟩ | ⟨_, hset, hf', hq', hr', hp'⟩ | ⟨e, _⟩ | ⟨e, _⟩ | ⟨e, _⟩
   · rw [show zz5 E.effs (.call f args) = zjq E.effs f from rfl, e] at hk; cases hk
   · rw [show zz5 E.effs (.call f args) = zjq E.effs f from rfl, e] at hk; cases hk
   · replace h := (zwb hset h).1
     unfold zxm at h
     rw [hf', hq', hr', hp'] at h
     obtain ⟨r, h1, h2, rfl, rfl, rfl⟩ := h
     refine ⟨rfl, fun H2 => ?_⟩
     refine z5g hset ?_ (fun _ _ _ => rfl)
     unfold zxm
     rw [hf', hq', hr', hp']
     exact ⟨r, h1, h2, rfl, rfl, rfl⟩
   · rw [show zz5 E.effs (.call f args) = zjq E.effs f from rfl, e] at hk; cases hk
   · rw [show zz5 E.effs (.call f args) = zjq E.effs f from rfl, e] at hk; cases hk
   · rw [show zz5 E.effs (.call f args) = zjq E.effs f from rfl, e] at hk; cases hk
 | blt b ats T args =>
   cases b with
   | append =>
     rcases yz5 E.effs ats with ⟨e, _⟩ | ⟨_, e⟩
     · rw [show zz5 E.effs (.blt .append ats T args) = z5y E.effs ats from rfl, e] at hk; cases hk
     have key : ∀ (H H' : HMap), zq9 E fb d (.blt .append ats T args) H A v H' A' = appC E d H A ats args (fun v' H'' A'' => v' = v ∧ H'' = H' ∧ A'' = A') := fun H H' => by
      show (match z1f E.effs ats with
       | true => apdC E H A ats args (fun v' H'' A'' => v' = v ∧ H'' = H' ∧ A'' = A')
       | false => appC E d H A ats args (fun v' H'' A'' => v' = v ∧ H'' = H' ∧ A'' = A')) = _
      rw [e]
     rw [key] at h
     unfold appC at h
     split at h
     · obtain ⟨d', rfl, h0⟩ := Opt.iff.1 h
       obtain ⟨v1, A1, h1, rfl, rfl, rfl⟩ := yxc h0
       refine ⟨rfl, fun H2 => ?_⟩
       rw [key]
       have e : (fun v' A'' => v' = v1 ∧ A'' = A1) = (fun v' A'' => v' = v1 ∧ H2 = H2 ∧ A'' = A1) := by funext; simp
       show appW E.P E.md E.off d' A ats _ _ (fun v' A'' => v' = v1 ∧ H2 = H2 ∧ A'' = A1)
       rw [← e]
       exact h1
     · exact h.elim
   | len => rcases zkd E.effs ats with ⟨e, _⟩ | ⟨e, _⟩ <;> (rw [show zz5 E.effs (.blt .len ats T args) = z1w E.effs ats from rfl, e] at hk; cases hk)
   | _ => cases hk
 | bsl T m ps => rcases zkb E.effs T with ⟨e, _⟩ | ⟨e, _⟩ <;> (rw [show zz5 E.effs (.bsl T m ps) = z1u E.effs T from rfl, e] at hk; cases hk)
 | mks T l c =>
   rcases zkc E.effs T with ⟨_, e⟩ | ⟨e, _⟩
   · have key : ∀ (H H' : HMap) (K : Prop), zq9 E fb d (.mks T l c) H A v H' A' = mksV E d T l c A (fun v' A'' => v' = v ∧ H = H' ∧ A'' = A') := fun H H' K => by
      show (match z5v E.effs T with
       | true => mksV E d T l c A fun v' A'' => v' = v ∧ H = H' ∧ A'' = A'
       | false => zj5 E.P (.mks T l c) fun v' => v' = v ∧ H = H' ∧ A = A') = _
      rw [e]
     rw [key H H' True] at h
     obtain ⟨d', hd', h⟩ := Opt.iff.1 h
     obtain ⟨els, hels, hA0, h1, h2, h3⟩ := Opt.iff.1 h
     refine ⟨h2.symm, fun H2 => ?_⟩
     rw [key H2 H2 True]
     exact Opt.iff.2 ⟨d', hd', Opt.iff.2 ⟨els, hels, hA0, h1, rfl, h3⟩⟩
   · rw [show zz5 E.effs (.mks T l c) = z1v E.effs T from rfl, e] at hk; cases hk
 | conv s dt x =>
   rcases zke E.effs s dt with ⟨_, e⟩ | ⟨e, _⟩ | ⟨e, _⟩
   · have key : ∀ (H H' : HMap) (K : Prop), zq9 E fb d (.conv s dt x) H A v H' A' = bytV E d s dt x A (fun v' A'' => v' = v ∧ H = H' ∧ A'' = A') := fun H H' K => by
      show (match zj2 E.effs dt with
       | true => bytV E d s dt x A fun v' A'' => v' = v ∧ H = H' ∧ A'' = A'
       | false => (match zkr E.effs s with
         | true => Opt (z3a E.P A s dt x) fun v' => v' = v ∧ H = H' ∧ A = A'
         | false => zj5 E.P (.conv s dt x) fun v' => v' = v ∧ H = H' ∧ A = A')) = _
      rw [e]
     rw [key H H' True] at h
     unfold bytV at h
     obtain ⟨b1, h⟩ := h
     obtain ⟨d', hd', h⟩ := Opt.iff.1 h
     obtain ⟨s', hs', h⟩ := Opt.iff.1 h
     obtain ⟨hA0, h⟩ := h
     split at h
     · rename_i hmd
       obtain ⟨h1, h2, h3⟩ := h
       refine ⟨h2.symm, fun H2 => ?_⟩
       rw [key H2 H2 True]
       unfold bytV
       refine ⟨b1, Opt.iff.2 ⟨d', hd', Opt.iff.2 ⟨s', hs', hA0, ?_⟩⟩⟩
       rw [hmd]
       exact ⟨h1, rfl, h3⟩
     · rename_i hmd
       obtain ⟨h1, h2, h3⟩ := h
       refine ⟨h2.symm, fun H2 => ?_⟩
       rw [key H2 H2 True]
       unfold bytV
       refine ⟨b1, Opt.iff.2 ⟨d', hd', Opt.iff.2 ⟨s', hs', hA0, ?_⟩⟩⟩
       rw [hmd]
       exact ⟨h1, rfl, h3⟩
   · rw [show zz5 E.effs (.conv s dt x) = zwk E.effs s dt from rfl, e] at hk; cases hk
   · rw [show zz5 E.effs (.conv s dt x) = zwk E.effs s dt from rfl, e] at hk; cases hk
 | alloc T => rcases zxe hk with h | h <;> cases h
 | box T x => rcases zxe hk with h | h <;> cases h
 | _ => cases hk
end
theorem ykw {α β : Type} [DecidableEq α] (f : α → β) {a b : α} (x y : β) (h : a ≠ b) : upd (upd f a x) b y = upd (upd f b y) a x := by
 funext z
 unfold upd
 by_cases h1 : z = b
 · subst h1; simp [Ne.symm h]
 · simp [h1]
def y9b (E : Env) (fb : Option (List Nat)) (d : Option Nat) (rop : ROp) : Prop := ∀ l, fb = some l → zz5 E.effs rop = .N → ∀ d', d = some d' → blocked fb (E.off + d') = true ∧ d' < 1000
theorem commute {E : Env} {fb : Option (List Nat)} {di dj : Option Nat} {ri rj : ROp} {H H1 H2 : HMap} {A A1 A2 : AMap} {v v2 : PV} (hc : compat (z31 fb) (zz5 E.effs ri) (zz5 E.effs rj) = true)
 (hni : y9b E fb di ri) (hnj : y9b E fb dj rj) (hi : zq9 E fb di ri H A v H1 A1) (hj : zq9 E fb dj rj H1 A1 v2 H2 A2) :
 ∃ H1' A1', zq9 E fb dj rj H A v2 H1' A1' ∧ zq9 E fb di ri H1' A1' v H2 A2 := by
 have pl : zz5 E.effs ri = .P → ∃ H1' A1', zq9 E fb dj rj H A v2 H1' A1' ∧ zq9 E fb di ri H1' A1' v H2 A2 := fun e => by
  obtain ⟨rfl, rfl, h⟩ := y51 e hi
  exact ⟨H2, A2, hj, h H2 A2⟩
 have pr : zz5 E.effs rj = .P → ∃ H1' A1', zq9 E fb dj rj H A v2 H1' A1' ∧ zq9 E fb di ri H1' A1' v H2 A2 := fun e => by
  obtain ⟨rfl, rfl, h⟩ := y51 e hj
  exact ⟨H, A, h H A, hi⟩
 have hsome : fb.isSome = true → ∃ l, fb = some l := fun h => Option.isSome_iff_exists.1 h
 cases ki : zz5 E.effs ri <;> cases kj : zz5 E.effs rj <;> first
  | exact pl ki
  | exact pr kj
  | (rw [ki, kj] at hc; cases hc; done)
  | skip
 · -- N N
   obtain ⟨rfl, a, ca, rfl, ha, rfl, hA⟩ := z6o ki hi
   obtain ⟨rfl, b, cb, rfl, hb, rfl, hB⟩ := z6o kj hj
   have hne : E.off + a ≠ E.off + b := fun e => by rw [← e, zzc] at hb; cases hb
   rw [zza _ _ (Ne.symm hne)] at hb
   exact ⟨_, _, hB H _ hb, by rw [ykw _ _ _ hne]; exact hA _ _ (by rw [zza _ _ hne]; exact ha)⟩
 · -- N L
   rw [ki, kj] at hc
   obtain ⟨l, rfl⟩ := hsome hc
   obtain ⟨rfl, a, ca, rfl, ha, rfl, hA⟩ := z6o ki hi
   obtain ⟨rfl, rfl, hB⟩ := zvq kj hj
   refine ⟨H, _, hB l rfl H _ (fun id hid => ?_), hA H _ ha⟩
   rw [zza]
   intro e
   subst e
   rw [(hni l rfl ki a rfl).1] at hid
   cases hid
 · -- N A
   obtain ⟨rfl, a, ca, rfl, ha, rfl, hA⟩ := z6o ki hi
   obtain ⟨rfl, hB⟩ := z78 kj hj
   exact ⟨H, A2, hB H, hA H A2 ha⟩
 · -- L N
   rw [ki, kj] at hc
   obtain ⟨l, rfl⟩ := hsome hc
   obtain ⟨rfl, rfl, hA⟩ := zvq ki hi
   obtain ⟨rfl, b, cb, rfl, hb, rfl, hB⟩ := z6o kj hj
   refine ⟨_, _, hB _ _ hb, hA l rfl _ _ (fun id hid => ?_)⟩
   rw [zza]
   intro e
   subst e
   rw [(hnj l rfl kj b rfl).1] at hid
   cases hid
 · -- L L
   obtain ⟨rfl, rfl, _⟩ := zvq ki hi
   obtain ⟨rfl, rfl, _⟩ := zvq kj hj
   exact ⟨_, _, hj, hi⟩
 · -- L W
   rw [ki, kj] at hc
   have hlw : lwOf fb = true := hc
   obtain ⟨l, hl⟩ : ∃ l, fb = some l := by
    cases fb with
    | none => cases hlw
    | some l => exact ⟨l, rfl⟩
   obtain ⟨rfl, rfl, hA⟩ := zvq ki hi
   exact ⟨_, _, hj, hA l hl _ _ (y2i kj hj hlw)⟩
 · -- L A
   rw [ki, kj] at hc
   obtain ⟨l, rfl⟩ := hsome hc
   obtain ⟨rfl, rfl, hA⟩ := zvq ki hi
   obtain ⟨rfl, hB⟩ := z78 kj hj
   exact ⟨_, _, hj, hA l rfl _ _ (fun _ _ => rfl)⟩
 · -- L Q
   obtain ⟨rfl, rfl, _⟩ := zvq ki hi
   obtain ⟨rfl, rfl⟩ := z79 kj hj
   exact ⟨_, _, hj, hi⟩
 · -- L R
   obtain ⟨rfl, rfl, _⟩ := zvq ki hi
   obtain ⟨rfl, rfl, _⟩ := z6p kj hj
   exact ⟨_, _, hj, hi⟩
 · -- L C
   rw [ki, kj] at hc
   have hkp : zvm fb = true := hc
   obtain ⟨l, hl⟩ : ∃ l, fb = some l := by
    cases fb with
    | none => cases hkp
    | some l => exact ⟨l, rfl⟩
   obtain ⟨rfl, rfl, hA⟩ := zvq ki hi
   exact ⟨_, _, hj, hA l hl _ _ (y50 kj hj hkp)⟩
 · -- W L
   rw [ki, kj] at hc
   have hlw : lwOf fb = true := hc
   obtain ⟨l, hl⟩ : ∃ l, fb = some l := by
    cases fb with
    | none => cases hlw
    | some l => exact ⟨l, rfl⟩
   obtain ⟨rfl, rfl, hB⟩ := zvq kj hj
   obtain ⟨rfl, _⟩ := y2h ki hi l hl
   exact ⟨_, _, hB l hl _ _ (fun id hid => (y2i ki hi hlw id hid).symm), hi⟩
 · -- W A
   rw [ki, kj] at hc
   obtain ⟨l, rfl⟩ := hsome hc
   obtain ⟨rfl, hA⟩ := y2h ki hi l rfl
   obtain ⟨rfl, hB⟩ := z78 kj hj
   exact ⟨_, _, hB H, hA _⟩
 · -- A N
   obtain ⟨rfl, hA⟩ := z78 ki hi
   obtain ⟨rfl, b, cb, rfl, hb, rfl, hB⟩ := z6o kj hj
   exact ⟨_, _, hB H1 A hb, hA _⟩
 · -- A L
   rw [ki, kj] at hc
   obtain ⟨l, rfl⟩ := hsome hc
   obtain ⟨rfl, hA⟩ := z78 ki hi
   obtain ⟨rfl, rfl, hB⟩ := zvq kj hj
   exact ⟨_, _, hB l rfl _ A (fun _ _ => rfl), hA _⟩
 · -- A W
   rw [ki, kj] at hc
   obtain ⟨l, rfl⟩ := hsome hc
   obtain ⟨rfl, hA⟩ := z78 ki hi
   obtain ⟨rfl, hB⟩ := y2h kj hj l rfl
   exact ⟨_, _, hB A, hA _⟩
 · -- Q L
   obtain ⟨rfl, rfl⟩ := z79 ki hi
   obtain ⟨rfl, rfl, _⟩ := zvq kj hj
   exact ⟨_, _, hj, hi⟩
 · -- Q Q
   obtain ⟨rfl, rfl⟩ := z79 ki hi
   obtain ⟨rfl, rfl⟩ := z79 kj hj
   exact ⟨_, _, hj, hi⟩
 · -- Q R
   obtain ⟨rfl, rfl⟩ := z79 ki hi
   obtain ⟨rfl, rfl, _⟩ := z6p kj hj
   exact ⟨_, _, hj, hi⟩
 · -- R N
   rw [ki, kj] at hc
   obtain ⟨l, rfl⟩ := hsome hc
   obtain ⟨rfl, rfl, hab, hR⟩ := z6p ki hi
   obtain ⟨rfl, b, cb, rfl, hb, rfl, hB⟩ := z6o kj hj
   have hlt := (hnj l rfl kj b rfl).2
   refine ⟨_, _, hB _ _ hb, hR _ (fun id hid => zza _ _ fun e => hid (by rw [e]; exact hb)) (fun id hid => ?_)⟩
   rw [zza _ _ (by omega)]
   exact (hab id hid).1
 · -- R L
   obtain ⟨rfl, rfl, _⟩ := z6p ki hi
   obtain ⟨rfl, rfl, _⟩ := zvq kj hj
   exact ⟨_, _, hj, hi⟩
 · -- R Q
   obtain ⟨rfl, rfl, _⟩ := z6p ki hi
   obtain ⟨rfl, rfl⟩ := z79 kj hj
   exact ⟨_, _, hj, hi⟩
 · -- R R
   obtain ⟨rfl, rfl, _⟩ := z6p ki hi
   obtain ⟨rfl, rfl, _⟩ := z6p kj hj
   exact ⟨_, _, hj, hi⟩
 · -- C L
   rw [ki, kj] at hc
   have hkp : zvm fb = true := hc
   obtain ⟨l, hl⟩ : ∃ l, fb = some l := by
    cases fb with
    | none => cases hkp
    | some l => exact ⟨l, rfl⟩
   obtain ⟨rfl, rfl, hB⟩ := zvq kj hj
   exact ⟨_, _, hB l hl _ _ (fun id hid => (y50 ki hi hkp id hid).symm), hi⟩
theorem ykl (ρ : Nat → PV) {x y : Option Nat} (v u : PV) (h : ∀ d, x = some d → y ≠ some d) : put (put ρ x v) y u = put (put ρ y u) x v := by
 cases x with
 | none => rfl
 | some d => cases y with
   | none => rfl
   | some d' => exact ykw _ _ _ (fun e => h d rfl (by rw [e]))
theorem y0x {ρ : Nat → PV} {d : Option Nat} {v : PV} {x : Operand} (h : ∀ t, d = some t → x ≠ .tmp t) : ev (put ρ d v) x = ev ρ x := by
 cases d with
 | none => rfl
 | some t =>
   cases x with
   | tmp t' => exact zza _ _ (fun e => h t rfl (by rw [e]))
   | _ => rfl
theorem y7l {ρ : Nat → PV} {d : Option Nat} {v : PV} {l : List Operand} (h : ∀ x ∈ l, ∀ t, d = some t → x ≠ .tmp t) : l.map (ev (put ρ d v)) = l.map (ev ρ) :=
 List.map_congr_left fun x hx => y0x (h x hx)
theorem y4d {l : List Operand} {t : Nat} (h : .tmp t ∈ l) : t ∈ l.filterMap (fun | .tmp t => some t | _ => none) := by
 rw [List.mem_filterMap]
 exact ⟨_, h, rfl⟩
theorem y13 {ops : Array Oper} {o : Oper} {ρ : Nat → PV} {d : Option Nat} {v : PV} (hd : ∀ t, d = some t → t ∉ o.looksAt ops) (hs : ∀ cs b, o.op ≠ .select cs b) :
 res (ev (put ρ d v)) o.type o.op = res (ev ρ) o.type o.op := by
 have key : ∀ x ∈ o.op.operands.toList, ∀ t, d = some t → x ≠ .tmp t := by
  intro x hx t ht e
  subst e
  exact hd t ht (List.mem_append.2 (.inl (y4d hx)))
 have one : ∀ x, x ∈ o.op.operands.toList → ev (put ρ d v) x = ev ρ x := fun x hx => y0x (key x hx)
 have many : ∀ l : List Operand, (∀ x ∈ l, x ∈ o.op.operands.toList) → l.map (ev (put ρ d v)) = l.map (ev ρ) := fun l hl => y7l fun x hx => key x (hl x hx)
 generalize o.op = op at *
 generalize o.type = T
 cases op with
 | call c =>
   obtain ⟨callee, args, ats⟩ := c
   have ha : args.toList.map (ev (put ρ d v)) = args.toList.map (ev ρ) := many _ (fun x hx => by simp only [Op.operands, Call.operands, Array.toList_append, Zma]; exact .inr hx)
   cases callee with
   | value x =>
     show resV (ev (put ρ d v)) x _ = resV (ev ρ) x _
     rw [ha]
     cases x with
     | tmp t =>
       show ROp.callv (ev (put ρ d v) (.tmp t)) _ = ROp.callv (ev ρ (.tmp t)) _
       rw [one (.tmp t) (by simp [Op.operands, Call.operands])]
     | _ => rfl
   | invoke r m => rfl
   | builtin b =>
     show ROp.blt b _ _ _ = ROp.blt b _ _ _
     rw [ha]
 | makeFunc fn first caps =>
   show resF (ev (put ρ d v)) fn first _ = resF (ev ρ) fn first _
   unfold resF
   rw [many caps.toList (fun x hx => by simp only [Op.operands, Array.toList_append, Zma]; exact .inr hx), many first.toList (fun x hx => by simp only [Op.operands, Array.toList_append, Zma]; exact .inl hx)]
 | build T' ps =>
   show ROp.build _ _ = ROp.build _ _
   congr 1
   apply List.map_congr_left
   intro p hp
   rw [one p.2 (by simp only [Op.operands]; exact List.mem_map.2 ⟨p, hp, rfl⟩)]
 | buildSlice T' n ps =>
   show ROp.bsl _ _ _ = ROp.bsl _ _ _
   congr 1
   apply List.map_congr_left
   intro p hp
   rw [one p.2 (by simp only [Op.operands]; exact List.mem_map.2 ⟨p, hp, rfl⟩)]
 | slice T' x lo hi mx =>
   show ROp.slc _ _ _ _ _ = ROp.slc _ _ _ _ _
   have e1 := one x (by simp [Op.operands])
   have e2 : lo.map (ev (put ρ d v)) = lo.map (ev ρ) := by
    cases lo with
    | none => rfl
    | some y => simp [one y (by simp [Op.operands])]
   have e3 : hi.map (ev (put ρ d v)) = hi.map (ev ρ) := by
    cases hi with
    | none => rfl
    | some y => simp [one y (by simp [Op.operands])]
   have e4 : mx.map (ev (put ρ d v)) = mx.map (ev ρ) := by
    cases mx with
    | none => rfl
    | some y => simp [one y (by simp [Op.operands])]
   rw [e1, e2, e3, e4]
 | select cs b => exact (hs cs b rfl).elim
 | _ => first
   | rfl
   | (simp only [res]; simp only [Op.operands, List.mem_cons, List.not_mem_nil, or_false, forall_eq_or_imp, forall_eq] at one; simp [one]; done)
   | (simp only [res]; rw [one _ (by simp [Op.operands])]; done)
   | (simp only [res]; rw [one _ (by simp [Op.operands]), one _ (by simp [Op.operands])]; done)
   | (simp only [res]; rw [one _ (by simp [Op.operands]), one _ (by simp [Op.operands]), one _ (by simp [Op.operands])]; done)
theorem yzv {ops : Array Oper} {o : Oper} {ρ : Nat → PV} {d : Option Nat} {v : PV} (hd : ∀ t, d = some t → t ∉ o.looksAt ops) : zww ops (put ρ d v) o.guard = zww ops ρ o.guard := by
 unfold zww
 cases hg : o.guard with
 | none => rfl
 | some p =>
   obtain ⟨j, want⟩ := p
   simp only
   cases ht : (ops[j]?).bind (·.dst) with
   | none => rfl
   | some t =>
     simp only
     have : ev (put ρ d v) (.tmp t) = ev ρ (.tmp t) := y0x (fun t' ht' e => by
      cases e
      refine hd t ht' (List.mem_append.2 (.inr ?_))
      simp [hg, ht])
     exact congrArg (gOf want) this
def Yld (E : Env) (fb : Option (List Nat)) (ops : Array Oper) (o : Oper) (S : St) (v : PV) (H' : HMap) (A' : AMap) : Prop :=
 (zww ops S.ρ o.guard = some true ∧ zq9 E fb o.dst (res (ev S.ρ) o.type o.op) S.H S.A v H' A') ∨ (zww ops S.ρ o.guard = some false ∧ v = .c .skip ∧ H' = S.H ∧ A' = S.A)
def AOp (E : Env) (fb : Option (List Nat)) (ops : Array Oper) (i : Nat) (K : St → Prop) (S : St) : Prop :=
 match ops[i]? with
 | none => K S
 | some o => ∃ v H' A', Yld E fb ops o S v H' A' ∧ K ⟨put S.ρ o.dst v, H', A'⟩
def anyA (E : Env) (fb : Option (List Nat)) (ops : Array Oper) (K : St → Prop) : Nat → Array Bool → St → Prop
 | 0, listed, S => Region.ready .any ops listed = [] ∧ K S
 | fuel + 1, listed, S => (Region.ready .any ops listed = [] → K S) ∧ ∀ i ∈ Region.ready .any ops listed, AOp E fb ops i (anyA E fb ops K fuel (listed.setIfInBounds i true)) S
def y1t (E : Env) (fb : Option (List Nat)) (o : Oper) : Prop := ∀ l, fb = some l → kind E.effs o.op = .N → ∀ d', o.dst = some d' → blocked fb (E.off + d') = true ∧ d' < 1000
theorem y5f {E : Env} {fb : Option (List Nat)} {ops : Array Oper} {oi oj : Oper} (hap : oi.apart ops oj = true) (hc : compat (z31 fb) (kind E.effs oi.op) (kind E.effs oj.op) = true)
 (hsi : ∀ cs b, oi.op ≠ .select cs b) (hsj : ∀ cs b, oj.op ≠ .select cs b) (hni : y1t E fb oi) (hnj : y1t E fb oj) {S : St} {v v2 : PV} {H1 H2 : HMap} {A1 A2 : AMap}
 (hi : Yld E fb ops oi S v H1 A1) (hj : Yld E fb ops oj ⟨put S.ρ oi.dst v, H1, A1⟩ v2 H2 A2) :
 ∃ H1' A1', Yld E fb ops oj S v2 H1' A1' ∧ Yld E fb ops oi ⟨put S.ρ oj.dst v2, H1', A1'⟩ v H2 A2 := by
 obtain ⟨h1, h2, h3⟩ := Oper.apart_spec hap
 have gj : zww ops (put S.ρ oi.dst v) oj.guard = zww ops S.ρ oj.guard := yzv h1
 have rj : res (ev (put S.ρ oi.dst v)) oj.type oj.op = res (ev S.ρ) oj.type oj.op := y13 h1 hsj
 have gi : zww ops (put S.ρ oj.dst v2) oi.guard = zww ops S.ρ oi.guard := yzv h3
 have ri : res (ev (put S.ρ oj.dst v2)) oi.type oi.op = res (ev S.ρ) oi.type oi.op := y13 h3 hsi
 unfold Yld at *
 simp only [gj, rj, gi, ri] at *
 rcases hi with ⟨g1, s1⟩ | ⟨g1, rfl, rfl, rfl⟩ <;> rcases hj with ⟨g2, s2⟩ | ⟨g2, rfl, rfl, rfl⟩
 · obtain ⟨H1', A1', t1, t2⟩ := commute (by rw [z4x hsi, z4x hsj]; exact hc) (fun l hl hk => hni l hl (by rw [← z4x hsi]; exact hk)) (fun l hl hk => hnj l hl (by rw [← z4x hsj]; exact hk)) s1 s2
   exact ⟨H1', A1', .inl ⟨g2, t1⟩, .inl ⟨g1, t2⟩⟩
 · exact ⟨_, _, .inr ⟨g2, rfl, rfl, rfl⟩, .inl ⟨g1, s1⟩⟩
 · exact ⟨_, _, .inl ⟨g2, s2⟩, .inr ⟨g1, rfl, rfl, rfl⟩⟩
 · exact ⟨_, _, .inr ⟨g2, rfl, rfl, rfl⟩, .inr ⟨g1, rfl, rfl, rfl⟩⟩
structure Behind (ops : Array Oper) (i : Nat) (Dp : Nat → Bool) : Prop where
 step : ∀ j oj, ops[j]? = some oj → j ≠ i → Dp j = true → ∃ e ∈ oj.after, Region.binds .any e = true ∧ (e.on = i ∨ (e.on ≠ i ∧ Dp e.on = true))
theorem yk2 {E : Env} {fb : Option (List Nat)} {ops : Array Oper} {K : St → Prop} {i : Nat} {oi : Oper} {v : PV} {Dp : Nat → Bool} (hi : ops[i]? = some oi) (hsel : ∀ (j : Nat) (o : Oper) cs b, ops[j]? = some o → o.op ≠ .select cs b)
 (hnew : ∀ (j : Nat) (o : Oper), ops[j]? = some o → y1t E fb o) (hbe : Behind ops i Dp) :
 ∀ (fuel : Nat) (listed : Array Bool) (S : St) (H1 : HMap) (A1 : AMap), (∀ j, j ≠ i → Dp j = true → listed.getD j true = false) →
   (∀ j oj, ops[j]? = some oj → j ≠ i → listed.getD j true = false → Dp j = false → oi.apart ops oj = true ∧ compat (z31 fb) (kind E.effs oi.op) (kind E.effs oj.op) = true) →
   i ∈ Region.ready .any ops listed → Yld E fb ops oi S v H1 A1 →
   anyA E fb ops K fuel (listed.setIfInBounds i true) ⟨put S.ρ oi.dst v, H1, A1⟩ → anyA E fb ops K (fuel + 1) listed S := by
 intro fuel
 induction fuel with
 | zero =>
   intro listed S H1 A1 _ _ hr hy h
   refine ⟨fun h => (by rw [h] at hr; cases hr), fun j hj => ?_⟩
   by_cases hji : j = i
   · subst hji
     unfold AOp
     simp only [hi]
     exact ⟨v, H1, A1, hy, h⟩
   · have := ready_mono hj hji
     rw [h.1] at this
     cases this
 | succ fuel ih =>
   intro listed S H1 A1 hinv hfree hr hy h
   refine ⟨fun h => (by rw [h] at hr; cases hr), fun j hj => ?_⟩
   by_cases hji : j = i
   · subst hji
     unfold AOp
     simp only [hi]
     exact ⟨v, H1, A1, hy, h⟩
   · have h1 := h.2 j (ready_mono hj hji)
     obtain ⟨hjun, oj, hoj, hall⟩ := mem_ready.1 hj
     have hnot : Dp j = false := by
      cases hd : Dp j with
      | false => rfl
      | true =>
        obtain ⟨e, he, hb, hon⟩ := hbe.step j oj hoj hji hd
        have h1 := hall e he hb
        have h0 : listed.getD e.on true = false := by
         rcases hon with rfl | ⟨hne, hdp⟩
         · exact (mem_ready.1 hr).1
         · exact hinv _ hne hdp
        rcases Zlg e.on listed.size with h' | h'
        · simp [h'] at h0 h1; rw [h0] at h1; cases h1
        · simp [Array.getElem?_eq_none h'] at h1
     obtain ⟨hap, hcc⟩ := hfree j oj hoj hji hjun hnot
     unfold AOp at h1 ⊢
     simp only [hoj] at h1 ⊢
     obtain ⟨v2, H2, A2, hy2, hK⟩ := h1
     obtain ⟨H1', A1', c1, c2⟩ := y5f hap hcc (fun cs b => hsel i oi cs b hi) (fun cs b => hsel j oj cs b hoj) (hnew i oi hi) (hnew j oj hoj) hy hy2
     refine ⟨v2, H1', A1', c1, ?_⟩
     have hinv' : ∀ k, k ≠ i → Dp k = true → (listed.setIfInBounds j true).getD k true = false := fun k hki hdk => by
      have hjk : j ≠ k := fun e => by rw [e, hdk] at hnot; cases hnot
      rw [getD_set_ne true hjk]
      exact hinv k hki hdk
     have hfree' : ∀ k ok, ops[k]? = some ok → k ≠ i → (listed.setIfInBounds j true).getD k true = false →
      Dp k = false → oi.apart ops ok = true ∧ compat (z31 fb) (kind E.effs oi.op) (kind E.effs ok.op) = true := fun k ok hk hki hun hno => by
      refine hfree k ok hk hki ?_ hno
      by_cases hjk : j = k
      · subst hjk; exact hjun
      · rw [getD_set_ne true hjk] at hun; exact hun
     refine ih (listed.setIfInBounds j true) _ H2 A2 hinv' hfree' (ready_mono hr (Ne.symm hji)) c2 ?_
     rw [Array.setIfInBounds_comm _ _ hji]
     rw [ykl _ _ _ (fun d hd he => (Oper.apart_spec hap).2.1 d he hd)]
     exact hK
def z7k (l : List Nat) : Nat := l.foldr (fun i m => m ||| (1 <<< i)) 0
theorem zvx {i : Nat} : ∀ {l : List Nat}, (z7k l).testBit i = l.contains i
 | [] => by simp [z7k]
 | a :: l => by
   have ih := zvx (i := i) (l := l)
   unfold z7k at ih ⊢
   rw [List.foldr_cons, Nat.testBit_or, ih, Nat.one_shiftLeft, Nat.testBit_two_pow, List.contains_cons, Bool.or_comm]
   congr 1
   by_cases h : a = i
   · subst h; simp
   · have h' : i ≠ a := fun e => h e.symm
     simp [h, h']
structure Sm where
 dst : Option Nat
 looks : Nat
 after : Nat
 kd : Kd
def ons (o : Oper) : List Nat := o.after.toList.filterMap fun e => if Region.binds .any e = true then some e.on else none
def smOf (effs : List FuncId) (ops : Array Oper) (o : Oper) : Sm := ⟨o.dst, z7k (o.looksAt ops), z7k (ons o), kind effs o.op⟩
def z93 (x y : Sm) : Bool :=
 (match x.dst with
  | some d => !(y.looks.testBit d) && y.dst != some d
  | none => true) &&
 (match y.dst with
  | some d => !(x.looks.testBit d)
  | none => true)
theorem ywz {effs : List FuncId} {ops : Array Oper} {x y : Oper} : z93 (smOf effs ops x) (smOf effs ops y) = x.apart ops y := by
 unfold z93 Oper.apart smOf
 simp only [zvx]
 rfl
theorem y7n {o : Oper} {i : Nat} : i ∈ ons o ↔ ∃ e ∈ o.after, Region.binds .any e = true ∧ e.on = i := by
 unfold ons
 rw [List.mem_filterMap]
 constructor
 · rintro ⟨e, he, h⟩
   split at h
   · rename_i hb
     cases h
     exact ⟨e, by simpa using he, hb, rfl⟩
   · cases h
 · rintro ⟨e, he, hb, rfl⟩
   exact ⟨e, by simpa using he, by rw [if_pos hb]⟩
def z9e (a : Nat) : List (Sm × Nat) → Nat → Nat → Nat
 | [], _, acc => acc
 | p :: r, i, acc => z9e a r (i + 1) (bif a.testBit i then acc ||| p.2 else acc)
def z6a (ns : Bool × Bool × Bool) (s : Sm) (anc : Nat) : List (Sm × Nat) → Nat → Bool
 | [], _ => true
 | p :: r, i => (anc.testBit i || (z93 p.1 s && compat ns p.1.kd s.kd)) && z6a ns s anc r (i + 1)
def lexB (ns : Bool × Bool × Bool) : List Sm → List (Sm × Nat) → Nat → Bool
 | [], _, _ => true
 | s :: r, prev, j => Nat.beq (s.after >>> j) 0 && (z6a ns s (z9e s.after prev 0 s.after) prev 0 && lexB ns r (prev ++ [(s, z9e s.after prev 0 s.after)]) (j + 1))
theorem z70 {a k : Nat} : ∀ {l : List (Sm × Nat)} {i acc : Nat}, (z9e a l i acc).testBit k = true → acc.testBit k = true ∨ ∃ m p, l[m]? = some p ∧ a.testBit (i + m) = true ∧ p.2.testBit k = true
 | [], _, _, h => .inl h
 | p :: r, i, acc, h => by
   unfold z9e at h
   rcases z70 h with h | ⟨m, q, h1, h2, h3⟩
   · cases hb : a.testBit i with
     | false => rw [hb] at h; exact .inl h
     | true =>
       rw [hb] at h
       simp only [cond_true, Nat.testBit_or, Bool.or_eq_true] at h
       rcases h with h | h
       · exact .inl h
       · exact .inr ⟨0, p, rfl, hb, h⟩
   · exact .inr ⟨m + 1, q, by simpa using h1, by rw [show i + (m + 1) = i + 1 + m by omega]; exact h2, h3⟩
theorem z32 {ns : Bool × Bool × Bool} {s : Sm} {anc : Nat} : ∀ {l : List (Sm × Nat)} {i : Nat}, z6a ns s anc l i = true → ∀ m p, l[m]? = some p → anc.testBit (i + m) = true ∨ (z93 p.1 s = true ∧ compat ns p.1.kd s.kd = true)
 | [], _, _, m, p, hp => by simp at hp
 | q :: r, i, h, m, p, hp => by
   unfold z6a at h
   simp only [Bool.and_eq_true, Bool.or_eq_true] at h
   cases m with
   | zero => simp at hp; subst hp; exact h.1
   | succ m =>
     have := z32 h.2 m p (by simpa using hp)
     rwa [show i + 1 + m = i + (m + 1) by omega] at this
structure Good (ns : Bool × Bool × Bool) (l : List (Sm × Nat)) : Prop where
 back : ∀ (j : Nat) (p : Sm × Nat) (i : Nat), l[j]? = some p → p.1.after.testBit i = true → i < j
 anc : ∀ (j : Nat) (p : Sm × Nat) (k : Nat), l[j]? = some p → p.2.testBit k = true → p.1.after.testBit k = true ∨ ∃ (i : Nat) (q : Sm × Nat), p.1.after.testBit i = true ∧ l[i]? = some q ∧ q.2.testBit k = true
 low : ∀ (j : Nat) (p : Sm × Nat) (k : Nat), l[j]? = some p → p.2.testBit k = true → k < j
 pair : ∀ (j : Nat) (p : Sm × Nat) (i : Nat) (q : Sm × Nat), l[j]? = some p → i < j → l[i]? = some q → p.2.testBit i = true ∨ (z93 q.1 p.1 = true ∧ compat ns q.1.kd p.1.kd = true)
theorem z05 {α : Type} {l : List α} {x y : α} {j : Nat} (h : (l ++ [x])[j]? = some y) : l[j]? = some y ∨ (j = l.length ∧ y = x) := by
 rcases Zlg j l.length with hlt | hge
 · rw [List.getElem?_append_left hlt] at h; exact .inl h
 · rw [List.getElem?_append_right hge] at h
   rcases Nat.eq_zero_or_pos (j - l.length) with h0 | h0
   · rw [h0] at h
     exact .inr ⟨by omega, by simpa using h.symm⟩
   · rw [List.getElem?_eq_none (by simp; omega)] at h; cases h
theorem yzu {α : Type} {l : List α} {y : α} {j : Nat} (h : l[j]? = some y) : j < l.length := (List.getElem?_eq_some_iff.1 h).1
theorem ywr {ns : Bool × Bool × Bool} {prev : List (Sm × Nat)} {s : Sm} (g : Good ns prev) (h1 : Nat.beq (s.after >>> prev.length) 0 = true) (h2 : z6a ns s (z9e s.after prev 0 s.after) prev 0 = true) : Good ns (prev ++ [(s, z9e s.after prev 0 s.after)]) := by
 have hlow : ∀ i, s.after.testBit i = true → i < prev.length := fun i hi => by
  refine Nat.lt_of_not_le fun hge => ?_
  have h0 : s.after >>> prev.length = 0 := Nat.eq_of_beq_eq_true h1
  have : (s.after >>> prev.length).testBit (i - prev.length) = s.after.testBit i := by
   rw [Nat.testBit_shiftRight, show prev.length + (i - prev.length) = i by omega]
  rw [h0, Nat.zero_testBit, hi] at this
  cases this
 have hanc : ∀ k, (z9e s.after prev 0 s.after).testBit k = true → s.after.testBit k = true ∨ ∃ i q, s.after.testBit i = true ∧ prev[i]? = some q ∧ q.2.testBit k = true := fun k hk => by
  rcases z70 hk with h | ⟨m, p, e1, e2, e3⟩
  · exact .inl h
  · exact .inr ⟨m, p, by simpa using e2, e1, e3⟩
 refine ⟨fun j p i hj hi => ?_, fun j p k hj hk => ?_, fun j p k hj hk => ?_, fun j p i q hj hij hi => ?_⟩
 · rcases z05 hj with hj | ⟨rfl, rfl⟩
   · exact g.back j p i hj hi
   · exact hlow i hi
 · rcases z05 hj with hj | ⟨rfl, rfl⟩
   · rcases g.anc j p k hj hk with h | ⟨i, q, e1, e2, e3⟩
     · exact .inl h
     · exact .inr ⟨i, q, e1, by rw [List.getElem?_append_left (yzu e2)]; exact e2, e3⟩
   · rcases hanc k hk with h | ⟨i, q, e1, e2, e3⟩
     · exact .inl h
     · exact .inr ⟨i, q, e1, by rw [List.getElem?_append_left (yzu e2)]; exact e2, e3⟩
 · rcases z05 hj with hj | ⟨rfl, rfl⟩
   · exact g.low j p k hj hk
   · rcases hanc k hk with h | ⟨i, q, e1, e2, e3⟩
     · exact hlow k h
     · have := g.low i q k e2 e3
       have := yzu e2
       omega
 · rcases z05 hj with hj | ⟨rfl, rfl⟩
   · rcases z05 hi with hi | ⟨rfl, _⟩
     · exact g.pair j p i q hj hij hi
     · have := yzu hj
       omega
   · rcases z05 hi with hi | ⟨rfl, _⟩
     · have := z32 h2 i q hi
       rwa [Nat.zero_add] at this
     · omega
theorem yz8 {ns : Bool × Bool × Bool} : ∀ (r : List Sm) (prev : List (Sm × Nat)), lexB ns r prev prev.length = true → Good ns prev → ∃ full, Good ns full ∧ full.map (·.1) = prev.map (·.1) ++ r
 | [], prev, _, g => ⟨prev, g, by simp⟩
 | s :: r, prev, h, g => by
   unfold lexB at h
   simp only [Bool.and_eq_true] at h
   obtain ⟨h1, h2, h3⟩ := h
   have g' := ywr g h1 h2
   obtain ⟨full, k1, k2⟩ := yz8 r (prev ++ [(s, z9e s.after prev 0 s.after)]) (by simpa using h3) g'
   exact ⟨full, k1, by rw [k2]; simp⟩
theorem y2x {ns : Bool × Bool × Bool} : Good ns [] := ⟨fun j p i h => (by simp at h), fun j p i h => (by simp at h), fun j p i h => (by simp at h), fun j p i q h => (by simp at h)⟩
theorem z91 {E : Env} {fb : Option (List Nat)} {ops : Array Oper} {o : Oper} {r : List Oper} {S : St} {K : St → Prop} (hdm : yvy E.effs o.op = false) (h : RunV E fb ops (o :: r) S K) :
 ∃ v H' A', Yld E fb ops o S v H' A' ∧ RunV E fb ops r ⟨put S.ρ o.dst v, H', A'⟩ K := by
 obtain ⟨g, hg, ht, hff⟩ := Opt.iff.1 h
 cases g with
 | true =>
   obtain ⟨v, H', A', h1, h2⟩ := y22 (by rw [y70]; exact hdm) (ht rfl)
   exact ⟨v, H', A', .inl ⟨hg, h1⟩, h2⟩
 | false => exact ⟨_, _, _, .inr ⟨hg, rfl, rfl, rfl⟩, hff rfl⟩
def Done (n k : Nat) (listed : Array Bool) : Prop := ∀ j, listed.getD j true = (decide (j < k) || decide (n ≤ j))
theorem ywq {n k : Nat} {listed : Array Bool} (h : Done n k listed) (hs : listed.size = n) (hk : k < n) : Done n (k + 1) (listed.setIfInBounds k true) := by
 intro j
 by_cases hjk : k = j
 · subst hjk
   rw [Array.getD_eq_getD_getElem?, Array.getElem?_setIfInBounds_self_of_lt (by omega)]
   simp
 · rw [getD_set_ne true hjk, h j]
   congr 1
   rw [Bool.eq_iff_iff, decide_eq_true_eq, decide_eq_true_eq]
   omega
theorem yjr {E : Env} {fb : Option (List Nat)} {ops : Array Oper} {K : St → Prop} {full : List (Sm × Nat)} (hdm : ∀ (j : Nat) (o : Oper), ops[j]? = some o → yvy E.effs o.op = false) (hsel : ∀ (j : Nat) (o : Oper) cs b, ops[j]? = some o → o.op ≠ .select cs b) (hnew : ∀ (j : Nat) (o : Oper), ops[j]? = some o → y1t E fb o)
 (g : Good (z31 fb) full) (hfull : full.map (·.1) = ops.toList.map (smOf E.effs ops)) :
 ∀ (l : List Oper) (k : Nat) (listed : Array Bool) (S : St), (∀ j, l[j]? = ops[k + j]?) → k + l.length = ops.size → listed.size = ops.size → Done ops.size k listed → RunV E fb ops l S K → anyA E fb ops K l.length listed S
 | [], k, listed, _, _, hlen, _, hD, h => by
   refine ⟨List.eq_nil_iff_forall_not_mem.2 fun i hi => ?_, h⟩
   have := (mem_ready.1 hi).1
   rw [hD i] at this
   simp only [Bool.or_eq_false_iff, decide_eq_false_iff_not] at this
   simp only [List.length_nil] at hlen
   omega
 | o :: l, k, listed, S, hl, hlen, hsz, hD, h => by
   have h0 : ops[k]? = some o := by simpa using (hl 0).symm
   simp only [List.length_cons] at hlen
   have at_ : ∀ (j : Nat) (oj : Oper), ops[j]? = some oj → ∃ a : Nat, full[j]? = some (smOf E.effs ops oj, a) := fun j oj hj => by
    have h1 : (full.map (·.1))[j]? = some (smOf E.effs ops oj) := by rw [hfull, List.getElem?_map, Array.getElem?_toList, hj]; rfl
    rw [List.getElem?_map, Zms] at h1
    obtain ⟨p, hp, e⟩ := h1
    exact ⟨p.2, by rw [hp, ← e]⟩
   have ons_ : ∀ (oj : Oper) i, (smOf E.effs ops oj).after.testBit i = true ↔ ∃ e ∈ oj.after, Region.binds .any e = true ∧ e.on = i := fun oj i => by
    show (z7k (ons oj)).testBit i = true ↔ _
    rw [zvx, List.contains_iff_mem, y7n]
   let Dp : Nat → Bool := fun j => match full[j]? with
    | some p => p.2.testBit k
    | none => false
   have hDp : ∀ j : Nat, Dp j = true → ∃ p : Sm × Nat, full[j]? = some p ∧ p.2.testBit k = true := fun j hj => by
    simp only [Dp] at hj
    split at hj
    · rename_i p hp; exact ⟨p, hp, hj⟩
    · cases hj
   have hDp' : ∀ (j : Nat) (p : Sm × Nat), full[j]? = some p → Dp j = p.2.testBit k := fun j p hp => by simp only [Dp, hp]
   obtain ⟨a0, hf0⟩ := at_ k o h0
   have hbe : Behind ops k Dp := ⟨fun j oj hj hjk hd => by
    obtain ⟨a, hf⟩ := at_ j oj hj
    have hd' : a.testBit k = true := by rw [← hDp' j _ hf]; exact hd
    rcases g.anc j _ k hf hd' with h1 | ⟨i, q, h1, h2, h3⟩
    · obtain ⟨e, he, hb, hon⟩ := (ons_ oj k).1 h1
      exact ⟨e, he, hb, .inl hon⟩
    · obtain ⟨e, he, hb, hon⟩ := (ons_ oj i).1 h1
      by_cases hik : i = k
      · exact ⟨e, he, hb, .inl (hon.trans hik)⟩
      · exact ⟨e, he, hb, .inr ⟨by rw [hon]; exact hik, by rw [hon, hDp' i q h2]; exact h3⟩⟩⟩
   have hinv : ∀ j, j ≠ k → Dp j = true → listed.getD j true = false := fun j hjk hd => by
    obtain ⟨p, hp, hk⟩ := hDp j hd
    have h1 := g.low j p k hp hk
    have h2 : j < ops.size := by
     have := yzu hp
     have h3 := congrArg List.length hfull
     simp only [List.length_map, Array.length_toList] at h3
     omega
    rw [hD j]
    simp only [Bool.or_eq_false_iff, decide_eq_false_iff_not]
    omega
   have hfree : ∀ j oj, ops[j]? = some oj → j ≠ k → listed.getD j true = false → Dp j = false → o.apart ops oj = true ∧ compat (z31 fb) (kind E.effs o.op) (kind E.effs oj.op) = true := fun j oj hj hjk hun hd => by
    rw [hD j] at hun
    simp only [Bool.or_eq_false_iff, decide_eq_false_iff_not] at hun
    obtain ⟨a, hf⟩ := at_ j oj hj
    have hd' : a.testBit k = false := by rw [← hDp' j _ hf]; exact hd
    rcases g.pair j _ k _ hf (by omega) hf0 with h1 | ⟨h1, h2⟩
    · rw [hd'] at h1; cases h1
    · rw [ywz] at h1
      exact ⟨h1, h2⟩
   have hr : k ∈ Region.ready .any ops listed := mem_ready.2 ⟨by
    rw [hD k]
    simp only [Bool.or_eq_false_iff, decide_eq_false_iff_not]
    omega, o, h0, fun e he hb => by
    have h1 := g.back k _ e.on hf0 ((ons_ o e.on).2 ⟨e, he, hb, rfl⟩)
    have h2 := hD e.on
    have h3 : e.on < listed.size := by omega
    simp only [h1, decide_true, Bool.true_or] at h2
    rw [Array.getD_eq_getD_getElem?, Array.getElem?_eq_getElem h3] at h2 ⊢
    exact h2⟩
   obtain ⟨v, H', A', hy, hK⟩ := z91 (hdm k o h0) h
   exact yk2 h0 hsel hnew hbe l.length listed S H' A' hinv hfree hr hy
    (yjr hdm hsel hnew g hfull l (k + 1) _ _ (fun j => by have := hl (j + 1); simpa [Nat.add_assoc, Nat.add_comm 1 j] using this) (by omega) (by simpa using hsz) (ywq hD hsz (by omega)) hK)
end Go.PW
