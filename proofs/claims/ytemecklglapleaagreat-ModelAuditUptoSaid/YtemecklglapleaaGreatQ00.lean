/-
  Parts of the proof, laid together: PwA.
-/
import Derived.Laws.IdiomRangeMap
import Derived.Orders
import Derived.Laws.AppendOwn
import Derived.Laws.StructEq
import Derived.Laws.IdiomCopy
import Derived.Laws.Slices
import Derived.Scope

namespace Go
theorem Zge {α : Type _} {l : List α} {i : Nat} (h : i < l.length) : l[i]? = some l[i] := List.getElem?_eq_getElem h
theorem Zle {a b : Nat} (h : Nat.ble a b = true) : a ≤ b := Nat.le_of_ble_eq_true h
theorem Zme {α : Type _} {l : List α} {i : Nat} {a : α} (h : l[i]? = some a) : a ∈ l := List.mem_of_getElem? h
theorem Zti : True := True.intro
theorem Zbs {α : Type _} {β : Type _} {b : β} {o : Option α} {f : α → Option β} : o.bind f = some b ↔ ∃ a, o = some a ∧ f a = some b := Option.bind_eq_some_iff
theorem Ztl {α : Type _} {i : Nat} {l : List α} (h : l.length ≤ i) : l.take i = l := List.take_of_length_le h
theorem Zms {α : Type _} {β : Type _} {b : β} {o : Option α} {f : α → β} : o.map f = some b ↔ ∃ a, o = some a ∧ f a = b := Option.map_eq_some_iff
theorem Zgs {α : Type _} {l : List α} {i : Nat} {a : α} : l[i]? = some a ↔ ∃ h : i < l.length, l[i] = a := List.getElem?_eq_some_iff
theorem Zlg (n m : Nat) : n < m ∨ n ≥ m := Nat.lt_or_ge n m
theorem Zlr (n : Nat) : n ≤ n := Nat.le_refl n
theorem Zms2 {α : Type _} {a : α} {l : List α} : a ∈ a :: l := List.mem_cons_self
theorem Zlt {α : Type _} {i : Nat} {l : List α} : (l.take i).length = min i l.length := List.length_take
theorem Zma {α : Type _} {a : α} {s t : List α} : a ∈ s ++ t ↔ a ∈ s ∨ a ∈ t := List.mem_append
theorem Zmm {α : Type _} {β : Type _} {b : β} {f : α → β} {l : List α} : b ∈ l.map f ↔ ∃ a, a ∈ l ∧ f a = b := List.mem_map
theorem Zla {α : Type _} {as bs : List α} : (as ++ bs).length = as.length + bs.length := List.length_append
theorem Zmg {α : Type _} {a b : α} : a ∈ [b] ↔ a = b := List.mem_singleton
end Go
namespace Go.PW
abbrev Tok := Nat × Nat
inductive D where
 | lit (v : Value)
 | sl (els : List (List D))
 | rf (p off : Nat)
 | mr (p : Nat)
 | sa (p sz n : Nat)
 | el (p sz n i off : Nat)
 | vw (p sz L lo n : Nat)
 | fn (f : FuncId)
 | nl
inductive MV where
 | c (d : D)
 | agg (ds : List D)
inductive Arr where
 | co (sz n : Nat)
 | mu (sz : Nat) (els : List (List D))
 | mp (m : List (Value × MV))
 | mpi (m : List (Value × MV)) (cur : Option (Value × MV)) (left : List (Value × MV)) (bi : Nat)
 | si (s : ByteArray) (pos : Nat)
 | ob (ds : List D)
 | pr (p : Nat) (ar : Arr)
 | cnt (n : Nat)
 | dead
def Arr.core : Arr → Arr
 | .pr _ a => a
 | a => a
def Arr.re : Arr → Arr → Arr
 | .pr p _, b => .pr p b
 | _, b => b
def Arr.isPr : Arr → Bool
 | .pr _ _ => true
 | .cnt _ => true
 | _ => false
def Arr.isMp : Arr → Bool
 | .mp _ => true
 | .mpi _ _ _ _ => true
 | _ => false
inductive CV where
 | any
 | skip
 | d (x : D)
 | full (els : List (List D))
 | own (κ : Tok) (els : List (List D))
 | mt (κ : Tok) (sz n : Nat)
 | tv (κ : Tok) (sz n L : Nat)
 | ptr (id off : Nat)
 | eptr (e : List D) (off : Nat)
 | mptr (κ : Tok) (sz n i off : Nat)
 | fn (f : FuncId) (caps : List (Nat × Nat))
 | mpr (κ : Tok)
 | vsl (id n : Nat)
 | bfn (f : FuncId) (fst caps : List (Nat × Nat))
 | itr (κ : Tok) (bi : Nat)
 | sit (κ : Tok)
inductive TV where
 | c (x : CV)
 | agg (cs : List CV)
inductive PV where
 | c (x : CV)
 | agg (cs : List CV)
 | tup (xs : List TV)
def TV.pv : TV → PV
 | .c x => .c x
 | .agg cs => .agg cs
inductive Own where
 | var (id : Nat)
 | tok (κ : Tok)
 deriving DecidableEq
structure Gh where
 C : Nat → Nat → Option Value
 β : Nat → Option Nat
 τ : Tok → Value
 O : Nat → Option Own
 π : Nat → Option Value
abbrev HMap := Nat → Option (List CV)
abbrev AMap := Tok → Option Arr
inductive DRep (C : Nat → Nat → Option Value) (π : Nat → Option Value) : D → Value → Prop
 | lit (v : Value) (h : v.oneCell' = true) : DRep C π (.lit v) v
 | nil (a : Option Addr) : DRep C π (.sl []) (.slice a 0 0)
 | sl (els : List (List D)) (b o cap sz n : Nat) (val : Nat → Nat → Value) (hn : n = els.length) (hcap : n ≤ cap) (hsz : ∀ e ∈ els, e.length = sz)
    (hC : ∀ i k, i < n → k < sz → C b (o + i * sz + k) = some (val i k))
    (hd : ∀ i k e x, els[i]? = some e → e[k]? = some x → DRep C π x (val i k)) : DRep C π (.sl els) (.slice (some ⟨b, o, none⟩) n cap)
 | rf (p off b : Nat) (h : π p = some (.pointer (some ⟨b, 0, none⟩))) : DRep C π (.rf p off) (.pointer (some ⟨b, off, none⟩))
 | mr (p b : Nat) (h : π p = some (.map (some b))) : DRep C π (.mr p) (.map (some b))
 | sa (p sz n cap : Nat) (a : Option Addr) (h : π p = some (.slice a n cap)) (hc : n ≤ cap) (h0 : 0 < n → ∃ b, a = some ⟨b, 0, none⟩) : DRep C π (.sa p sz n) (.slice a n cap)
 | el (p sz n i off b cap : Nat) (h : π p = some (.slice (some ⟨b, 0, none⟩) n cap)) (hi : i < n) : DRep C π (.el p sz n i off) (.pointer (some ⟨b, i * sz + off, none⟩))
 | vw (p sz L lo n cap cap' : Nat) (a a' : Option Addr) (h : π p = some (.slice a L cap)) (hn : lo + n ≤ L) (h0 : 0 < n → ∃ b, a = some ⟨b, 0, none⟩ ∧ a' = some ⟨b, lo * sz, none⟩) : DRep C π (.vw p sz L lo n) (.slice a' n cap')
 | fn (f : FuncId) : DRep C π (.fn f) (.func (.func f) #[] #[])
 | nl (a : Option Addr) : DRep C π .nl (.slice a 0 0)
theorem DRep.mono {C C' : Nat → Nat → Option Value} {π π' : Nat → Option Value} (h : ∀ b o v, C b o = some v → C' b o = some v) (hp : ∀ p v, π p = some v → π' p = some v) {x : D} {v : Value} (hr : DRep C π x v) : DRep C' π' x v := by
 induction hr with
 | lit v h => exact .lit v h
 | nil a => exact .nil a
 | sl els b o cap sz n val hn hcap hsz hC hd ih => exact .sl els b o cap sz n val hn hcap hsz (fun i k hi hk => h _ _ _ (hC i k hi hk)) ih
 | rf p off b h => exact .rf p off b (hp _ _ h)
 | mr p b h => exact .mr p b (hp _ _ h)
 | sa p sz n cap a h hc h0 => exact .sa p sz n cap a (hp _ _ h) hc h0
 | el p sz n i off b cap h hi => exact .el p sz n i off b cap (hp _ _ h) hi
 | vw p sz L lo n cap cap' a a' h hn h0 => exact .vw p sz L lo n cap cap' a a' (hp _ _ h) hn h0
 | fn f => exact .fn f
 | nl a => exact .nl a
theorem DRep.oneCell {C : Nat → Nat → Option Value} {π : Nat → Option Value} {x : D} {v : Value} (h : DRep C π x v) : v.oneCell' = true := by
 cases h with
 | lit v h => exact h
 | _ => rfl
theorem DRep.lit_eq {C : Nat → Nat → Option Value} {π : Nat → Option Value} {u v : Value} (h : DRep C π (.lit u) v) : v = u := by cases h; rfl
def z1a (C : Nat → Nat → Option Value) (π : Nat → Option Value) : MV → Value → Prop
 | .c d, v => DRep C π d v
 | .agg ds, v => ∃ arr : Array Value, v = .agg arr ∧ arr.size = ds.length ∧ ∀ (k : Nat) (x : D), ds[k]? = some x → ∃ u, arr[k]? = some u ∧ DRep C π x u
theorem z1a.mono {C C' : Nat → Nat → Option Value} {π π' : Nat → Option Value} (h : ∀ b o v, C b o = some v → C' b o = some v) (hp : ∀ p v, π p = some v → π' p = some v) {x : MV} {v : Value} (hr : z1a C π x v) : z1a C' π' x v := by
 cases x with
 | c d => exact DRep.mono h hp hr
 | agg ds => obtain ⟨arr, e, hs, hd⟩ := hr; exact ⟨arr, e, hs, fun k x hk => let ⟨u, hu, r⟩ := hd k x hk; ⟨u, hu, r.mono h hp⟩⟩
def y5h (C : Nat → Nat → Option Value) (π : Nat → Option Value) (e : Value × Value) (m : Value × MV) : Prop := e.1 = m.1 ∧ z1a C π m.2 e.2
inductive All2 {α β : Type} (R : α → β → Prop) : List α → List β → Prop
 | nil : All2 R [] []
 | cons {a : α} {b : β} {l : List α} {m : List β} (h : R a b) (t : All2 R l m) : All2 R (a :: l) (b :: m)
abbrev EntsRep (C : Nat → Nat → Option Value) (π : Nat → Option Value) (es : List (Value × Value)) (m : List (Value × MV)) : Prop := All2 (y5h C π) es m
theorem EntsRep.mono {C C' : Nat → Nat → Option Value} {π π' : Nat → Option Value} (h : ∀ b o v, C b o = some v → C' b o = some v) (hp : ∀ p v, π p = some v → π' p = some v) {es : List (Value × Value)} {m : List (Value × MV)} (hr : EntsRep C π es m) : EntsRep C' π' es m := by
 induction hr with
 | nil => exact .nil
 | cons a _ ih => exact .cons ⟨a.1, a.2.mono h hp⟩ ih
def z0b : Value → Prop
 | .slice _ n cap => cap = n
 | _ => False
def zwu (β : Nat → Option Nat) (l : List (Nat × Nat)) (vs : Array Value) : Prop :=
 vs.size = l.length ∧ ∀ (k : Nat) (p : Nat × Nat), l[k]? = some p → ∃ b, β p.1 = some b ∧ vs[k]? = some (.pointer (some ⟨b, p.2, none⟩))
theorem zwu.mono {β β' : Nat → Option Nat} {l : List (Nat × Nat)} {vs : Array Value} (h : zwu β l vs) (k : ∀ p ∈ l, ∀ b, β p.1 = some b → β' p.1 = some b) : zwu β' l vs :=
 ⟨h.1, fun i p hi => let ⟨b, hb, e⟩ := h.2 i p hi; ⟨b, k p (Zme hi) b hb, e⟩⟩
def CRep (g : Gh) (A : AMap) : CV → Value → Prop
 | .any, _ => True
 | .skip, v => v = undef
 | .d x, v => DRep g.C g.π x v
 | .full els, v => DRep g.C g.π (.sl els) v ∧ z0b v
 | .own κ els, v => DRep g.C g.π (.sl els) v ∧ ∃ sz n, A κ = some (.co sz n) ∧ els.length ≤ n ∧ (els.length = n → g.τ κ = v ∨ ∃ a, v = .slice a 0 0)
 | .mt κ sz n, v => ∃ a cap els, v = .slice a n cap ∧ (0 < n → ∃ b, a = some ⟨b, 0, none⟩) ∧ A κ = some (.mu sz els) ∧ n ≤ els.length ∧ (n = els.length → g.τ κ = v ∨ ∃ a, v = .slice a 0 0)
 | .tv κ sz n L, v => ∃ a cap els, v = .slice a n cap ∧ (0 < n → ∃ b, a = some ⟨b, 0, none⟩) ∧ A κ = some (.mu sz els) ∧ (n ≤ L ∧ L ≤ els.length ∧ n ≤ cap) ∧ (L = els.length → g.τ κ = .slice a L cap ∨ (L = 0 ∧ ∃ a, v = .slice a 0 0))
 | .ptr id off, v => ∃ b, g.β id = some b ∧ v = .pointer (some ⟨b, off, none⟩)
 | .eptr e off, v => ∃ b o, v = .pointer (some ⟨b, o + off, none⟩) ∧ ∀ (k : Nat) (x : D), e[k]? = some x → ∃ u, g.C b (o + k) = some u ∧ DRep g.C g.π x u
 | .mptr κ sz n i off, v => ∃ b els, v = .pointer (some ⟨b, i * sz + off, none⟩) ∧ A κ = some (.mu sz els) ∧ n ≤ els.length ∧ (n = els.length → ∃ cap, g.τ κ = .slice (some ⟨b, 0, none⟩) n cap)
 | .fn f caps, v => ∃ vs : Array Value, v = .func (.func f) #[] vs ∧ vs.size = caps.length ∧ ∀ (k : Nat) (p : Nat × Nat), caps[k]? = some p → ∃ b, g.β p.1 = some b ∧ vs[k]? = some (.pointer (some ⟨b, p.2, none⟩))
 | .mpr κ, v => (∃ b, v = .map (some b)) ∧ v = g.τ κ ∧ ∃ ar, A κ = some ar ∧ ar.isMp = true
 | .vsl id n, v => ∃ b, g.β id = some b ∧ v = .slice (some ⟨b, 0, none⟩) n n
 | .bfn f fst caps, v => ∃ us vs : Array Value, v = .func (.func f) us vs ∧ zwu g.β fst us ∧ zwu g.β caps vs
 | .itr _ bi, v => v = .pointer (some ⟨bi, 0, none⟩)
 | .sit κ, v => (∃ b, v = .pointer (some ⟨b, 0, none⟩)) ∧ v = g.τ κ ∧ ∃ s pos, A κ = some (.si s pos)
def zq8 (g : Gh) (A : AMap) (cs : List CV) (vs : List Value) : Prop := vs.length = cs.length ∧ ∀ (k : Nat) (c : CV), cs[k]? = some c → ∃ v, vs[k]? = some v ∧ CRep g A c v
def TRep (g : Gh) (A : AMap) : TV → Value → Prop
 | .c x, v => CRep g A x v
 | .agg cs, v => ∃ arr : Array Value, v = .agg arr ∧ zq8 g A cs arr.toList
def PRep (g : Gh) (A : AMap) : PV → Value → Prop
 | .c x, v => CRep g A x v
 | .agg cs, v => ∃ arr : Array Value, v = .agg arr ∧ zq8 g A cs arr.toList
 | .tup xs, v => ∃ arr : Array Value, v = .tuple arr ∧ arr.size = xs.length ∧ ∀ (k : Nat) (x : TV), xs[k]? = some x → ∃ u, arr[k]? = some u ∧ TRep g A x u
theorem zw8 {g : Gh} {A : AMap} {x : TV} {v : Value} : PRep g A x.pv v ↔ TRep g A x v := by cases x <;> rfl
def zkg : Arr → Value → Arr → Value → Prop
 | .co sz n, v, .co sz' n', v' => sz = sz' ∧ ((n = n' ∧ v = v') ∨ n < n')
 | .mu sz els, v, .mu sz' els', v' => sz = sz' ∧ ((els.length = els'.length ∧ v = v') ∨ els.length < els'.length)
 | .mp _, v, .mp _, v' => v = v'
 | .mp _, v, .mpi _ _ _ _, v' => v = v'
 | .mpi _ _ _ _, v, .mp _, v' => v = v'
 | .mpi _ _ _ _, v, .mpi _ _ _ _, v' => v = v'
 | .si _ _, v, .si _ _, v' => v = v'
 | .ob _, v, .ob _, v' => v = v'
 | .pr p _, v, .pr q _, v' => p = q ∧ v = v'
 | .pr _ _, _, .dead, _ => True
 | .dead, _, .dead, _ => True
 | .cnt n, _, .cnt m, _ => n ≤ m
 | _, _, _, _ => False
theorem zkg.refl (ar : Arr) (v : Value) : zkg ar v ar v := by cases ar <;> first | exact ⟨rfl, .inl ⟨rfl, rfl⟩⟩ | exact rfl | exact ⟨rfl, rfl⟩ | exact Zti | exact Zlr _
theorem zkg.trans {a b c : Arr} {u v w : Value} (h : zkg a u b v) (k : zkg b v c w) : zkg a u c w := by
 cases a <;> cases b <;> cases c <;> simp only [zkg] at h k ⊢ <;> first
 | exact h.trans k
 | exact ⟨h.1.trans k.1, h.2.trans k.2⟩
 | exact Nat.le_trans h k
 | (obtain ⟨h1, h2⟩ := h
    obtain ⟨k1, k2⟩ := k
    refine ⟨h1.trans k1, ?_⟩
    rcases h2 with ⟨h2, h3⟩ | h2 <;> rcases k2 with ⟨k2, k3⟩ | k2
    · exact .inl ⟨h2.trans k2, h3.trans k3⟩
    · exact .inr (by omega)
    · exact .inr (by omega)
    · exact .inr (by omega))
structure Mono (g : Gh) (A : AMap) (g' : Gh) (A' : AMap) : Prop where
 C : ∀ b o v, g.C b o = some v → g'.C b o = some v
 β : ∀ id b, g.β id = some b → g'.β id = some b
 τ : ∀ κ ar, A κ = some ar → ∃ ar', A' κ = some ar' ∧ zkg ar (g.τ κ) ar' (g'.τ κ)
 π : ∀ p v, g.π p = some v → g'.π p = some v
theorem Mono.refl (g : Gh) (A : AMap) : Mono g A g A := ⟨fun _ _ _ h => h, fun _ _ h => h, fun _ ar h => ⟨ar, h, zkg.refl _ _⟩, fun _ _ h => h⟩
theorem Mono.trans {g1 g2 g3 : Gh} {A1 A2 A3 : AMap} (h : Mono g1 A1 g2 A2) (k : Mono g2 A2 g3 A3) : Mono g1 A1 g3 A3 :=
 ⟨fun b o v e => k.C b o v (h.C b o v e), fun id b e => k.β id b (h.β id b e), fun κ ar e => by
   obtain ⟨ar', e', l⟩ := h.τ κ ar e
   obtain ⟨ar'', e'', l'⟩ := k.τ κ ar' e'
   exact ⟨ar'', e'', l.trans l'⟩, fun p v e => k.π p v (h.π p v e)⟩
theorem CRep.mono {g g' : Gh} {A A' : AMap} (h : Mono g A g' A') {c : CV} {v : Value} (hr : CRep g A c v) : CRep g' A' c v := by
 cases c with
 | any => trivial
 | skip => exact hr
 | d x => exact DRep.mono h.C h.π hr
 | full els => exact ⟨DRep.mono h.C h.π hr.1, hr.2⟩
 | own κ els =>
   obtain ⟨hd, sz, n, hA, hl, ht⟩ := hr
   obtain ⟨ar', hA', hle⟩ := h.τ κ _ hA
   cases ar' with
   | mu => exact hle.elim
   | mp => exact hle.elim
   | mpi => exact hle.elim
   | si => exact hle.elim
   | ob => exact hle.elim
   | pr => exact hle.elim
   | cnt => exact hle.elim
   | dead => exact hle.elim
   | co sz' n' =>
     refine ⟨DRep.mono h.C h.π hd, sz', n', hA', ?_, ?_⟩
     · rcases hle.2 with ⟨e, _⟩ | e <;> omega
     · intro hn
       rcases hle.2 with ⟨e, e2⟩ | e
       · rw [← e2]; exact ht (by omega)
       · omega
 | mt κ sz n =>
   obtain ⟨a, cap, els, hv, ha, hA, hl, ht⟩ := hr
   obtain ⟨ar', hA', hle⟩ := h.τ κ _ hA
   cases ar' with
   | co => exact hle.elim
   | mp => exact hle.elim
   | mpi => exact hle.elim
   | si => exact hle.elim
   | ob => exact hle.elim
   | pr => exact hle.elim
   | cnt => exact hle.elim
   | dead => exact hle.elim
   | mu sz' els' =>
     obtain ⟨hsz, hle⟩ := hle
     subst hsz
     refine ⟨a, cap, els', hv, ha, hA', ?_, ?_⟩
     · rcases hle with ⟨e, _⟩ | e <;> omega
     · intro hn
       rcases hle with ⟨e, e2⟩ | e
       · rw [← e2]; exact ht (by omega)
       · omega
 | tv κ sz n L =>
   obtain ⟨a, cap, els, hv, ha, hA, hl, ht⟩ := hr
   obtain ⟨ar', hA', hle⟩ := h.τ κ _ hA
   cases ar' with
   | co => exact hle.elim
   | mp => exact hle.elim
   | mpi => exact hle.elim
   | si => exact hle.elim
   | ob => exact hle.elim
   | pr => exact hle.elim
   | cnt => exact hle.elim
   | dead => exact hle.elim
   | mu sz' els' =>
     obtain ⟨hsz, hle⟩ := hle
     subst hsz
     refine ⟨a, cap, els', hv, ha, hA', ?_, ?_⟩
     · exact ⟨hl.1, by rcases hle with ⟨e, _⟩ | e <;> omega, hl.2.2⟩
     · intro hn
       rcases hle with ⟨e, e2⟩ | e
       · rw [← e2]; exact ht (by omega)
       · omega
 | ptr id off =>
   obtain ⟨b, hb, e⟩ := hr
   exact ⟨b, h.β id b hb, e⟩
 | eptr e off =>
   obtain ⟨b, o, hv, hc⟩ := hr
   refine ⟨b, o, hv, fun k x hk => ?_⟩
   obtain ⟨u, hu, hd⟩ := hc k x hk
   exact ⟨u, h.C _ _ _ hu, DRep.mono h.C h.π hd⟩
 | mptr κ sz n i off =>
   obtain ⟨b, els, hv, hA, hl, ht⟩ := hr
   obtain ⟨ar', hA', hle⟩ := h.τ κ _ hA
   cases ar' with
   | co => exact hle.elim
   | mp => exact hle.elim
   | mpi => exact hle.elim
   | si => exact hle.elim
   | ob => exact hle.elim
   | pr => exact hle.elim
   | cnt => exact hle.elim
   | dead => exact hle.elim
   | mu sz' els' =>
     obtain ⟨hsz, hle⟩ := hle
     subst hsz
     refine ⟨b, els', hv, hA', ?_, ?_⟩
     · rcases hle with ⟨e, _⟩ | e <;> omega
     · intro hn
       rcases hle with ⟨e, e2⟩ | e
       · rw [← e2]; exact ht (by omega)
       · omega
 | fn f caps =>
   obtain ⟨vs, hv, hs, hc⟩ := hr
   refine ⟨vs, hv, hs, fun k p hk => ?_⟩
   obtain ⟨b, hb, e⟩ := hc k p hk
   exact ⟨b, h.β _ _ hb, e⟩
 | mpr κ =>
   obtain ⟨hb, hv, ar, hA, hmp⟩ := hr
   obtain ⟨ar', hA', hle⟩ := h.τ κ _ hA
   cases ar <;> first | (cases hmp; done) | skip
   all_goals
    cases ar' with
    | mp m' => exact ⟨hb, hv.trans hle, _, hA', rfl⟩
    | mpi m' c l i => exact ⟨hb, hv.trans hle, _, hA', rfl⟩
    | co => exact hle.elim
    | mu => exact hle.elim
    | si => exact hle.elim
    | ob => exact hle.elim
    | pr => exact hle.elim
    | cnt => exact hle.elim
    | dead => exact hle.elim
 | vsl id n =>
   obtain ⟨b, hb, e⟩ := hr
   exact ⟨b, h.β id b hb, e⟩
 | bfn f fst caps =>
   obtain ⟨us, vs, e, h1, h2⟩ := hr
   exact ⟨us, vs, e, h1.mono (fun p _ b hb => h.β _ b hb), h2.mono (fun p _ b hb => h.β _ b hb)⟩
 | itr κ bi => exact hr
 | sit κ =>
   obtain ⟨hb, hv, s, pos, hA⟩ := hr
   obtain ⟨ar', hA', hle⟩ := h.τ κ _ hA
   cases ar' with
   | si s' p' => exact ⟨hb, hv.trans hle, s', p', hA'⟩
   | co => exact hle.elim
   | mu => exact hle.elim
   | mp => exact hle.elim
   | mpi => exact hle.elim
   | ob => exact hle.elim
   | pr => exact hle.elim
   | cnt => exact hle.elim
   | dead => exact hle.elim
theorem zq8.mono {g g' : Gh} {A A' : AMap} (h : Mono g A g' A') {cs : List CV} {vs : List Value} (hr : zq8 g A cs vs) : zq8 g' A' cs vs :=
 ⟨hr.1, fun k c hk => let ⟨v, e, r⟩ := hr.2 k c hk; ⟨v, e, CRep.mono h r⟩⟩
theorem TRep.mono {g g' : Gh} {A A' : AMap} (h : Mono g A g' A') {c : TV} {v : Value} (hr : TRep g A c v) : TRep g' A' c v := by
 cases c with
 | c x => exact CRep.mono h hr
 | agg cs => obtain ⟨arr, e, r⟩ := hr; exact ⟨arr, e, r.mono h⟩
theorem PRep.mono {g g' : Gh} {A A' : AMap} (h : Mono g A g' A') {c : PV} {v : Value} (hr : PRep g A c v) : PRep g' A' c v := by
 cases c with
 | c x => exact CRep.mono h hr
 | agg cs => obtain ⟨arr, e, r⟩ := hr; exact ⟨arr, e, r.mono h⟩
 | tup xs => obtain ⟨arr, e, hs, r⟩ := hr; exact ⟨arr, e, hs, fun k x hk => let ⟨u, hu, t⟩ := r k x hk; ⟨u, hu, TRep.mono h t⟩⟩
def Unfz (n : Nat) (fz : Nat × Nat) : Prop := ∀ o, o < n → ¬ (fz.1 ≤ o ∧ o < fz.2)
def Szd (n : Nat) (els : List (List D)) : Prop := ∀ e ∈ els, e.length = n
def kvs (es : Array MapEntry) : List (Value × Value) := es.toList.map fun e => (e.key, e.val)
inductive KTag where
 | str | int (k : IntKind) | two
 deriving DecidableEq
def zxh : Value → Option KTag
 | .string _ => some .str
 | .int k _ => some (.int k)
 | .agg ⟨[.string _, .string _]⟩ => some .two
 | _ => none
structure MapOK (es : Array MapEntry) (clock : Nat) (m : List (Value × Value)) : Prop where
 perm : (kvs es).Perm m
 nodup : (m.map Prod.fst).Nodup
 tag : ∀ p ∈ m, ∀ q ∈ m, zxh p.1 = zxh q.1
 key : ∀ p ∈ m, zxh p.1 ≠ none
 born : ∀ e ∈ es.toList, e.born < clock
 uniq : (es.toList.map (·.born)).Nodup
theorem MapOK.of_perm {es : Array MapEntry} {clock : Nat} {m m' : List (Value × Value)} (h : MapOK es clock m) (hp : m.Perm m') : MapOK es clock m' :=
 ⟨h.perm.trans hp, ((hp.map Prod.fst).nodup_iff).1 h.nodup, fun p hp1 q hq => h.tag p (hp.mem_iff.2 hp1) q (hp.mem_iff.2 hq), fun p hp1 => h.key p (hp.mem_iff.2 hp1), h.born, h.uniq⟩
structure IterOK (es : Array MapEntry) (seen : Array Nat) (cur : Option (Value × Value)) (left : List (Value × Value)) : Prop where
 left : (kvs (leftOf es seen)).Perm left
 cur : ∀ p, cur = some p → ∃ e ∈ es.toList, seen.back? = some e.born ∧ (e.key, e.val) = p
def yjm (C : Nat → Nat → Option Value) (π : Nat → Option Value) : Option (Value × Value) → Option (Value × MV) → Prop
 | some e, some m => y5h C π e m
 | _, none => True
 | none, some _ => False
theorem yjm.mono {C C' : Nat → Nat → Option Value} {π π' : Nat → Option Value} (h : ∀ b o v, C b o = some v → C' b o = some v) (hp : ∀ p v, π p = some v → π' p = some v) {x : Option (Value × Value)} {y : Option (Value × MV)} (hr : yjm C π x y) : yjm C' π' x y := by
 cases x <;> cases y <;> first | exact Zti | exact hr | exact ⟨hr.1, hr.2.mono h hp⟩
def zqa (g : Gh) (w : World) (κ : Tok) : Arr → Prop
 | .co sz n => ∃ a cap, g.τ κ = .slice a n cap ∧ n ≤ cap ∧
    (cap = n ∨ ∃ b, a = some ⟨b, 0, none⟩ ∧ g.O b = some (.tok κ) ∧ (∀ j, n * sz ≤ j → g.C b j = none) ∧ ∃ vs e fz, w.heap[b]? = some (.cells vs e fz) ∧ Unfz vs.size fz ∧ cap * sz ≤ vs.size)
 | .mu sz els => Szd sz els ∧ ∃ a cap, g.τ κ = .slice a els.length cap ∧ els.length ≤ cap ∧
    (cap = 0 ∨ ∃ b, a = some ⟨b, 0, none⟩ ∧ g.O b = some (.tok κ) ∧ (∀ j, g.C b j = none) ∧ ∃ vs e fz, w.heap[b]? = some (.cells vs e fz) ∧ Unfz vs.size fz ∧ cap * sz ≤ vs.size ∧
    ∀ i k e' x, els[i]? = some e' → e'[k]? = some x → ∃ u, vs[i * sz + k]? = some u ∧ DRep g.C g.π x u)
 | .mp m => ∃ b es clock m0, g.τ κ = .map (some b) ∧ g.O b = some (.tok κ) ∧ (∀ j, g.C b j = none) ∧ w.heap[b]? = some (.map es clock) ∧ MapOK es clock m0 ∧ EntsRep g.C g.π m0 m
 | .mpi m cur left bi => ∃ b es clock m0, g.τ κ = .map (some b) ∧ g.O b = some (.tok κ) ∧ (∀ j, g.C b j = none) ∧ w.heap[b]? = some (.map es clock) ∧ MapOK es clock m0 ∧ EntsRep g.C g.π m0 m ∧
    ∃ seen cur0 left0, g.O bi = some (.tok κ) ∧ (∀ j, g.C bi j = none) ∧ w.heap[bi]? = some (.mapIter (some b) clock seen clock) ∧ IterOK es seen cur0 left0 ∧ yjm g.C g.π cur0 cur ∧ EntsRep g.C g.π left0 left
 | .si s pos => ∃ b, g.τ κ = .pointer (some ⟨b, 0, none⟩) ∧ g.O b = some (.tok κ) ∧ (∀ j, g.C b j = none) ∧ w.heap[b]? = some (.stringIter s pos)
 | .ob ds => ∃ b vs e fz, g.τ κ = .pointer (some ⟨b, 0, none⟩) ∧ g.O b = some (.tok κ) ∧ (∀ j, g.C b j = none) ∧ w.heap[b]? = some (.cells vs e fz) ∧ Unfz vs.size fz ∧ vs.size = ds.length ∧
    ∀ (k : Nat) (x : D), ds[k]? = some x → ∃ u, vs[k]? = some u ∧ DRep g.C g.π x u
 | .pr p ar => zqa g w κ ar ∧ g.π p = some (g.τ κ) ∧ ar.isPr = false
 | .cnt n => κ = (0, 0) ∧ ∀ p, n ≤ p → g.π p = none
 | .dead => True
theorem zqa.frameP {g g' : Gh} {w w' : World} {κ : Tok} (hτ : g'.τ κ = g.τ κ) (hC : ∀ b o v, g.C b o = some v → g'.C b o = some v) (hπ : ∀ p v, g.π p = some v → g'.π p = some v) (hc : g'.π = g.π ∨ κ ≠ (0, 0))
 (hb : ∀ b, g.O b = some (.tok κ) → g'.O b = some (.tok κ) ∧ w'.heap[b]? = w.heap[b]? ∧ ∀ o, g'.C b o = g.C b o) : ∀ {ar : Arr}, zqa g w κ ar → zqa g' w' κ ar
 | .co sz n, h => by
   obtain ⟨a, cap, h1, h2, h3⟩ := h
   refine ⟨a, cap, hτ.trans h1, h2, h3.imp id ?_⟩
   rintro ⟨b, rfl, ho, hc, vs, e, fz, hh, rest⟩
   obtain ⟨o1, o2, o3⟩ := hb b ho
   exact ⟨b, rfl, o1, fun j hj => by rw [o3]; exact hc j hj, vs, e, fz, by rw [o2]; exact hh, rest⟩
 | .mu sz els, h => by
   obtain ⟨hs, a, cap, h1, h2, h3⟩ := h
   refine ⟨hs, a, cap, hτ.trans h1, h2, h3.imp id ?_⟩
   rintro ⟨b, rfl, ho, hc, vs, e, fz, hh, hu, hcap, hr⟩
   obtain ⟨o1, o2, o3⟩ := hb b ho
   exact ⟨b, rfl, o1, fun j => by rw [o3]; exact hc j, vs, e, fz, by rw [o2]; exact hh, hu, hcap, fun i k e' x h1 h2 => by
    obtain ⟨u, hu, hd⟩ := hr i k e' x h1 h2
    exact ⟨u, hu, DRep.mono hC hπ hd⟩⟩
 | .mp m, h => by
   obtain ⟨b, es, clock, m0, h1, ho, hc, hh, hr, he⟩ := h
   obtain ⟨o1, o2, o3⟩ := hb b ho
   exact ⟨b, es, clock, m0, hτ.trans h1, o1, fun j => by rw [o3]; exact hc j, by rw [o2]; exact hh, hr, he.mono hC hπ⟩
 | .mpi m cur left bi, h => by
   obtain ⟨b, es, clock, m0, h1, ho, hc, hh, hr, he, seen, cur0, left0, ho2, hc2, hh2, hr2, he2, he3⟩ := h
   obtain ⟨o1, o2, o3⟩ := hb b ho
   obtain ⟨p1, p2, p3⟩ := hb bi ho2
   exact ⟨b, es, clock, m0, hτ.trans h1, o1, fun j => by rw [o3]; exact hc j, by rw [o2]; exact hh, hr, he.mono hC hπ, seen, cur0, left0, p1, fun j => by rw [p3]; exact hc2 j, by rw [p2]; exact hh2, hr2, he2.mono hC hπ, he3.mono hC hπ⟩
 | .si s pos, h => by
   obtain ⟨b, h1, ho, hc, hh⟩ := h
   obtain ⟨o1, o2, o3⟩ := hb b ho
   exact ⟨b, hτ.trans h1, o1, fun j => by rw [o3]; exact hc j, by rw [o2]; exact hh⟩
 | .ob ds, h => by
   obtain ⟨b, vs, e, fz, h1, ho, hc, hh, hu, hl, hr⟩ := h
   obtain ⟨o1, o2, o3⟩ := hb b ho
   exact ⟨b, vs, e, fz, hτ.trans h1, o1, fun j => by rw [o3]; exact hc j, by rw [o2]; exact hh, hu, hl, fun k x hk => by
    obtain ⟨u, hu, hd⟩ := hr k x hk
    exact ⟨u, hu, DRep.mono hC hπ hd⟩⟩
 | .pr p ar, h => ⟨zqa.frameP hτ hC hπ hc hb h.1, by rw [hτ]; exact hπ _ _ h.2.1, h.2.2⟩
 | .cnt n, h => ⟨h.1, fun p hp => by
   rcases hc with e | e
   · rw [e]; exact h.2 p hp
   · exact (e h.1).elim⟩
 | .dead, _ => Zti
theorem zqa.frame {g g' : Gh} {w w' : World} {κ : Tok} {ar : Arr} (h : zqa g w κ ar) (hτ : g'.τ κ = g.τ κ) (hC : ∀ b o v, g.C b o = some v → g'.C b o = some v) (hπ : g'.π = g.π)
 (hb : ∀ b, g.O b = some (.tok κ) → g'.O b = some (.tok κ) ∧ w'.heap[b]? = w.heap[b]? ∧ ∀ o, g'.C b o = g.C b o) : zqa g' w' κ ar :=
 zqa.frameP hτ hC (fun p v e => by rw [hπ]; exact e) (.inl hπ) hb h
structure MRel (g : Gh) (H : HMap) (A : AMap) (w : World) : Prop where
 com : ∀ b o v, g.C b o = some v → w.cell? ⟨b, o, none⟩ = some v
 var : ∀ id b, g.β id = some b → g.O b = some (.var id) ∧ (∀ o, g.C b o = none) ∧ ∃ cs vs e fz, H id = some cs ∧ w.heap[b]? = some (.cells vs e fz) ∧ Unfz vs.size fz ∧ zq8 g A cs vs.toList
 tok : ∀ κ ar, A κ = some ar → zqa g w κ ar
 own : ∀ b o, g.O b = some o → b < w.heap.size
def z15 (A : AMap) : Prop := ∀ κ n, A κ ≠ some (.cnt n)
structure Evol (g : Gh) (A : AMap) (w : World) (g' : Gh) (A' : AMap) (w' : World) : Prop where
 mono : Mono g A g' A'
 frame : ∀ b, b < w.heap.size → g.O b = none → w'.heap[b]? = w.heap[b]?
 own : ∀ b, b < w.heap.size → g.O b = none → g'.O b = none
 old : ∀ b, b < w.heap.size → g.O b = none → ∀ o, g'.C b o = g.C b o
 size : w.heap.size ≤ w'.heap.size
 os : w'.os = w.os
 tape : w'.tape = w.tape
 output : w'.output = w.output
 np : z15 A → g'.π = g.π ∧ z15 A'
theorem Evol.refl (g : Gh) (A : AMap) (w : World) : Evol g A w g A w := ⟨.refl _ _, fun _ _ _ => rfl, fun _ _ h => h, fun _ _ _ _ => rfl, Zlr _, rfl, rfl, rfl, fun h => ⟨rfl, h⟩⟩
theorem Evol.trans {g1 g2 g3 : Gh} {A1 A2 A3 : AMap} {w1 w2 w3 : World} (h : Evol g1 A1 w1 g2 A2 w2) (k : Evol g2 A2 w2 g3 A3 w3) : Evol g1 A1 w1 g3 A3 w3 :=
 ⟨h.mono.trans k.mono, fun b hb ho => (k.frame b (Nat.lt_of_lt_of_le hb h.size) (h.own b hb ho)).trans (h.frame b hb ho),
   fun b hb ho => k.own b (Nat.lt_of_lt_of_le hb h.size) (h.own b hb ho),
   fun b hb ho o => (k.old b (Nat.lt_of_lt_of_le hb h.size) (h.own b hb ho) o).trans (h.old b hb ho o), Nat.le_trans h.size k.size, k.os.trans h.os, k.tape.trans h.tape, k.output.trans h.output,
   fun hn => ⟨(k.np (h.np hn).2).1.trans (h.np hn).1, (k.np (h.np hn).2).2⟩⟩
theorem Evol.same {g : Gh} {A : AMap} {w w' : World} (hh : w'.heap = w.heap) (h1 : w'.os = w.os) (h2 : w'.tape = w.tape) (h3 : w'.output = w.output) : Evol g A w g A w' :=
 ⟨.refl _ _, fun _ _ _ => by rw [hh], fun _ _ h => h, fun _ _ _ _ => rfl, by rw [hh]; exact Zlr _, h1, h2, h3, fun h => ⟨rfl, h⟩⟩
theorem zqa.same {g : Gh} {w w' : World} {κ : Tok} (hh : w'.heap = w.heap) : ∀ {ar : Arr}, zqa g w κ ar → zqa g w' κ ar
 | .pr _ ar, h => ⟨zqa.same hh h.1, h.2⟩
 | .cnt _, h => h
 | .dead, h => h
 | .co _ _, h | .mu _ _, h | .mp _, h | .mpi _ _ _ _, h | .si _ _, h | .ob _, h => by simpa [zqa, hh] using h
theorem MRel.same {g : Gh} {H : HMap} {A : AMap} {w w' : World} (h : MRel g H A w) (hh : w'.heap = w.heap) : MRel g H A w' := by
 refine ⟨fun b o v e => ?_, fun id b e => ?_, fun κ ar e => ?_, fun b o e => by rw [hh]; exact h.own b o e⟩
 · have := h.com b o v e
   simpa [World.cell?, hh] using this
 · rw [hh]; exact h.var id b e
 · exact zqa.same hh (h.tok κ ar e)
theorem yzf {w : World} {b o : Nat} {v : Value} (h : w.cell? ⟨b, o, none⟩ = some v) : ∃ vs e fz, w.heap[b]? = some (.cells vs e fz) ∧ vs[o]? = some v := by
 unfold World.cell? at h
 split at h
 · rename_i c e fz hb
   exact ⟨c, e, fz, hb, by simpa using h⟩
 · cases h
theorem zqs {w : World} {b o : Nat} {v : Value} {vs : Array Value} {e : TypeId} {fz : Nat × Nat} (h : w.heap[b]? = some (.cells vs e fz)) (hv : vs[o]? = some v) : w.cell? ⟨b, o, none⟩ = some v := by
 simp [World.cell?, h, hv]
theorem zkp {w : World} {b : Nat} {x : Obj} (h : w.heap[b]? = some x) : b < w.heap.size := (Array.getElem?_eq_some_iff.1 h).1
theorem C_lt {g : Gh} {H : HMap} {A : AMap} {w : World} (h : MRel g H A w) {b o : Nat} {v : Value} (e : g.C b o = some v) : b < w.heap.size := by
 obtain ⟨vs, e, fz, hb, _⟩ := yzf (h.com b o v e)
 exact zkp hb
end Go.PW
