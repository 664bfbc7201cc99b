/-
  Parts of the proof, laid together: PwA, PwB.
-/
import Derived.Orders
import Derived.Laws.AppendOwn
import Derived.Laws.StructEq
import Derived.Laws.IdiomCopy
import Derived.Laws.Slices
import Derived.Scope

namespace Go.PW
abbrev Tok := Nat × Nat
inductive D where
  | lit (v : Value)
  | sl (els : List (List D))
inductive Arr where
  | co (sz n : Nat)
  | mu (sz : Nat) (els : List (List D))
  | mp (m : List (Value × Value))
inductive CV where
  | any
  | skip
  | d (x : D)
  | full (els : List (List D))
  | own (κ : Tok) (els : List (List D))
  | mt (κ : Tok) (sz n : Nat)
  | tv (κ : Tok) (sz n L : Nat)
  | ptr (id off : Nat)
  | eptr (e : List D) (off : Nat)
  | mptr (κ : Tok) (sz n i off : Nat)
  | fn (f : FuncId) (caps : List (Nat × Nat))
  | mpr (κ : Tok)
  | vsl (id n : Nat)
  | bfn (f : FuncId) (fst caps : List (Nat × Nat))
inductive TV where
  | c (x : CV)
  | agg (cs : List CV)
inductive PV where
  | c (x : CV)
  | agg (cs : List CV)
  | tup (xs : List TV)
def TV.pv : TV → PV
  | .c x => .c x
  | .agg cs => .agg cs
inductive Own where
  | var (id : Nat)
  | tok (κ : Tok)
structure Gh where
  C : Nat → Nat → Option Value
  β : Nat → Option Nat
  τ : Tok → Value
  O : Nat → Option Own
abbrev HMap := Nat → Option (List CV)
abbrev AMap := Tok → Option Arr
inductive DRep (C : Nat → Nat → Option Value) : D → Value → Prop
  | lit (v : Value) (h : v.oneCell' = true) : DRep C (.lit v) v
  | nil (a : Option Addr) : DRep C (.sl []) (.slice a 0 0)
  | sl (els : List (List D)) (b o cap sz n : Nat) (val : Nat → Nat → Value) (hn : n = els.length) (hcap : n ≤ cap) (hsz : ∀ e ∈ els, e.length = sz)
      (hC : ∀ i k, i < n → k < sz → C b (o + i * sz + k) = some (val i k))
      (hd : ∀ i k e x, els[i]? = some e → e[k]? = some x → DRep C x (val i k)) : DRep C (.sl els) (.slice (some ⟨b, o, none⟩) n cap)
theorem DRep.mono {C C' : Nat → Nat → Option Value} (h : ∀ b o v, C b o = some v → C' b o = some v) {x : D} {v : Value} (hr : DRep C x v) : DRep C' x v := by
  induction hr with
  | lit v h => exact .lit v h
  | nil a => exact .nil a
  | sl els b o cap sz n val hn hcap hsz hC hd ih => exact .sl els b o cap sz n val hn hcap hsz (fun i k hi hk => h _ _ _ (hC i k hi hk)) ih
theorem DRep.oneCell {C : Nat → Nat → Option Value} {x : D} {v : Value} (h : DRep C x v) : v.oneCell' = true := by
  cases h with
  | lit v h => exact h
  | nil => rfl
  | sl => rfl
theorem DRep.lit_eq {C : Nat → Nat → Option Value} {u v : Value} (h : DRep C (.lit u) v) : v = u := by cases h; rfl
def capFull : Value → Prop
  | .slice _ n cap => cap = n
  | _ => False
def PtsRep (β : Nat → Option Nat) (l : List (Nat × Nat)) (vs : Array Value) : Prop :=
  vs.size = l.length ∧ ∀ (k : Nat) (p : Nat × Nat), l[k]? = some p → ∃ b, β p.1 = some b ∧ vs[k]? = some (.pointer (some ⟨b, p.2, none⟩))
theorem PtsRep.mono {β β' : Nat → Option Nat} {l : List (Nat × Nat)} {vs : Array Value} (h : PtsRep β l vs) (k : ∀ p ∈ l, ∀ b, β p.1 = some b → β' p.1 = some b) : PtsRep β' l vs :=
  ⟨h.1, fun i p hi => let ⟨b, hb, e⟩ := h.2 i p hi; ⟨b, k p (List.mem_of_getElem? hi) b hb, e⟩⟩
def CRep (g : Gh) (A : AMap) : CV → Value → Prop
  | .any, _ => True
  | .skip, v => v = undef
  | .d x, v => DRep g.C x v
  | .full els, v => DRep g.C (.sl els) v ∧ capFull v
  | .own κ els, v => DRep g.C (.sl els) v ∧ ∃ sz n, A κ = some (.co sz n) ∧ els.length ≤ n ∧ (els.length = n → g.τ κ = v ∨ ∃ a, v = .slice a 0 0)
  | .mt κ sz n, v => ∃ a cap els, v = .slice a n cap ∧ (0 < n → ∃ b, a = some ⟨b, 0, none⟩) ∧ A κ = some (.mu sz els) ∧ n ≤ els.length ∧ (n = els.length → g.τ κ = v ∨ ∃ a, v = .slice a 0 0)
  | .tv κ sz n L, v => ∃ a cap els, v = .slice a n cap ∧ (0 < n → ∃ b, a = some ⟨b, 0, none⟩) ∧ A κ = some (.mu sz els) ∧ (n ≤ L ∧ L ≤ els.length ∧ n ≤ cap) ∧ (L = els.length → g.τ κ = .slice a L cap ∨ (L = 0 ∧ ∃ a, v = .slice a 0 0))
  | .ptr id off, v => ∃ b, g.β id = some b ∧ v = .pointer (some ⟨b, off, none⟩)
  | .eptr e off, v => ∃ b o, v = .pointer (some ⟨b, o + off, none⟩) ∧ ∀ (k : Nat) (x : D), e[k]? = some x → ∃ u, g.C b (o + k) = some u ∧ DRep g.C x u
  | .mptr κ sz n i off, v => ∃ b els, v = .pointer (some ⟨b, i * sz + off, none⟩) ∧ A κ = some (.mu sz els) ∧ n ≤ els.length ∧ (n = els.length → ∃ cap, g.τ κ = .slice (some ⟨b, 0, none⟩) n cap)
  | .fn f caps, v => ∃ vs : Array Value, v = .func (.func f) #[] vs ∧ vs.size = caps.length ∧ ∀ (k : Nat) (p : Nat × Nat), caps[k]? = some p → ∃ b, g.β p.1 = some b ∧ vs[k]? = some (.pointer (some ⟨b, p.2, none⟩))
  | .mpr κ, v => (∃ b, v = .map (some b)) ∧ v = g.τ κ ∧ ∃ m, A κ = some (.mp m)
  | .vsl id n, v => ∃ b, g.β id = some b ∧ v = .slice (some ⟨b, 0, none⟩) n n
  | .bfn f fst caps, v => ∃ us vs : Array Value, v = .func (.func f) us vs ∧ PtsRep g.β fst us ∧ PtsRep g.β caps vs
def CsRep (g : Gh) (A : AMap) (cs : List CV) (vs : List Value) : Prop := vs.length = cs.length ∧ ∀ (k : Nat) (c : CV), cs[k]? = some c → ∃ v, vs[k]? = some v ∧ CRep g A c v
def TRep (g : Gh) (A : AMap) : TV → Value → Prop
  | .c x, v => CRep g A x v
  | .agg cs, v => ∃ arr : Array Value, v = .agg arr ∧ CsRep g A cs arr.toList
def PRep (g : Gh) (A : AMap) : PV → Value → Prop
  | .c x, v => CRep g A x v
  | .agg cs, v => ∃ arr : Array Value, v = .agg arr ∧ CsRep g A cs arr.toList
  | .tup xs, v => ∃ arr : Array Value, v = .tuple arr ∧ arr.size = xs.length ∧ ∀ (k : Nat) (x : TV), xs[k]? = some x → ∃ u, arr[k]? = some u ∧ TRep g A x u
theorem PRep_pv {g : Gh} {A : AMap} {x : TV} {v : Value} : PRep g A x.pv v ↔ TRep g A x v := by cases x <;> rfl
def TokLe : Arr → Value → Arr → Value → Prop
  | .co sz n, v, .co sz' n', v' => sz = sz' ∧ ((n = n' ∧ v = v') ∨ n < n')
  | .mu sz els, v, .mu sz' els', v' => sz = sz' ∧ ((els.length = els'.length ∧ v = v') ∨ els.length < els'.length)
  | .mp _, v, .mp _, v' => v = v'
  | _, _, _, _ => False
theorem TokLe.refl (ar : Arr) (v : Value) : TokLe ar v ar v := by cases ar <;> first | exact ⟨rfl, .inl ⟨rfl, rfl⟩⟩ | exact rfl
theorem TokLe.trans {a b c : Arr} {u v w : Value} (h : TokLe a u b v) (k : TokLe b v c w) : TokLe a u c w := by
  cases a <;> cases b <;> cases c <;> simp only [TokLe] at h k ⊢ <;> first
  | exact h.trans k
  | (obtain ⟨h1, h2⟩ := h
     obtain ⟨k1, k2⟩ := k
     refine ⟨h1.trans k1, ?_⟩
     rcases h2 with ⟨h2, h3⟩ | h2 <;> rcases k2 with ⟨k2, k3⟩ | k2
     · exact .inl ⟨h2.trans k2, h3.trans k3⟩
     · exact .inr (by omega)
     · exact .inr (by omega)
     · exact .inr (by omega))
structure Mono (g : Gh) (A : AMap) (g' : Gh) (A' : AMap) : Prop where
  C : ∀ b o v, g.C b o = some v → g'.C b o = some v
  β : ∀ id b, g.β id = some b → g'.β id = some b
  τ : ∀ κ ar, A κ = some ar → ∃ ar', A' κ = some ar' ∧ TokLe ar (g.τ κ) ar' (g'.τ κ)
theorem Mono.refl (g : Gh) (A : AMap) : Mono g A g A := ⟨fun _ _ _ h => h, fun _ _ h => h, fun _ ar h => ⟨ar, h, TokLe.refl _ _⟩⟩
theorem Mono.trans {g1 g2 g3 : Gh} {A1 A2 A3 : AMap} (h : Mono g1 A1 g2 A2) (k : Mono g2 A2 g3 A3) : Mono g1 A1 g3 A3 :=
  ⟨fun b o v e => k.C b o v (h.C b o v e), fun id b e => k.β id b (h.β id b e), fun κ ar e => by
    obtain ⟨ar', e', l⟩ := h.τ κ ar e
    obtain ⟨ar'', e'', l'⟩ := k.τ κ ar' e'
    exact ⟨ar'', e'', l.trans l'⟩⟩
theorem CRep.mono {g g' : Gh} {A A' : AMap} (h : Mono g A g' A') {c : CV} {v : Value} (hr : CRep g A c v) : CRep g' A' c v := by
  cases c with
  | any => trivial
  | skip => exact hr
  | d x => exact DRep.mono h.C hr
  | full els => exact ⟨DRep.mono h.C hr.1, hr.2⟩
  | own κ els =>
    obtain ⟨hd, sz, n, hA, hl, ht⟩ := hr
    obtain ⟨ar', hA', hle⟩ := h.τ κ _ hA
    cases ar' with
    | mu => exact hle.elim
    | mp => exact hle.elim
    | co sz' n' =>
      refine ⟨DRep.mono h.C hd, sz', n', hA', ?_, ?_⟩
      · rcases hle.2 with ⟨e, _⟩ | e <;> omega
      · intro hn
        rcases hle.2 with ⟨e, e2⟩ | e
        · rw [← e2]; exact ht (by omega)
        · omega
  | mt κ sz n =>
    obtain ⟨a, cap, els, hv, ha, hA, hl, ht⟩ := hr
    obtain ⟨ar', hA', hle⟩ := h.τ κ _ hA
    cases ar' with
    | co => exact hle.elim
    | mp => exact hle.elim
    | mu sz' els' =>
      obtain ⟨hsz, hle⟩ := hle
      subst hsz
      refine ⟨a, cap, els', hv, ha, hA', ?_, ?_⟩
      · rcases hle with ⟨e, _⟩ | e <;> omega
      · intro hn
        rcases hle with ⟨e, e2⟩ | e
        · rw [← e2]; exact ht (by omega)
        · omega
  | tv κ sz n L =>
    obtain ⟨a, cap, els, hv, ha, hA, hl, ht⟩ := hr
    obtain ⟨ar', hA', hle⟩ := h.τ κ _ hA
    cases ar' with
    | co => exact hle.elim
    | mp => exact hle.elim
    | mu sz' els' =>
      obtain ⟨hsz, hle⟩ := hle
      subst hsz
      refine ⟨a, cap, els', hv, ha, hA', ?_, ?_⟩
      · exact ⟨hl.1, by rcases hle with ⟨e, _⟩ | e <;> omega, hl.2.2⟩
      · intro hn
        rcases hle with ⟨e, e2⟩ | e
        · rw [← e2]; exact ht (by omega)
        · omega
  | ptr id off =>
    obtain ⟨b, hb, e⟩ := hr
    exact ⟨b, h.β id b hb, e⟩
  | eptr e off =>
    obtain ⟨b, o, hv, hc⟩ := hr
    refine ⟨b, o, hv, fun k x hk => ?_⟩
    obtain ⟨u, hu, hd⟩ := hc k x hk
    exact ⟨u, h.C _ _ _ hu, DRep.mono h.C hd⟩
  | mptr κ sz n i off =>
    obtain ⟨b, els, hv, hA, hl, ht⟩ := hr
    obtain ⟨ar', hA', hle⟩ := h.τ κ _ hA
    cases ar' with
    | co => exact hle.elim
    | mp => exact hle.elim
    | mu sz' els' =>
      obtain ⟨hsz, hle⟩ := hle
      subst hsz
      refine ⟨b, els', hv, hA', ?_, ?_⟩
      · rcases hle with ⟨e, _⟩ | e <;> omega
      · intro hn
        rcases hle with ⟨e, e2⟩ | e
        · rw [← e2]; exact ht (by omega)
        · omega
  | fn f caps =>
    obtain ⟨vs, hv, hs, hc⟩ := hr
    refine ⟨vs, hv, hs, fun k p hk => ?_⟩
    obtain ⟨b, hb, e⟩ := hc k p hk
    exact ⟨b, h.β _ _ hb, e⟩
  | mpr κ =>
    obtain ⟨hb, hv, m, hA⟩ := hr
    obtain ⟨ar', hA', hle⟩ := h.τ κ _ hA
    cases ar' with
    | mp m' => exact ⟨hb, hv.trans hle, m', hA'⟩
    | co => exact hle.elim
    | mu => exact hle.elim
  | vsl id n =>
    obtain ⟨b, hb, e⟩ := hr
    exact ⟨b, h.β id b hb, e⟩
  | bfn f fst caps =>
    obtain ⟨us, vs, e, h1, h2⟩ := hr
    exact ⟨us, vs, e, h1.mono (fun p _ b hb => h.β _ b hb), h2.mono (fun p _ b hb => h.β _ b hb)⟩
theorem CsRep.mono {g g' : Gh} {A A' : AMap} (h : Mono g A g' A') {cs : List CV} {vs : List Value} (hr : CsRep g A cs vs) : CsRep g' A' cs vs :=
  ⟨hr.1, fun k c hk => let ⟨v, e, r⟩ := hr.2 k c hk; ⟨v, e, CRep.mono h r⟩⟩
theorem TRep.mono {g g' : Gh} {A A' : AMap} (h : Mono g A g' A') {c : TV} {v : Value} (hr : TRep g A c v) : TRep g' A' c v := by
  cases c with
  | c x => exact CRep.mono h hr
  | agg cs => obtain ⟨arr, e, r⟩ := hr; exact ⟨arr, e, r.mono h⟩
theorem PRep.mono {g g' : Gh} {A A' : AMap} (h : Mono g A g' A') {c : PV} {v : Value} (hr : PRep g A c v) : PRep g' A' c v := by
  cases c with
  | c x => exact CRep.mono h hr
  | agg cs => obtain ⟨arr, e, r⟩ := hr; exact ⟨arr, e, r.mono h⟩
  | tup xs => obtain ⟨arr, e, hs, r⟩ := hr; exact ⟨arr, e, hs, fun k x hk => let ⟨u, hu, t⟩ := r k x hk; ⟨u, hu, TRep.mono h t⟩⟩
def Unfz (n : Nat) (fz : Nat × Nat) : Prop := ∀ o, o < n → ¬ (fz.1 ≤ o ∧ o < fz.2)
def Szd (n : Nat) (els : List (List D)) : Prop := ∀ e ∈ els, e.length = n
def TokRep (g : Gh) (w : World) (κ : Tok) : Arr → Prop
  | .co sz n => ∃ a cap, g.τ κ = .slice a n cap ∧ n ≤ cap ∧
      (cap = n ∨ ∃ b, a = some ⟨b, 0, none⟩ ∧ g.O b = some (.tok κ) ∧ (∀ j, n * sz ≤ j → g.C b j = none) ∧ ∃ vs e fz, w.heap[b]? = some (.cells vs e fz) ∧ Unfz vs.size fz ∧ cap * sz ≤ vs.size)
  | .mu sz els => Szd sz els ∧ ∃ a cap, g.τ κ = .slice a els.length cap ∧ els.length ≤ cap ∧
      (cap = 0 ∨ ∃ b, a = some ⟨b, 0, none⟩ ∧ g.O b = some (.tok κ) ∧ (∀ j, g.C b j = none) ∧ ∃ vs e fz, w.heap[b]? = some (.cells vs e fz) ∧ Unfz vs.size fz ∧ cap * sz ≤ vs.size ∧
      ∀ i k e' x, els[i]? = some e' → e'[k]? = some x → ∃ u, vs[i * sz + k]? = some u ∧ DRep g.C x u)
  | .mp m => ∃ b es clock, g.τ κ = .map (some b) ∧ g.O b = some (.tok κ) ∧ (∀ j, g.C b j = none) ∧ w.heap[b]? = some (.map es clock) ∧ es.toList.map (fun e => (e.key, e.val)) = m
structure MRel (g : Gh) (H : HMap) (A : AMap) (w : World) : Prop where
  com : ∀ b o v, g.C b o = some v → w.cell? ⟨b, o, none⟩ = some v
  var : ∀ id b, g.β id = some b → g.O b = some (.var id) ∧ (∀ o, g.C b o = none) ∧ ∃ cs vs e fz, H id = some cs ∧ w.heap[b]? = some (.cells vs e fz) ∧ Unfz vs.size fz ∧ CsRep g A cs vs.toList
  tok : ∀ κ ar, A κ = some ar → TokRep g w κ ar
  own : ∀ b o, g.O b = some o → b < w.heap.size
structure Evol (g : Gh) (A : AMap) (w : World) (g' : Gh) (A' : AMap) (w' : World) : Prop where
  mono : Mono g A g' A'
  frame : ∀ b, b < w.heap.size → g.O b = none → w'.heap[b]? = w.heap[b]?
  own : ∀ b, b < w.heap.size → g.O b = none → g'.O b = none
  old : ∀ b, b < w.heap.size → g.O b = none → ∀ o, g'.C b o = g.C b o
  size : w.heap.size ≤ w'.heap.size
  os : w'.os = w.os
  tape : w'.tape = w.tape
  output : w'.output = w.output
theorem Evol.refl (g : Gh) (A : AMap) (w : World) : Evol g A w g A w := ⟨.refl _ _, fun _ _ _ => rfl, fun _ _ h => h, fun _ _ _ _ => rfl, Nat.le_refl _, rfl, rfl, rfl⟩
theorem Evol.trans {g1 g2 g3 : Gh} {A1 A2 A3 : AMap} {w1 w2 w3 : World} (h : Evol g1 A1 w1 g2 A2 w2) (k : Evol g2 A2 w2 g3 A3 w3) : Evol g1 A1 w1 g3 A3 w3 :=
  ⟨h.mono.trans k.mono, fun b hb ho => (k.frame b (Nat.lt_of_lt_of_le hb h.size) (h.own b hb ho)).trans (h.frame b hb ho),
    fun b hb ho => k.own b (Nat.lt_of_lt_of_le hb h.size) (h.own b hb ho),
    fun b hb ho o => (k.old b (Nat.lt_of_lt_of_le hb h.size) (h.own b hb ho) o).trans (h.old b hb ho o), Nat.le_trans h.size k.size, k.os.trans h.os, k.tape.trans h.tape, k.output.trans h.output⟩
theorem Evol.same {g : Gh} {A : AMap} {w w' : World} (hh : w'.heap = w.heap) (h1 : w'.os = w.os) (h2 : w'.tape = w.tape) (h3 : w'.output = w.output) : Evol g A w g A w' :=
  ⟨.refl _ _, fun _ _ _ => by rw [hh], fun _ _ h => h, fun _ _ _ _ => rfl, by rw [hh]; exact Nat.le_refl _, h1, h2, h3⟩
theorem MRel.same {g : Gh} {H : HMap} {A : AMap} {w w' : World} (h : MRel g H A w) (hh : w'.heap = w.heap) : MRel g H A w' := by
  refine ⟨fun b o v e => ?_, fun id b e => ?_, fun κ ar e => ?_, fun b o e => by rw [hh]; exact h.own b o e⟩
  · have := h.com b o v e
    simpa [World.cell?, hh] using this
  · rw [hh]; exact h.var id b e
  · have := h.tok κ ar e
    cases ar <;> simpa [TokRep, hh] using this
theorem cell_heap {w : World} {b o : Nat} {v : Value} (h : w.cell? ⟨b, o, none⟩ = some v) : ∃ vs e fz, w.heap[b]? = some (.cells vs e fz) ∧ vs[o]? = some v := by
  unfold World.cell? at h
  split at h
  · rename_i c e fz hb
    exact ⟨c, e, fz, hb, by simpa using h⟩
  · cases h
theorem cell_of_heap {w : World} {b o : Nat} {v : Value} {vs : Array Value} {e : TypeId} {fz : Nat × Nat} (h : w.heap[b]? = some (.cells vs e fz)) (hv : vs[o]? = some v) : w.cell? ⟨b, o, none⟩ = some v := by
  simp [World.cell?, h, hv]
theorem heap_lt {w : World} {b : Nat} {x : Obj} (h : w.heap[b]? = some x) : b < w.heap.size := (Array.getElem?_eq_some_iff.1 h).1
theorem C_lt {g : Gh} {H : HMap} {A : AMap} {w : World} (h : MRel g H A w) {b o : Nat} {v : Value} (e : g.C b o = some v) : b < w.heap.size := by
  obtain ⟨vs, e, fz, hb, _⟩ := cell_heap (h.com b o v e)
  exact heap_lt hb
end Go.PW

namespace Go.PW
def upd {α β : Type} [DecidableEq α] (f : α → β) (a : α) (b : β) : α → β := fun x => if x = a then b else f x
structure St where
  ρ : Nat → PV
  H : HMap
  A : AMap
def cstC : Value → CV
  | .slice none 0 0 => .full []
  | .agg _ => .any
  | .tuple _ => .any
  | v => .d (.lit v)
def cst : Value → PV
  | .agg arr => .agg (arr.toList.map cstC)
  | v => .c (cstC v)
def ev (ρ : Nat → PV) : Operand → PV
  | .tmp t => ρ t
  | .const v => cst v
  | .global _ => .c .any
  | .func f => .c (.fn f [])
inductive ROp where
  | mv (x : PV)
  | pick (c a b : PV)
  | alloc (T : TypeId)
  | box (T : TypeId) (x : PV)
  | build (T : TypeId) (ps : List (Nat × PV))
  | bsl (T : TypeId) (n : Nat) (ps : List (Nat × PV))
  | load (T : TypeId) (a : PV)
  | store (T : TypeId) (a x : PV)
  | bin (op : BinOp) (T : TypeId) (x y : PV)
  | un (op : UnOp) (x : PV)
  | conv (s d : TypeId) (x : PV)
  | idxA (T : TypeId) (x i : PV)
  | idx (T : TypeId) (x i : PV)
  | fldA (T : TypeId) (x : PV) (f : Nat)
  | fld (T : TypeId) (x : PV) (f : Nat)
  | slc (T : TypeId) (x : PV) (lo hi mx : Option PV)
  | ext (x : PV) (i : Nat)
  | call (f : FuncId) (args : List PV)
  | callv (x : PV) (args : List PV)
  | blt (b : Builtin) (ats : List TypeId) (T : TypeId) (args : List PV)
  | mkf (f : FuncId) (caps : List PV)
  | mkb (f : FuncId) (fst caps : List PV)
  | mks (T : TypeId) (l c : PV)
  | nilc (x : PV)
  | mmk (T : TypeId)
  | mlk (T : TypeId) (x i : PV) (ok : Bool)
  | mup (T : TypeId) (m k v : PV)
  | no
def resV (e : Operand → PV) (x : Operand) (args : List PV) : ROp :=
  match x with
  | .func f => .call f args
  | x => .callv (e x) args
def resC (e : Operand → PV) (T : TypeId) (c : Callee) (ats : List TypeId) (args : List PV) : ROp :=
  match c with
  | .value x => resV e x args
  | .builtin b => .blt b ats T args
  | .invoke _ _ => .no
def resF (e : Operand → PV) (fn : Fn) (first : Array Operand) (caps : List PV) : ROp :=
  match fn with
  | .func f => if first.size = 0 then .mkf f caps else .mkb f (first.toList.map e) caps
  | _ => .no
def resMk (T : TypeId) : Option Operand → ROp
  | none => .mmk T
  | some _ => .no
def res (e : Operand → PV) (T : TypeId) : Op → ROp
  | .move x => .mv (e x)
  | .assign x => .mv (e x)
  | .pick c a b => .pick (e c) (e a) (e b)
  | .alloc T => .alloc T
  | .box T x => .box T (e x)
  | .build T ps => .build T (ps.toList.map fun (p : Nat × Operand) => (p.1, e p.2))
  | .buildSlice T n ps => .bsl T n (ps.toList.map fun (p : Nat × Operand) => (p.1, e p.2))
  | .load T a => .load T (e a)
  | .store T a x => .store T (e a) (e x)
  | .binOp op T x y _ => .bin op T (e x) (e y)
  | .unOp op _ x => .un op (e x)
  | .convert s d x => .conv s d (e x)
  | .indexAddr T x i => .idxA T (e x) (e i)
  | .index T x i => .idx T (e x) (e i)
  | .fieldAddr T x f => .fldA T (e x) f
  | .field T x f => .fld T (e x) f
  | .slice T x lo hi mx => .slc T (e x) (lo.map e) (hi.map e) (mx.map e)
  | .extract x i => .ext (e x) i
  | .call c => resC e T c.callee c.argTypes.toList (c.args.toList.map e)
  | .makeFunc fn first caps => resF e fn first (caps.toList.map e)
  | .makeSlice T l c => .mks T (e l) (e c)
  | .nilCheck x => .nilc (e x)
  | .makeMap T r => resMk T r
  | .lookup T x i ok => .mlk T (e x) (e i) ok
  | .mapUpdate T m k v => .mup T (e m) (e k) (e v)
  | _ => .no
def semOf : Sem Value → Option Value
  | .pure v => if v.oneCell' then some v else none
  | _ => none
def lit (v : Value) : PV := .c (.d (.lit v))
def CV.known : CV → Bool
  | .any | .skip => false
  | _ => true
def CV.toD : CV → Option D
  | .d x => some x
  | .full els => some (.sl els)
  | .own _ els => some (.sl els)
  | _ => none
def toDs : List CV → Option (List D)
  | [] => some []
  | c :: r => (c.toD).bind fun x => (toDs r).map fun xs => x :: xs
def CV.frz : CV → CV
  | .full els => .d (.sl els)
  | .own _ els => .d (.sl els)
  | c => c
def TV.frz : TV → TV
  | .c x => .c x.frz
  | .agg cs => .agg (cs.map CV.frz)
def PV.frz : PV → PV
  | .c x => .c x.frz
  | .agg cs => .agg (cs.map CV.frz)
  | .tup xs => .tup xs
def cellsP : PV → Option (List CV)
  | .c x => if x.known then some [x] else none
  | .agg cs => some cs
  | .tup _ => none
def oneP : List CV → Option PV
  | [c] => some (.c c)
  | _ => none
def mkPV (P : Program) (T : TypeId) (cs : List CV) : Option PV :=
  match P.underlying T with
  | some (.struct _) => some (.agg cs)
  | some (.array _ _) => some (.agg cs)
  | some _ => oneP cs
  | none => none
def sub (cs : List CV) (off n : Nat) : Option (List CV) := if off + n ≤ cs.length then some ((cs.drop off).take n) else none
def splice {α : Type} (cs : List α) (off : Nat) (ys : List α) : List α := cs.take off ++ ys ++ cs.drop (off + ys.length)
def zeroOf (P : Program) (T : TypeId) : Option (List CV) :=
  match P.info? T with
  | some i => match i.zero with
    | some z => if z.cells.size = i.size ∧ z.cells.all (·.oneCell') = true then some (z.cells.toList.map cstC) else none
    | none => none
  | none => none
def sliceEls : PV → Option (List (List D))
  | .c (.d (.sl els)) => some els
  | .c (.full els) => some els
  | .c (.own _ els) => some els
  | _ => none
def intOf? : PV → Option Int
  | .c (.d (.lit (.int _ n))) => some n
  | _ => none
def natOf? (x : PV) : Option Nat := (intOf? x).bind fun n => if 0 ≤ n then some n.toNat else none
def structPl (P : Program) (T : TypeId) : Option (List (Nat × Nat)) :=
  match P.underlying T with
  | some (.struct fs) => fs.toList.mapM (fun f => (P.info? f.type).map fun i => (f.offset, i.size))
  | _ => none
def fillA (place : Nat → Option (Nat × Nat)) : List CV → List (Nat × PV) → Option (List CV)
  | cs, [] => some cs
  | cs, (i, x) :: r => (place i).bind fun q => (cellsP x).bind fun ys => if ys.length = q.2 ∧ q.1 + ys.length ≤ cs.length then fillA place (splice cs q.1 ys) r else none
def buildS (P : Program) (T : TypeId) (ps : List (Nat × PV)) : Option PV :=
  match P.underlying T with
  | some (.struct _) => (structPl P T).bind fun pl => (zeroOf P T).bind fun z => (fillA (fun i => pl[i]?) z ps).map .agg
  | some (.array _ e) => if 0 < P.cellsOf e then (zeroOf P T).bind fun z => (fillA (fun i => some (i * P.cellsOf e, P.cellsOf e)) z ps).map .agg else none
  | _ => none
def chunk {α : Type} (size : Nat) : Nat → List α → List (List α)
  | 0, _ => []
  | n + 1, l => l.take size :: chunk size n (l.drop size)
def bslS (P : Program) (T : TypeId) (n : Nat) (ps : List (Nat × PV)) : Option PV :=
  match P.underlying T with
  | some (.slice e) => (zeroOf P e).bind fun z => if n * P.cellsOf e ≤ 16777216 ∧ 0 < P.cellsOf e ∧ 0 < n then
      (fillA (fun i => some (i * P.cellsOf e, P.cellsOf e)) (List.replicate n z).flatten ps).bind fun cs => (toDs cs).map fun ds => .c (.full (chunk (P.cellsOf e) n ds))
      else none
  | _ => none
def bslC (P : Program) (T : TypeId) (n : Nat) (ps : List (Nat × PV)) : Option (List CV) :=
  match P.underlying T with
  | some (.slice e) => (zeroOf P e).bind fun z => if n * P.cellsOf e ≤ 16777216 ∧ 0 < P.cellsOf e ∧ 0 < n then
      fillA (fun i => some (i * P.cellsOf e, P.cellsOf e)) (List.replicate n z).flatten ps else none
  | _ => none
def eqB : List CV → List CV → Option Bool
  | [.d (.lit (.bool a))], [.d (.lit (.bool b))] => some (a == b)
  | _, _ => none
def eqI : List CV → List CV → Option Bool
  | [.d (.lit (.int k a))], [.d (.lit (.int k' b))] => if k = k' then some (a == b) else none
  | _, _ => none
def eqT : List CV → List CV → Option Bool
  | [.d (.lit (.string a))], [.d (.lit (.string b))] => some (a.toList == b.toList)
  | _, _ => none
def eqCells (P : Program) : Nat → TypeId → List CV → List CV → Option Bool
  | 0, _, _, _ => none
  | d + 1, T, xs, ys =>
    match P.underlying T with
    | some .bool => eqB xs ys
    | some (.int _) => eqI xs ys
    | some .string => eqT xs ys
    | some (.struct fs) => if P.stoodInHeld T = false then
        fs.toList.foldr (fun f acc => if f.name = "_" then acc else (sub xs f.offset (P.cellsOf f.type)).bind fun a => (sub ys f.offset (P.cellsOf f.type)).bind fun b => (eqCells P d f.type a b).bind fun r => acc.map fun s => r && s) (some true)
        else none
    | _ => none
def eqS (P : Program) (T : TypeId) (x y : PV) : Option Bool :=
  match x, y with
  | .agg xs, .agg ys => match P.underlying T with
    | some (.struct _) => if P.eqGuardType P.depth T = false then eqCells P 8 T xs ys else none
    | _ => none
  | .c (.d (.lit (.bool a))), .c (.d (.lit (.bool b))) => match P.underlying T with
    | some .bool => some (a == b)
    | _ => none
  | .c (.ptr _ _), .c (.d (.lit (.pointer none))) => match P.underlying T with
    | some (.pointer _) => some false
    | _ => none
  | .c (.d (.lit (.pointer none))), .c (.d (.lit (.pointer none))) => match P.underlying T with
    | some (.pointer _) => some true
    | _ => none
  | _, _ => none
def binS (P : Program) (op : BinOp) (T : TypeId) (x y : PV) : Option PV :=
  match x, y with
  | .c (.d (.lit (.int k a))), .c (.d (.lit (.int k' b))) => (semOf (binOp op T (.int k a) (.int k' b))).map lit
  | .c (.d (.lit (.float k a))), .c (.d (.lit (.float k' b))) => (semOf (binOp op T (.float k a) (.float k' b))).map lit
  | .c (.d (.lit (.string a))), .c (.d (.lit (.string b))) => (semOf (binOp op T (.string a) (.string b))).map lit
  | x, y => match op with
    | .eql => (eqS P T x y).map fun b => lit (.bool b)
    | .neq => (eqS P T x y).map fun b => lit (.bool (!b))
    | _ => none
def convI (k : IntKind) : PV → Option PV
  | .c (.d (.lit (.int _ n))) => some (lit (.int k (k.wrap n)))
  | _ => none
def convT : PV → Option PV
  | .c (.d (.lit (.string s))) => some (lit (.string s))
  | _ => none
def bytesEls (l : List UInt8) : List (List D) := l.map fun b => [.lit (.int .u8 b.toNat)]
def elsBytes : List (List D) → Option (List UInt8)
  | [] => some []
  | [.lit (.int .u8 n)] :: r => if n = (UInt8.ofNat n.toNat).toNat then (elsBytes r).map (UInt8.ofNat n.toNat :: ·) else none
  | _ => none
def isBytes (P : Program) (t : TypeId) : Bool := match P.underlying t with
  | some (.slice e) => (match P.underlying e with
    | some (.int .u8) => P.cellsOf e == 1
    | _ => false)
  | _ => false
def convB (P : Program) (s : TypeId) (x : PV) : Option PV :=
  if isBytes P s = true then (sliceEls x).bind fun els => (elsBytes els).map fun l => lit (.string ⟨l.toArray⟩) else none
def convT2 (P : Program) (s : TypeId) (x : PV) : Option PV :=
  match convT x with
  | some y => some y
  | none => convB P s x
def convS (P : Program) (s d : TypeId) (x : PV) : Option PV :=
  match P.underlying s with
  | none => none
  | some _ => match P.underlying d with
    | some (.int k) => convI k x
    | some .string => convT2 P s x
    | _ => none
def mkeyOK : TypeDesc → Value → Bool
  | .int _, .int _ _ => true
  | .string, .string _ => true
  | _, _ => false
def mfind (kd : TypeDesc) (k : Value) : List (Value × Value) → Nat → Option (Option (Nat × Value))
  | [], _ => some none
  | e :: es, i => match Instr.sameNow kd k e.1 with
    | some true => some (some (i, e.2))
    | some false => mfind kd k es (i + 1)
    | none => none
def zlit (P : Program) (e : TypeId) : Option Value := (P.info? e).bind fun i => i.zero.bind fun z => if z.oneCell' = true then some z else none
def idxE (P : Program) (e : TypeId) (n : Nat) : PV → Option PV
  | .c (.mt κ sz len) => if n < len ∧ sz = P.cellsOf e then some (.c (.mptr κ sz len n 0)) else none
  | .c (.tv κ sz len L) => if n < len ∧ sz = P.cellsOf e then some (.c (.mptr κ sz L n 0)) else none
  | .c (.vsl id len) => if n < len then some (.c (.ptr id (n * P.cellsOf e))) else none
  | x => (sliceEls x).bind fun els => (els[n]?).bind fun c => if c.length = P.cellsOf e then some (.c (.eptr c 0)) else none
def addO (k : Nat) : PV → Option PV
  | .c (.ptr id off) => some (.c (.ptr id (off + k)))
  | .c (.eptr c off) => some (.c (.eptr c (off + k)))
  | .c (.mptr κ sz len i off) => some (.c (.mptr κ sz len i (off + k)))
  | _ => none
def idxAS (P : Program) (T : TypeId) (x i : PV) : Option PV :=
  match P.underlying T with
  | some (.slice e) => if 0 < P.cellsOf e then (natOf? i).bind fun n => idxE P e n x else none
  | some (.array len e) => if 0 < P.cellsOf e then (natOf? i).bind fun n => if n < len then addO (n * P.cellsOf e) x else none else none
  | _ => none
def idxT (n : Nat) : PV → Option PV
  | .c (.d (.lit (.string s))) => (s[n]?).map fun b => lit (.int .u8 b.toNat)
  | _ => none
def partS (P : Program) (T : TypeId) (off : Nat) : PV → Option PV
  | .agg cs => (sub cs off (P.cellsOf T)).bind fun r => mkPV P T r
  | _ => none
def idxS (P : Program) (T : TypeId) (x i : PV) : Option PV :=
  match P.underlying T with
  | some .string => (natOf? i).bind fun n => idxT n x
  | some (.array len e) => (natOf? i).bind fun n => if n < len then partS P e (n * P.cellsOf e) x else none
  | _ => none
def fldAS (P : Program) (T : TypeId) (x : PV) (f : Nat) : Option PV :=
  match P.underlying T with
  | some (.struct fs) => (fs[f]?).bind fun q => if P.cellsOf q.type = 0 then none else addO q.offset x
  | _ => none
def fldS (P : Program) (T : TypeId) (x : PV) (f : Nat) : Option PV :=
  match P.underlying T with
  | some (.struct fs) => (fs[f]?).bind fun q => partS P q.type q.offset x
  | _ => none
def optNat (x : Option PV) (dflt : Nat) : Option Nat :=
  match x with
  | none => some dflt
  | some x => natOf? x
def strOf? : PV → Option ByteArray
  | .c (.d (.lit (.string s))) => some s
  | _ => none
def Opt {α : Type} (x : Option α) (K : α → Prop) : Prop :=
  match x with
  | some a => K a
  | none => False
def slcM (els : List (List D)) (l h : Nat) (mx : Option PV) (K : PV → Prop) : Prop :=
  match mx with
  | none => K (.c (.d (.sl ((els.drop l).take (h - l)))))
  | some m => Opt (natOf? m) fun m => m = h ∧ K (.c (.full ((els.drop l).take (h - l))))
def slcW (P : Program) (e : TypeId) (x : PV) (lo hi mx : Option PV) (K : PV → Prop) : Prop :=
  match x with
  | .c (.tv κ sz n L) => (lo = none ∧ mx = none ∧ sz = P.cellsOf e) ∧ Opt (optNat hi n) fun m => m ≤ n ∧ K (.c (.tv κ sz m L))
  | _ => False
def slcV (P : Program) (T : TypeId) (x : PV) (lo hi mx : Option PV) (K : PV → Prop) : Prop :=
  match P.underlying T with
  | some .string => mx.isNone = true ∧ Opt (strOf? x) fun s => Opt (optNat lo 0) fun l => Opt (optNat hi s.size) fun h => (l ≤ h ∧ h ≤ s.size) ∧ K (lit (.string (s.extract l h)))
  | some (.slice e) => 0 < P.cellsOf e ∧ (match sliceEls x with
    | none => slcW P e x lo hi mx K
    | some els => Opt (optNat lo 0) fun l => Opt (optNat hi els.length) fun h => (l ≤ h ∧ h ≤ els.length ∧ Szd (P.cellsOf e) els ∧ (mx.isSome = true → hi.isSome = true)) ∧ slcM els l h mx K)
  | _ => False
def extS (x : PV) (i : Nat) : Option PV :=
  match x with
  | .tup xs => (xs[i]?).map TV.pv
  | _ => none
def litsOf : List PV → Option (List Value)
  | [] => some []
  | .c (.d (.lit (.int k n))) :: r => (litsOf r).map fun xs => .int k n :: xs
  | _ :: _ => none
def lenE : PV → Option PV
  | .c (.mt _ _ n) => some (lit (.int .i64 n))
  | .c (.tv _ _ n _) => some (lit (.int .i64 n))
  | .c (.vsl _ n) => some (lit (.int .i64 n))
  | x => (sliceEls x).map fun els => lit (.int .i64 els.length)
def lenT (P : Program) (t : TypeId) (x : PV) : Option PV :=
  match P.underlying t with
  | some (.slice _) => lenE x
  | some .string => (strOf? x).map fun s => lit (.int .i64 s.size)
  | some (.array n _) => some (lit (.int .i64 n))
  | _ => none
def lenS (P : Program) : List TypeId → List PV → Option PV
  | [t], [x] => lenT P t x
  | _, _ => none
def bltS (P : Program) (b : Builtin) (ats : List TypeId) (T : TypeId) (args : List PV) : Option PV :=
  match b with
  | .len => lenS P ats args
  | .min => (litsOf args).bind fun xs => (semOf (Builtin.min_ #[] T xs.toArray)).map lit
  | .max => (litsOf args).bind fun xs => (semOf (Builtin.max_ #[] T xs.toArray)).map lit
  | _ => none
def mapOf (A : AMap) : PV → Option (List (Value × Value))
  | .c (.mpr κ) => match A κ with
    | some (.mp m) => some m
    | _ => none
  | .c (.d (.lit (.map none))) => some []
  | _ => none
def litV : PV → Option Value
  | .c (.d (.lit v)) => some v
  | _ => none
def gotV (P : Program) (e : TypeId) : Option (Nat × Value) → Option (Value × Bool)
  | some r => if r.2.oneCell' = true then some (r.2, true) else none
  | none => (zlit P e).map fun z => (z, false)
def pairV (ok : Bool) (r : Value × Bool) : PV := match ok with
  | true => .tup [.c (.d (.lit r.1)), .c (.d (.lit (.bool r.2)))]
  | false => .c (.d (.lit r.1))
def lookM (P : Program) (kt e : TypeId) (m : List (Value × Value)) (k : Value) (ok : Bool) : Option PV :=
  (P.underlying kt).bind fun kd => if mkeyOK kd k = true then (mfind kd k m 0).bind fun r => (gotV P e r).map (pairV ok) else none
def lookS (P : Program) (A : AMap) (T : TypeId) (x i : PV) (ok : Bool) : Option PV :=
  match P.underlying T with
  | some (.map kt e) => (litV i).bind fun k => (mapOf A x).bind fun m => lookM P kt e m k ok
  | _ => none
def laidM (m : List (Value × Value)) (k v : Value) : Option (Nat × Value) → List (Value × Value)
  | some r => m.set r.1 (k, v)
  | none => m ++ [(k, v)]
def upM (P : Program) (kt : TypeId) (m : List (Value × Value)) (k v : Value) : Option (List (Value × Value)) :=
  (P.underlying kt).bind fun kd => if mkeyOK kd k = true then (mfind kd k m 0).map (laidM m k v) else none
def mupS (P : Program) (A : AMap) (T : TypeId) (x k v : PV) : Option AMap :=
  match P.underlying T with
  | some (.map kt _) => (match x with
    | .c (.mpr κ) => (mapOf A x).bind fun m => (litV k).bind fun k => (litV v).bind fun v => (upM P kt m k v).map fun m' => upd A κ (some (.mp m'))
    | _ => none)
  | _ => none
def goneM (m : List (Value × Value)) : Option (Nat × Value) → List (Value × Value)
  | some r => m.eraseIdx r.1
  | none => m
def delM (P : Program) (kt : TypeId) (m : List (Value × Value)) (k : Value) : Option (List (Value × Value)) :=
  (P.underlying kt).bind fun kd => if mkeyOK kd k = true then (mfind kd k m 0).map (goneM m) else none
def mdelS (P : Program) (A : AMap) (T : TypeId) (x k : PV) : Option AMap :=
  match P.underlying T with
  | some (.map kt _) => (match x with
    | .c (.mpr κ) => (mapOf A x).bind fun m => (litV k).bind fun k => (delM P kt m k).map fun m' => upd A κ (some (.mp m'))
    | _ => none)
  | _ => none
def mksS (P : Program) (T : TypeId) (l c : PV) : Option PV :=
  match P.underlying T with
  | some (.slice e) => (natOf? l).bind fun n => (natOf? c).bind fun n' => (zeroOf P e).bind fun z => if n = n' ∧ n * P.cellsOf e ≤ 16777216 ∧ 0 < P.cellsOf e ∧ 0 < n ∧ n * P.bytesOf e ≤ 16777216 then
      (toDs (List.replicate n z).flatten).map fun ds => .c (.full (chunk (P.cellsOf e) n ds)) else none
  | _ => none
def elsF : Option PV → Option (List (List D))
  | some (.c (.full els)) => some els
  | _ => none
def szOf (P : Program) (T : TypeId) : Nat := match P.underlying T with
  | some (.slice e) => P.cellsOf e
  | _ => 0
def mutEls (A : AMap) : PV → Option (List (List D))
  | .c (.mt κ sz n) => (match A κ with
    | some (.mu sz' els) => if sz' = sz ∧ sz = 1 ∧ n = els.length then some els else none
    | _ => none)
  | _ => none
def convA (P : Program) (A : AMap) (s d : TypeId) (x : PV) : Option PV :=
  match P.underlying d with
  | some .string => if isBytes P s = true then (mutEls A x).bind fun els => (elsBytes els).map fun l => lit (.string ⟨l.toArray⟩) else none
  | _ => none
def lenM (P : Program) (A : AMap) : List TypeId → List PV → Option PV
  | [t], [x] => (match P.underlying t with
    | some (.map _ _) => (mapOf A x).map fun m => lit (.int .i64 m.length)
    | _ => none)
  | _, _ => none
def capsOf : List PV → Option (List (Nat × Nat))
  | [] => some []
  | .c (.ptr id off) :: r => (capsOf r).map fun xs => (id, off) :: xs
  | _ :: _ => none
def boolOf? : PV → Option Bool
  | .c (.d (.lit (.bool t))) => some t
  | _ => none
def litOf? : PV → Option Value
  | .c (.d (.lit v)) => some v
  | _ => none
def nilS : PV → Option PV
  | .c (.ptr id off) => some (.c (.ptr id off))
  | .c (.eptr c off) => some (.c (.eptr c off))
  | .c (.mptr κ sz len i off) => some (.c (.mptr κ sz len i off))
  | .c (.fn f caps) => some (.c (.fn f caps))
  | .c (.bfn f fst caps) => some (.c (.bfn f fst caps))
  | _ => none
def pureS (P : Program) : ROp → Option PV
  | .mv x => some x
  | .pick c a b => (boolOf? c).map fun t => if t then a else b
  | .build T ps => buildS P T ps
  | .bsl T n ps => bslS P T n ps
  | .bin op T x y => binS P op T x y
  | .un op x => (litOf? x).bind fun v => (semOf (Op.unary op v)).map lit
  | .conv s d x => convS P s d x
  | .idxA T x i => idxAS P T x i
  | .idx T x i => idxS P T x i
  | .fldA T x f => fldAS P T x f
  | .fld T x f => fldS P T x f
  | .ext x i => extS x i
  | .blt b ats T args => bltS P b ats T args
  | .mkf f caps => (capsOf caps).map fun cs => .c (.fn f cs)
  | .mkb f fst caps => (capsOf fst).bind fun fs => (capsOf caps).map fun cs => .c (.bfn f fs cs)
  | .nilc x => nilS x
  | .mks T l c => mksS P T l c
  | _ => none
def blocked : Option (List Nat) → Nat → Bool
  | none, _ => false
  | some [], _ => false
  | some (_ :: l), id => l.contains id
def lwOf : Option (List Nat) → Bool
  | none => false
  | some [] => false
  | some (x :: _) => x == 1
def modeOf (fb : Option (List Nat)) : Bool × Bool := (fb.isSome, lwOf fb)
def stoG {α : Type} (lw bl : Bool) (r : Option α) : Option α := match lw, bl with
  | true, false => none
  | true, true => r
  | false, _ => r
theorem stoG_some {α : Type} {lw bl : Bool} {r : Option α} {m : α} (h : stoG lw bl r = some m) : r = some m ∧ (lw = true → bl = true) := by
  cases lw <;> cases bl <;> first | (cases h; done) | exact ⟨h, fun e => e⟩ | exact ⟨h, fun e => (by cases e)⟩ | exact ⟨h, fun _ => rfl⟩
theorem stoG_of {α : Type} {lw bl : Bool} {r : Option α} (h : lw = true → bl = true) : stoG lw bl r = r := by
  cases lw <;> cases bl <;> first | rfl | (cases h rfl)
def loadS (P : Program) (fb : Option (List Nat)) (H : HMap) (A : AMap) (T : TypeId) (a : PV) : Option PV :=
  match a with
  | .c (.ptr id off) => if blocked fb id = true then none else (H id).bind fun cs => (sub cs off (P.cellsOf T)).bind fun r => mkPV P T r
  | .c (.eptr e off) => (sub (e.map .d) off (P.cellsOf T)).bind fun r => mkPV P T r
  | .c (.mptr κ _ n i off) => if fb.isSome = true then none else match A κ with
    | some (.mu _ els) => if n = els.length then (els[i]?).bind fun e => (sub (e.map .d) off (P.cellsOf T)).bind fun r => mkPV P T r else none
    | _ => none
  | _ => none
def storeS (P : Program) (fb : Option (List Nat)) (H : HMap) (A : AMap) (T : TypeId) (a x : PV) : Option (HMap × AMap) :=
  (cellsP x).bind fun ys => if ys.length = P.cellsOf T ∧ ys.all CV.known = true then match a with
    | .c (.ptr id off) => stoG (lwOf fb) (blocked fb id) ((H id).bind fun cs => if off + ys.length ≤ cs.length then some (upd H id (some (splice cs off ys)), A) else none)
    | .c (.mptr κ sz n i off) => if fb.isSome = true then none else match A κ with
      | some (.mu sz' els) => if n = els.length ∧ sz' = sz then (els[i]?).bind fun e => (toDs ys).bind fun ds => if off + ds.length ≤ e.length then
          some (H, upd A κ (some (.mu sz' (els.set i (splice e off ds))))) else none else none
      | _ => none
    | _ => none else none
def zeroOK (P : Program) (e : TypeId) : Bool := (zeroOf P e).isSome
def appT (P : Program) (e : TypeId) (A : AMap) (κ : Tok) (sz n L : Nat) (ys : List (List D)) (K : PV → AMap → Prop) : Prop :=
  match A κ with
  | some (.mu sz' els) => (sz = P.cellsOf e ∧ sz' = sz ∧ L = els.length ∧ n ≤ L ∧ Szd (P.cellsOf e) ys ∧ (els.length + ys.length) * P.bytesOf e ≤ 140737488355328) ∧
      (match decide (n = L) with
       | true => K (.c (.tv κ sz (els ++ ys).length (els ++ ys).length)) (upd A κ (some (.mu sz (els ++ ys))))
       | false => match ys with
         | [y] => K (.c (.tv κ sz (n + 1) L)) (upd A κ (some (.mu sz (els.set n y))))
         | _ => False)
  | _ => False
def appV (P : Program) (md : List Nat) (k d : Nat) (A : AMap) (ats : List TypeId) (x y : PV) (K : PV → AMap → Prop) : Prop :=
  match ats with
  | [t, u] => match P.underlying t with
    | some (.slice e) => (t = u ∧ 0 < P.cellsOf e ∧ zeroOK P e = true ∧ 0 < P.bytesOf e) ∧ (match sliceEls y with
      | some ys => match x with
        | .c (.full els) => (Szd (P.cellsOf e) els ∧ Szd (P.cellsOf e) ys ∧ (els.length + ys.length) * P.bytesOf e ≤ 140737488355328 ∧ A (k + d, 0) = none) ∧
            (match md.contains d with
             | true => els = [] ∧ K (.c (.mt (k + d, 0) (P.cellsOf e) (els ++ ys).length)) (upd A (k + d, 0) (some (.mu (P.cellsOf e) (els ++ ys))))
             | false => K (.c (.own (k + d, 0) (els ++ ys))) (upd A (k + d, 0) (some (.co (P.cellsOf e) (els ++ ys).length))))
        | .c (.own κ els) => (Szd (P.cellsOf e) els ∧ Szd (P.cellsOf e) ys ∧ (els.length + ys.length) * P.bytesOf e ≤ 140737488355328 ∧ A κ = some (.co (P.cellsOf e) els.length)) ∧
            K (.c (.own κ (els ++ ys))) (upd A κ (some (.co (P.cellsOf e) (els ++ ys).length)))
        | .c (.mt κ sz n) => match A κ with
          | some (.mu sz' els) => (sz = P.cellsOf e ∧ sz' = sz ∧ n = els.length ∧ Szd (P.cellsOf e) ys ∧ (els.length + ys.length) * P.bytesOf e ≤ 140737488355328) ∧
              K (.c (.mt κ sz (els ++ ys).length)) (upd A κ (some (.mu sz (els ++ ys))))
          | _ => False
        | .c (.tv κ sz n L) => appT P e A κ sz n L ys K
        | _ => False
      | none => False)
    | _ => False
  | _ => False
end Go.PW
