/-
  Parts of the proof, laid together: PwA.
-/
import Derived.Laws.IdiomRangeMap
import Derived.Orders
import Derived.Laws.AppendOwn
import Derived.Laws.StructEq
import Derived.Laws.IdiomCopy
import Derived.Laws.Slices
import Derived.Scope

namespace Go.PW
abbrev Tok := Nat × Nat
inductive D where
  | lit (v : Value)
  | sl (els : List (List D))
inductive Arr where
  | co (sz n : Nat)
  | mu (sz : Nat) (els : List (List D))
  | mp (m : List (Value × Value))
  | mpi (m : List (Value × Value)) (cur : Option (Value × Value)) (left : List (Value × Value)) (bi : Nat)
  | si (s : ByteArray) (pos : Nat)
def Arr.isMp : Arr → Bool
  | .mp _ => true
  | .mpi _ _ _ _ => true
  | _ => false
inductive CV where
  | any
  | skip
  | d (x : D)
  | full (els : List (List D))
  | own (κ : Tok) (els : List (List D))
  | mt (κ : Tok) (sz n : Nat)
  | tv (κ : Tok) (sz n L : Nat)
  | ptr (id off : Nat)
  | eptr (e : List D) (off : Nat)
  | mptr (κ : Tok) (sz n i off : Nat)
  | fn (f : FuncId) (caps : List (Nat × Nat))
  | mpr (κ : Tok)
  | vsl (id n : Nat)
  | bfn (f : FuncId) (fst caps : List (Nat × Nat))
  | itr (κ : Tok) (bi : Nat)
  | sit (κ : Tok)
inductive TV where
  | c (x : CV)
  | agg (cs : List CV)
inductive PV where
  | c (x : CV)
  | agg (cs : List CV)
  | tup (xs : List TV)
def TV.pv : TV → PV
  | .c x => .c x
  | .agg cs => .agg cs
inductive Own where
  | var (id : Nat)
  | tok (κ : Tok)
structure Gh where
  C : Nat → Nat → Option Value
  β : Nat → Option Nat
  τ : Tok → Value
  O : Nat → Option Own
abbrev HMap := Nat → Option (List CV)
abbrev AMap := Tok → Option Arr
inductive DRep (C : Nat → Nat → Option Value) : D → Value → Prop
  | lit (v : Value) (h : v.oneCell' = true) : DRep C (.lit v) v
  | nil (a : Option Addr) : DRep C (.sl []) (.slice a 0 0)
  | sl (els : List (List D)) (b o cap sz n : Nat) (val : Nat → Nat → Value) (hn : n = els.length) (hcap : n ≤ cap) (hsz : ∀ e ∈ els, e.length = sz)
      (hC : ∀ i k, i < n → k < sz → C b (o + i * sz + k) = some (val i k))
      (hd : ∀ i k e x, els[i]? = some e → e[k]? = some x → DRep C x (val i k)) : DRep C (.sl els) (.slice (some ⟨b, o, none⟩) n cap)
theorem DRep.mono {C C' : Nat → Nat → Option Value} (h : ∀ b o v, C b o = some v → C' b o = some v) {x : D} {v : Value} (hr : DRep C x v) : DRep C' x v := by
  induction hr with
  | lit v h => exact .lit v h
  | nil a => exact .nil a
  | sl els b o cap sz n val hn hcap hsz hC hd ih => exact .sl els b o cap sz n val hn hcap hsz (fun i k hi hk => h _ _ _ (hC i k hi hk)) ih
theorem DRep.oneCell {C : Nat → Nat → Option Value} {x : D} {v : Value} (h : DRep C x v) : v.oneCell' = true := by
  cases h with
  | lit v h => exact h
  | nil => rfl
  | sl => rfl
theorem DRep.lit_eq {C : Nat → Nat → Option Value} {u v : Value} (h : DRep C (.lit u) v) : v = u := by cases h; rfl
def capFull : Value → Prop
  | .slice _ n cap => cap = n
  | _ => False
def PtsRep (β : Nat → Option Nat) (l : List (Nat × Nat)) (vs : Array Value) : Prop :=
  vs.size = l.length ∧ ∀ (k : Nat) (p : Nat × Nat), l[k]? = some p → ∃ b, β p.1 = some b ∧ vs[k]? = some (.pointer (some ⟨b, p.2, none⟩))
theorem PtsRep.mono {β β' : Nat → Option Nat} {l : List (Nat × Nat)} {vs : Array Value} (h : PtsRep β l vs) (k : ∀ p ∈ l, ∀ b, β p.1 = some b → β' p.1 = some b) : PtsRep β' l vs :=
  ⟨h.1, fun i p hi => let ⟨b, hb, e⟩ := h.2 i p hi; ⟨b, k p (List.mem_of_getElem? hi) b hb, e⟩⟩
def CRep (g : Gh) (A : AMap) : CV → Value → Prop
  | .any, _ => True
  | .skip, v => v = undef
  | .d x, v => DRep g.C x v
  | .full els, v => DRep g.C (.sl els) v ∧ capFull v
  | .own κ els, v => DRep g.C (.sl els) v ∧ ∃ sz n, A κ = some (.co sz n) ∧ els.length ≤ n ∧ (els.length = n → g.τ κ = v ∨ ∃ a, v = .slice a 0 0)
  | .mt κ sz n, v => ∃ a cap els, v = .slice a n cap ∧ (0 < n → ∃ b, a = some ⟨b, 0, none⟩) ∧ A κ = some (.mu sz els) ∧ n ≤ els.length ∧ (n = els.length → g.τ κ = v ∨ ∃ a, v = .slice a 0 0)
  | .tv κ sz n L, v => ∃ a cap els, v = .slice a n cap ∧ (0 < n → ∃ b, a = some ⟨b, 0, none⟩) ∧ A κ = some (.mu sz els) ∧ (n ≤ L ∧ L ≤ els.length ∧ n ≤ cap) ∧ (L = els.length → g.τ κ = .slice a L cap ∨ (L = 0 ∧ ∃ a, v = .slice a 0 0))
  | .ptr id off, v => ∃ b, g.β id = some b ∧ v = .pointer (some ⟨b, off, none⟩)
  | .eptr e off, v => ∃ b o, v = .pointer (some ⟨b, o + off, none⟩) ∧ ∀ (k : Nat) (x : D), e[k]? = some x → ∃ u, g.C b (o + k) = some u ∧ DRep g.C x u
  | .mptr κ sz n i off, v => ∃ b els, v = .pointer (some ⟨b, i * sz + off, none⟩) ∧ A κ = some (.mu sz els) ∧ n ≤ els.length ∧ (n = els.length → ∃ cap, g.τ κ = .slice (some ⟨b, 0, none⟩) n cap)
  | .fn f caps, v => ∃ vs : Array Value, v = .func (.func f) #[] vs ∧ vs.size = caps.length ∧ ∀ (k : Nat) (p : Nat × Nat), caps[k]? = some p → ∃ b, g.β p.1 = some b ∧ vs[k]? = some (.pointer (some ⟨b, p.2, none⟩))
  | .mpr κ, v => (∃ b, v = .map (some b)) ∧ v = g.τ κ ∧ ∃ ar, A κ = some ar ∧ ar.isMp = true
  | .vsl id n, v => ∃ b, g.β id = some b ∧ v = .slice (some ⟨b, 0, none⟩) n n
  | .bfn f fst caps, v => ∃ us vs : Array Value, v = .func (.func f) us vs ∧ PtsRep g.β fst us ∧ PtsRep g.β caps vs
  | .itr _ bi, v => v = .pointer (some ⟨bi, 0, none⟩)
  | .sit κ, v => (∃ b, v = .pointer (some ⟨b, 0, none⟩)) ∧ v = g.τ κ ∧ ∃ s pos, A κ = some (.si s pos)
def CsRep (g : Gh) (A : AMap) (cs : List CV) (vs : List Value) : Prop := vs.length = cs.length ∧ ∀ (k : Nat) (c : CV), cs[k]? = some c → ∃ v, vs[k]? = some v ∧ CRep g A c v
def TRep (g : Gh) (A : AMap) : TV → Value → Prop
  | .c x, v => CRep g A x v
  | .agg cs, v => ∃ arr : Array Value, v = .agg arr ∧ CsRep g A cs arr.toList
def PRep (g : Gh) (A : AMap) : PV → Value → Prop
  | .c x, v => CRep g A x v
  | .agg cs, v => ∃ arr : Array Value, v = .agg arr ∧ CsRep g A cs arr.toList
  | .tup xs, v => ∃ arr : Array Value, v = .tuple arr ∧ arr.size = xs.length ∧ ∀ (k : Nat) (x : TV), xs[k]? = some x → ∃ u, arr[k]? = some u ∧ TRep g A x u
theorem PRep_pv {g : Gh} {A : AMap} {x : TV} {v : Value} : PRep g A x.pv v ↔ TRep g A x v := by cases x <;> rfl
def TokLe : Arr → Value → Arr → Value → Prop
  | .co sz n, v, .co sz' n', v' => sz = sz' ∧ ((n = n' ∧ v = v') ∨ n < n')
  | .mu sz els, v, .mu sz' els', v' => sz = sz' ∧ ((els.length = els'.length ∧ v = v') ∨ els.length < els'.length)
  | .mp _, v, .mp _, v' => v = v'
  | .mp _, v, .mpi _ _ _ _, v' => v = v'
  | .mpi _ _ _ _, v, .mp _, v' => v = v'
  | .mpi _ _ _ _, v, .mpi _ _ _ _, v' => v = v'
  | .si _ _, v, .si _ _, v' => v = v'
  | _, _, _, _ => False
theorem TokLe.refl (ar : Arr) (v : Value) : TokLe ar v ar v := by cases ar <;> first | exact ⟨rfl, .inl ⟨rfl, rfl⟩⟩ | exact rfl
theorem TokLe.trans {a b c : Arr} {u v w : Value} (h : TokLe a u b v) (k : TokLe b v c w) : TokLe a u c w := by
  cases a <;> cases b <;> cases c <;> simp only [TokLe] at h k ⊢ <;> first
  | exact h.trans k
  | (obtain ⟨h1, h2⟩ := h
     obtain ⟨k1, k2⟩ := k
     refine ⟨h1.trans k1, ?_⟩
     rcases h2 with ⟨h2, h3⟩ | h2 <;> rcases k2 with ⟨k2, k3⟩ | k2
     · exact .inl ⟨h2.trans k2, h3.trans k3⟩
     · exact .inr (by omega)
     · exact .inr (by omega)
     · exact .inr (by omega))
structure Mono (g : Gh) (A : AMap) (g' : Gh) (A' : AMap) : Prop where
  C : ∀ b o v, g.C b o = some v → g'.C b o = some v
  β : ∀ id b, g.β id = some b → g'.β id = some b
  τ : ∀ κ ar, A κ = some ar → ∃ ar', A' κ = some ar' ∧ TokLe ar (g.τ κ) ar' (g'.τ κ)
theorem Mono.refl (g : Gh) (A : AMap) : Mono g A g A := ⟨fun _ _ _ h => h, fun _ _ h => h, fun _ ar h => ⟨ar, h, TokLe.refl _ _⟩⟩
theorem Mono.trans {g1 g2 g3 : Gh} {A1 A2 A3 : AMap} (h : Mono g1 A1 g2 A2) (k : Mono g2 A2 g3 A3) : Mono g1 A1 g3 A3 :=
  ⟨fun b o v e => k.C b o v (h.C b o v e), fun id b e => k.β id b (h.β id b e), fun κ ar e => by
    obtain ⟨ar', e', l⟩ := h.τ κ ar e
    obtain ⟨ar'', e'', l'⟩ := k.τ κ ar' e'
    exact ⟨ar'', e'', l.trans l'⟩⟩
theorem CRep.mono {g g' : Gh} {A A' : AMap} (h : Mono g A g' A') {c : CV} {v : Value} (hr : CRep g A c v) : CRep g' A' c v := by
  cases c with
  | any => trivial
  | skip => exact hr
  | d x => exact DRep.mono h.C hr
  | full els => exact ⟨DRep.mono h.C hr.1, hr.2⟩
  | own κ els =>
    obtain ⟨hd, sz, n, hA, hl, ht⟩ := hr
    obtain ⟨ar', hA', hle⟩ := h.τ κ _ hA
    cases ar' with
    | mu => exact hle.elim
    | mp => exact hle.elim
    | mpi => exact hle.elim
    | si => exact hle.elim
    | co sz' n' =>
      refine ⟨DRep.mono h.C hd, sz', n', hA', ?_, ?_⟩
      · rcases hle.2 with ⟨e, _⟩ | e <;> omega
      · intro hn
        rcases hle.2 with ⟨e, e2⟩ | e
        · rw [← e2]; exact ht (by omega)
        · omega
  | mt κ sz n =>
    obtain ⟨a, cap, els, hv, ha, hA, hl, ht⟩ := hr
    obtain ⟨ar', hA', hle⟩ := h.τ κ _ hA
    cases ar' with
    | co => exact hle.elim
    | mp => exact hle.elim
    | mpi => exact hle.elim
    | si => exact hle.elim
    | mu sz' els' =>
      obtain ⟨hsz, hle⟩ := hle
      subst hsz
      refine ⟨a, cap, els', hv, ha, hA', ?_, ?_⟩
      · rcases hle with ⟨e, _⟩ | e <;> omega
      · intro hn
        rcases hle with ⟨e, e2⟩ | e
        · rw [← e2]; exact ht (by omega)
        · omega
  | tv κ sz n L =>
    obtain ⟨a, cap, els, hv, ha, hA, hl, ht⟩ := hr
    obtain ⟨ar', hA', hle⟩ := h.τ κ _ hA
    cases ar' with
    | co => exact hle.elim
    | mp => exact hle.elim
    | mpi => exact hle.elim
    | si => exact hle.elim
    | mu sz' els' =>
      obtain ⟨hsz, hle⟩ := hle
      subst hsz
      refine ⟨a, cap, els', hv, ha, hA', ?_, ?_⟩
      · exact ⟨hl.1, by rcases hle with ⟨e, _⟩ | e <;> omega, hl.2.2⟩
      · intro hn
        rcases hle with ⟨e, e2⟩ | e
        · rw [← e2]; exact ht (by omega)
        · omega
  | ptr id off =>
    obtain ⟨b, hb, e⟩ := hr
    exact ⟨b, h.β id b hb, e⟩
  | eptr e off =>
    obtain ⟨b, o, hv, hc⟩ := hr
    refine ⟨b, o, hv, fun k x hk => ?_⟩
    obtain ⟨u, hu, hd⟩ := hc k x hk
    exact ⟨u, h.C _ _ _ hu, DRep.mono h.C hd⟩
  | mptr κ sz n i off =>
    obtain ⟨b, els, hv, hA, hl, ht⟩ := hr
    obtain ⟨ar', hA', hle⟩ := h.τ κ _ hA
    cases ar' with
    | co => exact hle.elim
    | mp => exact hle.elim
    | mpi => exact hle.elim
    | si => exact hle.elim
    | mu sz' els' =>
      obtain ⟨hsz, hle⟩ := hle
      subst hsz
      refine ⟨b, els', hv, hA', ?_, ?_⟩
      · rcases hle with ⟨e, _⟩ | e <;> omega
      · intro hn
        rcases hle with ⟨e, e2⟩ | e
        · rw [← e2]; exact ht (by omega)
        · omega
  | fn f caps =>
    obtain ⟨vs, hv, hs, hc⟩ := hr
    refine ⟨vs, hv, hs, fun k p hk => ?_⟩
    obtain ⟨b, hb, e⟩ := hc k p hk
    exact ⟨b, h.β _ _ hb, e⟩
  | mpr κ =>
    obtain ⟨hb, hv, ar, hA, hmp⟩ := hr
    obtain ⟨ar', hA', hle⟩ := h.τ κ _ hA
    cases ar <;> first | (cases hmp; done) | skip
    all_goals
      cases ar' with
      | mp m' => exact ⟨hb, hv.trans hle, _, hA', rfl⟩
      | mpi m' c l i => exact ⟨hb, hv.trans hle, _, hA', rfl⟩
      | co => exact hle.elim
      | mu => exact hle.elim
      | si => exact hle.elim
  | vsl id n =>
    obtain ⟨b, hb, e⟩ := hr
    exact ⟨b, h.β id b hb, e⟩
  | bfn f fst caps =>
    obtain ⟨us, vs, e, h1, h2⟩ := hr
    exact ⟨us, vs, e, h1.mono (fun p _ b hb => h.β _ b hb), h2.mono (fun p _ b hb => h.β _ b hb)⟩
  | itr κ bi => exact hr
  | sit κ =>
    obtain ⟨hb, hv, s, pos, hA⟩ := hr
    obtain ⟨ar', hA', hle⟩ := h.τ κ _ hA
    cases ar' with
    | si s' p' => exact ⟨hb, hv.trans hle, s', p', hA'⟩
    | co => exact hle.elim
    | mu => exact hle.elim
    | mp => exact hle.elim
    | mpi => exact hle.elim
theorem CsRep.mono {g g' : Gh} {A A' : AMap} (h : Mono g A g' A') {cs : List CV} {vs : List Value} (hr : CsRep g A cs vs) : CsRep g' A' cs vs :=
  ⟨hr.1, fun k c hk => let ⟨v, e, r⟩ := hr.2 k c hk; ⟨v, e, CRep.mono h r⟩⟩
theorem TRep.mono {g g' : Gh} {A A' : AMap} (h : Mono g A g' A') {c : TV} {v : Value} (hr : TRep g A c v) : TRep g' A' c v := by
  cases c with
  | c x => exact CRep.mono h hr
  | agg cs => obtain ⟨arr, e, r⟩ := hr; exact ⟨arr, e, r.mono h⟩
theorem PRep.mono {g g' : Gh} {A A' : AMap} (h : Mono g A g' A') {c : PV} {v : Value} (hr : PRep g A c v) : PRep g' A' c v := by
  cases c with
  | c x => exact CRep.mono h hr
  | agg cs => obtain ⟨arr, e, r⟩ := hr; exact ⟨arr, e, r.mono h⟩
  | tup xs => obtain ⟨arr, e, hs, r⟩ := hr; exact ⟨arr, e, hs, fun k x hk => let ⟨u, hu, t⟩ := r k x hk; ⟨u, hu, TRep.mono h t⟩⟩
def Unfz (n : Nat) (fz : Nat × Nat) : Prop := ∀ o, o < n → ¬ (fz.1 ≤ o ∧ o < fz.2)
def Szd (n : Nat) (els : List (List D)) : Prop := ∀ e ∈ els, e.length = n
def kvs (es : Array MapEntry) : List (Value × Value) := es.toList.map fun e => (e.key, e.val)
def keyTag : Value → Option (Option IntKind)
  | .string _ => some none
  | .int k _ => some (some k)
  | _ => none
structure MapOK (es : Array MapEntry) (clock : Nat) (m : List (Value × Value)) : Prop where
  perm : (kvs es).Perm m
  nodup : (m.map Prod.fst).Nodup
  tag : ∀ p ∈ m, ∀ q ∈ m, keyTag p.1 = keyTag q.1
  key : ∀ p ∈ m, keyTag p.1 ≠ none
  cell : ∀ p ∈ m, p.2.oneCell' = true
  born : ∀ e ∈ es.toList, e.born < clock
  uniq : (es.toList.map (·.born)).Nodup
theorem MapOK.of_perm {es : Array MapEntry} {clock : Nat} {m m' : List (Value × Value)} (h : MapOK es clock m) (hp : m.Perm m') : MapOK es clock m' :=
  ⟨h.perm.trans hp, ((hp.map Prod.fst).nodup_iff).1 h.nodup, fun p hp1 q hq => h.tag p (hp.mem_iff.2 hp1) q (hp.mem_iff.2 hq), fun p hp1 => h.key p (hp.mem_iff.2 hp1), fun p hp1 => h.cell p (hp.mem_iff.2 hp1), h.born, h.uniq⟩
structure IterOK (es : Array MapEntry) (seen : Array Nat) (cur : Option (Value × Value)) (left : List (Value × Value)) : Prop where
  left : (kvs (leftOf es seen)).Perm left
  cur : ∀ p, cur = some p → ∃ e ∈ es.toList, seen.back? = some e.born ∧ (e.key, e.val) = p
def TokRep (g : Gh) (w : World) (κ : Tok) : Arr → Prop
  | .co sz n => ∃ a cap, g.τ κ = .slice a n cap ∧ n ≤ cap ∧
      (cap = n ∨ ∃ b, a = some ⟨b, 0, none⟩ ∧ g.O b = some (.tok κ) ∧ (∀ j, n * sz ≤ j → g.C b j = none) ∧ ∃ vs e fz, w.heap[b]? = some (.cells vs e fz) ∧ Unfz vs.size fz ∧ cap * sz ≤ vs.size)
  | .mu sz els => Szd sz els ∧ ∃ a cap, g.τ κ = .slice a els.length cap ∧ els.length ≤ cap ∧
      (cap = 0 ∨ ∃ b, a = some ⟨b, 0, none⟩ ∧ g.O b = some (.tok κ) ∧ (∀ j, g.C b j = none) ∧ ∃ vs e fz, w.heap[b]? = some (.cells vs e fz) ∧ Unfz vs.size fz ∧ cap * sz ≤ vs.size ∧
      ∀ i k e' x, els[i]? = some e' → e'[k]? = some x → ∃ u, vs[i * sz + k]? = some u ∧ DRep g.C x u)
  | .mp m => ∃ b es clock, g.τ κ = .map (some b) ∧ g.O b = some (.tok κ) ∧ (∀ j, g.C b j = none) ∧ w.heap[b]? = some (.map es clock) ∧ MapOK es clock m
  | .mpi m cur left bi => ∃ b es clock, g.τ κ = .map (some b) ∧ g.O b = some (.tok κ) ∧ (∀ j, g.C b j = none) ∧ w.heap[b]? = some (.map es clock) ∧ MapOK es clock m ∧
      ∃ seen, g.O bi = some (.tok κ) ∧ (∀ j, g.C bi j = none) ∧ w.heap[bi]? = some (.mapIter (some b) clock seen clock) ∧ IterOK es seen cur left
  | .si s pos => ∃ b, g.τ κ = .pointer (some ⟨b, 0, none⟩) ∧ g.O b = some (.tok κ) ∧ (∀ j, g.C b j = none) ∧ w.heap[b]? = some (.stringIter s pos)
structure MRel (g : Gh) (H : HMap) (A : AMap) (w : World) : Prop where
  com : ∀ b o v, g.C b o = some v → w.cell? ⟨b, o, none⟩ = some v
  var : ∀ id b, g.β id = some b → g.O b = some (.var id) ∧ (∀ o, g.C b o = none) ∧ ∃ cs vs e fz, H id = some cs ∧ w.heap[b]? = some (.cells vs e fz) ∧ Unfz vs.size fz ∧ CsRep g A cs vs.toList
  tok : ∀ κ ar, A κ = some ar → TokRep g w κ ar
  own : ∀ b o, g.O b = some o → b < w.heap.size
structure Evol (g : Gh) (A : AMap) (w : World) (g' : Gh) (A' : AMap) (w' : World) : Prop where
  mono : Mono g A g' A'
  frame : ∀ b, b < w.heap.size → g.O b = none → w'.heap[b]? = w.heap[b]?
  own : ∀ b, b < w.heap.size → g.O b = none → g'.O b = none
  old : ∀ b, b < w.heap.size → g.O b = none → ∀ o, g'.C b o = g.C b o
  size : w.heap.size ≤ w'.heap.size
  os : w'.os = w.os
  tape : w'.tape = w.tape
  output : w'.output = w.output
theorem Evol.refl (g : Gh) (A : AMap) (w : World) : Evol g A w g A w := ⟨.refl _ _, fun _ _ _ => rfl, fun _ _ h => h, fun _ _ _ _ => rfl, Nat.le_refl _, rfl, rfl, rfl⟩
theorem Evol.trans {g1 g2 g3 : Gh} {A1 A2 A3 : AMap} {w1 w2 w3 : World} (h : Evol g1 A1 w1 g2 A2 w2) (k : Evol g2 A2 w2 g3 A3 w3) : Evol g1 A1 w1 g3 A3 w3 :=
  ⟨h.mono.trans k.mono, fun b hb ho => (k.frame b (Nat.lt_of_lt_of_le hb h.size) (h.own b hb ho)).trans (h.frame b hb ho),
    fun b hb ho => k.own b (Nat.lt_of_lt_of_le hb h.size) (h.own b hb ho),
    fun b hb ho o => (k.old b (Nat.lt_of_lt_of_le hb h.size) (h.own b hb ho) o).trans (h.old b hb ho o), Nat.le_trans h.size k.size, k.os.trans h.os, k.tape.trans h.tape, k.output.trans h.output⟩
theorem Evol.same {g : Gh} {A : AMap} {w w' : World} (hh : w'.heap = w.heap) (h1 : w'.os = w.os) (h2 : w'.tape = w.tape) (h3 : w'.output = w.output) : Evol g A w g A w' :=
  ⟨.refl _ _, fun _ _ _ => by rw [hh], fun _ _ h => h, fun _ _ _ _ => rfl, by rw [hh]; exact Nat.le_refl _, h1, h2, h3⟩
theorem MRel.same {g : Gh} {H : HMap} {A : AMap} {w w' : World} (h : MRel g H A w) (hh : w'.heap = w.heap) : MRel g H A w' := by
  refine ⟨fun b o v e => ?_, fun id b e => ?_, fun κ ar e => ?_, fun b o e => by rw [hh]; exact h.own b o e⟩
  · have := h.com b o v e
    simpa [World.cell?, hh] using this
  · rw [hh]; exact h.var id b e
  · have := h.tok κ ar e
    cases ar <;> simpa [TokRep, hh] using this
theorem cell_heap {w : World} {b o : Nat} {v : Value} (h : w.cell? ⟨b, o, none⟩ = some v) : ∃ vs e fz, w.heap[b]? = some (.cells vs e fz) ∧ vs[o]? = some v := by
  unfold World.cell? at h
  split at h
  · rename_i c e fz hb
    exact ⟨c, e, fz, hb, by simpa using h⟩
  · cases h
theorem cell_of_heap {w : World} {b o : Nat} {v : Value} {vs : Array Value} {e : TypeId} {fz : Nat × Nat} (h : w.heap[b]? = some (.cells vs e fz)) (hv : vs[o]? = some v) : w.cell? ⟨b, o, none⟩ = some v := by
  simp [World.cell?, h, hv]
theorem heap_lt {w : World} {b : Nat} {x : Obj} (h : w.heap[b]? = some x) : b < w.heap.size := (Array.getElem?_eq_some_iff.1 h).1
theorem C_lt {g : Gh} {H : HMap} {A : AMap} {w : World} (h : MRel g H A w) {b o : Nat} {v : Value} (e : g.C b o = some v) : b < w.heap.size := by
  obtain ⟨vs, e, fz, hb, _⟩ := cell_heap (h.com b o v e)
  exact heap_lt hb
end Go.PW
