import Derived.Test.YtcdiifnnnnnceaaQ11
import Derived.Carry
import Derived.ProofKit
import Derived.WalkKit
import Derived.OpenShut
import Derived.Test.YtcdiifnnnnnceaaProg
import Derived.KernelRfl

/-
  The abstract machine: from what a call's arguments read as to data; from a contract to a law's statement. No program is named here.
-/





namespace Go.PW
variable {P : Program} {w : World}

def memC (w : World) : Nat → Nat → Option Value := fun b o => w.cell? ⟨b, o, none⟩

/-- Cells that hold data. -/
def Cs (C : Nat → Nat → Option Value) (cs : List Value) (ds : List D) : Prop := cs.length = ds.length ∧ ∀ (k : Nat) (d : D), ds[k]? = some d → ∃ v, cs[k]? = some v ∧ DRep C d v

/-- Whatever reads as a value of that type is such data. -/
def Reads (P : Program) (w : World) (t : TypeId) {α : Type} (ok : α → Prop) (enc : α → List D) : Prop :=
  ∀ (H : Type) (e : TypeId × Value → H) (fuel : Nat) (cs : List Value) (x : DataW H × List MemPlace), DataW.trod e P w 0 (fun _ => true) true fuel t cs = some x → ∃ a, ok a ∧ Cs (memC w) cs (enc a)

theorem Cs_one {C : Nat → Nat → Option Value} {v : Value} {d : D} (h : DRep C d v) : Cs C [v] [d] := by
  refine ⟨rfl, fun k x hk => ?_⟩
  cases k with
  | zero => simp at hk; subst hk; exact ⟨v, rfl, h⟩
  | succ k => simp at hk
theorem Cs_app {C : Nat → Nat → Option Value} {cs cs' : List Value} {ds ds' : List D} (h : Cs C cs ds) (h' : Cs C cs' ds') : Cs C (cs ++ cs') (ds ++ ds') := by
  refine ⟨by rw [List.length_append, List.length_append, h.1, h'.1], fun k d hk => ?_⟩
  rcases Nat.lt_or_ge k ds.length with hl | hl
  · rw [List.getElem?_append_left hl] at hk
    rw [List.getElem?_append_left (by rw [h.1]; exact hl)]
    exact h.2 k d hk
  · rw [List.getElem?_append_right hl] at hk
    rw [List.getElem?_append_right (by rw [h.1]; exact hl), h.1]
    exact h'.2 _ d hk

theorem reads_map {t : TypeId} {α β : Type} {ok : α → Prop} {ok' : β → Prop} {enc : α → List D} {enc' : β → List D} (h : Reads P w t ok enc) (f : α → β) (hf : ∀ a, ok a → ok' (f a) ∧ enc a = enc' (f a)) : Reads P w t ok' enc' := by
  intro H e fuel cs x hx
  obtain ⟨a, h1, h2⟩ := h H e fuel cs x hx
  exact ⟨f a, (hf a h1).1, by rw [← (hf a h1).2]; exact h2⟩

theorem reads_int {t : TypeId} {k : IntKind} (ht : P.underlying t = some (.int k)) : Reads P w t (fun n : Int => (Lit.int k n).wf = true) (fun n => [.lit (.int k n)]) := by
  intro H e fuel cs x hx
  obtain ⟨n, rfl, _, hn⟩ := DataW.trod_int ht hx
  exact ⟨n, hn, Cs_one (.lit _ rfl)⟩
theorem reads_bool {t : TypeId} (ht : P.underlying t = some .bool) : Reads P w t (fun _ : Bool => True) (fun b => [.lit (.bool b)]) := by
  intro H e fuel cs x hx
  obtain ⟨n, rfl, _⟩ := DataW.trod_bool ht hx
  exact ⟨n, True.intro, Cs_one (.lit _ rfl)⟩
theorem reads_string {t : TypeId} (ht : P.underlying t = some .string) : Reads P w t (fun s : ByteArray => s.size ≤ maxLen) (fun s => [.lit (.string s)]) := by
  intro H e fuel cs x hx
  obtain ⟨n, rfl, _, hn⟩ := DataW.trod_string ht hx
  exact ⟨n, hn, Cs_one (.lit _ rfl)⟩

theorem pick_list {α : Type} {n : Nat} {Q : Nat → α → Prop} (h : ∀ i, i < n → ∃ a, Q i a) : ∃ l : List α, l.length = n ∧ ∀ i a, l[i]? = some a → Q i a := by
  induction n with
  | zero => exact ⟨[], rfl, fun i a hi => by simp at hi⟩
  | succ n ih =>
    obtain ⟨l, hl, hq⟩ := ih (fun i hi => h i (by omega))
    obtain ⟨a, ha⟩ := h n (by omega)
    refine ⟨l ++ [a], by simp [hl], fun i x hi => ?_⟩
    rcases Nat.lt_or_ge i l.length with hlt | hge
    · rw [List.getElem?_append_left hlt] at hi
      exact hq i x hi
    · rw [List.getElem?_append_right hge] at hi
      have : i = l.length := by
        rcases Nat.eq_zero_or_pos (i - l.length) with h0 | h0
        · omega
        · rw [List.getElem?_eq_none (by simp; omega)] at hi; cases hi
      subst this
      simp at hi
      subst hi
      rw [hl]
      exact ha

theorem addr_add {a : Addr} {n : Nat} (h : (a.add n).spot = none) (h0 : n = 0 → a.spot = none) : a.add n = ⟨a.block, a.off + n, none⟩ := by
  unfold Addr.add at h ⊢
  split
  · rename_i e; subst e; cases a; simp_all
  · rfl

theorem reads_slice {t e : TypeId} {α : Type} {ok : α → Prop} {enc : α → List D} {sz : Nat} (ht : P.underlying t = some (.slice e)) (hc : P.cellsOf e = sz) (hpos : 0 < sz) (hl : ∀ a, (enc a).length = sz) (h : Reads P w e ok enc) :
    Reads P w t (fun l : List α => ∀ a ∈ l, ok a) (fun l => [.sl (l.map enc)]) := by
  intro H en fuel cs x hx
  rcases DataW.trod_slice ht hx with ⟨rfl, _⟩ | ⟨a, len, cap, elems, rest, n, _, rfl, _, _, hcap, _, hlen, hel, hsp, _⟩
  · exact ⟨[], fun _ h => (by cases h), Cs_one (.nil none)⟩
  · rw [hc] at hel hsp
    have at_ : ∀ i, i < cap → ∃ cs' y, w.cells? 0 (a.add (i * sz)) sz = some cs' ∧ DataW.trod en P w 0 (fun _ => true) true n e cs' = some y := by
      intro i hi
      have hb : ∃ y, (w.cells? 0 (a.add (i * sz)) sz).bind (DataW.trod en P w 0 (fun _ => true) true n e) = some y := by
        rcases Nat.lt_or_ge i len with hlt | hge
        · exact ⟨elems[i], (hel i hlt).trans (List.getElem?_eq_getElem (by omega))⟩
        · obtain ⟨h1, h2⟩ := hsp rfl
          have := h2 (i - len) (by omega)
          rw [show len + (i - len) = i by omega] at this
          exact ⟨rest[i - len]'(by omega), this.trans (List.getElem?_eq_getElem _)⟩
      obtain ⟨y, hy⟩ := hb
      obtain ⟨cs', h1, h2⟩ := Option.bind_eq_some_iff.1 hy
      exact ⟨cs', y, h1, h2⟩
    rcases Nat.eq_zero_or_pos cap with h0 | h0
    · subst h0
      obtain rfl : len = 0 := by omega
      exact ⟨[], fun _ h => (by cases h), Cs_one (.nil _)⟩
    · have hspot : a.spot = none := by
        obtain ⟨cs', y, h1, _⟩ := at_ 0 h0
        obtain ⟨_, hcl, hcc⟩ := World.cells?_some h1
        have h2 := hcc 0 hpos
        rw [List.getElem?_eq_getElem (by omega)] at h2
        have := World.cell?_spot h2
        simpa [Addr.add] using this
      obtain ⟨b, o, s⟩ := a
      simp only at hspot
      subst hspot
      have hadd : ∀ o m, (⟨b, o, none⟩ : Addr).add m = ⟨b, o + m, none⟩ := fun o m => by
        unfold Addr.add
        split
        · rename_i e; subst e; rfl
        · rfl
      obtain ⟨l, hll, hq⟩ := pick_list (n := len) (Q := fun i x => ok x ∧ ∃ cs', w.cells? 0 ((⟨b, o, none⟩ : Addr).add (i * sz)) sz = some cs' ∧ Cs (memC w) cs' (enc x)) (fun i hi => by
        obtain ⟨cs', y, h1, h2⟩ := at_ i (by omega)
        obtain ⟨x, h3, h4⟩ := h H en n cs' y h2
        exact ⟨x, h3, cs', h1, h4⟩)
      have key : ∀ i k x d, l[i]? = some x → (enc x)[k]? = some d → ∃ v, memC w b (o + i * sz + k) = some v ∧ DRep (memC w) d v := by
        intro i k x d hi hk
        obtain ⟨_, cs', h1, h2⟩ := hq i x hi
        obtain ⟨v, h3, h4⟩ := h2.2 k d hk
        obtain ⟨_, hcl, hcc⟩ := World.cells?_some h1
        have hklt : k < sz := by rw [← hl x]; exact (List.getElem?_eq_some_iff.1 hk).1
        have h5 := hcc k hklt
        rw [hadd, hadd, h3] at h5
        exact ⟨v, h5, h4⟩
      refine ⟨l, fun x hx => ?_, Cs_one (.sl _ b o cap sz len (fun i k => (memC w b (o + i * sz + k)).getD undef) (by rw [List.length_map, hll]) hcap (fun e' he => ?_) (fun i k hi hk => ?_) (fun i k e' d he hd => ?_))⟩
      · obtain ⟨i, hi, rfl⟩ := List.getElem_of_mem hx
        exact (hq i _ (List.getElem?_eq_getElem hi)).1
      · obtain ⟨x, _, rfl⟩ := List.mem_map.1 he
        exact hl x
      · have hil : i < l.length := by omega
        obtain ⟨v, hv, _⟩ := key i k l[i] ((enc l[i])[k]'(by rw [hl]; exact hk)) (List.getElem?_eq_getElem hil) (List.getElem?_eq_getElem _)
        rw [hv]
        rfl
      · rw [List.getElem?_map, Option.map_eq_some_iff] at he
        obtain ⟨x, hx, rfl⟩ := he
        obtain ⟨v, hv, hr⟩ := key i k x d hx hd
        rw [hv]
        exact hr

/-- A struct's fields, from one place on. -/
def ReadsF (P : Program) (w : World) (fs : List Field) (off : Nat) {α : Type} (ok : α → Prop) (enc : α → List D) : Prop :=
  ∀ (H : Type) (e : TypeId × Value → H) (n : Nat) (cs : List Value), (∀ f ∈ fs, ∃ y, DataW.trod e P w 0 (fun _ => true) true n f.type ((cs.drop f.offset).take (P.cellsOf f.type)) = some y) →
    ∃ a, ok a ∧ Cs (memC w) ((cs.drop off).take (fs.map fun f => P.cellsOf f.type).sum) (enc a)

theorem readsF_nil {off : Nat} : ReadsF P w [] off (fun _ : Unit => True) (fun _ => []) := fun _ _ _ _ _ => ⟨(), True.intro, by simp [Cs]⟩
theorem readsF_cons {f : Field} {fs : List Field} {off sz : Nat} {α β : Type} {ok : α → Prop} {enc : α → List D} {ok' : β → Prop} {enc' : β → List D} (ho : f.offset = off) (hc : P.cellsOf f.type = sz) (h : Reads P w f.type ok enc) (h' : ReadsF P w fs (off + sz) ok' enc') :
    ReadsF P w (f :: fs) off (fun p : α × β => ok p.1 ∧ ok' p.2) (fun p => enc p.1 ++ enc' p.2) := by
  intro H e n cs hcs
  obtain ⟨y, hy⟩ := hcs f (List.mem_cons_self ..)
  obtain ⟨a, h1, h2⟩ := h H e n _ y hy
  obtain ⟨b, h3, h4⟩ := h' H e n cs (fun g hg => hcs g (List.mem_cons_of_mem _ hg))
  refine ⟨(a, b), ⟨h1, h3⟩, ?_⟩
  have := Cs_app h2 h4
  rw [ho, hc] at this
  rw [List.map_cons, List.sum_cons, hc, List.take_add, List.drop_drop]
  exact this
theorem reads_struct {t : TypeId} {fs : Array Field} {fl : List Field} {α : Type} {ok : α → Prop} {enc : α → List D} (ht : P.underlying t = some (.struct fs)) (hfl : fs.toList = fl) (hs : (fl.map fun f => P.cellsOf f.type).sum = P.cellsOf t) (h : ReadsF P w fl 0 ok enc) : Reads P w t ok enc := by
  intro H e fuel cs x hx
  obtain ⟨xs, n, _, _, hlen, hxs, hf⟩ := DataW.trod_struct ht hx
  obtain ⟨a, h1, h2⟩ := h H e n cs (fun f hfm => by
    rw [← hfl] at hfm
    obtain ⟨i, hi, rfl⟩ := List.getElem_of_mem hfm
    have hi' : i < fs.size := by simpa using hi
    have := hf i fs[i] (Array.getElem?_eq_getElem hi')
    rw [List.getElem?_eq_getElem (by omega)] at this
    exact ⟨_, by simpa using this⟩)
  refine ⟨a, h1, ?_⟩
  rw [hs, List.drop_zero, ← hlen, List.take_length] at h2
  exact h2

/-! Arguments. -/
/-- What a value of that type is, as an argument. -/
def Arg (P : Program) (W : World) (t : TypeId) (v : Value) : Prop := Value.okWide P W .any W.heap.size t v ∨ ∃ base, Value.okWide P W .any base t v

theorem arg_slice {t e : TypeId} {W : World} {base : Nat} {v : Value} {α : Type} {ok : α → Prop} {enc : α → D} (ht : P.underlying t = some (.slice e)) (hv : Value.okWide P W .any base t v) (hr : Reads P W t ok (fun a => [enc a]))
    {H : Type} {en : TypeId × Value → H} {d : DataW H} {p : List MemPlace} (h : DataW.Trod en P W 0 (fun _ => true) true t v d p) : ∃ a, ok a ∧ PRep (gOnly (memC W)) noA (.c (.d (enc a))) v := by
  obtain ⟨fuel, h⟩ := h
  obtain ⟨a, h1, _, h2⟩ := hr H en fuel _ _ h
  obtain ⟨u, hu, hd⟩ := h2 0 (enc a) rfl
  refine ⟨a, h1, ?_⟩
  have hvu : v.cells.toList = [v] := by
    unfold Value.okWide at hv
    rw [ht] at hv
    simp only [Cell.okWide, ht, Cell.ok] at hv
    cases v <;> first | rfl | (exact hv.elim)
  rw [hvu] at hu
  simp at hu
  subst hu
  exact hd

theorem arg_lit {t : TypeId} {W : World} {base : Nat} {v : Value} {α : Type} {ok : α → Prop} {enc : α → D} (ht : P.underlying t = some .bool ∨ P.underlying t = some .string ∨ ∃ k, P.underlying t = some (.int k)) (hv : Value.okWide P W .any base t v) (hr : Reads P W t ok (fun a => [enc a]))
    {H : Type} {en : TypeId × Value → H} {d : DataW H} {p : List MemPlace} (h : DataW.Trod en P W 0 (fun _ => true) true t v d p) : ∃ a, ok a ∧ PRep (gOnly (memC W)) noA (.c (.d (enc a))) v := by
  obtain ⟨fuel, h⟩ := h
  obtain ⟨a, h1, _, h2⟩ := hr H en fuel _ _ h
  obtain ⟨u, hu, hd⟩ := h2 0 (enc a) rfl
  refine ⟨a, h1, ?_⟩
  have hvu : v.cells.toList = [v] := by
    unfold Value.okWide at hv
    rcases ht with ht | ht | ⟨k, ht⟩ <;>
    · rw [ht] at hv
      simp only [Cell.okWide, ht, Cell.ok] at hv
      cases v <;> first | rfl | (exact hv.elim)
  rw [hvu] at hu
  simp at hu
  subst hu
  exact hd

theorem arg_struct {t : TypeId} {fs : Array Field} {W : World} {base : Nat} {v : Value} {α : Type} {ok : α → Prop} {enc : α → List D} (ht : P.underlying t = some (.struct fs)) (hv : Value.okWide P W .any base t v) (hr : Reads P W t ok enc)
    {H : Type} {en : TypeId × Value → H} {d : DataW H} {p : List MemPlace} (h : DataW.Trod en P W 0 (fun _ => true) true t v d p) : ∃ a, ok a ∧ PRep (gOnly (memC W)) noA (.agg ((enc a).map .d)) v := by
  obtain ⟨fuel, h⟩ := h
  obtain ⟨a, h1, h2⟩ := hr H en fuel _ _ h
  refine ⟨a, h1, ?_⟩
  unfold Value.okWide at hv
  rw [ht] at hv
  obtain ⟨cs, rfl, _, _⟩ := hv
  have hcs : (Value.agg cs).cells = cs := rfl
  rw [hcs] at h2
  refine ⟨cs, rfl, by rw [h2.1, List.length_map], fun k c hk => ?_⟩
  rw [List.getElem?_map, Option.map_eq_some_iff] at hk
  obtain ⟨x, hx, rfl⟩ := hk
  exact h2.2 k x hx

theorem trodAll_get {H : Type} {en : TypeId × Value → H} {W : World} : ∀ {ts : List TypeId} {vs : List Value} {ds : List (DataW H)} {ps : List MemPlace}, DataW.TrodAll en P W 0 (fun _ => true) true ts vs ds ps →
    vs.length = ts.length ∧ ds.length = ts.length ∧ ∀ (j : Nat) (t : TypeId), ts[j]? = some t → ∃ v d p, vs[j]? = some v ∧ DataW.Trod en P W 0 (fun _ => true) true t v d p
  | [], [], [], _, _ => ⟨rfl, rfl, fun j t h => by simp at h⟩
  | t :: ts, v :: vs, d :: ds, ps, h => by
    obtain ⟨p, q, h1, h2, _⟩ := h
    obtain ⟨k1, k2, k3⟩ := trodAll_get h2
    refine ⟨by simp [k1], by simp [k2], fun j t' hj => ?_⟩
    cases j with
    | zero => simp at hj; subst hj; exact ⟨v, d, p, rfl, h1⟩
    | succ j => exact k3 j t' (by simpa using hj)
  | [], [], _ :: _, _, h => h.elim
  | [], _ :: _, _, _, h => h.elim
  | _ :: _, [], _, _, h => h.elim
  | _ :: _, _ :: _, [], _, h => h.elim

theorem trodAll_stays {H : Type} {en : TypeId × Value → H} {W W' : World} {sp : Nat → Bool} (hl : laidOutB P = true) : ∀ {ts : List TypeId} {vs : List Value} {ds : List (DataW H)} {ps : List MemPlace}, (∀ t ∈ ts, P.readableRec t = true ∧ t < P.types.size) →
    DataW.TrodAll en P W 0 (fun _ => true) true ts vs ds ps → (∀ p ∈ ps, W.sameAt W' p) → (∀ p ∈ ps, sp p.block = true) → DataW.TrodAll en P W' 0 sp true ts vs ds ps
  | [], [], [], _, _, h, _, _ => h
  | t :: ts, v :: vs, d :: ds, ps, hr, h, h1, h2 => by
    obtain ⟨p, q, k1, k2, rfl⟩ := h
    exact ⟨p, q, WideElems.Trod_stays hl (hr t (List.mem_cons_self ..)).1 (hr t (List.mem_cons_self ..)).2 k1 (fun x hx => h1 x (List.mem_append_left _ hx)) (fun x hx => h2 x (List.mem_append_left _ hx)),
      trodAll_stays hl (fun t ht => hr t (List.mem_cons_of_mem _ ht)) k2 (fun x hx => h1 x (List.mem_append_right _ hx)) (fun x hx => h2 x (List.mem_append_right _ hx)), rfl⟩
  | [], [], _ :: _, _, _, h, _, _ => h.elim
  | [], _ :: _, _, _, _, h, _, _ => h.elim
  | _ :: _, [], _, _, _, h, _, _ => h.elim
  | _ :: _, _ :: _, [], _, _, h, _, _ => h.elim

/-- A law that returned true, and turned nothing that was there. -/
theorem post_law {f : Func} {s : ChangeSpec} {apart fresh handsOn again : Bool} {H : Type} {en : TypeId × Value → H} {W W' : World} {args : Array Value} {ds gs : List (DataW H)} {before : List MemPlace} {tb : TypeId}
    (hW : DataW.Whole en P f.params.toList s.vars apart W args.toList ds gs before) (hv : s.vars = []) (hl : laidOutB P = true) (hr : ∀ t ∈ f.params.toList, P.readableRec t = true ∧ t < P.types.size)
    (hs : s.fn H ds = { results := [.lit (.bool true)], args := ds }) (hrt : f.resultTypes = #[tb]) (htb : P.underlying tb = some .bool) (hb : RowKit.Below W.heap.size W W') : s.post en P f apart fresh handsOn again W args (.bool true) W' := by
  have hWk := hW
  obtain ⟨p, q, hA, hV, rfl, hfz, hnd⟩ := hW
  rw [hv] at hV
  obtain ⟨rfl, rfl⟩ := ChangeShapes.trodVars_none hV
  have hlt : ∀ x ∈ p, x.block < W.heap.size := fun x hx => hWk.lt x (List.mem_append_left _ hx)
  have hargs : ∀ sp : Nat → Bool, (∀ x ∈ p, sp x.block = true) → DataW.TrodAll en P W' 0 sp true f.params.toList args.toList (s.fn H (ds ++ [])).args p := fun sp hsp => by
    rw [List.append_nil, hs]
    exact trodAll_stays hl hr hA (fun x hx => hb.same (hlt x hx)) hsp
  have hres : ∀ (b : Nat) (sp : Nat → Bool) (hd : Bool), DataW.TrodAll en P W' b sp hd f.resultTypes.toList ((Value.bool true).resultList f.resultTypes.size) (s.fn H (ds ++ [])).results [] := fun b sp hd => by
    rw [List.append_nil, hs, hrt]
    exact ChangeShapes.trodAll_mk1 (RowKit.shut_bool htb true)
  have hvars : ∀ sp : Nat → Bool, DataW.TrodVars en P W' sp s.vars (s.fn H (ds ++ [])).vars [] := fun sp => by
    rw [List.append_nil, hs, hv]
    exact rfl
  refine ⟨ds, [], p ++ [], [], p, [], hWk, hres _ _ _, hargs _ (fun x hx => by simpa using hlt x hx), hvars _, hb.frame _, fun _ => ⟨RowKit.ok_one hrt rfl (RowKit.okWide_bool_mk htb true), _, _, _, ⟨([] : List MemPlace) ++ p, [], ChangeShapes.trodAll_append (hargs _ (fun _ _ => rfl)) (hres _ _ _), hvars _, rfl, ?_, ?_⟩, ?_⟩⟩
  · intro b off hp
    have hp' : MemPlace.cell b off ∈ p := by simpa using hp
    rw [hb.frozen (hlt _ hp')]
    exact hfz b off (List.mem_append_left _ hp')
  · intro ha
    exact hnd ha
  · intro x hx _
    exact hx

/-- From a contract to what a call does. -/
theorem law_calls {f : FuncId} {args : List PV} (h : PureOK P f args (.one (.d (.lit (.bool true))))) (hext : ∀ (a : Array Value) (w : World), (callFunc f a).run P w = .ok (.enter f a) w) {W : World} {vals : Array Value} (hr : ArgsRep (gOnly (memC W)) noA args vals.toList) :
    Calls P f vals W fun e W' => e = .returned (.bool true) ∧ RowKit.Below W.heap.size W W' := by
  rcases h.2 (memC W) W vals (fun b o v e => e) hr with ⟨_, hc⟩ | ⟨v, w', hc, _⟩
  · refine hc.mono fun e W' hq => ?_
    obtain ⟨v, rfl, g', hp, _, he⟩ := hq
    have hv : v = .bool true := DRep.lit_eq hp
    subst hv
    exact ⟨rfl, he.os, he.tape, he.output, he.size, fun k hk => he.frame k hk rfl⟩
  · rw [hext] at hc
    cases hc
end Go.PW

/-
  Closed facts on the types of this translation. Written by a program (gen_types.py).
-/



namespace Go.Proofs
open Go.PW
@[go_sem] theorem Try.cl2 : Try.prog.cellsOf 2 = 1 := by kernel_rfl
@[go_sem] theorem Try.by2 : Try.prog.bytesOf 2 = 8 := by kernel_rfl
attribute [go_sem] Try.underlying2
@[go_sem] theorem Try.ze2 : zeroOf Try.prog 2 = some [CV.d (D.lit (Value.int IntKind.i64 0))] := by kernel_rfl
@[go_sem] theorem Try.zo2 : zeroOK Try.prog 2 = true := by kernel_rfl
@[go_sem] theorem Try.cl3 : Try.prog.cellsOf 3 = 1 := by kernel_rfl
@[go_sem] theorem Try.by3 : Try.prog.bytesOf 3 = 8 := by kernel_rfl
attribute [go_sem] Try.underlying3
@[go_sem] theorem Try.ze3 : zeroOf Try.prog 3 = some [CV.d (D.lit (Value.int IntKind.i64 0))] := by kernel_rfl
@[go_sem] theorem Try.zo3 : zeroOK Try.prog 3 = true := by kernel_rfl
@[go_sem] theorem Try.cl4 : Try.prog.cellsOf 4 = 1 := by kernel_rfl
@[go_sem] theorem Try.by4 : Try.prog.bytesOf 4 = 1 := by kernel_rfl
attribute [go_sem] Try.underlying4
@[go_sem] theorem Try.ze4 : zeroOf Try.prog 4 = some [CV.d (D.lit (Value.bool false))] := by kernel_rfl
@[go_sem] theorem Try.zo4 : zeroOK Try.prog 4 = true := by kernel_rfl
@[go_sem] theorem Try.cl5 : Try.prog.cellsOf 5 = 1 := by kernel_rfl
@[go_sem] theorem Try.by5 : Try.prog.bytesOf 5 = 1 := by kernel_rfl
attribute [go_sem] Try.underlying5
@[go_sem] theorem Try.ze5 : zeroOf Try.prog 5 = some [CV.d (D.lit (Value.int IntKind.u8 0))] := by kernel_rfl
@[go_sem] theorem Try.zo5 : zeroOK Try.prog 5 = true := by kernel_rfl
@[go_sem] theorem Try.cl9 : Try.prog.cellsOf 9 = 1 := by kernel_rfl
@[go_sem] theorem Try.by9 : Try.prog.bytesOf 9 = 16 := by kernel_rfl
attribute [go_sem] Try.underlying9
@[go_sem] theorem Try.ze9 : zeroOf Try.prog 9 = some [CV.d (D.lit (Value.string ⟨#[]⟩))] := by kernel_rfl
@[go_sem] theorem Try.zo9 : zeroOK Try.prog 9 = true := by kernel_rfl
@[go_sem] theorem Try.cl12 : Try.prog.cellsOf 12 = 1 := by kernel_rfl
@[go_sem] theorem Try.by12 : Try.prog.bytesOf 12 = 8 := by kernel_rfl
attribute [go_sem] Try.underlying12
@[go_sem] theorem Try.ze12 : zeroOf Try.prog 12 = some [CV.d (D.lit (Value.int IntKind.u64 0))] := by kernel_rfl
@[go_sem] theorem Try.zo12 : zeroOK Try.prog 12 = true := by kernel_rfl
@[go_sem] theorem Try.cl13 : Try.prog.cellsOf 13 = 2 := by kernel_rfl
@[go_sem] theorem Try.by13 : Try.prog.bytesOf 13 = 24 := by kernel_rfl
attribute [go_sem] Try.underlying13
@[go_sem] theorem Try.ze13 : zeroOf Try.prog 13 = some [CV.d (D.lit (Value.string ⟨#[]⟩)), CV.d (D.lit (Value.int IntKind.u64 0))] := by kernel_rfl
@[go_sem] theorem Try.zo13 : zeroOK Try.prog 13 = true := by kernel_rfl
@[go_sem] theorem Try.pl13 : structPl Try.prog 13 = some [(0, 1), (1, 1)] := by kernel_rfl
attribute [go_sem] Try.stoodInHeld13 Try.eqGuardType13
@[go_sem] theorem Try.cl21 : Try.prog.cellsOf 21 = 1 := by kernel_rfl
@[go_sem] theorem Try.by21 : Try.prog.bytesOf 21 = 4 := by kernel_rfl
attribute [go_sem] Try.underlying21
@[go_sem] theorem Try.ze21 : zeroOf Try.prog 21 = some [CV.d (D.lit (Value.int IntKind.i32 0))] := by kernel_rfl
@[go_sem] theorem Try.zo21 : zeroOK Try.prog 21 = true := by kernel_rfl
@[go_sem] theorem Try.cl22 : Try.prog.cellsOf 22 = 1 := by kernel_rfl
@[go_sem] theorem Try.by22 : Try.prog.bytesOf 22 = 24 := by kernel_rfl
attribute [go_sem] Try.underlying22
@[go_sem] theorem Try.ze22 : zeroOf Try.prog 22 = some [CV.full []] := by kernel_rfl
@[go_sem] theorem Try.zo22 : zeroOK Try.prog 22 = true := by kernel_rfl
@[go_sem] theorem Try.cl25 : Try.prog.cellsOf 25 = 1 := by kernel_rfl
@[go_sem] theorem Try.by25 : Try.prog.bytesOf 25 = 24 := by kernel_rfl
attribute [go_sem] Try.underlying25
@[go_sem] theorem Try.ze25 : zeroOf Try.prog 25 = some [CV.full []] := by kernel_rfl
@[go_sem] theorem Try.zo25 : zeroOK Try.prog 25 = true := by kernel_rfl
@[go_sem] theorem Try.cl29 : Try.prog.cellsOf 29 = 1 := by kernel_rfl
@[go_sem] theorem Try.by29 : Try.prog.bytesOf 29 = 24 := by kernel_rfl
attribute [go_sem] Try.underlying29
@[go_sem] theorem Try.ze29 : zeroOf Try.prog 29 = some [CV.full []] := by kernel_rfl
@[go_sem] theorem Try.zo29 : zeroOK Try.prog 29 = true := by kernel_rfl
@[go_sem] theorem Try.cl31 : Try.prog.cellsOf 31 = 1 := by kernel_rfl
@[go_sem] theorem Try.by31 : Try.prog.bytesOf 31 = 24 := by kernel_rfl
attribute [go_sem] Try.underlying31
@[go_sem] theorem Try.ze31 : zeroOf Try.prog 31 = some [CV.full []] := by kernel_rfl
@[go_sem] theorem Try.zo31 : zeroOK Try.prog 31 = true := by kernel_rfl
@[go_sem] theorem Try.cl42 : Try.prog.cellsOf 42 = 2 := by kernel_rfl
@[go_sem] theorem Try.by42 : Try.prog.bytesOf 42 = 16 := by kernel_rfl
attribute [go_sem] Try.underlying42
@[go_sem] theorem Try.ze42 : zeroOf Try.prog 42 = some [CV.d (D.lit (Value.int IntKind.i64 0)), CV.d (D.lit (Value.int IntKind.i64 0))] := by kernel_rfl
@[go_sem] theorem Try.zo42 : zeroOK Try.prog 42 = true := by kernel_rfl
@[go_sem] theorem Try.pl42 : structPl Try.prog 42 = some [(0, 1), (1, 1)] := by kernel_rfl
attribute [go_sem] Try.stoodInHeld42 Try.eqGuardType42
@[go_sem] theorem Try.cl43 : Try.prog.cellsOf 43 = 2 := by kernel_rfl
@[go_sem] theorem Try.by43 : Try.prog.bytesOf 43 = 16 := by kernel_rfl
attribute [go_sem] Try.underlying43
@[go_sem] theorem Try.ze43 : zeroOf Try.prog 43 = some [CV.d (D.lit (Value.int IntKind.i64 0)), CV.d (D.lit (Value.int IntKind.i64 0))] := by kernel_rfl
@[go_sem] theorem Try.zo43 : zeroOK Try.prog 43 = true := by kernel_rfl
@[go_sem] theorem Try.pl43 : structPl Try.prog 43 = some [(0, 1), (1, 1)] := by kernel_rfl
attribute [go_sem] Try.stoodInHeld43 Try.eqGuardType43
@[go_sem] theorem Try.cl44 : Try.prog.cellsOf 44 = 1 := by kernel_rfl
@[go_sem] theorem Try.by44 : Try.prog.bytesOf 44 = 24 := by kernel_rfl
attribute [go_sem] Try.underlying44
@[go_sem] theorem Try.ze44 : zeroOf Try.prog 44 = some [CV.full []] := by kernel_rfl
@[go_sem] theorem Try.zo44 : zeroOK Try.prog 44 = true := by kernel_rfl
@[go_sem] theorem Try.cl45 : Try.prog.cellsOf 45 = 3 := by kernel_rfl
@[go_sem] theorem Try.by45 : Try.prog.bytesOf 45 = 40 := by kernel_rfl
attribute [go_sem] Try.underlying45
@[go_sem] theorem Try.ze45 : zeroOf Try.prog 45 = some [CV.d (D.lit (Value.int IntKind.i64 0)), CV.d (D.lit (Value.int IntKind.i64 0)), CV.full []] := by kernel_rfl
@[go_sem] theorem Try.zo45 : zeroOK Try.prog 45 = true := by kernel_rfl
@[go_sem] theorem Try.pl45 : structPl Try.prog 45 = some [(0, 2), (2, 1)] := by kernel_rfl
attribute [go_sem] Try.stoodInHeld45 Try.eqGuardType45
@[go_sem] theorem Try.cl46 : Try.prog.cellsOf 46 = 3 := by kernel_rfl
@[go_sem] theorem Try.by46 : Try.prog.bytesOf 46 = 40 := by kernel_rfl
attribute [go_sem] Try.underlying46
@[go_sem] theorem Try.ze46 : zeroOf Try.prog 46 = some [CV.d (D.lit (Value.int IntKind.i64 0)), CV.d (D.lit (Value.int IntKind.i64 0)), CV.full []] := by kernel_rfl
@[go_sem] theorem Try.zo46 : zeroOK Try.prog 46 = true := by kernel_rfl
@[go_sem] theorem Try.pl46 : structPl Try.prog 46 = some [(0, 2), (2, 1)] := by kernel_rfl
attribute [go_sem] Try.stoodInHeld46 Try.eqGuardType46
@[go_sem] theorem Try.cl47 : Try.prog.cellsOf 47 = 1 := by kernel_rfl
@[go_sem] theorem Try.by47 : Try.prog.bytesOf 47 = 8 := by kernel_rfl
attribute [go_sem] Try.underlying47
@[go_sem] theorem Try.ze47 : zeroOf Try.prog 47 = some [CV.d (D.lit (Value.int IntKind.i64 0))] := by kernel_rfl
@[go_sem] theorem Try.zo47 : zeroOK Try.prog 47 = true := by kernel_rfl
@[go_sem] theorem Try.cl53 : Try.prog.cellsOf 53 = 1 := by kernel_rfl
@[go_sem] theorem Try.by53 : Try.prog.bytesOf 53 = 24 := by kernel_rfl
attribute [go_sem] Try.underlying53
@[go_sem] theorem Try.ze53 : zeroOf Try.prog 53 = some [CV.full []] := by kernel_rfl
@[go_sem] theorem Try.zo53 : zeroOK Try.prog 53 = true := by kernel_rfl
@[go_sem] theorem Try.cl55 : Try.prog.cellsOf 55 = 1 := by kernel_rfl
@[go_sem] theorem Try.by55 : Try.prog.bytesOf 55 = 24 := by kernel_rfl
attribute [go_sem] Try.underlying55
@[go_sem] theorem Try.ze55 : zeroOf Try.prog 55 = some [CV.full []] := by kernel_rfl
@[go_sem] theorem Try.zo55 : zeroOK Try.prog 55 = true := by kernel_rfl
@[go_sem] theorem Try.cl60 : Try.prog.cellsOf 60 = 1 := by kernel_rfl
@[go_sem] theorem Try.by60 : Try.prog.bytesOf 60 = 24 := by kernel_rfl
attribute [go_sem] Try.underlying60
@[go_sem] theorem Try.ze60 : zeroOf Try.prog 60 = some [CV.full []] := by kernel_rfl
@[go_sem] theorem Try.zo60 : zeroOK Try.prog 60 = true := by kernel_rfl
@[go_sem] theorem Try.cl64 : Try.prog.cellsOf 64 = 3 := by kernel_rfl
@[go_sem] theorem Try.by64 : Try.prog.bytesOf 64 = 40 := by kernel_rfl
attribute [go_sem] Try.underlying64
@[go_sem] theorem Try.ze64 : zeroOf Try.prog 64 = some [CV.d (D.lit (Value.int IntKind.i64 0)), CV.d (D.lit (Value.int IntKind.i64 0)), CV.full []] := by kernel_rfl
@[go_sem] theorem Try.zo64 : zeroOK Try.prog 64 = true := by kernel_rfl
@[go_sem] theorem Try.pl64 : structPl Try.prog 64 = some [(0, 2), (2, 1)] := by kernel_rfl
attribute [go_sem] Try.stoodInHeld64 Try.eqGuardType64
@[go_sem] theorem Try.cl65 : Try.prog.cellsOf 65 = 3 := by kernel_rfl
@[go_sem] theorem Try.by65 : Try.prog.bytesOf 65 = 40 := by kernel_rfl
attribute [go_sem] Try.underlying65
@[go_sem] theorem Try.ze65 : zeroOf Try.prog 65 = some [CV.d (D.lit (Value.int IntKind.i64 0)), CV.d (D.lit (Value.int IntKind.i64 0)), CV.full []] := by kernel_rfl
@[go_sem] theorem Try.zo65 : zeroOK Try.prog 65 = true := by kernel_rfl
@[go_sem] theorem Try.pl65 : structPl Try.prog 65 = some [(0, 2), (2, 1)] := by kernel_rfl
attribute [go_sem] Try.stoodInHeld65 Try.eqGuardType65
@[go_sem] theorem Try.cl67 : Try.prog.cellsOf 67 = 5 := by kernel_rfl
@[go_sem] theorem Try.by67 : Try.prog.bytesOf 67 = 56 := by kernel_rfl
attribute [go_sem] Try.underlying67
@[go_sem] theorem Try.ze67 : zeroOf Try.prog 67 = some [CV.d (D.lit (Value.int IntKind.i64 0)), CV.d (D.lit (Value.int IntKind.i64 0)), CV.d (D.lit (Value.int IntKind.i64 0)), CV.d (D.lit (Value.int IntKind.i64 0)), CV.full []] := by kernel_rfl
@[go_sem] theorem Try.zo67 : zeroOK Try.prog 67 = true := by kernel_rfl
@[go_sem] theorem Try.pl67 : structPl Try.prog 67 = some [(0, 2), (2, 3)] := by kernel_rfl
attribute [go_sem] Try.stoodInHeld67 Try.eqGuardType67
@[go_sem] theorem Try.cl68 : Try.prog.cellsOf 68 = 5 := by kernel_rfl
@[go_sem] theorem Try.by68 : Try.prog.bytesOf 68 = 56 := by kernel_rfl
attribute [go_sem] Try.underlying68
@[go_sem] theorem Try.ze68 : zeroOf Try.prog 68 = some [CV.d (D.lit (Value.int IntKind.i64 0)), CV.d (D.lit (Value.int IntKind.i64 0)), CV.d (D.lit (Value.int IntKind.i64 0)), CV.d (D.lit (Value.int IntKind.i64 0)), CV.full []] := by kernel_rfl
@[go_sem] theorem Try.zo68 : zeroOK Try.prog 68 = true := by kernel_rfl
@[go_sem] theorem Try.pl68 : structPl Try.prog 68 = some [(0, 2), (2, 3)] := by kernel_rfl
attribute [go_sem] Try.stoodInHeld68 Try.eqGuardType68
@[go_sem] theorem Try.cl73 : Try.prog.cellsOf 73 = 5 := by kernel_rfl
@[go_sem] theorem Try.by73 : Try.prog.bytesOf 73 = 48 := by kernel_rfl
attribute [go_sem] Try.underlying73
@[go_sem] theorem Try.ze73 : zeroOf Try.prog 73 = some [CV.d (D.lit (Value.int IntKind.u8 0)), CV.d (D.lit (Value.bool false)), CV.d (D.lit (Value.int IntKind.i64 0)), CV.d (D.lit (Value.int IntKind.i64 0)), CV.full []] := by kernel_rfl
@[go_sem] theorem Try.zo73 : zeroOK Try.prog 73 = true := by kernel_rfl
@[go_sem] theorem Try.pl73 : structPl Try.prog 73 = some [(0, 1), (1, 1), (2, 2), (4, 1)] := by kernel_rfl
attribute [go_sem] Try.stoodInHeld73 Try.eqGuardType73
@[go_sem] theorem Try.cl74 : Try.prog.cellsOf 74 = 5 := by kernel_rfl
@[go_sem] theorem Try.by74 : Try.prog.bytesOf 74 = 48 := by kernel_rfl
attribute [go_sem] Try.underlying74
@[go_sem] theorem Try.ze74 : zeroOf Try.prog 74 = some [CV.d (D.lit (Value.int IntKind.u8 0)), CV.d (D.lit (Value.bool false)), CV.d (D.lit (Value.int IntKind.i64 0)), CV.d (D.lit (Value.int IntKind.i64 0)), CV.full []] := by kernel_rfl
@[go_sem] theorem Try.zo74 : zeroOK Try.prog 74 = true := by kernel_rfl
@[go_sem] theorem Try.pl74 : structPl Try.prog 74 = some [(0, 1), (1, 1), (2, 2), (4, 1)] := by kernel_rfl
attribute [go_sem] Try.stoodInHeld74 Try.eqGuardType74
@[go_sem] theorem Try.cl78 : Try.prog.cellsOf 78 = 1 := by kernel_rfl
@[go_sem] theorem Try.by78 : Try.prog.bytesOf 78 = 8 := by kernel_rfl
attribute [go_sem] Try.underlying78
@[go_sem] theorem Try.ze78 : zeroOf Try.prog 78 = some [CV.d (D.lit (Value.int IntKind.u64 0))] := by kernel_rfl
@[go_sem] theorem Try.zo78 : zeroOK Try.prog 78 = true := by kernel_rfl
@[go_sem] theorem Try.cl79 : Try.prog.cellsOf 79 = 4 := by kernel_rfl
@[go_sem] theorem Try.by79 : Try.prog.bytesOf 79 = 40 := by kernel_rfl
attribute [go_sem] Try.underlying79
@[go_sem] theorem Try.ze79 : zeroOf Try.prog 79 = some [CV.d (D.lit (Value.int IntKind.i64 0)), CV.d (D.lit (Value.int IntKind.i64 0)), CV.d (D.lit (Value.int IntKind.u64 0)), CV.d (D.lit (Value.string ⟨#[]⟩))] := by kernel_rfl
@[go_sem] theorem Try.zo79 : zeroOK Try.prog 79 = true := by kernel_rfl
@[go_sem] theorem Try.pl79 : structPl Try.prog 79 = some [(0, 1), (1, 1), (2, 1), (3, 1)] := by kernel_rfl
attribute [go_sem] Try.stoodInHeld79 Try.eqGuardType79
@[go_sem] theorem Try.cl80 : Try.prog.cellsOf 80 = 4 := by kernel_rfl
@[go_sem] theorem Try.by80 : Try.prog.bytesOf 80 = 40 := by kernel_rfl
attribute [go_sem] Try.underlying80
@[go_sem] theorem Try.ze80 : zeroOf Try.prog 80 = some [CV.d (D.lit (Value.int IntKind.i64 0)), CV.d (D.lit (Value.int IntKind.i64 0)), CV.d (D.lit (Value.int IntKind.u64 0)), CV.d (D.lit (Value.string ⟨#[]⟩))] := by kernel_rfl
@[go_sem] theorem Try.zo80 : zeroOK Try.prog 80 = true := by kernel_rfl
@[go_sem] theorem Try.pl80 : structPl Try.prog 80 = some [(0, 1), (1, 1), (2, 1), (3, 1)] := by kernel_rfl
attribute [go_sem] Try.stoodInHeld80 Try.eqGuardType80
@[go_sem] theorem Try.cl81 : Try.prog.cellsOf 81 = 3 := by kernel_rfl
@[go_sem] theorem Try.by81 : Try.prog.bytesOf 81 = 40 := by kernel_rfl
attribute [go_sem] Try.underlying81
@[go_sem] theorem Try.ze81 : zeroOf Try.prog 81 = some [CV.d (D.lit (Value.int IntKind.i64 0)), CV.d (D.lit (Value.int IntKind.i64 0)), CV.full []] := by kernel_rfl
@[go_sem] theorem Try.zo81 : zeroOK Try.prog 81 = true := by kernel_rfl
@[go_sem] theorem Try.pl81 : structPl Try.prog 81 = some [(0, 2), (2, 1)] := by kernel_rfl
attribute [go_sem] Try.stoodInHeld81 Try.eqGuardType81
@[go_sem] theorem Try.cl82 : Try.prog.cellsOf 82 = 5 := by kernel_rfl
@[go_sem] theorem Try.by82 : Try.prog.bytesOf 82 = 56 := by kernel_rfl
attribute [go_sem] Try.underlying82
@[go_sem] theorem Try.ze82 : zeroOf Try.prog 82 = some [CV.d (D.lit (Value.int IntKind.i64 0)), CV.d (D.lit (Value.int IntKind.i64 0)), CV.d (D.lit (Value.int IntKind.i64 0)), CV.d (D.lit (Value.int IntKind.i64 0)), CV.full []] := by kernel_rfl
@[go_sem] theorem Try.zo82 : zeroOK Try.prog 82 = true := by kernel_rfl
@[go_sem] theorem Try.pl82 : structPl Try.prog 82 = some [(0, 2), (2, 3)] := by kernel_rfl
attribute [go_sem] Try.stoodInHeld82 Try.eqGuardType82
@[go_sem] theorem Try.cl83 : Try.prog.cellsOf 83 = 5 := by kernel_rfl
@[go_sem] theorem Try.by83 : Try.prog.bytesOf 83 = 56 := by kernel_rfl
attribute [go_sem] Try.underlying83
@[go_sem] theorem Try.ze83 : zeroOf Try.prog 83 = some [CV.d (D.lit (Value.int IntKind.i64 0)), CV.d (D.lit (Value.int IntKind.i64 0)), CV.d (D.lit (Value.int IntKind.i64 0)), CV.d (D.lit (Value.int IntKind.i64 0)), CV.full []] := by kernel_rfl
@[go_sem] theorem Try.zo83 : zeroOK Try.prog 83 = true := by kernel_rfl
@[go_sem] theorem Try.pl83 : structPl Try.prog 83 = some [(0, 2), (2, 3)] := by kernel_rfl
attribute [go_sem] Try.stoodInHeld83 Try.eqGuardType83
@[go_sem] theorem Try.cl101 : Try.prog.cellsOf 101 = 3 := by kernel_rfl
@[go_sem] theorem Try.by101 : Try.prog.bytesOf 101 = 40 := by kernel_rfl
attribute [go_sem] Try.underlying101
@[go_sem] theorem Try.ze101 : zeroOf Try.prog 101 = some [CV.d (D.lit (Value.int IntKind.i64 0)), CV.d (D.lit (Value.int IntKind.i64 0)), CV.full []] := by kernel_rfl
@[go_sem] theorem Try.zo101 : zeroOK Try.prog 101 = true := by kernel_rfl
@[go_sem] theorem Try.pl101 : structPl Try.prog 101 = some [(0, 2), (2, 1)] := by kernel_rfl
attribute [go_sem] Try.stoodInHeld101 Try.eqGuardType101
@[go_sem] theorem Try.cl102 : Try.prog.cellsOf 102 = 3 := by kernel_rfl
@[go_sem] theorem Try.by102 : Try.prog.bytesOf 102 = 40 := by kernel_rfl
attribute [go_sem] Try.underlying102
@[go_sem] theorem Try.ze102 : zeroOf Try.prog 102 = some [CV.d (D.lit (Value.int IntKind.i64 0)), CV.d (D.lit (Value.int IntKind.i64 0)), CV.full []] := by kernel_rfl
@[go_sem] theorem Try.zo102 : zeroOK Try.prog 102 = true := by kernel_rfl
@[go_sem] theorem Try.pl102 : structPl Try.prog 102 = some [(0, 2), (2, 1)] := by kernel_rfl
attribute [go_sem] Try.stoodInHeld102 Try.eqGuardType102
@[go_sem] theorem Try.cl111 : Try.prog.cellsOf 111 = 2 := by kernel_rfl
@[go_sem] theorem Try.by111 : Try.prog.bytesOf 111 = 16 := by kernel_rfl
attribute [go_sem] Try.underlying111
@[go_sem] theorem Try.ze111 : zeroOf Try.prog 111 = some [CV.d (D.lit (Value.int IntKind.i64 0)), CV.d (D.lit (Value.int IntKind.i64 0))] := by kernel_rfl
@[go_sem] theorem Try.zo111 : zeroOK Try.prog 111 = true := by kernel_rfl
@[go_sem] theorem Try.cl112 : Try.prog.cellsOf 112 = 1 := by kernel_rfl
@[go_sem] theorem Try.by112 : Try.prog.bytesOf 112 = 24 := by kernel_rfl
attribute [go_sem] Try.underlying112
@[go_sem] theorem Try.ze112 : zeroOf Try.prog 112 = some [CV.full []] := by kernel_rfl
@[go_sem] theorem Try.zo112 : zeroOK Try.prog 112 = true := by kernel_rfl
@[go_sem] theorem Try.cl117 : Try.prog.cellsOf 117 = 1 := by kernel_rfl
@[go_sem] theorem Try.by117 : Try.prog.bytesOf 117 = 8 := by kernel_rfl
attribute [go_sem] Try.underlying117
@[go_sem] theorem Try.ze117 : zeroOf Try.prog 117 = some [CV.d (D.lit (Value.float FloatKind.f64 0))] := by kernel_rfl
@[go_sem] theorem Try.zo117 : zeroOK Try.prog 117 = true := by kernel_rfl
@[go_sem] theorem Try.cl124 : Try.prog.cellsOf 124 = 0 := by kernel_rfl
@[go_sem] theorem Try.by124 : Try.prog.bytesOf 124 = 0 := by kernel_rfl
attribute [go_sem] Try.underlying124
@[go_sem] theorem Try.ze124 : zeroOf Try.prog 124 = some [] := by kernel_rfl
@[go_sem] theorem Try.zo124 : zeroOK Try.prog 124 = true := by kernel_rfl
@[go_sem] theorem Try.cl125 : Try.prog.cellsOf 125 = 0 := by kernel_rfl
@[go_sem] theorem Try.by125 : Try.prog.bytesOf 125 = 0 := by kernel_rfl
attribute [go_sem] Try.underlying125
@[go_sem] theorem Try.ze125 : zeroOf Try.prog 125 = some [] := by kernel_rfl
@[go_sem] theorem Try.zo125 : zeroOK Try.prog 125 = true := by kernel_rfl
@[go_sem] theorem Try.pl125 : structPl Try.prog 125 = some [(0, 0)] := by kernel_rfl
attribute [go_sem] Try.stoodInHeld125 Try.eqGuardType125
@[go_sem] theorem Try.cl128 : Try.prog.cellsOf 128 = 1 := by kernel_rfl
@[go_sem] theorem Try.by128 : Try.prog.bytesOf 128 = 4 := by kernel_rfl
attribute [go_sem] Try.underlying128
@[go_sem] theorem Try.ze128 : zeroOf Try.prog 128 = some [CV.d (D.lit (Value.int IntKind.u32 0))] := by kernel_rfl
@[go_sem] theorem Try.zo128 : zeroOK Try.prog 128 = true := by kernel_rfl
@[go_sem] theorem Try.cl132 : Try.prog.cellsOf 132 = 1 := by kernel_rfl
@[go_sem] theorem Try.by132 : Try.prog.bytesOf 132 = 8 := by kernel_rfl
attribute [go_sem] Try.underlying132
@[go_sem] theorem Try.ze132 : zeroOf Try.prog 132 = some [CV.d (D.lit (Value.pointer none))] := by kernel_rfl
@[go_sem] theorem Try.zo132 : zeroOK Try.prog 132 = true := by kernel_rfl
@[go_sem] theorem Try.cl137 : Try.prog.cellsOf 137 = 1 := by kernel_rfl
@[go_sem] theorem Try.by137 : Try.prog.bytesOf 137 = 8 := by kernel_rfl
attribute [go_sem] Try.underlying137
@[go_sem] theorem Try.ze137 : zeroOf Try.prog 137 = some [CV.d (D.lit (Value.pointer none))] := by kernel_rfl
@[go_sem] theorem Try.zo137 : zeroOK Try.prog 137 = true := by kernel_rfl
end Go.Proofs
