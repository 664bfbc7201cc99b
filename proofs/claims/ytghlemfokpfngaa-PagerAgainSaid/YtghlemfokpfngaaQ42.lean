/-
  Parts of the proof, laid together: PwY, PwZ.
-/
import Derived.Test.YtghlemfokpfngaaQ14
import Derived.Carry
import Derived.ProofKit
import Derived.WalkKit
import Derived.OpenShut
import Derived.Test.YtghlemfokpfngaaRows
import Derived.Test.YtghlemfokpfngaaQ39

namespace Go.PW
variable {P : Program} {w : World}
def memC (w : World) : Nat → Nat → Option Value := fun b o => w.cell? ⟨b, o, none⟩
def Cs (C : Nat → Nat → Option Value) (cs : List Value) (ds : List D) : Prop := cs.length = ds.length ∧ ∀ (k : Nat) (d : D), ds[k]? = some d → ∃ v, cs[k]? = some v ∧ DRep C d v
def Reads (P : Program) (w : World) (t : TypeId) {α : Type} (ok : α → Prop) (enc : α → List D) : Prop :=
  ∀ (H : Type) (e : TypeId × Value → H) (fuel : Nat) (cs : List Value) (x : DataW H × List MemPlace), DataW.trod e P w 0 (fun _ => true) true fuel t cs = some x → ∃ a, ok a ∧ Cs (memC w) cs (enc a)
theorem Cs_one {C : Nat → Nat → Option Value} {v : Value} {d : D} (h : DRep C d v) : Cs C [v] [d] := by
  refine ⟨rfl, fun k x hk => ?_⟩
  cases k with
  | zero => simp at hk; subst hk; exact ⟨v, rfl, h⟩
  | succ k => simp at hk
theorem Cs_app {C : Nat → Nat → Option Value} {cs cs' : List Value} {ds ds' : List D} (h : Cs C cs ds) (h' : Cs C cs' ds') : Cs C (cs ++ cs') (ds ++ ds') := by
  refine ⟨by rw [List.length_append, List.length_append, h.1, h'.1], fun k d hk => ?_⟩
  rcases Nat.lt_or_ge k ds.length with hl | hl
  · rw [List.getElem?_append_left hl] at hk
    rw [List.getElem?_append_left (by rw [h.1]; exact hl)]
    exact h.2 k d hk
  · rw [List.getElem?_append_right hl] at hk
    rw [List.getElem?_append_right (by rw [h.1]; exact hl), h.1]
    exact h'.2 _ d hk
theorem reads_map {t : TypeId} {α β : Type} {ok : α → Prop} {ok' : β → Prop} {enc : α → List D} {enc' : β → List D} (h : Reads P w t ok enc) (f : α → β) (hf : ∀ a, ok a → ok' (f a) ∧ enc a = enc' (f a)) : Reads P w t ok' enc' := by
  intro H e fuel cs x hx
  obtain ⟨a, h1, h2⟩ := h H e fuel cs x hx
  exact ⟨f a, (hf a h1).1, by rw [← (hf a h1).2]; exact h2⟩
theorem reads_int {t : TypeId} {k : IntKind} (ht : P.underlying t = some (.int k)) : Reads P w t (fun n : Int => (Lit.int k n).wf = true) (fun n => [.lit (.int k n)]) := by
  intro H e fuel cs x hx
  obtain ⟨n, rfl, _, hn⟩ := DataW.trod_int ht hx
  exact ⟨n, hn, Cs_one (.lit _ rfl)⟩
theorem reads_bool {t : TypeId} (ht : P.underlying t = some .bool) : Reads P w t (fun _ : Bool => True) (fun b => [.lit (.bool b)]) := by
  intro H e fuel cs x hx
  obtain ⟨n, rfl, _⟩ := DataW.trod_bool ht hx
  exact ⟨n, True.intro, Cs_one (.lit _ rfl)⟩
theorem reads_string {t : TypeId} (ht : P.underlying t = some .string) : Reads P w t (fun s : ByteArray => s.size ≤ maxLen) (fun s => [.lit (.string s)]) := by
  intro H e fuel cs x hx
  obtain ⟨n, rfl, _, hn⟩ := DataW.trod_string ht hx
  exact ⟨n, hn, Cs_one (.lit _ rfl)⟩
theorem pick_list {α : Type} {n : Nat} {Q : Nat → α → Prop} (h : ∀ i, i < n → ∃ a, Q i a) : ∃ l : List α, l.length = n ∧ ∀ i a, l[i]? = some a → Q i a := by
  induction n with
  | zero => exact ⟨[], rfl, fun i a hi => by simp at hi⟩
  | succ n ih =>
    obtain ⟨l, hl, hq⟩ := ih (fun i hi => h i (by omega))
    obtain ⟨a, ha⟩ := h n (by omega)
    refine ⟨l ++ [a], by simp [hl], fun i x hi => ?_⟩
    rcases Nat.lt_or_ge i l.length with hlt | hge
    · rw [List.getElem?_append_left hlt] at hi
      exact hq i x hi
    · rw [List.getElem?_append_right hge] at hi
      have : i = l.length := by
        rcases Nat.eq_zero_or_pos (i - l.length) with h0 | h0
        · omega
        · rw [List.getElem?_eq_none (by simp; omega)] at hi; cases hi
      subst this
      simp at hi
      subst hi
      rw [hl]
      exact ha
theorem reads_slice {t e : TypeId} {α : Type} {ok : α → Prop} {enc : α → List D} {sz : Nat} (ht : P.underlying t = some (.slice e)) (hc : P.cellsOf e = sz) (hpos : 0 < sz) (hl : ∀ a, (enc a).length = sz) (h : Reads P w e ok enc) :
    Reads P w t (fun l : List α => ∀ a ∈ l, ok a) (fun l => [.sl (l.map enc)]) := by
  intro H en fuel cs x hx
  rcases DataW.trod_slice ht hx with ⟨rfl, _⟩ | ⟨a, len, cap, elems, rest, n, _, rfl, _, _, hcap, _, hlen, hel, hsp, _⟩
  · exact ⟨[], fun _ h => (by cases h), Cs_one (.nil none)⟩
  · rw [hc] at hel hsp
    have at_ : ∀ i, i < cap → ∃ cs' y, w.cells? 0 (a.add (i * sz)) sz = some cs' ∧ DataW.trod en P w 0 (fun _ => true) true n e cs' = some y := by
      intro i hi
      have hb : ∃ y, (w.cells? 0 (a.add (i * sz)) sz).bind (DataW.trod en P w 0 (fun _ => true) true n e) = some y := by
        rcases Nat.lt_or_ge i len with hlt | hge
        · exact ⟨elems[i], (hel i hlt).trans (List.getElem?_eq_getElem (by omega))⟩
        · obtain ⟨h1, h2⟩ := hsp rfl
          have := h2 (i - len) (by omega)
          rw [show len + (i - len) = i by omega] at this
          exact ⟨rest[i - len]'(by omega), this.trans (List.getElem?_eq_getElem _)⟩
      obtain ⟨y, hy⟩ := hb
      obtain ⟨cs', h1, h2⟩ := Option.bind_eq_some_iff.1 hy
      exact ⟨cs', y, h1, h2⟩
    rcases Nat.eq_zero_or_pos cap with h0 | h0
    · subst h0
      obtain rfl : len = 0 := by omega
      exact ⟨[], fun _ h => (by cases h), Cs_one (.nil _)⟩
    · have hspot : a.spot = none := by
        obtain ⟨cs', y, h1, _⟩ := at_ 0 h0
        obtain ⟨_, hcl, hcc⟩ := World.cells?_some h1
        have h2 := hcc 0 hpos
        rw [List.getElem?_eq_getElem (by omega)] at h2
        have := World.cell?_spot h2
        simpa [Addr.add] using this
      obtain ⟨b, o, s⟩ := a
      simp only at hspot
      subst hspot
      have hadd : ∀ o m, (⟨b, o, none⟩ : Addr).add m = ⟨b, o + m, none⟩ := fun o m => by
        unfold Addr.add
        split
        · rename_i e; subst e; rfl
        · rfl
      obtain ⟨l, hll, hq⟩ := pick_list (n := len) (Q := fun i x => ok x ∧ ∃ cs', w.cells? 0 ((⟨b, o, none⟩ : Addr).add (i * sz)) sz = some cs' ∧ Cs (memC w) cs' (enc x)) (fun i hi => by
        obtain ⟨cs', y, h1, h2⟩ := at_ i (by omega)
        obtain ⟨x, h3, h4⟩ := h H en n cs' y h2
        exact ⟨x, h3, cs', h1, h4⟩)
      have key : ∀ i k x d, l[i]? = some x → (enc x)[k]? = some d → ∃ v, memC w b (o + i * sz + k) = some v ∧ DRep (memC w) d v := by
        intro i k x d hi hk
        obtain ⟨_, cs', h1, h2⟩ := hq i x hi
        obtain ⟨v, h3, h4⟩ := h2.2 k d hk
        obtain ⟨_, hcl, hcc⟩ := World.cells?_some h1
        have hklt : k < sz := by rw [← hl x]; exact (List.getElem?_eq_some_iff.1 hk).1
        have h5 := hcc k hklt
        rw [hadd, hadd, h3] at h5
        exact ⟨v, h5, h4⟩
      refine ⟨l, fun x hx => ?_, Cs_one (.sl _ b o cap sz len (fun i k => (memC w b (o + i * sz + k)).getD undef) (by rw [List.length_map, hll]) hcap (fun e' he => ?_) (fun i k hi hk => ?_) (fun i k e' d he hd => ?_))⟩
      · obtain ⟨i, hi, rfl⟩ := List.getElem_of_mem hx
        exact (hq i _ (List.getElem?_eq_getElem hi)).1
      · obtain ⟨x, _, rfl⟩ := List.mem_map.1 he
        exact hl x
      · have hil : i < l.length := by omega
        obtain ⟨v, hv, _⟩ := key i k l[i] ((enc l[i])[k]'(by rw [hl]; exact hk)) (List.getElem?_eq_getElem hil) (List.getElem?_eq_getElem _)
        rw [hv]
        rfl
      · rw [List.getElem?_map, Option.map_eq_some_iff] at he
        obtain ⟨x, hx, rfl⟩ := he
        obtain ⟨v, hv, hr⟩ := key i k x d hx hd
        rw [hv]
        exact hr
def ReadsF (P : Program) (w : World) (fs : List Field) (off : Nat) {α : Type} (ok : α → Prop) (enc : α → List D) : Prop :=
  ∀ (H : Type) (e : TypeId × Value → H) (n : Nat) (cs : List Value), (∀ f ∈ fs, ∃ y, DataW.trod e P w 0 (fun _ => true) true n f.type ((cs.drop f.offset).take (P.cellsOf f.type)) = some y) →
    ∃ a, ok a ∧ Cs (memC w) ((cs.drop off).take (fs.map fun f => P.cellsOf f.type).sum) (enc a)
theorem readsF_nil {off : Nat} : ReadsF P w [] off (fun _ : Unit => True) (fun _ => []) := fun _ _ _ _ _ => ⟨(), True.intro, by simp [Cs]⟩
theorem readsF_cons {f : Field} {fs : List Field} {off sz : Nat} {α β : Type} {ok : α → Prop} {enc : α → List D} {ok' : β → Prop} {enc' : β → List D} (ho : f.offset = off) (hc : P.cellsOf f.type = sz) (h : Reads P w f.type ok enc) (h' : ReadsF P w fs (off + sz) ok' enc') :
    ReadsF P w (f :: fs) off (fun p : α × β => ok p.1 ∧ ok' p.2) (fun p => enc p.1 ++ enc' p.2) := by
  intro H e n cs hcs
  obtain ⟨y, hy⟩ := hcs f (List.mem_cons_self ..)
  obtain ⟨a, h1, h2⟩ := h H e n _ y hy
  obtain ⟨b, h3, h4⟩ := h' H e n cs (fun g hg => hcs g (List.mem_cons_of_mem _ hg))
  refine ⟨(a, b), ⟨h1, h3⟩, ?_⟩
  have := Cs_app h2 h4
  rw [ho, hc] at this
  rw [List.map_cons, List.sum_cons, hc, List.take_add, List.drop_drop]
  exact this
theorem reads_struct {t : TypeId} {fs : Array Field} {fl : List Field} {α : Type} {ok : α → Prop} {enc : α → List D} (ht : P.underlying t = some (.struct fs)) (hfl : fs.toList = fl) (hs : (fl.map fun f => P.cellsOf f.type).sum = P.cellsOf t) (h : ReadsF P w fl 0 ok enc) : Reads P w t ok enc := by
  intro H e fuel cs x hx
  obtain ⟨xs, n, _, _, hlen, hxs, hf⟩ := DataW.trod_struct ht hx
  obtain ⟨a, h1, h2⟩ := h H e n cs (fun f hfm => by
    rw [← hfl] at hfm
    obtain ⟨i, hi, rfl⟩ := List.getElem_of_mem hfm
    have hi' : i < fs.size := by simpa using hi
    have := hf i fs[i] (Array.getElem?_eq_getElem hi')
    rw [List.getElem?_eq_getElem (by omega)] at this
    exact ⟨_, by simpa using this⟩)
  refine ⟨a, h1, ?_⟩
  rw [hs, List.drop_zero, ← hlen, List.take_length] at h2
  exact h2
theorem arg_slice {t e : TypeId} {W : World} {base : Nat} {v : Value} {α : Type} {ok : α → Prop} {enc : α → D} (ht : P.underlying t = some (.slice e)) (hv : Value.okWide P W .any base t v) (hr : Reads P W t ok (fun a => [enc a]))
    {H : Type} {en : TypeId × Value → H} {d : DataW H} {p : List MemPlace} (h : DataW.Trod en P W 0 (fun _ => true) true t v d p) : ∃ a, ok a ∧ PRep (gOnly (memC W)) noA (.c (.d (enc a))) v := by
  obtain ⟨fuel, h⟩ := h
  obtain ⟨a, h1, _, h2⟩ := hr H en fuel _ _ h
  obtain ⟨u, hu, hd⟩ := h2 0 (enc a) rfl
  refine ⟨a, h1, ?_⟩
  have hvu : v.cells.toList = [v] := by
    unfold Value.okWide at hv
    rw [ht] at hv
    simp only [Cell.okWide, ht, Cell.ok] at hv
    cases v <;> first | rfl | (exact hv.elim)
  rw [hvu] at hu
  simp at hu
  subst hu
  exact hd
theorem trodAll_get {H : Type} {en : TypeId × Value → H} {W : World} : ∀ {ts : List TypeId} {vs : List Value} {ds : List (DataW H)} {ps : List MemPlace}, DataW.TrodAll en P W 0 (fun _ => true) true ts vs ds ps →
    vs.length = ts.length ∧ ds.length = ts.length ∧ ∀ (j : Nat) (t : TypeId), ts[j]? = some t → ∃ v d p, vs[j]? = some v ∧ DataW.Trod en P W 0 (fun _ => true) true t v d p
  | [], [], [], _, _ => ⟨rfl, rfl, fun j t h => by simp at h⟩
  | t :: ts, v :: vs, d :: ds, ps, h => by
    obtain ⟨p, q, h1, h2, _⟩ := h
    obtain ⟨k1, k2, k3⟩ := trodAll_get h2
    refine ⟨by simp [k1], by simp [k2], fun j t' hj => ?_⟩
    cases j with
    | zero => simp at hj; subst hj; exact ⟨v, d, p, rfl, h1⟩
    | succ j => exact k3 j t' (by simpa using hj)
  | [], [], _ :: _, _, h => h.elim
  | [], _ :: _, _, _, h => h.elim
  | _ :: _, [], _, _, h => h.elim
  | _ :: _, _ :: _, [], _, h => h.elim
theorem trodAll_stays {H : Type} {en : TypeId × Value → H} {W W' : World} {sp : Nat → Bool} (hl : laidOutB P = true) : ∀ {ts : List TypeId} {vs : List Value} {ds : List (DataW H)} {ps : List MemPlace}, (∀ t ∈ ts, P.readableRec t = true ∧ t < P.types.size) →
    DataW.TrodAll en P W 0 (fun _ => true) true ts vs ds ps → (∀ p ∈ ps, W.sameAt W' p) → (∀ p ∈ ps, sp p.block = true) → DataW.TrodAll en P W' 0 sp true ts vs ds ps
  | [], [], [], _, _, h, _, _ => h
  | t :: ts, v :: vs, d :: ds, ps, hr, h, h1, h2 => by
    obtain ⟨p, q, k1, k2, rfl⟩ := h
    exact ⟨p, q, WideElems.Trod_stays hl (hr t (List.mem_cons_self ..)).1 (hr t (List.mem_cons_self ..)).2 k1 (fun x hx => h1 x (List.mem_append_left _ hx)) (fun x hx => h2 x (List.mem_append_left _ hx)),
      trodAll_stays hl (fun t ht => hr t (List.mem_cons_of_mem _ ht)) k2 (fun x hx => h1 x (List.mem_append_right _ hx)) (fun x hx => h2 x (List.mem_append_right _ hx)), rfl⟩
  | [], [], _ :: _, _, _, h, _, _ => h.elim
  | [], _ :: _, _, _, _, h, _, _ => h.elim
  | _ :: _, [], _, _, _, h, _, _ => h.elim
  | _ :: _, _ :: _, [], _, _, h, _, _ => h.elim
theorem post_law {f : Func} {s : ChangeSpec} {apart fresh handsOn again : Bool} {H : Type} {en : TypeId × Value → H} {W W' : World} {args : Array Value} {ds gs : List (DataW H)} {before : List MemPlace} {tb : TypeId}
    (hW : DataW.Whole en P f.params.toList s.vars apart W args.toList ds gs before) (hv : s.vars = []) (hl : laidOutB P = true) (hr : ∀ t ∈ f.params.toList, P.readableRec t = true ∧ t < P.types.size)
    (hs : s.fn H ds = { results := [.lit (.bool true)], args := ds }) (hrt : f.resultTypes = #[tb]) (htb : P.underlying tb = some .bool) (hb : RowKit.Below W.heap.size W W') : s.post en P f apart fresh handsOn again W args (.bool true) W' := by
  have hWk := hW
  obtain ⟨p, q, hA, hV, rfl, hfz, hnd⟩ := hW
  rw [hv] at hV
  obtain ⟨rfl, rfl⟩ := ChangeShapes.trodVars_none hV
  have hlt : ∀ x ∈ p, x.block < W.heap.size := fun x hx => hWk.lt x (List.mem_append_left _ hx)
  have hargs : ∀ sp : Nat → Bool, (∀ x ∈ p, sp x.block = true) → DataW.TrodAll en P W' 0 sp true f.params.toList args.toList (s.fn H (ds ++ [])).args p := fun sp hsp => by
    rw [List.append_nil, hs]
    exact trodAll_stays hl hr hA (fun x hx => hb.same (hlt x hx)) hsp
  have hres : ∀ (b : Nat) (sp : Nat → Bool) (hd : Bool), DataW.TrodAll en P W' b sp hd f.resultTypes.toList ((Value.bool true).resultList f.resultTypes.size) (s.fn H (ds ++ [])).results [] := fun b sp hd => by
    rw [List.append_nil, hs, hrt]
    exact ChangeShapes.trodAll_mk1 (RowKit.shut_bool htb true)
  have hvars : ∀ sp : Nat → Bool, DataW.TrodVars en P W' sp s.vars (s.fn H (ds ++ [])).vars [] := fun sp => by
    rw [List.append_nil, hs, hv]
    exact rfl
  refine ⟨ds, [], p ++ [], [], p, [], hWk, hres _ _ _, hargs _ (fun x hx => by simpa using hlt x hx), hvars _, hb.frame _, fun _ => ⟨RowKit.ok_one hrt rfl (RowKit.okWide_bool_mk htb true), _, _, _, ⟨([] : List MemPlace) ++ p, [], ChangeShapes.trodAll_append (hargs _ (fun _ _ => rfl)) (hres _ _ _), hvars _, rfl, ?_, ?_⟩, ?_⟩⟩
  · intro b off hp
    have hp' : MemPlace.cell b off ∈ p := by simpa using hp
    rw [hb.frozen (hlt _ hp')]
    exact hfz b off (List.mem_append_left _ hp')
  · intro ha
    exact hnd ha
  · intro x hx _
    exact hx
theorem law_calls {f : FuncId} {args : List PV} (h : PureOK P f args (.one (.d (.lit (.bool true))))) (hext : ∀ (a : Array Value) (w : World), (callFunc f a).run P w = .ok (.enter f a) w) {W : World} {vals : Array Value} (hr : ArgsRep (gOnly (memC W)) noA args vals.toList) :
    Calls P f vals W fun e W' => e = .returned (.bool true) ∧ RowKit.Below W.heap.size W W' := by
  rcases h.2 (memC W) W vals (fun b o v e => e) hr with ⟨_, hc⟩ | ⟨v, w', hc, _⟩
  · refine hc.mono fun e W' hq => ?_
    obtain ⟨v, rfl, g', hp, _, he⟩ := hq
    have hv : v = .bool true := DRep.lit_eq hp
    subst hv
    exact ⟨rfl, he.os, he.tape, he.output, he.size, fun k hk => he.frame k hk rfl⟩
  · rw [hext] at hc
    cases hc
end Go.PW

namespace Go.PW
theorem law_lifted {C : Checked} {os : Os} {f : FuncId} {fn : Func} {s : ChangeSpec} {conds : List PathCond} {tb : TypeId} {H : Type} {enc : TypeId × Value → H}
    (own : ownKnob C.prog.godebug = none) (started : os.Started) (noInit : C.prog.inits.idxOf? f = none) (hfn : C.prog.funcs[f]? = some fn)
    (witness : ∃ (w : World) (tape : Tape) (i : Input), w.os = os ∧ (w.forCall tape i).Shaped C.prog ∧ i.vars = [] ∧ Input.okWide C.prog (w.forCall tape i) .any w.heap.size f i ∧
      s.pre6 enc C.prog fn conds false (w.forCall tape i).memory i.args ∧ Assume.holds {} C.prog (lone (Frame.enter C.prog f i.args .normal) [] (w.forCall tape i)))
    (hv : s.vars = []) (hl : laidOutB C.prog = true) (hr : ∀ t ∈ fn.params.toList, C.prog.readableRec t = true ∧ t < C.prog.types.size) (hrt : fn.resultTypes = #[tb]) (htb : C.prog.underlying tb = some .bool)
    (hs : ∀ ds : List (DataW H), ds.length = fn.params.size → s.fn H ds = { results := [.lit (.bool true)], args := ds })
    (hc : ∀ (W : World) (base : Nat) (args : Array Value), args.size = fn.params.size → (∀ (j : Nat) (t : TypeId), fn.params[j]? = some t → ∃ v d p, args[j]? = some v ∧ Value.okWide C.prog W .any base t v ∧ DataW.Trod enc C.prog W 0 (fun _ => true) true t v d p) →
      Calls C.prog f args W fun e W' => e = .returned (.bool true) ∧ RowKit.Below W.heap.size W W') :
    ReturnsInHanded {} C os f .any (s.pre6 enc C.prog fn conds false) (s.post enc C.prog fn false true false false) := by
  refine returnsInHanded_of_change own started noInit hfn witness ?_
  intro W base args ds gs before hval hW _ _
  have hWk := hW
  obtain ⟨p, q, hA, hV, _, _, _⟩ := hW
  obtain ⟨k1, k2, k3⟩ := trodAll_get hA
  have hsz : args.size = fn.params.size := by simpa using k1
  refine (hc W base args hsz (fun j t hj => ?_)).mono fun e W' hq => ?_
  · obtain ⟨v, d, p, h1, h2⟩ := k3 j t (by simpa using hj)
    have h1' : args[j]? = some v := by simpa using h1
    exact ⟨v, d, p, h1', hval j t v hj h1', h2⟩
  · obtain ⟨rfl, hb⟩ := hq
    exact ⟨_, rfl, post_law hWk hv hl hr (hs ds (by simpa using k2)) hrt htb hb⟩
theorem args_of {g : Gh} {A : AMap} {xs : List PV} {args : Array Value} (hn : args.size = xs.length) (h : ∀ (k : Nat) (x : PV), xs[k]? = some x → ∃ v, args[k]? = some v ∧ PRep g A x v) : ArgsRep g A xs args.toList :=
  ⟨by simpa using hn, fun k x hk => by obtain ⟨v, h1, h2⟩ := h k x hk; exact ⟨v, by simpa using h1, h2⟩⟩
end Go.PW
namespace Go.Proofs
open Go.PW
theorem Try.own : ownKnob Try.prog.godebug = none := by kernel_rfl
theorem Try.laidOut : laidOutB Try.prog = true := by kernel_rfl
theorem Try.rText (w : World) : Reads Try.prog w 9 (fun l : List UInt8 => l.length ≤ maxLen) (fun l => [dS l]) :=
  reads_map (reads_string Try.underlying9) (fun s => s.data.toList) (fun s h => ⟨by rw [Array.length_toList]; exact h, by unfold dS; rw [Array.toArray_toList]⟩)
theorem byte_ok {n : Int} (h : (Lit.int .u8 n).wf = true) : 0 ≤ n ∧ n < 256 := by
  simp [Lit.wf] at h
  have h1 : IntKind.u8.min = 0 := by decide
  have h2 : IntKind.u8.max = 255 := by decide
  rw [h1, h2] at h
  exact ⟨h.1, by omega⟩
theorem Try.rByte (w : World) : Reads Try.prog w 5 (fun n : Nat => n < 256) (fun n => [.lit (.int .u8 n)]) :=
  reads_map (reads_int Try.underlying5) (fun n : Int => n.toNat) (fun n h => by
    obtain ⟨h1, h2⟩ := byte_ok h
    exact ⟨by omega, by rw [show ((n.toNat : Nat) : Int) = n by omega]⟩)
theorem Try.rBools (w : World) : Reads Try.prog w 24 (fun l : List Bool => ∀ b ∈ l, True) (fun l => [.sl (bools l)]) :=
  reads_slice Try.underlying24 Try.cl4 (by decide) (fun _ => rfl) (reads_bool Try.underlying4)
theorem Try.rOp9 (w : World) : Reads Try.prog w 34 (fun _ : OpP => True) OpP.enc :=
  reads_map (reads_struct Try.underlying34 rfl (by kernel_rfl) (readsF_cons rfl Try.cl3 (reads_int Try.underlying3) (readsF_cons rfl Try.cl3 (reads_int Try.underlying3) (readsF_cons rfl Try.cl9 (Try.rText w)
    (readsF_cons rfl Try.cl24 (Try.rBools w) readsF_nil))))) (fun x => (⟨x.1, x.2.1, x.2.2.1, x.2.2.2.1⟩ : OpP)) (fun _ _ => ⟨True.intro, rfl⟩)
theorem Try.rOps9 (w : World) : Reads Try.prog w 22 (fun l : List OpP => ∀ o ∈ l, True) (fun l => [.sl (opsP l)]) :=
  reads_slice Try.underlying22 Try.cl34 (by decide) (fun _ => rfl) (Try.rOp9 w)
theorem reads_two {P : Program} {w : World} {t e : TypeId} {α : Type} {ok : α → Prop} {enc : α → D} (ht : P.underlying t = some (.array 2 e)) (hc : P.cellsOf e = 1) (hc2 : P.cellsOf t = 2) (h : Reads P w e ok (fun a => [enc a])) :
    Reads P w t (fun p : α × α => ok p.1 ∧ ok p.2) (fun p => [enc p.1, enc p.2]) := by
  intro H en fuel cs x hx
  obtain ⟨xs, n, _, _, hlen, hxs, hf⟩ := DataW.trod_array ht hx
  rw [hc2] at hlen
  have g : ∀ i, i < 2 → ∃ a, ok a ∧ Cs (memC w) ((cs.drop i).take 1) [enc a] := fun i hi => by
    have := hf i (by omega)
    rw [List.getElem?_eq_getElem (by omega), hc, Nat.mul_one] at this
    exact h H en n _ _ (by simpa using this)
  obtain ⟨a, h1, h2⟩ := g 0 (by omega)
  obtain ⟨b, h3, h4⟩ := g 1 (by omega)
  refine ⟨(a, b), ⟨h1, h3⟩, ?_⟩
  have := Cs_app h2 h4
  match cs, hlen with
  | [u, v], _ => exact this
theorem arg_two {P : Program} {t e : TypeId} {W : World} {base : Nat} {v : Value} {α : Type} {ok : α → Prop} {enc : α → List D} (ht : P.underlying t = some (.array 2 e)) (hv : Value.okWide P W .any base t v) (hr : Reads P W t ok enc)
    {H : Type} {en : TypeId × Value → H} {d : DataW H} {p : List MemPlace} (h : DataW.Trod en P W 0 (fun _ => true) true t v d p) : ∃ a, ok a ∧ PRep (gOnly (memC W)) noA (.agg ((enc a).map .d)) v := by
  obtain ⟨fuel, h⟩ := h
  obtain ⟨a, h1, h2⟩ := hr H en fuel _ _ h
  refine ⟨a, h1, ?_⟩
  unfold Value.okWide at hv
  rw [ht] at hv
  obtain ⟨cs, rfl, _, _⟩ := hv
  have hcs : (Value.agg cs).cells = cs := rfl
  rw [hcs] at h2
  refine ⟨cs, rfl, by rw [h2.1, List.length_map], fun k c hk => ?_⟩
  rw [List.getElem?_map, Option.map_eq_some_iff] at hk
  obtain ⟨x, hx, rfl⟩ := hk
  exact h2.2 k x hx
theorem Try.rU82 (w : World) : Reads Try.prog w 23 (fun p : Nat × Nat => p.1 < 256 ∧ p.2 < 256) (fun p => [.lit (.int .u8 p.1), .lit (.int .u8 p.2)]) :=
  reads_two Try.underlying23 Try.cl5 Try.cl23 (Try.rByte w)
end Go.Proofs
