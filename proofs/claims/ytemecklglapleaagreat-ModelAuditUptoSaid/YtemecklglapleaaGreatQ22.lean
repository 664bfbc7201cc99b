/-
  Parts of the proof, laid together: PwY, PwZu, PwZv, PwLc, PwRa.
-/
import Derived.Test.YtemecklglapleaaGreatQ18
import Derived.Carry
import Derived.ProofKit
import Derived.WalkKit
import Derived.OpenShut
import Derived.Test.YtemecklglapleaaGreatRows
import Derived.JoinedCond
import Derived.Test.YtemecklglapleaaGreatQ21

set_option maxRecDepth 30000
set_option maxHeartbeats 16000000
namespace Go.PW
variable {P : Program} {w : World}
def memC (w : World) : Nat → Nat → Option Value := fun b o => w.cell? ⟨b, o, none⟩
def Cs (C : Nat → Nat → Option Value) (cs : List Value) (ds : List D) : Prop := cs.length = ds.length ∧ ∀ (k : Nat) (d : D), ds[k]? = some d → ∃ v, cs[k]? = some v ∧ DRep C noπ d v
def Reads (P : Program) (w : World) (t : TypeId) {α : Type} (ok : α → Prop) (enc : α → List D) : Prop :=
 ∀ (H : Type) (e : TypeId × Value → H) (fuel : Nat) (cs : List Value) (x : DataW H × List MemPlace), DataW.trod e P w 0 (fun _ => true) true fuel t cs = some x → ∃ a, ok a ∧ Cs (memC w) cs (enc a)
theorem z7c {C : Nat → Nat → Option Value} {v : Value} {d : D} (h : DRep C noπ d v) : Cs C [v] [d] := by
 refine ⟨rfl, fun k x hk => ?_⟩
 cases k with
 | zero => simp at hk; subst hk; exact ⟨v, rfl, h⟩
 | succ k => simp at hk
theorem y9a {C : Nat → Nat → Option Value} {cs cs' : List Value} {ds ds' : List D} (h : Cs C cs ds) (h' : Cs C cs' ds') : Cs C (cs ++ cs') (ds ++ ds') := by
 refine ⟨by rw [Zla, Zla, h.1, h'.1], fun k d hk => ?_⟩
 rcases Zlg k ds.length with hl | hl
 · rw [List.getElem?_append_left hl] at hk
   rw [List.getElem?_append_left (by rw [h.1]; exact hl)]
   exact h.2 k d hk
 · rw [List.getElem?_append_right hl] at hk
   rw [List.getElem?_append_right (by rw [h.1]; exact hl), h.1]
   exact h'.2 _ d hk
theorem zxa {t : TypeId} {k : IntKind} (ht : P.underlying t = some (.int k)) : Reads P w t (fun n : Int => (Lit.int k n).wf = true) (fun n => [.lit (.int k n)]) := by
 intro H e fuel cs x hx
 obtain ⟨n, rfl, _, hn⟩ := DataW.trod_int ht hx
 exact ⟨n, hn, z7c (.lit _ rfl)⟩
theorem yv8 {t : TypeId} (ht : P.underlying t = some .bool) : Reads P w t (fun _ : Bool => True) (fun b => [.lit (.bool b)]) := by
 intro H e fuel cs x hx
 obtain ⟨n, rfl, _⟩ := DataW.trod_bool ht hx
 exact ⟨n, Zti, z7c (.lit _ rfl)⟩
theorem y11 {α : Type} {n : Nat} {Q : Nat → α → Prop} (h : ∀ i, i < n → ∃ a, Q i a) : ∃ l : List α, l.length = n ∧ ∀ i a, l[i]? = some a → Q i a := by
 induction n with
 | zero => exact ⟨[], rfl, fun i a hi => by simp at hi⟩
 | succ n ih =>
   obtain ⟨l, hl, hq⟩ := ih (fun i hi => h i (by omega))
   obtain ⟨a, ha⟩ := h n (by omega)
   refine ⟨l ++ [a], by simp [hl], fun i x hi => ?_⟩
   rcases Zlg i l.length with hlt | hge
   · rw [List.getElem?_append_left hlt] at hi
     exact hq i x hi
   · rw [List.getElem?_append_right hge] at hi
     have : i = l.length := by
      rcases Nat.eq_zero_or_pos (i - l.length) with h0 | h0
      · omega
      · rw [List.getElem?_eq_none (by simp; omega)] at hi; cases hi
     subst this
     simp at hi
     subst hi
     rw [hl]
     exact ha
theorem yw7 {t : TypeId} {W : World} {base : Nat} {v : Value} {α : Type} {ok : α → Prop} {enc : α → D} (ht : P.underlying t = some .bool ∨ P.underlying t = some .string ∨ ∃ k, P.underlying t = some (.int k)) (hv : Value.okWide P W .any base t v) (hr : Reads P W t ok (fun a => [enc a]))
 {H : Type} {en : TypeId × Value → H} {d : DataW H} {p : List MemPlace} (h : DataW.Trod en P W 0 (fun _ => true) true t v d p) : ∃ a, ok a ∧ PRep (zko (memC W) noπ) noA (.c (.d (enc a))) v := by
 obtain ⟨fuel, h⟩ := h
 obtain ⟨a, h1, _, h2⟩ := hr H en fuel _ _ h
 obtain ⟨u, hu, hd⟩ := h2 0 (enc a) rfl
 refine ⟨a, h1, ?_⟩
 have hvu : v.cells.toList = [v] := by
  unfold Value.okWide at hv
  rcases ht with ht | ht | ⟨k, ht⟩ <;>
  · rw [ht] at hv
    simp only [Cell.okWide, ht, Cell.ok] at hv
    cases v <;> first | rfl | (exact hv.elim)
 rw [hvu] at hu
 simp at hu
 subst hu
 exact hd
theorem z6t {H : Type} {en : TypeId × Value → H} {W : World} : ∀ {ts : List TypeId} {vs : List Value} {ds : List (DataW H)} {ps : List MemPlace}, DataW.TrodAll en P W 0 (fun _ => true) true ts vs ds ps →
 vs.length = ts.length ∧ ds.length = ts.length ∧ ∀ (j : Nat) (t : TypeId), ts[j]? = some t → ∃ v d p, vs[j]? = some v ∧ DataW.Trod en P W 0 (fun _ => true) true t v d p
 | [], [], [], _, _ => ⟨rfl, rfl, fun j t h => by simp at h⟩
 | t :: ts, v :: vs, d :: ds, ps, h => by
   obtain ⟨p, q, h1, h2, _⟩ := h
   obtain ⟨k1, k2, k3⟩ := z6t h2
   refine ⟨by simp [k1], by simp [k2], fun j t' hj => ?_⟩
   cases j with
   | zero => simp at hj; subst hj; exact ⟨v, d, p, rfl, h1⟩
   | succ j => exact k3 j t' (by simpa using hj)
 | [], [], _ :: _, _, h => h.elim
 | [], _ :: _, _, _, h => h.elim
 | _ :: _, [], _, _, h => h.elim
 | _ :: _, _ :: _, [], _, h => h.elim
theorem z2z {H : Type} {en : TypeId × Value → H} {W W' : World} {sp : Nat → Bool} (hl : laidOutB P = true) : ∀ {ts : List TypeId} {vs : List Value} {ds : List (DataW H)} {ps : List MemPlace}, (∀ t ∈ ts, P.readableRec t = true ∧ t < P.types.size) →
 DataW.TrodAll en P W 0 (fun _ => true) true ts vs ds ps → (∀ p ∈ ps, W.sameAt W' p) → (∀ p ∈ ps, sp p.block = true) → DataW.TrodAll en P W' 0 sp true ts vs ds ps
 | [], [], [], _, _, h, _, _ => h
 | t :: ts, v :: vs, d :: ds, ps, hr, h, h1, h2 => by
   obtain ⟨p, q, k1, k2, rfl⟩ := h
   exact ⟨p, q, WideElems.Trod_stays hl (hr t (Zms2 ..)).1 (hr t (Zms2 ..)).2 k1 (fun x hx => h1 x (List.mem_append_left _ hx)) (fun x hx => h2 x (List.mem_append_left _ hx)),
    z2z hl (fun t ht => hr t (List.mem_cons_of_mem _ ht)) k2 (fun x hx => h1 x (List.mem_append_right _ hx)) (fun x hx => h2 x (List.mem_append_right _ hx)), rfl⟩
 | [], [], _ :: _, _, _, h, _, _ => h.elim
 | [], _ :: _, _, _, _, h, _, _ => h.elim
 | _ :: _, [], _, _, _, h, _, _ => h.elim
 | _ :: _, _ :: _, [], _, _, h, _, _ => h.elim
theorem y4l {f : Func} {s : ChangeSpec} {apart fresh handsOn again : Bool} {H : Type} {en : TypeId × Value → H} {W W' : World} {args : Array Value} {ds gs : List (DataW H)} {before : List MemPlace} {tb : TypeId}
 (hW : DataW.Whole en P f.params.toList s.vars apart W args.toList ds gs before) (hv : s.vars = []) (hl : laidOutB P = true) (hr : ∀ t ∈ f.params.toList, P.readableRec t = true ∧ t < P.types.size)
 (hs : s.fn H ds = { results := [.lit (.bool true)], args := ds }) (hrt : f.resultTypes = #[tb]) (htb : P.underlying tb = some .bool) (hb : RowKit.Below W.heap.size W W') : s.post en P f apart fresh handsOn again W args (.bool true) W' := by
 have hWk := hW
 obtain ⟨p, q, hA, hV, rfl, hfz, hnd⟩ := hW
 rw [hv] at hV
 obtain ⟨rfl, rfl⟩ := ChangeShapes.trodVars_none hV
 have hlt : ∀ x ∈ p, x.block < W.heap.size := fun x hx => hWk.lt x (List.mem_append_left _ hx)
 have hargs : ∀ sp : Nat → Bool, (∀ x ∈ p, sp x.block = true) → DataW.TrodAll en P W' 0 sp true f.params.toList args.toList (s.fn H (ds ++ [])).args p := fun sp hsp => by
  rw [List.append_nil, hs]
  exact z2z hl hr hA (fun x hx => hb.same (hlt x hx)) hsp
 have hres : ∀ (b : Nat) (sp : Nat → Bool) (hd : Bool), DataW.TrodAll en P W' b sp hd f.resultTypes.toList ((Value.bool true).resultList f.resultTypes.size) (s.fn H (ds ++ [])).results [] := fun b sp hd => by
  rw [List.append_nil, hs, hrt]
  exact ChangeShapes.trodAll_mk1 (RowKit.shut_bool htb true)
 have hvars : ∀ sp : Nat → Bool, DataW.TrodVars en P W' sp s.vars (s.fn H (ds ++ [])).vars [] := fun sp => by
  rw [List.append_nil, hs, hv]
  exact rfl
 refine ⟨ds, [], p ++ [], [], p, [], hWk, hres _ _ _, hargs _ (fun x hx => by simpa using hlt x hx), hvars _, hb.frame _, fun _ => ⟨RowKit.ok_one hrt rfl (RowKit.okWide_bool_mk htb true), _, _, _, ⟨([] : List MemPlace) ++ p, [], ChangeShapes.trodAll_append (hargs _ (fun _ _ => rfl)) (hres _ _ _), hvars _, rfl, ?_, ?_⟩, ?_⟩⟩
 · intro b off hp
   have hp' : MemPlace.cell b off ∈ p := by simpa using hp
   rw [hb.frozen (hlt _ hp')]
   exact hfz b off (List.mem_append_left _ hp')
 · intro ha
   exact hnd ha
 · intro x hx _
   exact hx
theorem yvq {f : FuncId} {args : List PV} (h : y6b P f args) (hext : ∀ (a : Array Value) (w : World), (callFunc f a).run P w = .ok (.enter f a) w) {W : World} {vals : Array Value} (hr : zjm (zko (memC W) noπ) noA args vals.toList) :
 Calls P f vals W fun e W' => e = .returned (.bool true) ∧ RowKit.Below W.heap.size W W' := by
 rcases h (memC W) W vals (fun b o v e => e) hr with ⟨_, hc⟩ | ⟨v, w', hc, _⟩
 · refine hc.mono fun e W' hq => ?_
   obtain ⟨v, rfl, rfl, h1, h2, h3, h4, h5⟩ := hq
   exact ⟨rfl, h1, h2, h3, h4, fun k hk => h5 k hk⟩
 · rw [hext] at hc
   cases hc
end Go.PW
namespace Go.PW
variable {P : Program} {w : World}
open Go.Proofs.YtemecklglapleaaGreat.Rows (uptoBulk uptoBulkAll uptoSmall)
theorem y27 {H : Type} (d : DataW H) : 1 ≤ uptoBulk d := by
 cases d with
 | lit l => cases l <;> simp [uptoBulk]
 | _ => simp [uptoBulk]
theorem z8l {H : Type} {d : DataW H} {l : List (DataW H)} (h : d ∈ l) : uptoBulk d ≤ uptoBulkAll l := by
 induction l with
 | nil => cases h
 | cons x r ih =>
   simp only [uptoBulkAll]
   rcases List.mem_cons.1 h with e | e
   · subst e; omega
   · have := ih e; omega
theorem y26 {H : Type} (l : List (DataW H)) : l.length ≤ uptoBulkAll l := by
 induction l with
 | nil => simp [uptoBulkAll]
 | cons x r ih => have := y27 x; simp only [uptoBulkAll, List.length_cons]; omega
def zx7 (P : Program) (w : World) (t : TypeId) {α : Type} (ok : α → Prop) (enc : α → List D) : Prop :=
 ∀ (H : Type) (e : TypeId × Value → H) (fuel : Nat) (cs : List Value) (x : DataW H × List MemPlace), DataW.trod e P w 0 (fun _ => true) true fuel t cs = some x → uptoBulk x.1 ≤ 1048576 → ∃ a, ok a ∧ Cs (memC w) cs (enc a)
theorem Reads.U {t : TypeId} {α : Type} {ok : α → Prop} {enc : α → List D} (h : Reads P w t ok enc) : zx7 P w t ok enc := fun H e fuel cs x hx _ => h H e fuel cs x hx
theorem zjf {t : TypeId} {α β : Type} {ok : α → Prop} {ok' : β → Prop} {enc : α → List D} {enc' : β → List D} (h : zx7 P w t ok enc) (f : α → β) (hf : ∀ a, ok a → ok' (f a) ∧ enc a = enc' (f a)) : zx7 P w t ok' enc' := by
 intro H e fuel cs x hx hb
 obtain ⟨a, h1, h2⟩ := h H e fuel cs x hx hb
 exact ⟨f a, (hf a h1).1, by rw [← (hf a h1).2]; exact h2⟩
theorem z2p {t : TypeId} (ht : P.underlying t = some .string) : zx7 P w t (fun s : ByteArray => s.size ≤ 1048576) (fun s => [.lit (.string s)]) := by
 intro H e fuel cs x hx hb
 obtain ⟨n, rfl, hx', hn⟩ := DataW.trod_string ht hx
 subst hx'
 refine ⟨n, ?_, z7c (.lit _ rfl)⟩
 simp only [uptoBulk] at hb
 have : n.data.toList.length = n.size := by rw [Array.length_toList]; rfl
 omega
theorem zvo {t e : TypeId} {α : Type} {ok : α → Prop} {enc : α → List D} {sz : Nat} (ht : P.underlying t = some (.slice e)) (hc : P.cellsOf e = sz) (hpos : 0 < sz) (hl : ∀ a, (enc a).length = sz) (h : zx7 P w e ok enc) :
 zx7 P w t (fun l : List α => l.length ≤ 1048576 ∧ ∀ a ∈ l, ok a) (fun l => [.sl (l.map enc)]) := by
 intro H en fuel cs x hx hb
 rcases DataW.trod_slice ht hx with ⟨rfl, _⟩ | ⟨a, len, cap, elems, rest, n, _, rfl, hx', _, hcap, _, hlen0, hel, hsp, _⟩
 · exact ⟨[], ⟨Nat.zero_le _, fun _ h => (by cases h)⟩, z7c (.nil none)⟩
 · subst hx'
   simp only [uptoBulk] at hb
   have hlb := y26 (elems.map (·.1))
   rw [List.length_map, hlen0] at hlb
   rw [hc] at hel hsp
   have at_ : ∀ i, i < cap → ∃ cs' y, w.cells? 0 (a.add (i * sz)) sz = some cs' ∧ DataW.trod en P w 0 (fun _ => true) true n e cs' = some y ∧ (i < len → elems[i]? = some y) := by
    intro i hi
    have hb : ∃ y, (w.cells? 0 (a.add (i * sz)) sz).bind (DataW.trod en P w 0 (fun _ => true) true n e) = some y ∧ (i < len → elems[i]? = some y) := by
     rcases Zlg i len with hlt | hge
     · exact ⟨elems[i], (hel i hlt).trans (Zge (by omega)), fun _ => Zge (by omega)⟩
     · obtain ⟨h1, h2⟩ := hsp rfl
       have := h2 (i - len) (by omega)
       rw [show len + (i - len) = i by omega] at this
       exact ⟨rest[i - len]'(by omega), this.trans (Zge _), fun h => by omega⟩
    obtain ⟨y, hy, hy2⟩ := hb
    obtain ⟨cs', h1, h2⟩ := Option.bind_eq_some_iff.1 hy
    exact ⟨cs', y, h1, h2, hy2⟩
   rcases Nat.eq_zero_or_pos cap with h0 | h0
   · subst h0
     obtain rfl : len = 0 := by omega
     exact ⟨[], ⟨Nat.zero_le _, fun _ h => (by cases h)⟩, z7c (.nil _)⟩
   · have hspot : a.spot = none := by
      obtain ⟨cs', y, h1, _⟩ := at_ 0 h0
      obtain ⟨_, hcl, hcc⟩ := World.cells?_some h1
      have h2 := hcc 0 hpos
      rw [Zge (by omega)] at h2
      have := World.cell?_spot h2
      simpa [Addr.add] using this
     obtain ⟨b, o, s⟩ := a
     simp only at hspot
     subst hspot
     have hadd : ∀ o m, (⟨b, o, none⟩ : Addr).add m = ⟨b, o + m, none⟩ := fun o m => by
      unfold Addr.add
      split
      · rename_i e; subst e; rfl
      · rfl
     obtain ⟨l, hll, hq⟩ := y11 (n := len) (Q := fun i x => ok x ∧ ∃ cs', w.cells? 0 ((⟨b, o, none⟩ : Addr).add (i * sz)) sz = some cs' ∧ Cs (memC w) cs' (enc x)) (fun i hi => by
      obtain ⟨cs', y, h1, h2, h5⟩ := at_ i (by omega)
      have hm : y.1 ∈ elems.map (·.1) := List.mem_map.2 ⟨y, Zme (h5 hi), rfl⟩
      have hyb := z8l hm
      obtain ⟨x, h3, h4⟩ := h H en n cs' y h2 (by omega)
      exact ⟨x, h3, cs', h1, h4⟩)
     have key : ∀ i k x d, l[i]? = some x → (enc x)[k]? = some d → ∃ v, memC w b (o + i * sz + k) = some v ∧ DRep (memC w) noπ d v := by
      intro i k x d hi hk
      obtain ⟨_, cs', h1, h2⟩ := hq i x hi
      obtain ⟨v, h3, h4⟩ := h2.2 k d hk
      obtain ⟨_, hcl, hcc⟩ := World.cells?_some h1
      have hklt : k < sz := by rw [← hl x]; exact (List.getElem?_eq_some_iff.1 hk).1
      have h5 := hcc k hklt
      rw [hadd, hadd, h3] at h5
      exact ⟨v, h5, h4⟩
     refine ⟨l, ⟨by omega, fun x hx => ?_⟩, z7c (.sl _ b o cap sz len (fun i k => (memC w b (o + i * sz + k)).getD undef) (by rw [List.length_map, hll]) hcap (fun e' he => ?_) (fun i k hi hk => ?_) (fun i k e' d he hd => ?_))⟩
     · obtain ⟨i, hi, rfl⟩ := List.getElem_of_mem hx
       exact (hq i _ (Zge hi)).1
     · obtain ⟨x, _, rfl⟩ := List.mem_map.1 he
       exact hl x
     · have hil : i < l.length := by omega
       obtain ⟨v, hv, _⟩ := key i k l[i] ((enc l[i])[k]'(by rw [hl]; exact hk)) (Zge hil) (Zge _)
       rw [hv]
       rfl
     · rw [List.getElem?_map, Zms] at he
       obtain ⟨x, hx, rfl⟩ := he
       obtain ⟨v, hv, hr⟩ := key i k x d hx hd
       rw [hv]
       exact hr
def z8i (P : Program) (w : World) (fs : List Field) (off : Nat) {α : Type} (ok : α → Prop) (enc : α → List D) : Prop :=
 ∀ (H : Type) (e : TypeId × Value → H) (n : Nat) (cs : List Value), (∀ f ∈ fs, ∃ y, DataW.trod e P w 0 (fun _ => true) true n f.type ((cs.drop f.offset).take (P.cellsOf f.type)) = some y ∧ uptoBulk y.1 ≤ 1048576) →
   ∃ a, ok a ∧ Cs (memC w) ((cs.drop off).take (fs.map fun f => P.cellsOf f.type).sum) (enc a)
theorem zjb {off : Nat} : z8i P w [] off (fun _ : Unit => True) (fun _ => []) := fun _ _ _ _ _ => ⟨(), Zti, by simp [Cs]⟩
theorem zzz {f : Field} {fs : List Field} {off sz : Nat} {α β : Type} {ok : α → Prop} {enc : α → List D} {ok' : β → Prop} {enc' : β → List D} (ho : f.offset = off) (hc : P.cellsOf f.type = sz) (h : zx7 P w f.type ok enc) (h' : z8i P w fs (off + sz) ok' enc') :
 z8i P w (f :: fs) off (fun p : α × β => ok p.1 ∧ ok' p.2) (fun p => enc p.1 ++ enc' p.2) := by
 intro H e n cs hcs
 obtain ⟨y, hy, hyb⟩ := hcs f (Zms2 ..)
 obtain ⟨a, h1, h2⟩ := h H e n _ y hy hyb
 obtain ⟨b, h3, h4⟩ := h' H e n cs (fun g hg => hcs g (List.mem_cons_of_mem _ hg))
 refine ⟨(a, b), ⟨h1, h3⟩, ?_⟩
 have := y9a h2 h4
 rw [ho, hc] at this
 rw [List.map_cons, List.sum_cons, hc, List.take_add, List.drop_drop]
 exact this
theorem zxl {t : TypeId} {fs : Array Field} {fl : List Field} {α : Type} {ok : α → Prop} {enc : α → List D} (ht : P.underlying t = some (.struct fs)) (hfl : fs.toList = fl) (hs : (fl.map fun f => P.cellsOf f.type).sum = P.cellsOf t) (h : z8i P w fl 0 ok enc) : zx7 P w t ok enc := by
 intro H e fuel cs x hx hb
 obtain ⟨xs, n, _, hx', hlen, hxs, hf⟩ := DataW.trod_struct ht hx
 subst hx'
 simp only [uptoBulk] at hb
 obtain ⟨a, h1, h2⟩ := h H e n cs (fun f hfm => by
  rw [← hfl] at hfm
  obtain ⟨i, hi, rfl⟩ := List.getElem_of_mem hfm
  have hi' : i < fs.size := by simpa using hi
  have := hf i fs[i] (Array.getElem?_eq_getElem hi')
  rw [Zge (by omega)] at this
  have hm : (xs[i]'(by omega)).1 ∈ xs.map (·.1) := List.mem_map.2 ⟨_, List.getElem_mem _, rfl⟩
  have := z8l hm
  exact ⟨xs[i]'(by omega), by simpa using ‹_ = some xs[i]›, by omega⟩)
 refine ⟨a, h1, ?_⟩
 rw [hs, List.drop_zero, ← hlen, List.take_length] at h2
 exact h2
theorem yk4 {t e : TypeId} {W : World} {base : Nat} {v : Value} {α : Type} {ok : α → Prop} {enc : α → D} (ht : P.underlying t = some (.slice e)) (hv : Value.okWide P W .any base t v) (hr : zx7 P W t ok (fun a => [enc a]))
 {H : Type} {en : TypeId × Value → H} {d : DataW H} {p : List MemPlace} (h : DataW.Trod en P W 0 (fun _ => true) true t v d p) (hb : uptoBulk d ≤ 1048576) : ∃ a, ok a ∧ PRep (zko (memC W) noπ) noA (.c (.d (enc a))) v := by
 obtain ⟨fuel, h⟩ := h
 obtain ⟨a, h1, _, h2⟩ := hr H en fuel _ _ h hb
 obtain ⟨u, hu, hd⟩ := h2 0 (enc a) rfl
 refine ⟨a, h1, ?_⟩
 have hvu : v.cells.toList = [v] := by
  unfold Value.okWide at hv
  rw [ht] at hv
  simp only [Cell.okWide, ht, Cell.ok] at hv
  cases v <;> first | rfl | (exact hv.elim)
 rw [hvu] at hu
 simp at hu
 subst hu
 exact hd
theorem z4b {H : Type} {en : TypeId × Value → H} {W : World} : ∀ {ts : List TypeId} {vs : List Value} {ds : List (DataW H)} {ps : List MemPlace}, DataW.TrodAll en P W 0 (fun _ => true) true ts vs ds ps →
 ∀ (j : Nat) (t : TypeId), ts[j]? = some t → ∃ v d p, vs[j]? = some v ∧ d ∈ ds ∧ DataW.Trod en P W 0 (fun _ => true) true t v d p
 | [], [], [], _, _ => fun j t h => by simp at h
 | t :: ts, v :: vs, d :: ds, ps, h => by
   obtain ⟨p, q, h1, h2, _⟩ := h
   intro j t' hj
   cases j with
   | zero => simp at hj; subst hj; exact ⟨v, d, p, rfl, Zms2 .., h1⟩
   | succ j =>
     obtain ⟨v', d', p', g1, g2, g3⟩ := z4b h2 j t' (by simpa using hj)
     exact ⟨v', d', p', by simpa using g1, List.mem_cons_of_mem _ g2, g3⟩
 | [], [], _ :: _, _, h => h.elim
 | [], _ :: _, _, _, h => h.elim
 | _ :: _, [], _, _, h => h.elim
 | _ :: _, _ :: _, [], _, h => h.elim
theorem yxt {C : Checked} {os : Os} {f : FuncId} {fn : Func} {s : ChangeSpec} {conds : List PathCond} {tb : TypeId} {H : Type} {enc : TypeId × Value → H} {F : Stop.Interp}
 (own : ownKnob C.prog.godebug = none) (started : os.Started) (noInit : C.prog.inits.idxOf? f = none) (hfn : C.prog.funcs[f]? = some fn)
 (witness : ∃ (w : World) (tape : Tape) (i : Input), w.os = os ∧ (w.forCall tape i).Shaped C.prog ∧ i.vars = [] ∧ Input.okWide C.prog (w.forCall tape i) .any w.heap.size f i ∧
   (Go.Proofs.YtemecklglapleaaGreat.Rows.OpenSpec.upto s).pre6 enc C.prog fn conds false (w.forCall tape i).memory i.args ∧ Assume.holds {} C.prog (lone (Frame.enter C.prog f i.args .normal) [] (w.forCall tape i)))
 (hv : s.vars = []) (hl : laidOutB C.prog = true) (hr : ∀ t ∈ fn.params.toList, C.prog.readableRec t = true ∧ t < C.prog.types.size) (hrt : fn.resultTypes = #[tb]) (htb : C.prog.underlying tb = some .bool)
 (hs : ∀ ds : List (DataW H), ds.length = fn.params.size → s.fn H ds = { results := [.lit (.bool true)], args := ds })
 (hc : ∀ (W : World) (base : Nat) (args : Array Value), args.size = fn.params.size → (∀ (j : Nat) (t : TypeId), fn.params[j]? = some t → ∃ v d p, args[j]? = some v ∧ Value.okWide C.prog W .any base t v ∧ DataW.Trod enc C.prog W 0 (fun _ => true) true t v d p ∧ uptoBulk d ≤ 1048576) →
   Calls C.prog f args W fun e W' => e = .returned (.bool true) ∧ RowKit.Below W.heap.size W W') :
 ReturnsInHanded {} C os f .any ((Go.Proofs.YtemecklglapleaaGreat.Rows.OpenSpec.upto s).pre6 enc C.prog fn conds false) (((Go.Proofs.YtemecklglapleaaGreat.Rows.OpenSpec.upto s).at F).post enc C.prog fn false true false false) := by
 refine returnsInHanded_of_cond (s := Go.Proofs.YtemecklglapleaaGreat.Rows.OpenSpec.upto s) (k := uptoSmall) rfl own started noInit hfn witness ?_
 intro W base args ds gs before hval hW _ hk _
 have hWk := hW
 obtain ⟨p, q, hA, hV, _, _, _⟩ := hW
 obtain ⟨k1, k2, _⟩ := z6t hA
 have k3 := z4b hA
 have hsz : args.size = fn.params.size := by simpa using k1
 have hbk : uptoBulkAll (ds ++ gs) ≤ 1048576 := of_decide_eq_true hk
 refine (hc W base args hsz (fun j t hj => ?_)).mono fun e W' hq => ?_
 · obtain ⟨v, d, p, h1, hm, h2⟩ := k3 j t (by simpa using hj)
   have h1' : args[j]? = some v := by simpa using h1
   exact ⟨v, d, p, h1', hval j t v hj h1', h2, Nat.le_trans (z8l (List.mem_append_left _ hm)) hbk⟩
 · obtain ⟨rfl, hb⟩ := hq
   exact ⟨_, rfl, y4l hWk hv hl hr (hs ds (by simpa using k2)) hrt htb hb⟩
theorem y6q {g : Gh} {A : AMap} {xs : List PV} {args : Array Value} (hn : args.size = xs.length) (h : ∀ (k : Nat) (x : PV), xs[k]? = some x → ∃ v, args[k]? = some v ∧ PRep g A x v) : zjm g A xs args.toList :=
 ⟨by simpa using hn, fun k x hk => by obtain ⟨v, h1, h2⟩ := h k x hk; exact ⟨v, by simpa using h1, h2⟩⟩
end Go.PW
namespace Go.Proofs
open Go.PW
theorem Tryz.own : ownKnob Tryz.prog.godebug = none := by kernel_rfl
theorem Tryz.laidOut : laidOutB Tryz.prog = true := by kernel_rfl
def Val.ok (v : Val) : Prop := (Lit.int .i64 v.kind).wf = true ∧ (Lit.int .i64 v.num).wf = true ∧ (Lit.int .u64 v.bits).wf = true ∧ v.str.size ≤ maxLen
def Row.ok' (r : Row) : Prop := ∀ v ∈ r, Val.ok v
theorem yvz {b : Nat} : (FloatKind.f64.format.order b b != some .eq) = decide (9218868437227405312 < b % 9223372036854775808) := by
 show (((Ieee.double.read b).order (Ieee.double.read b)) != some .eq) = _
 have e1 : Ieee.double.signWeight = 9223372036854775808 := rfl
 have e2 : Ieee.double.binade = 4503599627370496 := rfl
 have e3 : Ieee.double.infRung = 9218868437227405312 := rfl
 unfold Ieee.Format.read
 simp only [e1, e2, e3]
 generalize b % 9223372036854775808 = r
 split
 · rename_i h
   have : ¬ 9218868437227405312 < r := by omega
   simp [Ieee.Datum.order, this]
 · split
   · rename_i h
     have : ¬ 9218868437227405312 < r := by omega
     simp [Ieee.Datum.order, this]
   · split
     · rename_i h
       have : ¬ 9218868437227405312 < r := by omega
       simp [Ieee.Datum.order, this]
     · have : 9218868437227405312 < r := by omega
       simp [Ieee.Datum.order, this]
theorem z6m {s : Bool} {m k : Nat} : Ieee.signed s m k = 0 ↔ m = 0 := by
 unfold Ieee.signed
 have : m <<< k = 0 ↔ m = 0 := by rw [Nat.shiftLeft_eq, Nat.mul_eq_zero]; simp
 cases s <;> simp <;> omega
theorem yv0 {b : Nat} : (FloatKind.f64.format.order b 0 == some .eq) = decide (b % 9223372036854775808 = 0) := by
 show (((Ieee.double.read b).order (Ieee.double.read 0)) == some .eq) = _
 have e1 : Ieee.double.signWeight = 9223372036854775808 := rfl
 have e2 : Ieee.double.binade = 4503599627370496 := rfl
 have e3 : Ieee.double.infRung = 9218868437227405312 := rfl
 have h0 : Ieee.double.read 0 = .number false 0 Ieee.double.leastPlace := rfl
 rw [h0]
 unfold Ieee.Format.read
 simp only [e1, e2, e3]
 generalize b % 9223372036854775808 = r
 have key : ∀ (s : Bool) (m : Nat) (i : Int), ((Ieee.Datum.number s m i).order (.number false 0 Ieee.double.leastPlace) == some .eq) = decide (m = 0) := by
  intro s m i
  simp only [Ieee.Datum.order]
  have z : ∀ k, Ieee.signed false 0 k = 0 := fun k => z6m.2 rfl
  rw [z]
  rw [Bool.eq_iff_iff, beq_iff_eq, decide_eq_true_eq, Option.some.injEq]
  rw [Std.compare_eq_iff_eq]
  exact z6m
 split
 · exact key _ _ _
 · split
   · rename_i h h2
     rw [key]
     rw [Bool.eq_iff_iff, decide_eq_true_eq, decide_eq_true_eq]
     omega
   · have hne : ¬ r = 0 := by omega
     split
     · cases (b / 9223372036854775808 % 2 == 1) <;> simp [Ieee.Datum.order, hne]
     · simp [Ieee.Datum.order, hne]
def yzd (b : Int) : Int := if decide (9218868437227405312 < iAnd .u64 b 9223372036854775807) = true then 9221120237041090560 else if (iAnd .u64 b 9223372036854775807 == 0) = true then 0 else b
theorem y07 {b : Int} (h0 : 0 ≤ b) (h1 : b < 18446744073709551616) : iAnd .u64 b 9223372036854775807 = ((b.toNat % 9223372036854775808 : Nat) : Int) := by
 obtain ⟨n, rfl⟩ := Int.eq_ofNat_of_zero_le h0
 have hn : n < 18446744073709551616 := by omega
 unfold iAnd
 have hb : IntKind.u64.bits = 64 := rfl
 rw [hb]
 have e1 : (BitVec.ofInt 64 ((n : Nat) : Int) &&& BitVec.ofInt 64 9223372036854775807).toNat = n &&& 9223372036854775807 := by
  rw [BitVec.toNat_and]
  have a1 : (BitVec.ofInt 64 ((n : Nat) : Int)).toNat = n := by
   rw [BitVec.toNat_ofInt]
   have : ((n : Nat) : Int) % ((2 ^ 64 : Nat) : Int) = ((n % 2 ^ 64 : Nat) : Int) := by omega
   rw [this]
   simp
   omega
  have a2 : (BitVec.ofInt 64 9223372036854775807).toNat = 9223372036854775807 := by decide
  rw [a1, a2]
 rw [e1]
 have e2 : n &&& 9223372036854775807 = n % 9223372036854775808 := by
  have := Nat.and_two_pow_sub_one_eq_mod n 63
  simpa using this
 rw [e2]
 have hlt : n % 9223372036854775808 < 9223372036854775808 := Nat.mod_lt _ (by decide)
 rw [Go.IntWalk.u64_in _ (by omega), Int.toNat_natCast]
theorem y29 {b : Int} (h : (Lit.int .u64 b).wf = true) : yzc b.toNat = yzd b := by
 have hw : 0 ≤ b ∧ b < 18446744073709551616 := by
  simp only [Lit.wf, Bool.and_eq_true, decide_eq_true_eq] at h
  have e1 : IntKind.u64.min = 0 := rfl
  have e2 : IntKind.u64.max = 18446744073709551615 := rfl
  rw [e1, e2] at h
  omega
 unfold yzc y30 yzd
 rw [yvz, yv0, y07 hw.1 hw.2]
 simp only [decide_eq_true_eq]
 generalize b.toNat % 9223372036854775808 = r
 have hb : ((b.toNat : Nat) : Int) = b := by omega
 by_cases h1 : 9218868437227405312 < r
 · have h1' : (9218868437227405312 : Int) < ((r : Nat) : Int) := by omega
   rw [if_pos h1, if_pos h1']
 · have h1' : ¬ (9218868437227405312 : Int) < ((r : Nat) : Int) := by omega
   rw [if_neg h1, if_neg h1']
   by_cases h2 : r = 0
   · subst h2
     rfl
   · have h2' : ¬ (((r : Nat) : Int) == 0) = true := by rw [beq_iff_eq]; omega
     rw [if_neg h2, if_neg h2', hb]
def Val.rright (v : Val) : Bool :=
 if (v.kind == 0) = true then (v.num == 0) && (v.bits == 0) && (v.str.toList == (⟨#[]⟩ : ByteArray).toList)
 else if (v.kind == 1) = true then ((v.num == 0) || (v.num == 1)) && (v.bits == 0) && (v.str.toList == (⟨#[]⟩ : ByteArray).toList)
 else if (v.kind == 2) = true then (v.bits == 0) && (v.str.toList == (⟨#[]⟩ : ByteArray).toList)
 else if (v.kind == 3) = true then (v.num == 0) && (v.str.toList == (⟨#[]⟩ : ByteArray).toList) && (yzd v.bits == v.bits)
 else if (v.kind == 4) = true then (v.num == 0) && (v.bits == 0) && decide ((v.str.size : Int) ≤ 4096)
 else if (v.kind == 5) = true then (v.num == 0) && (v.bits == 0) && decide ((v.str.size : Int) ≤ 4096)
 else false
theorem y3t {n : Int} : iAnd .i64 n 1 = 0 ∨ iAnd .i64 n 1 = 1 := by
 unfold iAnd
 have hb : IntKind.i64.bits = 64 := rfl
 rw [hb, BitVec.toNat_and]
 have a2 : (BitVec.ofInt 64 1).toNat = 1 := by decide
 rw [a2, Nat.and_one_is_mod]
 have : (BitVec.ofInt 64 n).toNat % 2 < 2 := Nat.mod_lt _ (by decide)
 generalize (BitVec.ofInt 64 n).toNat % 2 = r at this
 have : r = 0 ∨ r = 1 := by omega
 rcases this with rfl | rfl
 · exact .inl rfl
 · exact .inr rfl
theorem z0u {s : ByteArray} (h : s.toList = (⟨#[]⟩ : ByteArray).toList) : (s.size : Int) ≤ 4096 := by
 rw [z7m] at h
 subst h
 decide
theorem y2c {v : Val} (h : v.ok) : v.rright = v.right := by
 obtain ⟨k, n, b, s⟩ := v
 obtain ⟨h1, h2, h3, h4⟩ := h
 simp only at h1 h2 h3 h4
 unfold Val.rright Val.right Val.canon
 simp only
 rw [Bool.eq_iff_iff]
 have hc := y29 h3
 split
 · rename_i hk
   simp only [Val.same, Bool.and_eq_true, beq_iff_eq, decide_eq_true_eq] at hk ⊢
   constructor
   · rintro ⟨⟨e1, e2⟩, e3⟩; exact ⟨⟨trivial, e1, e2, e3⟩, z0u e3⟩
   · rintro ⟨⟨_, e1, e2, e3⟩, _⟩; exact ⟨⟨e1, e2⟩, e3⟩
 · split
   · rename_i hk
     simp only [Val.same, Bool.and_eq_true, Bool.or_eq_true, beq_iff_eq, decide_eq_true_eq] at hk ⊢
     constructor
     · rintro ⟨⟨e1, e2⟩, e3⟩
       refine ⟨⟨trivial, ?_, e2, e3⟩, z0u e3⟩
       rcases e1 with rfl | rfl <;> rfl
     · rintro ⟨⟨_, e1, e2, e3⟩, _⟩
       refine ⟨⟨?_, e2⟩, e3⟩
       rcases y3t (n := n) with h | h
       · exact .inl (e1.trans h)
       · exact .inr (e1.trans h)
   · split
     · rename_i hk
       simp only [Val.same, Bool.and_eq_true, beq_iff_eq, decide_eq_true_eq] at hk ⊢
       constructor
       · rintro ⟨e2, e3⟩; exact ⟨⟨trivial, trivial, e2, e3⟩, z0u e3⟩
       · rintro ⟨⟨_, _, e2, e3⟩, _⟩; exact ⟨e2, e3⟩
     · split
       · rename_i hk
         simp only [Val.same, Bool.and_eq_true, beq_iff_eq, decide_eq_true_eq, hc] at hk ⊢
         constructor
         · rintro ⟨⟨e1, e3⟩, e2⟩; exact ⟨⟨trivial, e1, e2.symm, e3⟩, z0u e3⟩
         · rintro ⟨⟨_, e1, e2, e3⟩, _⟩; exact ⟨⟨e1, e3⟩, e2.symm⟩
       · split
         · rename_i hk
           simp only [Val.same, Bool.and_eq_true, beq_iff_eq, decide_eq_true_eq] at hk ⊢
           constructor
           · rintro ⟨⟨e1, e2⟩, e3⟩; exact ⟨⟨trivial, e1, e2, trivial⟩, e3⟩
           · rintro ⟨⟨_, e1, e2, _⟩, e3⟩; exact ⟨⟨e1, e2⟩, e3⟩
         · split
           · rename_i hk
             simp only [Val.same, Bool.and_eq_true, beq_iff_eq, decide_eq_true_eq] at hk ⊢
             constructor
             · rintro ⟨⟨e1, e2⟩, e3⟩; exact ⟨⟨trivial, e1, e2, trivial⟩, e3⟩
             · rintro ⟨⟨_, e1, e2, _⟩, e3⟩; exact ⟨⟨e1, e2⟩, e3⟩
           · simp
@[go_sem] theorem y87 {P : Program} {T : TypeId} {a b : ByteArray} : binS P .eql T (.c (.d (.lit (.string a)))) (.c (.d (.lit (.string b)))) = some (lit (.bool (a.toList == b.toList))) := rfl
@[go_sem] theorem y88 {P : Program} {T : TypeId} {a b : ByteArray} : binS P .neq T (.c (.d (.lit (.string a)))) (.c (.d (.lit (.string b)))) = some (lit (.bool (a.toList != b.toList))) := rfl
@[go_sem] theorem xqy {b : Bool} : zks (Pure.pure (Value.bool b) : Sem Value) = some (.bool b) := rfl
theorem Tryz.rSpanRight (a b : Int) : zzr Tryz.prog 98 [pA (zqj a b)] (.one (dB (Span.right a b))) := by
 refine Tryz.pure (md := []) Tryz.func98 rfl Tryz.call98 (by kernel_rfl) (by rfl) (by exact Zle rfl) ?_
 repeat' (first|(with_reducible first|refine vSq fun K hK=>?_|apply vRg|apply vBl|apply vSc|apply vIf|apply vSk|apply vEx|apply vRt|((first|apply gNt|apply gCs)<;>(intro h;try simp only[h]))|((first|apply hK|(clear hK K;first|apply hK|(clear hK K;first|apply hK|(clear hK K;apply hK))));clear hK K)|(refine todo ?_;simp +decide only[go_sem])))
 all_goals (refine zzs rfl ?_; simp +decide only [go_sem, Span.right, *])
theorem Tryz.rSpanHas (a b n : Int) : zzr Tryz.prog 97 [pA (zqj a b), pD (.lit (.int .i64 n))] (.one (dB (Span.has a b n))) := by
 refine Tryz.pure (md := []) Tryz.func97 rfl Tryz.call97 (by kernel_rfl) (by rfl) (by exact Zle rfl) ?_
 repeat' (first|(with_reducible first|refine vSq fun K hK=>?_|apply vRg|apply vBl|apply vSc|apply vIf|apply vSk|apply vEx|apply vRt|((first|apply gNt|apply gCs)<;>(intro h;try simp only[h]))|((first|apply hK|(clear hK K;first|apply hK|(clear hK K;first|apply hK|(clear hK K;apply hK))));clear hK K)|(refine todo ?_;simp +decide only[go_sem]))|refine zzd (Tryz.rSpanRight a b) rfl rfl (fun _ => rfl) ?_)
 all_goals (refine zzs rfl ?_; simp +decide only [go_sem, Span.has, *])
theorem yxw {a b : Sp} (ha : Span.right a.1 a.2 = true) (hb : Span.right b.1 b.2 = true) : meet a b = if iMin a.2 b.2 ≤ iMax a.1 b.1 then none else some (iMax a.1 b.1, iMin a.2 b.2) := by
 unfold meet
 rw [ha, hb]
 simp only [Bool.true_and]
 rw [zzo] at ha hb
 by_cases h : iMin a.2 b.2 ≤ iMax a.1 b.1
 · have : Span.right (iMax a.1 b.1) (iMin a.2 b.2) = false := by
    rw [Bool.eq_false_iff]; intro h'; rw [zzo] at h'; omega
   rw [this, if_pos h]
   rfl
 · have : Span.right (iMax a.1 b.1) (iMin a.2 b.2) = true := by
    rw [zzo]; unfold iMax iMin at h ⊢; split <;> split <;> simp_all <;> omega
   rw [this, if_neg h]
   rfl
theorem z9a {a b : Sp} (h : Span.right a.1 a.2 = false ∨ Span.right b.1 b.2 = false) : meet a b = none := by
 unfold meet
 rcases h with h | h <;> rw [h] <;> simp
theorem Tryz.rMeet (a b : Sp) : zzr Tryz.prog 101 [pA a.enc, pA b.enc] (zvd (meet a b)) := by
 refine Tryz.pure (md := []) Tryz.func101 rfl Tryz.call101 (by kernel_rfl) (by rfl) (by exact Zle rfl) ?_
 have ha : a.enc = zqj a.1 a.2 := rfl
 have hb : b.enc = zqj b.1 b.2 := rfl
 repeat' (first|(with_reducible first|refine vSq fun K hK=>?_|apply vRg|apply vBl|apply vSc|apply vIf|apply vSk|apply vEx|apply vRt|((first|apply gNt|apply gCs)<;>(intro h;try simp only[h]))|((first|apply hK|(clear hK K;first|apply hK|(clear hK K;first|apply hK|(clear hK K;apply hK))));clear hK K)|(refine todo ?_;simp +decide only[go_sem, ha, hb]))|refine zzd (Tryz.rSpanRight a.1 a.2) rfl rfl (fun _ => rfl) ?_|refine zzd (Tryz.rSpanRight b.1 b.2) rfl rfl (fun _ => rfl) ?_)
 all_goals first
  | (rw [yxw (by assumption) (by assumption), if_pos (by simpa [iMin, iMax] using h)]
     refine zw9 rfl ?_ rfl
     simp +decide only [go_sem])
  | (rw [yxw (by assumption) (by assumption), if_neg (by simpa [iMin, iMax] using h)]
     refine zw9 rfl ?_ rfl
     simp +decide only [go_sem, Sp.enc]
     rfl)
  | (rw [z9a (by simp [*])]
     refine zw9 rfl ?_ rfl
     simp +decide only [go_sem])
theorem Tryz.rCanon (b : Int) : zzr Tryz.prog 114 [pD (.lit (.int .u64 b))] (.one (.d (.lit (.int .u64 (yzd b))))) := by
 refine Tryz.pure (md := []) Tryz.func114 rfl Tryz.call114 (by kernel_rfl) (by rfl) (by exact Zle rfl) ?_
 repeat' (first|(with_reducible first|refine vSq fun K hK=>?_|apply vRg|apply vBl|apply vSc|apply vIf|apply vSk|apply vEx|apply vRt|((first|apply gNt|apply gCs)<;>(intro h;try simp only[h]))|((first|apply hK|(clear hK K;first|apply hK|(clear hK K;first|apply hK|(clear hK K;apply hK))));clear hK K)|(refine todo ?_;simp +decide only[go_sem])))
 all_goals (refine zzs rfl ?_; simp +decide only [go_sem, yzd, *])
theorem Tryz.rValue0 (v : Val) : zzr Tryz.prog 94 [pA v.enc] (.one (dB v.rright)) := by
 refine Tryz.pure (md := []) Tryz.func94 rfl Tryz.call94 (by kernel_rfl) (by rfl) (by exact Zle rfl) ?_
 repeat' (first|(with_reducible first|refine vSq fun K hK=>?_|apply vRg|apply vBl|apply vSc|apply vIf|apply vSk|apply vEx|apply vRt|((first|apply gNt|apply gCs)<;>(intro h;try simp only[h]))|((first|apply hK|(clear hK K;first|apply hK|(clear hK K;first|apply hK|(clear hK K;apply hK))));clear hK K)|(refine todo ?_;simp +decide only[go_sem]))|refine zzd (Tryz.rCanon v.bits) rfl rfl (fun _ => rfl) ?_)
 all_goals (refine zzs rfl ?_; simp +decide only [go_sem, Val.rright, *])
theorem Tryz.rValue (v : Val) (h : v.ok) : zzr Tryz.prog 94 [pA v.enc] (.one (dB v.right)) := by
 rw [← y2c h]
 exact Tryz.rValue0 v
theorem Tryz.rRowRight (r : Row) (hr : r.length ≤ 4294967296) (hok : Row.ok' r) : zzr Tryz.prog 99 [pD (zz4 r)] (.one (dB (zqi r))) := by
 refine Tryz.pure (md := []) Tryz.func99 rfl Tryz.call99 (by kernel_rfl) (by rfl) (by exact Zle rfl) ?_
 repeat' (first|(with_reducible first|refine vSq fun K hK=>?_|apply vRg|apply vBl|apply vSc|apply vIf|apply vSk|apply vEx|apply vRt|((first|apply gNt|apply gCs)<;>(intro h;try simp only[h]))|((first|apply hK|(clear hK K;first|apply hK|(clear hK K;first|apply hK|(clear hK K;apply hK))));clear hK K)|(refine todo ?_;simp +decide only[go_sem])))
 refine zzj r.length (fun i => zqi (r.take i) = true) (fun i => frame [(0, pD (zz4 r)), (3, pD (.lit (.int .i64 i)))] [] []) rfl ?_ ?_
 · refine zzb ?_ ?_ ?_ <;> simp +decide only [go_sem]
 · intro i hi hI
   rcases Zlg i r.length with hlt | hge
   · have hg := Zge hlt
     have hd := zze hlt
     have hw := zzl hlt hr
     generalize r[i] = v at hg
     have hv := hok v (Zme hg)
     repeat' (first|(with_reducible first|refine vSq fun K hK=>?_|apply vRg|apply vBl|apply vSc|apply vIf|apply vSk|apply vEx|apply vRt|((first|apply gNt|apply gCs)<;>(intro h;try simp only[h]))|((first|apply hK|(clear hK K;first|apply hK|(clear hK K;first|apply hK|(clear hK K;apply hK))));clear hK K)|(refine todo ?_;simp +decide only[go_sem, hg, hd, hw]))|refine zzd (Tryz.rValue v hv) rfl rfl (fun _ => rfl) ?_)
     · refine zzi hlt (zz8 hI hg h) (zzb ?_ ?_ ?_) <;> simp +decide only [go_sem]
     · refine zzs rfl ?_
       simp +decide only [go_sem, zqr hg h, zqi]
   · have hd := zzf hge
     rw [Ztl hge] at hI
     repeat' (first|(with_reducible first|refine vSq fun K hK=>?_|apply vRg|apply vBl|apply vSc|apply vIf|apply vSk|apply vEx|apply vRt|((first|apply gNt|apply gCs)<;>(intro h;try simp only[h]))|((first|apply hK|(clear hK K;first|apply hK|(clear hK K;first|apply hK|(clear hK K;apply hK))));clear hK K)|(refine todo ?_;simp +decide only[go_sem, hd])))
     refine zzs rfl ?_
     simp +decide only [go_sem, hI]
end Go.Proofs
