/-
  Parts of the proof, laid together: PwBf, PwBg, PwBh.
-/
import Derived.Test.YtemecklglapleaaGreatQ29
import Derived.Test.YtemecklglapleaaGreatQ24

namespace Go.Proofs
open Go.PW
def Tb.abs (t : Tb) : Tb := { t with p := 0, q := none }
def Bs.abs (b : Bs) : List Tb := b.tabs.map Tb.abs
theorem z6b (l : List Tb) (k : List UInt8) : place (l.map Tb.abs) k = place l k := by
 unfold place
 induction l with
 | nil => rfl
 | cons t l ih =>
   rw [List.map_cons, List.takeWhile_cons, List.takeWhile_cons]
   have e : before k t.abs = before k t := rfl
   rw [e]
   split
   · rw [List.length_cons, List.length_cons, ih]
   · rfl
theorem yj6 (l : List Tb) (k : List UInt8) : isAt (l.map Tb.abs) k = isAt l k := by
 unfold isAt
 rw [z6b, List.getElem?_map]
 cases l[place l k]? with
 | none => rfl
 | some t => rfl
def eLay (l : List En) (k : List UInt8) : List En := if eIs l k = true then l else eIns l k
def yxk (l : List En) (i : Nat) (x : Chg) : List En := match l[i]? with
 | some e => l.set i (e.step x)
 | none => l
def Tb.row (t : Tb) (k : List UInt8) (x : Chg) : Tb := { t with keys := yxk (eLay t.keys k) (eplace t.keys k) x }
def chgS (L : List Tb) (x : Chg) (time : Int) : Int × List Tb :=
 if isAt L x.tab = true then
  match L[place L x.tab]? with
  | none => (0, L)
  | some t => match t.defs[t.defs.length - 1]? with
    | none => (0, L)
    | some d =>
      if (x.op == 3) = true then (if ext d.s x.d = true then (0, L.set (place L x.tab) (t.redef d time x.d)) else (11, L))
      else if (zjz d.s x != 0) = true then (zjz d.s x, L)
      else (0, L.set (place L x.tab) (t.row (zje d.s x) x))
 else if (x.op == 3) = true then (0, L.take (place L x.tab) ++ ⟨0, none, x.tab, [⟨time, x.d⟩], []⟩ :: L.drop (place L x.tab))
 else (18, L)
def Apt (t u : Tb) : Prop := t.p ≠ u.p ∧ ∀ q, t.q = some q → u.q ≠ some q
theorem Apt.symm {t u : Tb} (h : Apt t u) : Apt u t := ⟨fun e => h.1 e.symm, fun q h1 h2 => h.2 q h2 h1⟩
structure BW (A : AMap) (b : Bs) (k c : Nat) : Prop where
 ba : BAt A b
 nd : b.tabs.Pairwise Apt
 cn : Cn A c
 k1 : 1 ≤ k
 lp : k ≤ b.p
 lq : ∀ q, b.q = some q → k ≤ q
 lt : ∀ t ∈ b.tabs, k ≤ t.p ∧ ∀ q, t.q = some q → k ≤ q
def Low (k : Nat) (A A' : AMap) : Prop := ∀ κ, κ ≠ (0, 0) → (κ.1 ≠ 0 ∨ κ.2 < k) → A' κ = A κ
theorem Low.refl {k : Nat} {A : AMap} : Low k A A := fun _ _ _ => rfl
theorem Low.trans {k : Nat} {A B C : AMap} (h1 : Low k A B) (h2 : Low k B C) : Low k A C := fun κ h h' => (h2 κ h h').trans (h1 κ h h')
theorem z6c {A : AMap} {x y : Nat} {a b : Arr} (h1 : A (0, x) = some (.pr x a)) (h2 : A (0, y) = some (.pr y b)) (h : a ≠ b) : x ≠ y := fun e => by
 subst e
 rw [h1] at h2
 cases h2
 exact h rfl
theorem zqo {A : AMap} {q : Option Nat} {sz : Nat} {els : List (List D)} (h : ArAt A q sz els) {p : Nat} (e : q = some p) : A (0, p) = some (.pr p (.mu sz els)) := by subst e; exact h
theorem yw6 {A : AMap} {q : Option Nat} {sz : Nat} {els : List (List D)} (h0 : q = none → els = []) (h : ∀ p, q = some p → A (0, p) = some (.pr p (.mu sz els))) : ArAt A q sz els := by
 cases q with
 | none => exact h0 rfl
 | some p => exact h p rfl
theorem zk5 {A : AMap} {q : Option Nat} {sz : Nat} {els : List (List D)} (h : ArAt A q sz els) (e : q = none) : els = [] := by subst e; exact h
theorem z92 {A A' : AMap} {t : Tb} (h : TAt A t) (h1 : A' (0, t.p) = A (0, t.p)) (h2 : ∀ q, t.q = some q → A' (0, q) = A (0, q)) : TAt A' t :=
 ⟨h1.trans h.1, yw6 (fun e => zk5 h.2 e) (fun q e => (h2 q e).trans (zqo h.2 e))⟩
theorem Cn.ne {A : AMap} {c x : Nat} {ar : Arr} (h : Cn A c) (hx : A (0, x) = some (.pr x ar)) : x ≠ 0 ∧ x < c := by
 refine ⟨fun e => ?_, h.lt (by rw [hx]; simp)⟩
 subst e
 rw [h.1] at hx
 cases hx
theorem BW.tab {A A' : AMap} {b : Bs} {k c c' i : Nat} {t t' : Tb} (h : BW A b k c) (ht : b.tabs[i]? = some t) (hp : t'.p = t.p) (hq : ∀ q, t'.q = some q → t.q = some q ∨ c ≤ q) (cn : Cn A' c') (hT : TAt A' t')
 (hA : ∀ κ, A κ ≠ none → κ ≠ (0, 0) → κ ≠ (0, t.p) → (∀ q, t.q = some q → κ ≠ (0, q)) → A' κ = A κ) : BW A' { b with tabs := b.tabs.set i t' } k c' := by
 obtain ⟨⟨b1, b2, b3⟩, nd, hcn, k1, lp, lq, lt⟩ := h
 have hti : i < b.tabs.length := (List.getElem?_eq_some_iff.1 ht).1
 have htg : b.tabs[i] = t := (List.getElem?_eq_some_iff.1 ht).2
 have htm := Zme ht
 have hTo := b3 t htm
 have es : b.tabs = b.tabs.take i ++ t :: b.tabs.drop (i + 1) := by
  rw [← htg, List.getElem_cons_drop, List.take_append_drop]
 have es' : b.tabs.set i t' = b.tabs.take i ++ t' :: b.tabs.drop (i + 1) := by rw [List.set_eq_take_append_cons_drop, if_pos hti]
 have eel : zzp (b.tabs.set i t') = zzp b.tabs := by
  rw [es', zzp, zzp, List.map_append, List.map_cons, hp]
  conv => rhs; rw [es, List.map_append, List.map_cons]
 have nd1 : (t :: (b.tabs.take i ++ b.tabs.drop (i + 1))).Pairwise Apt := by
  rw [es] at nd
  exact (List.pairwise_middle (fun h => Apt.symm h)).1 nd
 obtain ⟨nd2, nd3⟩ := List.pairwise_cons.1 nd1
 have hrest : ∀ u ∈ b.tabs.take i ++ b.tabs.drop (i + 1), u ∈ b.tabs := fun u hu => by
  rcases List.mem_append.1 hu with hu | hu
  · exact List.mem_of_mem_take hu
  · exact List.mem_of_mem_drop hu
 -- numbers of other things
 have hne : ∀ x ar, A (0, x) = some (.pr x ar) → x ≠ 0 ∧ x < c := fun x ar hx => hcn.ne hx
 have keep : ∀ x ar, A (0, x) = some (.pr x ar) → x ≠ t.p → (∀ q, t.q = some q → x ≠ q) → A' (0, x) = A (0, x) := fun x ar hx h1 h2 =>
  hA (0, x) (by rw [hx]; simp) (fun e => (hne x ar hx).1 (Prod.mk.inj e).2) (fun e => h1 (Prod.mk.inj e).2) (fun q hq e => h2 q hq (Prod.mk.inj e).2)
 have nb : b.p ≠ t.p := z6c b1 hTo.1 (by unfold Bs.cells Tb.cells; simp)
 have nbq : ∀ q, t.q = some q → b.p ≠ q := fun q e => z6c b1 (zqo hTo.2 e) (by simp)
 have hu : ∀ u ∈ b.tabs.take i ++ b.tabs.drop (i + 1), Apt t' u ∧ TAt A' u := fun u hu => by
  have hr := hrest u hu
  have hTu := b3 u hr
  have ha := nd2 u hu
  refine ⟨⟨hp ▸ ha.1, fun q e => ?_⟩, z92 hTu ?_ fun q e => ?_⟩
  · rcases hq q e with h1 | h2
    · exact ha.2 q h1
    · intro e2
      have := (hne q _ (zqo hTu.2 e2)).2
      omega
  · exact keep _ _ hTu.1 (fun e => ha.1 e.symm) (fun q e => z6c hTu.1 (zqo hTo.2 e) (by simp))
  · exact keep _ _ (zqo hTu.2 e) (fun e2 => z6c hTo.1 (zqo hTu.2 e) (by simp) e2.symm) (fun q' e1 e2 => ha.2 q' e1 (by rw [e, e2]))
 refine ⟨⟨?_, ?_, ?_⟩, ?_, cn, k1, lp, lq, ?_⟩
 · show A' (0, b.p) = _
   rw [keep _ _ b1 nb nbq, b1]
   unfold Bs.cells
   simp
 · show ArAt A' b.q 1 (zzp (b.tabs.set i t'))
   rw [eel]
   refine yw6 (fun e => zk5 b2 e) fun q e => ?_
   have hx := zqo b2 e
   rw [keep _ _ hx (fun e2 => z6c hTo.1 hx (by simp) e2.symm) (fun q' e1 e2 => ?_), hx]
   have h5 := zqo hTo.2 e1
   rw [← e2, hx] at h5
   simp at h5
 · show ∀ u ∈ b.tabs.set i t', TAt A' u
   rw [es']
   intro u hu'
   rcases List.mem_append.1 hu' with h1 | h1
   · exact (hu u (List.mem_append.2 (.inl h1))).2
   · rcases List.mem_cons.1 h1 with rfl | h1
     · exact hT
     · exact (hu u (List.mem_append.2 (.inr h1))).2
 · show (b.tabs.set i t').Pairwise Apt
   rw [es']
   exact (List.pairwise_middle (fun h => Apt.symm h)).2 (List.pairwise_cons.2 ⟨fun u h1 => (hu u h1).1, nd3⟩)
 · show ∀ u ∈ b.tabs.set i t', _
   rw [es']
   intro u hu'
   have hb : u ∈ b.tabs.take i ++ b.tabs.drop (i + 1) ∨ u = t' := by
    rcases List.mem_append.1 hu' with h1 | h1
    · exact .inl (List.mem_append.2 (.inl h1))
    · rcases List.mem_cons.1 h1 with rfl | h1
      · exact .inr rfl
      · exact .inl (List.mem_append.2 (.inr h1))
   rcases hb with hb | rfl
   · exact lt u (hrest u hb)
   · have h1 := lt t htm
     refine ⟨hp ▸ h1.1, fun q e => ?_⟩
     rcases hq q e with h2 | h3
     · exact h1.2 q h2
     · have := (hne _ _ hTo.1).2
       omega
theorem BW.add {A : AMap} {b : Bs} {k c : Nat} {x : Chg} {time : Int} (h : BW A b k c) : BW (addA A b c x time) (b.add c x time) k (c + 4) := by
 obtain ⟨⟨b1, b2, b3⟩, nd, hcn, k1, lp, lq, lt⟩ := h
 have hne : ∀ x ar, A (0, x) = some (.pr x ar) → x ≠ 0 ∧ x < c := fun x ar hx => hcn.ne hx
 have hbp := hne _ _ b1
 have keep : ∀ y ar, A (0, y) = some (.pr y ar) → y ≠ b.p → addA A b c x time (0, y) = A (0, y) := fun y ar hy h1 => by
  have := hne _ _ hy
  exact z26 b c x time (fun e => h1 (Prod.mk.inj e).2) (fun e => by have := (Prod.mk.inj e).2; omega) (fun e => by have := (Prod.mk.inj e).2; omega) (fun e => by have := (Prod.mk.inj e).2; omega)
 have kt : ∀ u ∈ b.tabs, TAt (addA A b c x time) u := fun u hu => by
  have hTu := b3 u hu
  refine z92 hTu ?_ fun q e => ?_
  · exact keep _ _ hTu.1 (z6c hTu.1 b1 (by unfold Bs.cells Tb.cells; simp))
  · exact keep _ _ (zqo hTu.2 e) (z6c (zqo hTu.2 e) b1 (by simp))
 have hT : TAt (addA A b c x time) (yqb c x time) := by
  constructor
  · show addA A b c x time (0, c + 1) = _
    unfold addA
    rw [zza _ _ (by simp), zzc]; rfl
  · rfl
 have hm : ∀ u, u ∈ (b.add c x time).tabs → u = yqb c x time ∨ u ∈ b.tabs := fun u hu => by
  rcases List.mem_append.1 hu with h1 | h1
  · exact .inr (List.mem_of_mem_take h1)
  · rcases List.mem_cons.1 h1 with rfl | h1
    · exact .inl rfl
    · exact .inr (List.mem_of_mem_drop h1)
 refine ⟨⟨?_, ?_, ?_⟩, ?_, ⟨?_, by omega, fun j hj => ?_⟩, k1, lp, ?_, ?_⟩
 · show addA A b c x time (0, b.p) = _
   unfold addA
   rw [zza _ _ (by simp; omega), zza _ _ (by simp; omega), zza _ _ (by simp; omega), zzc]; rfl
 · show addA A b c x time (0, c + 3) = _
   unfold addA
   rw [zza _ _ (by simp), zza _ _ (by simp), zzc]
 · intro u hu
   rcases hm u hu with rfl | hu
   · exact hT
   · exact kt u hu
 · refine (List.pairwise_middle (fun h => Apt.symm h)).2 (List.pairwise_cons.2 ⟨fun u h1 => ?_, by rw [List.take_append_drop]; exact nd⟩)
   rw [List.take_append_drop] at h1
   refine ⟨fun e => ?_, fun q e => (by cases e)⟩
   have := (hne _ _ (b3 u h1).1).2
   have e' : c + 1 = u.p := e
   omega
 · unfold addA; rw [zzc]
 · unfold addA
   rw [zza _ _ (by simp; omega), zza _ _ (by simp; omega), zza _ _ (by simp; omega), zza _ _ (by simp; omega)]
   exact hcn.2.2 j (by omega)
 · intro q e
   cases e
   omega
 · intro u hu
   rcases hm u hu with rfl | hu
   · exact ⟨by show k ≤ c + 1; omega, fun q e => by cases e⟩
   · exact lt u hu
theorem y23 {A : AMap} {b : Bs} {k c : Nat} {x : Chg} {time : Int} (h : BW A b k c) : Low k A (addA A b c x time) := fun κ h0 h1 => by
 have h2 := h.lp
 have h3 := h.cn.lt (show A (0, b.p) ≠ none by rw [h.ba.1]; simp)
 refine z26 b c x time ?_ ?_ ?_ h0 <;> (rintro rfl; simp at h1; omega)
theorem BW.low {A A' : AMap} {b : Bs} {k c c' : Nat} (h : BW A b k c) (hl : Low c A A') (cn : Cn A' c') : BW A' b k c' := by
 obtain ⟨⟨b1, b2, b3⟩, nd, hcn, k1, lp, lq, lt⟩ := h
 have keep : ∀ x ar, A (0, x) = some (.pr x ar) → A' (0, x) = A (0, x) := fun x ar hx => by
  have := hcn.ne hx
  exact hl _ (by simp; omega) (.inr this.2)
 refine ⟨⟨(keep _ _ b1).trans b1, yw6 (fun e => zk5 b2 e) (fun q e => (keep _ _ (zqo b2 e)).trans (zqo b2 e)), fun t ht => z92 (b3 t ht) (keep _ _ (b3 t ht).1) (fun q e => keep _ _ (zqo (b3 t ht).2 e))⟩, nd, cn, k1, lp, lq, lt⟩
theorem yqf (ps : List Piece) (s : Sp) (r : Row) : (putP ps s r).length ≤ ps.length + 2 := by
 cases h : right ps with
 | true => exact y4n h
 | false => unfold putP; rw [h]; simp
theorem yzn (ps : List Piece) (s : Sp) : (drop ps s).length ≤ ps.length + 1 := by
 cases h : right ps with
 | true => exact yjx h
 | false => unfold drop; rw [h]; simp
theorem z4o {ps : List Piece} {s : Sp} {x : Piece} (h : x ∈ drop ps s) : ∃ p ∈ ps, x.row = p.row := by
 unfold drop at h
 split at h
 · unfold rests at h
   obtain ⟨p, hp, hx⟩ := List.mem_flatMap.1 h
   unfold zwm at hx
   obtain ⟨c, _, rfl⟩ := List.mem_map.1 hx
   exact ⟨p, hp, rfl⟩
 · exact ⟨x, h, rfl⟩
theorem ykk {ps : List Piece} {s : Sp} {r : Row} {x : Piece} (h : x ∈ putP ps s r) : x.row = r ∨ ∃ p ∈ ps, x.row = p.row := by
 unfold putP at h
 split at h
 · rcases List.mem_append.1 h with h | h
   · exact .inr (z4o ((List.takeWhile_sublist _).subset h))
   · rcases List.mem_cons.1 h with rfl | h
     · exact .inl rfl
     · exact .inr (z4o ((List.dropWhile_sublist _).subset h))
 · exact .inr ⟨x, h, rfl⟩
theorem y2p {l : List Ver} {t : Int} {x : Piece} (h : x ∈ vAt l t) : ∃ v ∈ l, x = v.p := by
 unfold vAt at h
 split at h
 · rcases yj3 _ h with h | ⟨v, hv, e⟩
   · cases h
   · exact ⟨v, (List.mem_filter.1 hv).1, e⟩
 · cases h
def z68 (r : Row) : Prop := r.length ≤ 16 ∧ Row.ok' r
structure EnOK (N P W : Nat) (e : En) : Prop where
 key : e.key.length ≤ 70000
 l : e.l.length ≤ N
 lr : ∀ v ∈ e.l, z68 v.p.row
 at' : (vAt e.l 1099511627775).length ≤ P
 w : e.now.length ≤ W
 nr : ∀ p ∈ e.now, z68 p.row
structure TbOK (M N P W : Nat) (t : Tb) : Prop where
 name : t.name.length ≤ 32
 d0 : t.defs ≠ []
 dl : t.defs.length ≤ M
 ds : ∀ d ∈ t.defs, zxt d.s = true ∧ d.s.sz
 kl : t.keys.length ≤ M
 ks : ∀ e ∈ t.keys, EnOK N P W e
structure LOK (M N P W : Nat) (L : List Tb) : Prop where
 l : L.length ≤ M
 t : ∀ t ∈ L, TbOK M N P W t
theorem EnOK.mono {N P W W' : Nat} {e : En} (h : EnOK N P W e) (hw : W ≤ W') : EnOK N P W' e := ⟨h.key, h.l, h.lr, h.at', by have := h.w; omega, h.nr⟩
theorem TbOK.mono {M M' N P W W' : Nat} {t : Tb} (h : TbOK M N P W t) (hm : M ≤ M') (hw : W ≤ W') : TbOK M' N P W' t :=
 ⟨h.name, h.d0, by have := h.dl; omega, h.ds, by have := h.kl; omega, fun e he => (h.ks e he).mono hw⟩
theorem LOK.mono {M M' N P W W' : Nat} {L : List Tb} (h : LOK M N P W L) (hm : M ≤ M') (hw : W ≤ W') : LOK M' N P W' L :=
 ⟨by have := h.l; omega, fun t ht => (h.t t ht).mono hm hw⟩
theorem z2i {s : Sch} (h : zxt s = true) : s.name.length ≤ 32 ∧ s.cols.length ≤ 16 ∧ 1 ≤ s.keys ∧ s.keys ≤ 8 ∧ s.keys ≤ s.cols.length := by
 unfold zxt z2h zvn at h
 simp only [Bool.and_eq_true, Bool.not_eq_true', decide_eq_true_eq, decide_eq_false_iff_not] at h
 omega
theorem yj9 {r : Row} : (keyB r).length ≤ 70000 := by
 unfold keyB
 split
 · rename_i h
   unfold zx4 at h
   simp only [Bool.and_eq_true, decide_eq_true_eq] at h
   have := z4s r (z1y h.1)
   rw [Zla, List.length_singleton]
   omega
 · simp
theorem EnOK.step {N P W : Nat} {e : En} {x : Chg} (h : EnOK N P W e) (hx : z68 x.row) (hp : P ≤ W) : EnOK N P (W + 2) (e.step x) := by
 have h0 : ∀ now : List Piece, now.length ≤ W → (∀ p ∈ now, z68 p.row) → (if (x.op == 1) = true then putP now (x.lo, x.hi) x.row else drop now (x.lo, x.hi)).length ≤ W + 2 ∧ ∀ p ∈ (if (x.op == 1) = true then putP now (x.lo, x.hi) x.row else drop now (x.lo, x.hi)), z68 p.row := fun now hl hr => by
  split
  · refine ⟨?_, fun p hp => ?_⟩
    · have := yqf now (x.lo, x.hi) x.row; omega
    · rcases ykk hp with e | ⟨q, hq, e⟩
      · rw [e]; exact hx
      · rw [e]; exact hr q hq
  · refine ⟨?_, fun p hp => ?_⟩
    · have := yzn now (x.lo, x.hi); omega
    · obtain ⟨q, hq, e⟩ := z4o hp
      rw [e]; exact hr q hq
 have h1 : (if e.named = true then e.now else vAt e.l 1099511627775).length ≤ W ∧ ∀ p ∈ (if e.named = true then e.now else vAt e.l 1099511627775), z68 p.row := by
  split
  · exact ⟨h.w, h.nr⟩
  · refine ⟨by have := h.at'; omega, fun p hp => ?_⟩
    obtain ⟨v, hv, rfl⟩ := y2p hp
    exact h.lr v hv
 have h2 := h0 _ h1.1 h1.2
 exact ⟨h.key, h.l, h.lr, h.at', h2.1, h2.2⟩
theorem y3m {l : List En} {k : List UInt8} {e : En} (h : e ∈ eIns l k) : e = zky k ∨ e ∈ l := by
 rcases List.mem_append.1 h with h | h
 · exact .inr (List.mem_of_mem_take h)
 · rcases List.mem_cons.1 h with rfl | h
   · exact .inl rfl
   · exact .inr (List.mem_of_mem_drop h)
theorem y0r {N P W : Nat} {l : List En} {k : List UInt8} (h : ∀ e ∈ l, EnOK N P W e) (hk : k.length ≤ 70000) : (eLay l k).length ≤ l.length + 1 ∧ ∀ e ∈ eLay l k, EnOK N P W e := by
 unfold eLay
 split
 · exact ⟨by omega, h⟩
 · refine ⟨by unfold eIns; simp; omega, fun e he => ?_⟩
   rcases y3m he with rfl | he
   · exact ⟨hk, by simp [zky], fun v hv => by simp [zky] at hv, by have := z08 (zky k).l 1099511627775; simp [zky] at this ⊢; rw [this]; simp, by simp [zky], fun v hv => by simp [zky] at hv⟩
   · exact h e he
theorem y3n {N P W : Nat} {l : List En} {i : Nat} {x : Chg} (h : ∀ e ∈ l, EnOK N P W e) (hx : z68 x.row) (hp : P ≤ W) : (yxk l i x).length = l.length ∧ ∀ e ∈ yxk l i x, EnOK N P (W + 2) e := by
 unfold yxk
 cases hg : l[i]? with
 | none => exact ⟨rfl, fun e he => (h e he).mono (by omega)⟩
 | some e =>
   refine ⟨by simp, fun y hy => ?_⟩
   rcases List.mem_or_eq_of_mem_set hy with hy | rfl
   · exact (h y hy).mono (by omega)
   · exact (h e (Zme hg)).step hx hp
theorem LOK.set {M N P W : Nat} {L : List Tb} {i : Nat} {t : Tb} (h : LOK M N P W L) (ht : TbOK M N P W t) : LOK M N P W (L.set i t) :=
 ⟨by rw [List.length_set]; exact h.l, fun u hu => by
   rcases List.mem_or_eq_of_mem_set hu with hu | rfl
   · exact h.t u hu
   · exact ht⟩
def Chg.good (x : Chg) : Prop := z8n x = true ∧ x.sm
theorem Chg.good.sch {x : Chg} (h : x.good) (ho : (x.op == 3) = true) : zxt x.d = true ∧ x.tab = x.d.name := by
 have h1 := h.1
 unfold z8n at h1
 rw [if_pos ho] at h1
 unfold y3i at h1
 simp only [Bool.and_eq_true, beq_iff_eq] at h1
 exact ⟨h1.1.1.1, h1.1.1.2⟩
theorem Chg.good.row {x : Chg} (h : x.good) (ho : (x.op == 3) = false) : z68 x.row ∧ x.tab.length ≤ 32 ∧ zqi x.row = true := by
 have h1 := h.1
 unfold z8n at h1
 rw [if_neg (by simp [ho])] at h1
 unfold z9l z6g zvn at h1
 simp only [Bool.and_eq_true, Bool.not_eq_true', decide_eq_true_eq] at h1
 refine ⟨⟨?_, h.2.2.2.2.2.2.2⟩, by omega, h1.1.1.2.1⟩
 have h2 := h1.1.1.2.2.2
 split at h2 <;> omega
theorem y6t {M N P W : Nat} {L : List Tb} {x : Chg} {time : Int} (h : LOK M N P W L) (hx : x.good) (hp : P ≤ W) : LOK (M + 1) N P (W + 2) (chgS L x time).2 := by
 have h' : LOK (M + 1) N P (W + 2) L := h.mono (by omega) (by omega)
 unfold chgS
 split
 · split
   · exact h'
   · rename_i t ht
     have ht1 := h.t t (Zme ht)
     split
     · exact h'
     · rename_i d hd
       have hds := ht1.ds d (Zme hd)
       split
       · rename_i ho
         split
         · refine h'.set ⟨ht1.name, by simp [Tb.redef], ?_, fun e he => ?_, by have := ht1.kl; show t.keys.length ≤ _; omega, fun e he => (ht1.ks e he).mono (by omega)⟩
           · have := ht1.dl
             simp only [Tb.redef, Zla, Zlt, List.length_singleton]
             omega
           · rcases List.mem_append.1 he with he | he
             · exact ht1.ds e (List.mem_of_mem_take he)
             · rw [Zmg] at he
               subst he
               exact ⟨(hx.sch ho).1, hx.2.sz.1⟩
         · exact h'
       · rename_i ho
         split
         · exact h'
         · have hr := hx.row (by simpa using ho)
           have hk := y0r ht1.ks (k := zje d.s x) yj9
           have hs := y3n (i := eplace t.keys (zje d.s x)) hk.2 hr.1 hp
           refine h'.set ⟨ht1.name, ht1.d0, by have := ht1.dl; show t.defs.length ≤ _; omega, ht1.ds, ?_, hs.2⟩
           have := ht1.kl
           show (yxk _ _ _).length ≤ _
           omega
 · split
   · rename_i ho
     refine ⟨?_, fun t ht => ?_⟩
     · have := h.l; simp; omega
     · rcases List.mem_append.1 ht with ht | ht
       · exact h'.t t (List.mem_of_mem_take ht)
       · rcases List.mem_cons.1 ht with rfl | ht
         · have hs := hx.sch ho
           have hn := (z2i hs.1).1
           exact ⟨by show x.tab.length ≤ 32; rw [hs.2]; exact hn, by simp, by simp, fun d hd => by simp at hd; subst hd; exact ⟨hs.1, hx.2.sz.1⟩, by simp, fun e he => by cases he⟩
         · exact h'.t t (List.mem_of_mem_drop ht)
   · exact h'
theorem LOK.of_abs {M N P W : Nat} {b : Bs} (h : LOK M N P W b.abs) : b.tabs.length ≤ M ∧ ∀ t ∈ b.tabs, TbOK M N P W t := by
 refine ⟨by have := h.l; unfold Bs.abs at this; rwa [List.length_map] at this, fun t ht => ?_⟩
 have h1 := h.t t.abs (List.mem_map_of_mem ht)
 exact ⟨h1.name, h1.d0, h1.dl, h1.ds, h1.kl, h1.ks⟩
theorem ykc {α : Type} {l : List α} (h : l ≠ []) : ∃ d, l[l.length - 1]? = some d := by
 have : 0 < l.length := List.length_pos_iff.2 h
 exact ⟨l[l.length - 1], Zge (by omega)⟩
structure Like (b b' : Bs) : Prop where
 p : b'.p = b.p
 seq : b'.seq = b.seq
 time : b'.time = b.time
 hor : b'.hor = b.hor
def Chd (A : AMap) (b : Bs) (k c : Nat) (L : List Tb) (A' : AMap) : Prop := ∃ b' c', BW A' b' k c' ∧ c ≤ c' ∧ Low k A A' ∧ (∀ κ, A κ ≠ none → A' κ ≠ none) ∧ b'.abs = L ∧ Like b b'
theorem Chd.none {A : AMap} {b : Bs} {k c : Nat} (h : BW A b k c) : Chd A b k c b.abs A := ⟨b, c, h, Zlr _, Low.refl, fun _ h => h, rfl, ⟨rfl, rfl, rfl, rfl⟩⟩
theorem y4s {A : AMap} {b : Bs} {k c i : Nat} {t : Tb} {d : Df} {time : Int} {s : Sch} (h : BW A b k c) (ht : b.tabs[i]? = some t) : Chd A b k c (b.abs.set i (t.abs.redef d time s)) (redA A t d time s) := by
 have htm := Zme ht
 have hT := h.ba.2.2 t htm
 have h0 := h.cn.ne hT.1
 refine ⟨{ b with tabs := b.tabs.set i (t.redef d time s) }, c, h.tab ht rfl (fun _ e => .inl e) ⟨?_, h.cn.2.1, fun j hj => ?_⟩ ⟨?_, ?_⟩ (fun κ _ _ h1 _ => ?_), Zlr _, fun κ k0 k1 => ?_, fun κ hκ => ?_, ?_, ⟨rfl, rfl, rfl, rfl⟩⟩
 · unfold redA; rw [zza _ _ (by simp; omega)]; exact h.cn.1
 · unfold redA; rw [zza _ _ (by simp; omega)]; exact h.cn.2.2 j hj
 · show redA A t d time s (0, t.p) = _
   unfold redA; rw [zzc]; rfl
 · show ArAt (redA A t d time s) t.q 4 (t.keys.map En.enc)
   refine yw6 (fun e => zk5 hT.2 e) fun q e => ?_
   have hx := zqo hT.2 e
   unfold redA; rw [zza _ _ (fun e => z6c hx hT.1 (by simp) (Prod.mk.inj e).2), hx]
 · unfold redA; rw [zza _ _ h1]
 · unfold redA; rw [zza _ _ (by rintro rfl; have := (h.lt t htm).1; simp at k1; omega)]
 · unfold redA upd
   split
   · simp
   · exact hκ
 · unfold Bs.abs; rw [List.map_set]; rfl
theorem y41 {A A' : AMap} {b : Bs} {k c c' i j q : Nat} {t t1 : Tb} {e : En} {x : Chg} {kk : List UInt8} (h : BW A b k c) (ht : b.tabs[i]? = some t) (hp : t1.p = t.p) (hq : t1.q = some q) (hq2 : t.q = some q ∨ c ≤ q) (hc : c ≤ c') (cn : Cn A' c') (hT : TAt A' t1)
 (hA : ∀ κ, κ ≠ (0, 0) → κ ≠ (0, t.p) → κ ≠ (0, q) → A' κ = A κ) (hk : ∀ κ, A κ ≠ none → A' κ ≠ none) (e1 : t1.name = t.name) (e2 : t1.defs = t.defs) (e3 : t1.keys.set j (e.step x) = (t.row kk x).keys) :
 Chd A b k c (b.abs.set i (t.abs.row kk x)) (setA A' q t1.keys j (e.step x)) := by
 have htm := Zme ht
 have hTo := h.ba.2.2 t htm
 have h0 := h.cn.ne hTo.1
 have hq1 := zqo hT.2 hq
 have hq0 := cn.ne hq1
 have htq : t.p ≠ q := fun e => by
  have := hT.1
  rw [hp, e, hq1] at this
  simp at this
 refine ⟨{ b with tabs := b.tabs.set i { t1 with keys := t1.keys.set j (e.step x) } }, c', h.tab ht hp ?_ ⟨?_, cn.2.1, fun j hj => ?_⟩ ⟨?_, ?_⟩ (fun κ _ k0 k1 k2 => ?_), hc, fun κ k0 k1 => ?_, fun κ hκ => ?_, ?_, ⟨rfl, rfl, rfl, rfl⟩⟩
 · intro q' e
   have e' : t1.q = some q' := e
   rw [hq] at e'
   cases e'
   exact hq2
 · unfold setA; rw [zza _ _ (by simp; omega)]; exact cn.1
 · unfold setA; rw [zza _ _ (by simp; omega)]; exact cn.2.2 j hj
 · show setA A' q t1.keys j (e.step x) (0, t1.p) = _
   unfold setA; rw [zza _ _ (by rw [hp]; simp; exact htq), hT.1]
   unfold Tb.cells
   simp
 · show ArAt _ t1.q 4 _
   rw [hq]
   show setA A' q t1.keys j (e.step x) (0, q) = _
   unfold setA; rw [zzc]
 · by_cases e4 : κ = (0, q)
   · rcases hq2 with h2 | h2
     · exact absurd e4 (k2 q h2)
     · rename_i hn
       rw [e4] at hn
       exact absurd (h.cn.2.2 q h2) hn
   · unfold setA; rw [zza _ _ e4]; exact hA κ k0 k1 e4
 · have hl := h.lt t htm
   have hkq : k ≤ q := by
    rcases hq2 with h2 | h2
    · exact hl.2 q h2
    · have := hl.1; omega
   have e4 : κ ≠ (0, q) := by rintro rfl; simp at k1; omega
   unfold setA; rw [zza _ _ e4]
   exact hA κ k0 (by rintro rfl; have := hl.1; simp at k1; omega) e4
 · unfold setA upd
   split
   · simp
   · exact hk κ hκ
 · unfold Bs.abs; rw [List.map_set]
   have : ({ t1 with keys := t1.keys.set j (e.step x) } : Tb).abs = t.abs.row kk x := by
    unfold Tb.abs Tb.row
    rw [e1, e2, e3]
    rfl
   rw [this]
theorem y66 {l : List En} {k : List UInt8} (h : eIs l k = true) : ∃ e, l[eplace l k]? = some e := by
 unfold eIs at h
 split at h
 · rename_i e he; exact ⟨e, he⟩
 · cases h
theorem y3l (l : List En) (k : List UInt8) : (eIns l k)[eplace l k]? = some (zky k) := by
 unfold eIns
 rw [List.getElem?_append_right (by rw [Zlt]; have := z5q l k; omega)]
 rw [Zlt, Nat.min_eq_left (z5q l k), Nat.sub_self]; rfl
theorem Tryz.rChange (off : Nat) {A : AMap} {M N P W k c : Nat} (b : Bs) (x : Chg) (time : Int) (h : BW A b k c) (hL : LOK M N P W b.abs) (hM : M ≤ 1048576) (hN : N ≤ 131072) (hP : P ≤ 131072) (hW : W ≤ 131072) (hx : x.good) :
 ∃ A', zqf Tryz.prog 44 off noH A [rfD b.p, pA x.enc, pD (dI time)] (pD (dI (chgS b.abs x time).1)) noH A' ∧ Chd A b k c (chgS b.abs x time).2 A' := by
 obtain ⟨hl, hts⟩ := hL.of_abs
 have hn : ∀ t ∈ b.tabs, t.name.length ≤ 1048576 := fun t ht => by have := (hts t ht).name; omega
 have hl' : b.tabs.length ≤ 1048576 := by omega
 have h0 := (h.cn.ne h.ba.1).1
 cases his : isAt b.tabs x.tab with
 | true =>
   obtain ⟨t, ht, -⟩ := y3z his
   have htm := Zme ht
   have hTo := hts t htm
   obtain ⟨d, hd⟩ := ykc hTo.d0
   have hds := hTo.ds d (Zme hd)
   have hdl : t.defs.length ≤ 1048576 := by have := hTo.dl; omega
   have hsp := z2i hds.1
   have ea : b.abs[place b.tabs x.tab]? = some t.abs := by unfold Bs.abs; rw [List.getElem?_map, ht]; rfl
   have hd' : t.abs.defs[t.abs.defs.length - 1]? = some d := hd
   have ec : chgS b.abs x time = if (x.op == 3) = true then (if ext d.s x.d = true then (0, b.abs.set (place b.tabs x.tab) (t.abs.redef d time x.d)) else (11, b.abs))
    else if (zjz d.s x != 0) = true then (zjz d.s x, b.abs) else (0, b.abs.set (place b.tabs x.tab) (t.abs.row (zje d.s x) x)) := by
    unfold chgS
    have e1 : isAt b.abs x.tab = true := by unfold Bs.abs; rw [yj6]; exact his
    have e2 : place b.abs x.tab = place b.tabs x.tab := by unfold Bs.abs; exact z6b _ _
    rw [if_pos e1, e2, ea]
    simp only [hd']
   rw [ec]
   cases hop : (x.op == 3) with
   | true =>
     simp only [if_true]
     cases he : ext d.s x.d with
     | true =>
       simp only [if_true]
       have hr := y4s (d := d) (time := time) (s := x.d) h ht
       obtain ⟨b', c', g1, g2, g3, g4, g5, g6⟩ := hr
       exact ⟨_, Tryz.rChgDef off b x time 0 hop g4 (Tryz.rDefExt (off + 1000) b x time h.ba hl' hn his ht hd hdl hds.2 hx.2.sz.1 he hx.2.2.2.2.1), b', c', g1, g2, g3, g4, g5, g6⟩
     | false =>
       exact ⟨_, Tryz.rChgDef off b x time 11 hop (fun _ h => h) (Tryz.rDefNo (off + 1000) b x time h.ba hl' hn his ht hd hdl hds.2 hx.2.sz.1 he), Chd.none h⟩
   | false =>
     simp only [Bool.false_eq_true, if_false]
     have hr := hx.row hop
     have hrl : x.row.length ≤ 1048576 := by have := hr.1.1; omega
     cases he : (zjz d.s x != 0) with
     | true =>
       simp only [if_true]
       exact ⟨_, Tryz.rChgBad off b x time hop h.ba hl' hn his ht hd hdl hds.2 (by omega) hrl hr.1.2 he, Chd.none h⟩
     | false =>
       simp only [Bool.false_eq_true, if_false]
       have he' : zjz d.s x = 0 := by simpa using he
       have hkl : t.keys.length ≤ 1048576 := by have := hTo.kl; omega
       have hkn : ∀ e ∈ t.keys, e.key.length ≤ 1048576 := fun e he => by have := (hTo.ks e he).key; omega
       have hT := h.ba.2.2 t htm
       have go : ∀ {A1 : AMap} {t1 : Tb} {q j : Nat} {e : En} {c' : Nat}, zqf Tryz.prog 66 (off + 1000) noH A [rfD t.p, pD (dS (zje d.s x))] (pD (dI j)) noH A1 → (∀ κ, A κ ≠ none → A1 κ ≠ none) → TAt A1 t1 → t1.p = t.p → t1.q = some q → t1.keys[j]? = some e → EnOK N P W e →
        (t.q = some q ∨ c ≤ q) → c ≤ c' → Cn A1 c' → (∀ κ, κ ≠ (0, 0) → κ ≠ (0, t.p) → κ ≠ (0, q) → A1 κ = A κ) → t1.name = t.name → t1.defs = t.defs → t1.keys.set j (e.step x) = (t.row (zje d.s x) x).keys →
        ∃ A', zqf Tryz.prog 44 off noH A [rfD b.p, pA x.enc, pD (dI time)] (pD (dI 0)) noH A' ∧ Chd A b k c (b.abs.set (place b.tabs x.tab) (t.abs.row (zje d.s x) x)) A' := by
        intro A1 t1 q j e c' ken hk1 hT1 hp1 hq1 hg hen hq2 hc1 cn1 hA1 e1 e2 e3
        have hat : (vAt e.l 1099511627775).length ≤ 131072 := by have := hen.at'; omega
        have hsrc : ∀ v ∈ vAt e.l 1099511627775, z68 v.row := fun p hp => by
         obtain ⟨v, hv, rfl⟩ := y2p hp
         exact hen.lr v hv
        refine ⟨_, Tryz.rChgRow off b x time hop h.ba hl' hn his ht hd hdl hds.2 (by omega) hrl hr.1.2 he' ken hk1 (hp1 ▸ hT1.1) hq1 (zqo hT1.2 hq1) hg (by have := hen.l; omega) (fun v hv => by have := (hen.lr v hv).1; omega) (fun v hv => (hen.lr v hv).2)
         (by have := hen.w; omega) (fun v hv => by have := (hen.nr v hv).1; omega) (fun v hv => (hen.nr v hv).2) hat (fun v hv => by have := (hsrc v hv).1; omega) (fun v hv => (hsrc v hv).2), ?_⟩
        exact y41 h ht hp1 hq1 hq2 hc1 cn1 hT1 hA1 hk1 e1 e2 e3
       cases hes : eIs t.keys (zje d.s x) with
       | true =>
         obtain ⟨e, heg⟩ := y66 hes
         obtain ⟨q, hq, -⟩ := z97 hT.2 (by have := (List.getElem?_eq_some_iff.1 heg).1; simp; omega)
         exact go (Tryz.rEntryIs (off + 1000) t _ hT hkl hkn hes) (fun _ h => h) hT rfl hq heg (hTo.ks e (Zme heg)) (.inl hq) (Zlr _) h.cn (fun _ _ _ _ => rfl) rfl rfl (by unfold Tb.row eLay yxk; simp [hes, heg])
       | false =>
         have htp := h.cn.ne hT.1
         have hge := y3l t.keys (zje d.s x)
         exact go (t1 := t.ins c (zje d.s x)) (Tryz.rEntryNo (off + 1000) t _ c hT htp.1 h.cn hkl hkn hes) (z82 t c _) (y09 t c _ htp.1 htp.2) rfl rfl hge ((y0r hTo.ks (k := zje d.s x) yj9).2 _ (by unfold eLay; rw [hes]; exact Zme hge)) (.inr (by omega)) (by omega) (y7g t c _ h.cn htp.2)
          (fun κ h1 h2 h3 => z7v t c _ h2 h3 h1) rfl rfl (by unfold Tb.row eLay yxk; simp [hes, hge, Tb.ins])
 | false =>
   have ec : chgS b.abs x time = if (x.op == 3) = true then (0, b.abs.take (place b.tabs x.tab) ++ ⟨0, none, x.tab, [⟨time, x.d⟩], []⟩ :: b.abs.drop (place b.tabs x.tab)) else (18, b.abs) := by
    unfold chgS
    have e1 : isAt b.abs x.tab = false := by unfold Bs.abs; rw [yj6]; exact his
    have e2 : place b.abs x.tab = place b.tabs x.tab := by unfold Bs.abs; exact z6b _ _
    rw [e1, e2]; rfl
   rw [ec]
   cases hop : (x.op == 3) with
   | true =>
     simp only [if_true]
     exact ⟨_, Tryz.rChgDef off b x time 0 hop (z8j b c x time) (Tryz.rDefNew (off + 1000) b x time c h.ba h0 h.cn hl' hn hx.2.2.2.2.1 his), b.add c x time, c + 4, h.add, by omega, y23 h, z8j b c x time, by simp [Bs.abs, Bs.add, yqb, Tb.abs], ⟨rfl, rfl, rfl, rfl⟩⟩
   | false =>
     exact ⟨_, Tryz.rChgNone off b x time hop h.ba hl' hn his, Chd.none h⟩
end Go.Proofs
