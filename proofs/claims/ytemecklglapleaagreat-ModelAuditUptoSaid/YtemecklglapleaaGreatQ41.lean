/-
  Parts of the proof, laid together: PwHc, PwHd, PwHe, PwHf, PwNa.
-/
import Derived.Test.YtemecklglapleaaGreatQ40
import Derived.Test.YtemecklglapleaaGreatQ36
import Derived.Test.YtemecklglapleaaGreatQ37
import Derived.Test.YtemecklglapleaaGreatQ39
import Derived.Test.YtemecklglapleaaGreatQ34

namespace Go.Proofs
open Go.PW
section
variable {σ : Type}
def selC (tab : List UInt8) (step : σ → Chg → σ) (s : σ) (c : Chg) : σ := if (c.tab == tab) = true then step s c else s
def cutT (l : List Txn) (t : Int) : List Txn := l.takeWhile fun x => decide (x.time ≤ t)
theorem z2e (tab : List UInt8) (t : Int) (step : σ → Chg → σ) (time : Int) : ∀ (l : List Chg) (p : Nat × σ), (l.foldl (zxn tab t step time) p).2 = if time ≤ t then l.foldl (selC tab step) p.2 else p.2
 | [], p => by simp
 | c :: l, p => by
   rw [List.foldl_cons, List.foldl_cons, z2e tab t step time l]
   by_cases h : time ≤ t
   · rw [if_pos h, if_pos h]
     congr 1
     unfold zxn selC
     rw [decide_eq_true h, Bool.true_and]
     split <;> rfl
   · rw [if_neg h, if_neg h]
     unfold zxn
     rw [decide_eq_false h, Bool.false_and]
     rfl
theorem z7s {tab : List UInt8} {t : Int} {step : σ → Chg → σ} : ∀ {l : List Txn} {p : Nat × σ}, (∀ x ∈ l, ¬ x.time ≤ t) → (zxv l tab t step p).2 = p.2
 | [], _, _ => rfl
 | x :: l, p, h => by
   have e : zxv (x :: l) tab t step p = zxv l tab t step (x.chs.foldl (zxn tab t step x.time) p) := rfl
   rw [e, z7s (fun y hy => h y (List.mem_cons_of_mem _ hy)), z2e, if_neg (h x (Zms2 ..))]
theorem z5p {tab : List UInt8} {t : Int} {step : σ → Chg → σ} : ∀ {l : List Txn} {p : Nat × σ}, (l.Pairwise fun a b => a.time < b.time) → (zxv l tab t step p).2 = (zki (cutT l t)).foldl (selC tab step) p.2
 | [], _, _ => rfl
 | x :: l, p, h => by
   obtain ⟨h1, h2⟩ := List.pairwise_cons.1 h
   have e : zxv (x :: l) tab t step p = zxv l tab t step (x.chs.foldl (zxn tab t step x.time) p) := rfl
   by_cases hx : x.time ≤ t
   · have ec : cutT (x :: l) t = x :: cutT l t := by unfold cutT; rw [List.takeWhile_cons, if_pos (decide_eq_true hx)]
     have ef : zki (x :: cutT l t) = x.chs ++ zki (cutT l t) := rfl
     rw [e, z5p h2, ec, ef, List.foldl_append, z2e, if_pos hx]
   · have ec : cutT (x :: l) t = [] := by unfold cutT; rw [List.takeWhile_cons, if_neg (by simpa using hx)]
     rw [e, ec, z7s (fun y hy hle => hx (by have := h1 y hy; omega)), z2e, if_neg hx]
     rfl
end
theorem twM {α : Type} {p : α → Bool} : ∀ {l : List α} {x : α}, x ∈ l.takeWhile p → p x = true
 | [], _, h => by simp at h
 | a :: l, x, h => by
   rw [List.takeWhile_cons] at h
   split at h
   · rename_i ha
     rcases List.mem_cons.1 h with rfl | h
     · exact ha
     · exact twM h
   · simp at h
theorem twA {α : Type} {p : α → Bool} : ∀ {l : List α}, (∀ x ∈ l, p x = true) → l.takeWhile p = l
 | [], _ => rfl
 | a :: l, h => by
   rw [List.takeWhile_cons, if_pos (h a (Zms2 ..)), twA (fun x hx => h x (List.mem_cons_of_mem _ hx))]
theorem z1n (l : List Txn) (t : Int) : ∃ r, l = cutT l t ++ r ∧ ∀ x ∈ cutT l t, x.time ≤ t := by
 refine ⟨l.dropWhile fun x => decide (x.time ≤ t), (List.takeWhile_append_dropWhile).symm, fun x hx => ?_⟩
 exact of_decide_eq_true (twM (p := fun x : Txn => decide (x.time ≤ t)) hx)
theorem z5k {l : List Txn} {t : Int} (h : ∀ x ∈ l, x.time ≤ t) : cutT l t = l := by
 unfold cutT
 exact twA fun x hx => decide_eq_true (h x hx)
theorem z5t (a b : List Txn) : zki (a ++ b) = zki a ++ zki b := by unfold zki; rw [List.flatMap_append]
theorem Accd.pre {a b : List Txn} (h : Accd (a ++ b)) : Accd a := by
 refine ⟨(List.pairwise_append.1 h.rise).1, fun x hx => h.ok x (List.mem_append.2 (.inl hx)), fun k => ?_⟩
 have := h.chain k
 rw [z5t, z19] at this
 exact this.1
theorem y48 {x : Txn} (h : z0n x = true) : 0 ≤ x.time ∧ x.time < 1099511627776 := by
 unfold z0n at h
 simp only [Bool.and_eq_true, decide_eq_true_eq] at h
 exact ⟨h.2.1.1.2, h.2.1.2⟩
theorem y77 (tab : List UInt8) : selC tab z3n = nxtS tab := by
 funext s x
 unfold selC nxtS z3n
 cases h : (x.tab == tab) <;> cases h2 : (x.op == 3) <;> simp
theorem z2u {l : List Txn} (h : Accd l) (tab : List UInt8) (t : Int) : schS l tab t = (zki (cutT l t)).foldl (nxtS tab) none := by
 unfold schS
 rw [z5p h.rise, y77]
theorem y4y {l : List Txn} (h : Accd l) (tab : List UInt8) : schS l tab 1099511627776 = (zki l).foldl (nxtS tab) none := by
 rw [z2u h, z5k (fun x hx => by have := (y48 (h.ok x hx)).2; omega)]
section
variable {σ : Type}
end
theorem zv8 {σ : Type} {l : List Txn} (h : Accd l) (tab : List UInt8) (t : Int) (step : σ → List UInt8 → Chg → σ) (p : Nat × σ) :
 (z0g l tab t step p).2 = (zki (cutT l t)).foldl (selC tab (zqp ((zki l).foldl (nxtS tab) none) step)) p.2 := by
 unfold z0g
 rw [z5p h.rise, y4y h]
end Go.Proofs
namespace Go.Proofs
open Go.PW
theorem z94 {less : List Txn} {x : Txn} (h : Accd (less ++ [x])) : ∀ y ∈ less, y.time < x.time := fun y hy => (List.pairwise_append.1 h.rise).2.2 y hy x (List.mem_singleton.2 rfl)
def xvq (s : Sch) (r : Row) : Prop := zxt s = true ∧ r.length ≤ s.cols.length ∧ fits s (z0p s r) = 0
theorem xv1 {s : Sch} {r : Row} (h : xvq s r) : widen s r = z0p s r := by
 unfold widen
 rw [if_pos h.1, if_neg (by rw [decide_eq_true_eq]; have := h.2.1; omega), if_pos h.2.2]
theorem xwf {s : Sch} {r : Row} : fits s r = 0 ↔ zxt s = true ∧ r.length = s.cols.length ∧ r.zipIdx.all (z5s s) = true := by
 unfold fits
 cases h1 : zxt s with
 | false => simp
 | true =>
   by_cases h2 : (r.length : Int) = (s.cols.length : Int)
   · have h2' : r.length = s.cols.length := by omega
     cases h3 : r.zipIdx.all (z5s s) <;> simp [h2']
   · have h2' : ¬ r.length = s.cols.length := by omega
     simp [h2, h2']
theorem xwh {s : Sch} {r : Row} (h : fits s r = 0) : xvq s r := by
 obtain ⟨h1, h2, h3⟩ := xwf.1 h
 have e : z0p s r = r := by unfold z0p; rw [h2, Nat.sub_self, List.replicate_zero, List.append_nil]
 exact ⟨h1, by omega, by rw [e]; exact h⟩
theorem xvn {α : Type} {f : α × Nat → Bool} {l : List α} : l.zipIdx.all f = true ↔ ∀ i (h : i < l.length), f (l[i], i) = true := by
 rw [List.all_eq_true]
 constructor
 · intro h i hi
   exact h _ (by rw [List.mem_zipIdx_iff_getElem?]; exact Zge hi)
 · intro h p hp
   rw [List.mem_zipIdx_iff_getElem?] at hp
   obtain ⟨hi, e⟩ := List.getElem?_eq_some_iff.1 hp
   have := h p.2 hi
   rw [e] at this
   exact this
theorem xv8 {a b : Sch} (h : ext a b = true) : zxt a = true ∧ zxt b = true ∧ a.cols.length ≤ b.cols.length ∧ ∀ i (hi : i < b.cols.length), z62 a (b.cols[i], i) = true := by
 unfold ext at h
 simp only [Bool.and_eq_true, Bool.not_eq_true', decide_eq_false_iff_not] at h
 obtain ⟨⟨⟨⟨⟨h1, h2⟩, _⟩, _⟩, h3⟩, h4⟩ := h
 exact ⟨h1, h2, by omega, xvn.1 h4⟩
theorem xvy : z59.right = true := by
 have e : z59.canon = some z59 := rfl
 unfold Val.right
 rw [e]
 show (z59.same z59 && decide ((z59.str.size : Int) ≤ 4096)) = true
 rw [Val.same_iff.2 rfl]
 rfl
theorem xvt (s : Sch) (r : Row) (i : Nat) : (z0p s r)[i]? = if i < r.length then r[i]? else if i < r.length + (s.cols.length - r.length) then some z59 else none := by
 unfold z0p
 rw [List.getElem?_append]
 split
 · rfl
 · rw [List.getElem?_replicate]
   by_cases h : i - r.length < s.cols.length - r.length
   · rw [if_pos h, if_pos (by omega)]
   · rw [if_neg h, if_neg (by omega)]
theorem xvv {a b : Sch} {r : Row} (h : ext a b = true) (hr : xvq a r) : xvq b r := by
 obtain ⟨e1, e2, e3, e4⟩ := xv8 h
 obtain ⟨f1, f2, f3⟩ := hr
 have hle : r.length ≤ b.cols.length := by omega
 refine ⟨e2, hle, xwf.2 ⟨e2, yq8 hle, xvn.2 fun i hi => ?_⟩⟩
 have hb : i < b.cols.length := by rw [yq8 hle] at hi; exact hi
 have hx := e4 i hb
 have hf := xvn.1 (xwf.1 f3).2.2
 unfold z62 at hx
 rcases Zlg i a.cols.length with hlt | hge
 · have hga := Zge hlt
   have hsame : a.cols[i] = b.cols[i] := by
    rw [show (b.cols[i], i).2 = i from rfl, hga] at hx
    have hx : zk8 a.cols[i] b.cols[i] = true := hx
    unfold zk8 at hx
    simp only [Bool.and_eq_true, beq_iff_eq] at hx
    generalize a.cols[i] = x at hx
    generalize b.cols[i] = y at hx
    cases x; cases y; simp_all
   have hv := hf i (by rw [yq8 f2]; exact hlt)
   have hwe : (z0p b r)[i] = (z0p a r)[i]'(by rw [yq8 f2]; exact hlt) := by
    apply Option.some.inj
    rw [← Zge, ← Zge, xvt, xvt, show r.length + (b.cols.length - r.length) = b.cols.length by omega, show r.length + (a.cols.length - r.length) = a.cols.length by omega, if_pos hb, if_pos hlt]
   rw [hwe]
   unfold z5s at hv ⊢
   simp only at hv ⊢
   rw [Zge hlt, hsame] at hv
   rw [Zge hb]
   exact hv
 · rw [show (b.cols[i], i).2 = i from rfl, List.getElem?_eq_none hge] at hx
   have hx : (!(b.cols[i]).need) = true := hx
   have hwe : (z0p b r)[i] = z59 := by
    apply Option.some.inj
    rw [← Zge, xvt, if_neg (by omega), if_pos (by omega)]
   rw [hwe]
   unfold z5s
   simp only
   rw [Zge hb]
   have hn := xvy
   have hk : (z59.kind != 0) = false := rfl
   rw [hn, hk]
   simp only [Bool.not_eq_true'] at hx
   simp [hx]
theorem yxj {tab : List UInt8} {r : Row} : ∀ {l : List Chg} {d : Sch}, Chain tab (some d) l → xvq d r → ∃ d', l.foldl (nxtS tab) (some d) = some d' ∧ xvq d' r
 | [], d, _, h => ⟨d, rfl, h⟩
 | x :: l, d, h, hf => by
   obtain ⟨h1, h2⟩ := h
   rw [List.foldl_cons]
   cases hx : (x.tab == tab && x.op == 3) with
   | false =>
     have e : nxtS tab (some d) x = some d := by unfold nxtS; rw [hx]; rfl
     rw [e] at h2 ⊢
     exact yxj h2 hf
   | true =>
     have e : nxtS tab (some d) x = some x.d := by unfold nxtS; rw [hx]; rfl
     rw [e] at h2 ⊢
     simp only [Bool.and_eq_true] at hx
     have h3 := h1 (by simpa using hx.1)
     rw [if_pos hx.2] at h3
     exact yxj h2 (xvv (h3 d rfl) hf)
theorem xwa {tab k : List UInt8} {s0 : Option Sch} {x : Chg} {sd : Option Sch} {o : Option (List Piece)} (hx : okC tab sd x) (hr : ∀ p ∈ o.getD [], ∃ d, sd = some d ∧ xvq d p.row) : ∀ p ∈ (selC tab (zqp s0 (zx9 k)) o x).getD [], ∃ d, nxtS tab sd x = some d ∧ xvq d p.row := by
 unfold selC nxtS
 cases h1 : (x.tab == tab) with
 | false => simpa using hr
 | true =>
   have h3 := hx (by simpa using h1)
   cases h2 : (x.op == 3) with
   | true =>
     rw [h2, if_pos rfl] at h3
     unfold zqp
     rw [h2, if_pos rfl, if_pos rfl, if_pos (by rfl)]
     intro p hp
     obtain ⟨d, e, f⟩ := hr p hp
     exact ⟨x.d, rfl, xvv (h3 d e) f⟩
   | false =>
     rw [h2, if_neg (by simp)] at h3
     obtain ⟨d, e, hre⟩ := h3
     unfold zqp
     rw [h2, if_pos rfl, if_neg (by simp), if_neg (by simp)]
     unfold zx9
     split
     · split
       · rename_i hop
         unfold zjz at hre
         rw [if_pos hop] at hre
         intro p hp
         rcases ykk (show p ∈ putP (o.getD []) (x.lo, x.hi) x.row from hp) with e2 | ⟨q, hq, e2⟩
         · exact ⟨d, e, by rw [e2]; exact xwh hre⟩
         · rw [e2]; exact hr q hq
       · intro p hp
         obtain ⟨q, hq, e2⟩ := z4o (show p ∈ drop (o.getD []) (x.lo, x.hi) from hp)
         rw [e2]; exact hr q hq
     · exact hr
theorem xvw {tab k : List UInt8} {s0 : Option Sch} : ∀ {l : List Chg} {sd : Option Sch} {o : Option (List Piece)}, Chain tab sd l → (∀ p ∈ o.getD [], ∃ d, sd = some d ∧ xvq d p.row) →
 ∀ p ∈ (l.foldl (selC tab (zqp s0 (zx9 k))) o).getD [], ∃ d, l.foldl (nxtS tab) sd = some d ∧ xvq d p.row
 | [], _, _, _, h => h
 | x :: l, sd, o, hc, h => by
   rw [List.foldl_cons, List.foldl_cons]
   exact xvw hc.2 (xwa hc.1 h)
theorem xv0 {l : List Txn} (h : Accd l) (tab k : List UInt8) (t : Int) {s : Sch} (hs : (zki l).foldl (nxtS tab) none = some s) : ∀ p ∈ zq4 l tab k t, xvq s p.row := by
 intro p hp
 unfold zq4 at hp
 rw [zv8 h] at hp
 obtain ⟨r, hr, _⟩ := z1n l t
 have hch := h.chain tab
 have ef : zki l = zki (cutT l t) ++ zki r := by
  conv => lhs; rw [hr]
  exact z5t _ _
 rw [ef, z19] at hch
 obtain ⟨d, e, f⟩ := xvw (k := k) (s0 := (zki l).foldl (nxtS tab) none) hch.1 (o := none) (fun p hp => by cases hp) p hp
 have hch2 := hch.2
 rw [e] at hch2
 obtain ⟨d', e', f'⟩ := yxj hch2 f
 rw [ef, List.foldl_append, e, e'] at hs
 cases hs
 exact f'
def covI (lo hi t : Int) : Bool := decide (lo ≤ t) && decide (t < hi)
theorem yxn {lo hi t : Int} : covI lo hi t = true ↔ lo ≤ t ∧ t < hi := by unfold covI; simp
def atT (t : Int) (x : List XR) : List Piece := (x.filter fun r => covI r.sl r.sh t).map fun r => ⟨r.lo, r.hi, r.vals⟩
def xxg (t : Int) (zs : List Seg) : List Piece := zs.flatMap fun z => if covI z.lo z.hi t = true then z.ps else []
theorem xwd (k : List UInt8) (t : Int) (z : Seg) : atT t (z.ps.map (z2v k z)) = if covI z.lo z.hi t = true then z.ps else [] := by
 unfold atT
 cases h : covI z.lo z.hi t with
 | true =>
   rw [if_pos rfl, List.filter_eq_self.2, List.map_map]
   · conv => rhs; rw [← List.map_id z.ps]
     exact List.map_congr_left fun p _ => rfl
   · intro r hr
     obtain ⟨p, _, rfl⟩ := List.mem_map.1 hr
     exact h
 | false =>
   rw [if_neg (by simp), List.filter_eq_nil_iff.2, List.map_nil]
   intro r hr
   obtain ⟨p, _, rfl⟩ := List.mem_map.1 hr
   show ¬ covI z.lo z.hi t = true
   rw [h]; simp
theorem xwc (t : Int) (a b : List XR) : atT t (a ++ b) = atT t a ++ atT t b := by unfold atT; rw [List.filter_append, List.map_append]
theorem xvz (k : List UInt8) (t : Int) : ∀ zs : List Seg, atT t (zvu k zs) = xxg t zs
 | [] => rfl
 | z :: zs => by
   have e : zvu k (z :: zs) = z.ps.map (z2v k z) ++ zvu k zs := rfl
   rw [e, xwc, xwd, xvz k t zs]
   rfl
theorem xvr (t : Int) (a b : List Seg) : xxg t (a ++ b) = xxg t a ++ xxg t b := by unfold xxg; rw [List.flatMap_append]
theorem xvs (t : Int) (z : Seg) : xxg t [z] = if covI z.lo z.hi t = true then z.ps else [] := by unfold xxg; rw [List.flatMap_singleton]
theorem xvp {t : Int} : ∀ {zs : List Seg}, (∀ z ∈ zs, z.hi ≤ t) → xxg t zs = []
 | [], _ => rfl
 | z :: zs, h => by
   have e : xxg t (z :: zs) = (if covI z.lo z.hi t = true then z.ps else []) ++ xxg t zs := rfl
   rw [e, xvp fun y hy => h y (List.mem_cons_of_mem _ hy), if_neg (by have := h z (Zms2 ..); rw [yxn]; omega)]
   rfl
structure SegI (c0 : Int) (f : Int → List Piece) (e : Int) (zs : List Seg) : Prop where
 hi : ∀ z ∈ zs, z.lo ≤ e ∧ z.hi ≤ e
 last : ∀ z, zs[zs.length - 1]? = some z → z.hi = e
 tell : ∀ t, c0 ≤ t → t < e → xxg t zs = f t
theorem xv9 {c0 e n : Int} {f : Int → List Piece} {zs : List Seg} (h : SegI c0 f e zs) (hn : e < n) (hf : ∀ t, e ≤ t → t < n → f t = f e) : SegI c0 f n (zvv zs e n (f e)) := by
 unfold zvv
 split
 · rename_i hg
   unfold y40 at hg
   cases hw : zs[zs.length - 1]? with
   | none => rw [hw] at hg; cases hg
   | some w =>
     rw [hw] at hg
     have hps : w.ps = f e := z1h.1 hg
     have hlt : zs.length - 1 < zs.length := (List.getElem?_eq_some_iff.1 hw).1
     have hz : zs = zs.take (zs.length - 1) ++ [w] := by
      have h1 : zs.drop (zs.length - 1) = [w] := by
       rw [List.drop_eq_getElem_cons hlt, (List.getElem?_eq_some_iff.1 hw).2, List.drop_of_length_le (by omega)]
      rw [← h1, List.take_append_drop]
     rw [List.getD_eq_getElem?_getD, hw, Option.getD_some]
     have hset : zs.set (zs.length - 1) { w with hi := n } = zs.take (zs.length - 1) ++ [{ w with hi := n }] := by
      rw [List.set_eq_take_append_cons_drop, if_pos hlt, List.drop_of_length_le (show zs.length ≤ zs.length - 1 + 1 by omega)]
     have hwhi := h.last w hw
     have hwm := h.hi w (Zme hw)
     have hin : ∀ z ∈ zs.take (zs.length - 1), z.lo ≤ e ∧ z.hi ≤ e := fun z hz => h.hi z (List.mem_of_mem_take hz)
     rw [hset]
     generalize zs.take (zs.length - 1) = i at *
     refine ⟨fun z hz => ?_, fun z hz => ?_, fun t h1 h2 => ?_⟩
     · rcases List.mem_append.1 hz with hz | hz
       · have := hin z hz; omega
       · rw [List.mem_singleton.1 hz]
         show w.lo ≤ n ∧ n ≤ n
         omega
     · rw [Zla, List.length_singleton, Nat.add_sub_cancel, List.getElem?_append_right (Zlr _), Nat.sub_self] at hz
       cases hz
       rfl
     · rw [xvr, xvs]
       rcases Int.lt_or_le t e with hte | hte
       · have ht := h.tell t h1 hte
         rw [hz, xvr, xvs] at ht
         rw [← ht]
         have : covI w.lo n t = covI w.lo w.hi t := by
          unfold covI
          rw [decide_eq_true (show t < n by omega), decide_eq_true (show t < w.hi by omega)]
         show xxg t i ++ (if covI w.lo n t = true then w.ps else []) = _
         rw [this]
       · rw [xvp fun z hz => by have := hin z hz; omega, if_pos (yxn.2 ⟨by show w.lo ≤ t; omega, h2⟩), hf t hte h2]
         exact hps
 · refine ⟨fun z hz => ?_, fun z hz => ?_, fun t h1 h2 => ?_⟩
   · rcases List.mem_append.1 hz with hz | hz
     · have := h.hi z hz; omega
     · rw [List.mem_singleton.1 hz]
       show e ≤ n ∧ n ≤ n
       omega
   · rw [Zla, List.length_singleton, Nat.add_sub_cancel, List.getElem?_append_right (Zlr _), Nat.sub_self] at hz
     cases hz
     rfl
   · rw [xvr, xvs]
     rcases Int.lt_or_le t e with hte | hte
     · rw [h.tell t h1 hte, if_neg (by rw [yxn]; show ¬(e ≤ t ∧ t < n); omega), List.append_nil]
     · rw [xvp fun z hz => by have := h.hi z hz; omega, if_pos (yxn.2 ⟨hte, h2⟩), hf t hte h2]
       rfl
theorem xvx {c : List Int} {f : Int → List Piece} (hr : c.Pairwise (· < ·)) (hf : ∀ i, ∀ (h : i + 1 < c.length) t, c[i] ≤ t → t < c[i + 1] → f t = f c[i]) : ∀ n, n < c.length → SegI (c.getD 0 0) f (c.getD n 0) (segs c f n)
 | 0, h => ⟨fun z hz => (by cases hz), fun z hz => (by cases hz), fun t h1 h2 => by omega⟩
 | n + 1, h => by
   have ih := xvx hr hf n (by omega)
   rw [segs]
   have e0 : c.getD n 0 = c[n] := by rw [List.getD_eq_getElem?_getD, Zge (show n < c.length by omega), Option.getD_some]
   have e1 : c.getD (n + 1) 0 = c[n + 1] := by rw [List.getD_eq_getElem?_getD, Zge h, Option.getD_some]
   have hp := List.pairwise_iff_getElem.1 hr
   refine xv9 ih ?_ ?_
   · rw [e0, e1]; exact hp n (n + 1) (by omega) h (by omega)
   · rw [e0, e1]; exact hf n h
theorem xvu {l : List Txn} (h : l.Pairwise fun a b => a.time < b.time) {lo hi : Int} (hh : lo < hi) : (z3c l lo hi).Pairwise (· < ·) := by
 have hm : ∀ t ∈ z1c l lo hi, lo < t ∧ t < hi := fun t ht => by
  obtain ⟨x, hx, rfl⟩ := List.mem_map.1 ht
  have := (List.mem_filter.1 hx).2
  simpa using this
 have hp : (z1c l lo hi).Pairwise (· < ·) := by
  unfold z1c
  rw [List.pairwise_map]
  exact h.filter _
 unfold z3c
 rw [List.cons_append]
 refine List.pairwise_cons.2 ⟨fun t ht => ?_, List.pairwise_append.2 ⟨hp, List.pairwise_singleton _ _, fun a ha b hb => ?_⟩⟩
 · rcases List.mem_append.1 ht with ht | ht
   · exact (hm t ht).1
   · rw [List.mem_singleton.1 ht]; exact hh
 · rw [List.mem_singleton.1 hb]; exact (hm a ha).2
theorem xv3 {l : List Txn} (h : l.Pairwise fun a b => a.time < b.time) {lo hi : Int} (hh : lo < hi) {i : Nat} (hi' : i + 1 < (z3c l lo hi).length) : ∀ x ∈ l, ¬((z3c l lo hi)[i] < x.time ∧ x.time < (z3c l lo hi)[i + 1]) := by
 intro x hx hb
 have hp := List.pairwise_iff_getElem.1 (xvu h hh)
 have hlo : lo ≤ (z3c l lo hi)[i] := by
  have e : (z3c l lo hi)[0]'(by omega) = lo := rfl
  rcases Nat.eq_zero_or_pos i with h0 | h0
  · subst h0; exact Int.le_of_eq e.symm
  · have := hp 0 i (by omega) (by omega) h0; omega
 have hhi : (z3c l lo hi)[i + 1] ≤ hi := by
  have hlen : (z3c l lo hi).length = (z1c l lo hi).length + 2 := by unfold z3c; simp
  have e : (z3c l lo hi)[(z3c l lo hi).length - 1]'(by omega) = hi := by
   simp only [z3c]
   rw [List.getElem_append_right (by simp)]
   simp
  rcases Zlg (i + 1) ((z3c l lo hi).length - 1) with hl | hg
  · have := hp (i + 1) ((z3c l lo hi).length - 1) (by omega) (by omega) hl; omega
  · have e2 : i + 1 = (z3c l lo hi).length - 1 := by omega
    have e3 : (z3c l lo hi)[i + 1] = (z3c l lo hi)[(z3c l lo hi).length - 1]'(by omega) := by congr 1
    omega
 have hmem : x.time ∈ z3c l lo hi := by
  unfold z3c z1c
  refine List.mem_append.2 (.inl (List.mem_cons_of_mem _ (List.mem_map.2 ⟨x, List.mem_filter.2 ⟨hx, ?_⟩, rfl⟩)))
  simp
  omega
 obtain ⟨j, hj, e⟩ := List.getElem_of_mem hmem
 rcases Zlg i j with hij | hij
 · rcases Zlg (i + 1) j with h2 | h2
   · have := hp (i + 1) j (by omega) (by omega) h2; omega
   · have e2 : j = i + 1 := by omega
     subst e2; omega
 · rcases Zlg j i with h2 | h2
   · have := hp j i (by omega) (by omega) h2; omega
   · have e2 : j = i := by omega
     subst e2; omega
theorem xv2 {a b : Int} (hab : a ≤ b) : ∀ {l : List Txn}, (∀ x ∈ l, ¬(a < x.time ∧ x.time ≤ b)) → cutT l b = cutT l a
 | [], _ => rfl
 | x :: l, h => by
   have ih := xv2 hab (l := l) fun y hy => h y (List.mem_cons_of_mem _ hy)
   have hx := h x (Zms2 ..)
   unfold cutT at ih ⊢
   rw [List.takeWhile_cons, List.takeWhile_cons]
   have : decide (x.time ≤ b) = decide (x.time ≤ a) := by
    by_cases h1 : x.time ≤ a
    · rw [decide_eq_true h1, decide_eq_true (by omega)]
    · rw [decide_eq_false h1, decide_eq_false (by omega)]
   rw [this, ih]
theorem xwb {l : List Txn} (h : Accd l) (tab k : List UInt8) {a b : Int} (hc : cutT l b = cutT l a) : zq4 l tab k b = zq4 l tab k a := by
 unfold zq4
 rw [zv8 h, zv8 h, hc]
theorem xv5 {l : List Txn} (h : Accd l) : ∀ x ∈ l, x.time ≤ zxd l := by
 intro x hx
 unfold zxd
 cases e : l.getLast? with
 | none => rw [List.getLast?_eq_none_iff] at e; subst e; cases hx
 | some y =>
   obtain ⟨ys, rfl⟩ := List.getLast?_eq_some_iff.1 e
   rcases List.mem_append.1 hx with hx | hx
   · have := z94 h x hx
     show x.time ≤ y.time
     omega
   · rw [List.mem_singleton.1 hx]; exact Int.le_refl _
theorem xv4 {l : List Txn} (h : Accd l) : -1 ≤ zxd l ∧ zxd l < 1099511627776 := by
 unfold zxd
 cases e : l.getLast? with
 | none => exact ⟨Int.le_refl _, by decide⟩
 | some y =>
   have := y48 (h.ok y (List.mem_of_getLast? e))
   show -1 ≤ y.time ∧ y.time < _
   omega
theorem xv7 {s : Sch} {ps : List Piece} (h : ∀ p ∈ ps, xvq s p.row) : zw5 s ps = ps.map fun p => ⟨p.lo, p.hi, z0p s p.row⟩ := by
 unfold zw5
 refine List.map_congr_left fun p hp => ?_
 unfold xz5
 rw [xv1 (h p hp)]
theorem xv6 {l : List Txn} (h : Accd l) (tab : List UInt8) : schS l tab (zxd l) = (zki l).foldl (nxtS tab) none := by
 rw [z2u h, z5k (xv5 h)]
theorem xwe {l : List Txn} (h : Accd l) {q : Qy} {s : Sch} (hs : schS l q.tab (zxd l) = some s) {t : Int} (h0 : 0 ≤ t) (h1 : t ≤ zxd l) :
 atT t (z6z q l s 0 (zxd l + 1)) = coalesce ((zq4 l q.tab (keyB q.key) t).map fun p => ⟨p.lo, p.hi, z0p s p.row⟩) := by
 have hl := xv4 h
 have hR : Span.right 0 (zxd l + 1) = true := by
  unfold Span.right
  simp only [Bool.and_eq_true, decide_eq_true_eq]
  omega
 have e : z6z q l s 0 (zxd l + 1) = zvu (keyB q.key) (z1m q l s 0 (zxd l + 1)) := by unfold z6z; rw [hR, if_pos rfl]
 have hh : (0 : Int) < zxd l + 1 := by omega
 have hseg : SegI 0 (hadS q l s (keyB q.key)) (zxd l + 1) (z1m q l s 0 (zxd l + 1)) := by
  have hlen : (z3c l 0 (zxd l + 1)).length = (z1c l 0 (zxd l + 1)).length + 2 := by unfold z3c; simp
  have := xvx (f := hadS q l s (keyB q.key)) (xvu h.rise hh) (fun i hi t a b => ?_) ((z3c l 0 (zxd l + 1)).length - 1) (by omega)
  · have e0 : (z3c l 0 (zxd l + 1)).getD 0 0 = 0 := rfl
    have e1 : (z3c l 0 (zxd l + 1)).getD ((z3c l 0 (zxd l + 1)).length - 1) 0 = zxd l + 1 := by
     rw [List.getD_eq_getElem?_getD, hlen]
     unfold z3c
     rw [List.getElem?_append_right (by simp)]
     simp
    rw [e0, e1] at this
    exact this
  · unfold hadS
    rw [xwb h q.tab (keyB q.key) (xv2 a fun x hx hb => xv3 h.rise hh hi x hx ⟨hb.1, by omega⟩)]
 have hft := hseg.tell t h0 (by omega)
 rw [e, xvz, hft]
 unfold hadS
 rw [xv7]
 rw [xv6 h] at hs
 exact xv0 h q.tab (keyB q.key) t hs
theorem ywi {σ : Sc} {o : OpB} {x : Txn} (h : x ∈ (zxb σ o).acc) : x ∈ σ.acc ∨ x = o.t := by
 unfold zxb at h
 split at h
 · split at h
   · rcases List.mem_append.1 h with h | h
     · exact .inl h
     · exact .inr (List.mem_singleton.1 h)
   · exact .inl h
 · exact .inl h
theorem ywh {σ : Sc} {o : OpB} : (zxb σ o).acc.length ≤ σ.acc.length + 1 := by
 unfold zxb
 split
 · split
   · rw [Zla, List.length_singleton]; exact Zlr _
   · omega
 · omega
theorem y5x : ∀ {l : List OpB} {σ : Sc} {x : Txn}, x ∈ (l.foldl zxb σ).acc → x ∈ σ.acc ∨ ∃ o ∈ l, x = o.t
 | [], _, _, h => .inl h
 | o :: l, σ, x, h => by
   rw [List.foldl_cons] at h
   rcases y5x h with h | ⟨p, hp, e⟩
   · exact (ywi h).imp_right fun e => ⟨o, Zms2 .., e⟩
   · exact .inr ⟨p, List.mem_cons_of_mem _ hp, e⟩
theorem y5w : ∀ {l : List OpB} {σ : Sc}, (l.foldl zxb σ).acc.length ≤ σ.acc.length + l.length
 | [], _ => Zlr _
 | o :: l, σ => by
   have h1 := y5w (l := l) (σ := zxb σ o)
   have h2 := @ywh σ o
   rw [List.foldl_cons, List.length_cons]
   omega
structure Scr (l : List Txn) : Prop where
 acc : Accd l
 sm : ∀ x ∈ l, TxnU x
 len : l.length ≤ 20
theorem y18 {s : List OpB} (h : ∀ o ∈ s, OpBU o) : Scr (z6d s) := by
 refine ⟨y15 s, fun x hx => ?_, ?_⟩
 · rcases y5x (show x ∈ ((s.take 20).foldl zxb sc0).acc from hx) with h1 | ⟨o, ho, rfl⟩
   · cases h1
   · exact h o (List.mem_of_mem_take ho)
 · have := y5w (l := s.take 20) (σ := sc0)
   have h0 : sc0.acc.length = 0 := rfl
   rw [h0, Zlt] at this
   show ((s.take 20).foldl zxb sc0).acc.length ≤ 20
   omega
theorem Scr.pre {a b : List Txn} (h : Scr (a ++ b)) : Scr a :=
 ⟨Accd.pre h.acc, fun x hx => h.sm x (List.mem_append_left _ hx), by have := h.len; rw [Zla] at this; omega⟩
theorem Scr.cut {l : List Txn} (h : Scr l) (t : Int) : Scr (cutT l t) := by
 obtain ⟨r, hr, _⟩ := z1n l t
 exact Scr.pre (b := r) (by rw [← hr]; exact h)
theorem yj1 {tab : List UInt8} : ∀ {l : List Chg} {s : Option Sch}, l.foldl (nxtS tab) s = s ∨ ∃ x ∈ l, x.op = 3 ∧ l.foldl (nxtS tab) s = some x.d
 | [], _ => .inl rfl
 | x :: l, s => by
   rw [List.foldl_cons]
   rcases yj1 (tab := tab) (l := l) (s := nxtS tab s x) with e | ⟨y, hy, h3, e⟩
   · rw [e]
     unfold nxtS
     split
     · rename_i h
       simp only [Bool.and_eq_true, beq_iff_eq] at h
       exact .inr ⟨x, Zms2 .., h.2, rfl⟩
     · exact .inl rfl
   · exact .inr ⟨y, List.mem_cons_of_mem _ hy, h3, e⟩
theorem y01 {l : List Txn} {c : Chg} (h : c ∈ zki l) : ∃ x ∈ l, c ∈ x.chs := by
 obtain ⟨x, hx, hc⟩ := List.mem_flatMap.1 h
 exact ⟨x, hx, hc⟩
theorem y8e {x : Txn} (h : z0n x = true) {c : Chg} (hc : c ∈ x.chs) : z8n c = true := by
 unfold z0n at h
 simp only [Bool.and_eq_true, List.all_eq_true] at h
 exact h.1 c hc
theorem y47 {x : Txn} (h : z0n x = true) : x.chs.length ≤ 100 := by
 unfold z0n at h
 simp only [Bool.and_eq_true, decide_eq_true_eq] at h
 omega
theorem Scr.sch {l : List Txn} (h : Scr l) (tab : List UInt8) (t : Int) {d : Sch} (hd : schS l tab t = some d) : zxt d = true ∧ SchU d := by
 rw [z2u h.acc] at hd
 rcases yj1 (tab := tab) (l := zki (cutT l t)) (s := none) with e | ⟨c, hc, h3, e⟩
 · rw [e] at hd; cases hd
 · rw [e] at hd
   cases hd
   obtain ⟨x, hx, hcx⟩ := y01 hc
   have hs := h.cut t
   refine ⟨?_, ((hs.sm x hx).2 c hcx).2.2⟩
   have := y8e (hs.acc.ok x hx) hcx
   unfold z8n at this
   rw [h3, if_pos (by rfl)] at this
   unfold y3i at this
   simp only [Bool.and_eq_true] at this
   exact this.1.1.1
theorem SchU.sz {d : Sch} (h : SchU d) : d.sz := ⟨Nat.le_trans h.1 (by decide), Nat.le_trans h.2.1 (by decide), fun c hc => Nat.le_trans (h.2.2 c hc) (by decide)⟩
theorem y4g : zvc.sz := ⟨by decide, by decide, fun c hc => by cases hc⟩
theorem Scr.getD_sz {l : List Txn} (h : Scr l) (tab : List UInt8) (t : Int) : ((schS l tab t).getD zvc).sz := by
 cases e : schS l tab t with
 | none => exact y4g
 | some d => exact (h.sch tab t e).2.sz
theorem y37 {d : Sch} (h : zxt d = true) : 1 ≤ d.keys := by
 unfold zxt z2h at h
 simp only [Bool.and_eq_true, Bool.not_eq_true', decide_eq_false_iff_not] at h
 omega
theorem xwg {d : Sch} (h : zxt d = true) : d.cols.length ≤ 16 := by
 unfold zxt z2h at h
 simp only [Bool.and_eq_true, Bool.not_eq_true', decide_eq_false_iff_not] at h
 omega
theorem Scr.keys {l : List Txn} (h : Scr l) (tab : List UInt8) (t : Int) : 0 ≤ zw3 (schS l tab t) := by
 unfold zw3
 cases e : schS l tab t with
 | none => exact Int.le_refl _
 | some d =>
   have := y37 (h.sch tab t e).1
   show 0 ≤ d.keys
   omega
theorem y5c {v : Val} (h : Val.ok v) : 0 ≤ v.bits ∧ v.bits < 18446744073709551616 := by
 have := h.2.2.1
 simp [Lit.wf] at this
 have h1 : IntKind.u64.min = 0 := by decide
 have h2 : IntKind.u64.max = 18446744073709551615 := by decide
 rw [h1, h2] at this
 omega
theorem RowU.bits {r : Row} (h : RowU r) : zwv r := fun v hv => y5c (h.2 v hv).1
theorem y54 : ∀ {l : List Txn}, (∀ x ∈ l, z0n x = true) → tot l ≤ 100 * l.length
 | [], _ => Zlr _
 | x :: l, h => by
   have h1 := y54 fun y hy => h y (List.mem_cons_of_mem _ hy)
   have h2 := y47 (h x (Zms2 ..))
   have e : tot (x :: l) = x.chs.length + tot l := rfl
   rw [e, List.length_cons]
   omega
theorem Scr.lsm {l : List Txn} (h : Scr l) (tab : List UInt8) : LSm l tab := by
 have hlen := h.len
 refine ⟨by omega, fun x hx => ⟨(h.sm x hx).1, fun c hc => ?_⟩, h.keys tab _, ?_⟩
 · obtain ⟨h1, h2, h3⟩ := (h.sm x hx).2 c hc
   exact ⟨h3.2.1, h2.1, h2.1, h2.bits⟩
 · have := y54 h.acc.ok
   omega
def kVal (m : Int) : Val := ⟨2, m, 0, ⟨#[]⟩⟩
theorem y1e (m : Int) : zwv [kVal m] := fun v hv => by
 rw [List.mem_singleton.1 hv]
 exact ⟨Int.le_refl _, show (0 : Int) < 18446744073709551616 by decide⟩
theorem cn1 : Cn cnt1 1 := ⟨zzc _ _ _, Zlr _, fun j hj => zza _ _ (by simp; omega)⟩
theorem y6v (n : Nat) (hn : 1 ≤ n) : Above n noH cnt1 := fun i hi => ⟨rfl, fun k => zza _ _ (by simp; omega)⟩
theorem low1 {A : AMap} (h : Low 1 cnt1 A) (m j : Nat) (hm : m ≠ 0) : A (m, j) = none := by
 rw [h (m, j) (by simp [hm]) (.inl hm)]
 exact zza _ _ (by simp [hm])
theorem y6w {A : AMap} {c : Nat} (h : Cn A c) : ∀ κ, cnt1 κ ≠ none → A κ ≠ none := fun κ hκ => by
 by_cases e : κ = (0, 0)
 · subst e; rw [h.1]; simp
 · exact absurd (show cnt1 κ = none from zza _ _ e) hκ
end Go.Proofs
