/-
  Parts of the proof, laid together: PwHc, PwHd, PwHe, PwHf, PwNa, PwNb.
-/
import Derived.Test.YtemecklglapleaaGreatQ41
import Derived.Test.YtemecklglapleaaGreatQ37
import Derived.Test.YtemecklglapleaaGreatQ38
import Derived.Test.YtemecklglapleaaGreatQ40
import Derived.Test.YtemecklglapleaaGreatQ35

set_option maxRecDepth 30000
set_option maxHeartbeats 16000000
namespace Go.Proofs
open Go.PW
section
variable {σ : Type}
def selC (tab : List UInt8) (step : σ → Chg → σ) (s : σ) (c : Chg) : σ := if (c.tab == tab) = true then step s c else s
def cutT (l : List Txn) (t : Int) : List Txn := l.takeWhile fun x => decide (x.time ≤ t)
theorem z2e (tab : List UInt8) (t : Int) (step : σ → Chg → σ) (time : Int) : ∀ (l : List Chg) (p : Nat × σ), (l.foldl (zxn tab t step time) p).2 = if time ≤ t then l.foldl (selC tab step) p.2 else p.2
 | [], p => by simp
 | c :: l, p => by
   rw [List.foldl_cons, List.foldl_cons, z2e tab t step time l]
   by_cases h : time ≤ t
   · rw [if_pos h, if_pos h]
     congr 1
     unfold zxn selC
     rw [decide_eq_true h, Bool.true_and]
     split <;> rfl
   · rw [if_neg h, if_neg h]
     unfold zxn
     rw [decide_eq_false h, Bool.false_and]
     rfl
theorem z7s {tab : List UInt8} {t : Int} {step : σ → Chg → σ} : ∀ {l : List Txn} {p : Nat × σ}, (∀ x ∈ l, ¬ x.time ≤ t) → (zxv l tab t step p).2 = p.2
 | [], _, _ => rfl
 | x :: l, p, h => by
   have e : zxv (x :: l) tab t step p = zxv l tab t step (x.chs.foldl (zxn tab t step x.time) p) := rfl
   rw [e, z7s (fun y hy => h y (List.mem_cons_of_mem _ hy)), z2e, if_neg (h x (List.mem_cons_self ..))]
theorem z5p {tab : List UInt8} {t : Int} {step : σ → Chg → σ} : ∀ {l : List Txn} {p : Nat × σ}, (l.Pairwise fun a b => a.time < b.time) → (zxv l tab t step p).2 = (zki (cutT l t)).foldl (selC tab step) p.2
 | [], _, _ => rfl
 | x :: l, p, h => by
   obtain ⟨h1, h2⟩ := List.pairwise_cons.1 h
   have e : zxv (x :: l) tab t step p = zxv l tab t step (x.chs.foldl (zxn tab t step x.time) p) := rfl
   by_cases hx : x.time ≤ t
   · have ec : cutT (x :: l) t = x :: cutT l t := by unfold cutT; rw [List.takeWhile_cons, if_pos (decide_eq_true hx)]
     have ef : zki (x :: cutT l t) = x.chs ++ zki (cutT l t) := rfl
     rw [e, z5p h2, ec, ef, List.foldl_append, z2e, if_pos hx]
   · have ec : cutT (x :: l) t = [] := by unfold cutT; rw [List.takeWhile_cons, if_neg (by simpa using hx)]
     rw [e, ec, z7s (fun y hy hle => hx (by have := h1 y hy; omega)), z2e, if_neg hx]
     rfl
end
theorem twM {α : Type} {p : α → Bool} : ∀ {l : List α} {x : α}, x ∈ l.takeWhile p → p x = true
 | [], _, h => by simp at h
 | a :: l, x, h => by
   rw [List.takeWhile_cons] at h
   split at h
   · rename_i ha
     rcases List.mem_cons.1 h with rfl | h
     · exact ha
     · exact twM h
   · simp at h
theorem twA {α : Type} {p : α → Bool} : ∀ {l : List α}, (∀ x ∈ l, p x = true) → l.takeWhile p = l
 | [], _ => rfl
 | a :: l, h => by
   rw [List.takeWhile_cons, if_pos (h a (List.mem_cons_self ..)), twA (fun x hx => h x (List.mem_cons_of_mem _ hx))]
theorem z1n (l : List Txn) (t : Int) : ∃ r, l = cutT l t ++ r ∧ ∀ x ∈ cutT l t, x.time ≤ t := by
 refine ⟨l.dropWhile fun x => decide (x.time ≤ t), (List.takeWhile_append_dropWhile).symm, fun x hx => ?_⟩
 exact of_decide_eq_true (twM (p := fun x : Txn => decide (x.time ≤ t)) hx)
theorem z5k {l : List Txn} {t : Int} (h : ∀ x ∈ l, x.time ≤ t) : cutT l t = l := by
 unfold cutT
 exact twA fun x hx => decide_eq_true (h x hx)
theorem y0n (l : List Txn) (t : Int) : cutT (cutT l t) t = cutT l t := z5k (z1n l t).choose_spec.2
theorem z5t (a b : List Txn) : zki (a ++ b) = zki a ++ zki b := by unfold zki; rw [List.flatMap_append]
theorem Accd.pre {a b : List Txn} (h : Accd (a ++ b)) : Accd a := by
 refine ⟨(List.pairwise_append.1 h.rise).1, fun x hx => h.ok x (List.mem_append.2 (.inl hx)), fun k => ?_⟩
 have := h.chain k
 rw [z5t, z19] at this
 exact this.1
theorem y48 {x : Txn} (h : z0n x = true) : 0 ≤ x.time ∧ x.time < 1099511627776 := by
 unfold z0n at h
 simp only [Bool.and_eq_true, decide_eq_true_eq] at h
 exact ⟨h.2.1.1.2, h.2.1.2⟩
theorem y77 (tab : List UInt8) : selC tab z3n = nxtS tab := by
 funext s x
 unfold selC nxtS z3n
 cases h : (x.tab == tab) <;> cases h2 : (x.op == 3) <;> simp
theorem z2u {l : List Txn} (h : Accd l) (tab : List UInt8) (t : Int) : schS l tab t = (zki (cutT l t)).foldl (nxtS tab) none := by
 unfold schS
 rw [z5p h.rise, y77]
theorem y4y {l : List Txn} (h : Accd l) (tab : List UInt8) : schS l tab 1099511627776 = (zki l).foldl (nxtS tab) none := by
 rw [z2u h, z5k (fun x hx => by have := (y48 (h.ok x hx)).2; omega)]
theorem y3r {a b : Sch} (h : ext a b = true) : b.keys = a.keys := by
 unfold ext at h
 simp only [Bool.and_eq_true, Bool.not_eq_true', bne_eq_false_iff_eq] at h
 exact h.1.1.2.symm
theorem z28 {tab : List UInt8} : ∀ {l : List Chg} {d : Sch}, Chain tab (some d) l → ∃ d', l.foldl (nxtS tab) (some d) = some d' ∧ d'.keys = d.keys
 | [], d, _ => ⟨d, rfl, rfl⟩
 | x :: l, d, h => by
   obtain ⟨h1, h2⟩ := h
   rw [List.foldl_cons]
   cases hx : (x.tab == tab && x.op == 3) with
   | false =>
     have e : nxtS tab (some d) x = some d := by unfold nxtS; rw [hx]; rfl
     rw [e] at h2 ⊢
     exact z28 h2
   | true =>
     have e : nxtS tab (some d) x = some x.d := by unfold nxtS; rw [hx]; rfl
     rw [e] at h2 ⊢
     obtain ⟨d', g1, g2⟩ := z28 h2
     simp only [Bool.and_eq_true] at hx
     have h3 := h1 (by simpa using hx.1)
     rw [if_pos hx.2] at h3
     exact ⟨d', g1, by rw [g2]; exact y3r (h3 d rfl)⟩
theorem y4h {tab : List UInt8} {d : Sch} {x : Chg} : ∃ d', nxtS tab (some d) x = some d' := by
 unfold nxtS
 split
 · exact ⟨_, rfl⟩
 · exact ⟨_, rfl⟩
theorem yzs {tab : List UInt8} : ∀ {l : List Chg} {d : Sch}, ∃ d', l.foldl (nxtS tab) (some d) = some d'
 | [], d => ⟨d, rfl⟩
 | x :: l, d => by
   obtain ⟨d', e⟩ := y4h (tab := tab) (d := d) (x := x)
   rw [List.foldl_cons, e]
   exact yzs
theorem z7o {tab : List UInt8} : ∀ {l : List Chg}, Chain tab none l → l.foldl (nxtS tab) none = none → ∀ x ∈ l, (x.tab == tab) = false
 | [], _, _, x, hx => by cases hx
 | y :: l, h, h0, x, hx => by
   obtain ⟨h1, h2⟩ := h
   rw [List.foldl_cons] at h0
   have hy : (y.tab == tab) = false := by
    cases hy : (y.tab == tab) with
    | false => rfl
    | true =>
      exfalso
      have h3 := h1 (by simpa using hy)
      cases ho : (y.op == 3) with
      | true =>
        have e : nxtS tab none y = some y.d := by unfold nxtS; rw [hy, ho]; rfl
        rw [e] at h0
        obtain ⟨d', e'⟩ := yzs (tab := tab) (l := l) (d := y.d)
        rw [e'] at h0
        cases h0
      | false =>
        rw [ho, if_neg (by simp)] at h3
        obtain ⟨d, hd, _⟩ := h3
        cases hd
   have e : nxtS tab none y = none := by unfold nxtS; rw [hy]; rfl
   rw [e] at h0 h2
   rcases List.mem_cons.1 hx with rfl | hx
   · exact hy
   · exact z7o h2 h0 x hx
section
variable {σ : Type}
theorem z9q {tab : List UInt8} {step : σ → Chg → σ} : ∀ {l : List Chg} {s : σ}, (∀ x ∈ l, (x.tab == tab) = false) → l.foldl (selC tab step) s = s
 | [], _, _ => rfl
 | x :: l, s, h => by
   have e : selC tab step s x = s := by unfold selC; rw [h x (List.mem_cons_self ..)]; rfl
   rw [List.foldl_cons, e]
   exact z9q (fun y hy => h y (List.mem_cons_of_mem _ hy))
theorem yjb {a b : Sch} (h : a.keys = b.keys) (x : Chg) : zwy (some a) x = zwy (some b) x := by
 unfold zwy zw3 sErr
 simp only [Option.getD_some, h]
theorem ykr {tab : List UInt8} {step : σ → List UInt8 → Chg → σ} {a b : List Chg} (h : Chain tab none (a ++ b)) (s : σ) :
 a.foldl (selC tab (zqp ((a ++ b).foldl (nxtS tab) none) step)) s = a.foldl (selC tab (zqp (a.foldl (nxtS tab) none) step)) s := by
 rw [z19] at h
 rw [List.foldl_append]
 cases e : a.foldl (nxtS tab) none with
 | none =>
   have hn := z7o h.1 e
   rw [z9q hn, z9q hn]
 | some d =>
   have h2 := h.2
   rw [e] at h2
   obtain ⟨d', g1, g2⟩ := z28 h2
   rw [g1]
   have es : zqp (some d') step = zqp (some d) step := by
    funext s x
    unfold zqp
    rw [yjb g2]
   rw [es]
end
theorem zv8 {σ : Type} {l : List Txn} (h : Accd l) (tab : List UInt8) (t : Int) (step : σ → List UInt8 → Chg → σ) (p : Nat × σ) :
 (z0g l tab t step p).2 = (zki (cutT l t)).foldl (selC tab (zqp ((zki l).foldl (nxtS tab) none) step)) p.2 := by
 unfold z0g
 rw [z5p h.rise, y4y h]
theorem yqs {σ : Type} {l : List Txn} (h : Accd l) (tab : List UInt8) (t : Int) (step : σ → List UInt8 → Chg → σ) (p : Nat × σ) : (z0g l tab t step p).2 = (z0g (cutT l t) tab t step p).2 := by
 obtain ⟨r, hr, _⟩ := z1n l t
 have hc : Accd (cutT l t) := Accd.pre (b := r) (by rw [← hr]; exact h)
 rw [zv8 h, zv8 hc, y0n]
 have hch := h.chain tab
 have ef : zki l = zki (cutT l t) ++ zki r := by
  conv => lhs; rw [hr]
  exact z5t _ _
 rw [ef] at hch ⊢
 exact ykr hch p.2
theorem z3o {l : List Txn} (h : Accd l) (tab k : List UInt8) (t : Int) : zq4 l tab k t = zq4 (cutT l t) tab k t := by
 unfold zq4
 rw [yqs h]
end Go.Proofs
namespace Go.Proofs
open Go.PW
theorem z4y : ∀ a b : List UInt8, Go.Op.bytesLess a b = decide (cmpB a b < 0)
 | [], [] => rfl
 | [], _ :: _ => rfl
 | _ :: _, [] => rfl
 | x :: a, y :: b => by
   rw [Go.Op.bytesLess, cmpB, z4y a b]
   by_cases e : x = y
   · subst e
     simp
   · have e1 : ¬(x.toNat : Int) = (y.toNat : Int) := fun h => e (xz6 h)
     have e2 : (x == y) = false := by simpa using e
     rw [if_pos (by simpa using e1), e2, Bool.false_and, Bool.or_false]
     by_cases hl : (x.toNat : Int) < (y.toNat : Int)
     · rw [if_pos (decide_eq_true hl)]
       have : x < y := by rw [UInt8.lt_iff_toNat_lt]; omega
       simp [this]
     · rw [if_neg (by simp; omega)]
       have : ¬ x < y := by rw [UInt8.lt_iff_toNat_lt]; omega
       simp [this]
theorem y04 (a b : List UInt8) : gtB a b = decide (cmpB b a < 0) := by
 unfold gtB
 rw [z4y]
 by_cases h1 : cmpB a b < 0
 · have := z5h a b
   rw [decide_eq_true h1, decide_eq_false (by omega)]; rfl
 · rw [decide_eq_false h1]
   by_cases h2 : a = b
   · subst h2
     have := z2a a
     rw [decide_eq_false (by omega)]; simp
   · have := z8p h1 h2
     rw [decide_eq_true this]
     simp [h2]
def ywv (l : List (List UInt8)) : Prop := l.Pairwise fun a b => cmpB a b < 0
theorem y33 (k : List UInt8) (l : List (List UInt8)) : (∀ y ∈ l.drop (kTo l k), gtB y k = true) ∧ ∀ y, 0 < kTo l k → l[kTo l k - 1]? = some y → gtB y k = false := by
 obtain ⟨A, B, e0, hlen, hB, hA⟩ : ∃ A B, l = A ++ B ∧ A.length = kTo l k ∧ (∀ y ∈ B, gtB y k = true) ∧ ∀ y, A.getLast? = some y → gtB y k = false := by
  refine ⟨(l.reverse.dropWhile fun y => gtB y k).reverse, (l.reverse.takeWhile fun y => gtB y k).reverse, ?_, by rw [List.length_reverse]; rfl, fun y hy => twM (p := fun y => gtB y k) (List.mem_reverse.1 hy), fun y hy => ?_⟩
  · rw [← List.reverse_append, List.takeWhile_append_dropWhile, List.reverse_reverse]
  · rw [List.getLast?_reverse] at hy
    have := List.head?_dropWhile_not (fun y => gtB y k) l.reverse
    rw [hy] at this
    simpa using this
 generalize kTo l k = n at *
 subst e0 hlen
 refine ⟨fun y hy => ?_, fun y h0 hy => ?_⟩
 · rw [List.drop_left] at hy
   exact hB y hy
 · apply hA
   rw [List.getElem?_append_left (by omega)] at hy
   rw [List.getLast?_eq_getElem?, hy]
theorem y1d {l : List (List UInt8)} {k : List UInt8} (h : ywv l) : ywv (kIns l k) := by
 obtain ⟨g1, g2⟩ := y33 k l
 have hle := y5t l k
 unfold kIns
 split
 · exact h
 · rename_i hn
   generalize kTo l k = n at *
   have hs : l = l.take n ++ l.drop n := (List.take_append_drop n l).symm
   have hr := h
   unfold ywv at hr ⊢
   rw [hs, List.pairwise_append] at hr
   obtain ⟨r1, r2, r3⟩ := hr
   refine List.pairwise_append.2 ⟨r1, List.pairwise_cons.2 ⟨fun y hy => ?_, r2⟩, fun a ha b hb => ?_⟩
   · have := g1 y hy
     rw [y04] at this
     exact of_decide_eq_true this
   · rcases List.mem_cons.1 hb with rfl | hb
     · obtain ⟨i, hi, rfl⟩ := List.getElem_of_mem ha
       rw [List.length_take] at hi
       have hn0 : 0 < n := by omega
       have hg := Zge (show n - 1 < l.length by omega)
       have h3 := g2 _ hn0 hg
       have hne : l[n - 1] ≠ b := fun e => hn ⟨by rw [hg, e], hn0⟩
       rw [y04] at h3
       have h4 : cmpB l[n - 1] b < 0 := by
        have := of_decide_eq_false h3
        exact z8p this (fun e => hne e.symm)
       rw [List.getElem_take]
       rcases Nat.lt_or_ge i (n - 1) with hlt | hge
       · exact z0s (List.pairwise_iff_getElem.1 h i (n - 1) (by omega) (by omega) hlt) h4
       · have : i = n - 1 := by omega
         subst this
         exact h4
     · exact r3 a ha b hb
theorem z8z {σ α : Type} {P : σ → Prop} {f : σ → α → σ} (h : ∀ s x, P s → P (f s x)) : ∀ (l : List α) {s : σ}, P s → P (l.foldl f s)
 | [], _, h0 => h0
 | x :: l, s, h0 => by rw [List.foldl_cons]; exact z8z h l (h s x h0)
theorem yvn {l : List Txn} (h : Accd l) (tab : List UInt8) (t : Int) : ywv (zw1 l tab t) := by
 unfold zw1
 rw [zv8 h]
 refine z8z (P := fun s : Option (List (List UInt8)) => ywv (s.getD [])) (fun s x hs => ?_) _ List.Pairwise.nil
 unfold selC
 split
 · unfold zqp
   split
   · exact hs
   · rw [z7y]; exact y1d hs
 · exact hs
theorem y1h {l : List Txn} (h : Accd l) (tab : List UInt8) (t : Int) : zw1 l tab t = zw1 (cutT l t) tab t := by
 unfold zw1
 rw [yqs h]
theorem y63 {l : List Txn} (h : Accd l) (t : Int) : Accd (cutT l t) := by
 obtain ⟨r, hr, _⟩ := z1n l t
 exact Accd.pre (b := r) (by rw [← hr]; exact h)
theorem y4z {l : List Txn} (h : Accd l) (tab : List UInt8) (t : Int) : schS l tab t = schS (cutT l t) tab t := by
 rw [z2u h, z2u (y63 h t), y0n]
theorem z8s : ∀ a : List Col, z2c a a = true := fun a => by
 unfold z2c
 rw [List.all_eq_true]
 intro p hp
 have : p.1 = p.2 := by
  obtain ⟨i, hi, rfl⟩ := List.getElem_of_mem hp
  rw [List.getElem_zip]
 rw [this]
 unfold zk8
 simp
theorem yqz (s : Sch) : z1z s s = true := by
 unfold z1z
 simp [z8s]
theorem yq7 (a : List (List UInt8)) : z3p a a = true := by
 unfold z3p
 simp only [bne_self_eq_false, Bool.not_false, Bool.true_and, List.all_eq_true]
 intro p hp
 obtain ⟨i, hi, rfl⟩ := List.getElem_of_mem hp
 rw [List.getElem_zip]
 simp
theorem y16 : right [] = true := rfl
theorem y5z {l : List Txn} (h : Accd l) (tab k : List UInt8) (t : Int) : right (zq4 l tab k t) = true := by
 unfold zq4
 rw [zv8 h]
 refine z8z (P := fun s : Option (List Piece) => right (s.getD []) = true) (fun s x hs => ?_) _ y16
 unfold selC
 split
 · unfold zqp
   split
   · exact hs
   · unfold zx9
     split
     · split
       · exact zj6 hs
       · exact z7r hs
     · exact hs
 · exact hs
def xzz (tab : List UInt8) (s0 : Option Sch) (k : List UInt8) (c : Chg) : Bool := (c.tab != tab) || (c.op == 3) || (sErr s0 != 0) || decide ((c.row.length : Int) < zw3 s0) || (keyB (c.row.take (zw3 s0).toNat) != k)
def z9c (tab : List UInt8) (s0 : Option Sch) (k : List UInt8) (p : List Piece) (c : Chg) : List Piece := if xzz tab s0 k c = true then p else if (c.op == 1) = true then putP p (c.lo, c.hi) c.row else drop p (c.lo, c.hi)
theorem y76 {tab k : List UInt8} {s0 : Option Sch} (hk : k ≠ []) (o : Option (List Piece)) (c : Chg) : (selC tab (zqp s0 (zx9 k)) o c).getD [] = z9c tab s0 k (o.getD []) c := by
 unfold selC z9c xzz zqp zx9 zwy
 have hk' : (([] : List UInt8) == k) = false := by simpa using fun e : [] = k => hk e.symm
 cases h1 : (c.tab == tab) with
 | false => simp [bne, h1]
 | true =>
   cases h2 : (c.op == 3) with
   | true => simp [bne, h1]
   | false =>
     cases h3 : (sErr s0 != 0) with
     | true => simp [bne, h1, hk']
     | false =>
       cases h4 : decide ((c.row.length : Int) < zw3 s0) with
       | true => simp [bne, h1, hk']
       | false =>
         cases h5 : (keyB (c.row.take (zw3 s0).toNat) == k) with
         | false => simp [bne, h1, h5]
         | true =>
           cases h6 : (c.op == 1) <;> simp [bne, h1, h5]
theorem yj0 {tab k : List UInt8} {s0 : Option Sch} (hk : k ≠ []) : ∀ (l : List Chg) (o : Option (List Piece)), (l.foldl (selC tab (zqp s0 (zx9 k))) o).getD [] = l.foldl (z9c tab s0 k) (o.getD [])
 | [], _ => rfl
 | c :: l, o => by rw [List.foldl_cons, List.foldl_cons, yj0 hk l, y76 hk]
theorem z94 {less : List Txn} {x : Txn} (h : Accd (less ++ [x])) : ∀ y ∈ less, y.time < x.time := fun y hy => (List.pairwise_append.1 h.rise).2.2 y hy x (List.mem_singleton.2 rfl)
theorem xz2 {less : List Txn} {x : Txn} (h : Accd (less ++ [x])) (tab : List UInt8) {k : List UInt8} (hk : k ≠ []) :
 zq4 (less ++ [x]) tab k x.time = x.chs.foldl (z9c tab (schS (less ++ [x]) tab x.time) k) (zq4 less tab k x.time) := by
 have hl := z94 h
 have hc : cutT (less ++ [x]) x.time = less ++ [x] := z5k fun y hy => by
  rcases List.mem_append.1 hy with hy | hy
  · have := hl y hy; omega
  · rw [List.mem_singleton.1 hy]; exact Int.le_refl _
 have hc2 : cutT less x.time = less := z5k fun y hy => by have := hl y hy; omega
 have ef : zki (less ++ [x]) = zki less ++ x.chs := by rw [z5t]; unfold zki; rw [List.flatMap_singleton]
 have hch := h.chain tab
 rw [ef] at hch
 unfold zq4
 rw [zv8 h, zv8 (Accd.pre h), z2u h, hc, hc2, ef]
 show (List.foldl _ none _).getD [] = List.foldl _ ((List.foldl _ none _).getD []) _
 rw [List.foldl_append (f := selC tab _), ykr hch, yj0 hk]
theorem y84 {less : List Txn} {x : Txn} (h : Accd (less ++ [x])) (tab k : List UInt8) : zq4 (less ++ [x]) tab k (x.time - 1) = zq4 less tab k (x.time - 1) := by
 have hl := z94 h
 rw [z3o h, z3o (Accd.pre h)]
 congr 1
 have e1 : ∀ l : List Txn, (∀ y ∈ l, y.time < x.time) → cutT (l ++ [x]) (x.time - 1) = l := fun l hl => by
  induction l with
  | nil => unfold cutT; rw [List.nil_append, List.takeWhile_cons, if_neg (by simp; omega)]
  | cons y l ih =>
    have := ih fun z hz => hl z (List.mem_cons_of_mem _ hz)
    unfold cutT at this ⊢
    rw [List.cons_append, List.takeWhile_cons, if_pos (by have := hl y (List.mem_cons_self ..); simp; omega), this]
 rw [e1 less hl, z5k fun y hy => by have := hl y hy; omega]
def covI (lo hi t : Int) : Bool := decide (lo ≤ t) && decide (t < hi)
def xxg (t : Int) (zs : List Seg) : List Piece := zs.flatMap fun z => if covI z.lo z.hi t = true then z.ps else []
structure SegI (c0 : Int) (f : Int → List Piece) (e : Int) (zs : List Seg) : Prop where
 hi : ∀ z ∈ zs, z.lo ≤ e ∧ z.hi ≤ e
 last : ∀ z, zs[zs.length - 1]? = some z → z.hi = e
 tell : ∀ t, c0 ≤ t → t < e → xxg t zs = f t
theorem ywi {σ : Sc} {o : OpB} {x : Txn} (h : x ∈ (zxb σ o).acc) : x ∈ σ.acc ∨ x = o.t := by
 unfold zxb at h
 split at h
 · split at h
   · rcases List.mem_append.1 h with h | h
     · exact .inl h
     · exact .inr (List.mem_singleton.1 h)
   · exact .inl h
 · exact .inl h
theorem ywh {σ : Sc} {o : OpB} : (zxb σ o).acc.length ≤ σ.acc.length + 1 := by
 unfold zxb
 split
 · split
   · rw [List.length_append, List.length_singleton]; exact Nat.le_refl _
   · omega
 · omega
theorem y5x : ∀ {l : List OpB} {σ : Sc} {x : Txn}, x ∈ (l.foldl zxb σ).acc → x ∈ σ.acc ∨ ∃ o ∈ l, x = o.t
 | [], _, _, h => .inl h
 | o :: l, σ, x, h => by
   rw [List.foldl_cons] at h
   rcases y5x h with h | ⟨p, hp, e⟩
   · exact (ywi h).imp_right fun e => ⟨o, List.mem_cons_self .., e⟩
   · exact .inr ⟨p, List.mem_cons_of_mem _ hp, e⟩
theorem y5w : ∀ {l : List OpB} {σ : Sc}, (l.foldl zxb σ).acc.length ≤ σ.acc.length + l.length
 | [], _ => Nat.le_refl _
 | o :: l, σ => by
   have h1 := y5w (l := l) (σ := zxb σ o)
   have h2 := @ywh σ o
   rw [List.foldl_cons, List.length_cons]
   omega
structure Scr (l : List Txn) : Prop where
 acc : Accd l
 sm : ∀ x ∈ l, TxnU x
 len : l.length ≤ 20
theorem y18 {s : List OpB} (h : ∀ o ∈ s, OpBU o) : Scr (z6d s) := by
 refine ⟨y15 s, fun x hx => ?_, ?_⟩
 · rcases y5x (show x ∈ ((s.take 20).foldl zxb sc0).acc from hx) with h1 | ⟨o, ho, rfl⟩
   · cases h1
   · exact h o (List.mem_of_mem_take ho)
 · have := y5w (l := s.take 20) (σ := sc0)
   have h0 : sc0.acc.length = 0 := rfl
   rw [h0, List.length_take] at this
   show ((s.take 20).foldl zxb sc0).acc.length ≤ 20
   omega
theorem Scr.pre {a b : List Txn} (h : Scr (a ++ b)) : Scr a :=
 ⟨Accd.pre h.acc, fun x hx => h.sm x (List.mem_append_left _ hx), by have := h.len; rw [List.length_append] at this; omega⟩
theorem Scr.cut {l : List Txn} (h : Scr l) (t : Int) : Scr (cutT l t) := by
 obtain ⟨r, hr, _⟩ := z1n l t
 exact Scr.pre (b := r) (by rw [← hr]; exact h)
theorem yj1 {tab : List UInt8} : ∀ {l : List Chg} {s : Option Sch}, l.foldl (nxtS tab) s = s ∨ ∃ x ∈ l, x.op = 3 ∧ l.foldl (nxtS tab) s = some x.d
 | [], _ => .inl rfl
 | x :: l, s => by
   rw [List.foldl_cons]
   rcases yj1 (tab := tab) (l := l) (s := nxtS tab s x) with e | ⟨y, hy, h3, e⟩
   · rw [e]
     unfold nxtS
     split
     · rename_i h
       simp only [Bool.and_eq_true, beq_iff_eq] at h
       exact .inr ⟨x, List.mem_cons_self .., h.2, rfl⟩
     · exact .inl rfl
   · exact .inr ⟨y, List.mem_cons_of_mem _ hy, h3, e⟩
theorem y01 {l : List Txn} {c : Chg} (h : c ∈ zki l) : ∃ x ∈ l, c ∈ x.chs := by
 obtain ⟨x, hx, hc⟩ := List.mem_flatMap.1 h
 exact ⟨x, hx, hc⟩
theorem y8e {x : Txn} (h : z0n x = true) {c : Chg} (hc : c ∈ x.chs) : z8n c = true := by
 unfold z0n at h
 simp only [Bool.and_eq_true, List.all_eq_true] at h
 exact h.1 c hc
theorem y47 {x : Txn} (h : z0n x = true) : x.chs.length ≤ 100 := by
 unfold z0n at h
 simp only [Bool.and_eq_true, decide_eq_true_eq] at h
 omega
theorem Scr.sch {l : List Txn} (h : Scr l) (tab : List UInt8) (t : Int) {d : Sch} (hd : schS l tab t = some d) : zxt d = true ∧ SchU d := by
 rw [z2u h.acc] at hd
 rcases yj1 (tab := tab) (l := zki (cutT l t)) (s := none) with e | ⟨c, hc, h3, e⟩
 · rw [e] at hd; cases hd
 · rw [e] at hd
   cases hd
   obtain ⟨x, hx, hcx⟩ := y01 hc
   have hs := h.cut t
   refine ⟨?_, ((hs.sm x hx).2 c hcx).2.2⟩
   have := y8e (hs.acc.ok x hx) hcx
   unfold z8n at this
   rw [h3, if_pos (by rfl)] at this
   unfold y3i at this
   simp only [Bool.and_eq_true] at this
   exact this.1.1.1
theorem SchU.sz {d : Sch} (h : SchU d) : d.sz := ⟨Nat.le_trans h.1 (by decide), Nat.le_trans h.2.1 (by decide), fun c hc => Nat.le_trans (h.2.2 c hc) (by decide)⟩
theorem y4g : zvc.sz := ⟨by decide, by decide, fun c hc => by cases hc⟩
theorem Scr.getD_sz {l : List Txn} (h : Scr l) (tab : List UInt8) (t : Int) : ((schS l tab t).getD zvc).sz := by
 cases e : schS l tab t with
 | none => exact y4g
 | some d => exact (h.sch tab t e).2.sz
theorem y37 {d : Sch} (h : zxt d = true) : 1 ≤ d.keys := by
 unfold zxt z2h at h
 simp only [Bool.and_eq_true, Bool.not_eq_true', decide_eq_false_iff_not] at h
 omega
theorem Scr.keys {l : List Txn} (h : Scr l) (tab : List UInt8) (t : Int) : 0 ≤ zw3 (schS l tab t) := by
 unfold zw3
 cases e : schS l tab t with
 | none => exact Int.le_refl _
 | some d =>
   have := y37 (h.sch tab t e).1
   show 0 ≤ d.keys
   omega
theorem y5c {v : Val} (h : Val.ok v) : 0 ≤ v.bits ∧ v.bits < 18446744073709551616 := by
 have := h.2.2.1
 simp [Lit.wf] at this
 have h1 : IntKind.u64.min = 0 := by decide
 have h2 : IntKind.u64.max = 18446744073709551615 := by decide
 rw [h1, h2] at this
 omega
theorem RowU.bits {r : Row} (h : RowU r) : zwv r := fun v hv => y5c (h.2 v hv).1
theorem y54 : ∀ {l : List Txn}, (∀ x ∈ l, z0n x = true) → tot l ≤ 100 * l.length
 | [], _ => Nat.le_refl _
 | x :: l, h => by
   have h1 := y54 fun y hy => h y (List.mem_cons_of_mem _ hy)
   have h2 := y47 (h x (List.mem_cons_self ..))
   have e : tot (x :: l) = x.chs.length + tot l := rfl
   rw [e, List.length_cons]
   omega
theorem Scr.lsm {l : List Txn} (h : Scr l) (tab : List UInt8) : LSm l tab := by
 have hlen := h.len
 refine ⟨by omega, fun x hx => ⟨(h.sm x hx).1, fun c hc => ?_⟩, h.keys tab _, ?_⟩
 · obtain ⟨h1, h2, h3⟩ := (h.sm x hx).2 c hc
   exact ⟨h3.2.1, h2.1, h2.1, h2.bits⟩
 · have := y54 h.acc.ok
   omega
def kVal (m : Int) : Val := ⟨2, m, 0, ⟨#[]⟩⟩
theorem yvm (m : Int) : (kVal m).right = true := by
 have e : (kVal m).canon = some (kVal m) := rfl
 unfold Val.right
 rw [e]
 show ((kVal m).same (kVal m) && decide (((kVal m).str.size : Int) ≤ 4096)) = true
 rw [Val.same_iff.2 rfl]
 rfl
theorem xqm (m : Int) : keyB [kVal m] ≠ [] := by
 have hk : zx4 [kVal m] = true := by
  unfold zx4 zqi
  simp [yvm]
 unfold keyB
 rw [if_pos hk]
 simp
theorem y1e (m : Int) : zwv [kVal m] := fun v hv => by
 rw [List.mem_singleton.1 hv]
 exact ⟨Int.le_refl _, show (0 : Int) < 18446744073709551616 by decide⟩
theorem cn1 : Cn cnt1 1 := ⟨zzc _ _ _, Nat.le_refl _, fun j hj => zza _ _ (by simp; omega)⟩
theorem y6v (n : Nat) (hn : 1 ≤ n) : Above n noH cnt1 := fun i hi => ⟨rfl, fun k => zza _ _ (by simp; omega)⟩
theorem low1 {A : AMap} (h : Low 1 cnt1 A) (m j : Nat) (hm : m ≠ 0) : A (m, j) = none := by
 rw [h (m, j) (by simp [hm]) (.inl hm)]
 exact zza _ _ (by simp [hm])
theorem y6w {A : AMap} {c : Nat} (h : Cn A c) : ∀ κ, cnt1 κ ≠ none → A κ ≠ none := fun κ hκ => by
 by_cases e : κ = (0, 0)
 · subst e; rw [h.1]; simp
 · exact absurd (show cnt1 κ = none from zza _ _ e) hκ
theorem y90 {l : List Txn} {t : Int} {i : Nat} (h : i < (cutT l t).length) : ∃ x, l[i]? = some x ∧ x.time ≤ t := by
 obtain ⟨r, hr, hx⟩ := z1n l t
 refine ⟨(cutT l t)[i], ?_, hx _ (List.getElem_mem _)⟩
 conv => lhs; rw [hr]
 rw [List.getElem?_append_left h, Zge h]
theorem y64 (l : List Txn) (t : Int) : (cutT l t).length ≤ l.length := by
 obtain ⟨r, hr, _⟩ := z1n l t
 have := congrArg List.length hr
 rw [List.length_append] at this
 omega
theorem y3h (l : List Txn) (t : Int) : l.take (cutT l t).length = cutT l t := by
 obtain ⟨r, hr, _⟩ := z1n l t
 conv => lhs; arg 2; rw [hr]
 rw [List.take_left]
theorem y0o : ∀ {l : List Txn} {t : Int} {x : Txn}, l[(cutT l t).length]? = some x → ¬ x.time ≤ t
 | [], _, _, h => by simp at h
 | y :: l, t, x, h => by
   unfold cutT at h
   rw [List.takeWhile_cons] at h
   split at h
   · rw [List.length_cons, List.getElem?_cons_succ] at h
     exact y0o h
   · rename_i hy
     simp at h
     rw [← h]
     simpa using hy
@[go_sem] theorem xja {P : Program} {T : TypeId} {a b : List UInt8} : binS P .geq T (.c (.d (.lit (.string ⟨a.toArray⟩)))) (.c (.d (.lit (.string ⟨b.toArray⟩)))) = some (lit (.bool (!Go.Op.bytesLess a b))) := by
  show (zks (Op.stringOp .geq ⟨a.toArray⟩ ⟨b.toArray⟩)).map lit = _
  unfold Op.stringOp
  simp only [zk3]
  rfl
theorem nc1 : ((1 : Nat) : Int) = 1 := rfl
theorem Tryz.kCutsLaw (s : List OpB) (n t : Int) (hl : s.length ≤ 1048576) (hs : ∀ o ∈ s, OpBU o) :
 y6b Tryz.prog 5 [pD (z0d s), pD (.lit (.int .u8 n)), pD (dI t)] := by
 obtain ⟨σ, kr, hcn, _, hlow⟩ := Tryz.rBRight 1000 s cn1 hl (fun o ho => (hs o ho).sm)
 have hS := y18 hs
 have kA := y6w hcn
 have fA := low1 hlow
 generalize σ.1 = A1 at *
 generalize z6d s = l at *
 have hC := hS.cut t
 have kn := Tryz.kKnown21
 have kk1 := Tryz.kKeys l [116] t (hS.lsm _)
 have kk2 := Tryz.kKeys (cutT l t) [116] t (hC.lsm _)
 rw [← y1h hS.acc] at kk2
 have hss : ∀ {l : List Txn}, Scr l → ∀ x ∈ l, x.chs.length ≤ 1048576 ∧ ∀ c ∈ x.chs, c.d.cols.length ≤ 1048576 := fun h x hx => ⟨((h.lsm [116]).cs x hx).1, fun c hc => (((h.lsm [116]).cs x hx).2 c hc).1⟩
 have ks1 := Tryz.kSchema l [116] t (hS.lsm [116]).len (hss hS)
 have ks2 := Tryz.kSchema (cutT l t) [116] t (hC.lsm [116]).len (hss hC)
 rw [← y4z hS.acc] at ks2
 have hsz := (hS.getD_sz [116] t).2.1
 have hkl := Tryz.keysS_len (hS.lsm [116]) t
 have hrise := yvn hS.acc [116] t
 have ktx := Tryz.rTxts (zw1 l [116] t) (zw1 l [116] t) (by omega)
 rw [yq7] at ktx
 have ksm := Tryz.rSchSame ((schS l [116] t).getD zvc) ((schS l [116] t).getD zvc) hsz
 rw [yqz] at ksm
 have hcl := y64 l t
 have hll := hS.len
 refine xzn (E := envOf Tryz.prog [6] 0 [] []) (zzx Tryz.mixed) Tryz.func5 rfl Tryz.call5 (by kernel_rfl) (by exact Zle rfl) ?_
 have kky := Tryz.kKeyOf [kVal ((IntKind.i64.wrap n).tmod 3)] (by simp) (y1e _)
 have hslc : List.take ((cutT l t).length - 0) (l.map Txn.enc) = (cutT l t).map Txn.enc := by rw [Nat.sub_zero, ← List.map_take, y3h]
 have kst1 := Tryz.kState l [116] (keyB [kVal ((IntKind.i64.wrap n).tmod 3)]) t (hS.lsm _)
 have kst2 := Tryz.kState (cutT l t) [116] (keyB [kVal ((IntKind.i64.wrap n).tmod 3)]) t (hC.lsm _)
 rw [← z3o hS.acc] at kst2
 obtain ⟨n1, n2⟩ := Tryz.stateS_sm (hS.lsm [116]) (keyB [kVal ((IntKind.i64.wrap n).tmod 3)]) t
 have ksp := Tryz.kSameP _ (zq4 l [116] (keyB [kVal ((IntKind.i64.wrap n).tmod 3)]) t) (Nat.le_trans n1 (by decide)) n2
 rw [z1h.2 rfl] at ksp
 generalize zq4 l [116] (keyB [kVal ((IntKind.i64.wrap n).tmod 3)]) t = st at *
 generalize keyB [kVal ((IntKind.i64.wrap n).tmod 3)] = kb at *
 generalize zw1 l [116] t = ks at *
 generalize sErr (schS l [116] t) = er at *
 generalize (schS l [116] t).getD zvc = sc at *
 generalize hc : (cutT l t).length = m at *
 repeat' (first|(with_reducible first|refine vSq fun K hK=>?_|apply vRg|apply vBl|apply vSc|apply vIf|apply vSk|apply vEx|apply vRt|((first|refine gNt ?_ ?_|refine gCs ?_ ?_)<;>(intro h;try simp only[h]))|((first|refine hK _ ?_|(clear hK K;first|refine hK _ ?_|(clear hK K;first|refine hK _ ?_|(clear hK K;refine hK _ ?_))));clear hK K)|(refine todo ?_;simp +decide only[go_sem]))|refine zz7 rfl kr rfl (y6v 1000 (by decide)) ?_|refine zzd kky rfl rfl (fun j => fA _ j (Nat.succ_ne_zero _)) ?_)
 have hwfA : Wf noH A1 := zqd
 refine zzj m (fun _ => True) (fun i => over [(2, pD (dI t)), (7, pD (zq1 l)), (8, pD (dS kb)), (9, pD (dI i))] [] noH A1) Zti ?_ ?_
 · refine zz1 (fun κ => .inr rfl) kA ?_ ?_ <;> simp +decide only [go_sem]
 · intro i hi _
   rcases Nat.lt_or_ge i m with hlt | hge
   · obtain ⟨x, hg, hx⟩ := y90 (show i < (cutT l t).length by omega)
     have hd := zze (show i < l.length by omega)
     have hnx := zzl (show i < l.length by omega) (show l.length ≤ 4294967296 by omega)
     have hx' : decide (x.time ≤ t) = true := decide_eq_true hx
     repeat' (first|(with_reducible first|refine vSq fun K hK=>?_|apply vRg|apply vBl|apply vSc|apply vIf|apply vSk|apply vEx|apply vRt|((first|refine gNt ?_ ?_|refine gCs ?_ ?_)<;>(intro h;try simp only[h]))|((first|refine hK _ ?_|(clear hK K;first|refine hK _ ?_|(clear hK K;first|refine hK _ ?_|(clear hK K;refine hK _ ?_))));clear hK K)|(refine todo ?_;simp +decide only[go_sem, hg, hd, hnx, hx'])))
     refine zzi hlt Zti (zz1 (fun κ => .inr rfl) kA ?_ ?_) <;> simp +decide only [go_sem]
   · obtain rfl : i = m := by omega
     have hcases : ((i : Int) < (l.length : Int)) = False ∨ ∃ x, l[i]? = some x ∧ ((i : Int) < (l.length : Int)) = True ∧ decide (x.time ≤ t) = false := by
      rcases Nat.lt_or_ge i l.length with h | h
      · have hg := Zge h
        generalize l[i] = x at hg
        refine .inr ⟨x, hg, eq_true (by omega), decide_eq_false ?_⟩
        rw [← hc] at hg
        exact y0o hg
      · exact .inl (eq_false (by omega))
     rcases hcases with hd | ⟨x, hg, hd, hx⟩
     · repeat' (first
        |with_reducible first|refine vSq fun K hK=>?_|refine vRg ?_|refine vBl ?_|refine vSc ?_|refine vIf ?_|refine vSk ?_|refine vEx ?_|refine vRt ?_
        |(with_reducible first|refine gNt (fun h=>?_) (fun h=>?_)|refine gCs (fun h=>?_) (fun h=>?_))<;>(try simp only[h])
        |refine zzd kk1 rfl rfl (fun j => fA _ j (Nat.succ_ne_zero _)) ?_
        |refine zzd kk2 rfl rfl (fun j => fA _ j (Nat.succ_ne_zero _)) ?_
        |refine zzd ks1 rfl rfl (fun j => fA _ j (Nat.succ_ne_zero _)) ?_
        |refine zzd ks2 rfl rfl (fun j => fA _ j (Nat.succ_ne_zero _)) ?_
        |(refine zvh Tryz.appTxns rfl (l := 0) (h := i) rfl (by simp [zz0, natOf?, intOf?]) (Nat.zero_le _) (by simp; omega) (yq4 _) ?_)
        |with_reducible first|(refine hK _ ?_;clear hK K)|(clear hK K;refine hK _ ?_;clear hK K)|(clear hK K;clear hK K;refine hK _ ?_;clear hK K)|(clear hK K;clear hK K;clear hK K;refine hK _ ?_;clear hK K)
        |(with_reducible refine todo ?_;simp +decide only[go_sem, hd, hslc]))
       refine zzj (ks.length - 1) (fun _ => True) (fun j => over [(2, pD (dI t)), (7, pD (zq1 l)), (8, pD (dS kb)), (9, pD (dI i)), (10, pD (zxu ks)), (11, pD (zxu ks)), (12, .c (.ptr 12 0)), (13, pD (dI er)), (14, .c (.ptr 14 0)), (15, pD (dI er)), (16, pD (dI (j + 1 : Nat)))] [(12, sc.enc.map .d), (14, sc.enc.map .d)] noH A1) Zti ?_ ?_
       · refine zz1 (fun κ => .inr rfl) kA ?_ ?_ <;> simp +decide only [go_sem, nc1]
         exact ⟨zzh (by simp [zzy]), zzh (by simp [zzy])⟩
       · intro j hj _
         rcases Nat.lt_or_ge j (ks.length - 1) with hlt | hge
         · have hg0 := Zge (show j < ks.length by omega)
           have hg1 := Zge (show j + 1 < ks.length by omega)
           have hle : Go.Op.bytesLess ks[j] ks[j + 1] = true := by
            rw [z4y]
            exact decide_eq_true (List.pairwise_iff_getElem.1 hrise j (j + 1) _ _ (by omega))
           generalize ks[j] = a at hg0 hle
           generalize ks[j + 1] = b at hg1 hle
           have hd := zze (show j + 1 < ks.length by omega)
           have hw1 : IntKind.i64.wrap (((j + 1 : Nat) : Int) - 1) = (j : Int) := by rw [Go.IntWalk.i64_in _ (by omega)]; omega
           have hnx := zzl (show j + 1 < ks.length by omega) (show ks.length ≤ 4294967296 by omega)
           repeat' (first|(with_reducible first|refine vSq fun K hK=>?_|apply vRg|apply vBl|apply vSc|apply vIf|apply vSk|apply vEx|apply vRt|((first|refine gNt ?_ ?_|refine gCs ?_ ?_)<;>(intro h;try simp only[h]))|((first|refine hK _ ?_|(clear hK K;first|refine hK _ ?_|(clear hK K;first|refine hK _ ?_|(clear hK K;refine hK _ ?_))));clear hK K)|(refine todo ?_;simp +decide only[go_sem, hd, hw1, hg0, hg1, hle, hnx])))
           refine zzi hlt Zti (zz1 (fun κ => .inr rfl) kA ?_ ?_) <;> simp +decide only [go_sem]
           exact ⟨zzh (by simp [zzy]), zzh (by simp [zzy])⟩
         · have hd : (((j + 1 : Nat) : Int) < (ks.length : Int)) = False := eq_false (by omega)
           have hee : (er == er) = true := by simp
           repeat' (first|(with_reducible first|refine vSq fun K hK=>?_|apply vRg|apply vBl|apply vSc|apply vIf|apply vSk|apply vEx|apply vRt|((first|refine gNt ?_ ?_|refine gCs ?_ ?_)<;>(intro h;try simp only[h]))|((first|refine hK _ ?_|(clear hK K;first|refine hK _ ?_|(clear hK K;first|refine hK _ ?_|(clear hK K;refine hK _ ?_))));clear hK K)|(refine todo ?_;simp +decide only[go_sem, hd, hslc, hee]))|refine zzd kst1 rfl rfl (fun j => fA _ j (Nat.succ_ne_zero _)) ?_|refine zzd kst2 rfl rfl (fun j => fA _ j (Nat.succ_ne_zero _)) ?_|refine zzd ktx rfl rfl (fun j => fA _ j (Nat.succ_ne_zero _)) ?_|refine zzd ksm rfl rfl (fun j => fA _ j (Nat.succ_ne_zero _)) ?_|refine zzd ksp rfl rfl (fun j => fA _ j (Nat.succ_ne_zero _)) ?_|refine zzd kn rfl rfl (fun j => fA _ j (Nat.succ_ne_zero _)) ?_|(refine zvh Tryz.appTxns rfl (l := 0) (h := i) rfl (by simp [zz0, natOf?, intOf?]) (Nat.zero_le _) (by simp; omega) (yq4 _) ?_))
           exact zzu rfl (by unfold zzn; simp +decide only [go_sem])
     · repeat' (first
        |with_reducible first|refine vSq fun K hK=>?_|refine vRg ?_|refine vBl ?_|refine vSc ?_|refine vIf ?_|refine vSk ?_|refine vEx ?_|refine vRt ?_
        |(with_reducible first|refine gNt (fun h=>?_) (fun h=>?_)|refine gCs (fun h=>?_) (fun h=>?_))<;>(try simp only[h])
        |refine zzd kk1 rfl rfl (fun j => fA _ j (Nat.succ_ne_zero _)) ?_
        |refine zzd kk2 rfl rfl (fun j => fA _ j (Nat.succ_ne_zero _)) ?_
        |refine zzd ks1 rfl rfl (fun j => fA _ j (Nat.succ_ne_zero _)) ?_
        |refine zzd ks2 rfl rfl (fun j => fA _ j (Nat.succ_ne_zero _)) ?_
        |(refine zvh Tryz.appTxns rfl (l := 0) (h := i) rfl (by simp [zz0, natOf?, intOf?]) (Nat.zero_le _) (by simp; omega) (yq4 _) ?_)
        |with_reducible first|(refine hK _ ?_;clear hK K)|(clear hK K;refine hK _ ?_;clear hK K)|(clear hK K;clear hK K;refine hK _ ?_;clear hK K)|(clear hK K;clear hK K;clear hK K;refine hK _ ?_;clear hK K)
        |(with_reducible refine todo ?_;simp +decide only[go_sem, hg, hd, hx, hslc]))
       refine zzj (ks.length - 1) (fun _ => True) (fun j => over [(2, pD (dI t)), (7, pD (zq1 l)), (8, pD (dS kb)), (9, pD (dI i)), (10, pD (zxu ks)), (11, pD (zxu ks)), (12, .c (.ptr 12 0)), (13, pD (dI er)), (14, .c (.ptr 14 0)), (15, pD (dI er)), (16, pD (dI (j + 1 : Nat)))] [(12, sc.enc.map .d), (14, sc.enc.map .d)] noH A1) Zti ?_ ?_
       · refine zz1 (fun κ => .inr rfl) kA ?_ ?_ <;> simp +decide only [go_sem, nc1]
         exact ⟨zzh (by simp [zzy]), zzh (by simp [zzy])⟩
       · intro j hj _
         rcases Nat.lt_or_ge j (ks.length - 1) with hlt | hge
         · have hg0 := Zge (show j < ks.length by omega)
           have hg1 := Zge (show j + 1 < ks.length by omega)
           have hle : Go.Op.bytesLess ks[j] ks[j + 1] = true := by
            rw [z4y]
            exact decide_eq_true (List.pairwise_iff_getElem.1 hrise j (j + 1) _ _ (by omega))
           generalize ks[j] = a at hg0 hle
           generalize ks[j + 1] = b at hg1 hle
           have hd := zze (show j + 1 < ks.length by omega)
           have hw1 : IntKind.i64.wrap (((j + 1 : Nat) : Int) - 1) = (j : Int) := by rw [Go.IntWalk.i64_in _ (by omega)]; omega
           have hnx := zzl (show j + 1 < ks.length by omega) (show ks.length ≤ 4294967296 by omega)
           repeat' (first|(with_reducible first|refine vSq fun K hK=>?_|apply vRg|apply vBl|apply vSc|apply vIf|apply vSk|apply vEx|apply vRt|((first|refine gNt ?_ ?_|refine gCs ?_ ?_)<;>(intro h;try simp only[h]))|((first|refine hK _ ?_|(clear hK K;first|refine hK _ ?_|(clear hK K;first|refine hK _ ?_|(clear hK K;refine hK _ ?_))));clear hK K)|(refine todo ?_;simp +decide only[go_sem, hd, hw1, hg0, hg1, hle, hnx])))
           refine zzi hlt Zti (zz1 (fun κ => .inr rfl) kA ?_ ?_) <;> simp +decide only [go_sem]
           exact ⟨zzh (by simp [zzy]), zzh (by simp [zzy])⟩
         · have hd : (((j + 1 : Nat) : Int) < (ks.length : Int)) = False := eq_false (by omega)
           have hee : (er == er) = true := by simp
           repeat' (first|(with_reducible first|refine vSq fun K hK=>?_|apply vRg|apply vBl|apply vSc|apply vIf|apply vSk|apply vEx|apply vRt|((first|refine gNt ?_ ?_|refine gCs ?_ ?_)<;>(intro h;try simp only[h]))|((first|refine hK _ ?_|(clear hK K;first|refine hK _ ?_|(clear hK K;first|refine hK _ ?_|(clear hK K;refine hK _ ?_))));clear hK K)|(refine todo ?_;simp +decide only[go_sem, hd, hslc, hee]))|refine zzd kst1 rfl rfl (fun j => fA _ j (Nat.succ_ne_zero _)) ?_|refine zzd kst2 rfl rfl (fun j => fA _ j (Nat.succ_ne_zero _)) ?_|refine zzd ktx rfl rfl (fun j => fA _ j (Nat.succ_ne_zero _)) ?_|refine zzd ksm rfl rfl (fun j => fA _ j (Nat.succ_ne_zero _)) ?_|refine zzd ksp rfl rfl (fun j => fA _ j (Nat.succ_ne_zero _)) ?_|refine zzd kn rfl rfl (fun j => fA _ j (Nat.succ_ne_zero _)) ?_|(refine zvh Tryz.appTxns rfl (l := 0) (h := i) rfl (by simp [zz0, natOf?, intOf?]) (Nat.zero_le _) (by simp; omega) (yq4 _) ?_))
           exact zzu rfl (by unfold zzn; simp +decide only [go_sem])
end Go.Proofs
