import Derived.Test.YtkifoeiilkhnhaaQ34
import Derived.Test.YtkifoeiilkhnhaaQ14

/-
  The heap, in plain words: records as chains of pages; what Put and Drop make of them.
-/

namespace Go.Proofs
open Go.PW
def ChainR (gs : List (List UInt8)) : List Nat → List (List UInt8) → Prop
  | [], [] => True
  | p :: ps, l :: ls => (2 ≤ p ∧ p < gs.length ∧ isFG gs p = false) ∧ pgAt gs p = pad (cell (ps.headD 0) l) ∧ l.length ≤ 125 ∧ (ps ≠ [] → l.length = 125) ∧ ChainR gs ps ls
  | _, _ => False
/-- A record lies in these pages. -/
structure Chain (gs : List (List UInt8)) (ids : List Nat) (s : List UInt8) : Prop where
  ne : ids ≠ []
  nd : ids.Nodup
  le : ids.length ≤ gs.length
  ex : ∃ ls, ChainR gs ids ls ∧ ls.flatten = s
theorem pad_get {s : List UInt8} {i : Nat} (h : i < s.length) : (pad s).getD i 0 = s.getD i 0 := by
  unfold pad
  rw [List.getD_eq_getElem?_getD, List.getD_eq_getElem?_getD, List.getElem?_append_left h]
theorem cell_len (nx : Nat) (l : List UInt8) : (cell nx l).length = 3 + l.length := by
  unfold cell two
  simp; omega
theorem next_cell {nx : Nat} {l : List UInt8} (h : nx < 65536) : nextOf (pad (cell nx l)) = nx := by
  have hl := cell_len nx l
  unfold nextOf
  rw [pad_get (by omega), pad_get (by omega)]
  exact num_two h
theorem len_cell {nx : Nat} {l : List UInt8} (h : l.length ≤ 125) : lenOf (pad (cell nx l)) = l.length := by
  have hl := cell_len nx l
  unfold lenOf
  rw [pad_get (by omega)]
  show (UInt8.ofNat l.length).toNat = _
  rw [UInt8.toNat_ofNat', Nat.mod_eq_of_lt (by omega)]
theorem body_cell {nx : Nat} {l : List UInt8} : ((pad (cell nx l)).drop 3).take l.length = l := by
  unfold pad cell two
  show List.take l.length (l ++ _) = l
  exact List.take_left
theorem ChainR.head {gs : List (List UInt8)} (hb : gs.length ≤ 1024) {ps : List Nat} {ls : List (List UInt8)} (h : ChainR gs ps ls) : ps.headD 0 < 65536 := by
  cases ps with
  | nil => exact Nat.zero_lt_succ _
  | cons p ps =>
    cases ls with
    | nil => exact h.elim
    | cons l ls => have := h.1; show p < _; omega
theorem isRec_ok {gs : List (List UInt8)} {p : Nat} (h2 : 2 ≤ p) (hl : p < gs.length) (hf : isFG gs p = false) : isRec gs (p : Nat) = true := by
  unfold isRec
  rw [Int.toNat_natCast, hf]
  simp; omega
theorem row_chain {gs : List (List UInt8)} (hb : gs.length ≤ 1024) : ∀ {ids : List Nat} {ls : List (List UInt8)}, ChainR gs ids ls → ∀ {f : Nat} {pages : List Nat} {s : List UInt8}, ids.length < f → pages.length + ids.length ≤ gs.length →
    rowK gs f (ids.headD 0) pages s = (pages ++ ids, s ++ ls.flatten, 0)
  | [], [], _, f + 1, pages, s, _, _ => by
    show rowK gs (f + 1) 0 pages s = _
    unfold rowK
    rw [if_pos rfl]
    simp
  | [], _ :: _, h, _, _, _, _, _ => h.elim
  | _ :: _, [], h, _, _, _, _, _ => h.elim
  | _, _, _, 0, _, _, h, _ => by omega
  | p :: ps, l :: ls, ⟨⟨h2, hl, hf⟩, hp, h3, h4, hr⟩, f + 1, pages, s, h5, h6 => by
    have ih := row_chain hb hr (f := f) (pages := pages ++ [p]) (s := s ++ l) (by simp only [List.length_cons] at h5; omega) (by rw [List.length_append, List.length_singleton]; simp only [List.length_cons] at h6; omega)
    have hh := hr.head hb
    have e1 : nextOf (pgAt gs p) = ps.headD 0 := by rw [hp, next_cell hh]
    have e2 : lenOf (pgAt gs p) = l.length := by rw [hp, len_cell h3]
    have e3 : ((pgAt gs p).drop 3).take l.length = l := by rw [hp, body_cell]
    show rowK gs (f + 1) p pages s = _
    unfold rowK
    rw [if_neg (by omega), if_neg (by rw [isRec_ok h2 hl hf]; simp only [List.length_cons] at h6; exact fun h => h.elim (fun h => by cases h) (fun h => by omega)), e1, e2, if_neg ?_, e3, ih]
    · simp
    · rintro (h | ⟨h7, h8⟩)
      · omega
      · have : ps ≠ [] := fun e => by rw [e] at h7; exact absurd h7 (by simp)
        have := h4 this
        omega
theorem Chain.row {gs : List (List UInt8)} (hb : gs.length ≤ 1024) {ids : List Nat} {s : List UInt8} (h : Chain gs ids s) : rowG gs (ids.headD 0 : Nat) = (ids, s, 0) := by
  obtain ⟨ls, hr, rfl⟩ := h.ex
  have hle := h.le
  unfold rowG
  rw [if_neg, Int.toNat_natCast, row_chain hb hr (by omega) (by simpa using hle)]
  · simp
  · cases ids with
    | nil => exact (h.ne rfl).elim
    | cons p ps =>
      cases ls with
      | nil => exact hr.elim
      | cons l ls =>
        obtain ⟨⟨h2, hl, hf⟩, _⟩ := hr
        rw [show ((p :: ps).headD 0) = p from rfl, isRec_ok h2 hl hf]
        simp
theorem ChainR.mono {gs gs' : List (List UInt8)} (hl : gs'.length = gs.length) : ∀ {ids : List Nat} {ls : List (List UInt8)}, ChainR gs ids ls → (∀ p ∈ ids, pgAt gs' p = pgAt gs p ∧ isFG gs' p = isFG gs p) → ChainR gs' ids ls
  | [], [], _, _ => True.intro
  | [], _ :: _, h, _ => h.elim
  | _ :: _, [], h, _ => h.elim
  | p :: ps, l :: ls, ⟨⟨h2, hp, hf⟩, h3, h4, h5, hr⟩, h => by
    obtain ⟨e1, e2⟩ := h p (List.mem_cons_self ..)
    exact ⟨⟨h2, by omega, by rw [e2]; exact hf⟩, by rw [e1]; exact h3, h4, h5, hr.mono hl fun q hq => h q (List.mem_cons_of_mem _ hq)⟩
theorem Chain.mono {gs gs' : List (List UInt8)} (hl : gs'.length = gs.length) {ids : List Nat} {s : List UInt8} (h : Chain gs ids s) (hs : ∀ p ∈ ids, pgAt gs' p = pgAt gs p ∧ isFG gs' p = isFG gs p) : Chain gs' ids s := by
  obtain ⟨ls, hr, e⟩ := h.ex
  exact ⟨h.ne, h.nd, by rw [hl]; exact h.le, ls, hr.mono hl hs, e⟩
theorem ChainR.mem {gs : List (List UInt8)} : ∀ {ids : List Nat} {ls : List (List UInt8)}, ChainR gs ids ls → ∀ p ∈ ids, 2 ≤ p ∧ p < gs.length ∧ isFG gs p = false
  | [], _, _, p, hp => by cases hp
  | _ :: _, [], h, _, _ => h.elim
  | q :: ps, l :: ls, ⟨h1, _, _, _, hr⟩, p, hp => by
    rcases List.mem_cons.1 hp with rfl | hp
    · exact h1
    · exact hr.mem p hp
theorem Chain.mem {gs : List (List UInt8)} {ids : List Nat} {s : List UInt8} (h : Chain gs ids s) : ∀ p ∈ ids, 2 ≤ p ∧ p < gs.length ∧ isFG gs p = false := by
  obtain ⟨ls, hr, _⟩ := h.ex
  exact hr.mem
/-- A record's parts. -/
def lsK : Nat → List UInt8 → List (List UInt8)
  | 0, _ => []
  | k + 1, s => s.take 125 :: lsK k (s.drop 125)
theorem lsK_all : ∀ {k : Nat} {s : List UInt8}, s.length ≤ 125 * k → (lsK k s).flatten = s
  | 0, s, h => by
    have : s = [] := List.eq_nil_of_length_eq_zero (by omega)
    subst this; rfl
  | k + 1, s, h => by
    unfold lsK
    rw [List.flatten_cons, lsK_all (by rw [List.length_drop]; omega), List.take_append_drop]
theorem partH_next (s : List UInt8) (i : Nat) : partH s (i + 1) = partH (s.drop 125) i := by
  unfold partH
  rw [List.drop_drop]
  congr 2
  omega
theorem chain_of {gs : List (List UInt8)} : ∀ {ids : List Nat} {s : List UInt8}, (∀ i, i < ids.length → (2 ≤ ids.getD i 0 ∧ ids.getD i 0 < gs.length ∧ isFG gs (ids.getD i 0) = false) ∧ pgAt gs (ids.getD i 0) = pad (cell (ids.getD (i + 1) 0) (partH s i))) →
    125 * (ids.length - 1) ≤ s.length → ChainR gs ids (lsK ids.length s)
  | [], _, _, _ => True.intro
  | p :: ps, s, h, hs => by
    obtain ⟨h1, h2⟩ := h 0 (by simp)
    refine ⟨h1, ?_, ?_, fun hne => ?_, ?_⟩
    · have e : (p :: ps).getD (0 + 1) 0 = ps.headD 0 := by cases ps <;> rfl
      rw [e] at h2
      exact h2
    · rw [List.length_take]; omega
    · have : 0 < ps.length := List.length_pos_iff.2 hne
      simp only [List.length_cons] at hs
      rw [List.length_take]
      omega
    · refine chain_of (fun i hi => ?_) ?_
      · have := h (i + 1) (by simp only [List.length_cons]; omega)
        rw [partH_next] at this
        exact this
      · simp only [List.length_cons] at hs
        rw [List.length_drop]
        omega
theorem need_ge (n : Nat) : n ≤ 125 * need n ∧ 125 * (need n - 1) ≤ n ∧ 1 ≤ need n := by
  unfold need
  omega
/-- What writing a record's parts comes to. -/
theorem writes_ok {gs : List (List UInt8)} {ids : List Nat} {s : List UInt8} (h : GOK gs) (hids : ∀ q ∈ ids, q ≠ 0 ∧ q < gs.length) (hnd : ids.Nodup) : ∀ {i : Nat}, i ≤ ids.length →
    GOK (writesG gs ids s i) ∧ (writesG gs ids s i).length = gs.length ∧ (∀ j, (∀ t, t < i → ids.getD t 0 ≠ j) → pgAt (writesG gs ids s i) j = pgAt gs j) ∧ ∀ t, t < i → pgAt (writesG gs ids s i) (ids.getD t 0) = pad (cell (ids.getD (t + 1) 0) (partH s t))
  | 0, _ => ⟨h, rfl, fun _ _ => rfl, fun t ht => by omega⟩
  | i + 1, hi => by
    obtain ⟨g1, g2, g3, g4⟩ := writes_ok h hids hnd (s := s) (i := i) (by omega)
    have hm : ids.getD i 0 ∈ ids := by
      rw [List.getD_eq_getElem?_getD, List.getElem?_eq_getElem (by omega)]
      exact List.getElem_mem _
    obtain ⟨h0, hlt⟩ := hids _ hm
    have hpl : (pad (cell (ids.getD (i + 1) 0) (partH s i))).length = 128 := by
      refine pad_len ?_
      rw [cell_len]
      unfold partH
      rw [List.length_take]
      omega
    unfold writesG
    refine ⟨g1.set (by rw [g2]; exact hlt) hpl, by rw [List.length_set, g2], fun j hj => ?_, fun t ht => ?_⟩
    · rw [pgAt_set _ _ _ _ (by rw [g2]; exact hlt), if_neg (hj i (by omega))]
      exact g3 j fun t ht => hj t (by omega)
    · rw [pgAt_set _ _ _ _ (by rw [g2]; exact hlt)]
      by_cases e : t = i
      · subst e; rw [if_pos rfl]
      · rw [if_neg ?_]
        · exact g4 t (by omega)
        · intro he
          rw [List.getD_eq_getElem?_getD, List.getD_eq_getElem?_getD, List.getElem?_eq_getElem (by omega), List.getElem?_eq_getElem (by omega)] at he
          exact List.pairwise_iff_getElem.1 hnd t i (by omega) (by omega) (by omega) he.symm
/-- What Put comes to, when there is room. -/
structure PutR (gs gs' : List (List UInt8)) (ids : List Nat) (s : List UInt8) : Prop where
  ok : GOK gs'
  len : gs'.length = gs.length
  ch : Chain gs' ids s
  n : ids.length = need s.length
  was : ∀ q ∈ ids, isFG gs q = true
  bit : ∀ i, i < gs.length → i ∉ ids → isFG gs' i = isFG gs i
  pg : ∀ i, i ≠ 0 → i ∉ ids → pgAt gs' i = pgAt gs i
  cnt : frG gs = frG gs' + need s.length
theorem frG_le (gs : List (List UInt8)) : frG gs ≤ gs.length := freesK_le _ _
theorem putG_ok {gs : List (List UInt8)} (h : GOK gs) (h1 : isFG gs 1 = false) {s : List UInt8} (hs : s.length ≤ 100000) (hf : need s.length ≤ frG gs) : ∃ ids gs', putG gs s = (ids.headD 0, 0, gs') ∧ PutR gs gs' ids s := by
  obtain ⟨ht, hn⟩ := allocsG_took h hf
  obtain ⟨n1, n2, n3⟩ := need_ge s.length
  have hle := frG_le gs
  refine ⟨(allocsG gs (need s.length)).1, writesG (allocsG gs (need s.length)).2 (allocsG gs (need s.length)).1 s (need s.length), ?_, ?_⟩
  · unfold putG
    rw [if_neg (by omega), if_neg (by omega)]
    congr 1
    cases (allocsG gs (need s.length)).1 <;> rfl
  · generalize allocsG gs (need s.length) = x at *
    obtain ⟨ids, g⟩ := x
    simp only at ht hn ⊢
    have hids : ∀ q ∈ ids, q ≠ 0 ∧ q < g.length := fun q hq => by
      obtain ⟨a, b, _⟩ := ht.all q hq
      exact ⟨b, by rw [ht.len]; exact a⟩
    have hmem : ∀ t, t < ids.length → ids.getD t 0 ∈ ids := fun t ht => by
      rw [List.getD_eq_getElem?_getD, List.getElem?_eq_getElem ht]
      exact List.getElem_mem _
    obtain ⟨g1, g2, g3, g4⟩ := writes_ok ht.ok hids ht.nodup (s := s) (i := need s.length) (by omega)
    have hn0 : ∀ j, j ∉ ids → pgAt (writesG g ids s (need s.length)) j = pgAt g j := fun j hj => g3 j fun t ht e => hj (by rw [← e]; exact hmem t (by omega))
    have h00 : 0 ∉ ids := fun hm => (hids 0 hm).1 rfl
    have hfg : ∀ i, isFG (writesG g ids s (need s.length)) i = isFG g i := fun i => by
      unfold isFG
      rw [hn0 0 h00]
    refine ⟨g1, by rw [g2, ht.len], ⟨?_, ht.nodup, by rw [g2, ht.len]; omega, lsK ids.length s, chain_of (fun i hi => ?_) (by rw [hn]; exact n2), lsK_all (by rw [hn]; exact n1)⟩, hn, fun q hq => (ht.all q hq).2.2.1, fun i hi hni => by rw [hfg, ht.bit i hi hni], fun i hi hni => by rw [hn0 i hni, ht.pg i hi hni], ?_⟩
    · intro e
      rw [e] at hn
      simp at hn; omega
    · have hm := hmem i hi
      obtain ⟨a, b, c, d⟩ := ht.all _ hm
      refine ⟨⟨?_, by rw [g2, ht.len]; exact a, by rw [hfg]; exact d⟩, g4 i (by omega)⟩
      have : ids.getD i 0 ≠ 1 := fun e => by rw [e, h1] at c; cases c
      omega
    · have := ht.cnt
      have e : frG (writesG g ids s (need s.length)) = frG g := by
        unfold frG
        rw [hn0 0 h00, g2]
      omega
theorem putG_full {gs : List (List UInt8)} {s : List UInt8} (hs : s.length ≤ 100000) (hf : frG gs < need s.length) : putG gs s = (0, 3, gs) := by
  unfold putG
  rw [if_neg (by omega), if_pos hf]
/-- What Drop comes to. -/
structure DropR (gs gs' : List (List UInt8)) (ids : List Nat) : Prop where
  ok : GOK gs'
  len : gs'.length = gs.length
  now : ∀ q ∈ ids, isFG gs' q = true
  bit : ∀ i, i < gs.length → i ∉ ids → isFG gs' i = isFG gs i
  pg : ∀ i, i ≠ 0 → pgAt gs' i = pgAt gs i
  cnt : frG gs' = frG gs + ids.length
theorem freesG_ok {gs : List (List UInt8)} (h : GOK gs) : ∀ {ids : List Nat}, ids.Nodup → (∀ q ∈ ids, q ≠ 0 ∧ q < gs.length ∧ isFG gs q = false) → DropR gs (freesG gs ids) ids
  | [], _, _ => ⟨h, rfl, fun q hq => (List.not_mem_nil hq).elim, fun _ _ _ => rfl, fun _ _ => rfl, rfl⟩
  | p :: ps, hnd, hq => by
    obtain ⟨h0, hlt, hf⟩ := hq p (List.mem_cons_self ..)
    obtain ⟨hnp, hnd'⟩ := List.nodup_cons.1 hnd
    have h2 := h.two
    have hg := h.flip p
    have hb := fun i hi => isFG_flip h h0 hlt (i := i) hi
    have e1 : freeG gs p = gs.set 0 (flipB (pgAt gs 0) p) := by unfold freeG; rw [if_neg (by rw [hf]; simp)]
    have hl1 : (gs.set 0 (flipB (pgAt gs 0) p)).length = gs.length := List.length_set
    have hp1 : ∀ i, i ≠ 0 → pgAt (gs.set 0 (flipB (pgAt gs 0) p)) i = pgAt gs i := fun i hi => by rw [pgAt_set _ _ _ _ (by omega), if_neg (Ne.symm hi)]
    have hc : frG (gs.set 0 (flipB (pgAt gs 0) p)) = frG gs + 1 := by
      rw [frG_cnt, frG_cnt, hl1]
      exact cntP_less (q := p) (by rw [hb p hlt, if_pos rfl, hf]; rfl) hf hlt fun i hi hne => by rw [hb i hi, if_neg hne]
    have ih := freesG_ok hg hnd' fun q hq' => by
      obtain ⟨a, b, c⟩ := hq q (List.mem_cons_of_mem _ hq')
      refine ⟨a, by rw [hl1]; exact b, ?_⟩
      rw [hb q b, if_neg (fun e => hnp (by rw [← e]; exact hq'))]
      exact c
    have es : freesG gs (p :: ps) = freesG (gs.set 0 (flipB (pgAt gs 0) p)) ps := by
      unfold freesG
      rw [List.foldl_cons, e1]
    rw [es]
    refine ⟨ih.ok, by rw [ih.len, hl1], fun q hq' => ?_, fun i hi hni => ?_, fun i hi => by rw [ih.pg i hi, hp1 i hi], by rw [ih.cnt, hc, List.length_cons]; omega⟩
    · rcases List.mem_cons.1 hq' with rfl | hq'
      · rw [ih.bit q (by rw [hl1]; exact hlt) hnp, hb q hlt, if_pos rfl, hf]; rfl
      · exact ih.now q hq'
    · rw [List.mem_cons, not_or] at hni
      rw [ih.bit i (by rw [hl1]; exact hi) hni.2, hb i hi, if_neg hni.1]
theorem dropG_ok {gs : List (List UInt8)} (h : GOK gs) {ids : List Nat} {s : List UInt8} (hc : Chain gs ids s) : DropR gs (dropG gs (ids.headD 0 : Nat)) ids := by
  unfold dropG
  rw [hc.row h.big]
  exact freesG_ok h hc.nd fun q hq => by
    obtain ⟨a, b, c⟩ := hc.mem q hq
    exact ⟨by omega, b, c⟩
/-- A page that is free is no record. -/
theorem rowG_no {gs : List (List UInt8)} {id : Int} (h : isRec gs id = false) : rowG gs id = ([], [], 4) := by
  unfold rowG
  rw [if_pos h]
theorem isRec_free {gs : List (List UInt8)} {p : Nat} (h : isFG gs p = true) : isRec gs (p : Nat) = false := by
  unfold isRec
  rw [Int.toNat_natCast, h]
  simp
theorem isRec_0 (gs : List (List UInt8)) : isRec gs ((0 : Nat) : Int) = false := by
  unfold isRec
  rfl
theorem dropG_0 (gs : List (List UInt8)) : dropG gs ((0 : Nat) : Int) = gs := by
  unfold dropG
  rw [rowG_no (isRec_0 gs)]
  rfl
end Go.Proofs

/-
  The heap: a pager whose pages are a list, and a heap beside it.
-/



namespace Go.Proofs
open Go.PW
theorem putR_le (k : Int) (s : List UInt8) : ∀ m : List (Int × List UInt8), (putR k s m).length ≤ m.length + 1
  | [] => Nat.le_refl _
  | p :: m => by
    have ih := putR_le k s m
    unfold putR
    split
    · simp
    · simp only [List.length_cons]; omega
theorem putN_le (m : List (Int × List UInt8)) (k : Int) (s : List UInt8) : (putN m k s).length ≤ m.length + 1 := by
  rw [putN_R]; exact putR_le k s m
/-- A pager, whose pages are a list. -/
def PY (H : HMap) (A : AMap) (k did pid N logs T m : Nat) (gs : List (List UInt8)) : Prop :=
  ∃ ch b, PX H A k did pid N logs T ch b ∧ ch.length ≤ m ∧ gs.length = N - logs ∧ ∀ j, j < N - logs → ct b ch j = pgAt gs j
/-- A heap beside it. -/
def HY (H : HMap) (A : AMap) (k did pid hid N logs T m : Nat) (gs : List (List UInt8)) : Prop :=
  ∃ H0, PY H0 A k did pid N logs T m gs ∧ k ≤ hid ∧ 2 ≤ gs.length ∧ H = upd H0 hid (some [.ptr pid 0])
/-- A call, and the heap behind it. -/
def HSO (off : Nat) (P : Program) (f : FuncId) (H : HMap) (A : AMap) (args : List PV) (v : PV) (k did pid hid N logs T m : Nat) (gs : List (List UInt8)) : Prop :=
  ∃ H' A', EffOK P f off H A args v H' A' ∧ HY H' A' k did pid hid N logs T m gs ∧ (∀ j, H j ≠ none → H' j ≠ none) ∧ ∀ τ, A τ ≠ none → A' τ ≠ none
theorem oksP {hk : Nat → Prop} {tk : Tok → Prop} {id : Nat} (h : hk id) {l : List D} : ∀ x ∈ (.c (.ptr id 0) :: l.map fun d => (.c (.d d) : PV)), x.oks hk tk := fun x hx => by
  rcases List.mem_cons.1 hx with rfl | hx
  · exact h
  · obtain ⟨d, _, rfl⟩ := List.mem_map.1 hx
    exact True.intro
section hy
variable {H : HMap} {A : AMap} {k did pid hid N logs T m : Nat} {gs : List (List UInt8)}
theorem PY.nums (h : PY H A k did pid N logs T m gs) : Wf H A ∧ Above k H A ∧ H pid ≠ none ∧ gs.length ≤ 1024 ∧ gs.length = N - logs ∧ (2 ≤ gs.length → GOK gs) ∧ (∀ j, j < 200 → H j = none ∧ ∀ q, A (j, q) = none) ∧ pid < k ∧ 0 < gs.length := by
  obtain ⟨ch, b, hx, hm, hl, hg⟩ := h
  obtain ⟨n1, n2, n3, n4, n5, n6, n7, n8, n9, n10, hw, hab, hd0, hp0, lo, ks, hlen⟩ := hx.nums
  exact ⟨hw, hab, hp0, by omega, hl, fun h2 => ⟨h2, by omega, fun j hj => by rw [← hg j (by omega)]; exact hlen j (by omega)⟩, lo, n8, by omega⟩
theorem HY.nums (h : HY H A k did pid hid N logs T m gs) : Wf H A ∧ Above (hid + 1) H A ∧ H hid = some [.ptr pid 0] ∧ H pid ≠ none ∧ GOK gs ∧ gs.length = N - logs ∧ k ≤ hid ∧ pid < k ∧ H hid ≠ none := by
  obtain ⟨H0, hy, hk, h2, rfl⟩ := h
  obtain ⟨hw, hab, hp, hb, hl, hg, lo, hpk, _⟩ := hy.nums
  refine ⟨?_, ?_, upd_same _ _ _, ?_, hg h2, hl, hk, hpk, by rw [upd_same]; simp⟩
  · refine Wf_set hw (fun c hc => ?_) (fun _ h => h)
    rw [List.mem_singleton.1 hc]
    show upd H0 hid _ pid ≠ none
    rw [upd_other _ _ (by omega)]
    exact hp
  · exact Above_updH (Above_mono hab (by omega)) (by omega)
  · rw [upd_other _ _ (by omega)]
    exact hp
/-- What the pager tells, beside a heap. -/
theorem HY.eff {P : Program} {f : FuncId} {off : Nat} {l : List D} {v : PV} (h : HY H A k did pid hid N logs T m gs)
    (he : ∀ H0, PY H0 A k did pid N logs T m gs → EffOK P f off H0 A (.c (.ptr pid 0) :: l.map fun d => (.c (.d d) : PV)) v H0 A) : EffOK P f off H A (.c (.ptr pid 0) :: l.map fun d => (.c (.d d) : PV)) v H A := by
  obtain ⟨H0, hy, hk, h2, rfl⟩ := h
  obtain ⟨hw, hab, hp, _⟩ := hy.nums
  exact eff_frame (he H0 hy) hw (oksP hp) (hab _ hk).1 (hab _ hk).1
/-- What the pager does, beside a heap. -/
theorem HY.so {P : Program} {f : FuncId} {off m' : Nat} {l : List D} {v : PV} {gs' : List (List UInt8)} (h : HY H A k did pid hid N logs T m gs) (h2' : 2 ≤ gs'.length)
    (he : ∀ H0, PY H0 A k did pid N logs T m gs → ∃ H' A', EffOK P f off H0 A (.c (.ptr pid 0) :: l.map fun d => (.c (.d d) : PV)) v H' A' ∧ PY H' A' k did pid N logs T m' gs' ∧ (∀ j, H0 j ≠ none → H' j ≠ none) ∧ ∀ τ, A τ ≠ none → A' τ ≠ none) :
    HSO off P f H A (.c (.ptr pid 0) :: l.map fun d => (.c (.d d) : PV)) v k did pid hid N logs T m' gs' := by
  obtain ⟨H0, hy, hk, h2, rfl⟩ := h
  obtain ⟨hw, hab, hp, _⟩ := hy.nums
  obtain ⟨H', A', e, hy', kh, ka⟩ := he H0 hy
  obtain ⟨hw', hab', hp', _⟩ := hy'.nums
  refine ⟨_, A', eff_frame e hw (oksP hp) (hab _ hk).1 (hab' _ hk).1, ⟨H', hy', hk, h2', rfl⟩, fun j hj => ?_, ka⟩
  by_cases e : j = hid
  · subst e; rw [upd_same]; simp
  · rw [upd_other _ _ e] at hj ⊢
    exact kh j hj
theorem Try.yLen (off : Nat) (h : PY H A k did pid N logs T m gs) : EffOK Try.prog 31 off H A [.c (.ptr pid 0)] (pD (.lit (.int .i64 gs.length))) H A := by
  obtain ⟨ch, b, hx, hm, hl, hg⟩ := h
  rw [hl]
  exact Try.pLen off hx
theorem Try.yRead (off : Nat) (h : PY H A k did pid N logs T m gs) (j : Nat) (hj : j < gs.length) : EffOK Try.prog 33 off H A [.c (.ptr pid 0), pD (.lit (.int .i64 j))] (.tup [.c (.d (dS (pgAt gs j))), .c (.d (.lit (.int .i64 0)))]) H A := by
  obtain ⟨ch, b, hx, hm, hl, hg⟩ := h
  rw [← hg j (by omega)]
  exact Try.pRead off hx j (by omega)
theorem Try.yIsFree (off : Nat) (h : PY H A k did pid N logs T m gs) (j : Nat) (hj : j < gs.length) : EffOK Try.prog 32 off H A [.c (.ptr pid 0), pD (.lit (.int .i64 j))] (pD (.lit (.bool (isFG gs j)))) H A := by
  obtain ⟨ch, b, hx, hm, hl, hg⟩ := h
  unfold isFG
  rw [← hg 0 (by omega)]
  exact Try.pIsFree off hx j (by omega)
theorem Try.yFrees (off : Nat) (h : PY H A k did pid N logs T m gs) : EffOK Try.prog 14 off H A [.c (.ptr pid 0)] (pD (.lit (.int .i64 (frG gs)))) H A := by
  have h0 := h.nums.2.2.2.2.2.2.2.2
  obtain ⟨ch, b, hx, hm, hl, hg⟩ := h
  unfold frG
  rw [← hg 0 (by omega), hl]
  exact Try.pFrees off hx
theorem PY.put {ch : List (Int × List UInt8)} {b : Nat → List UInt8} {j : Nat} {s : List UInt8} (hj : j < gs.length) (hg : ∀ j, j < N - logs → ct b ch j = pgAt gs j) : ∀ i, i < N - logs → ct b (putN ch j s) i = pgAt (gs.set j s) i := fun i hi => by
  rw [ct_put, pgAt_set _ _ _ _ hj]
  split
  · rfl
  · exact hg i hi
theorem Try.yWrite (off : Nat) (h : PY H A k did pid N logs T m gs) (j : Nat) (h0 : j ≠ 0) (hj : j < gs.length) (s : List UInt8) (hs : s.length ≤ 128) :
    ∃ H' A', EffOK Try.prog 26 off H A [.c (.ptr pid 0), pD (.lit (.int .i64 j)), pD (dS s)] (pD (.lit (.int .i64 0))) H' A' ∧ PY H' A' k did pid N logs T (m + 1) (gs.set j (pad s)) ∧ (∀ j, H j ≠ none → H' j ≠ none) ∧ ∀ τ, A τ ≠ none → A' τ ≠ none := by
  obtain ⟨ch, b, hx, hm, hl, hg⟩ := h
  obtain ⟨H', A', e, hx', kh, ka⟩ := Try.pWrite off hx j h0 (by omega) s hs
  have := putN_le ch j (pad s)
  exact ⟨H', A', e, ⟨_, b, hx', by omega, by rw [List.length_set]; exact hl, PY.put hj hg⟩, kh, ka⟩
theorem Try.yFree (off : Nat) (h : PY H A k did pid N logs T m gs) (q : Nat) (h0 : q ≠ 0) (hq : q < gs.length) (hf : isFG gs q = false) :
    ∃ H' A', EffOK Try.prog 29 off H A [.c (.ptr pid 0), pD (.lit (.int .i64 q))] (pD (.lit (.int .i64 0))) H' A' ∧ PY H' A' k did pid N logs T (m + 1) (gs.set 0 (flipB (pgAt gs 0) q)) ∧ (∀ j, H j ≠ none → H' j ≠ none) ∧ ∀ τ, A τ ≠ none → A' τ ≠ none := by
  obtain ⟨ch, b, hx, hm, hl, hg⟩ := h
  have e0 := hg 0 (by omega)
  have hf' : freeB (ct b ch 0) q = false := by
    rw [e0]
    unfold isFG isF at hf
    simpa [h0] using hf
  obtain ⟨H', A', e, hx', kh, ka⟩ := Try.pFree off hx q h0 (by omega) hf'
  rw [e0] at hx'
  have := putN_le ch ((0 : Nat) : Int) (flipB (pgAt gs 0) q)
  exact ⟨H', A', e, ⟨_, b, hx', by omega, by rw [List.length_set]; exact hl, PY.put (by omega) hg⟩, kh, ka⟩
theorem Try.yFreeE (off : Nat) (h : PY H A k did pid N logs T m gs) (q : Nat) (hq : q < gs.length) (hf : isFG gs q = true) :
    EffOK Try.prog 29 off H A [.c (.ptr pid 0), pD (.lit (.int .i64 q))] (pD (.lit (.int .i64 6))) H A := by
  obtain ⟨ch, b, hx, hm, hl, hg⟩ := h
  have e0 := hg 0 (by omega)
  have e : pgFrE (N - logs) (ct b ch 0) (q : Int) = 6 := by
    obtain ⟨_, hfb⟩ := isF_pos hf
    unfold pgFrE pgRight
    have h0 := (isF_pos hf).1
    rw [if_neg (by rw [if_neg (by omega)]; simp), if_neg (by omega), Int.toNat_natCast, e0, if_pos hfb]
  have := Try.pFreeE off hx (q : Int) (by rw [e]; decide)
  rw [e] at this
  exact this
theorem Try.yAlloc (off : Nat) (h : PY H A k did pid N logs T m gs) (q : Nat) (hq : q < gs.length) (hf : isFG gs q = true) (hno : ∀ i, i < q → isFG gs i = false) :
    ∃ H' A', EffOK Try.prog 25 off H A [.c (.ptr pid 0)] (.tup [.c (.d (.lit (.int .i64 q))), .c (.d (.lit (.int .i64 0)))]) H' A' ∧ PY H' A' k did pid N logs T (m + 2) (allocG gs q) ∧ (∀ j, H j ≠ none → H' j ≠ none) ∧ ∀ τ, A τ ≠ none → A' τ ≠ none := by
  obtain ⟨ch, b, hx, hm, hl, hg⟩ := h
  have e0 := hg 0 (by omega)
  obtain ⟨h0, hfb⟩ := isF_pos hf
  obtain ⟨H', A', e, hx', kh, ka⟩ := Try.pAlloc off hx q h0 (by omega) (by rw [e0]; exact hfb) (fun i hi hiq => by
    have := hno i hiq
    rw [e0]
    unfold isFG isF at this
    simpa [hi] using this)
  rw [e0] at hx'
  have h1 := putN_le ch ((0 : Nat) : Int) (flipB (pgAt gs 0) q)
  have h2 := putN_le (putN ch ((0 : Nat) : Int) (flipB (pgAt gs 0) q)) q zeros
  refine ⟨H', A', e, ⟨_, b, hx', by omega, ?_, ?_⟩, kh, ka⟩
  · unfold allocG; rw [List.length_set, List.length_set]; exact hl
  · exact PY.put (by rw [List.length_set]; exact hq) (PY.put (by omega) hg)
theorem Try.hLen (off : Nat) (h : HY H A k did pid hid N logs T m gs) : EffOK Try.prog 31 off H A [.c (.ptr pid 0)] (pD (.lit (.int .i64 gs.length))) H A := h.eff (l := []) fun _ hy => Try.yLen off hy
theorem Try.hRead (off : Nat) (h : HY H A k did pid hid N logs T m gs) (j : Nat) (hj : j < gs.length) : EffOK Try.prog 33 off H A [.c (.ptr pid 0), pD (.lit (.int .i64 j))] (.tup [.c (.d (dS (pgAt gs j))), .c (.d (.lit (.int .i64 0)))]) H A := h.eff (l := [.lit (.int .i64 j)]) fun _ hy => Try.yRead off hy j hj
theorem Try.hIsFree (off : Nat) (h : HY H A k did pid hid N logs T m gs) (j : Nat) (hj : j < gs.length) : EffOK Try.prog 32 off H A [.c (.ptr pid 0), pD (.lit (.int .i64 j))] (pD (.lit (.bool (isFG gs j)))) H A := h.eff (l := [.lit (.int .i64 j)]) fun _ hy => Try.yIsFree off hy j hj
theorem Try.hFrees (off : Nat) (h : HY H A k did pid hid N logs T m gs) : EffOK Try.prog 14 off H A [.c (.ptr pid 0)] (pD (.lit (.int .i64 (frG gs)))) H A := h.eff (l := []) fun _ hy => Try.yFrees off hy
theorem Try.hWrite (off : Nat) (h : HY H A k did pid hid N logs T m gs) (j : Nat) (h0 : j ≠ 0) (hj : j < gs.length) (s : List UInt8) (hs : s.length ≤ 128) :
    HSO off Try.prog 26 H A [.c (.ptr pid 0), pD (.lit (.int .i64 j)), pD (dS s)] (pD (.lit (.int .i64 0))) k did pid hid N logs T (m + 1) (gs.set j (pad s)) :=
  h.so (l := [.lit (.int .i64 j), dS s]) (by obtain ⟨_, _, _, h2, _⟩ := h; rw [List.length_set]; exact h2) fun _ hy => Try.yWrite off hy j h0 hj s hs
theorem Try.hFree (off : Nat) (h : HY H A k did pid hid N logs T m gs) (q : Nat) (h0 : q ≠ 0) (hq : q < gs.length) (hf : isFG gs q = false) :
    HSO off Try.prog 29 H A [.c (.ptr pid 0), pD (.lit (.int .i64 q))] (pD (.lit (.int .i64 0))) k did pid hid N logs T (m + 1) (gs.set 0 (flipB (pgAt gs 0) q)) :=
  h.so (l := [.lit (.int .i64 q)]) (by obtain ⟨_, _, _, h2, _⟩ := h; rw [List.length_set]; exact h2) fun _ hy => Try.yFree off hy q h0 hq hf
theorem Try.hAlloc (off : Nat) (h : HY H A k did pid hid N logs T m gs) (q : Nat) (hq : q < gs.length) (hf : isFG gs q = true) (hno : ∀ i, i < q → isFG gs i = false) :
    HSO off Try.prog 25 H A [.c (.ptr pid 0)] (.tup [.c (.d (.lit (.int .i64 q))), .c (.d (.lit (.int .i64 0)))]) k did pid hid N logs T (m + 2) (allocG gs q) :=
  h.so (l := []) (by obtain ⟨_, _, _, h2, _⟩ := h; unfold allocG; rw [List.length_set, List.length_set]; exact h2) fun _ hy => Try.yAlloc off hy q hq hf hno
end hy
end Go.Proofs

/-
  The heap: two bytes, a number, how many pages, the parts, whether a page is a record's.
-/


namespace Go.Proofs
open Go.PW
theorem u8_small {n : Nat} (h : n < 256) : IntKind.u8.wrap (n : Int) = (((UInt8.ofNat n).toNat : Nat) : Int) := by
  rw [UInt8.toNat_ofNat', Nat.mod_eq_of_lt (by omega)]
  have e : IntKind.u8.wrap (n : Int) = (n : Int) % 256 := by
    unfold IntKind.wrap
    simp [IntKind.bits, IntKind.signed]
  rw [e]; omega
set_option maxRecDepth 8000 in
set_option maxHeartbeats 4000000 in
theorem Try.kTwo (n : Nat) (hn : n < 65536) : PureOK Try.prog 27 [pD (.lit (.int .i64 n))] (.one (.d (dS (two n)))) := by
  refine Try.pure (md := []) Try.func27 rfl Try.call27 (by kernel_rfl) (by rfl) (by exact Nat.le_of_ble_eq_true rfl) ?_
  have c1 : IntKind.u8.wrap (IntKind.i64.wrap (Int.tdiv (n : Int) 256)) = (((UInt8.ofNat (n / 256)).toNat : Nat) : Int) := by
    rw [show Int.tdiv (n : Int) 256 = ((n / 256 : Nat) : Int) from tdiv_nat n 256, Go.IntWalk.i64_in _ (by omega), u8_small (by omega)]
  have c2 : IntKind.u8.wrap (Int.tmod (n : Int) 256) = (((UInt8.ofNat (n % 256)).toNat : Nat) : Int) := by
    rw [show Int.tmod (n : Int) 256 = ((n % 256 : Nat) : Int) from tmod_nat n 256, u8_small (by omega)]
  have hone : ∀ a b : UInt8, [[D.lit (.int .u8 ((a.toNat : Nat) : Int))], [D.lit (.int .u8 ((b.toNat : Nat) : Int))]] = bytesEls [a, b] := fun _ _ => rfl
  repeat' (first
   | with_reducible first | refine VC_seq fun K hK => ?_ | refine W_region ?_ | refine VC_block ?_ | refine VC_scope ?_ | refine VC_if ?_ | refine VC_skip ?_ | refine VC_exit ?_ | refine VC_ret ?_
   | (with_reducible first | refine G_not (fun h => ?_) (fun h => ?_) | refine G_cases (fun h => ?_) (fun h => ?_)) <;> (try simp only [h])
   | with_reducible first | (refine hK _ ?_; clear hK K) | (clear hK K; refine hK _ ?_; clear hK K) | (clear hK K; clear hK K; refine hK _ ?_; clear hK K) | (clear hK K; clear hK K; clear hK K; refine hK _ ?_; clear hK K)
   | (with_reducible refine todo ?_; simp +decide only [go_sem, c1, c2, hone]))
  exact Ret_d rfl rfl
set_option maxRecDepth 8000 in
set_option maxHeartbeats 4000000 in
theorem Try.kNumber2 (a b : UInt8) : PureOK Try.prog 53 [pD (.lit (.int .u8 (a.toNat : Nat))), pD (.lit (.int .u8 (b.toNat : Nat)))] (.one (.d (.lit (.int .i64 (numB a b))))) := by
  refine Try.pure (md := []) Try.func53 rfl Try.call53 (by kernel_rfl) (by rfl) (by exact Nat.le_of_ble_eq_true rfl) ?_
  have ha := a.toNat_lt
  have hb := b.toNat_lt
  have c1 : IntKind.i64.wrap (((a.toNat : Nat) : Int)) = ((a.toNat : Nat) : Int) := Go.IntWalk.i64_in _ (by omega)
  have c2 : IntKind.i64.wrap (((b.toNat : Nat) : Int)) = ((b.toNat : Nat) : Int) := Go.IntWalk.i64_in _ (by omega)
  have c3 : IntKind.i64.wrap (256 * ((a.toNat : Nat) : Int)) = 256 * ((a.toNat : Nat) : Int) := Go.IntWalk.i64_in _ (by omega)
  have c4 : IntKind.i64.wrap (256 * ((a.toNat : Nat) : Int) + ((b.toNat : Nat) : Int)) = ((numB a b : Nat) : Int) := by
    rw [Go.IntWalk.i64_in _ (by omega)]
    unfold numB
    omega
  repeat' (first
   | with_reducible first | refine VC_seq fun K hK => ?_ | refine W_region ?_ | refine VC_block ?_ | refine VC_scope ?_ | refine VC_if ?_ | refine VC_skip ?_ | refine VC_exit ?_ | refine VC_ret ?_
   | (with_reducible first | refine G_not (fun h => ?_) (fun h => ?_) | refine G_cases (fun h => ?_) (fun h => ?_)) <;> (try simp only [h])
   | with_reducible first | (refine hK _ ?_; clear hK K) | (clear hK K; refine hK _ ?_; clear hK K) | (clear hK K; clear hK K; refine hK _ ?_; clear hK K) | (clear hK K; clear hK K; clear hK K; refine hK _ ?_; clear hK K)
   | (with_reducible refine todo ?_; simp +decide only [go_sem, c1, c2, c3, c4]))
  exact Ret_d rfl rfl
def needI (n : Int) : Int := if n < 0 ∨ 100000 < n then 0 else need n.toNat
theorem needI_nat {n : Nat} (h : n ≤ 100000) : needI (n : Int) = (need n : Nat) := by
  unfold needI
  rw [if_neg (by omega), Int.toNat_natCast]
section hy
variable {H : HMap} {A : AMap} {k did pid hid N logs T m : Nat} {gs : List (List UInt8)}
set_option maxRecDepth 8000 in
set_option maxHeartbeats 4000000 in
theorem Try.hNeed (off : Nat) (h : HY H A k did pid hid N logs T m gs) (n : Int) : EffOK Try.prog 12 off H A [.c (.ptr hid 0), pD (.lit (.int .i64 n))] (pD (.lit (.int .i64 (needI n)))) H A := by
  refine effr_ok (E := envOf Try.prog [] off [] []) (envOf_ok Try.mixed) Try.func12 rfl Try.call12 (by kernel_rfl) (by exact Nat.le_of_ble_eq_true rfl) (fun hab => ?_)
  obtain ⟨hw, hab0, hh, hp, hg, hl, hk, hpk, hne⟩ := h.nums
  by_cases h1 : n < 0
  · have c1 : (n < 0) = True := eq_true h1
    repeat' (first
     | with_reducible first | refine VC_seq fun K hK => ?_ | refine W_region ?_ | refine VC_block ?_ | refine VC_scope ?_ | refine VC_if ?_ | refine VC_skip ?_ | refine VC_exit ?_ | refine VC_ret ?_
     | (with_reducible first | refine G_not (fun h => ?_) (fun h => ?_) | refine G_cases (fun h => ?_) (fun h => ?_)) <;> (try simp only [h])
     | with_reducible first | (refine hK _ ?_; clear hK K) | (clear hK K; refine hK _ ?_; clear hK K) | (clear hK K; clear hK K; refine hK _ ?_; clear hK K) | (clear hK K; clear hK K; clear hK K; refine hK _ ?_; clear hK K)
     | (with_reducible refine todo ?_; simp +decide only [go_sem, c1]))
    rw [show needI n = 0 from if_pos (.inl h1)]
    exact RetR_same rfl (by simp +decide only [go_sem]) True.intro hw kp_refl (fun _ _ => rfl)
  · have c1 : (n < 0) = False := eq_false h1
    by_cases h2 : 100000 < n
    · have c2 : (100000 < n) = True := eq_true h2
      repeat' (first
       | with_reducible first | refine VC_seq fun K hK => ?_ | refine W_region ?_ | refine VC_block ?_ | refine VC_scope ?_ | refine VC_if ?_ | refine VC_skip ?_ | refine VC_exit ?_ | refine VC_ret ?_
       | (with_reducible first | refine G_not (fun h => ?_) (fun h => ?_) | refine G_cases (fun h => ?_) (fun h => ?_)) <;> (try simp only [h])
       | with_reducible first | (refine hK _ ?_; clear hK K) | (clear hK K; refine hK _ ?_; clear hK K) | (clear hK K; clear hK K; refine hK _ ?_; clear hK K) | (clear hK K; clear hK K; clear hK K; refine hK _ ?_; clear hK K)
       | (with_reducible refine todo ?_; simp +decide only [go_sem, c1, c2]))
      rw [show needI n = 0 from if_pos (.inr h2)]
      exact RetR_same rfl (by simp +decide only [go_sem]) True.intro hw kp_refl (fun _ _ => rfl)
    · have c2 : (100000 < n) = False := eq_false h2
      obtain ⟨q, rfl⟩ : ∃ q : Nat, n = (q : Int) := ⟨n.toNat, by omega⟩
      have w1 : IntKind.i64.wrap ((q : Int) + 125) = (q : Int) + 125 := Go.IntWalk.i64_in _ (by omega)
      have w2 : IntKind.i64.wrap ((q : Int) + 125 - 1) = ((q + 124 : Nat) : Int) := by rw [Go.IntWalk.i64_in _ (by omega)]; omega
      have w3 : IntKind.i64.wrap (Int.tdiv ((q + 124 : Nat) : Int) 125) = (((q + 124) / 125 : Nat) : Int) := by
        rw [show Int.tdiv ((q + 124 : Nat) : Int) 125 = (((q + 124) / 125 : Nat) : Int) from tdiv_nat (q + 124) 125, Go.IntWalk.i64_in _ (by omega)]
      have w4 : (if (((q + 124) / 125 : Nat) : Int) > 1 then (((q + 124) / 125 : Nat) : Int) else 1) = needI (q : Int) := by
        rw [needI_nat (by omega)]
        unfold need
        split <;> omega
      repeat' (first
       | with_reducible first | refine VC_seq fun K hK => ?_ | refine W_region ?_ | refine VC_block ?_ | refine VC_scope ?_ | refine VC_if ?_ | refine VC_skip ?_ | refine VC_exit ?_ | refine VC_ret ?_
       | (with_reducible first | refine G_not (fun h => ?_) (fun h => ?_) | refine G_cases (fun h => ?_) (fun h => ?_)) <;> (try simp only [h])
       | with_reducible first | (refine hK _ ?_; clear hK K) | (clear hK K; refine hK _ ?_; clear hK K) | (clear hK K; clear hK K; refine hK _ ?_; clear hK K) | (clear hK K; clear hK K; clear hK K; refine hK _ ?_; clear hK K)
       | (with_reducible refine todo ?_; simp +decide only [go_sem, c1, c2, w1, w2, w3, w4]))
      exact RetR_same rfl (by simp +decide only [go_sem]) True.intro hw kp_refl (fun _ _ => rfl)
set_option maxRecDepth 8000 in
set_option maxHeartbeats 4000000 in
theorem Try.hThere (off : Nat) (h : HY H A k did pid hid N logs T m gs) : EffOK Try.prog 23 off H A [.c (.ptr hid 0)] (pD (.lit (.bool true))) H A := by
  refine effr_ok (E := envOf Try.prog [] off [] []) (envOf_ok Try.mixed) Try.func23 rfl Try.call23 (by kernel_rfl) (by exact Nat.le_of_ble_eq_true rfl) (fun hab => ?_)
  obtain ⟨hw, hab0, hh, hp, hg, hl, hk, hpk, hne⟩ := h.nums
  repeat' (first
   | with_reducible first | refine VC_seq fun K hK => ?_ | refine W_region ?_ | refine VC_block ?_ | refine VC_scope ?_ | refine VC_if ?_ | refine VC_skip ?_ | refine VC_exit ?_ | refine VC_ret ?_
   | (with_reducible first | refine G_not (fun h => ?_) (fun h => ?_) | refine G_cases (fun h => ?_) (fun h => ?_)) <;> (try simp only [h])
   | with_reducible first | (refine hK _ ?_; clear hK K) | (clear hK K; refine hK _ ?_; clear hK K) | (clear hK K; clear hK K; refine hK _ ?_; clear hK K) | (clear hK K; clear hK K; clear hK K; refine hK _ ?_; clear hK K)
   | (with_reducible refine todo ?_; simp +decide only [go_sem, hh]))
  exact RetR_same rfl (by simp +decide only [go_sem]) True.intro hw kp_refl (fun _ _ => rfl)
set_option maxRecDepth 8000 in
set_option maxHeartbeats 8000000 in
theorem Try.hIsRec (off : Nat) (h : HY H A k did pid hid N logs T m gs) (j : Int) : EffOK Try.prog 52 off H A [.c (.ptr hid 0), pD (.lit (.int .i64 j))] (pD (.lit (.bool (isRec gs j)))) H A := by
  refine effr_ok (E := envOf Try.prog [31, 32] off [] []) (envOf_ok Try.mixed) Try.func52 rfl Try.call52 (by kernel_rfl) (by exact Nat.le_of_ble_eq_true rfl) (fun hab => ?_)
  obtain ⟨hw, hab0, hh, hp, hg, hl, hk, hpk, hne⟩ := h.nums
  have kl := Try.hLen (off + 1000) h
  by_cases h1 : 2 ≤ j
  · have c1 : (2 ≤ j) = True := eq_true h1
    obtain ⟨q, rfl⟩ : ∃ q : Nat, j = (q : Int) := ⟨j.toNat, by omega⟩
    by_cases h2 : q < gs.length
    · have c2 : ((q : Int) < (gs.length : Int)) = True := eq_true (by omega)
      have kf := Try.hIsFree (off + 1000) h q h2
      have e : isRec gs (q : Int) = !isFG gs q := by
        unfold isRec
        rw [Int.toNat_natCast]
        simp [h2]; omega
      rw [e]
      repeat' (first
       | with_reducible first | refine VC_seq fun K hK => ?_ | refine W_region ?_ | refine VC_block ?_ | refine VC_scope ?_ | refine VC_if ?_ | refine VC_skip ?_ | refine VC_exit ?_ | refine VC_ret ?_
       | (with_reducible first | refine G_not (fun h => ?_) (fun h => ?_) | refine G_cases (fun h => ?_) (fun h => ?_)) <;> (try simp only [h])
       | refine C_call rfl kl rfl (Above_mono hab (by omega)) ?_
       | refine C_call rfl kf rfl (Above_mono hab (by omega)) ?_
       | with_reducible first | (refine hK _ ?_; clear hK K) | (clear hK K; refine hK _ ?_; clear hK K) | (clear hK K; clear hK K; refine hK _ ?_; clear hK K) | (clear hK K; clear hK K; clear hK K; refine hK _ ?_; clear hK K)
       | (with_reducible refine todo ?_; simp +decide only [go_sem, hh, c1, c2]))
      exact RetR_same rfl (by simp +decide only [go_sem]) True.intro hw kp_refl (fun _ _ => rfl)
    · have c2 : ((q : Int) < (gs.length : Int)) = False := eq_false (by omega)
      have e : isRec gs (q : Int) = false := by
        unfold isRec
        simp [h2]
      rw [e]
      repeat' (first
       | with_reducible first | refine VC_seq fun K hK => ?_ | refine W_region ?_ | refine VC_block ?_ | refine VC_scope ?_ | refine VC_if ?_ | refine VC_skip ?_ | refine VC_exit ?_ | refine VC_ret ?_
       | (with_reducible first | refine G_not (fun h => ?_) (fun h => ?_) | refine G_cases (fun h => ?_) (fun h => ?_)) <;> (try simp only [h])
       | refine C_call rfl kl rfl (Above_mono hab (by omega)) ?_
       | with_reducible first | (refine hK _ ?_; clear hK K) | (clear hK K; refine hK _ ?_; clear hK K) | (clear hK K; clear hK K; refine hK _ ?_; clear hK K) | (clear hK K; clear hK K; clear hK K; refine hK _ ?_; clear hK K)
       | (with_reducible refine todo ?_; simp +decide only [go_sem, hh, c1, c2]))
      exact RetR_same rfl (by simp +decide only [go_sem]) True.intro hw kp_refl (fun _ _ => rfl)
  · have c1 : (2 ≤ j) = False := eq_false h1
    have e : isRec gs j = false := by
      unfold isRec
      simp [h1]
    rw [e]
    repeat' (first
     | with_reducible first | refine VC_seq fun K hK => ?_ | refine W_region ?_ | refine VC_block ?_ | refine VC_scope ?_ | refine VC_if ?_ | refine VC_skip ?_ | refine VC_exit ?_ | refine VC_ret ?_
     | (with_reducible first | refine G_not (fun h => ?_) (fun h => ?_) | refine G_cases (fun h => ?_) (fun h => ?_)) <;> (try simp only [h])
     | with_reducible first | (refine hK _ ?_; clear hK K) | (clear hK K; refine hK _ ?_; clear hK K) | (clear hK K; clear hK K; refine hK _ ?_; clear hK K) | (clear hK K; clear hK K; clear hK K; refine hK _ ?_; clear hK K)
     | (with_reducible refine todo ?_; simp +decide only [go_sem, c1]))
    exact RetR_same rfl (by simp +decide only [go_sem]) True.intro hw kp_refl (fun _ _ => rfl)
end hy
end Go.Proofs
