import Derived.Test.YtcdiifnnnnnceaaQ15
import Derived.Test.YtcdiifnnnnnceaaRows
import Derived.Test.YtcdiifnnnnnceaaQ12

/-
  Pieces: plain laws (no program in sight).
-/

namespace Go.Proofs
open Go.PW

/-! Equality. -/
theorem bytes_same {s t : ByteArray} : s.toList = t.toList ↔ s = t := by
  constructor
  · intro h
    rw [ByteArray.toList_eq, ByteArray.toList_eq] at h
    exact ByteArray.ext (Array.toList_inj.1 h)
  · intro h; rw [h]
theorem Val.same_iff {v w : Val} : v.same w = true ↔ v = w := by
  unfold Val.same
  simp only [Bool.and_eq_true, beq_iff_eq, bytes_same]
  constructor
  · rintro ⟨h1, h2, h3, h4⟩; cases v; cases w; simp_all
  · rintro rfl; exact ⟨rfl, rfl, rfl, rfl⟩
theorem sameRow_iff : ∀ {a b : Row}, sameRow a b = true ↔ a = b
  | [], [] => by simp [sameRow]
  | [], _ :: _ => by simp [sameRow]
  | _ :: _, [] => by simp [sameRow]
  | x :: a, y :: b => by
    have ih := sameRow_iff (a := a) (b := b)
    unfold sameRow at ih ⊢
    simp only [List.zipWith_cons_cons, List.all_cons, List.length_cons, Bool.and_eq_true, id_eq, Val.same_iff, beq_iff_eq, Nat.add_right_cancel_iff, List.cons.injEq] at ih ⊢
    rw [← ih]
    constructor
    · rintro ⟨h1, h2, h3⟩; exact ⟨h2, h1, h3⟩
    · rintro ⟨h1, h2, h3⟩; exact ⟨h2, h1, h3⟩
theorem samePiece_iff {x y : Piece} : samePiece x y = true ↔ x = y := by
  unfold samePiece
  simp only [Bool.and_eq_true, sameRow_iff, beq_iff_eq]
  constructor
  · rintro ⟨⟨h1, h2⟩, h3⟩; cases x; cases y; simp_all
  · rintro rfl; exact ⟨⟨rfl, rfl⟩, rfl⟩
theorem samePieces_iff : ∀ {a b : List Piece}, samePieces a b = true ↔ a = b
  | [], [] => by simp [samePieces]
  | [], _ :: _ => by simp [samePieces]
  | _ :: _, [] => by simp [samePieces]
  | x :: a, y :: b => by
    have ih := samePieces_iff (a := a) (b := b)
    unfold samePieces at ih ⊢
    simp only [List.zipWith_cons_cons, List.all_cons, List.length_cons, Bool.and_eq_true, id_eq, samePiece_iff, beq_iff_eq, Nat.add_right_cancel_iff, List.cons.injEq] at ih ⊢
    rw [← ih]
    constructor
    · rintro ⟨h1, h2, h3⟩; exact ⟨h2, h1, h3⟩
    · rintro ⟨h1, h2, h3⟩; exact ⟨h2, h1, h3⟩
theorem isIn_iff {q : List Piece} {x : Piece} : isIn q x = true ↔ x ∈ q := by
  unfold isIn
  rw [List.any_eq_true]
  constructor
  · rintro ⟨y, h, e⟩; rw [samePiece_iff.1 e]; exact h
  · intro h; exact ⟨x, h, samePiece_iff.2 rfl⟩

/-! What is right. -/
def OK (p : Piece) : Prop := (0 ≤ p.lo ∧ p.lo < p.hi ∧ p.hi ≤ 1099511627776) ∧ rowRight p.row = true
theorem spanRight_iff {a b : Int} : Span.right a b = true ↔ 0 ≤ a ∧ a < b ∧ b ≤ 1099511627776 := by
  unfold Span.right
  simp only [Bool.and_eq_true, decide_eq_true_eq, and_assoc]
theorem rightFrom_iff : ∀ {ps : List Piece} {e : Int}, rightFrom e ps = true ↔ (∀ p ∈ ps, OK p ∧ e ≤ p.lo) ∧ ps.Pairwise fun p q => p.hi ≤ q.lo
  | [], e => by simp [rightFrom]
  | x :: r, e => by
    rw [rightFrom, Bool.and_eq_true, rightFrom_iff (ps := r), pieceRight, Bool.and_eq_true, Bool.and_eq_true, spanRight_iff]
    simp only [Bool.not_eq_true', decide_eq_false_iff_not, Int.not_lt, List.pairwise_cons, List.forall_mem_cons, OK]
    constructor
    · rintro ⟨⟨⟨h1, h2⟩, h3⟩, h4, h5⟩
      exact ⟨⟨⟨⟨h1, h2⟩, h3⟩, fun p hp => ⟨(h4 p hp).1, by have := (h4 p hp).2; omega⟩⟩, fun p hp => (h4 p hp).2, h5⟩
    · rintro ⟨⟨⟨⟨h1, h2⟩, h3⟩, h4⟩, h5, h6⟩
      exact ⟨⟨⟨h1, h2⟩, h3⟩, fun p hp => ⟨(h4 p hp).1, h5 p hp⟩, h6⟩
theorem right_iff {ps : List Piece} : right ps = true ↔ (∀ p ∈ ps, OK p) ∧ ps.Pairwise fun p q => p.hi ≤ q.lo := by
  rw [right, rightFrom_iff]
  constructor
  · rintro ⟨h1, h2⟩; exact ⟨fun p hp => (h1 p hp).1, h2⟩
  · rintro ⟨h1, h2⟩; exact ⟨fun p hp => ⟨h1 p hp, (h1 p hp).1.1⟩, h2⟩
theorem right_sublist {ps qs : List Piece} (h : qs.Sublist ps) (hr : right ps = true) : right qs = true := by
  rw [right_iff] at hr ⊢
  exact ⟨fun p hp => hr.1 p (h.subset hp), hr.2.sublist h⟩
theorem right_nodup {ps : List Piece} (h : right ps = true) : ps.Nodup := by
  rw [right_iff] at h
  rw [List.nodup_iff_pairwise_ne]
  refine List.Pairwise.imp_of_mem (fun {p q} hp hq h' e => ?_) h.2
  subst e
  have := (h.1 p hp).1
  omega

/-! Cut, Drop, Put. -/
theorem cut_eq {lo hi : Int} {s : Sp} (hp : lo < hi ∧ 0 ≤ lo ∧ hi ≤ 1099511627776) (hs : 0 ≤ s.1 ∧ s.1 < s.2 ∧ s.2 ≤ 1099511627776) :
    cut (lo, hi) s = if hi ≤ s.1 ∨ s.2 ≤ lo then [(lo, hi)] else (if lo < s.1 then [(lo, s.1)] else []) ++ (if s.2 < hi then [(s.2, hi)] else []) := by
  have h1 : Span.right lo hi = true := spanRight_iff.2 ⟨hp.2.1, hp.1, hp.2.2⟩
  have h2 : Span.right s.1 s.2 = true := spanRight_iff.2 hs
  unfold cut meet
  simp only [h1, h2, Bool.true_and]
  by_cases hm : hi ≤ s.1 ∨ s.2 ≤ lo
  · have : Span.right (iMax lo s.1) (iMin hi s.2) = false := by
      rw [Bool.eq_false_iff]; intro h; rw [spanRight_iff] at h; unfold iMax iMin at h; split at h <;> split at h <;> omega
    rw [this, if_pos hm]
    simp [rights, Sp.right, h1]
  · have : Span.right (iMax lo s.1) (iMin hi s.2) = true := by
      rw [spanRight_iff]; unfold iMax iMin; split <;> split <;> omega
    rw [this, if_neg hm]
    simp only [if_true, rights, List.filter_cons, List.filter_nil]
    have e1 : Sp.right (lo, iMax lo s.1) = decide (lo < s.1) := by
      rw [Bool.eq_iff_iff, Sp.right, spanRight_iff, decide_eq_true_eq]; unfold iMax; split <;> omega
    have e2 : Sp.right (iMin hi s.2, hi) = decide (s.2 < hi) := by
      rw [Bool.eq_iff_iff, Sp.right, spanRight_iff, decide_eq_true_eq]; unfold iMin; split <;> omega
    simp only [e1, e2]
    by_cases h3 : lo < s.1
    · have : iMax lo s.1 = s.1 := by unfold iMax; split <;> omega
      by_cases h4 : s.2 < hi
      · have h5 : iMin hi s.2 = s.2 := by unfold iMin; split <;> omega
        simp [h3, h4, this, h5]
      · simp [h3, h4, this]
    · by_cases h4 : s.2 < hi
      · have h5 : iMin hi s.2 = s.2 := by unfold iMin; split <;> omega
        simp [h3, h4, h5]
      · simp [h3, h4]

def SpOK (s : Sp) : Prop := 0 ≤ s.1 ∧ s.1 < s.2 ∧ s.2 ≤ 1099511627776
theorem rest1_eq {p : Piece} {s : Sp} (hp : OK p) (hs : SpOK s) : rest1 s p = if p.hi ≤ s.1 ∨ s.2 ≤ p.lo then [p] else (if p.lo < s.1 then [⟨p.lo, s.1, p.row⟩] else []) ++ (if s.2 < p.hi then [⟨s.2, p.hi, p.row⟩] else []) := by
  obtain ⟨⟨h1, h2, h3⟩, _⟩ := hp
  rw [rest1, cut_eq ⟨h2, h1, h3⟩ hs]
  split
  · rfl
  · split <;> split <;> rfl
/-- Of what stays of a piece. -/
theorem rest1_mem {p x : Piece} {s : Sp} (hp : OK p) (hs : SpOK s) (h : x ∈ rest1 s p) : OK x ∧ p.lo ≤ x.lo ∧ x.hi ≤ p.hi ∧ (x.hi ≤ s.1 ∨ s.2 ≤ x.lo) := by
  rw [rest1_eq hp hs] at h
  obtain ⟨⟨h1, h2, h3⟩, h4⟩ := hp
  obtain ⟨k1, k2, k3⟩ := hs
  split at h
  · rw [List.mem_singleton] at h
    subst h
    exact ⟨⟨⟨h1, h2, h3⟩, h4⟩, by omega, by omega, by assumption⟩
  · rename_i hm
    rw [List.mem_append] at h
    rcases h with h | h <;> split at h
    · rw [List.mem_singleton] at h
      subst h
      exact ⟨⟨⟨h1, by assumption, by show s.1 ≤ _; omega⟩, h4⟩, by simp, by show s.1 ≤ _; omega, .inl (by simp)⟩
    · cases h
    · rw [List.mem_singleton] at h
      subst h
      exact ⟨⟨⟨by show 0 ≤ s.2; omega, by assumption, h3⟩, h4⟩, by show _ ≤ s.2; omega, by simp, .inr (by simp)⟩
    · cases h
theorem rest1_pair {p : Piece} {s : Sp} (hp : OK p) (hs : SpOK s) : (rest1 s p).Pairwise fun p q => p.hi ≤ q.lo := by
  rw [rest1_eq hp hs]
  obtain ⟨k1, k2, k3⟩ := hs
  split
  · simp
  · split <;> split <;> simp
    omega
theorem rests_right {ps : List Piece} {s : Sp} (h : right ps = true) (hs : SpOK s) : right (rests s ps) = true := by
  rw [right_iff] at h ⊢
  obtain ⟨h1, h2⟩ := h
  constructor
  · intro x hx
    obtain ⟨p, hp, hx⟩ := List.mem_flatMap.1 hx
    exact (rest1_mem (h1 p hp) hs hx).1
  · rw [rests, List.pairwise_flatMap]
    refine ⟨fun p hp => rest1_pair (h1 p hp) hs, List.Pairwise.imp_of_mem (fun {p q} hp hq h' x hx y hy => ?_) h2⟩
    have a := rest1_mem (h1 p hp) hs hx
    have b := rest1_mem (h1 q hq) hs hy
    omega
theorem rests_apart {ps : List Piece} {s : Sp} (h : right ps = true) (hs : SpOK s) : ∀ x ∈ rests s ps, x.hi ≤ s.1 ∨ s.2 ≤ x.lo := by
  rw [right_iff] at h
  intro x hx
  obtain ⟨p, hp, hx⟩ := List.mem_flatMap.1 hx
  exact (rest1_mem (h.1 p hp) hs hx).2.2.2
theorem rest1_len {p : Piece} {s : Sp} (hp : OK p) (hs : SpOK s) : (rest1 s p).length ≤ 1 ∨ ((rest1 s p).length ≤ 2 ∧ s.2 < p.hi) := by
  rw [rest1_eq hp hs]
  split
  · simp
  · split <;> split <;> simp_all
theorem rests_far {s : Sp} (hs : SpOK s) : ∀ {ps : List Piece}, (∀ p ∈ ps, OK p ∧ s.2 ≤ p.lo) → rests s ps = ps
  | [], _ => rfl
  | p :: r, h => by
    have hp := h p (List.mem_cons_self ..)
    have e : rest1 s p = [p] := by rw [rest1_eq hp.1 hs, if_pos (.inr hp.2)]
    have ih := rests_far hs (ps := r) (fun q hq => h q (List.mem_cons_of_mem _ hq))
    unfold rests at ih ⊢
    rw [List.flatMap_cons, e, ih]
    rfl
theorem rests_len {s : Sp} (hs : SpOK s) : ∀ {ps : List Piece}, right ps = true → (rests s ps).length ≤ ps.length + 1
  | [], _ => by simp [rests]
  | p :: r, h => by
    have hr : right r = true := right_sublist (List.sublist_cons_self p r) h
    rw [right_iff, List.pairwise_cons] at h
    have hp := h.1 p (List.mem_cons_self ..)
    have ih := rests_len hs hr
    have e : (rests s (p :: r)).length = (rest1 s p).length + (rests s r).length := by unfold rests; rw [List.flatMap_cons, List.length_append]
    rw [e, List.length_cons]
    rcases rest1_len hp hs with h1 | ⟨h1, h2⟩
    · omega
    · rw [rests_far hs (fun q hq => ⟨h.1 q (List.mem_cons_of_mem _ hq), by have := h.2.1 q hq; omega⟩)]
      omega

theorem drop_right {ps : List Piece} {s : Sp} (h : right ps = true) : right (drop ps s) = true := by
  unfold drop
  split
  · rename_i hc
    rw [Bool.and_eq_true, spanRight_iff] at hc
    exact rests_right h hc.2
  · exact h
theorem drop_len {ps : List Piece} {s : Sp} (h : right ps = true) : (drop ps s).length ≤ ps.length + 1 := by
  unfold drop
  split
  · rename_i hc
    rw [Bool.and_eq_true, spanRight_iff] at hc
    exact rests_len hc.2 h
  · omega
theorem insert_right {q : List Piece} {s : Sp} {r : Row} (h : right q = true) (hs : SpOK s) (hr : rowRight r = true) (ha : ∀ x ∈ q, x.hi ≤ s.1 ∨ s.2 ≤ x.lo) : right (insert' s r q) = true := by
  have hq := (List.takeWhile_append_dropWhile (p := ahead s) (l := q)).symm
  rw [right_iff] at h ⊢
  obtain ⟨h1, h2⟩ := h
  have hmt : ∀ x ∈ q.takeWhile (ahead s), x ∈ q ∧ x.lo < s.1 := fun x hx => ⟨(List.takeWhile_sublist _).subset hx, by have := List.all_eq_true.1 (List.all_takeWhile (p := ahead s) (l := q)) x hx; simpa [ahead] using this⟩
  have hmd : ∀ x ∈ q.dropWhile (ahead s), x ∈ q ∧ s.1 ≤ x.lo := by
    have hp : (q.dropWhile (ahead s)).Pairwise fun p q => p.hi ≤ q.lo := h2.sublist (List.dropWhile_sublist _)
    have hsub : ∀ x ∈ q.dropWhile (ahead s), x ∈ q := fun x hx => (List.dropWhile_sublist _).subset hx
    cases hd : q.dropWhile (ahead s) with
    | nil => intro x hx; cases hx
    | cons y t =>
      have hy : ahead s y = false := by
        have := List.head?_dropWhile_not (ahead s) q
        rw [hd] at this
        simpa using this
      have hy' : s.1 ≤ y.lo := by simpa [ahead] using hy
      rw [hd] at hp hsub
      intro x hx
      rcases List.mem_cons.1 hx with rfl | hx'
      · exact ⟨hsub _ hx, hy'⟩
      · have := (List.pairwise_cons.1 hp).1 x hx'
        have := (h1 y (hsub y (List.mem_cons_self ..))).1
        exact ⟨hsub _ hx, by omega⟩
  constructor
  · intro p hp
    rcases List.mem_append.1 hp with hp | hp
    · exact h1 p (hmt p hp).1
    · rcases List.mem_cons.1 hp with rfl | hp
      · exact ⟨hs, hr⟩
      · exact h1 p (hmd p hp).1
  · rw [insert', List.pairwise_append, List.pairwise_cons]
    refine ⟨h2.sublist (List.takeWhile_sublist _), ⟨fun x hx => ?_, h2.sublist (List.dropWhile_sublist _)⟩, fun a ha' b hb => ?_⟩
    · have := ha x (hmd x hx).1
      have := (hmd x hx).2
      have := (h1 x (hmd x hx).1).1
      show s.2 ≤ x.lo
      omega
    · have h3 := hmt a ha'
      have h4 := ha a h3.1
      have h5 := (h1 a h3.1).1
      obtain ⟨k1, k2, k3⟩ := hs
      rcases List.mem_cons.1 hb with rfl | hb
      · show a.hi ≤ s.1
        omega
      · have h6 := hmd b hb
        omega
theorem insert_len (q : List Piece) (s : Sp) (r : Row) : (insert' s r q).length = q.length + 1 := by
  have := congrArg List.length (List.takeWhile_append_dropWhile (p := ahead s) (l := q))
  rw [List.length_append] at this
  rw [insert', List.length_append, List.length_cons]
  omega
theorem putP_right {ps : List Piece} {s : Sp} {r : Row} (h : right ps = true) : right (putP ps s r) = true := by
  unfold putP
  split
  · rename_i hc
    rw [Bool.and_eq_true, Bool.and_eq_true, spanRight_iff] at hc
    obtain ⟨⟨_, hs⟩, hr⟩ := hc
    refine insert_right (drop_right h) hs hr ?_
    have hd : drop ps s = rests s ps := by unfold drop; rw [h, spanRight_iff.2 hs]; rfl
    rw [hd]
    exact rests_apart h hs
  · exact h
theorem putP_len {ps : List Piece} {s : Sp} {r : Row} (h : right ps = true) : (putP ps s r).length ≤ ps.length + 2 := by
  unfold putP
  split
  · rw [insert_len]; have := drop_len (s := s) h; omega
  · omega
theorem putP_row {ps : List Piece} {s : Sp} {r : Row} {n : Nat} (h : ∀ p ∈ ps, p.row.length ≤ n) (hr : r.length ≤ n) : ∀ p ∈ putP ps s r, p.row.length ≤ n := by
  unfold putP
  split
  · intro p hp
    have hd := drop_row (s := s) h
    rcases List.mem_append.1 hp with hp | hp
    · exact hd p ((List.takeWhile_sublist _).subset hp)
    · rcases List.mem_cons.1 hp with rfl | hp
      · exact hr
      · exact hd p ((List.dropWhile_sublist _).subset hp)
  · exact h

/-! Calls, one behind the other. -/
structure OpP where
  dr : Bool
  s : Sp
  row : Row
def OpP.enc (o : OpP) : List D := [.lit (.bool o.dr), .lit (.int .i64 o.s.1), .lit (.int .i64 o.s.2), encRow o.row]
def encOps (l : List OpP) : D := .sl (l.map OpP.enc)
attribute [go_sem] OpP.enc encOps
def stepP (ps : List Piece) (o : OpP) : List Piece := if 20 < o.row.length then ps else if o.dr then drop ps o.s else putP ps o.s o.row
def opsP (ps : List Piece) (l : List OpP) : List Piece := l.foldl stepP ps
def buildP (l : List OpP) : List Piece := opsP [] (l.take 30)

theorem stepP_ok {ps : List Piece} {o : OpP} {n : Nat} (hr : right ps = true) (hl : ps.length ≤ n) (hw : ∀ p ∈ ps, p.row.length ≤ 20) : right (stepP ps o) = true ∧ (stepP ps o).length ≤ n + 2 ∧ ∀ p ∈ stepP ps o, p.row.length ≤ 20 := by
  unfold stepP
  split
  · exact ⟨hr, by omega, hw⟩
  · split
    · exact ⟨drop_right hr, by have := drop_len (s := o.s) hr; omega, drop_row hw⟩
    · exact ⟨putP_right hr, by have := putP_len (s := o.s) (r := o.row) hr; omega, putP_row hw (by omega)⟩
theorem opsP_ok : ∀ (l : List OpP) {ps : List Piece} {n : Nat}, right ps = true → ps.length ≤ n → (∀ p ∈ ps, p.row.length ≤ 20) → right (opsP ps l) = true ∧ (opsP ps l).length ≤ n + 2 * l.length ∧ ∀ p ∈ opsP ps l, p.row.length ≤ 20
  | [], ps, n, h1, h2, h3 => ⟨h1, h2, h3⟩
  | o :: l, ps, n, h1, h2, h3 => by
    obtain ⟨k1, k2, k3⟩ := stepP_ok (o := o) h1 h2 h3
    obtain ⟨m1, m2, m3⟩ := opsP_ok l k1 k2 k3
    exact ⟨m1, by rw [List.length_cons]; show (opsP (stepP ps o) l).length ≤ _; omega, m3⟩
theorem opsP_next {ps : List Piece} {l : List OpP} {i : Nat} {x : OpP} (h : l[i]? = some x) : opsP ps (l.take (i + 1)) = stepP (opsP ps (l.take i)) x := by
  rw [take_next h, opsP, List.foldl_append]
  rfl
theorem buildP_ok (l : List OpP) : right (buildP l) = true ∧ (buildP l).length ≤ 60 ∧ ∀ p ∈ buildP l, p.row.length ≤ 20 := by
  obtain ⟨h1, h2, h3⟩ := opsP_ok (l.take 30) (ps := []) (n := 0) rfl (Nat.le_refl 0) (fun p hp => by cases hp)
  exact ⟨h1, by rw [List.length_take] at h2; unfold buildP; omega, h3⟩

/-! What goes and what comes. -/
theorem without_mem {ps q : List Piece} {x : Piece} : x ∈ without ps q ↔ x ∈ ps ∧ x ∉ q := by
  rw [without, List.mem_filter, Bool.not_eq_true', Bool.eq_false_iff]
  exact and_congr Iff.rfl (not_congr isIn_iff)
theorem without_right {ps q : List Piece} (h : right ps = true) : right (without ps q) = true := right_sublist List.filter_sublist h
theorem without_self (ps : List Piece) : without ps ps = [] := by
  rw [List.eq_nil_iff_forall_not_mem]
  intro x hx
  rw [without_mem] at hx
  exact hx.2 hx.1
theorem without_count {l m : List Piece} (hl : right l = true) (hm : right m = true) : l.length - (without l m).length = m.length - (without m l).length := by
  have key : ∀ {l m : List Piece}, l.length = (without l m).length + (l.filter (isIn m)).length := by
    intro l m
    induction l with
    | nil => rfl
    | cons x r ih =>
      unfold without at ih ⊢
      rw [List.filter_cons, List.filter_cons]
      cases isIn m x <;> simp <;> omega
  have h1 := key (l := l) (m := m)
  have h2 := key (l := m) (m := l)
  have hp : (l.filter (isIn m)).Perm (m.filter (isIn l)) := by
    refine (List.perm_ext_iff_of_nodup ((right_nodup hl).sublist List.filter_sublist) ((right_nodup hm).sublist List.filter_sublist)).2 fun x => ?_
    rw [List.mem_filter, List.mem_filter, isIn_iff, isIn_iff]
    exact ⟨fun h => ⟨h.2, h.1⟩, fun h => ⟨h.2, h.1⟩⟩
  have h3 := hp.length_eq
  omega
end Go.Proofs

/-
  From a contract to a law's statement: the row's step for all laws; what the types of values, spans, pieces and calls read as.
-/



namespace Go.PW

theorem law_lifted {C : Checked} {os : Os} {f : FuncId} {fn : Func} {s : ChangeSpec} {conds : List PathCond} {tb : TypeId} {H : Type} {enc : TypeId × Value → H}
    (own : ownKnob C.prog.godebug = none) (started : os.Started) (noInit : C.prog.inits.idxOf? f = none) (hfn : C.prog.funcs[f]? = some fn)
    (witness : ∃ (w : World) (tape : Tape) (i : Input), w.os = os ∧ (w.forCall tape i).Shaped C.prog ∧ i.vars = [] ∧ Input.okWide C.prog (w.forCall tape i) .any w.heap.size f i ∧
      s.pre6 enc C.prog fn conds false (w.forCall tape i).memory i.args ∧ Assume.holds {} C.prog (lone (Frame.enter C.prog f i.args .normal) [] (w.forCall tape i)))
    (hv : s.vars = []) (hl : laidOutB C.prog = true) (hr : ∀ t ∈ fn.params.toList, C.prog.readableRec t = true ∧ t < C.prog.types.size) (hrt : fn.resultTypes = #[tb]) (htb : C.prog.underlying tb = some .bool)
    (hs : ∀ ds : List (DataW H), ds.length = fn.params.size → s.fn H ds = { results := [.lit (.bool true)], args := ds })
    (hc : ∀ (W : World) (base : Nat) (args : Array Value), args.size = fn.params.size → (∀ (j : Nat) (t : TypeId), fn.params[j]? = some t → ∃ v d p, args[j]? = some v ∧ Value.okWide C.prog W .any base t v ∧ DataW.Trod enc C.prog W 0 (fun _ => true) true t v d p) →
      Calls C.prog f args W fun e W' => e = .returned (.bool true) ∧ RowKit.Below W.heap.size W W') :
    ReturnsInHanded {} C os f .any (s.pre6 enc C.prog fn conds false) (s.post enc C.prog fn false true false false) := by
  refine returnsInHanded_of_change own started noInit hfn witness ?_
  intro W base args ds gs before hval hW _ _
  have hWk := hW
  obtain ⟨p, q, hA, hV, _, _, _⟩ := hW
  obtain ⟨k1, k2, k3⟩ := trodAll_get hA
  have hsz : args.size = fn.params.size := by simpa using k1
  refine (hc W base args hsz (fun j t hj => ?_)).mono fun e W' hq => ?_
  · obtain ⟨v, d, p, h1, h2⟩ := k3 j t (by simpa using hj)
    have h1' : args[j]? = some v := by simpa using h1
    exact ⟨v, d, p, h1', hval j t v hj h1', h2⟩
  · obtain ⟨rfl, hb⟩ := hq
    exact ⟨_, rfl, post_law hWk hv hl hr (hs ds (by simpa using k2)) hrt htb hb⟩

theorem args_of {g : Gh} {A : AMap} {xs : List PV} {args : Array Value} (hn : args.size = xs.length) (h : ∀ (k : Nat) (x : PV), xs[k]? = some x → ∃ v, args[k]? = some v ∧ PRep g A x v) : ArgsRep g A xs args.toList :=
  ⟨by simpa using hn, fun k x hk => by obtain ⟨v, h1, h2⟩ := h k x hk; exact ⟨v, by simpa using h1, h2⟩⟩
end Go.PW
namespace Go.Proofs
open Go.PW

def Val.ok (v : Val) : Prop := (Lit.int .i64 v.kind).wf = true ∧ (Lit.int .i64 v.num).wf = true ∧ (Lit.int .u64 v.bits).wf = true ∧ v.str.size ≤ maxLen
def Sp.ok (s : Sp) : Prop := (Lit.int .i64 s.1).wf = true ∧ (Lit.int .i64 s.2).wf = true
def Row.ok' (r : Row) : Prop := ∀ v ∈ r, Val.ok v
def Piece.ok (p : Piece) : Prop := ((Lit.int .i64 p.lo).wf = true ∧ (Lit.int .i64 p.hi).wf = true) ∧ Row.ok' p.row
def OpP.ok (o : OpP) : Prop := Sp.ok o.s ∧ Row.ok' o.row

theorem Try.own : ownKnob Try.prog.godebug = none := by kernel_rfl
theorem Try.laidOut : laidOutB Try.prog = true := by kernel_rfl

theorem Try.rVal (w : World) : Reads Try.prog w 80 Val.ok Val.enc :=
  reads_map (reads_struct Try.underlying80 rfl (by kernel_rfl) (readsF_cons rfl Try.cl3 (reads_int Try.underlying3) (readsF_cons rfl Try.cl3 (reads_int Try.underlying3) (readsF_cons rfl Try.cl78 (reads_int Try.underlying78)
    (readsF_cons rfl Try.cl9 (reads_string Try.underlying9) readsF_nil))))) (fun x => (⟨x.1, x.2.1, x.2.2.1, x.2.2.2.1⟩ : Val)) (fun _ h => ⟨⟨h.1, h.2.1, h.2.2.1, h.2.2.2.1⟩, rfl⟩)
theorem Try.rSp (w : World) : Reads Try.prog w 43 Sp.ok Sp.enc :=
  reads_map (reads_struct Try.underlying43 rfl (by kernel_rfl) (readsF_cons rfl Try.cl3 (reads_int Try.underlying3) (readsF_cons rfl Try.cl3 (reads_int Try.underlying3) readsF_nil))) (fun x => ((x.1, x.2.1) : Sp)) (fun _ h => ⟨⟨h.1, h.2.1⟩, rfl⟩)
theorem Try.rRow (w : World) : Reads Try.prog w 44 Row.ok' (fun r : Row => [encRow r]) :=
  reads_slice Try.underlying44 Try.cl80 (by decide) (fun _ => rfl) (Try.rVal w)
theorem Try.rPiece (w : World) : Reads Try.prog w 46 Piece.ok Piece.enc :=
  reads_map (reads_struct Try.underlying46 rfl (by kernel_rfl) (readsF_cons rfl Try.cl43 (Try.rSp w) (readsF_cons rfl Try.cl44 (Try.rRow w) readsF_nil))) (fun x => (⟨x.1.1, x.1.2, x.2.1⟩ : Piece)) (fun _ h => ⟨⟨h.1, h.2.1⟩, rfl⟩)
theorem Try.rPieces (w : World) : Reads Try.prog w 31 (fun l : List Piece => ∀ p ∈ l, Piece.ok p) (fun l => [encPieces l]) :=
  reads_slice Try.underlying31 Try.cl46 (by decide) (fun _ => rfl) (Try.rPiece w)
end Go.Proofs

/-
  Values: plain laws: the document's test of a value is the program's.
-/

namespace Go.Proofs
open Go.PW

/-! Floats: what a comparison says of the bits. -/
theorem order_self {b : Nat} : (FloatKind.f64.format.order b b != some .eq) = decide (9218868437227405312 < b % 9223372036854775808) := by
  show (((Ieee.double.read b).order (Ieee.double.read b)) != some .eq) = _
  have e1 : Ieee.double.signWeight = 9223372036854775808 := rfl
  have e2 : Ieee.double.binade = 4503599627370496 := rfl
  have e3 : Ieee.double.infRung = 9218868437227405312 := rfl
  unfold Ieee.Format.read
  simp only [e1, e2, e3]
  generalize b % 9223372036854775808 = r
  split
  · rename_i h
    have : ¬ 9218868437227405312 < r := by omega
    simp [Ieee.Datum.order, this]
  · split
    · rename_i h
      have : ¬ 9218868437227405312 < r := by omega
      simp [Ieee.Datum.order, this]
    · split
      · rename_i h
        have : ¬ 9218868437227405312 < r := by omega
        simp [Ieee.Datum.order, this]
      · have : 9218868437227405312 < r := by omega
        simp [Ieee.Datum.order, this]

theorem signed_zero {s : Bool} {m k : Nat} : Ieee.signed s m k = 0 ↔ m = 0 := by
  unfold Ieee.signed
  have : m <<< k = 0 ↔ m = 0 := by rw [Nat.shiftLeft_eq, Nat.mul_eq_zero]; simp
  cases s <;> simp <;> omega

theorem order_zero {b : Nat} : (FloatKind.f64.format.order b 0 == some .eq) = decide (b % 9223372036854775808 = 0) := by
  show (((Ieee.double.read b).order (Ieee.double.read 0)) == some .eq) = _
  have e1 : Ieee.double.signWeight = 9223372036854775808 := rfl
  have e2 : Ieee.double.binade = 4503599627370496 := rfl
  have e3 : Ieee.double.infRung = 9218868437227405312 := rfl
  have h0 : Ieee.double.read 0 = .number false 0 Ieee.double.leastPlace := rfl
  rw [h0]
  unfold Ieee.Format.read
  simp only [e1, e2, e3]
  generalize b % 9223372036854775808 = r
  have key : ∀ (s : Bool) (m : Nat) (i : Int), ((Ieee.Datum.number s m i).order (.number false 0 Ieee.double.leastPlace) == some .eq) = decide (m = 0) := by
    intro s m i
    simp only [Ieee.Datum.order]
    have z : ∀ k, Ieee.signed false 0 k = 0 := fun k => signed_zero.2 rfl
    rw [z]
    rw [Bool.eq_iff_iff, beq_iff_eq, decide_eq_true_eq, Option.some.injEq]
    rw [Std.compare_eq_iff_eq]
    exact signed_zero
  split
  · exact key _ _ _
  · split
    · rename_i h h2
      rw [key]
      rw [Bool.eq_iff_iff, decide_eq_true_eq, decide_eq_true_eq]
      omega
    · have hne : ¬ r = 0 := by omega
      split
      · cases (b / 9223372036854775808 % 2 == 1) <;> simp [Ieee.Datum.order, hne]
      · simp [Ieee.Datum.order, hne]

def canonI (b : Int) : Int := if decide (9218868437227405312 < iAnd .u64 b 9223372036854775807) = true then 9221120237041090560 else if (iAnd .u64 b 9223372036854775807 == 0) = true then 0 else b

theorem iAnd_mask {b : Int} (h0 : 0 ≤ b) (h1 : b < 18446744073709551616) : iAnd .u64 b 9223372036854775807 = ((b.toNat % 9223372036854775808 : Nat) : Int) := by
  obtain ⟨n, rfl⟩ := Int.eq_ofNat_of_zero_le h0
  have hn : n < 18446744073709551616 := by omega
  unfold iAnd
  have hb : IntKind.u64.bits = 64 := rfl
  rw [hb]
  have e1 : (BitVec.ofInt 64 ((n : Nat) : Int) &&& BitVec.ofInt 64 9223372036854775807).toNat = n &&& 9223372036854775807 := by
    rw [BitVec.toNat_and]
    have a1 : (BitVec.ofInt 64 ((n : Nat) : Int)).toNat = n := by
      rw [BitVec.toNat_ofInt]
      have : ((n : Nat) : Int) % ((2 ^ 64 : Nat) : Int) = ((n % 2 ^ 64 : Nat) : Int) := by omega
      rw [this]
      simp
      omega
    have a2 : (BitVec.ofInt 64 9223372036854775807).toNat = 9223372036854775807 := by decide
    rw [a1, a2]
  rw [e1]
  have e2 : n &&& 9223372036854775807 = n % 9223372036854775808 := by
    have := Nat.and_two_pow_sub_one_eq_mod n 63
    simpa using this
  rw [e2]
  have hlt : n % 9223372036854775808 < 9223372036854775808 := Nat.mod_lt _ (by decide)
  rw [Go.IntWalk.u64_in _ (by omega), Int.toNat_natCast]

theorem canon_eq {b : Int} (h : (Lit.int .u64 b).wf = true) : canonF b.toNat = canonI b := by
  have hw : 0 ≤ b ∧ b < 18446744073709551616 := by
    simp only [Lit.wf, Bool.and_eq_true, decide_eq_true_eq] at h
    have e1 : IntKind.u64.min = 0 := rfl
    have e2 : IntKind.u64.max = 18446744073709551615 := rfl
    rw [e1, e2] at h
    omega
  unfold canonF isNaN canonI
  rw [order_self, order_zero, iAnd_mask hw.1 hw.2]
  simp only [decide_eq_true_eq]
  generalize b.toNat % 9223372036854775808 = r
  have hb : ((b.toNat : Nat) : Int) = b := by omega
  by_cases h1 : 9218868437227405312 < r
  · have h1' : (9218868437227405312 : Int) < ((r : Nat) : Int) := by omega
    rw [if_pos h1, if_pos h1']
  · have h1' : ¬ (9218868437227405312 : Int) < ((r : Nat) : Int) := by omega
    rw [if_neg h1, if_neg h1']
    by_cases h2 : r = 0
    · subst h2
      rfl
    · have h2' : ¬ (((r : Nat) : Int) == 0) = true := by rw [beq_iff_eq]; omega
      rw [if_neg h2, if_neg h2', hb]

/-- The document's test. -/
def Val.rright (v : Val) : Bool :=
  if (v.kind == 0) = true then (v.num == 0) && (v.bits == 0) && (v.str.toList == (⟨#[]⟩ : ByteArray).toList)
  else if (v.kind == 1) = true then ((v.num == 0) || (v.num == 1)) && (v.bits == 0) && (v.str.toList == (⟨#[]⟩ : ByteArray).toList)
  else if (v.kind == 2) = true then (v.bits == 0) && (v.str.toList == (⟨#[]⟩ : ByteArray).toList)
  else if (v.kind == 3) = true then (v.num == 0) && (v.str.toList == (⟨#[]⟩ : ByteArray).toList) && (canonI v.bits == v.bits)
  else if (v.kind == 4) = true then (v.num == 0) && (v.bits == 0) && decide ((v.str.size : Int) ≤ 4096)
  else if (v.kind == 5) = true then (v.num == 0) && (v.bits == 0) && decide ((v.str.size : Int) ≤ 4096)
  else false

theorem iAnd_one {n : Int} : iAnd .i64 n 1 = 0 ∨ iAnd .i64 n 1 = 1 := by
  unfold iAnd
  have hb : IntKind.i64.bits = 64 := rfl
  rw [hb, BitVec.toNat_and]
  have a2 : (BitVec.ofInt 64 1).toNat = 1 := by decide
  rw [a2, Nat.and_one_is_mod]
  have : (BitVec.ofInt 64 n).toNat % 2 < 2 := Nat.mod_lt _ (by decide)
  generalize (BitVec.ofInt 64 n).toNat % 2 = r at this
  have : r = 0 ∨ r = 1 := by omega
  rcases this with rfl | rfl
  · exact .inl rfl
  · exact .inr rfl

theorem empty_size {s : ByteArray} (h : s.toList = (⟨#[]⟩ : ByteArray).toList) : (s.size : Int) ≤ 4096 := by
  rw [bytes_same] at h
  subst h
  decide

theorem rright_eq {v : Val} (h : v.ok) : v.rright = v.right := by
  obtain ⟨k, n, b, s⟩ := v
  obtain ⟨h1, h2, h3, h4⟩ := h
  simp only at h1 h2 h3 h4
  unfold Val.rright Val.right Val.canon
  simp only
  rw [Bool.eq_iff_iff]
  have hc := canon_eq h3
  split
  · rename_i hk
    simp only [Val.same, Bool.and_eq_true, beq_iff_eq, decide_eq_true_eq] at hk ⊢
    constructor
    · rintro ⟨⟨e1, e2⟩, e3⟩; exact ⟨⟨trivial, e1, e2, e3⟩, empty_size e3⟩
    · rintro ⟨⟨_, e1, e2, e3⟩, _⟩; exact ⟨⟨e1, e2⟩, e3⟩
  · split
    · rename_i hk
      simp only [Val.same, Bool.and_eq_true, Bool.or_eq_true, beq_iff_eq, decide_eq_true_eq] at hk ⊢
      constructor
      · rintro ⟨⟨e1, e2⟩, e3⟩
        refine ⟨⟨trivial, ?_, e2, e3⟩, empty_size e3⟩
        rcases e1 with rfl | rfl <;> rfl
      · rintro ⟨⟨_, e1, e2, e3⟩, _⟩
        refine ⟨⟨?_, e2⟩, e3⟩
        rcases iAnd_one (n := n) with h | h
        · exact .inl (e1.trans h)
        · exact .inr (e1.trans h)
    · split
      · rename_i hk
        simp only [Val.same, Bool.and_eq_true, beq_iff_eq, decide_eq_true_eq] at hk ⊢
        constructor
        · rintro ⟨e2, e3⟩; exact ⟨⟨trivial, trivial, e2, e3⟩, empty_size e3⟩
        · rintro ⟨⟨_, _, e2, e3⟩, _⟩; exact ⟨e2, e3⟩
      · split
        · rename_i hk
          simp only [Val.same, Bool.and_eq_true, beq_iff_eq, decide_eq_true_eq, hc] at hk ⊢
          constructor
          · rintro ⟨⟨e1, e3⟩, e2⟩; exact ⟨⟨trivial, e1, e2.symm, e3⟩, empty_size e3⟩
          · rintro ⟨⟨_, e1, e2, e3⟩, _⟩; exact ⟨⟨e1, e3⟩, e2.symm⟩
        · split
          · rename_i hk
            simp only [Val.same, Bool.and_eq_true, beq_iff_eq, decide_eq_true_eq] at hk ⊢
            constructor
            · rintro ⟨⟨e1, e2⟩, e3⟩; exact ⟨⟨trivial, e1, e2, trivial⟩, e3⟩
            · rintro ⟨⟨_, e1, e2, _⟩, e3⟩; exact ⟨⟨e1, e2⟩, e3⟩
          · split
            · rename_i hk
              simp only [Val.same, Bool.and_eq_true, beq_iff_eq, decide_eq_true_eq] at hk ⊢
              constructor
              · rintro ⟨⟨e1, e2⟩, e3⟩; exact ⟨⟨trivial, e1, e2, trivial⟩, e3⟩
              · rintro ⟨⟨_, e1, e2, _⟩, e3⟩; exact ⟨⟨e1, e2⟩, e3⟩
            · simp
end Go.Proofs
