import Derived.Test.YtcdiifnnnnnceaaQ15

/-
  The document's rows; equality of booleans.
-/

namespace Go.Proofs
open Go.PW

@[go_sem] theorem B_beql {P : Program} {T : TypeId} {a b : Bool} (h : P.underlying T = some .bool) : binS P .eql T (.c (.d (.lit (.bool a)))) (.c (.d (.lit (.bool b)))) = some (lit (.bool (a == b))) := by
  simp [binS, eqS, h]
@[go_sem] theorem B_bneq {P : Program} {T : TypeId} {a b : Bool} (h : P.underlying T = some .bool) : binS P .neq T (.c (.d (.lit (.bool a)))) (.c (.d (.lit (.bool b)))) = some (lit (.bool (!(a == b)))) := by
  simp [binS, eqS, h]

def rowOf (r : Option Row) : Row := r.getD []

set_option maxRecDepth 8000 in
set_option maxHeartbeats 1000000 in
theorem Try.kRows (a b : Row) (hr : a.length ≤ 4294967296) : PureOK Try.prog 45 [pD (encRow a), pD (encRow b)] (.one (dB (sameRow a b))) := by
  refine Try.pure (md := []) Try.func45 rfl Try.call45 (by kernel_rfl) (by rfl) (by exact Nat.le_of_ble_eq_true rfl) ?_
  repeat' (first
    | with_reducible refine VC_seq fun K hK => ?_
    | with_reducible refine W_region ?_
    | with_reducible refine VC_block ?_
    | with_reducible refine VC_scope ?_
    | with_reducible refine VC_if ?_
    | with_reducible refine VC_skip ?_
    | with_reducible refine VC_exit ?_
    | with_reducible refine VC_ret ?_
    | (with_reducible refine G_not (fun h => ?_) (fun h => ?_) <;> (try simp only [h]))
    | (with_reducible refine G_cases (fun h => ?_) (fun h => ?_) <;> (try simp only [h]))
    | (with_reducible refine hK _ ?_; clear hK K)
    | (clear hK K; with_reducible refine hK _ ?_; clear hK K)
    | (clear hK K; clear hK K; with_reducible refine hK _ ?_; clear hK K)
    | (clear hK K; clear hK K; clear hK K; with_reducible refine hK _ ?_; clear hK K)
    | (with_reducible refine todo ?_; simp +decide only [go_sem]))
  · refine Ret_d rfl ?_
    have hne : (a.length == b.length) = false := by
      rw [beq_eq_false_iff_ne]; intro e; rw [e] at h; simp at h
    simp +decide only [go_sem, sameRow, hne]
  · have hlen : a.length = b.length := by
      have e : ((a.length : Int) == (b.length : Int)) = true := by simpa [bne] using h
      exact Int.ofNat_inj.1 (by simpa using e)
    refine VC_range a.length (fun i => (List.zipWith Val.same (a.take i) (b.take i)).all id = true) (fun i => frame [(0, pD (encRow a)), (1, pD (encRow b)), (5, pD (.lit (.int .i64 i)))] [] []) rfl ?_ ?_
    · refine Weak_frame ?_ ?_ ?_ <;> simp +decide only [go_sem]
    · intro i hi hI
      rcases Nat.lt_or_ge i a.length with hlt | hge
      · have hg := List.getElem?_eq_getElem hlt
        have hg' := List.getElem?_eq_getElem (show i < b.length by omega)
        have hd := int_lt_true hlt
        have hw := int_next hlt hr
        generalize a[i] = x at hg
        generalize b[i] = y at hg'
        repeat' (first
          | with_reducible refine VC_seq fun K hK => ?_
          | with_reducible refine W_region ?_
          | with_reducible refine VC_block ?_
          | with_reducible refine VC_scope ?_
          | with_reducible refine VC_if ?_
          | with_reducible refine VC_skip ?_
          | with_reducible refine VC_exit ?_
          | with_reducible refine VC_ret ?_
          | (with_reducible refine G_not (fun h => ?_) (fun h => ?_) <;> (try simp only [h]))
          | (with_reducible refine G_cases (fun h => ?_) (fun h => ?_) <;> (try simp only [h]))
          | (with_reducible refine hK _ ?_; clear hK K)
          | (clear hK K; with_reducible refine hK _ ?_; clear hK K)
          | (clear hK K; clear hK K; with_reducible refine hK _ ?_; clear hK K)
          | (clear hK K; clear hK K; clear hK K; with_reducible refine hK _ ?_; clear hK K)
          | (with_reducible refine todo ?_; simp +decide only [go_sem, hg, hg', hd, hw]))
        · refine Next_of hlt (same_take hI hg hg' h) (Weak_frame ?_ ?_ ?_) <;> simp +decide only [go_sem]
        · refine Ret_d rfl ?_
          simp +decide only [go_sem, sameRow, same_not hg hg' h]
      · have hd := int_lt_false hge
        rw [List.take_of_length_le hge, List.take_of_length_le (show b.length ≤ i by omega)] at hI
        repeat' (first
          | with_reducible refine VC_seq fun K hK => ?_
          | with_reducible refine W_region ?_
          | with_reducible refine VC_block ?_
          | with_reducible refine VC_scope ?_
          | with_reducible refine VC_if ?_
          | with_reducible refine VC_skip ?_
          | with_reducible refine VC_exit ?_
          | with_reducible refine VC_ret ?_
          | (with_reducible refine G_not (fun h => ?_) (fun h => ?_) <;> (try simp only [h]))
          | (with_reducible refine G_cases (fun h => ?_) (fun h => ?_) <;> (try simp only [h]))
          | (with_reducible refine hK _ ?_; clear hK K)
          | (clear hK K; with_reducible refine hK _ ?_; clear hK K)
          | (clear hK K; clear hK K; with_reducible refine hK _ ?_; clear hK K)
          | (clear hK K; clear hK K; clear hK K; with_reducible refine hK _ ?_; clear hK K)
          | (with_reducible refine todo ?_; simp +decide only [go_sem, hd]))
        refine Ret_d rfl ?_
        simp +decide only [go_sem, sameRow, hI, hlen]
end Go.Proofs

/-
  Pieces: plain laws, more: put twice, put and drop, in any order, what is at a time.
-/

namespace Go.Proofs
open Go.PW

theorem rests_same {s : Sp} (hs : SpOK s) : ∀ {q : List Piece}, (∀ x ∈ q, OK x ∧ (x.hi ≤ s.1 ∨ s.2 ≤ x.lo)) → rests s q = q
  | [], _ => rfl
  | p :: r, h => by
    have hp := h p (List.mem_cons_self ..)
    have e : rest1 s p = [p] := by rw [rest1_eq hp.1 hs, if_pos hp.2]
    have ih := rests_same hs (q := r) (fun q hq => h q (List.mem_cons_of_mem _ hq))
    unfold rests at ih ⊢
    rw [List.flatMap_cons, e, ih]
    rfl
theorem rest1_self {s : Sp} {r : Row} (hs : SpOK s) (hr : rowRight r = true) : rest1 s ⟨s.1, s.2, r⟩ = [] := by
  have h := hs.2.1
  rw [rest1_eq (p := ⟨s.1, s.2, r⟩) ⟨hs, hr⟩ hs, if_neg (by show ¬ (s.2 ≤ s.1 ∨ s.2 ≤ s.1); omega), if_neg (by simp), if_neg (by simp)]
  rfl
theorem rests_append (s : Sp) (a b : List Piece) : rests s (a ++ b) = rests s a ++ rests s b := by unfold rests; rw [List.flatMap_append]
theorem rests_cons (s : Sp) (x : Piece) (b : List Piece) : rests s (x :: b) = rest1 s x ++ rests s b := by unfold rests; rw [List.flatMap_cons]
theorem rests_insert {q : List Piece} {s : Sp} {r : Row} (h : right q = true) (hs : SpOK s) (hr : rowRight r = true) (ha : ∀ x ∈ q, x.hi ≤ s.1 ∨ s.2 ≤ x.lo) : rests s (insert' s r q) = q := by
  have hok := (right_iff.1 h).1
  have e1 : rests s (q.takeWhile (ahead s)) = q.takeWhile (ahead s) := rests_same hs fun x hx => ⟨hok x ((List.takeWhile_sublist _).subset hx), ha x ((List.takeWhile_sublist _).subset hx)⟩
  have e2 : rests s (q.dropWhile (ahead s)) = q.dropWhile (ahead s) := rests_same hs fun x hx => ⟨hok x ((List.dropWhile_sublist _).subset hx), ha x ((List.dropWhile_sublist _).subset hx)⟩
  rw [insert', rests_append, rests_cons, rest1_self hs hr, e1, e2]
  exact List.takeWhile_append_dropWhile

def puts (s : Sp) (r : Row) : Bool := Span.right s.1 s.2 && rowRight r
theorem putP_not {ps : List Piece} {s : Sp} {r : Row} (h : puts s r = false) : putP ps s r = ps := by
  unfold putP
  unfold puts at h
  rw [Bool.and_assoc, h, Bool.and_false]
  rfl
theorem putP_yes {ps : List Piece} {s : Sp} {r : Row} (hp : right ps = true) (h : puts s r = true) : putP ps s r = insert' s r (rests s ps) := by
  unfold puts at h
  have h' := h
  rw [Bool.and_eq_true] at h'
  unfold putP drop
  rw [Bool.and_assoc, hp, h, h'.1]
  rfl
theorem drop_yes {ps : List Piece} {s : Sp} (hp : right ps = true) (h : Span.right s.1 s.2 = true) : drop ps s = rests s ps := by
  unfold drop
  rw [hp, h]
  rfl
theorem puts_ok {s : Sp} {r : Row} (h : puts s r = true) : SpOK s ∧ rowRight r = true := by
  unfold puts at h
  rw [Bool.and_eq_true, spanRight_iff] at h
  exact h

theorem put_twice {ps : List Piece} {s : Sp} {r : Row} (h : right ps = true) : putP (putP ps s r) s r = putP ps s r := by
  cases hp : puts s r with
  | false => rw [putP_not hp, putP_not hp]
  | true =>
    obtain ⟨hs, hr⟩ := puts_ok hp
    have h1 : right (putP ps s r) = true := putP_right h
    rw [putP_yes h1 hp, putP_yes h hp, rests_insert (rests_right h hs) hs hr (rests_apart h hs)]
theorem put_drop {ps : List Piece} {s : Sp} {r : Row} (h : right ps = true) (hne : samePieces (putP ps s r) ps = false) : drop (putP ps s r) s = drop ps s := by
  cases hp : puts s r with
  | false =>
    rw [putP_not hp, samePieces_iff.2 rfl] at hne
    cases hne
  | true =>
    obtain ⟨hs, hr⟩ := puts_ok hp
    have hs' := spanRight_iff.2 hs
    rw [drop_yes (putP_right h) hs', drop_yes h hs', putP_yes h hp, rests_insert (rests_right h hs) hs hr (rests_apart h hs)]

/-! In any order. -/
theorem right_ext : ∀ {a b : List Piece}, right a = true → right b = true → (∀ x, x ∈ a ↔ x ∈ b) → a = b := by
  intro a b ha hb h
  refine List.Perm.eq_of_pairwise (le := fun p q => p = q ∨ p.hi ≤ q.lo) (fun x y hx hy h1 h2 => ?_) ?_ ?_ ((List.perm_ext_iff_of_nodup (right_nodup ha) (right_nodup hb)).2 h)
  · rcases h1 with h1 | h1
    · exact h1
    · rcases h2 with h2 | h2
      · exact h2.symm
      · have h3 := ((right_iff.1 ha).1 x hx).1
        have h4 := ((right_iff.1 hb).1 y hy).1
        omega
  · exact (right_iff.1 ha).2.imp fun h => .inr h
  · exact (right_iff.1 hb).2.imp fun h => .inr h
theorem mem_insert {q : List Piece} {s : Sp} {r : Row} {x : Piece} : x ∈ insert' s r q ↔ x = ⟨s.1, s.2, r⟩ ∨ x ∈ q := by
  have e := List.takeWhile_append_dropWhile (p := ahead s) (l := q)
  rw [insert', List.mem_append, List.mem_cons]
  constructor
  · rintro (h | h | h)
    · exact .inr (e ▸ List.mem_append_left _ h)
    · exact .inl h
    · exact .inr (e ▸ List.mem_append_right _ h)
  · rintro (h | h)
    · exact .inr (.inl h)
    · rw [← e, List.mem_append] at h
      rcases h with h | h
      · exact .inl h
      · exact .inr (.inr h)
theorem mem_rests {q : List Piece} {s : Sp} {x : Piece} : x ∈ rests s q ↔ ∃ p ∈ q, x ∈ rest1 s p := List.mem_flatMap

def cutP (s : Sp) (p : Piece) : List Piece := if p.hi ≤ s.1 ∨ s.2 ≤ p.lo then [p] else (if p.lo < s.1 then [⟨p.lo, s.1, p.row⟩] else []) ++ (if s.2 < p.hi then [⟨s.2, p.hi, p.row⟩] else [])
theorem cutP_comm {a b : Sp} {p : Piece} (hp : p.lo < p.hi) (ha : a.1 < a.2) (hb : b.1 < b.2) (hab : a.2 ≤ b.1) : (cutP a p).flatMap (cutP b) = (cutP b p).flatMap (cutP a) := by
  obtain ⟨lo, hi, row⟩ := p
  obtain ⟨a1, a2⟩ := a
  obtain ⟨b1, b2⟩ := b
  simp only at hp ha hb hab
  rcases Int.lt_or_le lo a1 with h1 | h1 <;> rcases Int.lt_or_le lo a2 with h2 | h2 <;> rcases Int.lt_or_le lo b1 with h3 | h3 <;> rcases Int.lt_or_le lo b2 with h4 | h4 <;>
  first
  | (exfalso; omega)
  | (rcases Int.lt_or_le a1 hi with h5 | h5 <;> rcases Int.lt_or_le a2 hi with h6 | h6 <;> rcases Int.lt_or_le b1 hi with h7 | h7 <;> rcases Int.lt_or_le b2 hi with h8 | h8 <;>
     first
     | (exfalso; omega)
     | (rcases Int.lt_or_le a2 b1 with h9 | h9 <;> simp (disch := omega) only [cutP, if_pos, if_neg, List.flatMap_cons, List.flatMap_nil, List.append_nil, List.nil_append, List.cons_append]))

theorem rests_comm {ps : List Piece} {a b : Sp} (h : ∀ p ∈ ps, OK p) (ha : SpOK a) (hb : SpOK b) (hab : a.2 ≤ b.1) (x : Piece) : x ∈ rests b (rests a ps) ↔ x ∈ rests a (rests b ps) := by
  have one : ∀ {s : Sp} {p : Piece}, OK p → SpOK s → rest1 s p = cutP s p := fun hp hs => rest1_eq hp hs
  have two : ∀ {s t : Sp}, SpOK s → SpOK t → ∀ x, x ∈ rests t (rests s ps) ↔ ∃ p ∈ ps, x ∈ (cutP s p).flatMap (cutP t) := by
    intro s t hs ht x
    rw [mem_rests]
    constructor
    · rintro ⟨y, hy, hx⟩
      obtain ⟨p, hp, hy⟩ := mem_rests.1 hy
      have hok := (rest1_mem (h p hp) hs hy).1
      rw [one hok ht] at hx
      rw [one (h p hp) hs] at hy
      exact ⟨p, hp, List.mem_flatMap.2 ⟨y, hy, hx⟩⟩
    · rintro ⟨p, hp, hx⟩
      obtain ⟨y, hy, hx⟩ := List.mem_flatMap.1 hx
      rw [← one (h p hp) hs] at hy
      have hok := (rest1_mem (h p hp) hs hy).1
      rw [← one hok ht] at hx
      exact ⟨y, mem_rests.2 ⟨p, hp, hy⟩, hx⟩
  rw [two ha hb, two hb ha]
  constructor
  · rintro ⟨p, hp, hx⟩
    exact ⟨p, hp, by rw [← cutP_comm (h p hp).1.2.1 ha.2.1 hb.2.1 hab]; exact hx⟩
  · rintro ⟨p, hp, hx⟩
    exact ⟨p, hp, by rw [cutP_comm (h p hp).1.2.1 ha.2.1 hb.2.1 hab]; exact hx⟩
theorem put_mem2 {ps : List Piece} {a b : Sp} {u v : Row} (h : right ps = true) (ha : puts a u = true) (hb : puts b v = true) (hab : a.2 ≤ b.1 ∨ b.2 ≤ a.1) (x : Piece) :
    x ∈ putP (putP ps a u) b v ↔ x = ⟨b.1, b.2, v⟩ ∨ x = ⟨a.1, a.2, u⟩ ∨ x ∈ rests b (rests a ps) := by
  obtain ⟨sa, ra⟩ := puts_ok ha
  obtain ⟨sb, rb⟩ := puts_ok hb
  rw [putP_yes (putP_right h) hb, mem_insert, putP_yes h ha, mem_rests]
  have e : rest1 b ⟨a.1, a.2, u⟩ = [⟨a.1, a.2, u⟩] := by rw [rest1_eq (p := ⟨a.1, a.2, u⟩) ⟨sa, ra⟩ sb, if_pos hab]
  constructor
  · rintro (h | ⟨y, hy, hx⟩)
    · exact .inl h
    · rcases mem_insert.1 hy with rfl | hy
      · rw [e, List.mem_singleton] at hx
        exact .inr (.inl hx)
      · exact .inr (.inr (mem_rests.2 ⟨y, hy, hx⟩))
  · rintro (h | h | h)
    · exact .inl h
    · exact .inr ⟨⟨a.1, a.2, u⟩, mem_insert.2 (.inl rfl), by rw [e, h]; exact List.mem_singleton.2 rfl⟩
    · obtain ⟨y, hy, hx⟩ := mem_rests.1 h
      exact .inr ⟨y, mem_insert.2 (.inr hy), hx⟩
/-- Of two periods that do not meet. -/
theorem put_comm {ps : List Piece} {a b : Sp} {u v : Row} (h : right ps = true) (hab : Span.right a.1 a.2 = true → Span.right b.1 b.2 = true → a.2 ≤ b.1 ∨ b.2 ≤ a.1) : putP (putP ps a u) b v = putP (putP ps b v) a u := by
  cases ha : puts a u with
  | false => rw [putP_not ha, putP_not ha]
  | true =>
    cases hb : puts b v with
    | false => rw [putP_not hb, putP_not hb]
    | true =>
      obtain ⟨sa, _⟩ := puts_ok ha
      obtain ⟨sb, _⟩ := puts_ok hb
      have hab := hab (spanRight_iff.2 sa) (spanRight_iff.2 sb)
      refine right_ext (putP_right (putP_right h)) (putP_right (putP_right h)) fun x => ?_
      rw [put_mem2 h ha hb hab, put_mem2 h hb ha hab.symm]
      have hc : x ∈ rests b (rests a ps) ↔ x ∈ rests a (rests b ps) := by
        rcases hab with hab | hab
        · exact rests_comm (right_iff.1 h).1 sa sb hab x
        · exact (rests_comm (right_iff.1 h).1 sb sa hab x).symm
      rw [hc]
      constructor
      · rintro (h | h | h)
        · exact .inr (.inl h)
        · exact .inl h
        · exact .inr (.inr h)
      · rintro (h | h | h)
        · exact .inr (.inl h)
        · exact .inl h
        · exact .inr (.inr h)

/-! What is at a time. -/
theorem has_iff {p : Piece} (hp : OK p) {t : Int} : Span.has p.lo p.hi t = true ↔ p.lo ≤ t ∧ t < p.hi := by
  unfold Span.has
  rw [Bool.and_eq_true, Bool.and_eq_true, spanRight_iff, decide_eq_true_eq, decide_eq_true_eq]
  exact ⟨fun h => ⟨h.1.2, h.2⟩, fun h => ⟨⟨hp.1, h.1⟩, h.2⟩⟩
theorem at_iff {ps : List Piece} (h : right ps = true) {t : Int} {r : Row} : at' ps t = some r ↔ ∃ p ∈ ps, (p.lo ≤ t ∧ t < p.hi) ∧ p.row = r := by
  obtain ⟨h1, h2⟩ := right_iff.1 h
  unfold at'
  rw [Option.map_eq_some_iff]
  constructor
  · rintro ⟨p, hp, rfl⟩
    have hm := List.mem_of_find?_eq_some hp
    have := List.find?_some hp
    exact ⟨p, hm, (has_iff (h1 p hm)).1 this, rfl⟩
  · rintro ⟨p, hp, ht, rfl⟩
    have hsome : (ps.find? fun p => Span.has p.lo p.hi t).isSome = true := by
      rw [List.find?_isSome]
      exact ⟨p, hp, (has_iff (h1 p hp)).2 ht⟩
    obtain ⟨q, hq⟩ := Option.isSome_iff_exists.1 hsome
    have hqm := List.mem_of_find?_eq_some hq
    have hqt := (has_iff (h1 q hqm)).1 (List.find?_some (p := fun p : Piece => Span.has p.lo p.hi t) hq)
    have : q = p := by
      obtain ⟨i, hi, rfl⟩ := List.getElem_of_mem hqm
      obtain ⟨j, hj, rfl⟩ := List.getElem_of_mem hp
      rw [List.pairwise_iff_getElem] at h2
      rcases Nat.lt_trichotomy i j with hij | hij | hij
      · have := h2 i j hi hj hij; omega
      · subst hij; rfl
      · have := h2 j i hj hi hij; omega
    exact ⟨q, hq, by rw [this]⟩
theorem at_ext {a b : List Piece} {t u : Int} (h : ∀ r, at' a t = some r ↔ at' b u = some r) : at' a t = at' b u := Option.ext h
theorem at_none {ps : List Piece} {t : Int} (h : ∀ r, at' ps t ≠ some r) : at' ps t = none := by
  cases e : at' ps t with
  | none => rfl
  | some r => exact absurd e (h r)
theorem at_rests {ps : List Piece} {s : Sp} (h : right ps = true) (hs : SpOK s) (t : Int) : at' (rests s ps) t = if s.1 ≤ t ∧ t < s.2 then none else at' ps t := by
  have hr := rests_right h hs
  have hok := (right_iff.1 h).1
  split
  · rename_i ht
    refine at_none fun r hr' => ?_
    obtain ⟨x, hx, hxt, _⟩ := (at_iff hr).1 hr'
    have := rests_apart h hs x hx
    omega
  · rename_i ht
    refine at_ext fun r => ?_
    rw [at_iff hr, at_iff h]
    constructor
    · rintro ⟨x, hx, hxt, rfl⟩
      obtain ⟨p, hp, hx⟩ := mem_rests.1 hx
      have hm := rest1_mem (hok p hp) hs hx
      refine ⟨p, hp, by omega, ?_⟩
      unfold rest1 at hx
      obtain ⟨m, _, rfl⟩ := List.mem_map.1 hx
      rfl
    · rintro ⟨p, hp, hpt, rfl⟩
      have e := rest1_eq (hok p hp) hs
      by_cases hc : p.hi ≤ s.1 ∨ s.2 ≤ p.lo
      · rw [if_pos hc] at e
        exact ⟨p, mem_rests.2 ⟨p, hp, by rw [e]; exact List.mem_singleton.2 rfl⟩, hpt, rfl⟩
      · rw [if_neg hc] at e
        rcases Int.lt_or_le t s.1 with h1 | h1
        · rw [if_pos (show p.lo < s.1 by omega)] at e
          exact ⟨⟨p.lo, s.1, p.row⟩, mem_rests.2 ⟨p, hp, by rw [e]; simp⟩, ⟨hpt.1, h1⟩, rfl⟩
        · rw [if_pos (show s.2 < p.hi by omega)] at e
          exact ⟨⟨s.2, p.hi, p.row⟩, mem_rests.2 ⟨p, hp, by rw [e]; simp⟩, ⟨by show s.2 ≤ t; omega, hpt.2⟩, rfl⟩
theorem at_put {ps : List Piece} {s : Sp} {r : Row} (h : right ps = true) (hp : puts s r = true) (t : Int) : at' (putP ps s r) t = if s.1 ≤ t ∧ t < s.2 then some r else at' ps t := by
  obtain ⟨hs, hr⟩ := puts_ok hp
  have hr1 := rests_right h hs
  have hR : right (insert' s r (rests s ps)) = true := insert_right hr1 hs hr (rests_apart h hs)
  have hrest := at_rests h hs t
  rw [putP_yes h hp]
  split
  · rename_i ht
    exact (at_iff hR).2 ⟨_, mem_insert.2 (.inl rfl), ht, rfl⟩
  · rename_i ht
    rw [if_neg ht] at hrest
    rw [← hrest]
    refine at_ext fun u => ?_
    rw [at_iff hR, at_iff hr1]
    constructor
    · rintro ⟨x, hx, hxt, rfl⟩
      rcases mem_insert.1 hx with rfl | hx
      · exact absurd hxt ht
      · exact ⟨x, hx, hxt, rfl⟩
    · rintro ⟨x, hx, hxt, rfl⟩
      exact ⟨x, mem_insert.2 (.inr hx), hxt, rfl⟩
theorem at_drop {ps : List Piece} {s : Sp} (h : right ps = true) (t : Int) : at' (drop ps s) t = if Span.has s.1 s.2 t then none else at' ps t := by
  cases hs : Span.right s.1 s.2 with
  | false =>
    have : drop ps s = ps := by unfold drop; rw [hs, Bool.and_false]; rfl
    have h2 : Span.has s.1 s.2 t = false := by unfold Span.has; rw [hs]; rfl
    rw [this, h2]
    rfl
  | true =>
    rw [drop_yes h hs, at_rests h (spanRight_iff.1 hs)]
    have h2 : Span.has s.1 s.2 t = (decide (s.1 ≤ t) && decide (t < s.2)) := by unfold Span.has; rw [hs]; rfl
    rw [h2]
    simp only [Bool.and_eq_true, decide_eq_true_eq]
end Go.Proofs

/-
  Pieces: plain laws: coalesced.
-/

namespace Go.Proofs
open Go.PW

theorem touches_iff {out : List Piece} {x : Piece} : touches out x = true ↔ ∃ init y, out = init ++ [y] ∧ y.hi = x.lo ∧ y.row = x.row := by
  unfold touches
  cases h : out.getLast? with
  | none =>
    rw [List.getLast?_eq_none_iff] at h
    subst h
    simp
  | some y =>
    obtain ⟨init, rfl⟩ := List.getLast?_eq_some_iff.1 h
    simp only [Bool.and_eq_true, beq_iff_eq, sameRow_iff]
    constructor
    · rintro ⟨h1, h2⟩; exact ⟨init, y, rfl, h1, h2⟩
    · rintro ⟨i2, y2, e, h1, h2⟩
      obtain ⟨_, e2⟩ := List.append_inj' e rfl
      cases e2
      exact ⟨h1, h2⟩
theorem setHi_last {init : List Piece} {y : Piece} {h : Int} : setHi (init ++ [y]) h = init ++ [{ y with hi := h }] := by
  unfold setHi
  rw [List.getLast?_concat]
  simp

/-- One step: still right, and nothing else at any time. -/
theorem coStep_keeps {out rest : List Piece} {x : Piece} (h : right (out ++ x :: rest) = true) : right (coStep out x ++ rest) = true ∧ ∀ t, at' (coStep out x ++ rest) t = at' (out ++ x :: rest) t := by
  unfold coStep
  cases ht : touches out x with
  | false =>
    rw [if_neg (by simp), List.append_assoc]
    exact ⟨h, fun _ => rfl⟩
  | true =>
    rw [if_pos rfl]
    obtain ⟨init, y, rfl, e1, e2⟩ := touches_iff.1 ht
    rw [setHi_last]
    have hR := right_iff.1 h
    have hok := hR.1
    have hp := hR.2
    simp only [List.append_assoc, List.cons_append, List.nil_append] at hok hp h ⊢
    have hy := hok y (by simp)
    have hx := hok x (by simp)
    have hR' : right (init ++ { y with hi := x.hi } :: rest) = true := by
      rw [right_iff]
      constructor
      · intro p hp'
        rcases List.mem_append.1 hp' with hp' | hp'
        · exact hok p (by simp [hp'])
        · rcases List.mem_cons.1 hp' with rfl | hp'
          · have a := hy.1
            have b := hx.1
            exact ⟨⟨a.1, by show y.lo < x.hi; omega, b.2.2⟩, hy.2⟩
          · exact hok p (by simp [hp'])
      · rw [List.pairwise_append, List.pairwise_cons, List.pairwise_cons] at hp
        rw [List.pairwise_append, List.pairwise_cons]
        obtain ⟨p1, ⟨p2, p3, p4⟩, p5⟩ := hp
        exact ⟨p1, ⟨fun z hz => p3 z hz, p4⟩, fun a ha b hb => by
          rcases List.mem_cons.1 hb with rfl | hb
          · exact p5 a ha y (by simp)
          · exact p5 a ha b (by simp [hb])⟩
    refine ⟨hR', fun t => at_ext fun r => ?_⟩
    rw [at_iff hR', at_iff h]
    constructor
    · rintro ⟨p, hp', hpt, rfl⟩
      rcases List.mem_append.1 hp' with hp' | hp'
      · exact ⟨p, by simp [hp'], hpt, rfl⟩
      · rcases List.mem_cons.1 hp' with rfl | hp'
        · rcases Int.lt_or_le t y.hi with hlt | hge
          · exact ⟨y, by simp, ⟨hpt.1, hlt⟩, rfl⟩
          · exact ⟨x, by simp, ⟨by omega, hpt.2⟩, e2.symm⟩
        · exact ⟨p, by simp [hp'], hpt, rfl⟩
    · rintro ⟨p, hp', hpt, rfl⟩
      have a := hy.1
      have b := hx.1
      rcases List.mem_append.1 hp' with hp' | hp'
      · exact ⟨p, by simp [hp'], hpt, rfl⟩
      · rcases List.mem_cons.1 hp' with rfl | hp'
        · exact ⟨{ p with hi := x.hi }, by simp, ⟨hpt.1, by show t < x.hi; omega⟩, rfl⟩
        · rcases List.mem_cons.1 hp' with rfl | hp'
          · exact ⟨{ y with hi := p.hi }, by simp, ⟨by show y.lo ≤ t; omega, hpt.2⟩, e2⟩
          · exact ⟨p, by simp [hp'], hpt, rfl⟩
theorem co_keeps : ∀ (rest out : List Piece), right (out ++ rest) = true → right (rest.foldl coStep out) = true ∧ ∀ t, at' (rest.foldl coStep out) t = at' (out ++ rest) t
  | [], out, h => by
    rw [List.append_nil] at h ⊢
    exact ⟨h, fun _ => rfl⟩
  | x :: rest, out, h => by
    obtain ⟨h1, h2⟩ := coStep_keeps h
    obtain ⟨h3, h4⟩ := co_keeps rest (coStep out x) h1
    exact ⟨h3, fun t => (h4 t).trans (h2 t)⟩
theorem co_right {ps : List Piece} (h : right ps = true) : right (co ps) = true := (co_keeps ps [] h).1
theorem co_at {ps : List Piece} (h : right ps = true) (t : Int) : at' (co ps) t = at' ps t := (co_keeps ps [] h).2 t

/-- No two neighbours that could be one. -/
def NT (l : List Piece) : Prop := ∀ (i : Nat) (a b : Piece), l[i]? = some a → l[i + 1]? = some b → ¬ (a.hi = b.lo ∧ a.row = b.row)
theorem NT_step {out : List Piece} {x : Piece} (h : NT out) : NT (coStep out x) := by
  unfold coStep
  cases ht : touches out x with
  | false =>
    rw [if_neg (by simp)]
    intro i a b ha hb hc
    rcases Nat.lt_or_ge (i + 1) out.length with hlt | hge
    · rw [List.getElem?_append_left (by omega)] at ha
      rw [List.getElem?_append_left hlt] at hb
      exact h i a b ha hb hc
    · rw [List.getElem?_append_right hge] at hb
      have hi : i + 1 = out.length := by
        rcases Nat.eq_zero_or_pos (i + 1 - out.length) with h0 | h0
        · omega
        · rw [List.getElem?_eq_none (by simp; omega)] at hb; cases hb
      rw [hi, Nat.sub_self] at hb
      cases hb
      rw [List.getElem?_append_left (by omega)] at ha
      have : touches out x = true := by
        unfold touches
        have : out.getLast? = some a := by rw [List.getLast?_eq_getElem?, ← hi]; exact ha
        rw [this]
        simp only [Bool.and_eq_true, beq_iff_eq, sameRow_iff]
        exact hc
      rw [this] at ht
      cases ht
  | true =>
    rw [if_pos rfl]
    obtain ⟨init, y, rfl, _, _⟩ := touches_iff.1 ht
    rw [setHi_last]
    intro i a b ha hb hc
    have hlen : i + 1 < (init ++ [({ y with hi := x.hi } : Piece)]).length := (List.getElem?_eq_some_iff.1 hb).1
    rw [List.length_append, List.length_singleton] at hlen
    rw [List.getElem?_append_left (by omega)] at ha
    have ha' : (init ++ [y])[i]? = some a := by rw [List.getElem?_append_left (by omega)]; exact ha
    rcases Nat.lt_or_ge (i + 1) init.length with hlt | hge
    · rw [List.getElem?_append_left hlt] at hb
      exact h i a b ha' (by rw [List.getElem?_append_left hlt]; exact hb) hc
    · rw [List.getElem?_append_right hge] at hb
      have e : i + 1 - init.length = 0 := by omega
      rw [e] at hb
      cases hb
      exact h i a y ha' (by rw [List.getElem?_append_right hge, e]; rfl) hc
theorem co_NT (rest : List Piece) : ∀ out : List Piece, NT out → NT (rest.foldl coStep out) := by
  induction rest with
  | nil => intro out h; exact h
  | cons x r ih => intro out h; exact ih _ (NT_step h)
theorem co_noTouch (ps : List Piece) : NT (co ps) := co_NT ps [] (fun i a b h => by simp at h)
theorem co_same : ∀ (rest out : List Piece), NT (out ++ rest) → rest.foldl coStep out = out ++ rest
  | [], out, _ => by simp
  | x :: rest, out, h => by
    have ht : touches out x = false := by
      rw [Bool.eq_false_iff]
      intro ht
      obtain ⟨init, y, rfl, e1, e2⟩ := touches_iff.1 ht
      refine h init.length y x ?_ ?_ ⟨e1, e2⟩
      · simp
      · simp
    have hs : coStep out x = out ++ [x] := by unfold coStep; rw [ht]; rfl
    rw [List.foldl_cons, hs, co_same rest (out ++ [x]) (by simpa using h)]
    simp
theorem co_twice (ps : List Piece) : co (co ps) = co ps := by
  have := co_same (co ps) [] (co_noTouch ps)
  simpa [co] using this
end Go.Proofs
