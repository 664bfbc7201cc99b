/-
  Pieces: plain laws: coalesced.
-/
import Derived.Test.YtgpmdeembgohdaaPwLb
namespace Go.Proofs
open Go.PW

theorem touches_iff {out : List Piece} {x : Piece} : touches out x = true ↔ ∃ init y, out = init ++ [y] ∧ y.hi = x.lo ∧ y.row = x.row := by
  unfold touches
  cases h : out.getLast? with
  | none =>
    rw [List.getLast?_eq_none_iff] at h
    subst h
    simp
  | some y =>
    obtain ⟨init, rfl⟩ := List.getLast?_eq_some_iff.1 h
    simp only [Bool.and_eq_true, beq_iff_eq, sameRow_iff]
    constructor
    · rintro ⟨h1, h2⟩; exact ⟨init, y, rfl, h1, h2⟩
    · rintro ⟨i2, y2, e, h1, h2⟩
      obtain ⟨_, e2⟩ := List.append_inj' e rfl
      cases e2
      exact ⟨h1, h2⟩
theorem setHi_last {init : List Piece} {y : Piece} {h : Int} : setHi (init ++ [y]) h = init ++ [{ y with hi := h }] := by
  unfold setHi
  rw [List.getLast?_concat]
  simp

/-- One step: still right, and nothing else at any time. -/
theorem coStep_keeps {out rest : List Piece} {x : Piece} (h : right (out ++ x :: rest) = true) : right (coStep out x ++ rest) = true ∧ ∀ t, at' (coStep out x ++ rest) t = at' (out ++ x :: rest) t := by
  unfold coStep
  cases ht : touches out x with
  | false =>
    rw [if_neg (by simp), List.append_assoc]
    exact ⟨h, fun _ => rfl⟩
  | true =>
    rw [if_pos rfl]
    obtain ⟨init, y, rfl, e1, e2⟩ := touches_iff.1 ht
    rw [setHi_last]
    have hR := right_iff.1 h
    have hok := hR.1
    have hp := hR.2
    simp only [List.append_assoc, List.cons_append, List.nil_append] at hok hp h ⊢
    have hy := hok y (by simp)
    have hx := hok x (by simp)
    have hR' : right (init ++ { y with hi := x.hi } :: rest) = true := by
      rw [right_iff]
      constructor
      · intro p hp'
        rcases List.mem_append.1 hp' with hp' | hp'
        · exact hok p (by simp [hp'])
        · rcases List.mem_cons.1 hp' with rfl | hp'
          · have a := hy.1
            have b := hx.1
            exact ⟨⟨a.1, by show y.lo < x.hi; omega, b.2.2⟩, hy.2⟩
          · exact hok p (by simp [hp'])
      · rw [List.pairwise_append, List.pairwise_cons, List.pairwise_cons] at hp
        rw [List.pairwise_append, List.pairwise_cons]
        obtain ⟨p1, ⟨p2, p3, p4⟩, p5⟩ := hp
        exact ⟨p1, ⟨fun z hz => p3 z hz, p4⟩, fun a ha b hb => by
          rcases List.mem_cons.1 hb with rfl | hb
          · exact p5 a ha y (by simp)
          · exact p5 a ha b (by simp [hb])⟩
    refine ⟨hR', fun t => at_ext fun r => ?_⟩
    rw [at_iff hR', at_iff h]
    constructor
    · rintro ⟨p, hp', hpt, rfl⟩
      rcases List.mem_append.1 hp' with hp' | hp'
      · exact ⟨p, by simp [hp'], hpt, rfl⟩
      · rcases List.mem_cons.1 hp' with rfl | hp'
        · rcases Int.lt_or_le t y.hi with hlt | hge
          · exact ⟨y, by simp, ⟨hpt.1, hlt⟩, rfl⟩
          · exact ⟨x, by simp, ⟨by omega, hpt.2⟩, e2.symm⟩
        · exact ⟨p, by simp [hp'], hpt, rfl⟩
    · rintro ⟨p, hp', hpt, rfl⟩
      have a := hy.1
      have b := hx.1
      rcases List.mem_append.1 hp' with hp' | hp'
      · exact ⟨p, by simp [hp'], hpt, rfl⟩
      · rcases List.mem_cons.1 hp' with rfl | hp'
        · exact ⟨{ p with hi := x.hi }, by simp, ⟨hpt.1, by show t < x.hi; omega⟩, rfl⟩
        · rcases List.mem_cons.1 hp' with rfl | hp'
          · exact ⟨{ y with hi := p.hi }, by simp, ⟨by show y.lo ≤ t; omega, hpt.2⟩, e2⟩
          · exact ⟨p, by simp [hp'], hpt, rfl⟩
theorem co_keeps : ∀ (rest out : List Piece), right (out ++ rest) = true → right (rest.foldl coStep out) = true ∧ ∀ t, at' (rest.foldl coStep out) t = at' (out ++ rest) t
  | [], out, h => by
    rw [List.append_nil] at h ⊢
    exact ⟨h, fun _ => rfl⟩
  | x :: rest, out, h => by
    obtain ⟨h1, h2⟩ := coStep_keeps h
    obtain ⟨h3, h4⟩ := co_keeps rest (coStep out x) h1
    exact ⟨h3, fun t => (h4 t).trans (h2 t)⟩
theorem co_right {ps : List Piece} (h : right ps = true) : right (co ps) = true := (co_keeps ps [] h).1
theorem co_at {ps : List Piece} (h : right ps = true) (t : Int) : at' (co ps) t = at' ps t := (co_keeps ps [] h).2 t

/-- No two neighbours that could be one. -/
def NT (l : List Piece) : Prop := ∀ (i : Nat) (a b : Piece), l[i]? = some a → l[i + 1]? = some b → ¬ (a.hi = b.lo ∧ a.row = b.row)
theorem NT_step {out : List Piece} {x : Piece} (h : NT out) : NT (coStep out x) := by
  unfold coStep
  cases ht : touches out x with
  | false =>
    rw [if_neg (by simp)]
    intro i a b ha hb hc
    rcases Nat.lt_or_ge (i + 1) out.length with hlt | hge
    · rw [List.getElem?_append_left (by omega)] at ha
      rw [List.getElem?_append_left hlt] at hb
      exact h i a b ha hb hc
    · rw [List.getElem?_append_right hge] at hb
      have hi : i + 1 = out.length := by
        rcases Nat.eq_zero_or_pos (i + 1 - out.length) with h0 | h0
        · omega
        · rw [List.getElem?_eq_none (by simp; omega)] at hb; cases hb
      rw [hi, Nat.sub_self] at hb
      cases hb
      rw [List.getElem?_append_left (by omega)] at ha
      have : touches out x = true := by
        unfold touches
        have : out.getLast? = some a := by rw [List.getLast?_eq_getElem?, ← hi]; exact ha
        rw [this]
        simp only [Bool.and_eq_true, beq_iff_eq, sameRow_iff]
        exact hc
      rw [this] at ht
      cases ht
  | true =>
    rw [if_pos rfl]
    obtain ⟨init, y, rfl, _, _⟩ := touches_iff.1 ht
    rw [setHi_last]
    intro i a b ha hb hc
    have hlen : i + 1 < (init ++ [({ y with hi := x.hi } : Piece)]).length := (List.getElem?_eq_some_iff.1 hb).1
    rw [List.length_append, List.length_singleton] at hlen
    rw [List.getElem?_append_left (by omega)] at ha
    have ha' : (init ++ [y])[i]? = some a := by rw [List.getElem?_append_left (by omega)]; exact ha
    rcases Nat.lt_or_ge (i + 1) init.length with hlt | hge
    · rw [List.getElem?_append_left hlt] at hb
      exact h i a b ha' (by rw [List.getElem?_append_left hlt]; exact hb) hc
    · rw [List.getElem?_append_right hge] at hb
      have e : i + 1 - init.length = 0 := by omega
      rw [e] at hb
      cases hb
      exact h i a y ha' (by rw [List.getElem?_append_right hge, e]; rfl) hc
theorem co_NT (rest : List Piece) : ∀ out : List Piece, NT out → NT (rest.foldl coStep out) := by
  induction rest with
  | nil => intro out h; exact h
  | cons x r ih => intro out h; exact ih _ (NT_step h)
theorem co_noTouch (ps : List Piece) : NT (co ps) := co_NT ps [] (fun i a b h => by simp at h)
theorem co_same : ∀ (rest out : List Piece), NT (out ++ rest) → rest.foldl coStep out = out ++ rest
  | [], out, _ => by simp
  | x :: rest, out, h => by
    have ht : touches out x = false := by
      rw [Bool.eq_false_iff]
      intro ht
      obtain ⟨init, y, rfl, e1, e2⟩ := touches_iff.1 ht
      refine h init.length y x ?_ ?_ ⟨e1, e2⟩
      · simp
      · simp
    have hs : coStep out x = out ++ [x] := by unfold coStep; rw [ht]; rfl
    rw [List.foldl_cons, hs, co_same rest (out ++ [x]) (by simpa using h)]
    simp
theorem co_twice (ps : List Piece) : co (co ps) = co ps := by
  have := co_same (co ps) [] (co_noTouch ps)
  simpa [co] using this
end Go.Proofs
