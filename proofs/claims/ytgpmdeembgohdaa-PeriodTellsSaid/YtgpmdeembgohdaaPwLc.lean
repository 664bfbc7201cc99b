/-
  Values: plain laws: the document's test of a value is the program's.
-/
import Derived.Test.YtgpmdeembgohdaaPwZ
namespace Go.Proofs
open Go.PW

/-! Floats: what a comparison says of the bits. -/
theorem order_self {b : Nat} : (FloatKind.f64.format.order b b != some .eq) = decide (9218868437227405312 < b % 9223372036854775808) := by
  show (((Ieee.double.read b).order (Ieee.double.read b)) != some .eq) = _
  have e1 : Ieee.double.signWeight = 9223372036854775808 := rfl
  have e2 : Ieee.double.binade = 4503599627370496 := rfl
  have e3 : Ieee.double.infRung = 9218868437227405312 := rfl
  unfold Ieee.Format.read
  simp only [e1, e2, e3]
  generalize b % 9223372036854775808 = r
  split
  · rename_i h
    have : ¬ 9218868437227405312 < r := by omega
    simp [Ieee.Datum.order, this]
  · split
    · rename_i h
      have : ¬ 9218868437227405312 < r := by omega
      simp [Ieee.Datum.order, this]
    · split
      · rename_i h
        have : ¬ 9218868437227405312 < r := by omega
        simp [Ieee.Datum.order, this]
      · have : 9218868437227405312 < r := by omega
        simp [Ieee.Datum.order, this]

theorem signed_zero {s : Bool} {m k : Nat} : Ieee.signed s m k = 0 ↔ m = 0 := by
  unfold Ieee.signed
  have : m <<< k = 0 ↔ m = 0 := by rw [Nat.shiftLeft_eq, Nat.mul_eq_zero]; simp
  cases s <;> simp <;> omega

theorem order_zero {b : Nat} : (FloatKind.f64.format.order b 0 == some .eq) = decide (b % 9223372036854775808 = 0) := by
  show (((Ieee.double.read b).order (Ieee.double.read 0)) == some .eq) = _
  have e1 : Ieee.double.signWeight = 9223372036854775808 := rfl
  have e2 : Ieee.double.binade = 4503599627370496 := rfl
  have e3 : Ieee.double.infRung = 9218868437227405312 := rfl
  have h0 : Ieee.double.read 0 = .number false 0 Ieee.double.leastPlace := rfl
  rw [h0]
  unfold Ieee.Format.read
  simp only [e1, e2, e3]
  generalize b % 9223372036854775808 = r
  have key : ∀ (s : Bool) (m : Nat) (i : Int), ((Ieee.Datum.number s m i).order (.number false 0 Ieee.double.leastPlace) == some .eq) = decide (m = 0) := by
    intro s m i
    simp only [Ieee.Datum.order]
    have z : ∀ k, Ieee.signed false 0 k = 0 := fun k => signed_zero.2 rfl
    rw [z]
    rw [Bool.eq_iff_iff, beq_iff_eq, decide_eq_true_eq, Option.some.injEq]
    rw [Std.compare_eq_iff_eq]
    exact signed_zero
  split
  · exact key _ _ _
  · split
    · rename_i h h2
      rw [key]
      rw [Bool.eq_iff_iff, decide_eq_true_eq, decide_eq_true_eq]
      omega
    · have hne : ¬ r = 0 := by omega
      split
      · cases (b / 9223372036854775808 % 2 == 1) <;> simp [Ieee.Datum.order, hne]
      · simp [Ieee.Datum.order, hne]

def canonI (b : Int) : Int := if decide (9218868437227405312 < iAnd .u64 b 9223372036854775807) = true then 9221120237041090560 else if (iAnd .u64 b 9223372036854775807 == 0) = true then 0 else b

theorem iAnd_mask {b : Int} (h0 : 0 ≤ b) (h1 : b < 18446744073709551616) : iAnd .u64 b 9223372036854775807 = ((b.toNat % 9223372036854775808 : Nat) : Int) := by
  obtain ⟨n, rfl⟩ := Int.eq_ofNat_of_zero_le h0
  have hn : n < 18446744073709551616 := by omega
  unfold iAnd
  have hb : IntKind.u64.bits = 64 := rfl
  rw [hb]
  have e1 : (BitVec.ofInt 64 ((n : Nat) : Int) &&& BitVec.ofInt 64 9223372036854775807).toNat = n &&& 9223372036854775807 := by
    rw [BitVec.toNat_and]
    have a1 : (BitVec.ofInt 64 ((n : Nat) : Int)).toNat = n := by
      rw [BitVec.toNat_ofInt]
      have : ((n : Nat) : Int) % ((2 ^ 64 : Nat) : Int) = ((n % 2 ^ 64 : Nat) : Int) := by omega
      rw [this]
      simp
      omega
    have a2 : (BitVec.ofInt 64 9223372036854775807).toNat = 9223372036854775807 := by decide
    rw [a1, a2]
  rw [e1]
  have e2 : n &&& 9223372036854775807 = n % 9223372036854775808 := by
    have := Nat.and_two_pow_sub_one_eq_mod n 63
    simpa using this
  rw [e2]
  have hlt : n % 9223372036854775808 < 9223372036854775808 := Nat.mod_lt _ (by decide)
  rw [Go.IntWalk.u64_in _ (by omega), Int.toNat_natCast]

theorem canon_eq {b : Int} (h : (Lit.int .u64 b).wf = true) : canonF b.toNat = canonI b := by
  have hw : 0 ≤ b ∧ b < 18446744073709551616 := by
    simp only [Lit.wf, Bool.and_eq_true, decide_eq_true_eq] at h
    have e1 : IntKind.u64.min = 0 := rfl
    have e2 : IntKind.u64.max = 18446744073709551615 := rfl
    rw [e1, e2] at h
    omega
  unfold canonF isNaN canonI
  rw [order_self, order_zero, iAnd_mask hw.1 hw.2]
  simp only [decide_eq_true_eq]
  generalize b.toNat % 9223372036854775808 = r
  have hb : ((b.toNat : Nat) : Int) = b := by omega
  by_cases h1 : 9218868437227405312 < r
  · have h1' : (9218868437227405312 : Int) < ((r : Nat) : Int) := by omega
    rw [if_pos h1, if_pos h1']
  · have h1' : ¬ (9218868437227405312 : Int) < ((r : Nat) : Int) := by omega
    rw [if_neg h1, if_neg h1']
    by_cases h2 : r = 0
    · subst h2
      rfl
    · have h2' : ¬ (((r : Nat) : Int) == 0) = true := by rw [beq_iff_eq]; omega
      rw [if_neg h2, if_neg h2', hb]

/-- The document's test. -/
def Val.rright (v : Val) : Bool :=
  if (v.kind == 0) = true then (v.num == 0) && (v.bits == 0) && (v.str.toList == (⟨#[]⟩ : ByteArray).toList)
  else if (v.kind == 1) = true then ((v.num == 0) || (v.num == 1)) && (v.bits == 0) && (v.str.toList == (⟨#[]⟩ : ByteArray).toList)
  else if (v.kind == 2) = true then (v.bits == 0) && (v.str.toList == (⟨#[]⟩ : ByteArray).toList)
  else if (v.kind == 3) = true then (v.num == 0) && (v.str.toList == (⟨#[]⟩ : ByteArray).toList) && (canonI v.bits == v.bits)
  else if (v.kind == 4) = true then (v.num == 0) && (v.bits == 0) && decide ((v.str.size : Int) ≤ 4096)
  else if (v.kind == 5) = true then (v.num == 0) && (v.bits == 0) && decide ((v.str.size : Int) ≤ 4096)
  else false

theorem iAnd_one {n : Int} : iAnd .i64 n 1 = 0 ∨ iAnd .i64 n 1 = 1 := by
  unfold iAnd
  have hb : IntKind.i64.bits = 64 := rfl
  rw [hb, BitVec.toNat_and]
  have a2 : (BitVec.ofInt 64 1).toNat = 1 := by decide
  rw [a2, Nat.and_one_is_mod]
  have : (BitVec.ofInt 64 n).toNat % 2 < 2 := Nat.mod_lt _ (by decide)
  generalize (BitVec.ofInt 64 n).toNat % 2 = r at this
  have : r = 0 ∨ r = 1 := by omega
  rcases this with rfl | rfl
  · exact .inl rfl
  · exact .inr rfl

theorem empty_size {s : ByteArray} (h : s.toList = (⟨#[]⟩ : ByteArray).toList) : (s.size : Int) ≤ 4096 := by
  rw [bytes_same] at h
  subst h
  decide

theorem rright_eq {v : Val} (h : v.ok) : v.rright = v.right := by
  obtain ⟨k, n, b, s⟩ := v
  obtain ⟨h1, h2, h3, h4⟩ := h
  simp only at h1 h2 h3 h4
  unfold Val.rright Val.right Val.canon
  simp only
  rw [Bool.eq_iff_iff]
  have hc := canon_eq h3
  split
  · rename_i hk
    simp only [Val.same, Bool.and_eq_true, beq_iff_eq, decide_eq_true_eq] at hk ⊢
    constructor
    · rintro ⟨⟨e1, e2⟩, e3⟩; exact ⟨⟨trivial, e1, e2, e3⟩, empty_size e3⟩
    · rintro ⟨⟨_, e1, e2, e3⟩, _⟩; exact ⟨⟨e1, e2⟩, e3⟩
  · split
    · rename_i hk
      simp only [Val.same, Bool.and_eq_true, Bool.or_eq_true, beq_iff_eq, decide_eq_true_eq] at hk ⊢
      constructor
      · rintro ⟨⟨e1, e2⟩, e3⟩
        refine ⟨⟨trivial, ?_, e2, e3⟩, empty_size e3⟩
        rcases e1 with rfl | rfl <;> rfl
      · rintro ⟨⟨_, e1, e2, e3⟩, _⟩
        refine ⟨⟨?_, e2⟩, e3⟩
        rcases iAnd_one (n := n) with h | h
        · exact .inl (e1.trans h)
        · exact .inr (e1.trans h)
    · split
      · rename_i hk
        simp only [Val.same, Bool.and_eq_true, beq_iff_eq, decide_eq_true_eq] at hk ⊢
        constructor
        · rintro ⟨e2, e3⟩; exact ⟨⟨trivial, trivial, e2, e3⟩, empty_size e3⟩
        · rintro ⟨⟨_, _, e2, e3⟩, _⟩; exact ⟨e2, e3⟩
      · split
        · rename_i hk
          simp only [Val.same, Bool.and_eq_true, beq_iff_eq, decide_eq_true_eq, hc] at hk ⊢
          constructor
          · rintro ⟨⟨e1, e3⟩, e2⟩; exact ⟨⟨trivial, e1, e2.symm, e3⟩, empty_size e3⟩
          · rintro ⟨⟨_, e1, e2, e3⟩, _⟩; exact ⟨⟨e1, e3⟩, e2.symm⟩
        · split
          · rename_i hk
            simp only [Val.same, Bool.and_eq_true, beq_iff_eq, decide_eq_true_eq] at hk ⊢
            constructor
            · rintro ⟨⟨e1, e2⟩, e3⟩; exact ⟨⟨trivial, e1, e2, trivial⟩, e3⟩
            · rintro ⟨⟨_, e1, e2, _⟩, e3⟩; exact ⟨⟨e1, e2⟩, e3⟩
          · split
            · rename_i hk
              simp only [Val.same, Bool.and_eq_true, beq_iff_eq, decide_eq_true_eq] at hk ⊢
              constructor
              · rintro ⟨⟨e1, e2⟩, e3⟩; exact ⟨⟨trivial, e1, e2, trivial⟩, e3⟩
              · rintro ⟨⟨_, e1, e2, _⟩, e3⟩; exact ⟨⟨e1, e2⟩, e3⟩
            · simp
end Go.Proofs
