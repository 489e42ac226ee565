/- Part 7 of the proof. -/
import Derived.Test.YtmfohnchnbgbaaaGreatKnM01
/- The arithmetic under a division of two words by one (Knuth's), with plain numbers. -/
namespace Go.Proofs.YtmfohnchnbgbaaaGreat

/-- A product of a number of two halves. -/
theorem half_split (q y1 y0 : Nat) : q * (4294967296 * y1 + y0) = 4294967296 * (q * y1) + q * y0 := by
  rw [Nat.mul_add, Nat.mul_left_comm]

/-- One digit's trial: q is at least the digit, and what is left over of un is rh. -/
structure Trial (un u1 y1 y0 q rh : Nat) : Prop where
  left : q * y1 + rh = un
  high : 4294967296 * un + u1 < (q + 1) * (4294967296 * y1 + y0)
/-- The bounds at hand. -/
structure DigB (un u1 y1 y0 : Nat) : Prop where
  y1l : 2147483648 ≤ y1
  y1h : y1 < 4294967296
  y0h : y0 < 4294967296
  u1h : u1 < 4294967296
  lt : un < 4294967296 * y1 + y0

section
variable {un u1 y1 y0 q rh : Nat}
theorem trial_start (B : DigB un u1 y1 y0) : Trial un u1 y1 y0 (un / y1) (un % y1) := by
  have hy : 0 < y1 := by have := B.y1l; omega
  have h1 : un / y1 * y1 + un % y1 = un := by rw [Nat.mul_comm]; exact Nat.div_add_mod un y1
  have h2 := Nat.mod_lt un hy
  refine ⟨h1, ?_⟩
  rw [half_split, Nat.add_mul, Nat.one_mul]
  have h3 := B.u1h
  generalize (un / y1 + 1) * y0 = z
  generalize un / y1 * y1 = p at *
  generalize un % y1 = r at *
  omega
/-- q is never far off. -/
theorem trial_le (B : DigB un u1 y1 y0) (T : Trial un u1 y1 y0 q rh) : q ≤ 4294967297 := by
  have h1 := T.left
  have h2 := B.lt
  have h3 := B.y0h
  have h4 := B.y1l
  rcases Nat.lt_or_ge q 4294967298 with h | h
  · omega
  · exfalso
    have h5 : 4294967298 * y1 ≤ q * y1 := Nat.mul_le_mul_right _ h
    generalize q * y1 = p at *
    omega
theorem small_mul {a b : Nat} (ha : a ≤ 4294967297) (hb : b < 4294967296) : a * b ≤ 18446744073709551615 := by
  have h : a * b ≤ 4294967297 * 4294967295 := Nat.mul_le_mul ha (by omega)
  generalize a * b = p at *
  omega
theorem trial_big (B : DigB un u1 y1 y0) (T : Trial un u1 y1 y0 q rh) (h : 4294967296 ≤ q ∨ 4294967296 * rh + u1 < q * y0) : 4294967296 * un + u1 < q * (4294967296 * y1 + y0) := by
  have h1 := T.left
  have h2 := B.lt
  have h3 := B.u1h
  rcases h with h | h
  · have h5 : 4294967296 * (4294967296 * y1 + y0) ≤ q * (4294967296 * y1 + y0) := Nat.mul_le_mul_right _ h
    generalize q * (4294967296 * y1 + y0) = p at *
    omega
  · rw [half_split]
    generalize q * y1 = p at *
    generalize q * y0 = z at *
    omega
theorem trial_step (B : DigB un u1 y1 y0) (T : Trial un u1 y1 y0 q rh) (h : 4294967296 ≤ q ∨ 4294967296 * rh + u1 < q * y0) : 1 ≤ q ∧ Trial un u1 y1 y0 (q - 1) (rh + y1) := by
  have hb := trial_big B T h
  have hq : 1 ≤ q := by
    rcases Nat.eq_zero_or_pos q with h0 | h0
    · subst h0
      rw [Nat.zero_mul] at hb
      exact absurd hb (Nat.not_lt_zero _)
    · exact h0
  refine ⟨hq, ?_, ?_⟩
  · have h1 := T.left
    obtain ⟨p, rfl⟩ : ∃ p, q = p + 1 := ⟨q - 1, by omega⟩
    rw [Nat.add_sub_cancel]
    rw [Nat.add_mul, Nat.one_mul] at h1
    generalize p * y1 = z at *
    omega
  · rw [Nat.sub_add_cancel hq]
    exact hb
/-- The digit is found. -/
theorem trial_end (T : Trial un u1 y1 y0 q rh) (h : (q < 4294967296 ∧ q * y0 ≤ 4294967296 * rh + u1) ∨ (q ≤ 4294967296 ∧ 4294967296 ≤ rh ∧ y0 < 4294967296)) :
    q * (4294967296 * y1 + y0) ≤ 4294967296 * un + u1 ∧ 4294967296 * un + u1 - q * (4294967296 * y1 + y0) < 4294967296 * y1 + y0 := by
  have h1 := T.left
  have h2 := T.high
  have h3 : q * (4294967296 * y1 + y0) ≤ 4294967296 * un + u1 := by
    rw [half_split]
    rcases h with ⟨_, h⟩ | ⟨ha, hb, hc⟩
    · generalize q * y1 = p at *
      generalize q * y0 = z at *
      omega
    · have h5 : q * y0 ≤ 4294967296 * 4294967295 := Nat.mul_le_mul ha (by omega)
      generalize q * y1 = p at *
      generalize q * y0 = z at *
      omega
  refine ⟨h3, ?_⟩
  rw [Nat.add_mul, Nat.one_mul] at h2
  generalize q * (4294967296 * y1 + y0) = p at *
  omega
end

/-- Both digits. -/
theorem two_digits {un u1 u0 y q1 q0 r1 : Nat} (hr : r1 = 4294967296 * un + u1 - q1 * y) (h1 : q1 * y ≤ 4294967296 * un + u1) (h0 : q0 * y ≤ 4294967296 * r1 + u0) (h0' : 4294967296 * r1 + u0 - q0 * y < y) :
    (18446744073709551616 * un + (4294967296 * u1 + u0)) / y = 4294967296 * q1 + q0 ∧ (18446744073709551616 * un + (4294967296 * u1 + u0)) % y = 4294967296 * r1 + u0 - q0 * y := by
  have hy : 0 < y := Nat.lt_of_le_of_lt (Nat.zero_le _) h0'
  have e : 18446744073709551616 * un + (4294967296 * u1 + u0) = (4294967296 * r1 + u0 - q0 * y) + (4294967296 * q1 + q0) * y := by
    rw [Nat.add_mul, Nat.mul_assoc]
    generalize q1 * y = a at *
    generalize q0 * y = b at *
    omega
  rw [e]
  constructor
  · rw [Nat.add_mul_div_right _ _ hy, Nat.div_eq_of_lt h0', Nat.zero_add]
  · rw [Nat.add_mul_mod_self_right, Nat.mod_eq_of_lt h0']
/-- Back from the shifted numbers. -/
theorem unshift {u y k : Nat} (hk : 0 < k) : (u * k) / (y * k) = u / y ∧ (u * k) % (y * k) / k = u % y := by
  refine ⟨Nat.mul_div_mul_right _ _ hk, ?_⟩
  rw [Nat.mul_mod_mul_right, Nat.mul_div_cancel _ hk]
end Go.Proofs.YtmfohnchnbgbaaaGreat
