/- Part 6 of the proof. -/
import Derived.BigQuiet
import Derived.Deep.QuietTactic
import Derived.Deep.CutRange
import Derived.Deep.CutBlock
import Derived.Test.YtmfohnchnbgbaaaGreatTcM01
import Derived.Test.YtmfohnchnbgbaaaGreatTcM02
import Derived.Test.YtmfohnchnbgbaaaGreatTcM05
/- The arithmetic under a division of two words by one (Knuth's), with plain numbers. -/
namespace Go.Proofs.YtmfohnchnbgbaaaGreat

/-- A product of a number of two halves. -/
theorem half_split (q y1 y0 : Nat) : q * (4294967296 * y1 + y0) = 4294967296 * (q * y1) + q * y0 := by
  rw [Nat.mul_add, Nat.mul_left_comm]

/-- One digit's trial: q is at least the digit, and what is left over of un is rh. -/
structure Trial (un u1 y1 y0 q rh : Nat) : Prop where
  left : q * y1 + rh = un
  high : 4294967296 * un + u1 < (q + 1) * (4294967296 * y1 + y0)
/-- The bounds at hand. -/
structure DigB (un u1 y1 y0 : Nat) : Prop where
  y1l : 2147483648 ≤ y1
  y1h : y1 < 4294967296
  y0h : y0 < 4294967296
  u1h : u1 < 4294967296
  lt : un < 4294967296 * y1 + y0

section
variable {un u1 y1 y0 q rh : Nat}
theorem trial_start (B : DigB un u1 y1 y0) : Trial un u1 y1 y0 (un / y1) (un % y1) := by
  have hy : 0 < y1 := by have := B.y1l; omega
  have h1 : un / y1 * y1 + un % y1 = un := by rw [Nat.mul_comm]; exact Nat.div_add_mod un y1
  have h2 := Nat.mod_lt un hy
  refine ⟨h1, ?_⟩
  rw [half_split, Nat.add_mul, Nat.one_mul]
  have h3 := B.u1h
  generalize (un / y1 + 1) * y0 = z
  generalize un / y1 * y1 = p at *
  generalize un % y1 = r at *
  omega
/-- q is never far off. -/
theorem trial_le (B : DigB un u1 y1 y0) (T : Trial un u1 y1 y0 q rh) : q ≤ 4294967297 := by
  have h1 := T.left
  have h2 := B.lt
  have h3 := B.y0h
  have h4 := B.y1l
  rcases Nat.lt_or_ge q 4294967298 with h | h
  · omega
  · exfalso
    have h5 : 4294967298 * y1 ≤ q * y1 := Nat.mul_le_mul_right _ h
    generalize q * y1 = p at *
    omega
theorem small_mul {a b : Nat} (ha : a ≤ 4294967297) (hb : b < 4294967296) : a * b ≤ 18446744073709551615 := by
  have h : a * b ≤ 4294967297 * 4294967295 := Nat.mul_le_mul ha (by omega)
  generalize a * b = p at *
  omega
theorem trial_big (B : DigB un u1 y1 y0) (T : Trial un u1 y1 y0 q rh) (h : 4294967296 ≤ q ∨ 4294967296 * rh + u1 < q * y0) : 4294967296 * un + u1 < q * (4294967296 * y1 + y0) := by
  have h1 := T.left
  have h2 := B.lt
  have h3 := B.u1h
  rcases h with h | h
  · have h5 : 4294967296 * (4294967296 * y1 + y0) ≤ q * (4294967296 * y1 + y0) := Nat.mul_le_mul_right _ h
    generalize q * (4294967296 * y1 + y0) = p at *
    omega
  · rw [half_split]
    generalize q * y1 = p at *
    generalize q * y0 = z at *
    omega
theorem trial_step (B : DigB un u1 y1 y0) (T : Trial un u1 y1 y0 q rh) (h : 4294967296 ≤ q ∨ 4294967296 * rh + u1 < q * y0) : 1 ≤ q ∧ Trial un u1 y1 y0 (q - 1) (rh + y1) := by
  have hb := trial_big B T h
  have hq : 1 ≤ q := by
    rcases Nat.eq_zero_or_pos q with h0 | h0
    · subst h0
      rw [Nat.zero_mul] at hb
      exact absurd hb (Nat.not_lt_zero _)
    · exact h0
  refine ⟨hq, ?_, ?_⟩
  · have h1 := T.left
    obtain ⟨p, rfl⟩ : ∃ p, q = p + 1 := ⟨q - 1, by omega⟩
    rw [Nat.add_sub_cancel]
    rw [Nat.add_mul, Nat.one_mul] at h1
    generalize p * y1 = z at *
    omega
  · rw [Nat.sub_add_cancel hq]
    exact hb
/-- The digit is found. -/
theorem trial_end (T : Trial un u1 y1 y0 q rh) (h : (q < 4294967296 ∧ q * y0 ≤ 4294967296 * rh + u1) ∨ (q ≤ 4294967296 ∧ 4294967296 ≤ rh ∧ y0 < 4294967296)) :
    q * (4294967296 * y1 + y0) ≤ 4294967296 * un + u1 ∧ 4294967296 * un + u1 - q * (4294967296 * y1 + y0) < 4294967296 * y1 + y0 := by
  have h1 := T.left
  have h2 := T.high
  have h3 : q * (4294967296 * y1 + y0) ≤ 4294967296 * un + u1 := by
    rw [half_split]
    rcases h with ⟨_, h⟩ | ⟨ha, hb, hc⟩
    · generalize q * y1 = p at *
      generalize q * y0 = z at *
      omega
    · have h5 : q * y0 ≤ 4294967296 * 4294967295 := Nat.mul_le_mul ha (by omega)
      generalize q * y1 = p at *
      generalize q * y0 = z at *
      omega
  refine ⟨h3, ?_⟩
  rw [Nat.add_mul, Nat.one_mul] at h2
  generalize q * (4294967296 * y1 + y0) = p at *
  omega
end

/-- Both digits. -/
theorem two_digits {un u1 u0 y q1 q0 r1 : Nat} (hr : r1 = 4294967296 * un + u1 - q1 * y) (h1 : q1 * y ≤ 4294967296 * un + u1) (h0 : q0 * y ≤ 4294967296 * r1 + u0) (h0' : 4294967296 * r1 + u0 - q0 * y < y) :
    (18446744073709551616 * un + (4294967296 * u1 + u0)) / y = 4294967296 * q1 + q0 ∧ (18446744073709551616 * un + (4294967296 * u1 + u0)) % y = 4294967296 * r1 + u0 - q0 * y := by
  have hy : 0 < y := Nat.lt_of_le_of_lt (Nat.zero_le _) h0'
  have e : 18446744073709551616 * un + (4294967296 * u1 + u0) = (4294967296 * r1 + u0 - q0 * y) + (4294967296 * q1 + q0) * y := by
    rw [Nat.add_mul, Nat.mul_assoc]
    generalize q1 * y = a at *
    generalize q0 * y = b at *
    omega
  rw [e]
  constructor
  · rw [Nat.add_mul_div_right _ _ hy, Nat.div_eq_of_lt h0', Nat.zero_add]
  · rw [Nat.add_mul_mod_self_right, Nat.mod_eq_of_lt h0']
/-- Back from the shifted numbers. -/
theorem unshift {u y k : Nat} (hk : 0 < k) : (u * k) / (y * k) = u / y ∧ (u * k) % (y * k) / k = u % y := by
  refine ⟨Nat.mul_div_mul_right _ _ hk, ?_⟩
  rw [Nat.mul_mod_mul_right, Nat.mul_div_cancel _ hk]
end Go.Proofs.YtmfohnchnbgbaaaGreat

/- Two words by one: the library's division. -/
namespace Go.Proofs.YtmfohnchnbgbaaaGreat
open Go.RowKit

set_option maxRecDepth 100000 in
set_option maxHeartbeats 1000000 in
theorem div64_zero (lo y : Nat) (hlo : lo < 18446744073709551616) (hy : y < 9223372036854775808) (hy0 : 0 < y) (w : World) :
    Calls Tryz.prog 101 #[.int .u64 0, .int .u64 lo, .int .u64 y] w fun e w' => e = .returned (.tuple #[.int .u64 ((lo / y : Nat) : Int), .int .u64 ((lo % y : Nat) : Int)]) ∧ Below w.heap.size w w' := by
  have hyz : ¬ ((y : Int) = 0) := by omega
  have hyp : (0 : Int) < (y : Int) := by omega
  go_enter Tryz.func101, Tryz.ntmps101
  go_wp2
  go_quiet (fail)
  go_wp2
  go_ret2
  refine ⟨?_, bel_drewN (Below.refl _ _) _⟩
  show Ending.returned (.tuple #[.int .u64 (IntKind.u64.wrap ((lo : Int) / (y : Int))), .int .u64 ((lo : Int) % (y : Int))]) = _
  have h1 : IntKind.u64.wrap ((lo : Int) / (y : Int)) = ((lo / y : Nat) : Int) := by
    rw [← Int.natCast_ediv]
    exact Mul64.wrapN _ (Nat.lt_of_le_of_lt (Nat.div_le_self _ _) hlo)
  rw [h1, ← Int.natCast_emod]

/-- A digit. -/
def DigitOf (un u1 Y q : Nat) : Prop := q ≤ 4294967297 ∧ q * Y ≤ 4294967296 * un + u1 ∧ 4294967296 * un + u1 - q * Y < Y
theorem digit_wrap {un u1 q Y n : Nat} (hd : DigitOf un u1 Y q) (hY : Y < 18446744073709551616) (hn : 4294967296 * un + u1 - q * Y = n) :
    IntKind.u64.wrap (IntKind.u64.wrap (IntKind.u64.wrap ((un : Int) * 4294967296) + (u1 : Int)) - IntKind.u64.wrap ((q : Int) * (Y : Int))) = (n : Int) := by
  obtain ⟨_, h1, h2⟩ := hd
  rw [← Int.natCast_mul]
  generalize q * Y = Z at *
  simp only [IntKind.wrap_u64]
  omega
theorem cast_shl (a s : Nat) : ((a * 2 ^ s : Nat) : Int) = (a : Int) * 2 ^ s := by rw [Int.natCast_mul, Int.natCast_pow]; rfl
/-- The numbers moved up. -/
theorem shift_facts {hi lo y s Y H L un : Nat} (hlo : lo < 18446744073709551616) (hhi : hi < y) (hs1 : 1 ≤ s) (hs2 : s ≤ 63) (hsu : 9223372036854775808 ≤ y * 2 ^ s ∧ y * 2 ^ s < 18446744073709551616)
    (hY : y * 2 ^ s = Y) (hH : hi * 2 ^ s = H) (hL : lo * 2 ^ s % 18446744073709551616 = L) (hun : H + lo / 2 ^ (64 - s) = un) :
    bits .or .u64 (H : Int) ((lo : Int) / 2 ^ (64 - s)) = (un : Int) ∧ un < Y ∧ 18446744073709551616 * un + L = (18446744073709551616 * hi + lo) * 2 ^ s := by
  have hpw : 2 ^ (64 - s) * 2 ^ s = 18446744073709551616 := by
    rw [← Nat.pow_add, show 64 - s + s = 64 by omega]
  have hps : 0 < 2 ^ s := Nat.two_pow_pos s
  obtain ⟨P, hP⟩ : ∃ P, lo / 2 ^ (64 - s) = P := ⟨_, rfl⟩
  have hPlt : P < 2 ^ s := by
    rw [← hP]
    refine Nat.div_lt_of_lt_mul ?_
    rw [hpw]; exact hlo
  have hPe : lo * 2 ^ s / 18446744073709551616 = P := by
    rw [← hpw, Nat.mul_div_mul_right _ _ hps, hP]
  have hcast : (lo : Int) / 2 ^ (64 - s) = (P : Int) := by
    rw [← hP, Int.natCast_ediv, Int.natCast_pow]; rfl
  have hunlt : un < Y := by
    rw [hP] at hun
    have h1 : (hi + 1) * 2 ^ s ≤ y * 2 ^ s := Nat.mul_le_mul_right _ hhi
    rw [Nat.add_mul, Nat.one_mul, hH, hY] at h1
    omega
  rw [hP] at hun
  refine ⟨?_, hunlt, ?_⟩
  · rw [hcast]
    have hb := bits_or_u64_nat H P (by omega) (by omega)
    rw [hb]
    have h2 := Nat.shiftLeft_add_eq_or_of_lt hPlt hi
    rw [Nat.shiftLeft_eq, hH] at h2
    rw [← h2, hun]
  · have h3 := Nat.div_add_mod (lo * 2 ^ s) 18446744073709551616
    rw [hPe, hL] at h3
    rw [Nat.add_mul, Nat.mul_assoc, hH, ← h3, ← hun]
    omega

/-- What both digits make. -/
theorem div_fin {hi lo y s Y L un u1 u0 q1 n1 q3 n2 : Nat} (hlo : lo < 18446744073709551616) (hhi : hi < y) (hY : y * 2 ^ s = Y) (hsp : 18446744073709551616 * un + L = (18446744073709551616 * hi + lo) * 2 ^ s) (hL : 4294967296 * u1 + u0 = L)
    (hn1 : 4294967296 * un + u1 - q1 * Y = n1) (hd1 : DigitOf un u1 Y q1) (hd3 : DigitOf n1 u0 Y q3) (hn2 : 4294967296 * n1 + u0 - q3 * Y = n2) :
    IntKind.u64.wrap (IntKind.u64.wrap ((q1 : Int) * 4294967296) + (q3 : Int)) = (((18446744073709551616 * hi + lo) / y : Nat) : Int) ∧ (n2 : Int) / 2 ^ s = (((18446744073709551616 * hi + lo) % y : Nat) : Int) := by
  have hps : 0 < 2 ^ s := Nat.two_pow_pos s
  obtain ⟨e1, e2⟩ := two_digits (u0 := u0) hn1.symm hd1.2.1 hd3.2.1 hd3.2.2
  rw [hL, hsp, ← hY] at e1 e2
  obtain ⟨f1, f2⟩ := unshift (u := 18446744073709551616 * hi + lo) (y := y) hps
  rw [e1] at f1
  rw [e2, hY, hn2] at f2
  refine ⟨?_, ?_⟩
  · have hb : (18446744073709551616 * hi + lo) / y < 18446744073709551616 := by
      refine Nat.div_lt_of_lt_mul ?_
      have h1 : (hi + 1) * 18446744073709551616 ≤ y * 18446744073709551616 := Nat.mul_le_mul_right _ hhi
      omega
    rw [← f1] at hb ⊢
    simp only [IntKind.wrap_u64]
    omega
  · rw [← f2, Int.natCast_ediv, Int.natCast_pow]; rfl

set_option maxRecDepth 100000 in
set_option maxHeartbeats 1000000 in
theorem div64_more (hi lo y : Nat) (hlo : lo < 18446744073709551616) (hy : y < 9223372036854775808) (hy0 : 0 < y) (hhi : hi < y) (hh0 : 0 < hi) (w : World) :
    Calls Tryz.prog 101 #[.int .u64 hi, .int .u64 lo, .int .u64 y] w fun e w' => e = .returned (.tuple #[.int .u64 (((18446744073709551616 * hi + lo) / y : Nat) : Int), .int .u64 (((18446744073709551616 * hi + lo) % y : Nat) : Int)]) ∧ Below w.heap.size w w' := by
  have hyz : ¬ ((y : Int) = 0) := by omega
  have hyp : (0 : Int) < (y : Int) := by omega
  have hhz : ¬ ((hi : Int) = 0) := by omega
  have hle : ¬ ((y : Int) ≤ (hi : Int)) := by omega
  go_enter Tryz.func101, Tryz.ntmps101
  go_wp2_with fail
  refine (lz64_any (y : Int) w (by omega) (by omega)).mono ?_
  rintro e w' ⟨rfl, rfl⟩
  obtain ⟨s, hs⟩ : ∃ s : Nat, 64 - Go.Lib.bitLen y = s := ⟨_, rfl⟩
  have hsu := shift_up (y := y) (by omega) (by omega)
  rw [hs] at hsu
  have hbl : Go.Lib.bitLen y ≤ 63 := Go.Lib.bitLen_le y 63 (by omega) (by omega)
  have hs1 : 1 ≤ s := by omega
  have hs2 : s ≤ 63 := by
    have := (bitLen_spec y (by omega) (by omega)).2.2
    omega
  have hsi : (64 - (Go.Lib.bitLen (y : Int).toNat : Int)) = (s : Int) := by
    rw [Int.toNat_natCast]; omega
  rw [hsi]
  clear hbl hs hsi
  obtain ⟨Y, hY⟩ : ∃ Y : Nat, y * 2 ^ s = Y := ⟨_, rfl⟩
  obtain ⟨H, hH⟩ : ∃ H : Nat, hi * 2 ^ s = H := ⟨_, rfl⟩
  obtain ⟨L, hL⟩ : ∃ L : Nat, lo * 2 ^ s % 18446744073709551616 = L := ⟨_, rfl⟩
  obtain ⟨un, hun⟩ : ∃ un : Nat, H + lo / 2 ^ (64 - s) = un := ⟨_, rfl⟩
  obtain ⟨D, hdig, hsp⟩ := shift_facts hlo hhi hs1 hs2 hsu hY hH hL hun
  obtain ⟨y1, hy1⟩ : ∃ z, Y / 4294967296 = z := ⟨_, rfl⟩
  obtain ⟨y0, hy0'⟩ : ∃ z, Y % 4294967296 = z := ⟨_, rfl⟩
  obtain ⟨u1, hu1⟩ : ∃ z, L / 4294967296 = z := ⟨_, rfl⟩
  obtain ⟨u0, hu0⟩ : ∃ z, L % 4294967296 = z := ⟨_, rfl⟩
  rw [hY] at hsu
  have hHb : H < 18446744073709551616 := by
    have := Nat.le_add_right H (lo / 2 ^ (64 - s))
    rw [hun] at this
    exact Nat.lt_of_le_of_lt this (Nat.lt_trans hdig hsu.2)
  have hLb : L < 18446744073709551616 := by rw [← hL]; exact Nat.mod_lt _ (by omega)
  have E1 : IntKind.u64.wrap ((y : Int) * 2 ^ s) = (Y : Int) := by rw [← hY, ← cast_shl]; exact Mul64.wrapN _ (by omega)
  have E2 : (Y : Int) / 4294967296 = (y1 : Int) := by omega
  have E3 : bits .and .u64 (Y : Int) 4294967295 = (y0 : Int) := by rw [← hy0']; exact Mul64.maskN Y (by omega)
  have E4 : IntKind.u64.wrap ((hi : Int) * 2 ^ s) = (H : Int) := by rw [← hH, ← cast_shl]; exact Mul64.wrapN _ (by omega)
  have E5 : bits .or .u64 (H : Int) ((lo : Int) / 2 ^ (64 - s)) = (un : Int) := D
  have E6 : IntKind.u64.wrap ((lo : Int) * 2 ^ s) = (L : Int) := by rw [← hL, ← cast_shl]; exact Mul64.wrapM _
  have E7 : (L : Int) / 4294967296 = (u1 : Int) := by omega
  have E8 : bits .and .u64 (L : Int) 4294967295 = (u0 : Int) := by rw [← hu0]; exact Mul64.maskN L (by omega)
  have hun64 : un < 18446744073709551616 := Nat.lt_trans hdig hsu.2
  have hYe : 4294967296 * y1 + y0 = Y := by omega
  have hD1 : DigB un u1 y1 y0 := ⟨by omega, by omega, by omega, by omega, by omega⟩
  have hT1 := trial_start hD1
  obtain ⟨q, hq⟩ : ∃ z, un / y1 = z := ⟨_, rfl⟩
  obtain ⟨r, hr⟩ : ∃ z, un % y1 = z := ⟨_, rfl⟩
  rw [hq, hr] at hT1
  have hrl : r < 4294967296 := by rw [← hr]; exact Nat.lt_trans (Nat.mod_lt _ (by have := hD1.y1l; omega)) hD1.y1h
  have hql := trial_le hD1 hT1
  have E9 : IntKind.u64.wrap ((un : Int) / (y1 : Int)) = (q : Int) := by rw [← Int.natCast_ediv, hq]; exact Mul64.wrapN _ (by omega)
  have hqy : q * y1 + r = un := hT1.left
  have E10 : IntKind.u64.wrap ((q : Int) * (y1 : Int)) = ((q * y1 : Nat) : Int) := by rw [← Int.natCast_mul]; exact Mul64.wrapN _ (by omega)
  have E11 : IntKind.u64.wrap ((un : Int) - ((q * y1 : Nat) : Int)) = (r : Int) := by
    rw [show (un : Int) - ((q * y1 : Nat) : Int) = (r : Int) by omega]; exact Mul64.wrapN _ (by omega)
  rw [Int.natCast_mul] at E10 E11
  have hy1z : ¬ ((y1 : Int) = 0) := by have := hD1.y1l; omega
  have hu0b : u0 < 4294967296 := by omega
  have hLe : 4294967296 * u1 + u0 = L := by omega
  have HLE := hide hLe
  clear hLe
  have HD1 := hide hD1
  have HT1 := hide hT1
  have HSU := hide hsu
  have HSP := hide hsp
  have HYE := hide hYe
  have HY := hide hY
  have HDG := hide hdig
  clear hD1 hT1 hsu hsp hYe hdig hY hH hL hun hy1 hy0' hu1 hu0 hq hr hqy hyz hyp hhz hle D
  go_upto_block 0 with fail
  go_cut [15, 16] from 67 to 85 (fun a _ wx => (∃ q' : Nat, a = .int .u64 (q' : Int) ∧ DigitOf un u1 (4294967296 * y1 + y0) q') ∧ wx = w')
  case first =>
    have HRL := hide hrl
    clear E1 E2 E3 E4 E5 E6 E7 E8 E9 E10 E11 hql hrl
    have hu1b := HD1.out.u1h
    have hy0b := HD1.out.y0h
    have hy1b := HD1.out.y1h
    go_wp2_with fail
    go_loop [15, 16] (fun a b => ∃ q r : Nat, a = .int .u64 (q : Int) ∧ b = .int .u64 (r : Int) ∧ Trial un u1 y1 y0 q r ∧ r < 4294967296) (fun a _ => (RowKit.intOf a).toNat)
    case atStart => exact ⟨_, _, rfl, rfl, HT1.out, HRL.out⟩
    case round =>
      obtain ⟨q, r, rfl, rfl, hT, hrl⟩ := hrel
      have hql := trial_le HD1.out hT
      have hz := small_mul hql hy0b
      obtain ⟨z, hzz⟩ : ∃ z, q * y0 = z := ⟨_, rfl⟩
      have F1 : IntKind.u64.wrap ((q : Int) * (y0 : Int)) = (z : Int) := by rw [← Int.natCast_mul, hzz]; exact Mul64.wrapN _ (by omega)
      have F2 : IntKind.u64.wrap (4294967296 * (r : Int)) = 4294967296 * (r : Int) := by rw [show (4294967296 : Int) * (r : Int) = ((4294967296 * r : Nat) : Int) by omega]; exact Mul64.wrapN _ (by omega)
      have F3 : IntKind.u64.wrap (4294967296 * (r : Int) + (u1 : Int)) = 4294967296 * (r : Int) + (u1 : Int) := by rw [show (4294967296 : Int) * (r : Int) + (u1 : Int) = ((4294967296 * r + u1 : Nat) : Int) by omega]; exact Mul64.wrapN _ (by omega)
      have HT := hide hT
      have HZ := hide hzz
      clear hT hzz
      by_cases hgo : 4294967296 ≤ q ∨ 4294967296 * r + u1 < z
      · obtain ⟨hq1, hT2⟩ := trial_step HD1.out HT.out (by rw [HZ.out]; exact hgo)
        obtain ⟨p, hp⟩ : ∃ p, q - 1 = p := ⟨_, rfl⟩
        obtain ⟨r2, hr2⟩ : ∃ r2, r + y1 = r2 := ⟨_, rfl⟩
        rw [hp, hr2] at hT2
        have F4 : IntKind.u64.wrap ((q : Int) - 1) = (p : Int) := by rw [show (q : Int) - 1 = (p : Int) by omega]; exact Mul64.wrapN _ (by omega)
        have F5 : IntKind.u64.wrap ((r : Int) + (y1 : Int)) = (r2 : Int) := by rw [show (r : Int) + (y1 : Int) = (r2 : Int) by omega]; exact Mul64.wrapN _ (by omega)
        have HT2 := hide hT2
        have HP := hide hp
        have hpq : p < q := by omega
        have hpb : p ≤ 4294967296 := by omega
        clear hT2 hr2 hp
        by_cases hb : 4294967296 ≤ r2
        · have hb' : (4294967296 : Int) ≤ (r2 : Int) := by omega
          have HD := hide (show DigitOf un u1 (4294967296 * y1 + y0) p from ⟨by omega, trial_end HT2.out (.inr ⟨hpb, hb, hy0b⟩)⟩)
          rcases Nat.lt_or_ge q 4294967296 with hq | hq
          · have hq' : ¬ ((4294967296 : Int) ≤ (q : Int)) := by omega
            have hz' : 4294967296 * (r : Int) + (u1 : Int) < (z : Int) := by omega
            clear hgo
            go_wp2_with fail
            go_meet
            exact ⟨⟨p, rfl, HD.out⟩, rfl⟩
          · have hq' : (4294967296 : Int) ≤ (q : Int) := by omega
            clear hgo
            go_wp2_with fail
            go_meet
            exact ⟨⟨p, rfl, HD.out⟩, rfl⟩
        · have hb' : ¬ ((4294967296 : Int) ≤ (r2 : Int)) := by omega
          rcases Nat.lt_or_ge q 4294967296 with hq | hq
          · have hq' : ¬ ((4294967296 : Int) ≤ (q : Int)) := by omega
            have hz' : 4294967296 * (r : Int) + (u1 : Int) < (z : Int) := by omega
            clear hgo
            go_wp2_with fail
            go_round
            case rel => exact ⟨p, r2, rfl, rfl, HT2.out, by omega⟩
            case measure => simp [RowKit.intOf]; omega
          · have hq' : (4294967296 : Int) ≤ (q : Int) := by omega
            clear hgo
            go_wp2_with fail
            go_round
            case rel => exact ⟨p, r2, rfl, rfl, HT2.out, by omega⟩
            case measure => simp [RowKit.intOf]; omega
      · have hq' : ¬ ((4294967296 : Int) ≤ (q : Int)) := by omega
        have hz' : ¬ (4294967296 * (r : Int) + (u1 : Int) < (z : Int)) := by omega
        have HD := hide (show DigitOf un u1 (4294967296 * y1 + y0) q from ⟨by omega, trial_end HT.out (.inl ⟨by omega, by rw [HZ.out]; omega⟩)⟩)
        clear hgo
        go_wp2_with fail
        go_meet
        exact ⟨⟨q, rfl, HD.out⟩, rfl⟩
  case rest =>
    obtain ⟨⟨q1, rfl, hd1⟩, rfl⟩ := hcut
    have HDD1 := hide hd1
    clear hd1 E1 E2 E3 E4 E5 E6 E7 E8 E9 E10 E11
    rw [HYE.out] at HDD1
    obtain ⟨n1, hn1⟩ : ∃ z, 4294967296 * un + u1 - q1 * Y = z := ⟨_, rfl⟩
    have hn1Y : n1 < Y := by rw [← hn1]; exact HDD1.out.2.2
    have G1 := digit_wrap HDD1.out HSU.out.2 hn1
    have hn1b : n1 < 18446744073709551616 := Nat.lt_trans hn1Y HSU.out.2
    have hD2 : DigB n1 u0 y1 y0 := ⟨HD1.out.y1l, HD1.out.y1h, HD1.out.y0h, hu0b, by rw [HYE.out]; exact hn1Y⟩
    have hT3 := trial_start hD2
    obtain ⟨q2, hq2⟩ : ∃ z, n1 / y1 = z := ⟨_, rfl⟩
    obtain ⟨r2, hr2⟩ : ∃ z, n1 % y1 = z := ⟨_, rfl⟩
    rw [hq2, hr2] at hT3
    have hrl2 : r2 < 4294967296 := by rw [← hr2]; exact Nat.lt_trans (Nat.mod_lt _ (by have := hD2.y1l; omega)) hD2.y1h
    have hql2 := trial_le hD2 hT3
    have G2 : IntKind.u64.wrap ((n1 : Int) / (y1 : Int)) = (q2 : Int) := by rw [← Int.natCast_ediv, hq2]; exact Mul64.wrapN _ (by omega)
    have hqy2 : q2 * y1 + r2 = n1 := hT3.left
    have G3 : IntKind.u64.wrap ((q2 : Int) * (y1 : Int)) = ((q2 * y1 : Nat) : Int) := by rw [← Int.natCast_mul]; exact Mul64.wrapN _ (by omega)
    have G4 : IntKind.u64.wrap ((n1 : Int) - ((q2 * y1 : Nat) : Int)) = (r2 : Int) := by
      rw [show (n1 : Int) - ((q2 * y1 : Nat) : Int) = (r2 : Int) by omega]; exact Mul64.wrapN _ (by omega)
    rw [Int.natCast_mul] at G3 G4
    have HD2 := hide hD2
    have HT3 := hide hT3
    have HN1 := hide hn1
    clear hD2 hT3 hn1 hn1Y hq2 hr2 hqy2
    go_upto_block 2 with fail
    go_cut [18, 16] from 102 to 120 (fun a _ wx => (∃ q' : Nat, a = .int .u64 (q' : Int) ∧ DigitOf n1 u0 (4294967296 * y1 + y0) q') ∧ wx = wc)
    case first =>
      have HRL := hide hrl2
      clear G1 G2 G3 G4 hql2 hrl2
      have hu1b := HD2.out.u1h
      have hy0b := HD2.out.y0h
      have hy1b := HD2.out.y1h
      go_wp2_with fail
      go_loop [18, 16] (fun a b => ∃ q r : Nat, a = .int .u64 (q : Int) ∧ b = .int .u64 (r : Int) ∧ Trial n1 u0 y1 y0 q r ∧ r < 4294967296) (fun a _ => (RowKit.intOf a).toNat)
      case atStart => exact ⟨_, _, rfl, rfl, HT3.out, HRL.out⟩
      case round =>
        obtain ⟨q, r, rfl, rfl, hT, hrl⟩ := hrel
        have hql := trial_le HD2.out hT
        have hz := small_mul hql hy0b
        obtain ⟨z, hzz⟩ : ∃ z, q * y0 = z := ⟨_, rfl⟩
        have F1 : IntKind.u64.wrap ((q : Int) * (y0 : Int)) = (z : Int) := by rw [← Int.natCast_mul, hzz]; exact Mul64.wrapN _ (by omega)
        have F2 : IntKind.u64.wrap (4294967296 * (r : Int)) = 4294967296 * (r : Int) := by rw [show (4294967296 : Int) * (r : Int) = ((4294967296 * r : Nat) : Int) by omega]; exact Mul64.wrapN _ (by omega)
        have F3 : IntKind.u64.wrap (4294967296 * (r : Int) + (u0 : Int)) = 4294967296 * (r : Int) + (u0 : Int) := by rw [show (4294967296 : Int) * (r : Int) + (u0 : Int) = ((4294967296 * r + u0 : Nat) : Int) by omega]; exact Mul64.wrapN _ (by omega)
        have HT := hide hT
        have HZ := hide hzz
        clear hT hzz
        by_cases hgo : 4294967296 ≤ q ∨ 4294967296 * r + u0 < z
        · obtain ⟨hq1, hT2⟩ := trial_step HD2.out HT.out (by rw [HZ.out]; exact hgo)
          obtain ⟨p, hp⟩ : ∃ p, q - 1 = p := ⟨_, rfl⟩
          obtain ⟨r2, hr2⟩ : ∃ r2, r + y1 = r2 := ⟨_, rfl⟩
          rw [hp, hr2] at hT2
          have F4 : IntKind.u64.wrap ((q : Int) - 1) = (p : Int) := by rw [show (q : Int) - 1 = (p : Int) by omega]; exact Mul64.wrapN _ (by omega)
          have F5 : IntKind.u64.wrap ((r : Int) + (y1 : Int)) = (r2 : Int) := by rw [show (r : Int) + (y1 : Int) = (r2 : Int) by omega]; exact Mul64.wrapN _ (by omega)
          have HT2 := hide hT2
          have HP := hide hp
          have hpq : p < q := by omega
          have hpb : p ≤ 4294967296 := by omega
          clear hT2 hr2 hp
          by_cases hb : 4294967296 ≤ r2
          · have hb' : (4294967296 : Int) ≤ (r2 : Int) := by omega
            have HD := hide (show DigitOf n1 u0 (4294967296 * y1 + y0) p from ⟨by omega, trial_end HT2.out (.inr ⟨hpb, hb, hy0b⟩)⟩)
            rcases Nat.lt_or_ge q 4294967296 with hq | hq
            · have hq' : ¬ ((4294967296 : Int) ≤ (q : Int)) := by omega
              have hz' : 4294967296 * (r : Int) + (u0 : Int) < (z : Int) := by omega
              clear hgo
              go_wp2_with fail
              go_meet
              exact ⟨⟨p, rfl, HD.out⟩, rfl⟩
            · have hq' : (4294967296 : Int) ≤ (q : Int) := by omega
              clear hgo
              go_wp2_with fail
              go_meet
              exact ⟨⟨p, rfl, HD.out⟩, rfl⟩
          · have hb' : ¬ ((4294967296 : Int) ≤ (r2 : Int)) := by omega
            rcases Nat.lt_or_ge q 4294967296 with hq | hq
            · have hq' : ¬ ((4294967296 : Int) ≤ (q : Int)) := by omega
              have hz' : 4294967296 * (r : Int) + (u0 : Int) < (z : Int) := by omega
              clear hgo
              go_wp2_with fail
              go_round
              case rel => exact ⟨p, r2, rfl, rfl, HT2.out, by omega⟩
              case measure => simp [RowKit.intOf]; omega
            · have hq' : (4294967296 : Int) ≤ (q : Int) := by omega
              clear hgo
              go_wp2_with fail
              go_round
              case rel => exact ⟨p, r2, rfl, rfl, HT2.out, by omega⟩
              case measure => simp [RowKit.intOf]; omega
        · have hq' : ¬ ((4294967296 : Int) ≤ (q : Int)) := by omega
          have hz' : ¬ (4294967296 * (r : Int) + (u0 : Int) < (z : Int)) := by omega
          have HD := hide (show DigitOf n1 u0 (4294967296 * y1 + y0) q from ⟨by omega, trial_end HT.out (.inl ⟨by omega, by rw [HZ.out]; omega⟩)⟩)
          clear hgo
          go_wp2_with fail
          go_meet
          exact ⟨⟨q, rfl, HD.out⟩, rfl⟩
    case rest =>
      obtain ⟨⟨q3, rfl, hd3⟩, rfl⟩ := hcut
      rw [HYE.out] at hd3
      obtain ⟨n2, hn2⟩ : ∃ z, 4294967296 * n1 + u0 - q3 * Y = z := ⟨_, rfl⟩
      have K1 := digit_wrap hd3 HSU.out.2 hn2
      have HD3 := hide hd3
      have HN2 := hide hn2
      clear hd3 hn2 G1 G2 G3 G4
      have hfin := div_fin hlo hhi HY.out HSP.out HLE.out HN1.out HDD1.out HD3.out HN2.out
      have HFIN := hide hfin
      clear hfin
      go_wp2_with fail
      go_ret2
      refine ⟨?_, Below.refl _ _⟩
      rw [← HFIN.out.1, ← HFIN.out.2]
      rfl
/-- The library's division of two words by one. -/
theorem div64_any (hi lo y : Nat) (hlo : lo < 18446744073709551616) (hy : y < 9223372036854775808) (hy0 : 0 < y) (hhi : hi < y) (w : World) :
    Calls Tryz.prog 101 #[.int .u64 hi, .int .u64 lo, .int .u64 y] w fun e w' => e = .returned (.tuple #[.int .u64 (((18446744073709551616 * hi + lo) / y : Nat) : Int), .int .u64 (((18446744073709551616 * hi + lo) % y : Nat) : Int)]) ∧ Below w.heap.size w w' := by
  rcases Nat.eq_zero_or_pos hi with h | h
  · subst h
    have := div64_zero lo y hlo hy hy0 w
    rw [Nat.mul_zero, Nat.zero_add]
    exact this
  · exact div64_more hi lo y hlo hy hy0 hhi h w
end Go.Proofs.YtmfohnchnbgbaaaGreat
