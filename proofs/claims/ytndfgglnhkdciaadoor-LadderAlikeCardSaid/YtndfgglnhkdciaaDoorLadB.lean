/- Bits: the length of a number, its leading zeros, a product of two words. (The first two were filled out of the shelf's templates.) -/
import Derived.Test.YtndfgglnhkdciaaDoorRows
import Derived.Test.YtndfgglnhkdciaaDoorMem
import Derived.Lib.Strings
import Derived.Lib.Slices
import Derived.Lib.Small
import Derived.Lib.Walk
import Derived.Lib.BitFns
import Derived.Shelf.Bits.Mul64
namespace Go.Proofs.YtndfgglnhkdciaaDoor
open Go.RowKit

theorem tab_at (i : Int) (h0 : 0 ≤ i) (h1 : i ≤ 255) {h : i.toNat < Go.Lib.len8tab.size} : (((Go.Lib.len8tab[i.toNat]'h).toNat : Nat) : Int) = (Go.Lib.bitLen i.toNat : Int) := by
  rw [← Go.Lib.len8_of i h0 h1, Go.Lib.len8, getElem?_pos Go.Lib.len8tab i.toNat h]
  rfl
theorem wrap_small {n : Int} (h0 : 0 ≤ n) (h1 : n ≤ 100) : wrap64 n = n := by unfold wrap64; omega
theorem len_fin {x c k : Nat} {i : Int} {h : i.toNat < Go.Lib.len8tab.size} (h0 : 0 ≤ i) (h1 : i ≤ 255) (hc : c ≤ 56) (hi : i.toNat = k) (hs : Go.Lib.bitLen x = c + Go.Lib.bitLen k) : wrap64 ((c : Int) + wrap64 (((Go.Lib.len8tab[i.toNat]'h).toNat : Nat) : Int)) = (Go.Lib.bitLen x : Int) := by
  have l := Go.Lib.bitLen_le8' i h0 h1
  rw [tab_at i h0 h1, hs, ← hi]
  rw [wrap_small (n := (Go.Lib.bitLen i.toNat : Int)) (by omega) (by omega), wrap_small (by omega) (by omega)]
  omega
theorem len_fin0 {i : Int} {h : i.toNat < Go.Lib.len8tab.size} (h0 : 0 ≤ i) (h1 : i ≤ 255) : wrap64 (wrap64 (((Go.Lib.len8tab[i.toNat]'h).toNat : Nat) : Int)) = (Go.Lib.bitLen i.toNat : Int) := by
  have l := Go.Lib.bitLen_le8' i h0 h1
  rw [tab_at i h0 h1, wrap_small (n := (Go.Lib.bitLen i.toNat : Int)) (by omega) (by omega), wrap_small (by omega) (by omega)]
set_option maxHeartbeats 1000000 in
set_option maxRecDepth 100000 in
theorem len64_any (x : Int) (w : World) (h0 : 0 ≤ x) (h1 : x ≤ 18446744073709551615) :
    Calls Tryd.prog 44 #[.int .u64 x] w fun e w' => e = .returned (.int .i64 (Go.Lib.bitLen x.toNat)) ∧ w' = w := by
  have hsz : ((Go.Lib.len8tab.size : Nat) : Int) = 256 := by rw [Go.Lib.len8tab_size]; rfl
  go_enter Tryd.func44, Tryd.ntmps44
  go_wp2
  all_goals (go_ret; refine ⟨congrArg Ending.returned (congrArg (Value.int IntKind.i64) ?_), rfl⟩)
  · exact len_fin (c := 56) (k := x.toNat / 72057594037927936) (by omega) (by omega) (by omega) (by omega) (Go.Lib.bitLen_shift56 x.toNat (by omega) (by omega))
  · exact len_fin (c := 48) (k := x.toNat / 281474976710656) (by omega) (by omega) (by omega) (by omega) (Go.Lib.bitLen_shift48 x.toNat (by omega) (by omega))
  · exact len_fin (c := 40) (k := x.toNat / 1099511627776) (by omega) (by omega) (by omega) (by omega) (Go.Lib.bitLen_shift40 x.toNat (by omega) (by omega))
  · exact len_fin (c := 32) (k := x.toNat / 4294967296) (by omega) (by omega) (by omega) (by omega) (Go.Lib.bitLen_shift32 x.toNat (by omega) (by omega))
  · exact len_fin (c := 24) (k := x.toNat / 16777216) (by omega) (by omega) (by omega) (by omega) (Go.Lib.bitLen_shift24 x.toNat (by omega) (by omega))
  · exact len_fin (c := 16) (k := x.toNat / 65536) (by omega) (by omega) (by omega) (by omega) (Go.Lib.bitLen_shift16 x.toNat (by omega) (by omega))
  · exact len_fin (c := 8) (k := x.toNat / 256) (by omega) (by omega) (by omega) (by omega) (Go.Lib.bitLen_shift8 x.toNat (by omega) (by omega))
  · exact len_fin0 (by omega) (by omega)

theorem bitLen_le64 (x : Int) (h0 : 0 ≤ x) (h1 : x ≤ 18446744073709551615) : Go.Lib.bitLen x.toNat ≤ 64 := Go.Lib.bitLen_le x.toNat 64 (by omega) (by omega)

theorem lz64_any (x : Int) (w : World) (h0 : 0 ≤ x) (h1 : x ≤ 18446744073709551615) :
    Calls Tryd.prog 43 #[.int .u64 x] w fun e w' => e = .returned (.int .i64 (64 - (Go.Lib.bitLen x.toNat : Int))) ∧ w' = w := by
  have l := bitLen_le64 x h0 h1
  have e8 : (64 - (Go.Lib.bitLen x.toNat : Int) + 9223372036854775808) % 18446744073709551616 - 9223372036854775808 = 64 - (Go.Lib.bitLen x.toNat : Int) := by omega
  go_enter Tryd.func43, Tryd.ntmps43
  go_wp2_with (go_at_call 44; refine (len64_any x _ h0 h1).mono ?_; rintro e w' ⟨rfl, rfl⟩)
  go_ret
  refine ⟨?_, rfl⟩
  rw [← e8]
  rfl


set_option maxHeartbeats 1000000 in
theorem mul64_any (x y : Nat) (hx : x < 18446744073709551616) (hy : y < 18446744073709551616) (w : World) :
    Calls Tryd.prog 41 #[.int .u64 x, .int .u64 y] w fun e w' => e = .returned (.tuple #[.int .u64 ((x * y / 18446744073709551616 : Nat) : Int), .int .u64 ((x * y % 18446744073709551616 : Nat) : Int)]) ∧ w' = w := by
  obtain ⟨g1, g2, g3, g4⟩ := Go.Lib.mul64_hi x y hx hy
  have a1 := Go.Lib.half_mul_le (a := x / 4294967296) (b := y / 4294967296) (by omega) (by omega)
  have a2 := Go.Lib.half_mul_le (a := x / 4294967296) (b := y % 4294967296) (by omega) (by omega)
  have a3 := Go.Lib.half_mul_le (a := x % 4294967296) (b := y / 4294967296) (by omega) (by omega)
  have b1 : x / 4294967296 * (y / 4294967296) < 18446744073709551616 := by omega
  have b2 : x / 4294967296 * (y % 4294967296) < 18446744073709551616 := by omega
  have b3 : x % 4294967296 * (y / 4294967296) < 18446744073709551616 := by omega
  have hq : x * y / 18446744073709551616 < 18446744073709551616 := by
    refine Nat.div_lt_of_lt_mul ?_
    exact Nat.mul_lt_mul'' hx hy
  have h8 : x / 4294967296 * (y / 4294967296) + (x / 4294967296 * (y % 4294967296) + x % 4294967296 * (y % 4294967296) / 4294967296) / 4294967296 + ((x / 4294967296 * (y % 4294967296) + x % 4294967296 * (y % 4294967296) / 4294967296) % 4294967296 + x % 4294967296 * (y / 4294967296)) / 4294967296 < 18446744073709551616 := by rw [g4]; exact hq
  have h9 : x / 4294967296 * (y / 4294967296) + (x / 4294967296 * (y % 4294967296) + x % 4294967296 * (y % 4294967296) / 4294967296) / 4294967296 < 18446744073709551616 := Nat.lt_of_le_of_lt (Nat.le_add_right _ _) h8
  go_enter Tryd.func41, Tryd.ntmps41
  go_wp2
  simp only [Mul64.maskN x hx, Mul64.maskN y hy, Mul64.divN, Mul64.mulN, Mul64.addN, Mul64.wrapN _ g1, Mul64.wrapN _ b2, Mul64.wrapN _ g2, Mul64.maskN _ g2, Mul64.wrapN _ b3, Mul64.wrapN _ g3, Mul64.wrapN _ b1, Mul64.wrapN _ h9, Mul64.wrapN _ h8, Mul64.wrapM (x * y)]
  rw [g4]
  go_ret2
  exact ⟨rfl, rfl⟩

theorem bitLen_spec : ∀ (x : Nat), x ≠ 0 → x < 2 ^ 64 → 2 ^ (Go.Lib.bitLen x - 1) ≤ x ∧ x < 2 ^ Go.Lib.bitLen x ∧ 1 ≤ Go.Lib.bitLen x := by
  intro x
  induction x using Nat.strongRecOn with
  | _ x ih =>
    intro h0 h
    rw [Go.Lib.bitLen_half x h0 h]
    rcases Nat.eq_zero_or_pos (x / 2) with h2 | h2
    · rw [h2]
      have : x = 1 := by omega
      subst this
      decide
    · obtain ⟨i1, i2, i3⟩ := ih (x / 2) (by omega) (by omega) (by omega)
      obtain ⟨n, hn⟩ : ∃ n, Go.Lib.bitLen (x / 2) = n + 1 := ⟨Go.Lib.bitLen (x / 2) - 1, by omega⟩
      rw [hn] at i1 i2 ⊢
      have e1 : 1 + (n + 1) - 1 = n + 1 := by omega
      rw [e1]
      rw [Nat.add_sub_cancel] at i1
      refine ⟨?_, ?_, by omega⟩
      · rw [Nat.pow_succ]; omega
      · rw [Nat.add_comm 1, Nat.pow_succ 2 (n + 1)]; omega
/-- A number moved up as far as it goes. -/
theorem shift_up {y : Nat} (h0 : y ≠ 0) (h : y < 2 ^ 64) : 9223372036854775808 ≤ y * 2 ^ (64 - Go.Lib.bitLen y) ∧ y * 2 ^ (64 - Go.Lib.bitLen y) < 18446744073709551616 := by
  obtain ⟨h1, h2, h3⟩ := bitLen_spec y h0 h
  have h4 : Go.Lib.bitLen y ≤ 64 := Go.Lib.bitLen_le y 64 (by omega) h
  have hp : 0 < 2 ^ (64 - Go.Lib.bitLen y) := Nat.two_pow_pos _
  constructor
  · have := Nat.mul_le_mul_right (2 ^ (64 - Go.Lib.bitLen y)) h1
    rw [← Nat.pow_add, show Go.Lib.bitLen y - 1 + (64 - Go.Lib.bitLen y) = 63 by omega] at this
    exact this
  · have := Nat.mul_lt_mul_of_pos_right h2 hp
    rw [← Nat.pow_add, show Go.Lib.bitLen y + (64 - Go.Lib.bitLen y) = 64 by omega] at this
    exact this
end Go.Proofs.YtndfgglnhkdciaaDoor
