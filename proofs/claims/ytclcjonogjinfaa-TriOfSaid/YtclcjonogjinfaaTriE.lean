/- Sizes that are looked at. -/
import Derived.Test.YtclcjonogjinfaaTriD
namespace Go.Proofs.Ytclcjonogjinfaa
open Go.RowKit

/-- How many cells a triangle's rows have, in 64 bits. -/
def cellsN (c : List (List Int)) : Int := c.foldl (fun n l => wrap64 (n + l.length)) 0
theorem cellsN_take {c : List (List Int)} {k : Nat} {l : List Int} (h : c[k]? = some l) : cellsN (c.take (k + 1)) = wrap64 (cellsN (c.take k) + l.length) := by rw [take_of h]; simp [cellsN]
def smallB (c : List (List Int)) : Bool := decide (c.length ≤ 100) && decide (cellsN c ≤ 1000)

set_option maxHeartbeats 1000000 in
theorem small_any (f : Int) (A : Option Addr) (cap : Nat) (M : List Rw) (w : World) (hs : MV w A M.length cap M) :
    Calls Try.prog 9 #[.agg #[.int .i64 f, .slice A M.length cap]] w fun e w' => e = .returned (.bool (smallB (allM M))) ∧ Below w.heap.size w w' := by
  have HS := hide hs
  clear hs
  have hmx := HS.out.sv.le
  have hmy := HS.out.sv.most
  unfold maxLen at hmy
  go_enter Try.func9, Try.ntmps9
  go_wp2_with fail
  go_loop [3, 9] (fun t i => ∃ k : Nat, k ≤ M.length ∧ i = .int .i64 k ∧ t = .int .i64 (cellsN ((allM M).take k))) (fun _ i => M.length - (intOf i).toNat)
  case atStart => exact ⟨0, Nat.zero_le _, rfl, rfl⟩
  case round =>
    obtain ⟨k, hk, rfl, rfl⟩ := hrel
    by_cases hlt : k < M.length
    · obtain ⟨⟨B, l, bc⟩, hx⟩ := get_of hlt
      obtain ⟨bb, off, rfl, hbl, hc⟩ := HS.out.sv.sl.rw hx
      simp only at hc
      have hk0 : (0 : Int) ≤ (k : Int) := by omega
      have hk1 : (k : Int) < (M.length : Int) := by omega
      have HT := hide (cellsN_take (allM_get hx))
      clear hx
      go_wp2_with fail
      go_round
      case rel => exact ⟨k + 1, by omega, by go_num, by rw [HT.out]⟩
      case measure => simp [intOf]; omega
    · obtain rfl : k = M.length := by omega
      rw [List.take_of_length_le (by rw [allM_len]; exact Nat.le_refl _)]
      have hl := allM_len M
      obtain ⟨N, hN⟩ : ∃ N, cellsN (allM M) = N := ⟨_, rfl⟩
      rw [hN]
      have HN := hide hN
      have HL := hide hl
      clear hN hl
      by_cases h1 : M.length ≤ 100
      · have h1' : (M.length : Int) ≤ 100 := by omega
        go_wp2_with fail
        go_ret
        exact ⟨ret_bool (by rw [smallB, HN.out, HL.out]; simp [h1]), (Below.refl _ _).alloc (Nat.le_refl _) _⟩
      · have h1' : (100 : Int) < (M.length : Int) := by omega
        go_wp2_with fail
        go_ret
        exact ⟨ret_bool (by rw [smallB, HL.out]; simp [h1]), (Below.refl _ _).alloc (Nat.le_refl _) _⟩

theorem few_any (A : Option Addr) (n cap : Nat) (w : World) (hm : n ≤ 9223372036854775807) : Calls Try.prog 16 #[.slice A n cap] w fun e w' => e = .returned (.bool (decide (n ≤ 200))) ∧ w = w' := by
  go_enter Try.func16, Try.ntmps16
  go_wp2
  go_ret
  exact ⟨ret_bool (by rw [Bool.eq_iff_iff]; simp; omega), rfl⟩
end Go.Proofs.Ytclcjonogjinfaa
