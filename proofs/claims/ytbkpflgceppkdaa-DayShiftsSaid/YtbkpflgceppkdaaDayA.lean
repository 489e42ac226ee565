/- Days of the calendar: plain numbers, and the smallest functions. -/
import Derived.Test.YtbkpflgceppkdaaRows
import Derived.Test.YtbkpflgceppkdaaMem
import Derived.ProofKit
import Derived.BigQuiet
import Derived.Deep.QuietTactic
import Derived.Deep.RegionWith
import Derived.Deep.DeepCutAuto
namespace Go.Proofs.Ytbkpflgceppkdaa
open Go.RowKit

def leapB (y : Int) : Bool := decide (y % 4 = 0 ∧ (y % 100 ≠ 0 ∨ y % 400 = 0))
def leapI (y : Int) : Int := if leapB y = true then 1 else 0
/-- How many days month m of year y has. -/
def lenM (y m : Int) : Int := if m = 2 then 28 + leapI y else if m = 4 ∨ m = 6 ∨ m = 9 ∨ m = 11 then 30 else 31
/-- How many days are ahead of year y. -/
def aheadI (y : Int) : Int := (y - 1601) * 365 + (y - 1601) / 4 - (y - 1601) / 100 + (y - 1601) / 400
/-- How many days of year y are ahead of month m. -/
def cumM (y m : Int) : Int :=
  if m ≤ 1 then 0 else if m = 2 then 31 else (if m = 3 then 59 else if m = 4 then 90 else if m = 5 then 120 else if m = 6 then 151 else if m = 7 then 181 else if m = 8 then 212 else if m = 9 then 243 else if m = 10 then 273 else if m = 11 then 304 else if m = 12 then 334 else 365) + leapI y
def lensC (y : Int) : Array Value := #[.int .i64 31, .int .i64 (28 + leapI y), .int .i64 31, .int .i64 30, .int .i64 31, .int .i64 30, .int .i64 31, .int .i64 31, .int .i64 30, .int .i64 31, .int .i64 30, .int .i64 31]
theorem leap_01 (y : Int) : 0 ≤ leapI y ∧ leapI y ≤ 1 := by unfold leapI; split <;> omega
theorem lenM_bd (y m : Int) : 28 ≤ lenM y m ∧ lenM y m ≤ 31 := by
  have := leap_01 y
  unfold lenM; split
  · omega
  · split <;> omega
theorem cumM_succ (y m : Int) (h1 : 1 ≤ m) (h2 : m ≤ 12) : cumM y (m + 1) = cumM y m + lenM y m := by
  have hm : m = 1 ∨ m = 2 ∨ m = 3 ∨ m = 4 ∨ m = 5 ∨ m = 6 ∨ m = 7 ∨ m = 8 ∨ m = 9 ∨ m = 10 ∨ m = 11 ∨ m = 12 := by omega
  rcases hm with rfl | rfl | rfl | rfl | rfl | rfl | rfl | rfl | rfl | rfl | rfl | rfl <;> simp [cumM, lenM] <;> omega
theorem leap_of_ahead (y : Int) : aheadI (y + 1) = aheadI y + 365 + leapI y := by
  unfold aheadI leapI leapB
  simp only [decide_eq_true_eq]
  split <;> omega

theorem tmod_zero (y : Int) (k : Int) : (y.tmod k = 0) ↔ (y % k = 0) := by
  rw [← Int.dvd_iff_tmod_eq_zero, Int.dvd_iff_emod_eq_zero]

set_option maxHeartbeats 1000000 in
theorem leap_any (y : Int) (w : World) : Calls Try.prog 15 #[.int .i64 y] w fun e w' => e = .returned (.bool (leapB y)) ∧ w = w' := by
  go_enter Try.func15, Try.ntmps15
  go_wp2
  all_goals
    go_ret
    exact ⟨ret_bool (by simp only [tmod_zero] at *; rw [Bool.eq_iff_iff]; simp [leapB, tmod_zero]; try omega), rfl⟩

set_option maxHeartbeats 1000000 in
theorem leapR_any (y : Int) (w : World) : Calls Try.prog 16 #[.int .i64 y] w fun e w' => e = .returned (.bool (leapB y)) ∧ w = w' := by
  go_enter Try.func16, Try.ntmps16
  go_wp2
  all_goals
    go_ret
    exact ⟨ret_bool (by rw [Bool.eq_iff_iff]; simp_all [leapB, tmod_zero]; try omega), rfl⟩

theorem leapI_t {y : Int} (h : leapB y = true) : leapI y = 1 := by simp [leapI, h]
theorem leapI_f {y : Int} (h : leapB y = false) : leapI y = 0 := by simp [leapI, h]

set_option maxHeartbeats 1000000 in
theorem lengths_any (y : Int) (w : World) : Calls Try.prog 26 #[.int .i64 y] w fun e w' => e = .returned (.agg (lensC y)) ∧ Below w.heap.size w w' := by
  cases hb : leapB y with
  | true =>
    have HL := hide (leapI_t hb)
    go_enter Try.func26, Try.ntmps26
    go_wp2_with (go_at_call 15; refine (leap_any _ _).mono ?_; rintro e w' ⟨rfl, rfl⟩)
    have e : lensC y = #[.int .i64 31, .int .i64 29, .int .i64 31, .int .i64 30, .int .i64 31, .int .i64 30, .int .i64 31, .int .i64 31, .int .i64 30, .int .i64 31, .int .i64 30, .int .i64 31] := by rw [lensC, HL.out]; rfl
    rw [e]
    exact ret_row (p := 2) (ty := 43) (g := w.heap.size) (t := 43) rfl rfl rfl ((Blk.new w _ _).alloc _) Try.underlying43 rfl (by kernel_rfl) ⟨rfl, ((Below.refl _ _).alloc (Nat.le_refl _) _).alloc (by simp) _⟩
  | false =>
    have HL := hide (leapI_f hb)
    go_enter Try.func26, Try.ntmps26
    go_wp2_with (go_at_call 15; refine (leap_any _ _).mono ?_; rintro e w' ⟨rfl, rfl⟩)
    have e : lensC y = #[.int .i64 31, .int .i64 28, .int .i64 31, .int .i64 30, .int .i64 31, .int .i64 30, .int .i64 31, .int .i64 31, .int .i64 30, .int .i64 31, .int .i64 30, .int .i64 31] := by rw [lensC, HL.out]; rfl
    rw [e]
    exact ret_row (p := 2) (ty := 43) (g := w.heap.size) (t := 43) rfl rfl rfl ((Blk.new w _ _).alloc _) Try.underlying43 rfl (by kernel_rfl) ⟨rfl, ((Below.refl _ _).alloc (Nat.le_refl _) _).alloc (by simp) _⟩

set_option maxHeartbeats 1000000 in
theorem ahead_any (y : Int) (h1 : 1601 ≤ y) (h2 : y ≤ 2402) (w : World) : Calls Try.prog 27 #[.int .i64 y] w fun e w' => e = .returned (.int .i64 (aheadI y)) ∧ w = w' := by
  go_enter Try.func27, Try.ntmps27
  go_wp2
  go_ret
  exact ⟨ret_int (by simp only [aheadI]), rfl⟩

theorem is_any (n : Int) (w : World) : Calls Try.prog 30 #[.int .i64 n] w fun e w' => e = .returned (.bool (decide (1 ≤ n ∧ n ≤ 292194))) ∧ w = w' := by
  go_enter Try.func30, Try.ntmps30
  go_wp2
  all_goals
    go_ret
    exact ⟨ret_bool (by rw [Bool.eq_iff_iff]; simp; omega), rfl⟩

theorem ixl0 (y : Int) (w : World) : (Instr.index 43 (.agg (lensC y)) (.int .i64 0)).run Try.prog w = .ok (.int .i64 (31)) w := by kernel_rfl
theorem ixl1 (y : Int) (w : World) : (Instr.index 43 (.agg (lensC y)) (.int .i64 1)).run Try.prog w = .ok (.int .i64 (28 + leapI y)) w := by kernel_rfl
theorem ixl2 (y : Int) (w : World) : (Instr.index 43 (.agg (lensC y)) (.int .i64 2)).run Try.prog w = .ok (.int .i64 (31)) w := by kernel_rfl
theorem ixl3 (y : Int) (w : World) : (Instr.index 43 (.agg (lensC y)) (.int .i64 3)).run Try.prog w = .ok (.int .i64 (30)) w := by kernel_rfl
theorem ixl4 (y : Int) (w : World) : (Instr.index 43 (.agg (lensC y)) (.int .i64 4)).run Try.prog w = .ok (.int .i64 (31)) w := by kernel_rfl
theorem ixl5 (y : Int) (w : World) : (Instr.index 43 (.agg (lensC y)) (.int .i64 5)).run Try.prog w = .ok (.int .i64 (30)) w := by kernel_rfl
theorem ixl6 (y : Int) (w : World) : (Instr.index 43 (.agg (lensC y)) (.int .i64 6)).run Try.prog w = .ok (.int .i64 (31)) w := by kernel_rfl
theorem ixl7 (y : Int) (w : World) : (Instr.index 43 (.agg (lensC y)) (.int .i64 7)).run Try.prog w = .ok (.int .i64 (31)) w := by kernel_rfl
theorem ixl8 (y : Int) (w : World) : (Instr.index 43 (.agg (lensC y)) (.int .i64 8)).run Try.prog w = .ok (.int .i64 (30)) w := by kernel_rfl
theorem ixl9 (y : Int) (w : World) : (Instr.index 43 (.agg (lensC y)) (.int .i64 9)).run Try.prog w = .ok (.int .i64 (31)) w := by kernel_rfl
theorem ixl10 (y : Int) (w : World) : (Instr.index 43 (.agg (lensC y)) (.int .i64 10)).run Try.prog w = .ok (.int .i64 (30)) w := by kernel_rfl
theorem ixl11 (y : Int) (w : World) : (Instr.index 43 (.agg (lensC y)) (.int .i64 11)).run Try.prog w = .ok (.int .i64 (31)) w := by kernel_rfl
theorem index_lens (y m : Int) (h1 : 1 ≤ m) (h2 : m ≤ 12) (w : World) : (Instr.index 43 (.agg (lensC y)) (.int .i64 (m - 1))).run Try.prog w = .ok (.int .i64 (lenM y m)) w := by
  have hm : m = 1 ∨ m = 2 ∨ m = 3 ∨ m = 4 ∨ m = 5 ∨ m = 6 ∨ m = 7 ∨ m = 8 ∨ m = 9 ∨ m = 10 ∨ m = 11 ∨ m = 12 := by omega
  rcases hm with rfl | rfl | rfl | rfl | rfl | rfl | rfl | rfl | rfl | rfl | rfl | rfl
  · exact ixl0 y w
  · exact ixl1 y w
  · exact ixl2 y w
  · exact ixl3 y w
  · exact ixl4 y w
  · exact ixl5 y w
  · exact ixl6 y w
  · exact ixl7 y w
  · exact ixl8 y w
  · exact ixl9 y w
  · exact ixl10 y w
  · exact ixl11 y w

theorem monthR_any (y m : Int) (w : World) (h1 : 1 ≤ m) (h2 : m ≤ 12) : Calls Try.prog 28 #[.int .i64 y, .int .i64 m] w fun e w' => e = .returned (.int .i64 (lenM y m)) ∧ w = w' := by
  have hm : m = 1 ∨ m = 2 ∨ m = 3 ∨ m = 4 ∨ m = 5 ∨ m = 6 ∨ m = 7 ∨ m = 8 ∨ m = 9 ∨ m = 10 ∨ m = 11 ∨ m = 12 := by omega
  rcases hm with rfl | rfl | rfl | rfl | rfl | rfl | rfl | rfl | rfl | rfl | rfl | rfl
  all_goals
    go_enter Try.func28, Try.ntmps28
    go_wp2_with (go_at_call 16; refine (leapR_any _ _).mono ?_; rintro e w' ⟨rfl, rfl⟩)
    all_goals
      go_ret
      exact ⟨ret_int (by simp [lenM, leapI, *]), rfl⟩
theorem yearRi_any (y : Int) (w : World) : Calls Try.prog 29 #[.int .i64 y] w fun e w' => e = .returned (.int .i64 (365 + leapI y)) ∧ w = w' := by
  go_enter Try.func29, Try.ntmps29
  go_wp2_with (go_at_call 16; refine (leapR_any _ _).mono ?_; rintro e w' ⟨rfl, rfl⟩)
  all_goals
    go_ret
    exact ⟨ret_int (by simp [leapI, *]), rfl⟩
end Go.Proofs.Ytbkpflgceppkdaa
