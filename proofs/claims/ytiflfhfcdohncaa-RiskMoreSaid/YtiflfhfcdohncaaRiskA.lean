/- Whether a risk may be: the program's and the document's answer are one Bool of its four numbers. -/
import Derived.Test.YtiflfhfcdohncaaRows
import Derived.Test.YtiflfhfcdohncaaMem
import Derived.ProofKit
namespace Go.Proofs.Ytiflfhfcdohncaa
open Go.RowKit

def riskB (k v a z : Int) : Bool := decide (0 ≤ k ∧ k < 4 ∧ 1 ≤ v ∧ v ≤ 1000000000000000 ∧ 0 ≤ a ∧ a ≤ 200 ∧ 0 ≤ z ∧ z < 100)

theorem right_any (k v a z : Int) (w : World) :
    Calls Try.prog 10 #[.agg #[.int .i64 k, .int .i64 v, .int .i64 a, .int .i64 z]] w fun e w' => e = .returned (.bool (riskB k v a z)) ∧ Below w.heap.size w w' := by
  go_enter Try.func10, Try.ntmps10
  go_wp2
  all_goals
    go_ret
    exact ⟨ret_bool (by rw [Bool.eq_iff_iff]; simp [riskB]; omega), (Below.refl _ _).alloc (Nat.le_refl _) _⟩

theorem rightR_any (k v a z : Int) (w : World) :
    Calls Try.prog 11 #[.agg #[.int .i64 k, .int .i64 v, .int .i64 a, .int .i64 z]] w fun e w' => e = .returned (.bool (riskB k v a z)) ∧ Below w.heap.size w w' := by
  go_enter Try.func11, Try.ntmps11
  go_wp2
  all_goals
    go_ret
    exact ⟨ret_bool (by rw [Bool.eq_iff_iff]; simp [riskB]; omega), (Below.refl _ _).alloc (Nat.le_refl _) _⟩
end Go.Proofs.Ytiflfhfcdohncaa
