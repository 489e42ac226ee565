/- Whether a claim and an act may be: the program's and the document's answer are one Bool of the numbers. -/
import Derived.Test.YtmeneojgdbjlnaaRows
import Derived.Test.YtmeneojgdbjlnaaMem
import Derived.ProofKit
namespace Go.Proofs.Ytmeneojgdbjlnaa
open Go.RowKit

structure Cl where
  id : Int
  pol : Int
  per : Int
  loss : Int
  bkd : Int
  ev : Int
structure Ac where
  b : Int
  k : Int
  m : Int
def Cl.cells (c : Cl) : List Value := [.int .i64 c.id, .int .i64 c.pol, .int .i64 c.per, .int .i64 c.loss, .int .i64 c.bkd, .int .i64 c.ev]
def encAc (a : Ac) : List Value := [.int .i64 a.b, .int .i64 a.k, .int .i64 a.m]

def wiB (n lo hi : Int) : Bool := decide (lo ≤ n ∧ n ≤ hi)
def formedB (c : Cl) : Bool := wiB c.id 1 1000000000 && wiB c.pol 1 1000000000 && wiB c.ev 0 1000000000 && wiB c.loss 1 292194 && wiB c.bkd 1 292194 && wiB c.per 0 7
def rightB (a : Ac) : Bool := wiB a.b 1 292194 && wiB a.k 1 5 && wiB a.m 0 (if a.k = 4 ∨ a.k = 5 then 0 else 1000000000000000)

theorem within_any (n lo hi : Int) (w : World) :
    Calls Try.prog 26 #[.int .i64 n, .int .i64 lo, .int .i64 hi] w fun e w' => e = .returned (.bool (wiB n lo hi)) ∧ w = w' := by
  go_enter Try.func26, Try.ntmps26
  go_wp2
  all_goals
    go_ret
    exact ⟨ret_bool (by rw [Bool.eq_iff_iff]; simp [wiB]; omega), rfl⟩

set_option maxHeartbeats 1000000 in
theorem formed_any (c : Cl) (w : World) :
    Calls Try.prog 11 #[.agg #[.int .i64 c.id, .int .i64 c.pol, .int .i64 c.per, .int .i64 c.loss, .int .i64 c.bkd, .int .i64 c.ev]] w fun e w' => e = .returned (.bool (formedB c)) ∧ Below w.heap.size w w' := by
  go_enter Try.func11, Try.ntmps11
  go_wp2_with (go_at_call 26; refine (within_any _ _ _ _).mono ?_; rintro e w' ⟨rfl, rfl⟩)
  all_goals
    go_ret
    exact ⟨ret_bool (by rw [Bool.eq_iff_iff]; simp [formedB, *]), (Below.refl _ _).alloc (Nat.le_refl _) _⟩

set_option maxHeartbeats 1000000 in
theorem formedR_any (c : Cl) (w : World) :
    Calls Try.prog 12 #[.agg #[.int .i64 c.id, .int .i64 c.pol, .int .i64 c.per, .int .i64 c.loss, .int .i64 c.bkd, .int .i64 c.ev]] w fun e w' => e = .returned (.bool (formedB c)) ∧ Below w.heap.size w w' := by
  go_enter Try.func12, Try.ntmps12
  go_wp2
  all_goals
    go_ret
    exact ⟨ret_bool (by rw [Bool.eq_iff_iff]; simp [formedB, wiB]; omega), (Below.refl _ _).alloc (Nat.le_refl _) _⟩

set_option maxHeartbeats 1000000 in
theorem right_any (b k m : Int) (w : World) :
    Calls Try.prog 13 #[.agg #[.int .i64 b, .int .i64 k, .int .i64 m]] w fun e w' => e = .returned (.bool (rightB ⟨b, k, m⟩)) ∧ Below w.heap.size w w' := by
  by_cases h4 : k = 4
  · subst h4
    go_enter Try.func13, Try.ntmps13
    go_wp2_with (go_at_call 26; refine (within_any _ _ _ _).mono ?_; rintro e w' ⟨rfl, rfl⟩)
    all_goals
      go_ret
      exact ⟨ret_bool (by rw [Bool.eq_iff_iff]; simp [rightB, *]), (Below.refl _ _).alloc (Nat.le_refl _) _⟩
  by_cases h5 : k = 5
  · subst h5
    go_enter Try.func13, Try.ntmps13
    go_wp2_with (go_at_call 26; refine (within_any _ _ _ _).mono ?_; rintro e w' ⟨rfl, rfl⟩)
    all_goals
      go_ret
      exact ⟨ret_bool (by rw [Bool.eq_iff_iff]; simp [rightB, *]), (Below.refl _ _).alloc (Nat.le_refl _) _⟩
  · have h4' : (k == 4) = false := by simpa using h4
    have h5' : (k == 5) = false := by simpa using h5
    go_enter Try.func13, Try.ntmps13
    go_wp2_with (go_at_call 26; refine (within_any _ _ _ _).mono ?_; rintro e w' ⟨rfl, rfl⟩)
    all_goals
      go_ret
      exact ⟨ret_bool (by rw [Bool.eq_iff_iff]; simp [rightB, *]), (Below.refl _ _).alloc (Nat.le_refl _) _⟩

theorem kinds (k : Int) : k = 1 ∨ k = 2 ∨ k = 3 ∨ k = 4 ∨ k = 5 ∨ (k < 1 ∨ 5 < k) := by omega

set_option maxHeartbeats 2000000 in
theorem rightR_any (b k m : Int) (w : World) :
    Calls Try.prog 14 #[.agg #[.int .i64 b, .int .i64 k, .int .i64 m]] w fun e w' => e = .returned (.bool (rightB ⟨b, k, m⟩)) ∧ Below w.heap.size w w' := by
  rcases kinds k with rfl | rfl | rfl | rfl | rfl | hk
  iterate 5
    · go_enter Try.func14, Try.ntmps14
      go_wp2
      all_goals
        go_ret
        refine ⟨ret_bool ?_, (Below.refl _ _).alloc (Nat.le_refl _) _⟩
        rw [Bool.eq_iff_iff]
        simp [rightB, wiB]
        try omega
  · have h1 : (k == 1) = false := by simp; omega
    have h2 : (k == 2) = false := by simp; omega
    have h3 : (k == 3) = false := by simp; omega
    have h4 : (k == 4) = false := by simp; omega
    have h5 : (k == 5) = false := by simp; omega
    go_enter Try.func14, Try.ntmps14
    go_wp2
    all_goals
      go_ret
      refine ⟨ret_bool ?_, (Below.refl _ _).alloc (Nat.le_refl _) _⟩
      rw [Bool.eq_iff_iff]
      simp [rightB, wiB]
      try omega
end Go.Proofs.Ytmeneojgdbjlnaa
