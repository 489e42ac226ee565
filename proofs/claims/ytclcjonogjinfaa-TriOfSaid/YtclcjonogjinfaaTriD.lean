/- Rows: what is amiss with one; how they come in. -/
import Derived.Test.YtclcjonogjinfaaTriY
namespace Go.Proofs.Ytclcjonogjinfaa
open Go.ChangeShapes Go.WideShapes Go.ChangeAt Go.RowKit

/-- A row: the day of the loss, the day it was booked, how much. -/
structure R3 where
  a : Int
  b : Int
  m : Int
def enc3 (x : R3) : List Value := [.int .i64 x.a, .int .i64 x.b, .int .i64 x.m]
def ok3 (x : R3) : Prop := ok64 x.a ∧ ok64 x.b ∧ ok64 x.m
theorem cells_3 : Try.prog.cellsOf 36 = 3 := by kernel_rfl
theorem leaves_3 : leaves Try.prog 2 36 = some [.int .i64, .int .i64, .int .i64] := by kernel_rfl
section
variable {H : Type} {enc : TypeId × Value → H} {W : World} {r : Reach} {b0 : Nat} {v : Value} {d : DataW H} {p : List MemPlace}
theorem open_r3 (hv : Value.okWide Try.prog W r b0 36 v) (h : DataW.Trod enc Try.prog W 0 (fun _ => true) true 36 v d p) :
    ∃ x : R3, v = .agg #[.int .i64 x.a, .int .i64 x.b, .int .i64 x.m] ∧ ok3 x := by
  obtain ⟨l, rfl, hl⟩ := top_arr enc Try.prog W 2 Try.underlying36 leaves_3 cells_3 hv h
  obtain ⟨n1, l1, rfl, w1, h1⟩ := leaf_int enc _ _ hl
  obtain ⟨n2, l2, rfl, w2, h2⟩ := leaf_int enc _ _ h1
  obtain ⟨n3, l3, rfl, w3, h3⟩ := leaf_int enc _ _ h2
  obtain rfl := allLeaf_nil enc _ _ h3
  exact ⟨⟨n1, n2, n3⟩, rfl, wf64 w1, wf64 w2, wf64 w3⟩
theorem open_r3s (hv : Value.okWide Try.prog W r b0 30 v) (h : DataW.Trod enc Try.prog W 0 (fun _ => true) true 30 v d p) :
    ∃ (A : Option Addr) (l : List R3) (cap : Nat), v = .slice A l.length cap ∧ SV W 3 A l.length cap (l.map enc3) ∧ ∀ x ∈ l, ok3 x := by
  obtain ⟨A, l, cap, hv, h1, h2, h3, h4, h5⟩ := rows_of enc Try.prog W (α := R3) 2 3 enc3 ok3 leaves_3 cells_3 rfl (by omega) (fun cs hl => by
    obtain ⟨n1, l1, rfl, w1, h1⟩ := leaf_int enc _ _ hl
    obtain ⟨n2, l2, rfl, w2, h2⟩ := leaf_int enc _ _ h1
    obtain ⟨n3, l3, rfl, w3, h3⟩ := leaf_int enc _ _ h2
    obtain rfl := allLeaf_nil enc _ _ h3
    exact ⟨⟨n1, n2, n3⟩, rfl, wf64 w1, wf64 w2, wf64 w3⟩) (top_slice enc _ _ Try.underlying30 hv h)
  exact ⟨A, l, cap, hv, ⟨h3, List.length_map _, h1, h2, h5⟩, h4⟩
end
theorem Sl.r3 {w : World} {B k : Nat} {A : Option Addr} {l : List R3} {x : R3} (h : Sl w B 3 A (l.map enc3)) (hx : l[k]? = some x) :
    ∃ b off, A = some ⟨b, off, none⟩ ∧ b < B ∧ w.cell? ⟨b, off + k * 3, none⟩ = some (.int .i64 x.a) ∧ w.cell? ⟨b, off + k * 3 + 1, none⟩ = some (.int .i64 x.b) ∧ w.cell? ⟨b, off + k * 3 + 2, none⟩ = some (.int .i64 x.m) := by
  obtain ⟨b, off, hA, hb, hc⟩ := h k (enc3 x) (by simp [hx])
  exact ⟨b, off, hA, hb, hc 0 _ rfl, hc 1 _ rfl, hc 2 _ rfl⟩

def moneyB (m : Int) : Bool := decide (0 ≤ m ∧ m ≤ 1000000000000000)
/-- What is amiss with a row. -/
def chk (x : R3) : Int := if ¬(1 ≤ x.a ∧ x.a ≤ 292194 ∧ 1 ≤ x.b ∧ x.b ≤ 292194 ∧ 0 ≤ x.m ∧ x.m ≤ 1000000000000000) then 1 else if x.b < x.a then 4 else 0
theorem money_any (m : Int) (w : World) : Calls Try.prog 27 #[.int .i64 m] w fun e w' => e = .returned (.bool (moneyB m)) ∧ w = w' := by
  go_enter Try.func27, Try.ntmps27
  go_wp2
  all_goals
    go_ret
    exact ⟨ret_bool (by rw [Bool.eq_iff_iff]; simp [moneyB]; omega), rfl⟩

set_option maxHeartbeats 2000000 in
theorem check_any (a b m : Int) (w : World) : Calls Try.prog 21 #[.agg #[.int .i64 a, .int .i64 b, .int .i64 m]] w fun e w' => e = .returned (.int .i64 (chk ⟨a, b, m⟩)) ∧ Below w.heap.size w w' := by
  rcases (show a < 1 ∨ (1 ≤ a ∧ 292194 < a) ∨ (1 ≤ a ∧ a ≤ 292194 ∧ b < 1) ∨ (1 ≤ a ∧ a ≤ 292194 ∧ 1 ≤ b ∧ 292194 < b) ∨ (1 ≤ a ∧ a ≤ 292194 ∧ 1 ≤ b ∧ b ≤ 292194) by omega) with h | ⟨h, h1⟩ | ⟨h, h1, h2⟩ | ⟨h, h1, h2, h3⟩ | ⟨h, h1, h2, h3⟩
  iterate 4
    · have e : chk ⟨a, b, m⟩ = 1 := by rw [chk, if_pos (by simp only; omega)]
      have E := hide e
      clear e
      go_enter Try.func21, Try.ntmps21
      go_wp2_with fail
      go_ret
      exact ⟨by rw [E.out]; rfl, (Below.refl _ _).alloc (Nat.le_refl _) _⟩
  cases hm : moneyB m
  · have e : chk ⟨a, b, m⟩ = 1 := by
      simp only [moneyB, decide_eq_false_iff_not] at hm
      rw [chk, if_pos (by simp only; omega)]
    have E := hide e
    clear e
    go_enter Try.func21, Try.ntmps21
    go_wp2_with (go_at_call 27; refine (money_any _ _).mono ?_; rintro e w' ⟨rfl, rfl⟩)
    go_ret
    exact ⟨by rw [E.out]; rfl, (Below.refl _ _).alloc (Nat.le_refl _) _⟩
  · by_cases hba : b < a
    · have e : chk ⟨a, b, m⟩ = 4 := by
        simp only [moneyB, decide_eq_true_eq] at hm
        rw [chk, if_neg (by simp only; omega), if_pos hba]
      have E := hide e
      clear e
      go_enter Try.func21, Try.ntmps21
      go_wp2_with (go_at_call 27; refine (money_any _ _).mono ?_; rintro e w' ⟨rfl, rfl⟩)
      go_ret
      exact ⟨by rw [E.out]; rfl, (Below.refl _ _).alloc (Nat.le_refl _) _⟩
    · have e : chk ⟨a, b, m⟩ = 0 := by
        simp only [moneyB, decide_eq_true_eq] at hm
        rw [chk, if_neg (by simp only; omega), if_neg hba]
      have E := hide e
      clear e
      go_enter Try.func21, Try.ntmps21
      go_wp2_with (go_at_call 27; refine (money_any _ _).mono ?_; rintro e w' ⟨rfl, rfl⟩)
      go_ret
      exact ⟨by rw [E.out]; rfl, (Below.refl _ _).alloc (Nat.le_refl _) _⟩

set_option maxHeartbeats 2000000 in
theorem checkR_any (a b m : Int) (w : World) : Calls Try.prog 23 #[.agg #[.int .i64 a, .int .i64 b, .int .i64 m]] w fun e w' => e = .returned (.int .i64 (chk ⟨a, b, m⟩)) ∧ Below w.heap.size w w' := by
  rcases (show a < 1 ∨ (1 ≤ a ∧ 292194 < a) ∨ (1 ≤ a ∧ a ≤ 292194 ∧ b < 1) ∨ (1 ≤ a ∧ a ≤ 292194 ∧ 1 ≤ b ∧ 292194 < b) ∨ (1 ≤ a ∧ a ≤ 292194 ∧ 1 ≤ b ∧ b ≤ 292194 ∧ m < 0) ∨ (1 ≤ a ∧ a ≤ 292194 ∧ 1 ≤ b ∧ b ≤ 292194 ∧ 0 ≤ m ∧ 1000000000000000 < m) ∨ (1 ≤ a ∧ a ≤ 292194 ∧ 1 ≤ b ∧ b ≤ 292194 ∧ 0 ≤ m ∧ m ≤ 1000000000000000) by omega) with h | ⟨h, h1⟩ | ⟨h, h1, h2⟩ | ⟨h, h1, h2, h3⟩ | ⟨h, h1, h2, h3, h4⟩ | ⟨h, h1, h2, h3, h4, h5⟩ | ⟨h, h1, h2, h3, h4, h5⟩
  iterate 6
    · have e : chk ⟨a, b, m⟩ = 1 := by rw [chk, if_pos (by simp only; omega)]
      have E := hide e
      clear e
      go_enter Try.func23, Try.ntmps23
      go_wp2_with fail
      go_ret
      exact ⟨by rw [E.out]; rfl, (Below.refl _ _).alloc (Nat.le_refl _) _⟩
  by_cases hba : b < a
  · have e : chk ⟨a, b, m⟩ = 4 := by rw [chk, if_neg (by simp only; omega), if_pos hba]
    have E := hide e
    clear e
    go_enter Try.func23, Try.ntmps23
    go_wp2_with fail
    go_ret
    exact ⟨by rw [E.out]; rfl, (Below.refl _ _).alloc (Nat.le_refl _) _⟩
  · have e : chk ⟨a, b, m⟩ = 0 := by rw [chk, if_neg (by simp only; omega), if_neg hba]
    have E := hide e
    clear e
    go_enter Try.func23, Try.ntmps23
    go_wp2_with fail
    go_ret
    exact ⟨by rw [E.out]; rfl, (Below.refl _ _).alloc (Nat.le_refl _) _⟩

theorem yr_any (n : Int) (w : World) : Calls Try.prog 24 #[.int .i64 n] w fun e w' => e = .returned (.int .i64 (yrV n)) ∧ Below w.heap.size w w' := by
  go_enter Try.func24, Try.ntmps24
  go_wp2_with fail
  refine (yearR_v n _).mono ?_
  rintro e w1 ⟨rfl, hb⟩
  go_wp2_with fail
  go_ret
  exact ⟨rfl, hb⟩
end Go.Proofs.Ytclcjonogjinfaa
