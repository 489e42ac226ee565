/- The years of days: the program, and the document. -/
import Derived.Test.YtclcjonogjinfaaTriA
import Derived.BigQuiet
import Derived.Deep.QuietTactic
import Derived.Deep.DeepCutAuto
namespace Go.Proofs.Ytclcjonogjinfaa
open Go.RowKit

def leapB (y : Int) : Bool := decide (y % 4 = 0 ∧ (y % 100 ≠ 0 ∨ y % 400 = 0))
def leapI (y : Int) : Int := if leapB y = true then 1 else 0
/-- How many days month m of year y has. -/
def lenM (y m : Int) : Int := if m = 2 then 28 + leapI y else if m = 4 ∨ m = 6 ∨ m = 9 ∨ m = 11 then 30 else 31
/-- How many days are ahead of year y. -/
def aheadI (y : Int) : Int := (y - 1601) * 365 + (y - 1601) / 4 - (y - 1601) / 100 + (y - 1601) / 400
/-- How many days of year y are ahead of month m. -/
def cumM (y m : Int) : Int :=
  if m ≤ 1 then 0 else if m = 2 then 31 else (if m = 3 then 59 else if m = 4 then 90 else if m = 5 then 120 else if m = 6 then 151 else if m = 7 then 181 else if m = 8 then 212 else if m = 9 then 243 else if m = 10 then 273 else if m = 11 then 304 else if m = 12 then 334 else 365) + leapI y
theorem leap_01 (y : Int) : 0 ≤ leapI y ∧ leapI y ≤ 1 := by unfold leapI; split <;> omega
theorem lenM_bd (y m : Int) : 28 ≤ lenM y m ∧ lenM y m ≤ 31 := by
  have := leap_01 y
  unfold lenM; split
  · omega
  · split <;> omega
theorem cumM_succ (y m : Int) (h1 : 1 ≤ m) (h2 : m ≤ 12) : cumM y (m + 1) = cumM y m + lenM y m := by
  have hm : m = 1 ∨ m = 2 ∨ m = 3 ∨ m = 4 ∨ m = 5 ∨ m = 6 ∨ m = 7 ∨ m = 8 ∨ m = 9 ∨ m = 10 ∨ m = 11 ∨ m = 12 := by omega
  rcases hm with rfl | rfl | rfl | rfl | rfl | rfl | rfl | rfl | rfl | rfl | rfl | rfl <;> simp [cumM, lenM] <;> omega
theorem leap_of_ahead (y : Int) : aheadI (y + 1) = aheadI y + 365 + leapI y := by
  unfold aheadI leapI leapB
  simp only [decide_eq_true_eq]
  split <;> omega
theorem tmod_zero (y : Int) (k : Int) : (y.tmod k = 0) ↔ (y % k = 0) := by
  rw [← Int.dvd_iff_tmod_eq_zero, Int.dvd_iff_emod_eq_zero]
set_option maxHeartbeats 1000000 in
theorem leapR_any (y : Int) (w : World) : Calls Try.prog 35 #[.int .i64 y] w fun e w' => e = .returned (.bool (leapB y)) ∧ w = w' := by
  go_enter Try.func35, Try.ntmps35
  go_wp2
  all_goals
    go_ret
    exact ⟨ret_bool (by rw [Bool.eq_iff_iff]; simp_all [leapB, tmod_zero]; try omega), rfl⟩
set_option maxHeartbeats 1000000 in
theorem ahead_any (y : Int) (h1 : 1601 ≤ y) (h2 : y ≤ 2402) (w : World) : Calls Try.prog 29 #[.int .i64 y] w fun e w' => e = .returned (.int .i64 (aheadI y)) ∧ w = w' := by
  go_enter Try.func29, Try.ntmps29
  go_wp2
  go_ret
  exact ⟨ret_int (by simp only [aheadI]), rfl⟩
theorem is_any (n : Int) (w : World) : Calls Try.prog 28 #[.int .i64 n] w fun e w' => e = .returned (.bool (decide (1 ≤ n ∧ n ≤ 292194))) ∧ w = w' := by
  go_enter Try.func28, Try.ntmps28
  go_wp2
  all_goals
    go_ret
    exact ⟨ret_bool (by rw [Bool.eq_iff_iff]; simp; omega), rfl⟩
theorem monthR_any (y m : Int) (w : World) (h1 : 1 ≤ m) (h2 : m ≤ 12) : Calls Try.prog 34 #[.int .i64 y, .int .i64 m] w fun e w' => e = .returned (.int .i64 (lenM y m)) ∧ w = w' := by
  have hm : m = 1 ∨ m = 2 ∨ m = 3 ∨ m = 4 ∨ m = 5 ∨ m = 6 ∨ m = 7 ∨ m = 8 ∨ m = 9 ∨ m = 10 ∨ m = 11 ∨ m = 12 := by omega
  rcases hm with rfl | rfl | rfl | rfl | rfl | rfl | rfl | rfl | rfl | rfl | rfl | rfl
  all_goals
    go_enter Try.func34, Try.ntmps34
    go_wp2_with (go_at_call 35; refine (leapR_any _ _).mono ?_; rintro e w' ⟨rfl, rfl⟩)
    all_goals
      go_ret
      exact ⟨ret_int (by simp [lenM, leapI, *]), rfl⟩
theorem yearRi_any (y : Int) (w : World) : Calls Try.prog 33 #[.int .i64 y] w fun e w' => e = .returned (.int .i64 (365 + leapI y)) ∧ w = w' := by
  go_enter Try.func33, Try.ntmps33
  go_wp2_with (go_at_call 35; refine (leapR_any _ _).mono ?_; rintro e w' ⟨rfl, rfl⟩)
  all_goals
    go_ret
    exact ⟨ret_int (by simp [leapI, *]), rfl⟩
def rightB (y m d : Int) : Bool := decide (1601 ≤ y ∧ y ≤ 2400 ∧ 1 ≤ m ∧ m ≤ 12 ∧ 1 ≤ d ∧ d ≤ lenM y m)
def numI (y m d : Int) : Int := aheadI y + cumM y m + d
theorem ahead_bd (y : Int) (h1 : 1601 ≤ y) (h2 : y ≤ 2401) : 0 ≤ aheadI y ∧ aheadI y ≤ 292194 := by unfold aheadI; omega
theorem cum_bd (y m : Int) (h2 : m ≤ 13) : 0 ≤ cumM y m ∧ cumM y m ≤ 366 := by
  have hl := leap_01 y
  have hm : m ≤ 1 ∨ m = 2 ∨ m = 3 ∨ m = 4 ∨ m = 5 ∨ m = 6 ∨ m = 7 ∨ m = 8 ∨ m = 9 ∨ m = 10 ∨ m = 11 ∨ m = 12 ∨ m = 13 := by omega
  rcases hm with h | rfl | rfl | rfl | rfl | rfl | rfl | rfl | rfl | rfl | rfl | rfl | rfl
  · simp [cumM, h]
  all_goals
    simp [cumM]
    try omega
set_option maxHeartbeats 1000000 in
theorem year_any (n : Int) (w : World) :
    Calls Try.prog 22 #[.int .i64 n] w fun e w' => ((1 ≤ n ∧ n ≤ 292194 → ∃ y, e = .returned (.tuple #[.int .i64 y, .int .i64 0]) ∧ 1601 ≤ y ∧ y ≤ 2400 ∧ aheadI y < n ∧ n ≤ aheadI (y + 1)) ∧ (¬(1 ≤ n ∧ n ≤ 292194) → e = .returned (.tuple #[.int .i64 0, .int .i64 3]))) ∧ w = w' := by
  by_cases h : 1 ≤ n ∧ n ≤ 292194
  · have hh := hide h
    obtain ⟨h1, h2⟩ := h
    have hdec : decide (1 ≤ n ∧ n ≤ 292194) = true := by simp; omega
    have HD := hide hdec
    clear hdec
    go_enter Try.func22, Try.ntmps22
    go_wp2_with (go_at_call 28; refine (is_any _ _).mono ?_; rw [HD.out]; rintro e w' ⟨rfl, rfl⟩)
    go_loop [4] (fun t => ∃ y : Int, 1601 ≤ y ∧ y ≤ 2401 ∧ n ≤ aheadI (y + 1) ∧ t = .int .i64 y) (fun t => (intOf t).toNat)
    case atStart => exact ⟨_, by omega, by omega, by unfold aheadI; omega, rfl⟩
    case round =>
      obtain ⟨y, hy1, hy2, hy3, rfl⟩ := hrel
      by_cases hc : n ≤ aheadI y
      · have hy : 1602 ≤ y := by
          rcases Int.lt_or_le 1601 y with hlt | hle
          · omega
          · obtain rfl : y = 1601 := by omega
            simp [aheadI] at hc
            omega
        go_wp2_with (go_at_call 29; refine (ahead_any _ (by omega) (by omega) _).mono ?_; rintro e w' ⟨rfl, rfl⟩)
        go_round
        case rel => exact ⟨y - 1, by omega, by omega, by rw [show y - 1 + 1 = y by omega]; exact hc, rfl⟩
        case measure => simp [intOf]; omega
      · have hc' : aheadI y < n := by omega
        have hy : y ≤ 2400 := by
          rcases Int.lt_or_le y 2401 with hlt | hle
          · omega
          · obtain rfl : y = 2401 := by omega
            simp [aheadI] at hc'
            omega
        go_wp2_with (go_at_call 29; refine (ahead_any _ (by omega) (by omega) _).mono ?_; rintro e w' ⟨rfl, rfl⟩)
        go_ret2
        exact ⟨⟨fun _ => ⟨y, rfl, hy1, hy, hc', hy3⟩, fun h => absurd hh.out h⟩, rfl⟩
  · have hh := hide h
    have hdec : decide (1 ≤ n ∧ n ≤ 292194) = false := by simp; omega
    have HD := hide hdec
    clear hdec h
    go_enter Try.func22, Try.ntmps22
    go_wp2_with (go_at_call 28; refine (is_any _ _).mono ?_; rw [HD.out]; rintro e w' ⟨rfl, rfl⟩)
    go_ret2
    exact ⟨⟨fun h => absurd h hh.out, fun _ => rfl⟩, rfl⟩
def OfPost (n : Int) (w : World) (e : Ending) (w' : World) : Prop :=
  ∃ y m d : Int, e = .returned (.tuple #[.agg #[.int .i64 y, .int .i64 m, .int .i64 d], .int .i64 0]) ∧ rightB y m d = true ∧ numI y m d = n ∧ Below w.heap.size w w'
theorem ahead_q (q : Int) : aheadI (1601 + q) = q * 365 + q / 4 - q / 100 + q / 400 := by
  unfold aheadI
  rw [show 1601 + q - 1601 = q by omega]
theorem ahead_q1 (q : Int) : aheadI (1601 + q - 1) = (q - 1) * 365 + (q - 1) / 4 - (q - 1) / 100 + (q - 1) / 400 := by
  rw [show 1601 + q - 1 = 1601 + (q - 1) by omega, ahead_q]
/-- The year of a day, as a number. -/
def yearI (n : Int) : Int := if n ≤ aheadI (1601 + (n - 1) / 365) then 1601 + (n - 1) / 365 - 1 else 1601 + (n - 1) / 365
theorem yearI_ok (n : Int) (h1 : 1 ≤ n) (h2 : n ≤ 292194) : 1601 ≤ yearI n ∧ yearI n ≤ 2400 ∧ aheadI (yearI n) < n ∧ n ≤ aheadI (yearI n + 1) := by
  obtain ⟨q, hq⟩ : ∃ q, (n - 1) / 365 = q := ⟨_, rfl⟩
  unfold yearI
  rw [hq]
  have hq1 : 365 * q ≤ n - 1 ∧ n - 1 < 365 * q + 365 := by omega
  clear hq
  split
  · rename_i h
    rw [ahead_q] at h
    rw [show 1601 + q - 1 + 1 = 1601 + q by omega, ahead_q, ahead_q1]
    omega
  · rename_i h
    rw [ahead_q] at h
    rw [show 1601 + q + 1 = 1601 + (q + 1) by omega, ahead_q, ahead_q]
    omega
theorem ahead_lt {y z : Int} (h1 : 1601 ≤ y) (h : y < z) : aheadI y < aheadI z := by
  obtain ⟨p, rfl⟩ : ∃ p, y = 1601 + p := ⟨y - 1601, by omega⟩
  obtain ⟨q, rfl⟩ : ∃ q, z = 1601 + q := ⟨z - 1601, by omega⟩
  rw [ahead_q, ahead_q]
  omega
theorem year_uniq {y z n : Int} (hy : 1601 ≤ y) (hz : 1601 ≤ z) (h1 : aheadI y < n) (h2 : n ≤ aheadI (y + 1)) (h3 : aheadI z < n) (h4 : n ≤ aheadI (z + 1)) : y = z := by
  rcases Int.lt_trichotomy y z with h | h | h
  · rcases Int.lt_or_le (y + 1) z with h' | h'
    · have := ahead_lt (by omega) h'
      omega
    · have e : z = y + 1 := by omega
      rw [← e] at h2
      omega
  · exact h
  · rcases Int.lt_or_le (z + 1) y with h' | h'
    · have := ahead_lt (by omega) h'
      omega
    · have e : y = z + 1 := by omega
      rw [← e] at h4
      omega
theorem year_val (n : Int) (w : World) (h1 : 1 ≤ n) (h2 : n ≤ 292194) : Calls Try.prog 22 #[.int .i64 n] w fun e w' => e = .returned (.tuple #[.int .i64 (yearI n), .int .i64 0]) ∧ w = w' :=
  (year_any n w).mono fun _ _ ⟨⟨hy, _⟩, hw⟩ => by
    obtain ⟨y, he, a, b, c, d⟩ := hy ⟨h1, h2⟩
    obtain ⟨a', b', c', d'⟩ := yearI_ok n h1 h2
    rw [year_uniq a a' c d c' d'] at he
    exact ⟨he, hw⟩
theorem year_bad (n : Int) (w : World) (h : ¬(1 ≤ n ∧ n ≤ 292194)) : Calls Try.prog 22 #[.int .i64 n] w fun e w' => e = .returned (.tuple #[.int .i64 0, .int .i64 3]) ∧ w = w' :=
  (year_any n w).mono fun _ _ ⟨⟨_, hn⟩, hw⟩ => ⟨hn h, hw⟩
theorem ahead0 : aheadI 1601 = 0 := by simp [aheadI]
theorem cum1 (y : Int) : cumM y 1 = 0 := by simp [cumM]
set_option maxHeartbeats 2000000 in
theorem ofR_yes (n : Int) (w : World) (h1 : 1 ≤ n) (h2 : n ≤ 292194) : Calls Try.prog 32 #[.int .i64 n] w (OfPost n w) := by
  obtain ⟨hy1, hy2, hy3, hy4⟩ := yearI_ok n h1 h2
  obtain ⟨y, hy⟩ : ∃ y, yearI n = y := ⟨_, rfl⟩
  rw [hy] at hy1 hy2 hy3 hy4
  clear hy
  go_enter Try.func32, Try.ntmps32
  go_wp2_with fail
  go_loop [0, 4] (fun t i => ∃ z : Int, 1601 ≤ z ∧ z ≤ y ∧ i = .int .i64 z ∧ t = .int .i64 (n - aheadI z)) (fun _ i => (y - intOf i).toNat)
  case atStart => exact ⟨1601, by omega, by omega, rfl, by rw [ahead0]; simp⟩
  case round =>
    obtain ⟨z, hz1, hz2, rfl, rfl⟩ := hrel
    have hzb := ahead_bd z hz1 (by omega)
    have hl01 := leap_01 z
    have hs := leap_of_ahead z
    rcases Int.lt_or_le z y with hlt | hge
    · have hgt : 365 + leapI z < n - aheadI z := by
        rcases Int.lt_or_le (z + 1) y with h | h
        · have := ahead_lt (by omega) h; omega
        · have e : z + 1 = y := by omega
          rw [e] at hs; omega
      have HS := hide hs
      clear hs
      go_wp2_with (go_at_call 33; refine (yearRi_any _ _).mono ?_; rintro e w' ⟨rfl, rfl⟩)
      go_round
      case rel => exact ⟨z + 1, by omega, by omega, rfl, by rw [HS.out]; go_num⟩
      case measure => simp [intOf]; omega
    · obtain rfl : z = y := by omega
      have hle : n - aheadI z ≤ 365 + leapI z := by omega
      clear hs hge
      go_wp2_with (go_at_call 33; refine (yearRi_any _ _).mono ?_; rintro e w' ⟨rfl, rfl⟩)
      go_loop [0, 5] (fun t i => ∃ q : Int, 1 ≤ q ∧ q ≤ 12 ∧ i = .int .i64 q ∧ 1 ≤ n - aheadI z - cumM z q ∧ t = .int .i64 (n - aheadI z - cumM z q)) (fun _ i => (12 - intOf i).toNat)
      case atStart => exact ⟨1, by omega, by omega, rfl, by rw [cum1]; omega, by rw [cum1]; simp⟩
      case round =>
        obtain ⟨q, hq1, hq2, rfl, hd1, rfl⟩ := hrel
        have hcb := cum_bd z q (by omega)
        have hlq := lenM_bd z q
        have hs := cumM_succ z q hq1 hq2
        rcases Int.lt_or_le (lenM z q) (n - aheadI z - cumM z q) with hlt | hle'
        · have hq12 : q < 12 := by
            rcases Int.lt_or_le q 12 with h | h
            · exact h
            · obtain rfl : q = 12 := by omega
              have e1 : cumM z 12 = 334 + leapI z := by simp [cumM]
              have e2 : lenM z 12 = 31 := by simp [lenM]
              omega
          have HS := hide hs
          clear hs
          go_wp2_with (go_at_call 34; refine (monthR_any _ _ _ (by omega) (by omega)).mono ?_; rintro e w' ⟨rfl, rfl⟩)
          go_round
          case rel => exact ⟨q + 1, by omega, by omega, rfl, by have := HS.out; omega, by have := HS.out; go_num⟩
          case measure => simp [intOf]; omega
        · clear hs
          go_wp2_with (go_at_call 34; refine (monthR_any _ _ _ (by omega) (by omega)).mono ?_; rintro e w' ⟨rfl, rfl⟩)
          refine ret_row2 (p := 2) (u := 3) (ty := 49) (g := w.heap.size) (x := .int .i64 0) rfl rfl rfl rfl (Blk.new w _ _) Try.underlying49 rfl (by kernel_rfl) ⟨z, q, n - aheadI z - cumM z q, rfl, ?_, ?_, (Below.refl _ _).alloc (Nat.le_refl _) _⟩
          · simp only [rightB, decide_eq_true_eq]; omega
          · simp only [numI]; omega
set_option maxHeartbeats 1000000 in
theorem ofR_no (n : Int) (w : World) (h : ¬(1 ≤ n ∧ n ≤ 292194)) : Calls Try.prog 32 #[.int .i64 n] w fun e w' => e = .returned (.tuple #[.agg #[.int .i64 0, .int .i64 0, .int .i64 0], .int .i64 3]) ∧ Below w.heap.size w w' := by
  have h' : n < 1 ∨ 292194 < n := by omega
  clear h
  rcases h' with h | h
  all_goals
    go_enter Try.func32, Try.ntmps32
    go_wp2_with fail
    exact ret_row2 (p := 2) (u := 3) (ty := 49) (g := w.heap.size) (x := .int .i64 3) rfl rfl rfl rfl (Blk.new w _ _) Try.underlying49 rfl (by kernel_rfl) ⟨rfl, (Below.refl _ _).alloc (Nat.le_refl _) _⟩
theorem cum13 (y : Int) : cumM y 13 = 365 + leapI y := by simp [cumM]
theorem cum_mono (y m : Int) (h1 : 1 ≤ m) : ∀ k : Nat, m + k ≤ 13 → cumM y m ≤ cumM y (m + k)
  | 0, _ => by simp
  | k + 1, h => by
    have ih := cum_mono y m h1 k (by omega)
    have := cumM_succ y (m + k) (by omega) (by omega)
    have hb := lenM_bd y (m + k)
    rw [show m + ((k + 1 : Nat) : Int) = m + k + 1 by omega]
    omega
theorem cum_lt (y : Int) {m m' : Int} (h1 : 1 ≤ m) (h : m < m') (h2 : m' ≤ 13) : cumM y m + lenM y m ≤ cumM y m' := by
  obtain ⟨k, hk⟩ : ∃ k : Nat, m' = m + 1 + k := ⟨(m' - m - 1).toNat, by omega⟩
  have := cum_mono y (m + 1) (by omega) k (by omega)
  rw [cumM_succ y m h1 (by omega)] at this
  rw [hk]; exact this
theorem right_iff {y m d : Int} : rightB y m d = true ↔ (1601 ≤ y ∧ y ≤ 2400 ∧ 1 ≤ m ∧ m ≤ 12 ∧ 1 ≤ d ∧ d ≤ lenM y m) := by simp [rightB]
theorem in_year {y m d : Int} (h : rightB y m d = true) : aheadI y < numI y m d ∧ numI y m d ≤ aheadI (y + 1) := by
  rw [right_iff] at h
  obtain ⟨_, _, h3, h4, h5, h6⟩ := h
  have h7 := cum_lt y h3 (show m < 13 by omega) (by omega)
  have h8 := cum_bd y m (by omega)
  rw [cum13] at h7
  have h9 := leap_of_ahead y
  unfold numI; omega

/-- A day's year, or 0. -/
def yrV (n : Int) : Int := if 1 ≤ n ∧ n ≤ 292194 then yearI n else 0
def yrE (n : Int) : Int := if 1 ≤ n ∧ n ≤ 292194 then 0 else 3
theorem year_v (n : Int) (w : World) : Calls Try.prog 22 #[.int .i64 n] w fun e w' => e = .returned (.tuple #[.int .i64 (yrV n), .int .i64 (yrE n)]) ∧ w = w' := by
  by_cases h : 1 ≤ n ∧ n ≤ 292194
  · rw [yrV, yrE, if_pos h, if_pos h]; exact year_val n w h.1 h.2
  · rw [yrV, yrE, if_neg h, if_neg h]; exact year_bad n w h
set_option maxHeartbeats 1000000 in
theorem yearR_v (n : Int) (w : World) : Calls Try.prog 30 #[.int .i64 n] w fun e w' => e = .returned (.tuple #[.int .i64 (yrV n), .int .i64 (yrE n)]) ∧ Below w.heap.size w w' := by
  by_cases h : 1 ≤ n ∧ n ≤ 292194
  · rw [yrV, yrE, if_pos h, if_pos h]
    obtain ⟨a, b, c, d⟩ := yearI_ok n h.1 h.2
    have HU := hide (fun (y m dd : Int) (r : rightB y m dd = true) (e : numI y m dd = n) => (show y = yearI n by
      have i := in_year r
      rw [e] at i
      rw [right_iff] at r
      exact (year_uniq a r.1 c d i.1 i.2).symm))
    clear a b c d
    obtain ⟨Y, hY⟩ : ∃ Y, yearI n = Y := ⟨_, rfl⟩
    rw [hY] at HU ⊢
    clear hY
    go_enter Try.func30, Try.ntmps30
    go_wp2_with fail
    refine (ofR_yes n _ h.1 h.2).mono ?_
    rintro e w1 ⟨y, m, d, rfl, hr, hn, hb⟩
    obtain rfl := HU.out y m d hr hn
    clear hr hn
    go_wp2_with fail
    go_ret2
    exact ⟨rfl, hb.alloc hb.size _⟩
  · rw [yrV, yrE, if_neg h, if_neg h]
    have H := hide h
    clear h
    go_enter Try.func30, Try.ntmps30
    go_wp2_with fail
    refine (ofR_no n _ H.out).mono ?_
    rintro e w1 ⟨rfl, hb⟩
    go_wp2_with fail
    go_ret2
    exact ⟨rfl, hb.alloc hb.size _⟩
end Go.Proofs.Ytclcjonogjinfaa
