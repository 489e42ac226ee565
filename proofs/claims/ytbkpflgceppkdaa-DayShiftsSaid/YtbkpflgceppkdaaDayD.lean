/- Days and their numbers: the document's functions, year by year, month by month. -/
import Derived.Test.YtbkpflgceppkdaaDayC
namespace Go.Proofs.Ytbkpflgceppkdaa
open Go.RowKit

theorem monthR_q (y m : Int) (w : World) (h1 : 1 ≤ m) (h2 : m ≤ 12) : Calls Try.prog 28 #[.int .i64 y, .int .i64 m] w fun e w' => e = .returned (.int .i64 (lenM y m)) ∧ w' = w :=
  (monthR_any y m w h1 h2).mono fun _ _ ⟨he, hw⟩ => ⟨he, hw.symm⟩

theorem ahead0 : aheadI 1601 = 0 := by simp [aheadI]
theorem cum1 (y : Int) : cumM y 1 = 0 := by simp [cumM]

set_option maxHeartbeats 2000000 in
theorem numberR_yes (y m d : Int) (w : World) (hr : rightB y m d = true) : Calls Try.prog 14 #[.agg #[.int .i64 y, .int .i64 m, .int .i64 d]] w fun e w' => e = .returned (.tuple #[.int .i64 (numI y m d), .int .i64 0]) ∧ Below w.heap.size w w' := by
  simp only [rightB, decide_eq_true_eq] at hr
  obtain ⟨h1, h2, h3, h4, h5, h6⟩ := hr
  have hlb := lenM_bd y m
  go_enter Try.func14, Try.ntmps14
  go_wp2_with fail
  go_quiet ((go_at_call 28; exact Calls.quiet_of_same (monthR_q _ _ _ h3 h4)))
  go_wp2_with fail
  go_loop [4, 5] (fun t i => ∃ z : Int, 1601 ≤ z ∧ z ≤ y ∧ i = .int .i64 z ∧ t = .int .i64 (d + aheadI z)) (fun _ i => (y - intOf i).toNat)
  case atStart => exact ⟨1601, by omega, by omega, rfl, by rw [ahead0]; simp⟩
  case round =>
    obtain ⟨z, hz1, hz2, rfl, rfl⟩ := hrel
    have hzb := ahead_bd z hz1 (by omega)
    have hl01 := leap_01 z
    by_cases hlt : z < y
    · have HS := hide (leap_of_ahead z)
      go_wp2_with (go_at_call 29; refine (yearRi_any _ _).mono ?_; rintro e w' ⟨rfl, rfl⟩)
      go_round
      case rel => exact ⟨z + 1, by omega, by omega, rfl, by rw [HS.out]; go_num⟩
      case measure => simp [intOf]; omega
    · obtain rfl : z = y := by omega
      go_wp2_with fail
      go_loop [4, 6] (fun t i => ∃ q : Int, 1 ≤ q ∧ q ≤ m ∧ i = .int .i64 q ∧ t = .int .i64 (d + aheadI z + cumM z q)) (fun _ i => (m - intOf i).toNat)
      case atStart => exact ⟨1, by omega, by omega, rfl, by rw [cum1]; simp⟩
      case round =>
        obtain ⟨q, hq1, hq2, rfl, rfl⟩ := hrel
        have hcb := cum_bd z q (by omega)
        have hlq := lenM_bd z q
        by_cases hlt' : q < m
        · have HS := hide (cumM_succ z q hq1 (by omega))
          go_wp2_with (go_at_call 28; refine (monthR_any _ _ _ (by omega) (by omega)).mono ?_; rintro e w' ⟨rfl, rfl⟩)
          go_round
          case rel => exact ⟨q + 1, by omega, by omega, rfl, by rw [HS.out]; go_num⟩
          case measure => simp [intOf]; omega
        · obtain rfl : q = m := by omega
          go_wp2_with fail
          go_ret2
          exact ⟨by rw [numI, show aheadI z + cumM z q + d = d + aheadI z + cumM z q by omega]; rfl, bel_drewN ((Below.refl _ _).alloc (Nat.le_refl _) _) _⟩

set_option maxHeartbeats 2000000 in
theorem numberR_no (y m d : Int) (w : World) (hr : rightB y m d = false) : Calls Try.prog 14 #[.agg #[.int .i64 y, .int .i64 m, .int .i64 d]] w fun e w' => e = .returned (.tuple #[.int .i64 0, .int .i64 3]) ∧ Below w.heap.size w w' := by
  simp only [rightB, decide_eq_false_iff_not] at hr
  have hlb := lenM_bd y m
  have h : y < 1601 ∨ (1601 ≤ y ∧ 2400 < y) ∨ (1601 ≤ y ∧ y ≤ 2400 ∧ m < 1) ∨ (1601 ≤ y ∧ y ≤ 2400 ∧ 1 ≤ m ∧ 12 < m) ∨ (1601 ≤ y ∧ y ≤ 2400 ∧ 1 ≤ m ∧ m ≤ 12 ∧ d < 1) ∨ (1601 ≤ y ∧ y ≤ 2400 ∧ 1 ≤ m ∧ m ≤ 12 ∧ 1 ≤ d ∧ lenM y m < d) := by omega
  clear hr
  rcases h with h | ⟨h, h'⟩ | ⟨h, h', h2⟩ | ⟨h, h', h2, h3⟩ | ⟨h, h', h2, h3, h4⟩ | ⟨h, h', h2, h3, h4, h5⟩
  iterate 5
    · go_enter Try.func14, Try.ntmps14
      go_wp2_with fail
      go_ret2
      exact ⟨rfl, (Below.refl _ _).alloc (Nat.le_refl _) _⟩
  · go_enter Try.func14, Try.ntmps14
    go_wp2_with fail
    go_quiet ((go_at_call 28; exact Calls.quiet_of_same (monthR_q _ _ _ h2 h3)))
    go_wp2_with fail
    go_ret2
    exact ⟨rfl, bel_drewN ((Below.refl _ _).alloc (Nat.le_refl _) _) _⟩

set_option maxHeartbeats 2000000 in
theorem ofR_yes (n : Int) (w : World) (h1 : 1 ≤ n) (h2 : n ≤ 292194) : Calls Try.prog 21 #[.int .i64 n] w (OfPost n w) := by
  obtain ⟨hy1, hy2, hy3, hy4⟩ := yearI_ok n h1 h2
  obtain ⟨y, hy⟩ : ∃ y, yearI n = y := ⟨_, rfl⟩
  rw [hy] at hy1 hy2 hy3 hy4
  clear hy
  go_enter Try.func21, Try.ntmps21
  go_wp2_with fail
  go_loop [0, 4] (fun t i => ∃ z : Int, 1601 ≤ z ∧ z ≤ y ∧ i = .int .i64 z ∧ t = .int .i64 (n - aheadI z)) (fun _ i => (y - intOf i).toNat)
  case atStart => exact ⟨1601, by omega, by omega, rfl, by rw [ahead0]; simp⟩
  case round =>
    obtain ⟨z, hz1, hz2, rfl, rfl⟩ := hrel
    have hzb := ahead_bd z hz1 (by omega)
    have hl01 := leap_01 z
    have hs := leap_of_ahead z
    rcases Int.lt_or_le z y with hlt | hge
    · have hgt : 365 + leapI z < n - aheadI z := by
        rcases Int.lt_or_le (z + 1) y with h | h
        · have := ahead_lt (by omega) h; omega
        · have e : z + 1 = y := by omega
          rw [e] at hs; omega
      have HS := hide hs
      clear hs
      go_wp2_with (go_at_call 29; refine (yearRi_any _ _).mono ?_; rintro e w' ⟨rfl, rfl⟩)
      go_round
      case rel => exact ⟨z + 1, by omega, by omega, rfl, by rw [HS.out]; go_num⟩
      case measure => simp [intOf]; omega
    · obtain rfl : z = y := by omega
      have hle : n - aheadI z ≤ 365 + leapI z := by omega
      clear hs hge
      go_wp2_with (go_at_call 29; refine (yearRi_any _ _).mono ?_; rintro e w' ⟨rfl, rfl⟩)
      go_loop [0, 5] (fun t i => ∃ q : Int, 1 ≤ q ∧ q ≤ 12 ∧ i = .int .i64 q ∧ 1 ≤ n - aheadI z - cumM z q ∧ t = .int .i64 (n - aheadI z - cumM z q)) (fun _ i => (12 - intOf i).toNat)
      case atStart => exact ⟨1, by omega, by omega, rfl, by rw [cum1]; omega, by rw [cum1]; simp⟩
      case round =>
        obtain ⟨q, hq1, hq2, rfl, hd1, rfl⟩ := hrel
        have hcb := cum_bd z q (by omega)
        have hlq := lenM_bd z q
        have hs := cumM_succ z q hq1 hq2
        rcases Int.lt_or_le (lenM z q) (n - aheadI z - cumM z q) with hlt | hle'
        · have hq12 : q < 12 := by
            rcases Int.lt_or_le q 12 with h | h
            · exact h
            · obtain rfl : q = 12 := by omega
              have e1 : cumM z 12 = 334 + leapI z := by simp [cumM]
              have e2 : lenM z 12 = 31 := by simp [lenM]
              omega
          have HS := hide hs
          clear hs
          go_wp2_with (go_at_call 28; refine (monthR_any _ _ _ (by omega) (by omega)).mono ?_; rintro e w' ⟨rfl, rfl⟩)
          go_round
          case rel => exact ⟨q + 1, by omega, by omega, rfl, by have := HS.out; omega, by have := HS.out; go_num⟩
          case measure => simp [intOf]; omega
        · clear hs
          go_wp2_with (go_at_call 28; refine (monthR_any _ _ _ (by omega) (by omega)).mono ?_; rintro e w' ⟨rfl, rfl⟩)
          refine ret_row2 (p := 2) (u := 3) (ty := 23) (g := w.heap.size) (x := .int .i64 0) rfl rfl rfl rfl (Blk.new w _ _) Try.underlying23 rfl (by kernel_rfl) ⟨z, q, n - aheadI z - cumM z q, rfl, ?_, ?_, (Below.refl _ _).alloc (Nat.le_refl _) _⟩
          · simp only [rightB, decide_eq_true_eq]; omega
          · simp only [numI]; omega

set_option maxHeartbeats 1000000 in
theorem ofR_no (n : Int) (w : World) (h : ¬(1 ≤ n ∧ n ≤ 292194)) : Calls Try.prog 21 #[.int .i64 n] w fun e w' => e = .returned (.tuple #[.agg #[.int .i64 0, .int .i64 0, .int .i64 0], .int .i64 3]) ∧ Below w.heap.size w w' := by
  have h' : n < 1 ∨ 292194 < n := by omega
  clear h
  rcases h' with h | h
  all_goals
    go_enter Try.func21, Try.ntmps21
    go_wp2_with fail
    exact ret_row2 (p := 2) (u := 3) (ty := 23) (g := w.heap.size) (x := .int .i64 3) rfl rfl rfl rfl (Blk.new w _ _) Try.underlying23 rfl (by kernel_rfl) ⟨rfl, (Below.refl _ _).alloc (Nat.le_refl _) _⟩

theorem firstR_any (y : Int) (w : World) : Calls Try.prog 24 #[.int .i64 y] w fun e w' => e = .returned (.tuple (if 1601 ≤ y ∧ y ≤ 2401 then #[.int .i64 (aheadI y + 1), .int .i64 0] else #[.int .i64 0, .int .i64 3])) ∧ Below w.heap.size w w' := by
  by_cases h1 : y = 2401
  · subst h1
    go_enter Try.func24, Try.ntmps24
    go_wp2_with fail
    go_ret2
    exact ⟨rfl, Below.refl _ _⟩
  have hne : (y == 2401) = false := by simpa using h1
  by_cases h : 1601 ≤ y ∧ y ≤ 2401
  · have hr : rightB y 1 1 = true := by
      have := lenM_bd y 1
      simp only [rightB, decide_eq_true_eq]; omega
    have e : numI y 1 1 = aheadI y + 1 := by rw [numI, cum1]; omega
    have H := hide h
    have HE := hide e
    have HR := hide hr
    clear h e h1 hr
    go_enter Try.func24, Try.ntmps24
    go_wp2_with fail
    refine (numberR_yes _ _ _ _ HR.out).mono ?_
    rintro e w1 ⟨rfl, hb⟩
    go_wp2_with fail
    go_ret2
    all_goals first | exact absurd H.out ‹_› | exact ⟨congrArg (fun x => Ending.returned (.tuple #[.int .i64 x, .int .i64 0])) HE.out, hb⟩
  · have hr : rightB y 1 1 = false := by simp only [rightB, decide_eq_false_iff_not]; omega
    have H := hide h
    have HR := hide hr
    clear h h1 hr
    go_enter Try.func24, Try.ntmps24
    go_wp2_with fail
    refine (numberR_no _ _ _ _ HR.out).mono ?_
    rintro e w1 ⟨rfl, hb⟩
    go_wp2_with fail
    go_ret2
    all_goals first | exact absurd ‹_› H.out | exact ⟨rfl, hb⟩

theorem in_any (n : Int) (w : World) (h0 : 0 ≤ n) (h1 : n ≤ 4294967295) : Calls Try.prog 19 #[.int .u32 n] w fun e w' => e = .returned (.int .i64 (1 + n % 292194)) ∧ w = w' := by
  go_enter Try.func19, Try.ntmps19
  go_wp2
  go_ret
  exact ⟨rfl, rfl⟩
end Go.Proofs.Ytbkpflgceppkdaa
