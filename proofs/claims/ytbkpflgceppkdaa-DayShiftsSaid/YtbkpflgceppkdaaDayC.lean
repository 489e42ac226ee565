/- The calendar's day of a number, and days that are shifted: the program's functions. -/
import Derived.Test.YtbkpflgceppkdaaDayB
namespace Go.Proofs.Ytbkpflgceppkdaa
open Go.RowKit

set_option maxHeartbeats 1000000 in
theorem number_no (y m d : Int) (w : World) (hr : rightB y m d = false) : Calls Try.prog 13 #[.agg #[.int .i64 y, .int .i64 m, .int .i64 d]] w fun e w' => e = .returned (.tuple #[.int .i64 0, .int .i64 3]) ∧ Below w.heap.size w w' := by
  have HR := hide hr
  clear hr
  go_enter Try.func13, Try.ntmps13
  go_wp2_with fail
  refine (right_any _ _ _ _).mono ?_
  rw [HR.out]
  rintro e w0 ⟨rfl, hb0⟩
  go_wp2_with fail
  go_ret2
  exact ⟨rfl, chain1 hb0⟩

def OfPost (n : Int) (w : World) (e : Ending) (w' : World) : Prop :=
  ∃ y m d : Int, e = .returned (.tuple #[.agg #[.int .i64 y, .int .i64 m, .int .i64 d], .int .i64 0]) ∧ rightB y m d = true ∧ numI y m d = n ∧ Below w.heap.size w w'
def zero3 : Array Value := #[.int .i64 0, .int .i64 0, .int .i64 0]
theorem set3 {w : World} {g : Nat} {t : TypeId} (h : Blk w g t zero3) (u0 u1 u2 : Value) :
    Blk (((w.setCell ⟨g, 0, none⟩ u0).setCell ⟨g, 1, none⟩ u1).setCell ⟨g, 2, none⟩ u2) g t #[u0, u1, u2] := by
  have h3 := ((h.set_ 0 u0).set_ 1 u1).set_ 2 u2
  simpa [zero3] using h3

theorem index_lens' (y : Int) (k : Nat) (h : k < 12) (w : World) : (Instr.index 43 (.agg (lensC y)) (.int .i64 k)).run Try.prog w = .ok (.int .i64 (lenM y (k + 1))) w := by
  have := index_lens y (k + 1) (by omega) (by omega) w
  rwa [show (k : Int) + 1 - 1 = k by omega] at this

theorem ahead_q (q : Int) : aheadI (1601 + q) = q * 365 + q / 4 - q / 100 + q / 400 := by
  unfold aheadI
  rw [show 1601 + q - 1601 = q by omega]
theorem ahead_q1 (q : Int) : aheadI (1601 + q - 1) = (q - 1) * 365 + (q - 1) / 4 - (q - 1) / 100 + (q - 1) / 400 := by
  rw [show 1601 + q - 1 = 1601 + (q - 1) by omega, ahead_q]
/-- The year of a day, as a number. -/
def yearI (n : Int) : Int := if n ≤ aheadI (1601 + (n - 1) / 365) then 1601 + (n - 1) / 365 - 1 else 1601 + (n - 1) / 365
theorem yearI_ok (n : Int) (h1 : 1 ≤ n) (h2 : n ≤ 292194) : 1601 ≤ yearI n ∧ yearI n ≤ 2400 ∧ aheadI (yearI n) < n ∧ n ≤ aheadI (yearI n + 1) := by
  obtain ⟨q, hq⟩ : ∃ q, (n - 1) / 365 = q := ⟨_, rfl⟩
  unfold yearI
  rw [hq]
  have hq1 : 365 * q ≤ n - 1 ∧ n - 1 < 365 * q + 365 := by omega
  clear hq
  split
  · rename_i h
    rw [ahead_q] at h
    rw [show 1601 + q - 1 + 1 = 1601 + q by omega, ahead_q, ahead_q1]
    omega
  · rename_i h
    rw [ahead_q] at h
    rw [show 1601 + q + 1 = 1601 + (q + 1) by omega, ahead_q, ahead_q]
    omega
theorem ahead_lt {y z : Int} (h1 : 1601 ≤ y) (h : y < z) : aheadI y < aheadI z := by
  obtain ⟨p, rfl⟩ : ∃ p, y = 1601 + p := ⟨y - 1601, by omega⟩
  obtain ⟨q, rfl⟩ : ∃ q, z = 1601 + q := ⟨z - 1601, by omega⟩
  rw [ahead_q, ahead_q]
  omega
theorem year_uniq {y z n : Int} (hy : 1601 ≤ y) (hz : 1601 ≤ z) (h1 : aheadI y < n) (h2 : n ≤ aheadI (y + 1)) (h3 : aheadI z < n) (h4 : n ≤ aheadI (z + 1)) : y = z := by
  rcases Int.lt_trichotomy y z with h | h | h
  · rcases Int.lt_or_le (y + 1) z with h' | h'
    · have := ahead_lt (by omega) h'
      omega
    · have e : z = y + 1 := by omega
      rw [← e] at h2
      omega
  · exact h
  · rcases Int.lt_or_le (z + 1) y with h' | h'
    · have := ahead_lt (by omega) h'
      omega
    · have e : y = z + 1 := by omega
      rw [← e] at h4
      omega

theorem year_val (n : Int) (w : World) (h1 : 1 ≤ n) (h2 : n ≤ 292194) : Calls Try.prog 22 #[.int .i64 n] w fun e w' => e = .returned (.tuple #[.int .i64 (yearI n), .int .i64 0]) ∧ w = w' :=
  (year_any n w).mono fun _ _ ⟨⟨hy, _⟩, hw⟩ => by
    obtain ⟨y, he, a, b, c, d⟩ := hy ⟨h1, h2⟩
    obtain ⟨a', b', c', d'⟩ := yearI_ok n h1 h2
    rw [year_uniq a a' c d c' d'] at he
    exact ⟨he, hw⟩
theorem year_bad (n : Int) (w : World) (h : ¬(1 ≤ n ∧ n ≤ 292194)) : Calls Try.prog 22 #[.int .i64 n] w fun e w' => e = .returned (.tuple #[.int .i64 0, .int .i64 3]) ∧ w = w' :=
  (year_any n w).mono fun _ _ ⟨⟨_, hn⟩, hw⟩ => ⟨hn h, hw⟩

set_option maxHeartbeats 2000000 in
theorem of_yes (n : Int) (w : World) (h1 : 1 ≤ n) (h2 : n ≤ 292194) : Calls Try.prog 20 #[.int .i64 n] w (OfPost n w) := by
  obtain ⟨hy1, hy2, hy3, hy4⟩ := yearI_ok n h1 h2
  obtain ⟨y, hy⟩ : ∃ y, yearI n = y := ⟨_, rfl⟩
  rw [hy] at hy1 hy2 hy3 hy4
  have HY := hide hy
  clear hy
  go_enter Try.func20, Try.ntmps20
  go_wp2_with fail
  refine (year_val _ _ h1 h2).mono ?_
  rw [HY.out]
  rintro e w' ⟨rfl, rfl⟩
  have hls := leap_of_ahead y
  have hab := ahead_bd y hy1 (by omega)
  have hl01 := leap_01 y
  have HLS := hide hls
  clear hls
  go_wp2_with (go_at_call 27; refine (ahead_any _ (by omega) (by omega) _).mono ?_; rintro e w' ⟨rfl, rfl⟩)
  refine (lengths_any _ _).mono ?_
  rintro e w1 ⟨rfl, hb1⟩
  have hz := (Blk.new' (w := w) (t := 23) (cs := zero3) (g := w.heap.size) rfl).alloc (.cells #[.int .i64 y, .int .i64 1, .int .i64 (n - aheadI y)] 23) |>.below hb1 (by simp; omega)
  have hc := (Blk.new' (w := w.alloc (.cells zero3 23)) (t := 23) (cs := #[.int .i64 y, .int .i64 1, .int .i64 (n - aheadI y)]) (g := w.heap.size + 1) (by simp)) |>.below hb1 (by simp)
  have hb := chain (((Below.refl w.heap.size w).alloc (Nat.le_refl _) _).alloc (by simp) _) hb1
  clear hb1
  go_wp2_with fail
  go_loopw [26, 8] (fun i t wr => ∃ k : Nat, k < 12 ∧ i = .int .i64 k ∧ 1 ≤ n - aheadI y - cumM y (k + 1) ∧ Blk wr w.heap.size 23 zero3 ∧ Blk wr (w.heap.size + 1) 23 #[.int .i64 y, .int .i64 (k + 1), .int .i64 (n - aheadI y - cumM y (k + 1))] ∧ Below w.heap.size w wr) (fun i _ _ => 12 - (intOf i).toNat)
  case atStart => exact ⟨0, by omega, rfl, by simp [cumM]; omega, hz, by simpa [cumM] using hc, hb⟩
  case round =>
    clear hz hc hb
    obtain ⟨k, hk, rfl, hd1, hz, hc, hb⟩ := hrel
    have hcb := cum_bd y (k + 1) (by omega)
    have hix := index_lens' y k hk
    have hlk := lenM_bd y (k + 1)
    have hcs := cumM_succ y (k + 1) (by omega) (by omega)
    have c0 := hc.cell 0
    have c1 := hc.cell 1
    have c2 := hc.cell 2
    have f1 := hc.frozen 1
    have f2 := hc.frozen 2
    simp at c0 c1 c2
    by_cases hbr : n - aheadI y - cumM y (k + 1) ≤ lenM y (k + 1)
    · have z0 := hz.cell 0
      have z1 := hz.cell 1
      have z2 := hz.cell 2
      have g0 := hz.frozen 0
      have g1 := hz.frozen 1
      have g2 := hz.frozen 2
      simp [zero3] at z0 z1 z2
      have HCS := hide hcs
      clear hcs
      go_wp2_with fail
      refine ret_row2 (p := 2) (u := 3) (ty := 23) (g := w.heap.size) (x := .int .i64 0) rfl rfl rfl rfl (set3 hz _ _ _) Try.underlying23 rfl (by kernel_rfl) ⟨y, k + 1, n - aheadI y - cumM y (k + 1), rfl, ?_, ?_, ((hb.setCell (by simp) _).setCell (by simp) _).setCell (by simp) _⟩
      · simp only [rightB, decide_eq_true_eq]
        omega
      · simp only [numI]
        omega
    · have hk11 : k < 11 := by
        have hls := HLS.out
        rcases Nat.lt_or_ge k 11 with h | h
        · exact h
        · obtain rfl : k = 11 := by omega
          have e1 : cumM y ((11 : Nat) + 1) = 334 + leapI y := by simp [cumM]
          have e2 : lenM y ((11 : Nat) + 1) = 31 := by simp [lenM]
          rw [e1, e2] at hbr
          omega
      have HCS := hide hcs
      clear hcs
      go_wp2_with fail
      go_roundw
      case rel =>
        refine ⟨k + 1, by omega, by go_num, ?_, hz.far (by simp) _ |>.far (by simp) _, ?_, (hb.setCell (by simp) _).setCell (by simp) _⟩
        · have := HCS.out
          rw [show ((k + 1 : Nat) : Int) + 1 = k + 1 + 1 by omega]
          omega
        · have h6 := (hc.set_ 2 (.int .i64 (n - aheadI y - cumM y (k + 1) - lenM y (k + 1)))).set_ 1 (.int .i64 (k + 1 + 1))
          simp at h6
          rw [show ((k + 1 : Nat) : Int) + 1 = k + 1 + 1 by omega, HCS.out, show n - aheadI y - (cumM y (↑k + 1) + lenM y (↑k + 1)) = n - aheadI y - cumM y (k + 1) - lenM y (k + 1) by omega]
          exact h6
      case measure => simp [intOf]; omega

set_option maxHeartbeats 1000000 in
theorem of_no (n : Int) (w : World) (h : ¬(1 ≤ n ∧ n ≤ 292194)) : Calls Try.prog 20 #[.int .i64 n] w fun e w' => e = .returned (.tuple #[.agg #[.int .i64 0, .int .i64 0, .int .i64 0], .int .i64 3]) ∧ Below w.heap.size w w' := by
  have H := hide h
  clear h
  go_enter Try.func20, Try.ntmps20
  go_wp2_with fail
  refine (year_bad _ _ H.out).mono ?_
  rintro e w' ⟨rfl, rfl⟩
  go_wp2_with fail
  refine ret_row2 (p := 2) (u := 3) (ty := 23) (g := w.heap.size) (x := .int .i64 3) rfl rfl rfl rfl (Blk.new w _ _) Try.underlying23 rfl (by kernel_rfl) ⟨rfl, (Below.refl _ _).alloc (Nat.le_refl _) _⟩

def shiftI (y m d by' : Int) : Int × Int := ((y - 1601) * 12 + m - 1 + by', d)
/-- What Shift tells of a day y, m, d by so many months: a number and a code. -/
def shiftP (y m d s : Int) : Int × Int :=
  if 9600 < s ∨ s < -9600 then (0, 3)
  else if (y - 1601) * 12 + m - 1 + s < 0 ∨ 9600 ≤ (y - 1601) * 12 + m - 1 + s then (0, 3)
  else (numI (1601 + ((y - 1601) * 12 + m - 1 + s) / 12) (((y - 1601) * 12 + m - 1 + s) % 12 + 1) (min d (lenM (1601 + ((y - 1601) * 12 + m - 1 + s) / 12) (((y - 1601) * 12 + m - 1 + s) % 12 + 1))), 0)

def ShiftPost (n s : Int) (w : World) (e : Ending) (w' : World) : Prop :=
  ∃ y m d : Int, rightB y m d = true ∧ numI y m d = n ∧ e = .returned (.tuple #[.int .i64 (shiftP y m d s).1, .int .i64 (shiftP y m d s).2]) ∧ Below w.heap.size w w'

set_option maxHeartbeats 4000000 in
theorem shift_yes (n s : Int) (w : World) (h1 : 1 ≤ n) (h2 : n ≤ 292194) (ws : -9223372036854775808 ≤ s ∧ s ≤ 9223372036854775807) : Calls Try.prog 17 #[.int .i64 n, .int .i64 s] w (ShiftPost n s w) := by
  go_enter Try.func17, Try.ntmps17
  go_wp2_with fail
  refine (of_yes _ _ h1 h2).mono ?_
  rintro e w1 ⟨y, m, d, rfl, hr, hn, hb⟩
  have HR := hide hr
  have HN := hide hn
  simp only [rightB, decide_eq_true_eq] at hr
  obtain ⟨hy1, hy2, hm1, hm2, hd1, hd2⟩ := hr
  have hlm := lenM_bd y m
  clear hn
  by_cases hs : 9600 < s
  · go_wp2_with fail
    go_ret2
    exact ⟨y, m, d, HR.out, HN.out, by rw [shiftP, if_pos (by omega)]; rfl, hb.alloc hb.size _⟩
  by_cases hs' : s < -9600
  · go_wp2_with fail
    go_ret2
    exact ⟨y, m, d, HR.out, HN.out, by rw [shiftP, if_pos (by omega)]; rfl, hb.alloc hb.size _⟩
  by_cases hm0 : (y - 1601) * 12 + m - 1 + s < 0
  · go_wp2_with fail
    go_ret2
    exact ⟨y, m, d, HR.out, HN.out, by rw [shiftP, if_neg (by omega), if_pos (by omega)]; rfl, hb.alloc hb.size _⟩
  by_cases hm9 : 9600 ≤ (y - 1601) * 12 + m - 1 + s
  · go_wp2_with fail
    go_ret2
    exact ⟨y, m, d, HR.out, HN.out, by rw [shiftP, if_neg (by omega), if_pos (by omega)]; rfl, hb.alloc hb.size _⟩
  go_wp2_with fail
  obtain ⟨Y, hY⟩ : ∃ Y, 1601 + ((y - 1601) * 12 + m - 1 + s) / 12 = Y := ⟨_, rfl⟩
  obtain ⟨M, hM⟩ : ∃ M, ((y - 1601) * 12 + m - 1 + s) % 12 + 1 = M := ⟨_, rfl⟩
  have hP : shiftP y m d s = (numI Y M (min d (lenM Y M)), 0) := by rw [shiftP, if_neg (by omega), if_neg (by omega), hY, hM]
  have hYb : 1601 ≤ Y ∧ Y ≤ 2400 := by omega
  have hMb : 1 ≤ M ∧ M ≤ 12 := by omega
  rw [hY, hM]
  have HP := hide hP
  have hlM := lenM_bd Y M
  clear hP hY hM hm0 hm9 hs hs' hy1 hy2 hm1 hm2
  have hix := index_lens Y M hMb.1 hMb.2
  have hnew : rightB Y M (min d (lenM Y M)) = true := by simp only [rightB, decide_eq_true_eq]; omega
  have HNW := hide hnew
  clear hnew
  rcases Int.lt_or_le (lenM Y M) d with hdl | hdl
  · have hmin : min d (lenM Y M) = lenM Y M := by omega
    have HMN := hide hmin
    have hnx := HNW.out
    rw [hmin] at hnx
    have HNX := hide hnx
    clear hmin hnx
    have hwr : IntKind.i64.wrap (M - 1) = M - 1 := IntWalk.i64_in _ (by omega)
    go_region_with (go_at_call 26
                    refine (lengths_any _ _).mono ?_
                    rintro e w2 ⟨rfl, hb2⟩
                    have hBk := (Blk.new w1 _ _).drew.below hb2 (by simp)
                    have q0 : w2.cell? ⟨w1.heap.size, 0, none⟩ = some (.int .i64 Y) := hBk.cell 0
                    have q1 : w2.cell? ⟨w1.heap.size, 1, none⟩ = some (.int .i64 M) := hBk.cell 1
                    have q2 : w2.cell? ⟨w1.heap.size, 2, none⟩ = some (.int .i64 d) := hBk.cell 2
                    have q3 : w2.frozen? ⟨w1.heap.size, 2, none⟩ = false := hBk.frozen 2)
    all_goals
      clear hwr
      have b2 := (chain (hb.alloc hb.size _).drew hb2).setCell (p := ⟨w1.heap.size, 2, none⟩) hb.size (.int .i64 (lenM Y M))
      go_wp2_with fail
      refine (number_yes _ _ _ _ HNX.out).mono ?_
      rintro e w3 ⟨rfl, hb3⟩
      go_wp2_with fail
      go_ret2
      exact ⟨y, m, d, HR.out, HN.out, by rw [HP.out, HMN.out]; rfl, chain b2 hb3⟩
  · have hmin : min d (lenM Y M) = d := by omega
    have HMN := hide hmin
    have hnx := HNW.out
    rw [hmin] at hnx
    have HNX := hide hnx
    clear hmin hnx
    have hwr : IntKind.i64.wrap (M - 1) = M - 1 := IntWalk.i64_in _ (by omega)
    go_region_with (go_at_call 26
                    refine (lengths_any _ _).mono ?_
                    rintro e w2 ⟨rfl, hb2⟩
                    have hBk := (Blk.new w1 _ _).drew.below hb2 (by simp)
                    have q0 : w2.cell? ⟨w1.heap.size, 0, none⟩ = some (.int .i64 Y) := hBk.cell 0
                    have q1 : w2.cell? ⟨w1.heap.size, 1, none⟩ = some (.int .i64 M) := hBk.cell 1
                    have q2 : w2.cell? ⟨w1.heap.size, 2, none⟩ = some (.int .i64 d) := hBk.cell 2
                    have q3 : w2.frozen? ⟨w1.heap.size, 2, none⟩ = false := hBk.frozen 2)
    all_goals
      clear hwr
      have b2 := (chain (hb.alloc hb.size _).drew hb2).setCell (p := ⟨w1.heap.size, 2, none⟩) hb.size (.int .i64 (d))
      go_wp2_with fail
      refine (number_yes _ _ _ _ HNX.out).mono ?_
      rintro e w3 ⟨rfl, hb3⟩
      go_wp2_with fail
      go_ret2
      exact ⟨y, m, d, HR.out, HN.out, by rw [HP.out, HMN.out]; rfl, chain b2 hb3⟩

set_option maxHeartbeats 1000000 in
theorem shift_no (n s : Int) (w : World) (h : ¬(1 ≤ n ∧ n ≤ 292194)) : Calls Try.prog 17 #[.int .i64 n, .int .i64 s] w fun e w' => e = .returned (.tuple #[.int .i64 0, .int .i64 3]) ∧ Below w.heap.size w w' := by
  have H := hide h
  clear h
  go_enter Try.func17, Try.ntmps17
  go_wp2_with fail
  refine (of_no _ _ H.out).mono ?_
  rintro e w1 ⟨rfl, hb⟩
  go_wp2_with fail
  go_ret2
  exact ⟨rfl, hb.alloc hb.size _⟩
end Go.Proofs.Ytbkpflgceppkdaa
