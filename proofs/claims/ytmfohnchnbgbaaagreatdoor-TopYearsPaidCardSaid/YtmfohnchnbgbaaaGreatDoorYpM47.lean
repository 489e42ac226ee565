/- Part 47 of the proof. -/
import Derived.Test.YtmfohnchnbgbaaaGreatDoorYpM05
import Derived.Test.YtmfohnchnbgbaaaGreatDoorYpM11
import Derived.Test.YtmfohnchnbgbaaaGreatDoorYpM24
import Derived.Test.YtmfohnchnbgbaaaGreatDoorYpM46
/- The calendar's day of a number, and days that are shifted: the program's functions. -/
namespace Go.Proofs.YtmfohnchnbgbaaaGreatDoor
open Go.RowKit
set_option maxRecDepth 100000

def zero3 : Array Value := #[.int .i64 0, .int .i64 0, .int .i64 0]
theorem set3 {w : World} {g : Nat} {t : TypeId} (h : Blk w g t zero3) (u0 u1 u2 : Value) :
    Blk (((w.setCell ⟨g, 0, none⟩ u0).setCell ⟨g, 1, none⟩ u1).setCell ⟨g, 2, none⟩ u2) g t #[u0, u1, u2] := by
  have h3 := ((h.set_ 0 u0).set_ 1 u1).set_ 2 u2
  simpa [zero3] using h3

theorem index_lens' (y : Int) (k : Nat) (h : k < 12) (w : World) : (Instr.index 191 (.agg (lensC y)) (.int .i64 k)).run Tryz.prog w = .ok (.int .i64 (lenM y (k + 1))) w := by
  have := index_lens y (k + 1) (by omega) (by omega) w
  rwa [show (k : Int) + 1 - 1 = k by omega] at this

set_option maxHeartbeats 2000000 in
theorem of_yes_Day (n : Int) (w : World) (h1 : 1 ≤ n) (h2 : n ≤ 292194) : Calls Tryz.prog 89 #[.int .i64 n] w (OfPost n w) := by
  obtain ⟨hy1, hy2, hy3, hy4⟩ := yearI_ok n h1 h2
  obtain ⟨y, hy⟩ : ∃ y, yearI n = y := ⟨_, rfl⟩
  rw [hy] at hy1 hy2 hy3 hy4
  have HY := hide hy
  clear hy
  go_enter Tryz.func89, Tryz.ntmps89
  go_wp2_with fail
  refine (year_val _ _ h1 h2).mono ?_
  rw [HY.out]
  rintro e w' ⟨rfl, rfl⟩
  have hls := leap_of_ahead y
  have hab := ahead_bd y hy1 (by omega)
  have hl01 := leap_01 y
  have HLS := hide hls
  clear hls
  go_wp2_with (go_at_call 23; refine (ahead_any _ (by omega) (by omega) _).mono ?_; rintro e w' ⟨rfl, rfl⟩)
  refine (lengths_any _ _).mono ?_
  rintro e w1 ⟨rfl, hb1⟩
  have hz := (Blk.new' (w := w) (t := 188) (cs := zero3) (g := w.heap.size) rfl).alloc (.cells #[.int .i64 y, .int .i64 1, .int .i64 (n - aheadI y)] 188) |>.below hb1 (by simp; omega)
  have hc := (Blk.new' (w := w.alloc (.cells zero3 188)) (t := 188) (cs := #[.int .i64 y, .int .i64 1, .int .i64 (n - aheadI y)]) (g := w.heap.size + 1) (by simp)) |>.below hb1 (by simp)
  have hb := chain (((Below.refl w.heap.size w).alloc (Nat.le_refl _) _).alloc (by simp) _) hb1
  clear hb1
  go_wp2_with fail
  go_loopw [26, 8] (fun i t wr => ∃ k : Nat, k < 12 ∧ i = .int .i64 k ∧ 1 ≤ n - aheadI y - cumM y (k + 1) ∧ Blk wr w.heap.size 188 zero3 ∧ Blk wr (w.heap.size + 1) 188 #[.int .i64 y, .int .i64 (k + 1), .int .i64 (n - aheadI y - cumM y (k + 1))] ∧ Below w.heap.size w wr) (fun i _ _ => 12 - (intOf i).toNat)
  case atStart => exact ⟨0, by omega, rfl, by simp [cumM]; omega, hz, by simpa [cumM] using hc, hb⟩
  case round =>
    clear hz hc hb
    obtain ⟨k, hk, rfl, hd1, hz, hc, hb⟩ := hrel
    have hcb := cum_bd y (k + 1) (by omega)
    have hix := index_lens' y k hk
    have hlk := lenM_bd y (k + 1)
    have hcs := cumM_succ y (k + 1) (by omega) (by omega)
    have c0 := hc.cell 0
    have c1 := hc.cell 1
    have c2 := hc.cell 2
    have f1 := hc.frozen 1
    have f2 := hc.frozen 2
    simp at c0 c1 c2
    by_cases hbr : n - aheadI y - cumM y (k + 1) ≤ lenM y (k + 1)
    · have z0 := hz.cell 0
      have z1 := hz.cell 1
      have z2 := hz.cell 2
      have g0 := hz.frozen 0
      have g1 := hz.frozen 1
      have g2 := hz.frozen 2
      simp [zero3] at z0 z1 z2
      have HCS := hide hcs
      clear hcs
      go_wp2_with fail
      refine ret_row2 (p := 2) (u := 3) (ty := 188) (g := w.heap.size) (x := .int .i64 0) rfl rfl rfl rfl (set3 hz _ _ _) Tryz.underlying188 rfl (by kernel_rfl) ⟨y, k + 1, n - aheadI y - cumM y (k + 1), rfl, ?_, ?_, ((hb.setCell (by simp) _).setCell (by simp) _).setCell (by simp) _⟩
      · simp only [rightB, decide_eq_true_eq]
        omega
      · simp only [numI]
        omega
    · have hk11 : k < 11 := by
        have hls := HLS.out
        rcases Nat.lt_or_ge k 11 with h | h
        · exact h
        · obtain rfl : k = 11 := by omega
          have e1 : cumM y ((11 : Nat) + 1) = 334 + leapI y := by simp [cumM]
          have e2 : lenM y ((11 : Nat) + 1) = 31 := by simp [lenM]
          rw [e1, e2] at hbr
          omega
      have HCS := hide hcs
      clear hcs
      go_wp2_with fail
      go_roundw
      case rel =>
        refine ⟨k + 1, by omega, by go_num, ?_, hz.far (by simp) _ |>.far (by simp) _, ?_, (hb.setCell (by simp) _).setCell (by simp) _⟩
        · have := HCS.out
          rw [show ((k + 1 : Nat) : Int) + 1 = k + 1 + 1 by omega]
          omega
        · have h6 := (hc.set_ 2 (.int .i64 (n - aheadI y - cumM y (k + 1) - lenM y (k + 1)))).set_ 1 (.int .i64 (k + 1 + 1))
          simp at h6
          rw [show ((k + 1 : Nat) : Int) + 1 = k + 1 + 1 by omega, HCS.out, show n - aheadI y - (cumM y (↑k + 1) + lenM y (↑k + 1)) = n - aheadI y - cumM y (k + 1) - lenM y (k + 1) by omega]
          exact h6
      case measure => simp [intOf]; omega

end Go.Proofs.YtmfohnchnbgbaaaGreatDoor

/- A bill of two instalments. -/
namespace Go.Proofs.YtmfohnchnbgbaaaGreatDoor
open Go.RowKit Go.Lib

theorem civ_one (y m d : Int) (hr : rightB y m d = true) (hn : numI y m d = 1) : y = 1601 ∧ m = 1 ∧ d = 1 := by
  have h : 1601 ≤ y ∧ y ≤ 2400 ∧ 1 ≤ m ∧ m ≤ 12 ∧ 1 ≤ d := by
    have := hr
    unfold rightB at this
    simp only [decide_eq_true_eq] at this
    omega
  have hl := leap_01 y
  have ha : 0 ≤ aheadI y ∧ (1602 ≤ y → 365 ≤ aheadI y) := by unfold aheadI; omega
  have hm : m = 1 ∨ m = 2 ∨ m = 3 ∨ m = 4 ∨ m = 5 ∨ m = 6 ∨ m = 7 ∨ m = 8 ∨ m = 9 ∨ m = 10 ∨ m = 11 ∨ m = 12 := by omega
  have hc : 0 ≤ cumM y m ∧ (2 ≤ m → 31 ≤ cumM y m) := by
    rcases hm with rfl | rfl | rfl | rfl | rfl | rfl | rfl | rfl | rfl | rfl | rfl | rfl <;> simp [cumM] <;> omega
  unfold numI at hn
  clear hm
  have hy2 : y = 1601 := by
    rcases Int.lt_or_le y 1602 with h2 | h2
    · omega
    · have := ha.2 h2; omega
  have hm2 : m = 1 := by
    rcases Int.lt_or_le m 2 with h2 | h2
    · omega
    · have := hc.2 h2; omega
  subst hy2 hm2
  have e1 : aheadI 1601 = 0 := by decide
  have e2 : cumM 1601 1 = 0 := by decide
  rw [e1, e2] at hn
  exact ⟨rfl, rfl, by omega⟩
set_option linter.unusedSimpArgs false in
set_option maxRecDepth 100000 in
set_option maxHeartbeats 4000000 in
theorem shift_one (s M v : Int) (w : World) (hs : s = 0 ∧ M = 1 ∧ v = 1 ∨ s = 6 ∧ M = 7 ∧ v = 182) : Calls Tryz.prog 48 #[.int .i64 1, .int .i64 s] w fun e w' => e = .returned (.tuple #[.int .i64 v, .int .i64 0]) ∧ Below w.heap.size w w' := by
  have hMN : numI 1601 M 1 = v ∧ rightB 1601 M 1 = true := by rcases hs with ⟨rfl, rfl, rfl⟩ | ⟨rfl, rfl, rfl⟩ <;> exact ⟨by decide, by decide⟩
  have hlM := lenM_bd 1601 M
  have hsM : M = s + 1 ∧ (0 ≤ s ∧ s ≤ 6) := by omega
  have HMN := hide hMN
  clear hMN hs
  go_enter Tryz.func48, Tryz.ntmps48
  go_wp2_with fail
  refine (of_yes_Day _ _ (by omega) (by omega)).mono ?_
  rintro e w1 ⟨y, m, d, rfl, hr, hn, hb⟩
  obtain ⟨rfl, rfl, rfl⟩ := civ_one y m d hr hn
  have hm1 : ¬ (s : Int) < 0 := by omega
  have hq1 : s.tdiv 12 = 0 := by rw [Int.tdiv_eq_ediv_of_nonneg (by omega)]; omega
  have hq2 : s.tmod 12 = s := by rw [Int.tmod_eq_emod_of_nonneg (by omega)]; omega
  obtain ⟨hM, hs0, hs6⟩ := hsM
  have hM' : s + 1 = M := hM.symm
  have hM1 : M - 1 = s := by omega
  have hws : IntKind.i64.wrap s = s := IntWalk.i64_in _ (by omega)
  have hix : ∀ W, (Instr.index 191 (.agg (lensC 1601)) (.int .i64 s)).run Tryz.prog W = .ok (.int .i64 (lenM 1601 M)) W := fun W => by
    have h := index_lens 1601 M (by omega) (by omega) W
    rwa [hM1] at h
  have HIX := hide hix
  have HLM := hide hlM
  clear hr hn hM hix
  go_upto_region 9 with fail
  obtain ⟨w2, hw2⟩ : ∃ W, w1.alloc (.cells #[.int .i64 1601, .int .i64 M, .int .i64 1] 188) = W := ⟨_, rfl⟩
  have hB2 : Blk w2 w1.heap.size 188 #[.int .i64 1601, .int .i64 M, .int .i64 1] := by rw [← hw2]; exact Blk.new _ _ _
  have H2 := hide (show Below w.heap.size w w2 by rw [← hw2]; exact hb.alloc hb.size _)
  rw [hw2]
  obtain ⟨WD, hWD⟩ : ∃ W, w2.drew = W := ⟨_, rfl⟩
  have hBD : Blk WD w1.heap.size 188 #[.int .i64 1601, .int .i64 M, .int .i64 1] := by rw [← hWD]; exact hB2.drew
  have HD := hide (show Below w.heap.size w WD by rw [← hWD]; exact H2.out.drew)
  have hS0 : (fun W : World => W.cell? ⟨w1.heap.size, 0, none⟩ = some (.int .i64 1601) ∧ W.cell? ⟨w1.heap.size, 1, none⟩ = some (.int .i64 M) ∧ W.cell? ⟨w1.heap.size, 2, none⟩ = some (.int .i64 1)) WD := ⟨hBD.cell 0, hBD.cell 1, hBD.cell 2⟩
  simp only at hS0
  have HBD := hide hBD
  have hix := HIX.out
  have hbs := hb.size
  clear hb hw2 hB2 hBD
  refine wp_region_T (fun W => W.cell? ⟨w1.heap.size, 0, none⟩ = some (.int .i64 1601) ∧ W.cell? ⟨w1.heap.size, 1, none⟩ = some (.int .i64 M) ∧ W.cell? ⟨w1.heap.size, 2, none⟩ = some (.int .i64 1)) [0, 2, 5, 10, 11] rfl (by kernel_rfl) ?_
  rw [hWD]
  clear hWD
  refine wpAnyT_take0 (i := 0) (v := ?_) rfl (by kernel_rfl) (by kernel_rfl) (by kernel_rfl) (by kernel_rfl) (fun _ _ _ h => h) (Or.inl ⟨by rfl, ?_⟩) ?_
  rotate_left
  · intro W hSW
    go_simp
    try with_reducible rfl
  simp only [Act.put, List.setIfInBounds_toArray, List.set_cons_zero, List.set_cons_succ]
  refine wpAnyT_take0 (i := 2) (v := ?_) rfl (by kernel_rfl) (by kernel_rfl) (by kernel_rfl) (by kernel_rfl) (fun _ _ _ h => h) (Or.inl ⟨by rfl, ?_⟩) ?_
  rotate_left
  · intro W hSW
    go_simp
    try with_reducible rfl
  simp only [Act.put, List.setIfInBounds_toArray, List.set_cons_zero, List.set_cons_succ]
  refine wpAnyT_take0 (i := 5) (v := ?_) rfl (by kernel_rfl) (by kernel_rfl) (by kernel_rfl) (by kernel_rfl) (fun _ _ _ h => h) (Or.inl ⟨by rfl, ?_⟩) ?_
  rotate_left
  · intro W hSW
    go_simp
    try with_reducible rfl
  simp only [Act.put, List.setIfInBounds_toArray, List.set_cons_zero, List.set_cons_succ]
  refine wpAnyT_take (i := 1) (v := ?_) rfl (by kernel_rfl) (by kernel_rfl) (by kernel_rfl) (by kernel_rfl) (fun _ _ _ h => h) (Or.inl ⟨by rfl, ?_⟩) hS0 ?_
  rotate_left
  · intro W hSW
    obtain ⟨hs0, hs1⟩ := hSW
    go_simp
    try with_reducible rfl
  simp only [Act.put, List.setIfInBounds_toArray, List.set_cons_zero, List.set_cons_succ]
  refine wpAnyT_take (i := 3) (v := ?_) rfl (by kernel_rfl) (by kernel_rfl) (by kernel_rfl) (by kernel_rfl) (fun _ _ _ h => h) (Or.inl ⟨by rfl, ?_⟩) hS0 ?_
  rotate_left
  · intro W hSW
    obtain ⟨hs0, hs1⟩ := hSW
    go_simp
    try with_reducible rfl
  simp only [Act.put, List.setIfInBounds_toArray, List.set_cons_zero, List.set_cons_succ]
  refine wpAnyT_take (i := 6) (v := ?_) rfl (by kernel_rfl) (by kernel_rfl) (by kernel_rfl) (by kernel_rfl) (fun _ _ _ h => h) (Or.inl ⟨by rfl, ?_⟩) hS0 ?_
  rotate_left
  · intro W hSW
    obtain ⟨hs0, hs1⟩ := hSW
    go_simp
    try with_reducible rfl
  simp only [Act.put, List.setIfInBounds_toArray, List.set_cons_zero, List.set_cons_succ]
  refine wpAnyT_take (i := 7) (v := ?_) rfl (by kernel_rfl) (by kernel_rfl) (by kernel_rfl) (by kernel_rfl) (fun _ _ _ h => h) (Or.inl ⟨by rfl, ?_⟩) hS0 ?_
  rotate_left
  · intro W hSW
    obtain ⟨hs0, hs1⟩ := hSW
    go_simp
    try with_reducible rfl
  simp only [Act.put, List.setIfInBounds_toArray, List.set_cons_zero, List.set_cons_succ]
  refine wpAnyT_ready (rs := [4]) (by kernel_rfl) (by simp) ?_
  refine AllReadyT.cons rfl (fun K hK => ?_) ?_
  · go_simp
    refine (lengths_any _ _).mono ?_
    rintro e w3 ⟨rfl, hb3⟩
    have hB3 := HBD.out.below hb3 HBD.out.lt
    have H3 := hide (chain HD.out hb3)
    have hS3 : (fun W : World => W.cell? ⟨w1.heap.size, 0, none⟩ = some (.int .i64 1601) ∧ W.cell? ⟨w1.heap.size, 1, none⟩ = some (.int .i64 M) ∧ W.cell? ⟨w1.heap.size, 2, none⟩ = some (.int .i64 1)) w3 := ⟨hB3.cell 0, hB3.cell 1, hB3.cell 2⟩
    simp only at hS3
    have v2 := hB3.frozen 2
    have x2 := hS3.2.2
    have HB3 := hide hB3
    have hmin : min 1 (lenM 1601 M) = 1 := by have := HLM.out; omega
    refine hK.out _ _ (fun _ => hS3) ?_
    try simp only [Act.put, List.setIfInBounds_toArray, List.set_cons_zero, List.set_cons_succ]
    clear hK K hb3 hB3 hS0
    refine wpAnyT_take (i := 8) (v := ?_) rfl (by kernel_rfl) (by kernel_rfl) (by kernel_rfl) (by kernel_rfl) (fun _ _ _ h => h) (Or.inl ⟨by rfl, ?_⟩) hS3 ?_
    rotate_left
    · intro W hSW
      obtain ⟨hs0, hs1⟩ := hSW
      go_simp
      try with_reducible rfl
    simp only [Act.put, List.setIfInBounds_toArray, List.set_cons_zero, List.set_cons_succ]
    refine wpAnyT_take (i := 9) (v := ?_) rfl (by kernel_rfl) (by kernel_rfl) (by kernel_rfl) (by kernel_rfl) (fun _ _ _ h => h) (Or.inl ⟨by rfl, ?_⟩) hS3 ?_
    rotate_left
    · intro W hSW
      obtain ⟨hs0, hs1⟩ := hSW
      go_simp
      try with_reducible rfl
    simp only [Act.put, List.setIfInBounds_toArray, List.set_cons_zero, List.set_cons_succ]
    refine wpAnyT_take0 (i := 10) (v := ?_) rfl (by kernel_rfl) (by kernel_rfl) (by kernel_rfl) (by kernel_rfl) (fun _ _ _ h => h) (Or.inl ⟨by rfl, ?_⟩) ?_
    rotate_left
    · intro W hSW
      go_simp
      try with_reducible rfl
    simp only [Act.put, List.setIfInBounds_toArray, List.set_cons_zero, List.set_cons_succ]
    refine wpAnyT_ready (rs := [11]) (by kernel_rfl) (by simp) ?_
    refine AllReadyT.cons rfl (fun K hK => ?_) ?_
    · go_simp
      refine hK.out _ _ (fun h => by cases h) ?_
      try simp only [Act.put, List.setIfInBounds_toArray, List.set_cons_zero, List.set_cons_succ]
      clear hK K
      refine wpAnyT_done (by kernel_rfl) ?_ _
      have hB4 := HB3.out.set_ 2 (.int .i64 1)
      simp at hB4
      have H4 := hide (H3.out.setCell (p := ⟨w1.heap.size, 2, none⟩) hbs (.int .i64 1))
      obtain ⟨w4, hw4⟩ : ∃ W, w3.setCell ⟨w1.heap.size, 2, none⟩ (.int .i64 1) = W := ⟨_, rfl⟩
      rw [hw4] at hB4 H4 ⊢
      have q0 := hB4.cell 0
      have q1 := hB4.cell 1
      have q2 := hB4.cell 2
      simp at q0 q1 q2
      clear hw4 hS3 x2 v2 hix
      go_wp2_with fail
      refine (number_yes _ _ _ _ HMN.out.2).mono ?_
      rintro e w5 ⟨rfl, hb5⟩
      have H5 := hide (chain H4.out hb5)
      clear hb5 q0 q1 q2
      go_wp2_with fail
      go_ret2
      rw [HMN.out.1]
      exact ⟨rfl, H5.out⟩
    exact AllReadyT.nil
  exact AllReadyT.nil

def encBl (x : Int × Int) : List Value := [.int .i64 x.1, .int .i64 x.2, .int .i64 0]
theorem elBl : ElT Tryz.prog 78 83 3 24 := ElT.mk' (z := .agg #[.int .i64 0, .int .i64 0, .int .i64 0]) Tryz.underlying78 (by kernel_rfl) rfl (by omega)
theorem okBl (l : List (Int × Int)) : RowsOk 3 (l.map encBl) := by
  intro r hr
  obtain ⟨x, _, rfl⟩ := List.mem_map.1 hr
  exact ⟨rfl, fun u hu => by simp [encBl] at hu; rcases hu with rfl | rfl | rfl <;> rfl⟩
def planL (k : Nat) : List (Int × Int) := (List.range k).map fun j => (if j = 0 then 1 else 182, 5000)
theorem planL_succ (k : Nat) : planL (k + 1) = planL k ++ [(if k = 0 then 1 else 182, 5000)] := by simp [planL, List.range_succ]
def PlanP (w : World) (e : Ending) (w' : World) : Prop := ∃ A cap, e = .returned (.tuple #[.slice A 2 cap, .int .i64 0]) ∧ SV w' 3 A 2 cap (([(1, 5000), (182, 5000)] : List (Int × Int)).map encBl) ∧ Below w.heap.size w w'

set_option maxRecDepth 100000 in
set_option maxHeartbeats 4000000 in
theorem plan_any (w : World) : Calls Tryz.prog 21 #[.int .i64 10000, .agg #[.int .i64 1, .int .i64 101], .int .i64 2] w (PlanP w) := by
  obtain ⟨w1, hw1⟩ : ∃ W, w.alloc (.cells #[.int .i64 1, .int .i64 101] 56) = W := ⟨_, rfl⟩
  have hB1 : Blk w1 w.heap.size 56 #[.int .i64 1, .int .i64 101] := by rw [← hw1]; exact Blk.new _ _ _
  have hb1 : Below w.heap.size w w1 := by rw [← hw1]; exact (Below.refl _ _).alloc (Nat.le_refl _) _
  have HB1 := hide hB1
  have H1 := hide hb1
  have HW1 := hide hw1
  obtain ⟨w2, hw2⟩ : ∃ W, w1.alloc (.cells #[.int .i64 1, .int .i64 2, .int .i64 4, .int .i64 12] 3) = W := ⟨_, rfl⟩
  have hs2 : SV w2 1 (some ⟨w1.heap.size, 0, none⟩) 4 4 ([1, 2, 4, 12].map encI) := by
    refine ⟨sl_ints (l := [1, 2, 4, 12]) (e := 3) (cs := #[.int .i64 1, .int .i64 2, .int .i64 4, .int .i64 12]) ?_ rfl, rfl, by omega, by simp [maxLen], fun h => by cases h⟩
    rw [← hw2]; exact Blk.new _ _ _
  have HC := hide (contains_yes _ _ _ 1 _ 2 _ hs2 rfl (by omega))
  have hb2 : Below w1.heap.size w1 w2 := by rw [← hw2]; exact (Below.refl _ _).alloc (Nat.le_refl _) _
  have H2 := hide (chain hb1 hb2)
  have HB2 := hide (hB1.below hb2 hB1.lt)
  have HW2 := hide hw2
  clear hB1 hb1 hw1 hs2 hb2 hw2
  go_enter Tryz.func21, Tryz.ntmps21
  go_upto_region 1 with fail
  rw [show w.alloc (.cells #[.int .i64 1, .int .i64 101] 56) = w1 from HW1.out]
  go_wp2_with fail
  rw [show w1.alloc (.cells #[.int .i64 1, .int .i64 2, .int .i64 4, .int .i64 12] 3) = w2 from HW2.out]
  refine HC.out.mono ?_
  rintro e w3 ⟨rfl, h3⟩
  have hB3 := HB2.out.below h3 HB2.out.lt
  have x0 := hB3.cell 0
  have x1 := hB3.cell 1
  simp at x0 x1
  have HB3 := hide hB3
  have H3 := hide (chain H2.out h3)
  clear h3 hB3
  have hmn := many_any 1 101
  rw [show manyI 1 101 = 100 by decide] at hmn
  have HMN := hide hmn
  clear hmn
  go_wp2_with fail
  refine (HMN.out _).mono ?_
  rintro e w4 ⟨rfl, h4⟩
  have HB4 := hide (HB3.out.below h4 HB3.out.lt)
  have H4 := hide (chain H3.out h4)
  clear h4 x0 x1
  go_wp2_with fail
  refine (equal_any _).mono ?_
  rintro e w5 ⟨g, rfl, hP5, hg, h5⟩
  have HB5 := hide (HB4.out.below h5 HB4.out.lt)
  have H5 := hide (chain H4.out h5)
  have HP5 := hide hP5
  clear hP5 hg h5
  go_wp2_with fail
  go_loopw [10, 36] (fun s i wr => ∃ (k : Nat) (A' : Option Addr) (c' : Nat), k ≤ 2 ∧ i = .int .i64 k ∧ s = .slice A' k c' ∧ OwnS wr w5.heap.size 83 3 A' k c' ((planL k).map encBl) ∧ Below w5.heap.size w5 wr) (fun _ i _ => 2 - (RowKit.intOf i).toNat)
  case atStart => exact ⟨0, none, 0, by omega, rfl, rfl, OwnS.nil_ _ _ _ _, Below.refl _ _⟩
  case round =>
    obtain ⟨k, A', c', hk, rfl, rfl, ho, hb⟩ := hrel
    have HO := hide ho
    have HBE := hide hb
    clear ho
    by_cases hlt : k < 2
    · have y0 := kept hb (show w5.cell? ⟨w.heap.size, 0, none⟩ = some (.int .i64 1) from HB5.out.cell 0)
      have hk0 : (0 : Int) ≤ (k : Int) := by omega
      have hk1 : (k : Int) < 2 := by omega
      have hsh : ∀ W, Calls Tryz.prog 48 #[.int .i64 1, .int .i64 (IntKind.i64.wrap ((IntKind.i64.wrap ((k : Int) * 12)).tdiv 2))] W fun e w' => e = .returned (.tuple #[.int .i64 (if k = 0 then 1 else 182), .int .i64 0]) ∧ Below W.heap.size W w' := fun W => by
        rcases (show k = 0 ∨ k = 1 by omega) with rfl | rfl
        · exact shift_one 0 1 1 W (.inl ⟨rfl, rfl, rfl⟩)
        · exact shift_one 6 7 182 W (.inr ⟨rfl, rfl, rfl⟩)
      have HSH := hide hsh
      obtain ⟨du, hdu⟩ : ∃ du : Int, (if k = 0 then (1 : Int) else 182) = du := ⟨_, rfl⟩
      rw [hdu] at HSH
      have HDU := hide hdu
      clear hb hsh hdu
      go_wp2_with fail
      refine wp_region_class (fun W => Below wr.heap.size wr W) (by kernel_rfl) (by kernel_rfl) (Below.refl _ _).drew ?_
      repeat (first
        | go_big_quiet_skip
        | (go_big_quiet_want
           first
             | (go_big_quiet_op
                go_big_quiet_on)
             | (refine quiet_call (v := .tuple #[.int .i64 du, .int .i64 0]) (f := 48) (args := #[.int .i64 1, .int .i64 (IntKind.i64.wrap ((IntKind.i64.wrap ((k : Int) * 12)).tdiv 2))]) ?_ ?_ ?_
                · intro W hW
                  have y0 := kept hW y0
                  clear hW
                  go_simp
                  done
                · intro W hW
                  exact (HSH.out W).mono fun e w'' h => ⟨h.1, chain hW h.2⟩
                simp only [Act.put, List.setIfInBounds_toArray, List.set_cons_zero, List.set_cons_succ]
                go_big_quiet_on)
             | (refine quiet_yield (v := ?_) ?_ ?_
                rotate_left
                · intro W hW
                  have y0 := kept hW y0
                  clear hW
                  go_simp
                  try with_reducible rfl
                simp only [Act.put, List.setIfInBounds_toArray, List.set_cons_zero, List.set_cons_succ]
                go_big_quiet_on)))
      refine wpQuiet_nil ?_
      intro W hW
      have HW := hide (chain HBE.out hW)
      have hP := HP5.out.below HW.out HP5.out.lt
      have p1 := hP.cell k
      have hu5 : (#[Value.int .i64 5000, .int .i64 5000] : Array Value)[k]? = some (.int .i64 5000) := by rcases (show k = 0 ∨ k = 1 by omega) with rfl | rfl <;> rfl
      rw [hu5] at p1
      have HO2 := hide (HO.out.below hW)
      have hszw := HW.out.size
      clear hW y0 hP hu5
      go_wp2_with (at_builtin
                   refine wpList_app rfl (.tmp 51) (.tmp 58) 78 rfl elBl (B := w5.heap.size) (A2 := some ⟨_, 0, none⟩) (news := [(du, (5000 : Int))].map encBl) rfl (HO2.out.alloc _) rfl rfl ?_ (okBl [(du, 5000)]) ?_ ?_ ?_ ?_
                   · exact sl_of_blk (cs := #[.int .i64 du, .int .i64 5000, .int .i64 0]) (Blk.new _ _ _)
                   · simp only [maxLen]; omega
                   · omega
                   · simp; omega
                   intro A6 c6 w6 ho6 hg6 ha6
                   have HO6 := hide ho6
                   have H6 := hide ((HW.out.alloc HW.out.size _).grown hg6 (by simp; omega) (fun q hq => (HO2.out.lt q hq).1))
                   clear ho6 hg6 ha6)
      go_roundw
      case rel => exact ⟨k + 1, A6, c6, by omega, by go_num, rfl, by rw [planL_succ, List.map_append, HDU.out]; exact HO6.out, H6.out⟩
      case measure => simp [RowKit.intOf]; omega
    · obtain rfl : k = 2 := by omega
      go_wp2_with fail
      go_ret2
      exact ⟨A', c', rfl, HO.out.sv, chain H5.out HBE.out⟩
end Go.Proofs.YtmfohnchnbgbaaaGreatDoor
