/- Part 29 of the proof. -/
import Derived.Deep.RegionLaw
import Derived.Test.YtmfohnchnbgbaaaGreatTcM01
import Derived.Test.YtmfohnchnbgbaaaGreatTcM05
import Derived.Test.YtmfohnchnbgbaaaGreatTcM07
import Derived.Test.YtmfohnchnbgbaaaGreatTcM12
/- One quota, one loss: quota.Right, Loss, Takes, Bears at them. -/
namespace Go.Proofs.YtmfohnchnbgbaaaGreat
open Go.RowKit Go.Lib
set_option linter.unusedSimpArgs false

def trC : Array Value := #[.int .i64 2, .int .i64 1, .int .i64 1, .int .i64 101, .int .i64 5000, .int .i64 0, .int .i64 0, .int .i64 0, .int .i64 255]
def loC : Array Value := #[.int .i64 3, .int .i64 0, .int .i64 8, .int .i64 1, .int .i64 600]
theorem tr_cells {w : World} {g : Nat} {t : TypeId} (h : Blk w g t trC) : w.cell? ⟨g, 0, none⟩ = some (.int .i64 2) ∧ w.cell? ⟨g, 1, none⟩ = some (.int .i64 1) ∧ w.cell? ⟨g, 2, none⟩ = some (.int .i64 1) ∧ w.cell? ⟨g, 3, none⟩ = some (.int .i64 101) ∧ w.cell? ⟨g, 4, none⟩ = some (.int .i64 5000) ∧ w.cell? ⟨g, 5, none⟩ = some (.int .i64 0) ∧ w.cell? ⟨g, 6, none⟩ = some (.int .i64 0) ∧ w.cell? ⟨g, 7, none⟩ = some (.int .i64 0) ∧ w.cell? ⟨g, 8, none⟩ = some (.int .i64 255) :=
  ⟨h.cell 0, h.cell 1, h.cell 2, h.cell 3, h.cell 4, h.cell 5, h.cell 6, h.cell 7, h.cell 8⟩
theorem lo_cells {w : World} {g : Nat} {t : TypeId} (h : Blk w g t loC) : w.cell? ⟨g, 0, none⟩ = some (.int .i64 3) ∧ w.cell? ⟨g, 1, none⟩ = some (.int .i64 0) ∧ w.cell? ⟨g, 2, none⟩ = some (.int .i64 8) ∧ w.cell? ⟨g, 3, none⟩ = some (.int .i64 1) ∧ w.cell? ⟨g, 4, none⟩ = some (.int .i64 600) :=
  ⟨h.cell 0, h.cell 1, h.cell 2, h.cell 3, h.cell 4⟩

set_option maxHeartbeats 1000000 in
theorem has1_any (lo hi x : Int) (g : Nat) (w : World) (hB : Blk w g 3 #[.int .i64 x]) (h : lo ≤ x ∧ x ≤ hi) :
    Calls Tryz.prog 159 #[.agg #[.int .i64 lo, .int .i64 hi], .slice (some ⟨g, 0, none⟩) 1 1] w fun e w' => e = .returned (.bool true) ∧ Below w.heap.size w w' := by
  have hb : Below w.heap.size w (w.alloc (.cells #[.int .i64 lo, .int .i64 hi] 265)) := (Below.refl _ _).alloc (Nat.le_refl _) _
  have H1 := hide hb
  have c0 : w.cell? ⟨g, 0, none⟩ = some (.int .i64 x) := hB.cell 0
  have hlt := hB.lt
  have h1 : ¬ x < lo := by omega
  have h2 : ¬ hi < x := by omega
  clear hB h hb
  go_enter Tryz.func159, Tryz.ntmps159
  go_wp2_with fail
  go_loop [9] (fun q => q = .int .i64 0 ∨ q = .int .i64 1) (fun q => 2 - (RowKit.intOf q).toNat)
  case atStart => exact .inl rfl
  case round =>
    rcases hrel with rfl | rfl
    · go_wp2_with fail
      go_round
      case rel => exact .inr rfl
      case measure => simp [RowKit.intOf]
    · go_wp2_with fail
      go_ret
      exact ⟨rfl, H1.out⟩
set_option maxHeartbeats 1000000 in
theorem has3_any (g : Nat) (w : World) (hB : Blk w g 3 #[.int .i64 0, .int .i64 0, .int .i64 0]) :
    Calls Tryz.prog 159 #[.agg #[.int .i64 0, .int .i64 0], .slice (some ⟨g, 0, none⟩) 3 3] w fun e w' => e = .returned (.bool true) ∧ Below w.heap.size w w' := by
  have hb : Below w.heap.size w (w.alloc (.cells #[.int .i64 0, .int .i64 0] 265)) := (Below.refl _ _).alloc (Nat.le_refl _) _
  have H1 := hide hb
  have c0 : w.cell? ⟨g, 0, none⟩ = some (.int .i64 0) := hB.cell 0
  have c1 : w.cell? ⟨g, 1, none⟩ = some (.int .i64 0) := hB.cell 1
  have c2 : w.cell? ⟨g, 2, none⟩ = some (.int .i64 0) := hB.cell 2
  have hlt := hB.lt
  clear hB hb
  go_enter Tryz.func159, Tryz.ntmps159
  go_wp2_with fail
  go_loop [9] (fun q => q = .int .i64 0 ∨ q = .int .i64 1 ∨ q = .int .i64 2 ∨ q = .int .i64 3) (fun q => 4 - (RowKit.intOf q).toNat)
  case atStart => exact .inl rfl
  case round =>
    rcases hrel with rfl | rfl | rfl | rfl
    · go_wp2_with fail
      go_round
      case rel => exact .inr (.inl rfl)
      case measure => simp [RowKit.intOf]
    · go_wp2_with fail
      go_round
      case rel => exact .inr (.inr (.inl rfl))
      case measure => simp [RowKit.intOf]
    · go_wp2_with fail
      go_round
      case rel => exact .inr (.inr (.inr rfl))
      case measure => simp [RowKit.intOf]
    · go_wp2_with fail
      go_ret
      exact ⟨rfl, H1.out⟩
set_option maxRecDepth 100000 in
set_option maxHeartbeats 4000000 in
theorem rightQ_any (w : World) : Calls Tryz.prog 103 #[.agg #[.int .i64 2, .int .i64 1, .int .i64 1, .int .i64 101, .int .i64 5000, .int .i64 0, .int .i64 0, .int .i64 0, .int .i64 255]] w fun e w' => e = .returned (.bool true) ∧ Below w.heap.size w w' := by
  obtain ⟨w1, hw1⟩ : ∃ W, w.alloc (.cells trC 97) = W := ⟨_, rfl⟩
  have HB := hide (show Blk w1 w.heap.size 97 trC by rw [← hw1]; exact Blk.new _ _ _)
  have H1 := hide (show Below w.heap.size w w1 by rw [← hw1]; exact (Below.refl _ _).alloc (Nat.le_refl _) _)
  have HW := hide hw1
  clear hw1
  go_enter Tryz.func103, Tryz.ntmps103
  go_upto_region 1 with fail
  rw [show w.alloc (.cells #[.int .i64 2, .int .i64 1, .int .i64 1, .int .i64 101, .int .i64 5000, .int .i64 0, .int .i64 0, .int .i64 0, .int .i64 255] 97) = w1 from HW.out]
  obtain ⟨x0, x1, x2, x3, x4, x5, x6, x7, x8⟩ := tr_cells HB.out
  go_wp2_with fail
  refine (has1_any 1 1000000000 2 _ _ (Blk.new _ _ _) (by omega)).mono ?_
  rintro e w2 ⟨rfl, h2⟩
  have h12 := ((Below.refl w1.heap.size w1).alloc (Nat.le_refl _) _).trans (h2.mono (by simp))
  have HB2 := hide (HB.out.below h12 HB.out.lt)
  have H2 := hide (chain H1.out h12)
  clear h2 h12 x0 x1 x2 x3 x4 x5 x6 x7 x8
  obtain ⟨x0, x1, x2, x3, x4, x5, x6, x7, x8⟩ := tr_cells HB2.out
  go_wp2_with fail
  refine (many_any 1 101 w2).mono ?_
  rintro e w3 ⟨rfl, h3⟩
  rw [show manyI 1 101 = 100 by decide]
  have HB3 := hide (HB2.out.below h3 HB2.out.lt)
  have H3 := hide (chain H2.out h3)
  clear h3 x0 x1 x2 x3 x4 x5 x6 x7 x8
  obtain ⟨x0, x1, x2, x3, x4, x5, x6, x7, x8⟩ := tr_cells HB3.out
  go_wp2_with fail
  refine (has1_any 1 255 255 _ _ (Blk.new _ _ _) (by omega)).mono ?_
  rintro e w4 ⟨rfl, h4⟩
  have h34 := ((Below.refl w3.heap.size w3).alloc (Nat.le_refl _) _).trans (h4.mono (by simp))
  have HB4 := hide (HB3.out.below h34 HB3.out.lt)
  have H4 := hide (chain H3.out h34)
  clear h4 h34 x0 x1 x2 x3 x4 x5 x6 x7 x8
  obtain ⟨x0, x1, x2, x3, x4, x5, x6, x7, x8⟩ := tr_cells HB4.out
  go_wp2_with fail
  refine (has1_any 1 10000 5000 _ _ (Blk.new _ _ _) (by omega)).mono ?_
  rintro e w5 ⟨rfl, h5⟩
  have h45 := ((Below.refl w4.heap.size w4).alloc (Nat.le_refl _) _).trans (h5.mono (by simp))
  have HB5 := hide (HB4.out.below h45 HB4.out.lt)
  have H5 := hide (chain H4.out h45)
  clear h5 h45 x0 x1 x2 x3 x4 x5 x6 x7 x8
  obtain ⟨x0, x1, x2, x3, x4, x5, x6, x7, x8⟩ := tr_cells HB5.out
  go_wp2_with fail
  refine (has3_any _ _ (Blk.new _ _ _)).mono ?_
  rintro e w6 ⟨rfl, h6⟩
  have H6 := hide (chain H5.out (((Below.refl w5.heap.size w5).alloc (Nat.le_refl _) _).trans (h6.mono (by simp))))
  clear h6 x0 x1 x2 x3 x4 x5 x6 x7 x8
  go_wp2_with fail
  go_ret
  exact ⟨rfl, H6.out⟩
set_option maxRecDepth 100000 in
set_option maxHeartbeats 4000000 in
theorem lossQ_any (w : World) : Calls Tryz.prog 105 #[.agg #[.int .i64 3, .int .i64 0, .int .i64 8, .int .i64 1, .int .i64 600]] w fun e w' => e = .returned (.bool true) ∧ Below w.heap.size w w' := by
  obtain ⟨w1, hw1⟩ : ∃ W, w.alloc (.cells loC 103) = W := ⟨_, rfl⟩
  have HB := hide (show Blk w1 w.heap.size 103 loC by rw [← hw1]; exact Blk.new _ _ _)
  have H1 := hide (show Below w.heap.size w w1 by rw [← hw1]; exact (Below.refl _ _).alloc (Nat.le_refl _) _)
  have HW := hide hw1
  clear hw1
  go_enter Tryz.func105, Tryz.ntmps105
  go_upto_region 1 with fail
  rw [show w.alloc (.cells #[.int .i64 3, .int .i64 0, .int .i64 8, .int .i64 1, .int .i64 600] 103) = w1 from HW.out]
  obtain ⟨x0, x1, x2, x3, x4⟩ := lo_cells HB.out
  go_wp2_with fail
  refine (has1_any 1 1000000000 3 _ _ (Blk.new _ _ _) (by omega)).mono ?_
  rintro e w2 ⟨rfl, h2⟩
  have h12 := ((Below.refl w1.heap.size w1).alloc (Nat.le_refl _) _).trans (h2.mono (by simp))
  have HB2 := hide (HB.out.below h12 HB.out.lt)
  have H2 := hide (chain H1.out h12)
  clear h2 h12 x0 x1 x2 x3 x4
  obtain ⟨x0, x1, x2, x3, x4⟩ := lo_cells HB2.out
  go_wp2_with fail
  refine (has1_any 0 1000000000 0 _ _ (Blk.new _ _ _) (by omega)).mono ?_
  rintro e w3 ⟨rfl, h3⟩
  have h23 := ((Below.refl w2.heap.size w2).alloc (Nat.le_refl _) _).trans (h3.mono (by simp))
  have HB3 := hide (HB2.out.below h23 HB2.out.lt)
  have H3 := hide (chain H2.out h23)
  clear h3 h23 x0 x1 x2 x3 x4
  obtain ⟨x0, x1, x2, x3, x4⟩ := lo_cells HB3.out
  go_wp2_with fail
  refine (has1_any 1 292194 8 _ _ (Blk.new _ _ _) (by omega)).mono ?_
  rintro e w4 ⟨rfl, h4⟩
  have h34 := ((Below.refl w3.heap.size w3).alloc (Nat.le_refl _) _).trans (h4.mono (by simp))
  have HB4 := hide (HB3.out.below h34 HB3.out.lt)
  have H4 := hide (chain H3.out h34)
  clear h4 h34 x0 x1 x2 x3 x4
  obtain ⟨x0, x1, x2, x3, x4⟩ := lo_cells HB4.out
  go_wp2_with fail
  refine (has1_any 0 7 1 _ _ (Blk.new _ _ _) (by omega)).mono ?_
  rintro e w5 ⟨rfl, h5⟩
  have h45 := ((Below.refl w4.heap.size w4).alloc (Nat.le_refl _) _).trans (h5.mono (by simp))
  have HB5 := hide (HB4.out.below h45 HB4.out.lt)
  have H5 := hide (chain H4.out h45)
  clear h5 h45 x0 x1 x2 x3 x4
  obtain ⟨x0, x1, x2, x3, x4⟩ := lo_cells HB5.out
  go_wp2_with fail
  refine (has1_any 0 1000000000000000 600 _ _ (Blk.new _ _ _) (by omega)).mono ?_
  rintro e w6 ⟨rfl, h6⟩
  have H6 := hide (chain H5.out (((Below.refl w5.heap.size w5).alloc (Nat.le_refl _) _).trans (h6.mono (by simp))))
  clear h6 x0 x1 x2 x3 x4
  go_wp2_with fail
  go_ret
  exact ⟨rfl, H6.out⟩
set_option maxRecDepth 100000 in
set_option maxHeartbeats 4000000 in
theorem takesQ_any (w : World) : Calls Tryz.prog 162 #[.agg #[.int .i64 2, .int .i64 1, .int .i64 1, .int .i64 101, .int .i64 5000, .int .i64 0, .int .i64 0, .int .i64 0, .int .i64 255], .agg #[.int .i64 3, .int .i64 0, .int .i64 8, .int .i64 1, .int .i64 600]] w fun e w' => e = .returned (.bool true) ∧ Below w.heap.size w w' := by
  obtain ⟨w1, hw1⟩ : ∃ W, (w.alloc (.cells trC 97)).alloc (.cells loC 103) = W := ⟨_, rfl⟩
  have HB := hide (show Blk w1 w.heap.size 97 trC by rw [← hw1]; exact (Blk.new _ _ _).alloc _)
  have HL := hide (show Blk w1 (w.heap.size + 1) 103 loC by rw [← hw1]; exact Blk.new' (by simp))
  have H1 := hide (show Below w.heap.size w w1 by rw [← hw1]; exact ((Below.refl _ _).alloc (Nat.le_refl _) _).alloc (by simp) _)
  have HW := hide hw1
  clear hw1
  go_enter Tryz.func162, Tryz.ntmps162
  go_upto_region 1 with fail
  rw [show (w.alloc (.cells #[.int .i64 2, .int .i64 1, .int .i64 1, .int .i64 101, .int .i64 5000, .int .i64 0, .int .i64 0, .int .i64 0, .int .i64 255] 97)).alloc (.cells #[.int .i64 3, .int .i64 0, .int .i64 8, .int .i64 1, .int .i64 600] 103) = w1 from HW.out]
  obtain ⟨x0, x1, x2, x3, x4, x5, x6, x7, x8⟩ := tr_cells HB.out
  go_wp2_with fail
  refine (rightQ_any w1).mono ?_
  rintro e w2 ⟨rfl, h2⟩
  have HB2 := hide (HB.out.below h2 HB.out.lt)
  have HL2 := hide (HL.out.below h2 HL.out.lt)
  have H2 := hide (chain H1.out h2)
  clear h2 x0 x1 x2 x3 x4 x5 x6 x7 x8
  obtain ⟨y0, y1, y2, y3, y4⟩ := lo_cells HL2.out
  go_wp2_with fail
  refine (lossQ_any w2).mono ?_
  rintro e w3 ⟨rfl, h3⟩
  have HB3 := hide (HB2.out.below h3 HB2.out.lt)
  have HL3 := hide (HL2.out.below h3 HL2.out.lt)
  have H3 := hide (chain H2.out h3)
  clear h3 y0 y1 y2 y3 y4
  obtain ⟨x0, x1, x2, x3, x4, x5, x6, x7, x8⟩ := tr_cells HB3.out
  obtain ⟨y0, y1, y2, y3, y4⟩ := lo_cells HL3.out
  go_wp2_with fail
  refine (in_any 1 101 8 w3).mono ?_
  rintro e w4 ⟨rfl, h4⟩
  rw [show inB 1 101 8 = true by decide]
  have HB4 := hide (HB3.out.below h4 HB3.out.lt)
  have HL4 := hide (HL3.out.below h4 HL3.out.lt)
  have H4 := hide (chain H3.out h4)
  clear h4 x0 x1 x2 x3 x4 x5 x6 x7 x8 y0 y1 y2 y3 y4
  obtain ⟨x0, x1, x2, x3, x4, x5, x6, x7, x8⟩ := tr_cells HB4.out
  obtain ⟨y0, y1, y2, y3, y4⟩ := lo_cells HL4.out
  go_wp2_with fail
  go_ret
  exact ⟨rfl, H4.out⟩
set_option maxRecDepth 100000 in
set_option maxHeartbeats 4000000 in
theorem bearsQ_any (w : World) : Calls Tryz.prog 116 #[.agg #[.int .i64 2, .int .i64 1, .int .i64 1, .int .i64 101, .int .i64 5000, .int .i64 0, .int .i64 0, .int .i64 0, .int .i64 255], .agg #[.int .i64 3, .int .i64 0, .int .i64 8, .int .i64 1, .int .i64 600]] w fun e w' => e = .returned (.tuple #[.int .i64 300, .bool true]) ∧ Below w.heap.size w w' := by
  obtain ⟨w1, hw1⟩ : ∃ W, (w.alloc (.cells trC 97)).alloc (.cells loC 103) = W := ⟨_, rfl⟩
  have HB := hide (show Blk w1 w.heap.size 97 trC by rw [← hw1]; exact (Blk.new _ _ _).alloc _)
  have HL := hide (show Blk w1 (w.heap.size + 1) 103 loC by rw [← hw1]; exact Blk.new' (by simp))
  have H1 := hide (show Below w.heap.size w w1 by rw [← hw1]; exact ((Below.refl _ _).alloc (Nat.le_refl _) _).alloc (by simp) _)
  have HW := hide hw1
  clear hw1
  go_enter Tryz.func116, Tryz.ntmps116
  go_upto_region 1 with fail
  rw [show (w.alloc (.cells #[.int .i64 2, .int .i64 1, .int .i64 1, .int .i64 101, .int .i64 5000, .int .i64 0, .int .i64 0, .int .i64 0, .int .i64 255] 97)).alloc (.cells #[.int .i64 3, .int .i64 0, .int .i64 8, .int .i64 1, .int .i64 600] 103) = w1 from HW.out]
  obtain ⟨x0, x1, x2, x3, x4, x5, x6, x7, x8⟩ := tr_cells HB.out
  obtain ⟨y0, y1, y2, y3, y4⟩ := lo_cells HL.out
  go_wp2_with fail
  refine (takesQ_any w1).mono ?_
  rintro e w2 ⟨rfl, h2⟩
  have HB2 := hide (HB.out.below h2 HB.out.lt)
  have HL2 := hide (HL.out.below h2 HL.out.lt)
  have H2 := hide (chain H1.out h2)
  clear h2 x0 x1 x2 x3 x4 x5 x6 x7 x8 y0 y1 y2 y3 y4
  obtain ⟨x0, x1, x2, x3, x4, x5, x6, x7, x8⟩ := tr_cells HB2.out
  obtain ⟨y0, y1, y2, y3, y4⟩ := lo_cells HL2.out
  have HBP := hide (show Calls Tryz.prog 85 #[.int .i64 600, .int .i64 5000] w2 fun e w' => e = .returned (.tuple #[.int .i64 300, .int .i64 0]) ∧ Below w2.heap.size w2 w' by
    have := bp_any 600 5000 (by omega) (by omega) w2
    rw [show evQ 600 5000 10000 = 300 by decide, show evE 600 5000 10000 = 0 by decide] at this
    exact this)
  go_wp2_with fail
  refine HBP.out.mono ?_
  rintro e w3 ⟨rfl, h3⟩
  have H3 := hide (chain H2.out h3)
  clear h3 x0 x1 x2 x3 x4 x5 x6 x7 x8 y0 y1 y2 y3 y4
  go_wp2_with fail
  go_ret2
  exact ⟨rfl, H3.out⟩
end Go.Proofs.YtmfohnchnbgbaaaGreat

/- One treaty's place in a heap: tower.Order. -/
namespace Go.Proofs.YtmfohnchnbgbaaaGreat
open Go.RowKit Go.Lib
set_option linter.unusedSimpArgs false

def pRow : List Value := [.int .i64 1, .int .i64 0, .int .i64 0]
theorem elPlc : ElT Tryz.prog 211 213 3 24 := ElT.mk' (z := .agg #[.int .i64 0, .int .i64 0, .int .i64 0]) Tryz.underlying211 (by kernel_rfl) rfl (by omega)
theorem okPlc : RowsOk 3 [pRow] := by
  intro r hr
  obtain rfl := List.mem_singleton.1 hr
  exact ⟨rfl, fun u hu => by simp [pRow] at hu; rcases hu with rfl | rfl <;> rfl⟩
/-- The places in a box: n of them, one at most. -/
structure PlI (B G g n c : Nat) (rows : List (List Value)) (w : World) : Prop where
  bx : Blk w G 211 #[.slice (some ⟨g, 0, none⟩) n c]
  ow : OwnS w B 213 3 (some ⟨g, 0, none⟩) n c rows
  ne : G ≠ g
  ge : B ≤ G
theorem PlI.below {B G g n c : Nat} {rows : List (List Value)} {w w' : World} (h : PlI B G g n c rows w) (hb : Below w.heap.size w w') : PlI B G g n c rows w' := ⟨h.bx.below hb h.bx.lt, h.ow.below hb, h.ne, h.ge⟩
theorem PlI.row {B G g c : Nat} {w : World} (h : PlI B G g 1 c [pRow] w) : w.cell? ⟨g, 0, none⟩ = some (.int .i64 1) ∧ w.cell? ⟨g, 1, none⟩ = some (.int .i64 0) ∧ w.cell? ⟨g, 2, none⟩ = some (.int .i64 0) := by
  obtain ⟨b, off, hA, _, hc⟩ := h.ow.sl 0 pRow rfl
  cases hA
  exact ⟨by simpa using hc 0 _ rfl, by simpa using hc 1 _ rfl, by simpa using hc 2 _ rfl⟩
theorem PlI.lt {B G g n c : Nat} {rows : List (List Value)} {w : World} (h : PlI B G g n c rows w) : B ≤ g ∧ g < w.heap.size ∧ G < w.heap.size := ⟨(h.ow.lt g rfl).1, (h.ow.lt g rfl).2, h.bx.lt⟩

set_option maxRecDepth 100000 in
set_option maxHeartbeats 4000000 in
theorem push_any (B G g c : Nat) (w : World) (h : PlI B G g 0 c [] w) :
    Calls Tryz.prog 233 #[.pointer (some ⟨G, 0, none⟩), .iface 213 (.agg #[.int .i64 1, .int .i64 0, .int .i64 0])] w fun e w' => e = .returned (.tuple #[]) ∧ Below B w w' ∧ ∃ g' c', PlI B G g' 1 c' [pRow] w' := by
  have x0 : w.cell? ⟨G, 0, none⟩ = some (.slice (some ⟨g, 0, none⟩) 0 c) := h.bx.cell 0
  have y0 := h.bx.frozen 0
  have hlt := h.lt
  obtain ⟨hl1, hl2, hl3⟩ := hlt
  have hB : B ≤ w.heap.size := by omega
  have HI := hide h
  have hta : ∀ W : World, (Instr.typeAssert (.iface 213 (.agg #[.int .i64 1, .int .i64 0, .int .i64 0])) 20 213 false).run Tryz.prog W = .ok (.agg #[.int .i64 1, .int .i64 0, .int .i64 0]) W := fun W => by kernel_rfl
  clear h
  go_enter Tryz.func233, Tryz.ntmps233
  go_wp2_with fail
  go_region_law (first
          | (refine step_app rfl (.tmp 7) (.tmp 10) 211 rfl elPlc (B := B) (rows := []) (A2 := some ⟨_, 0, none⟩) (news := [pRow]) rfl ?_ rfl rfl ?_ okPlc ?_ ?_ ?_ ?_
             · first | exact (HI.out.ow.alloc _).drew | exact HI.out.ow.alloc _ | exact HI.out.ow.drew.alloc _
             · first | exact sl_of_blk (cs := #[.int .i64 1, .int .i64 0, .int .i64 0]) (Blk.drew (Blk.new' (by simp))) | exact sl_of_blk (cs := #[.int .i64 1, .int .i64 0, .int .i64 0]) (Blk.new' (by simp))
             · simp [maxLen]
             · omega
             · (simp; try omega)
             intro A3 cp3 wb ho2 hg2 ha2
             obtain ⟨g2, rfl, hgB, hgl⟩ : ∃ g2, A3 = some ⟨g2, 0, none⟩ ∧ B ≤ g2 ∧ g2 < wb.heap.size := by
               rcases ho2.addr with ⟨-, h0, -⟩ | h
               · omega
               · exact h
             have hne : G ≠ g2 := by
               rcases ha2 with h | h
               · have h5 := HI.out.ne
                 simp [blk] at h
                 omega
               · simp [blk] at h
                 omega
             have hbx := hide (((HI.out.bx.alloc _).drew).grown hg2 (fun e => HI.out.ne (by simpa [blk] using e)))
             have HO2 := hide ho2
             have HN2 := hide hne
             have HB2 := hide ((((Below.refl B w).alloc hB _).drew).grown hg2 (by simp; omega) (fun kk hk => (HI.out.ow.lt kk hk).1))
             have y1 := hbx.out.frozen 0
             have z1 := hbx.out.cell 0
             clear ho2 hg2 ha2 hne))
  all_goals
    go_wp2_with fail
    go_end0
    exact ⟨rfl, HB2.out.setCell (p := ⟨G, 0, none⟩) HI.out.ge _, g2, cp3, ⟨hbx.out.set_ 0 _, HO2.out.far (p := ⟨G, 0, none⟩) (fun kk hk => by simp [blk] at hk; have := HN2.out; simp; omega) _, HN2.out, HI.out.ge⟩⟩
theorem m_push (x : Value) (w : World) : (Go.method 427 209 x "Push").run Tryz.prog w = .ok (233, x) w := by kernel_rfl
theorem m_pop (x : Value) (w : World) : (Go.method 427 209 x "Pop").run Tryz.prog w = .ok (232, x) w := by kernel_rfl
theorem m_len {G : Nat} {v : Value} {w : World} (h : w.cell? ⟨G, 0, none⟩ = some v) : (Go.method 427 209 (.pointer (some ⟨G, 0, none⟩)) "Len").run Tryz.prog w = .ok (112, v) w := by
  have e : (Go.method 427 209 (.pointer (some ⟨G, 0, none⟩)) "Len").run Tryz.prog w = (do let x ← loadVar 211 ⟨G, 0, none⟩; pure ((112 : FuncId), x) : Sem (FuncId × Value)).run Tryz.prog w := by kernel_rfl
  rw [e]
  simp [loadVar, go_sem, h]
theorem m_swap {G : Nat} {v : Value} {w : World} (h : w.cell? ⟨G, 0, none⟩ = some v) : (Go.method 427 209 (.pointer (some ⟨G, 0, none⟩)) "Swap").run Tryz.prog w = .ok (234, v) w := by
  have e : (Go.method 427 209 (.pointer (some ⟨G, 0, none⟩)) "Swap").run Tryz.prog w = (do let x ← loadVar 211 ⟨G, 0, none⟩; pure ((234 : FuncId), x) : Sem (FuncId × Value)).run Tryz.prog w := by kernel_rfl
  rw [e]
  simp [loadVar, go_sem, h]
theorem len_any (n c : Nat) (A : Option Addr) (w : World) : Calls Tryz.prog 112 #[.slice A n c] w fun e w' => e = .returned (.int .i64 n) ∧ w' = w := by
  go_enter Tryz.func112, Tryz.ntmps112
  go_wp2
  go_ret
  exact ⟨rfl, rfl⟩
theorem up_any (x : Value) (w : World) : Calls Tryz.prog 163 #[x, .int .i64 0] w fun e w' => e = .returned (.tuple #[]) ∧ w' = w := by
  go_enter Tryz.func163, Tryz.ntmps163
  go_wp2_with fail
  go_loop [1] (fun q => q = .int .i64 0) (fun _ => 0)
  case atStart => rfl
  case round =>
    subst hrel
    go_wp2_with fail
    go_end0
    exact ⟨rfl, rfl⟩
theorem down_any (x : Value) (w : World) : Calls Tryz.prog 164 #[x, .int .i64 0, .int .i64 0] w fun e w' => e = .returned (.bool false) ∧ w' = w := by
  go_enter Tryz.func164, Tryz.ntmps164
  go_wp2_with fail
  go_loop [7] (fun q => q = .int .i64 0) (fun _ => 0)
  case atStart => rfl
  case round =>
    subst hrel
    go_wp2_with fail
    go_ret
    exact ⟨rfl, rfl⟩
set_option maxRecDepth 100000 in
set_option maxHeartbeats 2000000 in
theorem hpush_any (B G g c : Nat) (w : World) (h : PlI B G g 0 c [] w) :
    Calls Tryz.prog 111 #[.iface 209 (.pointer (some ⟨G, 0, none⟩)), .iface 213 (.agg #[.int .i64 1, .int .i64 0, .int .i64 0])] w fun e w' => e = .returned (.tuple #[]) ∧ Below B w w' ∧ ∃ g' c', PlI B G g' 1 c' [pRow] w' := by
  have hm1 := m_push (.pointer (some ⟨G, 0, none⟩)) w
  have HI := hide h
  clear h
  go_enter Tryz.func111, Tryz.ntmps111
  go_wp2_with fail
  refine (push_any B G g c w HI.out).mono ?_
  rintro e w1 ⟨rfl, h1, g1, c1, hI⟩
  have HI1 := hide hI
  have H1 := hide h1
  have hm2 := m_len (G := G) (hI.bx.cell 0)
  clear hI h1
  go_wp2_with fail
  refine (len_any 1 c1 _ w1).mono ?_
  rintro e w2 ⟨rfl, rfl⟩
  go_wp2_with fail
  refine (up_any _ _).mono ?_
  rintro e w2 ⟨rfl, rfl⟩
  go_wp2_with fail
  go_end0
  exact ⟨rfl, H1.out, g1, c1, HI1.out⟩
/-- The place stored anew. -/
def put3 (w : World) (g : Nat) : World := ((w.setCell ⟨g, 0, none⟩ (.int .i64 1)).setCell ⟨g, 1, none⟩ (.int .i64 0)).setCell ⟨g, 2, none⟩ (.int .i64 0)
theorem PlI.drew {B G g n c : Nat} {rows : List (List Value)} {w : World} (h : PlI B G g n c rows w) : PlI B G g n c rows w.drew := h.below (Below.refl _ _).drew
theorem PlI.put {B G g c : Nat} {w : World} (h : PlI B G g 1 c [pRow] w) : PlI B G g 1 c [pRow] (put3 w g) := by
  have h1 := h.ow.set_ (i := 0) (j := 0) (row := pRow) rfl (by omega) (u := .int .i64 1) rfl
  have h2 := h1.set_ (i := 0) (j := 1) (row := pRow) rfl (by omega) (u := .int .i64 0) rfl
  have h3 := h2.set_ (i := 0) (j := 2) (row := pRow) rfl (by omega) (u := .int .i64 0) rfl
  exact ⟨((h.bx.far (p := ⟨g, 0, none⟩) h.ne _).far (p := ⟨g, 1, none⟩) h.ne _).far (p := ⟨g, 2, none⟩) h.ne _, h3, h.ne, h.ge⟩
theorem bel_put3 {B g : Nat} {w w' : World} (h : Below B w w') (hg : B ≤ g) : Below B w (put3 w' g) :=
  ((h.setCell (p := ⟨g, 0, none⟩) hg _).setCell (p := ⟨g, 1, none⟩) hg _).setCell (p := ⟨g, 2, none⟩) hg _
set_option maxRecDepth 100000 in
set_option maxHeartbeats 2000000 in
theorem swapP_any (B G g c : Nat) (w : World) (h : PlI B G g 1 c [pRow] w) :
    Calls Tryz.prog 234 #[.slice (some ⟨g, 0, none⟩) 1 c, .int .i64 0, .int .i64 0] w fun e w' => e = .returned (.tuple #[]) ∧ Below B w w' ∧ PlI B G g 1 c [pRow] w' := by
  obtain ⟨W, hW⟩ : ∃ W, w.drew = W := ⟨_, rfl⟩
  have hb : Below B w W := by rw [← hW]; exact (Below.refl _ _).drew
  have hI : PlI B G g 1 c [pRow] W := by rw [← hW]; exact h.drew
  have HB := hide hb
  have HI := hide hI
  have HW := hide hW
  have hT0 : (fun X : World => X.cell? ⟨g, 0, none⟩ = some (.int .i64 1) ∧ X.cell? ⟨g, 1, none⟩ = some (.int .i64 0) ∧ X.cell? ⟨g, 2, none⟩ = some (.int .i64 0)) W := hI.row
  simp only at hT0
  obtain ⟨d0, d1, d2⟩ := hT0
  have hT0 : (fun X : World => X.cell? ⟨g, 0, none⟩ = some (.int .i64 1) ∧ X.cell? ⟨g, 1, none⟩ = some (.int .i64 0) ∧ X.cell? ⟨g, 2, none⟩ = some (.int .i64 0)) W := ⟨d0, d1, d2⟩
  simp only at hT0
  have f0 : W.frozen? ⟨g, 0, none⟩ = false := hI.ow.frozen 0
  have f1 : W.frozen? ⟨g, 1, none⟩ = false := hI.ow.frozen 1
  have f2 : W.frozen? ⟨g, 2, none⟩ = false := hI.ow.frozen 2
  clear h hb hI hW
  go_enter Tryz.func234, Tryz.ntmps234
  go_wp2_with fail
  refine wp_region_T (fun X : World => X.cell? ⟨g, 0, none⟩ = some (.int .i64 1) ∧ X.cell? ⟨g, 1, none⟩ = some (.int .i64 0) ∧ X.cell? ⟨g, 2, none⟩ = some (.int .i64 0)) [0, 1, 2, 3, 4, 5, 6, 8, 9, 10, 12, 13, 14, 15] rfl (by kernel_rfl) ?_
  rw [HW.out]
  refine wpAnyT_take0 (i := 0) (v := ?_) rfl (by kernel_rfl) (by kernel_rfl) (by kernel_rfl) (by kernel_rfl) (fun _ _ _ h => h) (Or.inl ⟨by rfl, ?_⟩) ?_
  rotate_left
  · intro W hSW
    go_simp
    try with_reducible rfl
  simp only [Act.put, List.setIfInBounds_toArray, List.set_cons_zero, List.set_cons_succ]
  refine wpAnyT_take0 (i := 1) (v := ?_) rfl (by kernel_rfl) (by kernel_rfl) (by kernel_rfl) (by kernel_rfl) (fun _ _ _ h => h) (Or.inl ⟨by rfl, ?_⟩) ?_
  rotate_left
  · intro W hSW
    go_simp
    try with_reducible rfl
  simp only [Act.put, List.setIfInBounds_toArray, List.set_cons_zero, List.set_cons_succ]
  refine wpAnyT_take0 (i := 2) (v := ?_) rfl (by kernel_rfl) (by kernel_rfl) (by kernel_rfl) (by kernel_rfl) (fun _ _ _ h => h) (Or.inl ⟨by rfl, ?_⟩) ?_
  rotate_left
  · intro W hSW
    go_simp
    try with_reducible rfl
  simp only [Act.put, List.setIfInBounds_toArray, List.set_cons_zero, List.set_cons_succ]
  refine wpAnyT_take0 (i := 3) (v := ?_) rfl (by kernel_rfl) (by kernel_rfl) (by kernel_rfl) (by kernel_rfl) (fun _ _ _ h => h) (Or.inl ⟨by rfl, ?_⟩) ?_
  rotate_left
  · intro W hSW
    go_simp
    try with_reducible rfl
  simp only [Act.put, List.setIfInBounds_toArray, List.set_cons_zero, List.set_cons_succ]
  refine wpAnyT_take0 (i := 4) (v := ?_) rfl (by kernel_rfl) (by kernel_rfl) (by kernel_rfl) (by kernel_rfl) (fun _ _ _ h => h) (Or.inl ⟨by rfl, ?_⟩) ?_
  rotate_left
  · intro W hSW
    go_simp
    try with_reducible rfl
  simp only [Act.put, List.setIfInBounds_toArray, List.set_cons_zero, List.set_cons_succ]
  refine wpAnyT_take0 (i := 5) (v := ?_) rfl (by kernel_rfl) (by kernel_rfl) (by kernel_rfl) (by kernel_rfl) (fun _ _ _ h => h) (Or.inl ⟨by rfl, ?_⟩) ?_
  rotate_left
  · intro W hSW
    go_simp
    try with_reducible rfl
  simp only [Act.put, List.setIfInBounds_toArray, List.set_cons_zero, List.set_cons_succ]
  refine wpAnyT_take0 (i := 8) (v := ?_) rfl (by kernel_rfl) (by kernel_rfl) (by kernel_rfl) (by kernel_rfl) (fun _ _ _ h => h) (Or.inl ⟨by rfl, ?_⟩) ?_
  rotate_left
  · intro W hSW
    go_simp
    try with_reducible rfl
  simp only [Act.put, List.setIfInBounds_toArray, List.set_cons_zero, List.set_cons_succ]
  refine wpAnyT_take0 (i := 9) (v := ?_) rfl (by kernel_rfl) (by kernel_rfl) (by kernel_rfl) (by kernel_rfl) (fun _ _ _ h => h) (Or.inl ⟨by rfl, ?_⟩) ?_
  rotate_left
  · intro W hSW
    go_simp
    try with_reducible rfl
  simp only [Act.put, List.setIfInBounds_toArray, List.set_cons_zero, List.set_cons_succ]
  refine wpAnyT_take0 (i := 6) (v := ?_) rfl (by kernel_rfl) (by kernel_rfl) (by kernel_rfl) (by kernel_rfl) (fun _ _ _ h => h) (Or.inl ⟨by rfl, ?_⟩) ?_
  rotate_left
  · intro W hSW
    go_simp
    try with_reducible rfl
  simp only [Act.put, List.setIfInBounds_toArray, List.set_cons_zero, List.set_cons_succ]
  refine wpAnyT_take0 (i := 10) (v := ?_) rfl (by kernel_rfl) (by kernel_rfl) (by kernel_rfl) (by kernel_rfl) (fun _ _ _ h => h) (Or.inl ⟨by rfl, ?_⟩) ?_
  rotate_left
  · intro W hSW
    go_simp
    try with_reducible rfl
  simp only [Act.put, List.setIfInBounds_toArray, List.set_cons_zero, List.set_cons_succ]
  refine wpAnyT_take (i := 7) (v := ?_) rfl (by kernel_rfl) (by kernel_rfl) (by kernel_rfl) (by kernel_rfl) (fun _ _ _ h => h) (Or.inl ⟨by rfl, ?_⟩) hT0 ?_
  rotate_left
  · intro W hSW
    obtain ⟨hs0, hs1, hs2⟩ := hSW
    go_simp
    try with_reducible rfl
  simp only [Act.put, List.setIfInBounds_toArray, List.set_cons_zero, List.set_cons_succ]
  refine wpAnyT_take (i := 11) (v := ?_) rfl (by kernel_rfl) (by kernel_rfl) (by kernel_rfl) (by kernel_rfl) (fun _ _ _ h => h) (Or.inl ⟨by rfl, ?_⟩) hT0 ?_
  rotate_left
  · intro W hSW
    obtain ⟨hs0, hs1, hs2⟩ := hSW
    go_simp
    try with_reducible rfl
  simp only [Act.put, List.setIfInBounds_toArray, List.set_cons_zero, List.set_cons_succ]
  refine wpAnyT_take0 (i := 12) (v := ?_) rfl (by kernel_rfl) (by kernel_rfl) (by kernel_rfl) (by kernel_rfl) (fun _ _ _ h => h) (Or.inl ⟨by rfl, ?_⟩) ?_
  rotate_left
  · intro W hSW
    go_simp
    try with_reducible rfl
  simp only [Act.put, List.setIfInBounds_toArray, List.set_cons_zero, List.set_cons_succ]
  refine wpAnyT_ready (rs := [13]) (by decide +kernel) (by simp) ?_
  refine AllReadyT.cons rfl (fun K hK => ?_) AllReadyT.nil
  go_simp
  refine hK.out _ _ (fun h => by cases h) ?_
  try simp only [Act.put, List.setIfInBounds_toArray, List.set_cons_zero, List.set_cons_succ]
  clear hK K
  refine wpAnyT_take0 (i := 14) (v := ?_) rfl (by kernel_rfl) (by kernel_rfl) (by kernel_rfl) (by kernel_rfl) (fun _ _ _ h => h) (Or.inl ⟨by rfl, ?_⟩) ?_
  rotate_left
  · intro W hSW
    go_simp
    try with_reducible rfl
  simp only [Act.put, List.setIfInBounds_toArray, List.set_cons_zero, List.set_cons_succ]
  refine wpAnyT_ready (rs := [15]) (by decide +kernel) (by simp) ?_
  refine AllReadyT.cons rfl (fun K hK => ?_) AllReadyT.nil
  go_simp
  refine hK.out _ _ (fun h => by cases h) ?_
  try simp only [Act.put, List.setIfInBounds_toArray, List.set_cons_zero, List.set_cons_succ]
  clear hK K
  refine wpAnyT_done (by decide +kernel) ?_ _
  clear hT0 d0 d1 d2 f0 f1 f2
  go_wp2_with fail
  go_end0
  exact ⟨rfl, bel_put3 (bel_put3 HB.out HI.out.lt.1) HI.out.lt.1, HI.out.put.put⟩
end Go.Proofs.YtmfohnchnbgbaaaGreat
