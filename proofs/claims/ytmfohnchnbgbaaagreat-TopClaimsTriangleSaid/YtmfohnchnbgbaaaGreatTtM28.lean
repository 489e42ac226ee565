/- Part 28 of the proof. -/
import Derived.Maps.OwnSet
import Derived.Test.YtmfohnchnbgbaaaGreatTtM26
import Derived.Test.YtmfohnchnbgbaaaGreatTtM27
/- One quota, one loss: tower.may. -/
namespace Go.Proofs.YtmfohnchnbgbaaaGreat
open Go.RowKit Go.Lib Go.Maps
set_option linter.unusedSimpArgs false

set_option maxRecDepth 100000 in
set_option maxHeartbeats 2000000 in
theorem may1_any (w : World) : Calls Tryz.prog 102 #[.agg #[.int .i64 2, .int .i64 1, .int .i64 1, .int .i64 101, .int .i64 5000, .int .i64 0, .int .i64 0, .int .i64 0, .int .i64 255]] w fun e w' => e = .returned (.bool false) ∧ Below w.heap.size w w' := by
  obtain ⟨w1, hw1⟩ : ∃ W, w.alloc (.cells trC 97) = W := ⟨_, rfl⟩
  have HB := hide (show Blk w1 w.heap.size 97 trC by rw [← hw1]; exact Blk.new _ _ _)
  have H1 := hide (show Below w.heap.size w w1 by rw [← hw1]; exact (Below.refl _ _).alloc (Nat.le_refl _) _)
  have HW := hide hw1
  clear hw1
  go_enter Tryz.func102, Tryz.ntmps102
  go_upto_region 1 with fail
  rw [show w.alloc (.cells #[.int .i64 2, .int .i64 1, .int .i64 1, .int .i64 101, .int .i64 5000, .int .i64 0, .int .i64 0, .int .i64 0, .int .i64 255] 97) = w1 from HW.out]
  obtain ⟨x0, x1, x2, x3, x4, x5, x6, x7, x8⟩ := tr_cells HB.out
  go_wp2_with fail
  refine (rightQ_any w1).mono ?_
  rintro e w2 ⟨rfl, h2⟩
  have H2 := hide (chain H1.out h2)
  clear h2 x0 x1 x2 x3 x4 x5 x6 x7 x8
  go_wp2_with fail
  go_ret
  exact ⟨rfl, H2.out⟩
set_option maxRecDepth 100000 in
set_option maxHeartbeats 2000000 in
theorem may2_any (w : World) : Calls Tryz.prog 104 #[.agg #[.int .i64 3, .int .i64 0, .int .i64 8, .int .i64 1, .int .i64 600]] w fun e w' => e = .returned (.bool false) ∧ Below w.heap.size w w' := by
  obtain ⟨w1, hw1⟩ : ∃ W, w.alloc (.cells loC 103) = W := ⟨_, rfl⟩
  have HB := hide (show Blk w1 w.heap.size 103 loC by rw [← hw1]; exact Blk.new _ _ _)
  have H1 := hide (show Below w.heap.size w w1 by rw [← hw1]; exact (Below.refl _ _).alloc (Nat.le_refl _) _)
  have HW := hide hw1
  clear hw1
  go_enter Tryz.func104, Tryz.ntmps104
  go_upto_region 1 with fail
  rw [show w.alloc (.cells #[.int .i64 3, .int .i64 0, .int .i64 8, .int .i64 1, .int .i64 600] 103) = w1 from HW.out]
  obtain ⟨x0, x1, x2, x3, x4⟩ := lo_cells HB.out
  go_wp2_with fail
  refine (lossQ_any w1).mono ?_
  rintro e w2 ⟨rfl, h2⟩
  have H2 := hide (chain H1.out h2)
  clear h2 x0 x1 x2 x3 x4
  go_wp2_with fail
  go_ret
  exact ⟨rfl, H2.out⟩
set_option maxRecDepth 100000 in
set_option maxHeartbeats 4000000 in
theorem over_any (g : Nat) (w : World) (hB : Blk w g 97 trC) : Calls Tryz.prog 110 #[.slice (some ⟨g, 0, none⟩) 1 1, .agg #[.int .i64 3, .int .i64 0, .int .i64 8, .int .i64 1, .int .i64 600]] w fun e w' => e = .returned (.bool false) ∧ Below w.heap.size w w' := by
  obtain ⟨w1, hw1⟩ : ∃ W, w.alloc (.cells loC 103) = W := ⟨_, rfl⟩
  have hbel : Below w.heap.size w w1 := by rw [← hw1]; exact (Below.refl _ _).alloc (Nat.le_refl _) _
  have HL := hide (show Blk w1 w.heap.size 103 loC by rw [← hw1]; exact Blk.new _ _ _)
  have HB := hide (hB.below hbel hB.lt)
  have H1 := hide hbel
  have HW := hide hw1
  clear hw1 hB hbel
  go_enter Tryz.func110, Tryz.ntmps110
  go_upto_region 1 with fail
  rw [show w.alloc (.cells #[.int .i64 3, .int .i64 0, .int .i64 8, .int .i64 1, .int .i64 600] 103) = w1 from HW.out]
  go_wp2_with fail
  go_loopw [5, 10] (fun q5 q10 wr => (q5 = .int .i64 0 ∧ q10 = .int .i64 0 ∧ wr = w1) ∨ (q5 = .int .i64 5000 ∧ q10 = .int .i64 1 ∧ Below w.heap.size w wr)) (fun _ q _ => 2 - (RowKit.intOf q).toNat)
  case atStart => exact .inl ⟨rfl, rfl, rfl⟩
  case round =>
    rcases hrel with ⟨rfl, rfl, rfl⟩ | ⟨rfl, rfl, hb⟩
    · obtain ⟨x0, x1, x2, x3, x4, x5, x6, x7, x8⟩ := tr_cells HB.out
      obtain ⟨y0, y1, y2, y3, y4⟩ := lo_cells HL.out
      obtain ⟨w2, hw2⟩ : ∃ W, wr.alloc (.cells trC 97) = W := ⟨_, rfl⟩
      have h12 : Below wr.heap.size wr w2 := by rw [← hw2]; exact (Below.refl _ _).alloc (Nat.le_refl _) _
      have HT2 := hide (show Blk w2 wr.heap.size 97 trC by rw [← hw2]; exact Blk.new _ _ _)
      have HL2 := hide (HL.out.below h12 HL.out.lt)
      have H2 := hide (chain H1.out h12)
      have HW2 := hide hw2
      clear hw2 h12
      go_upto_region 5 with fail
      rw [show wr.alloc (.cells #[.int .i64 2, .int .i64 1, .int .i64 1, .int .i64 101, .int .i64 5000, .int .i64 0, .int .i64 0, .int .i64 0, .int .i64 255] 97) = w2 from HW2.out]
      clear x0 x1 x2 x3 x4 x5 x6 x7 x8 y0 y1 y2 y3 y4
      obtain ⟨x0, x1, x2, x3, x4, x5, x6, x7, x8⟩ := tr_cells HT2.out
      obtain ⟨y0, y1, y2, y3, y4⟩ := lo_cells HL2.out
      go_wp2_with fail
      refine (takesQ_any w2).mono ?_
      rintro e w3 ⟨rfl, h3⟩
      have HT3 := hide (HT2.out.below h3 HT2.out.lt)
      have H3 := hide (chain H2.out h3)
      clear h3 x0 x1 x2 x3 x4 x5 x6 x7 x8 y0 y1 y2 y3 y4
      obtain ⟨x0, x1, x2, x3, x4, x5, x6, x7, x8⟩ := tr_cells HT3.out
      go_wp2_with fail
      go_roundw
      case rel => exact .inr ⟨rfl, rfl, H3.out⟩
      case measure => simp [RowKit.intOf]
    · have HX := hide hb
      clear hb
      go_wp2_with fail
      go_ret
      exact ⟨rfl, HX.out⟩
set_option maxRecDepth 100000 in
set_option maxHeartbeats 2000000 in
theorem may3_any (g H : Nat) (w : World) (hB : Blk w g 97 trC) (hH : Blk w H 101 #[.slice (some ⟨g, 0, none⟩) 1 1]) : Calls Tryz.prog 109 #[.agg #[.int .i64 3, .int .i64 0, .int .i64 8, .int .i64 1, .int .i64 600], .pointer (some ⟨H, 0, none⟩)] w fun e w' => e = .returned (.bool false) ∧ Below w.heap.size w w' := by
  obtain ⟨w1, hw1⟩ : ∃ W, w.alloc (.cells loC 103) = W := ⟨_, rfl⟩
  have hbel : Below w.heap.size w w1 := by rw [← hw1]; exact (Below.refl _ _).alloc (Nat.le_refl _) _
  have HL := hide (show Blk w1 w.heap.size 103 loC by rw [← hw1]; exact Blk.new _ _ _)
  have HB := hide (hB.below hbel hB.lt)
  have x0 : w1.cell? ⟨H, 0, none⟩ = some (.slice (some ⟨g, 0, none⟩) 1 1) := (hH.below hbel hH.lt).cell 0
  have H1 := hide hbel
  have HW := hide hw1
  clear hw1 hB hbel hH
  go_enter Tryz.func109, Tryz.ntmps109
  go_upto_region 1 with fail
  rw [show w.alloc (.cells #[.int .i64 3, .int .i64 0, .int .i64 8, .int .i64 1, .int .i64 600] 103) = w1 from HW.out]
  obtain ⟨y0, y1, y2, y3, y4⟩ := lo_cells HL.out
  go_wp2_with fail
  refine (over_any g w1 HB.out).mono ?_
  rintro e w2 ⟨rfl, h2⟩
  have H2 := hide (chain H1.out h2)
  clear h2 x0 y0 y1 y2 y3 y4
  go_wp2_with fail
  go_ret
  exact ⟨rfl, H2.out⟩
set_option maxRecDepth 100000 in
set_option maxHeartbeats 2000000 in
theorem idxT_any (g : Nat) (w : World) (hB : Blk w g 97 trC) : Calls Tryz.prog 160 #[.slice (some ⟨g, 0, none⟩) 1 1, .func (.func 102) #[] #[]] w fun e w' => e = .returned (.int .i64 (-1)) ∧ Below w.heap.size w w' := by
  have HB := hide hB
  clear hB
  go_enter Tryz.func160, Tryz.ntmps160
  go_wp2_with fail
  go_loopw [8] (fun q wr => (q = .int .i64 0 ∧ wr = w) ∨ (q = .int .i64 1 ∧ Below w.heap.size w wr)) (fun q _ => 2 - (RowKit.intOf q).toNat)
  case atStart => exact .inl ⟨rfl, rfl⟩
  case round =>
    rcases hrel with ⟨rfl, rfl⟩ | ⟨rfl, hb⟩
    · obtain ⟨x0, x1, x2, x3, x4, x5, x6, x7, x8⟩ := tr_cells HB.out
      go_wp2_with fail
      refine (may1_any wr).mono ?_
      rintro e w3 ⟨rfl, h3⟩
      have H3 := hide h3
      clear h3 x0 x1 x2 x3 x4 x5 x6 x7 x8
      go_wp2_with fail
      go_roundw
      case rel => exact .inr ⟨rfl, H3.out⟩
      case measure => simp [RowKit.intOf]
    · have HX := hide hb
      clear hb
      go_wp2_with fail
      go_ret
      exact ⟨rfl, HX.out⟩
set_option maxRecDepth 100000 in
set_option maxHeartbeats 2000000 in
theorem idxL2_any (g : Nat) (w : World) (hB : Blk w g 103 loC) : Calls Tryz.prog 161 #[.slice (some ⟨g, 0, none⟩) 1 1, .func (.func 104) #[] #[]] w fun e w' => e = .returned (.int .i64 (-1)) ∧ Below w.heap.size w w' := by
  have HB := hide hB
  clear hB
  go_enter Tryz.func161, Tryz.ntmps161
  go_wp2_with fail
  go_loopw [8] (fun q wr => (q = .int .i64 0 ∧ wr = w) ∨ (q = .int .i64 1 ∧ Below w.heap.size w wr)) (fun q _ => 2 - (RowKit.intOf q).toNat)
  case atStart => exact .inl ⟨rfl, rfl⟩
  case round =>
    rcases hrel with ⟨rfl, rfl⟩ | ⟨rfl, hb⟩
    · obtain ⟨x0, x1, x2, x3, x4⟩ := lo_cells HB.out
      go_wp2_with fail
      refine (may2_any wr).mono ?_
      rintro e w3 ⟨rfl, h3⟩
      have H3 := hide h3
      clear h3 x0 x1 x2 x3 x4
      go_wp2_with fail
      go_roundw
      case rel => exact .inr ⟨rfl, H3.out⟩
      case measure => simp [RowKit.intOf]
    · have HX := hide hb
      clear hb
      go_wp2_with fail
      go_ret
      exact ⟨rfl, HX.out⟩
set_option maxRecDepth 100000 in
set_option maxHeartbeats 2000000 in
theorem idxL3_any (g h H : Nat) (w : World) (hB : Blk w g 103 loC) (hT : Blk w h 97 trC) (hH : Blk w H 101 #[.slice (some ⟨h, 0, none⟩) 1 1]) : Calls Tryz.prog 161 #[.slice (some ⟨g, 0, none⟩) 1 1, .func (.func 109) #[] #[.pointer (some ⟨H, 0, none⟩)]] w fun e w' => e = .returned (.int .i64 (-1)) ∧ Below w.heap.size w w' := by
  have HB := hide hB
  have HT := hide hT
  have HH := hide hH
  clear hB hT hH
  go_enter Tryz.func161, Tryz.ntmps161
  go_wp2_with fail
  go_loopw [8] (fun q wr => (q = .int .i64 0 ∧ wr = w) ∨ (q = .int .i64 1 ∧ Below w.heap.size w wr)) (fun q _ => 2 - (RowKit.intOf q).toNat)
  case atStart => exact .inl ⟨rfl, rfl⟩
  case round =>
    rcases hrel with ⟨rfl, rfl⟩ | ⟨rfl, hb⟩
    · obtain ⟨x0, x1, x2, x3, x4⟩ := lo_cells HB.out
      go_wp2_with fail
      refine (may3_any h H wr HT.out HH.out).mono ?_
      rintro e w3 ⟨rfl, h3⟩
      have H3 := hide h3
      clear h3 x0 x1 x2 x3 x4
      go_wp2_with fail
      go_roundw
      case rel => exact .inr ⟨rfl, H3.out⟩
      case measure => simp [RowKit.intOf]
    · have HX := hide hb
      clear hb
      go_wp2_with fail
      go_ret
      exact ⟨rfl, HX.out⟩
theorem conT_any (g : Nat) (w : World) (hB : Blk w g 97 trC) : Calls Tryz.prog 106 #[.slice (some ⟨g, 0, none⟩) 1 1, .func (.func 102) #[] #[]] w fun e w' => e = .returned (.bool false) ∧ Below w.heap.size w w' := by
  go_enter Tryz.func106, Tryz.ntmps106
  go_wp2_with fail
  refine (idxT_any g w hB).mono ?_
  rintro e w2 ⟨rfl, h2⟩
  have H2 := hide h2
  clear h2 hB
  go_wp2_with fail
  go_ret
  exact ⟨rfl, H2.out⟩
theorem conL2_any (g : Nat) (w : World) (hB : Blk w g 103 loC) : Calls Tryz.prog 107 #[.slice (some ⟨g, 0, none⟩) 1 1, .func (.func 104) #[] #[]] w fun e w' => e = .returned (.bool false) ∧ Below w.heap.size w w' := by
  go_enter Tryz.func107, Tryz.ntmps107
  go_wp2_with fail
  refine (idxL2_any g w hB).mono ?_
  rintro e w2 ⟨rfl, h2⟩
  have H2 := hide h2
  clear h2 hB
  go_wp2_with fail
  go_ret
  exact ⟨rfl, H2.out⟩
theorem conL3_any (g h H : Nat) (w : World) (hB : Blk w g 103 loC) (hT : Blk w h 97 trC) (hH : Blk w H 101 #[.slice (some ⟨h, 0, none⟩) 1 1]) : Calls Tryz.prog 107 #[.slice (some ⟨g, 0, none⟩) 1 1, .func (.func 109) #[] #[.pointer (some ⟨H, 0, none⟩)]] w fun e w' => e = .returned (.bool false) ∧ Below w.heap.size w w' := by
  have HI := hide (idxL3_any g h H w hB hT hH)
  clear hB hT hH
  go_enter Tryz.func107, Tryz.ntmps107
  go_wp2_with fail
  refine HI.out.mono ?_
  rintro e w2 ⟨rfl, h2⟩
  have H2 := hide h2
  clear h2
  go_wp2_with fail
  go_ret
  exact ⟨rfl, H2.out⟩

/-! ### The map of the treaties' numbers -/
def elemY : Value → Option (DataW Unit × List MemPlace)
  | .bool b => some (.lit (.bool b), [])
  | _ => none
theorem elemY_inv {v : Value} {b : Bool} {ps : List MemPlace} (h : elemY v = some (.lit (.bool b), ps)) : v = .bool b := by
  unfold elemY at h
  split at h
  · simp at h
    rw [h.1]
  · cases h
theorem lawY : Keyed Tryz.prog 3 := int_keyed Tryz.underlying3
theorem zeroY (w : World) : (zeroValue 4).run Tryz.prog w = .ok (.bool false) w := by kernel_rfl
theorem keyY : keyOf Tryz.prog 3 (.int .i64 2) = some (.int .i64 2) := keyOf_int_mk Tryz.underlying3 (WalkArith.wf_i64 (by omega))
set_option maxRecDepth 100000 in
set_option maxHeartbeats 2000000 in
theorem twice_any (g : Nat) (w : World) (hB : Blk w g 97 trC) : Calls Tryz.prog 108 #[.slice (some ⟨g, 0, none⟩) 1 1] w fun e w' => e = .returned (.bool false) ∧ Below w.heap.size w w' := by
  have hmm := @run_makeMap Tryz.prog
  obtain ⟨w1, hw1⟩ : ∃ W, w.alloc (.map #[] 0) = W := ⟨_, rfl⟩
  have o1 : w1.ownsMap Tryz.prog 3 elemY w.heap.size 0 (.map []) := by rw [← hw1]; exact World.ownsMap_made w Tryz.prog 3 elemY
  have h1 : Below w.heap.size w w1 := by rw [← hw1]; exact (Below.refl _ _).alloc (Nat.le_refl _) _
  have HB := hide (hB.below h1 hB.lt)
  obtain ⟨w2, hw2⟩ : ∃ W, w1.alloc (.cells trC 97) = W := ⟨_, rfl⟩
  have o2 : w2.ownsMap Tryz.prog 3 elemY w.heap.size 0 (.map []) := by rw [← hw2]; exact o1.alloc _
  have HT := hide (show Blk w2 w1.heap.size 97 trC by rw [← hw2]; exact Blk.new _ _ _)
  have h2 : Below w.heap.size w w2 := by rw [← hw2]; exact h1.alloc h1.size _
  obtain ⟨v, ps, hrun, hv⟩ := World.ownsMap.lookup o2 lawY Tryz.underlying268 (zeroY w2) (zd := .lit (.bool false)) (zp := []) rfl keyY
  have hv2 : v = .bool false := elemY_inv (b := false) (ps := ps) (by rw [hv]; rfl)
  subst hv2
  obtain ⟨w3, e3, o3, g3⟩ := o2.update lawY Tryz.underlying268 (by unfold maxLen; omega) keyY (show elemY (.bool true) = some (.lit (.bool true), []) from rfl)
  have H3 := hide (h2.grown g3 h2.size (fun k h => by cases h; exact Nat.le_refl _))
  have HW1 := hide hw1
  have HW2 := hide hw2
  clear hw1 hw2 o1 h1 o2 h2 hv o3 g3 hB
  go_enter Tryz.func108, Tryz.ntmps108
  go_upto_region 2 with fail
  rw [show w.alloc (.map #[] 0) = w1 from HW1.out]
  go_wp2_with fail
  go_loopw [9] (fun q wr => (q = .int .i64 0 ∧ wr = w1) ∨ (q = .int .i64 1 ∧ Below w.heap.size w wr)) (fun q _ => 2 - (RowKit.intOf q).toNat)
  case atStart => exact .inl ⟨rfl, rfl⟩
  case round =>
    rcases hrel with ⟨rfl, rfl⟩ | ⟨rfl, hb⟩
    · obtain ⟨x0, x1, x2, x3, x4, x5, x6, x7, x8⟩ := tr_cells HB.out
      go_upto_region 5 with fail
      rw [show World.alloc _ (.cells #[.int .i64 2, .int .i64 1, .int .i64 1, .int .i64 101, .int .i64 5000, .int .i64 0, .int .i64 0, .int .i64 0, .int .i64 255] 97) = w2 from HW2.out]
      clear x0 x1 x2 x3 x4 x5 x6 x7 x8
      obtain ⟨x0, x1, x2, x3, x4, x5, x6, x7, x8⟩ := tr_cells HT.out
      go_wp2_with fail
      go_roundw
      case rel => exact .inr ⟨rfl, H3.out⟩
      case measure => simp [RowKit.intOf]
    · have HX := hide hb
      clear hb
      go_wp2_with fail
      go_ret
      exact ⟨rfl, HX.out⟩
set_option maxRecDepth 100000 in
set_option maxHeartbeats 4000000 in
theorem may_any (g h : Nat) (w : World) (hT : Blk w g 97 trC) (hL : Blk w h 103 loC) : Calls Tryz.prog 57 #[.slice (some ⟨g, 0, none⟩) 1 1, .slice (some ⟨h, 0, none⟩) 1 1] w fun e w' => e = .returned (.int .i64 0) ∧ Below w.heap.size w w' := by
  have hmf : ∀ (fn : Fn) (first cap : Array Value) (w : World), (Instr.makeFunc fn first cap).run Tryz.prog w = .ok (.func fn first cap) w := fun _ _ _ _ => rfl
  obtain ⟨w1, hw1⟩ : ∃ W, w.alloc (.cells #[.slice (some ⟨g, 0, none⟩) 1 1] 101) = W := ⟨_, rfl⟩
  have h1 : Below w.heap.size w w1 := by rw [← hw1]; exact (Below.refl _ _).alloc (Nat.le_refl _) _
  have HH := hide (show Blk w1 w.heap.size 101 #[.slice (some ⟨g, 0, none⟩) 1 1] by rw [← hw1]; exact Blk.new _ _ _)
  have HT := hide (hT.below h1 hT.lt)
  have HL := hide (hL.below h1 hL.lt)
  have H1 := hide h1
  have HW := hide hw1
  clear hw1 h1 hT hL
  go_enter Tryz.func57, Tryz.ntmps57
  go_upto_region 1 with fail
  rw [show w.alloc (.cells #[.slice (some ⟨g, 0, none⟩) 1 1] 101) = w1 from HW.out]
  have x0 : w1.cell? ⟨w.heap.size, 0, none⟩ = some (.slice (some ⟨g, 0, none⟩) 1 1) := HH.out.cell 0
  go_wp2_with fail
  refine (conT_any g w1 HT.out).mono ?_
  rintro e w2 ⟨rfl, h2⟩
  have HH2 := hide (HH.out.below h2 HH.out.lt)
  have HT2 := hide (HT.out.below h2 HT.out.lt)
  have HL2 := hide (HL.out.below h2 HL.out.lt)
  have H2 := hide (chain H1.out h2)
  clear h2 x0
  go_wp2_with fail
  refine (conL2_any h w2 HL2.out).mono ?_
  rintro e w3 ⟨rfl, h3⟩
  have HH3 := hide (HH2.out.below h3 HH2.out.lt)
  have HT3 := hide (HT2.out.below h3 HT2.out.lt)
  have HL3 := hide (HL2.out.below h3 HL2.out.lt)
  have H3 := hide (chain H2.out h3)
  clear h3
  have x0 : w3.cell? ⟨w.heap.size, 0, none⟩ = some (.slice (some ⟨g, 0, none⟩) 1 1) := HH3.out.cell 0
  go_wp2_with fail
  refine (twice_any g w3 HT3.out).mono ?_
  rintro e w4 ⟨rfl, h4⟩
  have HH4 := hide (HH3.out.below h4 HH3.out.lt)
  have HT4 := hide (HT3.out.below h4 HT3.out.lt)
  have HL4 := hide (HL3.out.below h4 HL3.out.lt)
  have H4 := hide (chain H3.out h4)
  clear h4 x0
  go_wp2_with fail
  refine (conL3_any h g w.heap.size w4 HL4.out HT4.out HH4.out).mono ?_
  rintro e w5 ⟨rfl, h5⟩
  have H5 := hide (chain H4.out h5)
  clear h5
  go_wp2_with fail
  go_ret
  exact ⟨rfl, H5.out⟩
end Go.Proofs.YtmfohnchnbgbaaaGreat

/- One quota, one loss: tower.bears, slices.Clone, tower.Of. -/
namespace Go.Proofs.YtmfohnchnbgbaaaGreat
open Go.RowKit Go.Lib
set_option linter.unusedSimpArgs false

theorem make1 (W : World) : (Instr.makeSlice 39 (.int .i64 1) (.int .i64 1)).run Tryz.prog W = .ok (.slice (some ⟨W.heap.size, 0, none⟩) 1 1) (W.alloc (.cells #[.int .i64 0] 3)) := make_ints 1 [0] rfl (by decide) rfl W
/-- The loss in a block's first cells. -/
def LoI (w : World) (g : Nat) : Prop := w.cell? ⟨g, 0, none⟩ = some (.int .i64 3) ∧ w.cell? ⟨g, 1, none⟩ = some (.int .i64 0) ∧ w.cell? ⟨g, 2, none⟩ = some (.int .i64 8) ∧ w.cell? ⟨g, 3, none⟩ = some (.int .i64 1) ∧ w.cell? ⟨g, 4, none⟩ = some (.int .i64 600)
theorem LoI.below {w w' : World} {g : Nat} (h : LoI w g) (hb : Below w.heap.size w w') : LoI w' g := ⟨kept hb h.1, kept hb h.2.1, kept hb h.2.2.1, kept hb h.2.2.2.1, kept hb h.2.2.2.2⟩
set_option maxRecDepth 100000 in
set_option maxHeartbeats 4000000 in
theorem bearsT_any (g cp : Nat) (w : World) (hL : LoI w g) :
    Calls Tryz.prog 60 #[.agg #[.int .i64 2, .int .i64 1, .int .i64 1, .int .i64 101, .int .i64 5000, .int .i64 0, .int .i64 0, .int .i64 0, .int .i64 255], .slice (some ⟨g, 0, none⟩) 1 cp] w fun e w' => (∃ X : Nat, e = .returned (.slice (some ⟨X, 0, none⟩) 1 1) ∧ Blk w' X 3 #[.int .i64 300]) ∧ Below w.heap.size w w' := by
  have hmk := make1
  obtain ⟨w1, hw1⟩ : ∃ W, w.alloc (.cells trC 97) = W := ⟨_, rfl⟩
  have h1 : Below w.heap.size w w1 := by rw [← hw1]; exact (Below.refl _ _).alloc (Nat.le_refl _) _
  have HT := hide (show Blk w1 w.heap.size 97 trC by rw [← hw1]; exact Blk.new _ _ _)
  have HL := hide (hL.below h1)
  have HW1 := hide hw1
  obtain ⟨w2, hw2⟩ : ∃ W, w1.alloc (.cells #[.int .i64 0] 3) = W := ⟨_, rfl⟩
  have h2 : Below w1.heap.size w1 w2 := by rw [← hw2]; exact (Below.refl _ _).alloc (Nat.le_refl _) _
  obtain ⟨X, hX⟩ : ∃ X, w1.heap.size = X := ⟨_, rfl⟩
  have HX := hide (show Blk w2 X 3 #[.int .i64 0] by rw [← hw2, ← hX]; exact Blk.new _ _ _)
  have HT2 := hide (HT.out.below h2 HT.out.lt)
  have HL2 := hide (HL.out.below h2)
  have hXl : w.heap.size < X := by rw [← hX]; exact HT.out.lt
  have H2 := hide (chain h1 h2)
  have HW2 := hide hw2
  have HXX := hide hX
  clear hw1 h1 hL hw2 h2 hX
  go_enter Tryz.func60, Tryz.ntmps60
  go_upto_region 1 with fail
  rw [show w.alloc (.cells #[.int .i64 2, .int .i64 1, .int .i64 1, .int .i64 101, .int .i64 5000, .int .i64 0, .int .i64 0, .int .i64 0, .int .i64 255] 97) = w1 from HW1.out]
  go_upto_region 2 with fail
  rw [show w1.alloc (.cells #[.int .i64 0] 3) = w2 from HW2.out, HXX.out]
  clear hmk
  obtain ⟨x0, x1, x2, x3, x4, x5, x6, x7, x8⟩ := tr_cells HT2.out
  go_wp2_with fail
  go_loopw [15] (fun q wr => (q = .int .i64 0 ∧ wr = w2) ∨ (q = .int .i64 1 ∧ Below w.heap.size w wr ∧ Blk wr X 3 #[.int .i64 300])) (fun q _ => 2 - (RowKit.intOf q).toNat)
  case atStart => exact .inl ⟨rfl, rfl⟩
  case round =>
    rename World => wo
    clear x0 x1 x2 x3 x4 x5 x6 x7 x8
    rcases hrel with ⟨rfl, rfl⟩ | ⟨rfl, hb, hB⟩
    · obtain ⟨y0, y1, y2, y3, y4⟩ := HL2.out
      obtain ⟨w3, hw3⟩ : ∃ W, wo.alloc (.cells loC 103) = W := ⟨_, rfl⟩
      have h3 : Below wo.heap.size wo w3 := by rw [← hw3]; exact (Below.refl _ _).alloc (Nat.le_refl _) _
      have HL3 := hide (show Blk w3 wo.heap.size 103 loC by rw [← hw3]; exact Blk.new _ _ _)
      have HT3 := hide (HT2.out.below h3 HT2.out.lt)
      have HX3 := hide (HX.out.below h3 HX.out.lt)
      have H3 := hide (chain H2.out h3)
      have HW3 := hide hw3
      clear hw3 h3
      go_upto_region 6 with fail
      rw [show wo.alloc (.cells #[.int .i64 3, .int .i64 0, .int .i64 8, .int .i64 1, .int .i64 600] 103) = w3 from HW3.out]
      clear y0 y1 y2 y3 y4
      obtain ⟨x0, x1, x2, x3, x4, x5, x6, x7, x8⟩ := tr_cells HT3.out
      obtain ⟨y0, y1, y2, y3, y4⟩ := lo_cells HL3.out
      go_wp2_with fail
      refine (bearsQ_any w3).mono ?_
      rintro e w4 ⟨rfl, h4⟩
      have HX4 := hide (HX3.out.below h4 HX3.out.lt)
      have H4 := hide (chain H3.out h4)
      have z0 : w4.cell? ⟨X, 0, none⟩ = some (.int .i64 0) := HX4.out.cell 0
      have f0 := HX4.out.frozen 0
      clear h4 x0 x1 x2 x3 x4 x5 x6 x7 x8 y0 y1 y2 y3 y4
      go_wp2_with fail
      go_roundw
      case rel => exact .inr ⟨rfl, H4.out.setCell (p := ⟨X, 0, none⟩) (by simp; omega) _, HX4.out.set_ 0 _⟩
      case measure => simp [RowKit.intOf]
    · have HBB := hide hB
      have HBE := hide hb
      clear hb hB
      go_wp2_with fail
      go_ret
      exact ⟨⟨X, rfl, HBB.out⟩, HBE.out⟩

/-! ### Losses copied -/
def lRow : List Value := [.int .i64 3, .int .i64 0, .int .i64 8, .int .i64 1, .int .i64 600]
def lRow2 : List Value := [.int .i64 3, .int .i64 0, .int .i64 8, .int .i64 1, .int .i64 300]
theorem elLos : ElT Tryz.prog 104 103 5 40 := ElT.mk' (z := .agg #[.int .i64 0, .int .i64 0, .int .i64 0, .int .i64 0, .int .i64 0]) Tryz.underlying104 (by kernel_rfl) rfl (by omega)
theorem okLos : RowsOk 5 [lRow] := by
  intro r hr
  obtain rfl := List.mem_singleton.1 hr
  exact ⟨rfl, fun u hu => by simp [lRow] at hu; rcases hu with rfl | rfl | rfl | rfl | rfl <;> rfl⟩
set_option maxHeartbeats 1000000 in
theorem cloneL_any (g : Nat) (w : World) (hB : Blk w g 103 loC) :
    Calls Tryz.prog 58 #[.slice (some ⟨g, 0, none⟩) 1 1] w fun e w' => (∃ g' c', e = .returned (.slice (some ⟨g', 0, none⟩) 1 c') ∧ OwnS w' w.heap.size 103 5 (some ⟨g', 0, none⟩) 1 c' [lRow]) ∧ Below w.heap.size w w' := by
  have hq := fun (W : World) => Lib.run_eql_slice_nil (P := Tryz.prog) W 104 103 (some ⟨g, 0, none⟩) 1 1 0 0 Tryz.underlying104
  have HB := hide hB
  clear hB
  go_enter Tryz.func58, Tryz.ntmps58
  go_wp2_with (at_builtin
               refine wpList_app rfl (.tmp 5) (.tmp 6) 104 rfl elLos (B := w.heap.size) rfl (OwnS.lit w (Nat.le_refl _) 103 [] RowsOk.nil_ (by simp [maxLen]) #[] rfl) rfl rfl ?_ okLos ?_ ?_ ?_ ?_
               · exact sl_of_blk (cs := loC) (HB.out.alloc _)
               · simp [maxLen]
               · omega
               · simp
               intro A1 c1 wa ho1 hg1 ha1
               have hba : Below w.heap.size w wa := ((Below.refl _ _).alloc (Nat.le_refl _) _).grown hg1 (by simp) (fun k hk => by simp [blk] at hk; omega)
               simp only [Nat.zero_add, List.nil_append] at ho1
               obtain ⟨g2, rfl, hgB, hgl⟩ : ∃ g2, A1 = some ⟨g2, 0, none⟩ ∧ w.heap.size ≤ g2 ∧ g2 < wa.heap.size := by
                 rcases ho1.addr with ⟨-, h0, -⟩ | h
                 · omega
                 · exact h
               clear hg1 ha1)
  go_ret
  exact ⟨⟨g2, c1, rfl, ho1⟩, hba⟩
end Go.Proofs.YtmfohnchnbgbaaaGreat
