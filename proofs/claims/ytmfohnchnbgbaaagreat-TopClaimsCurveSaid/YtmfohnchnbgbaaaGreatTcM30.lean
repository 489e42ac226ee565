/- Part 30 of the proof. -/
import Derived.Maps.OwnSet
import Derived.Test.YtmfohnchnbgbaaaGreatTcM07
import Derived.Test.YtmfohnchnbgbaaaGreatTcM10
import Derived.Test.YtmfohnchnbgbaaaGreatTcM29
/- One treaty's place in a heap: what comes back; tower.Order. -/
namespace Go.Proofs.YtmfohnchnbgbaaaGreat
open Go.RowKit Go.Lib
set_option linter.unusedSimpArgs false

theorem PlI.far {B G g n c : Nat} {rows : List (List Value)} {w : World} (h : PlI B G g n c rows w) {p : Addr} (h1 : p.block ≠ G) (h2 : p.block ≠ g) (u : Value) : PlI B G g n c rows (w.setCell p u) :=
  ⟨h.bx.far (Ne.symm h1) _, h.ow.far (fun kk hk => by simp [blk] at hk; subst hk; exact Ne.symm h2) _, h.ne, h.ge⟩
set_option maxRecDepth 100000 in
set_option maxHeartbeats 2000000 in
theorem popP_any (B G g c : Nat) (w : World) (h : PlI B G g 1 c [pRow] w) :
    Calls Tryz.prog 232 #[.pointer (some ⟨G, 0, none⟩)] w fun e w' => e = .returned (.iface 213 (.agg #[.int .i64 1, .int .i64 0, .int .i64 0])) ∧ Below B w w' ∧ PlI B G g 0 c [] w' := by
  have x0 : w.cell? ⟨G, 0, none⟩ = some (.slice (some ⟨g, 0, none⟩) 1 c) := h.bx.cell 0
  obtain ⟨d0, d1, d2⟩ := h.row
  obtain ⟨hl1, hl2, hl3⟩ := h.lt
  have hc := h.ow.cap_le
  have hB : B ≤ w.heap.size := by omega
  obtain ⟨w1, hw1⟩ : ∃ W, w.alloc (.cells #[.int .i64 1, .int .i64 0, .int .i64 0] 213) = W := ⟨_, rfl⟩
  have h1 : Below w.heap.size w w1 := by rw [← hw1]; exact (Below.refl _ _).alloc (Nat.le_refl _) _
  have HX := hide (show Blk w1 w.heap.size 213 #[.int .i64 1, .int .i64 0, .int .i64 0] by rw [← hw1]; exact Blk.new _ _ _)
  have HI := hide (h.below h1)
  have HB := hide (show Below B w w1 by rw [← hw1]; exact (Below.refl _ _).alloc hB _)
  have HW := hide hw1
  clear h h1 hw1
  go_enter Tryz.func232, Tryz.ntmps232
  go_upto_region 3 with fail
  rw [show w.alloc (.cells #[.int .i64 1, .int .i64 0, .int .i64 0] 213) = w1 from HW.out]
  clear x0 d0 d1 d2
  have x0 : w1.cell? ⟨G, 0, none⟩ = some (.slice (some ⟨g, 0, none⟩) 1 c) := HI.out.bx.cell 0
  have f0 := HI.out.bx.frozen 0
  have y0 : w1.cell? ⟨w.heap.size, 0, none⟩ = some (.int .i64 1) := HX.out.cell 0
  have y1 : w1.cell? ⟨w.heap.size, 1, none⟩ = some (.int .i64 0) := HX.out.cell 1
  have y2 : w1.cell? ⟨w.heap.size, 2, none⟩ = some (.int .i64 0) := HX.out.cell 2
  have hne : ¬ G = w.heap.size := by omega
  go_wp2_with fail
  go_ret
  exact ⟨rfl, HB.out.setCell (p := ⟨G, 0, none⟩) HI.out.ge _, ⟨HI.out.bx.set_ 0 _, (HI.out.ow.firsts (k := 0) (by omega)).far (p := ⟨G, 0, none⟩) (fun kk hk => by simp [blk] at hk; subst hk; exact Ne.symm HI.out.ne) _, HI.out.ne, HI.out.ge⟩⟩
set_option maxRecDepth 100000 in
set_option maxHeartbeats 2000000 in
theorem hpop_any (B G g c : Nat) (w : World) (h : PlI B G g 1 c [pRow] w) :
    Calls Tryz.prog 113 #[.iface 209 (.pointer (some ⟨G, 0, none⟩))] w fun e w' => e = .returned (.iface 213 (.agg #[.int .i64 1, .int .i64 0, .int .i64 0])) ∧ Below B w w' ∧ PlI B G g 0 c [] w' := by
  have hm1 := m_len (G := G) (h.bx.cell 0)
  have hm2 := m_swap (G := G) (h.bx.cell 0)
  have HI := hide h
  clear h
  go_enter Tryz.func113, Tryz.ntmps113
  go_wp2_with fail
  refine (len_any 1 c _ w).mono ?_
  rintro e w1 ⟨rfl, rfl⟩
  go_wp2_with fail
  refine (swapP_any B G g c _ HI.out).mono ?_
  rintro e w2 ⟨rfl, h2, hI2⟩
  have HI2 := hide hI2
  have H2 := hide h2
  clear h2 hI2 hm1 hm2
  go_wp2_with fail
  refine (down_any _ _).mono ?_
  rintro e w3 ⟨rfl, rfl⟩
  have hm3 := m_pop (.pointer (some ⟨G, 0, none⟩)) w3
  go_wp2_with fail
  refine (popP_any B G g c _ HI2.out).mono ?_
  rintro e w4 ⟨rfl, h4, hI4⟩
  have HI4 := hide hI4
  have H4 := hide (H2.out.trans h4)
  clear h4 hI4 hm3
  go_wp2_with fail
  go_ret
  exact ⟨rfl, H4.out, HI4.out⟩
set_option maxRecDepth 100000 in
set_option maxHeartbeats 4000000 in
theorem orderT_any (g : Nat) (w : World) (hB : Blk w g 97 trC) :
    Calls Tryz.prog 59 #[.slice (some ⟨g, 0, none⟩) 1 1] w fun e w' => (∃ (A : Option Addr) (c : Nat), e = .returned (.slice A 1 c) ∧ SV w' 1 A 1 c [[.int .i64 0]]) ∧ Below w.heap.size w w' := by
  have hta : ∀ W : World, (Instr.typeAssert (.iface 213 (.agg #[.int .i64 1, .int .i64 0, .int .i64 0])) 20 213 true).run Tryz.prog W = .ok (.tuple #[.agg #[.int .i64 1, .int .i64 0, .int .i64 0], .bool true]) W := fun W => by kernel_rfl
  obtain ⟨B, hBq⟩ : ∃ B, w.heap.size = B := ⟨_, rfl⟩
  obtain ⟨w1, hw1⟩ : ∃ W, (w.alloc (.cells #[] 213)).alloc (.cells #[.slice (some ⟨w.heap.size, 0, none⟩) 0 0] 211) = W := ⟨_, rfl⟩
  have h1 : Below w.heap.size w w1 := by rw [← hw1]; exact ((Below.refl _ _).alloc (Nat.le_refl _) _).alloc (by simp) _
  have HB := hide (hB.below h1 hB.lt)
  have hI : PlI B (B + 1) B 0 0 [] w1 := by
    rw [← hBq, ← hw1]
    exact ⟨Blk.new' (by simp), (OwnS.lit w (Nat.le_refl _) 213 [] RowsOk.nil_ (by simp [maxLen]) #[] rfl).alloc _, by omega, by omega⟩
  have HI := hide hI
  have H1 := hide (show Below B w w1 by rw [← hBq]; exact h1)
  have HW := hide hw1
  have HBq := hide hBq
  clear hB h1 hI hw1
  go_enter Tryz.func59, Tryz.ntmps59
  go_upto_region 2 with fail
  rw [show (w.alloc (.cells #[] 213)).alloc (.cells #[.slice (some ⟨B, 0, none⟩) 0 0] 211) = w1 from by rw [← HBq.out]; exact HW.out]
  clear hBq
  go_wp2_with fail
  go_loopw [14] (fun q wr => (q = .int .i64 0 ∧ wr = w1) ∨ (q = .int .i64 1 ∧ Below B w wr ∧ ∃ g' c', PlI B (B + 1) g' 1 c' [pRow] wr)) (fun q _ => 2 - (RowKit.intOf q).toNat)
  case atStart => exact .inl ⟨rfl, rfl⟩
  case round =>
    rename World => wo
    rcases hrel with ⟨rfl, rfl⟩ | ⟨rfl, hb, g1, c1, hI⟩
    · obtain ⟨x0, x1, x2, x3, x4, x5, x6, x7, x8⟩ := tr_cells HB.out
      obtain ⟨w2, hw2⟩ : ∃ W, wo.alloc (.cells trC 97) = W := ⟨_, rfl⟩
      have h12 : Below wo.heap.size wo w2 := by rw [← hw2]; exact (Below.refl _ _).alloc (Nat.le_refl _) _
      have HT2 := hide (show Blk w2 wo.heap.size 97 trC by rw [← hw2]; exact Blk.new _ _ _)
      obtain ⟨hl1, hl2, hl3⟩ := HI.out.lt
      have hsz : wo.heap.size < w2.heap.size := HT2.out.lt
      have H2 := hide (show Below B w w2 by rw [← hw2]; exact H1.out.alloc (by omega) _)
      have HI2 := hide (HI.out.below h12)
      have HW2 := hide hw2
      clear hw2 h12
      go_upto_region 5 with fail
      rw [show wo.alloc (.cells #[.int .i64 2, .int .i64 1, .int .i64 1, .int .i64 101, .int .i64 5000, .int .i64 0, .int .i64 0, .int .i64 0, .int .i64 255] 97) = w2 from HW2.out]
      clear x0 x1 x2 x3 x4 x5 x6 x7 x8
      obtain ⟨x0, x1, x2, x3, x4, x5, x6, x7, x8⟩ := tr_cells HT2.out
      obtain ⟨w3, hw3⟩ : ∃ W, w2.alloc (.cells #[.int .i64 1, .int .i64 0, .int .i64 0] 213) = W := ⟨_, rfl⟩
      have h23 : Below w2.heap.size w2 w3 := by rw [← hw3]; exact (Below.refl _ _).alloc (Nat.le_refl _) _
      have HP3 := hide (show Blk w3 w2.heap.size 213 #[.int .i64 1, .int .i64 0, .int .i64 0] by rw [← hw3]; exact Blk.new _ _ _)
      have HT3 := hide (HT2.out.below h23 HT2.out.lt)
      have H3 := hide (show Below B w w3 by rw [← hw3]; exact H2.out.alloc (by omega) _)
      have HI3 := hide (HI2.out.below h23)
      have HW3 := hide hw3
      clear hw3 h23
      go_upto_region 6 with fail
      rw [show w2.alloc (.cells #[.int .i64 1, .int .i64 0, .int .i64 0] 213) = w3 from HW3.out]
      clear x0 x1 x2 x3 x4 x5 x6 x7 x8
      obtain ⟨x0, x1, x2, x3, x4, x5, x6, x7, x8⟩ := tr_cells HT3.out
      have y1 : w3.cell? ⟨w2.heap.size, 1, none⟩ = some (.int .i64 0) := HP3.out.cell 1
      have f1 := HP3.out.frozen 1
      obtain ⟨w4, hw4⟩ : ∃ W, w3.setCell ⟨w2.heap.size, 1, none⟩ (.int .i64 0) = W := ⟨_, rfl⟩
      have HP4 := hide (show Blk w4 w2.heap.size 213 #[.int .i64 1, .int .i64 0, .int .i64 0] by rw [← hw4]; exact HP3.out.set_ 1 _)
      have HI4 := hide (show PlI B (B + 1) B 0 0 [] w4 by rw [← hw4]; exact HI3.out.far (p := ⟨w2.heap.size, 1, none⟩) (by simp; omega) (by simp; omega) _)
      have H4 := hide (show Below B w w4 by rw [← hw4]; exact H3.out.setCell (p := ⟨w2.heap.size, 1, none⟩) (by simp; omega) _)
      have HW4 := hide hw4
      clear hw4
      go_upto_region 11 with fail
      rw [show w3.setCell ⟨w2.heap.size, 1, none⟩ (.int .i64 0) = w4 from HW4.out]
      clear x0 x1 x2 x3 x4 x5 x6 x7 x8 y1 f1
      have y0 : w4.cell? ⟨w2.heap.size, 0, none⟩ = some (.int .i64 1) := HP4.out.cell 0
      have y1 : w4.cell? ⟨w2.heap.size, 1, none⟩ = some (.int .i64 0) := HP4.out.cell 1
      have y2 : w4.cell? ⟨w2.heap.size, 2, none⟩ = some (.int .i64 0) := HP4.out.cell 2
      go_wp2_with fail
      refine (hpush_any B (B + 1) B 0 w4 HI4.out).mono ?_
      rintro e w5 ⟨rfl, h5, g5, c5, hI5⟩
      have HI5 := hide hI5
      have H5 := hide (H4.out.trans h5)
      clear h5 hI5 y0 y1 y2
      go_wp2_with fail
      go_roundw
      case rel => exact .inr ⟨rfl, H5.out, g5, c5, HI5.out⟩
      case measure => simp [RowKit.intOf]
    · have HIa := hide hI
      have HBa := hide hb
      clear hI hb
      go_wp2_with fail
      go_loopw [7] (fun q wr => (q = .slice none 0 0 ∧ Below B w wr ∧ ∃ g' c', PlI B (B + 1) g' 1 c' [pRow] wr) ∨ (∃ (A : Option Addr) (cA g' c' : Nat), q = .slice A 1 cA ∧ Below B w wr ∧ SV wr 1 A 1 cA [[.int .i64 0]] ∧ PlI B (B + 1) g' 0 c' [] wr)) (fun q _ => 1 - sliceLen q)
      case atStart => exact .inl ⟨rfl, HBa.out, g1, c1, HIa.out⟩
      case round =>
        rename World => wp
        rcases hrel with ⟨rfl, hb, g2, c2, hI⟩ | ⟨A, cA, g2, c2, rfl, hb, hs, hI⟩
        · have x0 : wp.cell? ⟨B + 1, 0, none⟩ = some (.slice (some ⟨g2, 0, none⟩) 1 c2) := hI.bx.cell 0
          have HI2 := hide hI
          have HB2 := hide hb
          clear hI hb
          go_wp2_with fail
          refine (len_any 1 c2 _ wp).mono ?_
          rintro e w6 ⟨rfl, rfl⟩
          go_wp2_with fail
          refine (hpop_any B (B + 1) g2 c2 _ HI2.out).mono ?_
          rintro e w7 ⟨rfl, h7, hI7⟩
          have HI7 := hide hI7
          have H7 := hide (HB2.out.trans h7)
          have hsz : B ≤ w7.heap.size := by have := hI7.lt; omega
          clear h7 hI7 x0
          go_wp2_with (at_builtin
                       refine wpList_app rfl (.tmp 52) (.tmp 55) 39 rfl elInt (B := B) (A2 := some ⟨_, 0, none⟩) (news := [(0 : Int)].map encI) rfl (OwnS.nil_ _ _ _ _) rfl rfl ?_ (okI [(0 : Int)]) ?_ ?_ ?_ ?_
                       · exact sl_of_blk (cs := #[.int .i64 0]) (Blk.new' (by simp))
                       · simp [maxLen]
                       · omega
                       · simp; omega
                       intro A8 c8 w8 ho8 hg8 ha8
                       have H8 := hide (((H7.out.alloc hsz _).alloc (by simp; omega) _).grown hg8 (by simp; omega) (fun kk hk => by simp [blk] at hk))
                       have HI8 := hide (show PlI B (B + 1) g2 0 c2 [] w8 from ⟨((HI7.out.bx.alloc _).alloc _).grown hg8 (by simp [blk]), ((HI7.out.ow.alloc _).alloc _).kept hg8 (.inr (by simp [blk])), HI7.out.ne, HI7.out.ge⟩)
                       have HO8 := hide ho8
                       clear hg8 ha8 ho8)
          go_roundw
          case rel => exact .inr ⟨A8, c8, g2, c2, rfl, H8.out, HO8.out.sv, HI8.out⟩
          case measure => simp [sliceLen]
        · have x0 : wp.cell? ⟨B + 1, 0, none⟩ = some (.slice (some ⟨g2, 0, none⟩) 0 c2) := hI.bx.cell 0
          have HS := hide hs
          have HB2 := hide hb
          clear hI hb hs
          go_wp2_with fail
          refine (len_any 0 c2 _ wp).mono ?_
          rintro e w6 ⟨rfl, rfl⟩
          go_wp2_with fail
          go_ret
          exact ⟨⟨A, cA, rfl, HS.out⟩, by rw [HBq.out]; exact HB2.out⟩
end Go.Proofs.YtmfohnchnbgbaaaGreat

/- One quota, one loss: tower.may. -/
namespace Go.Proofs.YtmfohnchnbgbaaaGreat
open Go.RowKit Go.Lib Go.Maps
set_option linter.unusedSimpArgs false

set_option maxRecDepth 100000 in
set_option maxHeartbeats 2000000 in
theorem may1_any (w : World) : Calls Tryz.prog 102 #[.agg #[.int .i64 2, .int .i64 1, .int .i64 1, .int .i64 101, .int .i64 5000, .int .i64 0, .int .i64 0, .int .i64 0, .int .i64 255]] w fun e w' => e = .returned (.bool false) ∧ Below w.heap.size w w' := by
  obtain ⟨w1, hw1⟩ : ∃ W, w.alloc (.cells trC 97) = W := ⟨_, rfl⟩
  have HB := hide (show Blk w1 w.heap.size 97 trC by rw [← hw1]; exact Blk.new _ _ _)
  have H1 := hide (show Below w.heap.size w w1 by rw [← hw1]; exact (Below.refl _ _).alloc (Nat.le_refl _) _)
  have HW := hide hw1
  clear hw1
  go_enter Tryz.func102, Tryz.ntmps102
  go_upto_region 1 with fail
  rw [show w.alloc (.cells #[.int .i64 2, .int .i64 1, .int .i64 1, .int .i64 101, .int .i64 5000, .int .i64 0, .int .i64 0, .int .i64 0, .int .i64 255] 97) = w1 from HW.out]
  obtain ⟨x0, x1, x2, x3, x4, x5, x6, x7, x8⟩ := tr_cells HB.out
  go_wp2_with fail
  refine (rightQ_any w1).mono ?_
  rintro e w2 ⟨rfl, h2⟩
  have H2 := hide (chain H1.out h2)
  clear h2 x0 x1 x2 x3 x4 x5 x6 x7 x8
  go_wp2_with fail
  go_ret
  exact ⟨rfl, H2.out⟩
set_option maxRecDepth 100000 in
set_option maxHeartbeats 2000000 in
theorem may2_any (w : World) : Calls Tryz.prog 104 #[.agg #[.int .i64 3, .int .i64 0, .int .i64 8, .int .i64 1, .int .i64 600]] w fun e w' => e = .returned (.bool false) ∧ Below w.heap.size w w' := by
  obtain ⟨w1, hw1⟩ : ∃ W, w.alloc (.cells loC 103) = W := ⟨_, rfl⟩
  have HB := hide (show Blk w1 w.heap.size 103 loC by rw [← hw1]; exact Blk.new _ _ _)
  have H1 := hide (show Below w.heap.size w w1 by rw [← hw1]; exact (Below.refl _ _).alloc (Nat.le_refl _) _)
  have HW := hide hw1
  clear hw1
  go_enter Tryz.func104, Tryz.ntmps104
  go_upto_region 1 with fail
  rw [show w.alloc (.cells #[.int .i64 3, .int .i64 0, .int .i64 8, .int .i64 1, .int .i64 600] 103) = w1 from HW.out]
  obtain ⟨x0, x1, x2, x3, x4⟩ := lo_cells HB.out
  go_wp2_with fail
  refine (lossQ_any w1).mono ?_
  rintro e w2 ⟨rfl, h2⟩
  have H2 := hide (chain H1.out h2)
  clear h2 x0 x1 x2 x3 x4
  go_wp2_with fail
  go_ret
  exact ⟨rfl, H2.out⟩
set_option maxRecDepth 100000 in
set_option maxHeartbeats 4000000 in
theorem over_any (g : Nat) (w : World) (hB : Blk w g 97 trC) : Calls Tryz.prog 110 #[.slice (some ⟨g, 0, none⟩) 1 1, .agg #[.int .i64 3, .int .i64 0, .int .i64 8, .int .i64 1, .int .i64 600]] w fun e w' => e = .returned (.bool false) ∧ Below w.heap.size w w' := by
  obtain ⟨w1, hw1⟩ : ∃ W, w.alloc (.cells loC 103) = W := ⟨_, rfl⟩
  have hbel : Below w.heap.size w w1 := by rw [← hw1]; exact (Below.refl _ _).alloc (Nat.le_refl _) _
  have HL := hide (show Blk w1 w.heap.size 103 loC by rw [← hw1]; exact Blk.new _ _ _)
  have HB := hide (hB.below hbel hB.lt)
  have H1 := hide hbel
  have HW := hide hw1
  clear hw1 hB hbel
  go_enter Tryz.func110, Tryz.ntmps110
  go_upto_region 1 with fail
  rw [show w.alloc (.cells #[.int .i64 3, .int .i64 0, .int .i64 8, .int .i64 1, .int .i64 600] 103) = w1 from HW.out]
  go_wp2_with fail
  go_loopw [5, 10] (fun q5 q10 wr => (q5 = .int .i64 0 ∧ q10 = .int .i64 0 ∧ wr = w1) ∨ (q5 = .int .i64 5000 ∧ q10 = .int .i64 1 ∧ Below w.heap.size w wr)) (fun _ q _ => 2 - (RowKit.intOf q).toNat)
  case atStart => exact .inl ⟨rfl, rfl, rfl⟩
  case round =>
    rcases hrel with ⟨rfl, rfl, rfl⟩ | ⟨rfl, rfl, hb⟩
    · obtain ⟨x0, x1, x2, x3, x4, x5, x6, x7, x8⟩ := tr_cells HB.out
      obtain ⟨y0, y1, y2, y3, y4⟩ := lo_cells HL.out
      obtain ⟨w2, hw2⟩ : ∃ W, wr.alloc (.cells trC 97) = W := ⟨_, rfl⟩
      have h12 : Below wr.heap.size wr w2 := by rw [← hw2]; exact (Below.refl _ _).alloc (Nat.le_refl _) _
      have HT2 := hide (show Blk w2 wr.heap.size 97 trC by rw [← hw2]; exact Blk.new _ _ _)
      have HL2 := hide (HL.out.below h12 HL.out.lt)
      have H2 := hide (chain H1.out h12)
      have HW2 := hide hw2
      clear hw2 h12
      go_upto_region 5 with fail
      rw [show wr.alloc (.cells #[.int .i64 2, .int .i64 1, .int .i64 1, .int .i64 101, .int .i64 5000, .int .i64 0, .int .i64 0, .int .i64 0, .int .i64 255] 97) = w2 from HW2.out]
      clear x0 x1 x2 x3 x4 x5 x6 x7 x8 y0 y1 y2 y3 y4
      obtain ⟨x0, x1, x2, x3, x4, x5, x6, x7, x8⟩ := tr_cells HT2.out
      obtain ⟨y0, y1, y2, y3, y4⟩ := lo_cells HL2.out
      go_wp2_with fail
      refine (takesQ_any w2).mono ?_
      rintro e w3 ⟨rfl, h3⟩
      have HT3 := hide (HT2.out.below h3 HT2.out.lt)
      have H3 := hide (chain H2.out h3)
      clear h3 x0 x1 x2 x3 x4 x5 x6 x7 x8 y0 y1 y2 y3 y4
      obtain ⟨x0, x1, x2, x3, x4, x5, x6, x7, x8⟩ := tr_cells HT3.out
      go_wp2_with fail
      go_roundw
      case rel => exact .inr ⟨rfl, rfl, H3.out⟩
      case measure => simp [RowKit.intOf]
    · have HX := hide hb
      clear hb
      go_wp2_with fail
      go_ret
      exact ⟨rfl, HX.out⟩
set_option maxRecDepth 100000 in
set_option maxHeartbeats 2000000 in
theorem may3_any (g H : Nat) (w : World) (hB : Blk w g 97 trC) (hH : Blk w H 101 #[.slice (some ⟨g, 0, none⟩) 1 1]) : Calls Tryz.prog 109 #[.agg #[.int .i64 3, .int .i64 0, .int .i64 8, .int .i64 1, .int .i64 600], .pointer (some ⟨H, 0, none⟩)] w fun e w' => e = .returned (.bool false) ∧ Below w.heap.size w w' := by
  obtain ⟨w1, hw1⟩ : ∃ W, w.alloc (.cells loC 103) = W := ⟨_, rfl⟩
  have hbel : Below w.heap.size w w1 := by rw [← hw1]; exact (Below.refl _ _).alloc (Nat.le_refl _) _
  have HL := hide (show Blk w1 w.heap.size 103 loC by rw [← hw1]; exact Blk.new _ _ _)
  have HB := hide (hB.below hbel hB.lt)
  have x0 : w1.cell? ⟨H, 0, none⟩ = some (.slice (some ⟨g, 0, none⟩) 1 1) := (hH.below hbel hH.lt).cell 0
  have H1 := hide hbel
  have HW := hide hw1
  clear hw1 hB hbel hH
  go_enter Tryz.func109, Tryz.ntmps109
  go_upto_region 1 with fail
  rw [show w.alloc (.cells #[.int .i64 3, .int .i64 0, .int .i64 8, .int .i64 1, .int .i64 600] 103) = w1 from HW.out]
  obtain ⟨y0, y1, y2, y3, y4⟩ := lo_cells HL.out
  go_wp2_with fail
  refine (over_any g w1 HB.out).mono ?_
  rintro e w2 ⟨rfl, h2⟩
  have H2 := hide (chain H1.out h2)
  clear h2 x0 y0 y1 y2 y3 y4
  go_wp2_with fail
  go_ret
  exact ⟨rfl, H2.out⟩
set_option maxRecDepth 100000 in
set_option maxHeartbeats 2000000 in
theorem idxT_any (g : Nat) (w : World) (hB : Blk w g 97 trC) : Calls Tryz.prog 160 #[.slice (some ⟨g, 0, none⟩) 1 1, .func (.func 102) #[] #[]] w fun e w' => e = .returned (.int .i64 (-1)) ∧ Below w.heap.size w w' := by
  have HB := hide hB
  clear hB
  go_enter Tryz.func160, Tryz.ntmps160
  go_wp2_with fail
  go_loopw [8] (fun q wr => (q = .int .i64 0 ∧ wr = w) ∨ (q = .int .i64 1 ∧ Below w.heap.size w wr)) (fun q _ => 2 - (RowKit.intOf q).toNat)
  case atStart => exact .inl ⟨rfl, rfl⟩
  case round =>
    rcases hrel with ⟨rfl, rfl⟩ | ⟨rfl, hb⟩
    · obtain ⟨x0, x1, x2, x3, x4, x5, x6, x7, x8⟩ := tr_cells HB.out
      go_wp2_with fail
      refine (may1_any wr).mono ?_
      rintro e w3 ⟨rfl, h3⟩
      have H3 := hide h3
      clear h3 x0 x1 x2 x3 x4 x5 x6 x7 x8
      go_wp2_with fail
      go_roundw
      case rel => exact .inr ⟨rfl, H3.out⟩
      case measure => simp [RowKit.intOf]
    · have HX := hide hb
      clear hb
      go_wp2_with fail
      go_ret
      exact ⟨rfl, HX.out⟩
set_option maxRecDepth 100000 in
set_option maxHeartbeats 2000000 in
theorem idxL2_any (g : Nat) (w : World) (hB : Blk w g 103 loC) : Calls Tryz.prog 161 #[.slice (some ⟨g, 0, none⟩) 1 1, .func (.func 104) #[] #[]] w fun e w' => e = .returned (.int .i64 (-1)) ∧ Below w.heap.size w w' := by
  have HB := hide hB
  clear hB
  go_enter Tryz.func161, Tryz.ntmps161
  go_wp2_with fail
  go_loopw [8] (fun q wr => (q = .int .i64 0 ∧ wr = w) ∨ (q = .int .i64 1 ∧ Below w.heap.size w wr)) (fun q _ => 2 - (RowKit.intOf q).toNat)
  case atStart => exact .inl ⟨rfl, rfl⟩
  case round =>
    rcases hrel with ⟨rfl, rfl⟩ | ⟨rfl, hb⟩
    · obtain ⟨x0, x1, x2, x3, x4⟩ := lo_cells HB.out
      go_wp2_with fail
      refine (may2_any wr).mono ?_
      rintro e w3 ⟨rfl, h3⟩
      have H3 := hide h3
      clear h3 x0 x1 x2 x3 x4
      go_wp2_with fail
      go_roundw
      case rel => exact .inr ⟨rfl, H3.out⟩
      case measure => simp [RowKit.intOf]
    · have HX := hide hb
      clear hb
      go_wp2_with fail
      go_ret
      exact ⟨rfl, HX.out⟩
set_option maxRecDepth 100000 in
set_option maxHeartbeats 2000000 in
theorem idxL3_any (g h H : Nat) (w : World) (hB : Blk w g 103 loC) (hT : Blk w h 97 trC) (hH : Blk w H 101 #[.slice (some ⟨h, 0, none⟩) 1 1]) : Calls Tryz.prog 161 #[.slice (some ⟨g, 0, none⟩) 1 1, .func (.func 109) #[] #[.pointer (some ⟨H, 0, none⟩)]] w fun e w' => e = .returned (.int .i64 (-1)) ∧ Below w.heap.size w w' := by
  have HB := hide hB
  have HT := hide hT
  have HH := hide hH
  clear hB hT hH
  go_enter Tryz.func161, Tryz.ntmps161
  go_wp2_with fail
  go_loopw [8] (fun q wr => (q = .int .i64 0 ∧ wr = w) ∨ (q = .int .i64 1 ∧ Below w.heap.size w wr)) (fun q _ => 2 - (RowKit.intOf q).toNat)
  case atStart => exact .inl ⟨rfl, rfl⟩
  case round =>
    rcases hrel with ⟨rfl, rfl⟩ | ⟨rfl, hb⟩
    · obtain ⟨x0, x1, x2, x3, x4⟩ := lo_cells HB.out
      go_wp2_with fail
      refine (may3_any h H wr HT.out HH.out).mono ?_
      rintro e w3 ⟨rfl, h3⟩
      have H3 := hide h3
      clear h3 x0 x1 x2 x3 x4
      go_wp2_with fail
      go_roundw
      case rel => exact .inr ⟨rfl, H3.out⟩
      case measure => simp [RowKit.intOf]
    · have HX := hide hb
      clear hb
      go_wp2_with fail
      go_ret
      exact ⟨rfl, HX.out⟩
theorem conT_any (g : Nat) (w : World) (hB : Blk w g 97 trC) : Calls Tryz.prog 106 #[.slice (some ⟨g, 0, none⟩) 1 1, .func (.func 102) #[] #[]] w fun e w' => e = .returned (.bool false) ∧ Below w.heap.size w w' := by
  go_enter Tryz.func106, Tryz.ntmps106
  go_wp2_with fail
  refine (idxT_any g w hB).mono ?_
  rintro e w2 ⟨rfl, h2⟩
  have H2 := hide h2
  clear h2 hB
  go_wp2_with fail
  go_ret
  exact ⟨rfl, H2.out⟩
theorem conL2_any (g : Nat) (w : World) (hB : Blk w g 103 loC) : Calls Tryz.prog 107 #[.slice (some ⟨g, 0, none⟩) 1 1, .func (.func 104) #[] #[]] w fun e w' => e = .returned (.bool false) ∧ Below w.heap.size w w' := by
  go_enter Tryz.func107, Tryz.ntmps107
  go_wp2_with fail
  refine (idxL2_any g w hB).mono ?_
  rintro e w2 ⟨rfl, h2⟩
  have H2 := hide h2
  clear h2 hB
  go_wp2_with fail
  go_ret
  exact ⟨rfl, H2.out⟩
theorem conL3_any (g h H : Nat) (w : World) (hB : Blk w g 103 loC) (hT : Blk w h 97 trC) (hH : Blk w H 101 #[.slice (some ⟨h, 0, none⟩) 1 1]) : Calls Tryz.prog 107 #[.slice (some ⟨g, 0, none⟩) 1 1, .func (.func 109) #[] #[.pointer (some ⟨H, 0, none⟩)]] w fun e w' => e = .returned (.bool false) ∧ Below w.heap.size w w' := by
  have HI := hide (idxL3_any g h H w hB hT hH)
  clear hB hT hH
  go_enter Tryz.func107, Tryz.ntmps107
  go_wp2_with fail
  refine HI.out.mono ?_
  rintro e w2 ⟨rfl, h2⟩
  have H2 := hide h2
  clear h2
  go_wp2_with fail
  go_ret
  exact ⟨rfl, H2.out⟩

/-! ### The map of the treaties' numbers -/
def elemY : Value → Option (DataW Unit × List MemPlace)
  | .bool b => some (.lit (.bool b), [])
  | _ => none
theorem elemY_inv {v : Value} {b : Bool} {ps : List MemPlace} (h : elemY v = some (.lit (.bool b), ps)) : v = .bool b := by
  unfold elemY at h
  split at h
  · simp at h
    rw [h.1]
  · cases h
theorem lawY : Keyed Tryz.prog 3 := int_keyed Tryz.underlying3
theorem zeroY (w : World) : (zeroValue 4).run Tryz.prog w = .ok (.bool false) w := by kernel_rfl
theorem keyY : keyOf Tryz.prog 3 (.int .i64 2) = some (.int .i64 2) := keyOf_int_mk Tryz.underlying3 (WalkArith.wf_i64 (by omega))
set_option maxRecDepth 100000 in
set_option maxHeartbeats 2000000 in
theorem twice_any (g : Nat) (w : World) (hB : Blk w g 97 trC) : Calls Tryz.prog 108 #[.slice (some ⟨g, 0, none⟩) 1 1] w fun e w' => e = .returned (.bool false) ∧ Below w.heap.size w w' := by
  have hmm := @run_makeMap Tryz.prog
  obtain ⟨w1, hw1⟩ : ∃ W, w.alloc (.map #[] 0) = W := ⟨_, rfl⟩
  have o1 : w1.ownsMap Tryz.prog 3 elemY w.heap.size 0 (.map []) := by rw [← hw1]; exact World.ownsMap_made w Tryz.prog 3 elemY
  have h1 : Below w.heap.size w w1 := by rw [← hw1]; exact (Below.refl _ _).alloc (Nat.le_refl _) _
  have HB := hide (hB.below h1 hB.lt)
  obtain ⟨w2, hw2⟩ : ∃ W, w1.alloc (.cells trC 97) = W := ⟨_, rfl⟩
  have o2 : w2.ownsMap Tryz.prog 3 elemY w.heap.size 0 (.map []) := by rw [← hw2]; exact o1.alloc _
  have HT := hide (show Blk w2 w1.heap.size 97 trC by rw [← hw2]; exact Blk.new _ _ _)
  have h2 : Below w.heap.size w w2 := by rw [← hw2]; exact h1.alloc h1.size _
  obtain ⟨v, ps, hrun, hv⟩ := World.ownsMap.lookup o2 lawY Tryz.underlying268 (zeroY w2) (zd := .lit (.bool false)) (zp := []) rfl keyY
  have hv2 : v = .bool false := elemY_inv (b := false) (ps := ps) (by rw [hv]; rfl)
  subst hv2
  obtain ⟨w3, e3, o3, g3⟩ := o2.update lawY Tryz.underlying268 (by unfold maxLen; omega) keyY (show elemY (.bool true) = some (.lit (.bool true), []) from rfl)
  have H3 := hide (h2.grown g3 h2.size (fun k h => by cases h; exact Nat.le_refl _))
  have HW1 := hide hw1
  have HW2 := hide hw2
  clear hw1 hw2 o1 h1 o2 h2 hv o3 g3 hB
  go_enter Tryz.func108, Tryz.ntmps108
  go_upto_region 2 with fail
  rw [show w.alloc (.map #[] 0) = w1 from HW1.out]
  go_wp2_with fail
  go_loopw [9] (fun q wr => (q = .int .i64 0 ∧ wr = w1) ∨ (q = .int .i64 1 ∧ Below w.heap.size w wr)) (fun q _ => 2 - (RowKit.intOf q).toNat)
  case atStart => exact .inl ⟨rfl, rfl⟩
  case round =>
    rcases hrel with ⟨rfl, rfl⟩ | ⟨rfl, hb⟩
    · obtain ⟨x0, x1, x2, x3, x4, x5, x6, x7, x8⟩ := tr_cells HB.out
      go_upto_region 5 with fail
      rw [show World.alloc _ (.cells #[.int .i64 2, .int .i64 1, .int .i64 1, .int .i64 101, .int .i64 5000, .int .i64 0, .int .i64 0, .int .i64 0, .int .i64 255] 97) = w2 from HW2.out]
      clear x0 x1 x2 x3 x4 x5 x6 x7 x8
      obtain ⟨x0, x1, x2, x3, x4, x5, x6, x7, x8⟩ := tr_cells HT.out
      go_wp2_with fail
      go_roundw
      case rel => exact .inr ⟨rfl, H3.out⟩
      case measure => simp [RowKit.intOf]
    · have HX := hide hb
      clear hb
      go_wp2_with fail
      go_ret
      exact ⟨rfl, HX.out⟩
set_option maxRecDepth 100000 in
set_option maxHeartbeats 4000000 in
theorem may_any (g h : Nat) (w : World) (hT : Blk w g 97 trC) (hL : Blk w h 103 loC) : Calls Tryz.prog 57 #[.slice (some ⟨g, 0, none⟩) 1 1, .slice (some ⟨h, 0, none⟩) 1 1] w fun e w' => e = .returned (.int .i64 0) ∧ Below w.heap.size w w' := by
  have hmf : ∀ (fn : Fn) (first cap : Array Value) (w : World), (Instr.makeFunc fn first cap).run Tryz.prog w = .ok (.func fn first cap) w := fun _ _ _ _ => rfl
  obtain ⟨w1, hw1⟩ : ∃ W, w.alloc (.cells #[.slice (some ⟨g, 0, none⟩) 1 1] 101) = W := ⟨_, rfl⟩
  have h1 : Below w.heap.size w w1 := by rw [← hw1]; exact (Below.refl _ _).alloc (Nat.le_refl _) _
  have HH := hide (show Blk w1 w.heap.size 101 #[.slice (some ⟨g, 0, none⟩) 1 1] by rw [← hw1]; exact Blk.new _ _ _)
  have HT := hide (hT.below h1 hT.lt)
  have HL := hide (hL.below h1 hL.lt)
  have H1 := hide h1
  have HW := hide hw1
  clear hw1 h1 hT hL
  go_enter Tryz.func57, Tryz.ntmps57
  go_upto_region 1 with fail
  rw [show w.alloc (.cells #[.slice (some ⟨g, 0, none⟩) 1 1] 101) = w1 from HW.out]
  have x0 : w1.cell? ⟨w.heap.size, 0, none⟩ = some (.slice (some ⟨g, 0, none⟩) 1 1) := HH.out.cell 0
  go_wp2_with fail
  refine (conT_any g w1 HT.out).mono ?_
  rintro e w2 ⟨rfl, h2⟩
  have HH2 := hide (HH.out.below h2 HH.out.lt)
  have HT2 := hide (HT.out.below h2 HT.out.lt)
  have HL2 := hide (HL.out.below h2 HL.out.lt)
  have H2 := hide (chain H1.out h2)
  clear h2 x0
  go_wp2_with fail
  refine (conL2_any h w2 HL2.out).mono ?_
  rintro e w3 ⟨rfl, h3⟩
  have HH3 := hide (HH2.out.below h3 HH2.out.lt)
  have HT3 := hide (HT2.out.below h3 HT2.out.lt)
  have HL3 := hide (HL2.out.below h3 HL2.out.lt)
  have H3 := hide (chain H2.out h3)
  clear h3
  have x0 : w3.cell? ⟨w.heap.size, 0, none⟩ = some (.slice (some ⟨g, 0, none⟩) 1 1) := HH3.out.cell 0
  go_wp2_with fail
  refine (twice_any g w3 HT3.out).mono ?_
  rintro e w4 ⟨rfl, h4⟩
  have HH4 := hide (HH3.out.below h4 HH3.out.lt)
  have HT4 := hide (HT3.out.below h4 HT3.out.lt)
  have HL4 := hide (HL3.out.below h4 HL3.out.lt)
  have H4 := hide (chain H3.out h4)
  clear h4 x0
  go_wp2_with fail
  refine (conL3_any h g w.heap.size w4 HL4.out HT4.out HH4.out).mono ?_
  rintro e w5 ⟨rfl, h5⟩
  have H5 := hide (chain H4.out h5)
  clear h5
  go_wp2_with fail
  go_ret
  exact ⟨rfl, H5.out⟩
end Go.Proofs.YtmfohnchnbgbaaaGreat
