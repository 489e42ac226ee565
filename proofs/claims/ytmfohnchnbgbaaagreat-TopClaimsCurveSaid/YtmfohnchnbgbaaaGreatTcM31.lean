/- Part 31 of the proof. -/
import Derived.Deep.CutRange
import Derived.Test.YtmfohnchnbgbaaaGreatTcM10
import Derived.Test.YtmfohnchnbgbaaaGreatTcM11
import Derived.Test.YtmfohnchnbgbaaaGreatTcM26
import Derived.Test.YtmfohnchnbgbaaaGreatTcM30
/- One quota, one loss: tower.bears, slices.Clone, tower.Of. -/
namespace Go.Proofs.YtmfohnchnbgbaaaGreat
open Go.RowKit Go.Lib
set_option linter.unusedSimpArgs false

theorem make1 (W : World) : (Instr.makeSlice 39 (.int .i64 1) (.int .i64 1)).run Tryz.prog W = .ok (.slice (some ⟨W.heap.size, 0, none⟩) 1 1) (W.alloc (.cells #[.int .i64 0] 3)) := make_ints 1 [0] rfl (by decide) rfl W
/-- The loss in a block's first cells. -/
def LoI (w : World) (g : Nat) : Prop := w.cell? ⟨g, 0, none⟩ = some (.int .i64 3) ∧ w.cell? ⟨g, 1, none⟩ = some (.int .i64 0) ∧ w.cell? ⟨g, 2, none⟩ = some (.int .i64 8) ∧ w.cell? ⟨g, 3, none⟩ = some (.int .i64 1) ∧ w.cell? ⟨g, 4, none⟩ = some (.int .i64 600)
theorem LoI.below {w w' : World} {g : Nat} (h : LoI w g) (hb : Below w.heap.size w w') : LoI w' g := ⟨kept hb h.1, kept hb h.2.1, kept hb h.2.2.1, kept hb h.2.2.2.1, kept hb h.2.2.2.2⟩
set_option maxRecDepth 100000 in
set_option maxHeartbeats 4000000 in
theorem bearsT_any (g cp : Nat) (w : World) (hL : LoI w g) :
    Calls Tryz.prog 60 #[.agg #[.int .i64 2, .int .i64 1, .int .i64 1, .int .i64 101, .int .i64 5000, .int .i64 0, .int .i64 0, .int .i64 0, .int .i64 255], .slice (some ⟨g, 0, none⟩) 1 cp] w fun e w' => (∃ X : Nat, e = .returned (.slice (some ⟨X, 0, none⟩) 1 1) ∧ Blk w' X 3 #[.int .i64 300]) ∧ Below w.heap.size w w' := by
  have hmk := make1
  obtain ⟨w1, hw1⟩ : ∃ W, w.alloc (.cells trC 97) = W := ⟨_, rfl⟩
  have h1 : Below w.heap.size w w1 := by rw [← hw1]; exact (Below.refl _ _).alloc (Nat.le_refl _) _
  have HT := hide (show Blk w1 w.heap.size 97 trC by rw [← hw1]; exact Blk.new _ _ _)
  have HL := hide (hL.below h1)
  have HW1 := hide hw1
  obtain ⟨w2, hw2⟩ : ∃ W, w1.alloc (.cells #[.int .i64 0] 3) = W := ⟨_, rfl⟩
  have h2 : Below w1.heap.size w1 w2 := by rw [← hw2]; exact (Below.refl _ _).alloc (Nat.le_refl _) _
  obtain ⟨X, hX⟩ : ∃ X, w1.heap.size = X := ⟨_, rfl⟩
  have HX := hide (show Blk w2 X 3 #[.int .i64 0] by rw [← hw2, ← hX]; exact Blk.new _ _ _)
  have HT2 := hide (HT.out.below h2 HT.out.lt)
  have HL2 := hide (HL.out.below h2)
  have hXl : w.heap.size < X := by rw [← hX]; exact HT.out.lt
  have H2 := hide (chain h1 h2)
  have HW2 := hide hw2
  have HXX := hide hX
  clear hw1 h1 hL hw2 h2 hX
  go_enter Tryz.func60, Tryz.ntmps60
  go_upto_region 1 with fail
  rw [show w.alloc (.cells #[.int .i64 2, .int .i64 1, .int .i64 1, .int .i64 101, .int .i64 5000, .int .i64 0, .int .i64 0, .int .i64 0, .int .i64 255] 97) = w1 from HW1.out]
  go_upto_region 2 with fail
  rw [show w1.alloc (.cells #[.int .i64 0] 3) = w2 from HW2.out, HXX.out]
  clear hmk
  obtain ⟨x0, x1, x2, x3, x4, x5, x6, x7, x8⟩ := tr_cells HT2.out
  go_wp2_with fail
  go_loopw [15] (fun q wr => (q = .int .i64 0 ∧ wr = w2) ∨ (q = .int .i64 1 ∧ Below w.heap.size w wr ∧ Blk wr X 3 #[.int .i64 300])) (fun q _ => 2 - (RowKit.intOf q).toNat)
  case atStart => exact .inl ⟨rfl, rfl⟩
  case round =>
    rename World => wo
    clear x0 x1 x2 x3 x4 x5 x6 x7 x8
    rcases hrel with ⟨rfl, rfl⟩ | ⟨rfl, hb, hB⟩
    · obtain ⟨y0, y1, y2, y3, y4⟩ := HL2.out
      obtain ⟨w3, hw3⟩ : ∃ W, wo.alloc (.cells loC 103) = W := ⟨_, rfl⟩
      have h3 : Below wo.heap.size wo w3 := by rw [← hw3]; exact (Below.refl _ _).alloc (Nat.le_refl _) _
      have HL3 := hide (show Blk w3 wo.heap.size 103 loC by rw [← hw3]; exact Blk.new _ _ _)
      have HT3 := hide (HT2.out.below h3 HT2.out.lt)
      have HX3 := hide (HX.out.below h3 HX.out.lt)
      have H3 := hide (chain H2.out h3)
      have HW3 := hide hw3
      clear hw3 h3
      go_upto_region 6 with fail
      rw [show wo.alloc (.cells #[.int .i64 3, .int .i64 0, .int .i64 8, .int .i64 1, .int .i64 600] 103) = w3 from HW3.out]
      clear y0 y1 y2 y3 y4
      obtain ⟨x0, x1, x2, x3, x4, x5, x6, x7, x8⟩ := tr_cells HT3.out
      obtain ⟨y0, y1, y2, y3, y4⟩ := lo_cells HL3.out
      go_wp2_with fail
      refine (bearsQ_any w3).mono ?_
      rintro e w4 ⟨rfl, h4⟩
      have HX4 := hide (HX3.out.below h4 HX3.out.lt)
      have H4 := hide (chain H3.out h4)
      have z0 : w4.cell? ⟨X, 0, none⟩ = some (.int .i64 0) := HX4.out.cell 0
      have f0 := HX4.out.frozen 0
      clear h4 x0 x1 x2 x3 x4 x5 x6 x7 x8 y0 y1 y2 y3 y4
      go_wp2_with fail
      go_roundw
      case rel => exact .inr ⟨rfl, H4.out.setCell (p := ⟨X, 0, none⟩) (by simp; omega) _, HX4.out.set_ 0 _⟩
      case measure => simp [RowKit.intOf]
    · have HBB := hide hB
      have HBE := hide hb
      clear hb hB
      go_wp2_with fail
      go_ret
      exact ⟨⟨X, rfl, HBB.out⟩, HBE.out⟩

/-! ### Losses copied -/
def lRow : List Value := [.int .i64 3, .int .i64 0, .int .i64 8, .int .i64 1, .int .i64 600]
def lRow2 : List Value := [.int .i64 3, .int .i64 0, .int .i64 8, .int .i64 1, .int .i64 300]
theorem elLos : ElT Tryz.prog 104 103 5 40 := ElT.mk' (z := .agg #[.int .i64 0, .int .i64 0, .int .i64 0, .int .i64 0, .int .i64 0]) Tryz.underlying104 (by kernel_rfl) rfl (by omega)
theorem okLos : RowsOk 5 [lRow] := by
  intro r hr
  obtain rfl := List.mem_singleton.1 hr
  exact ⟨rfl, fun u hu => by simp [lRow] at hu; rcases hu with rfl | rfl | rfl | rfl | rfl <;> rfl⟩
set_option maxHeartbeats 1000000 in
theorem cloneL_any (g : Nat) (w : World) (hB : Blk w g 103 loC) :
    Calls Tryz.prog 58 #[.slice (some ⟨g, 0, none⟩) 1 1] w fun e w' => (∃ g' c', e = .returned (.slice (some ⟨g', 0, none⟩) 1 c') ∧ OwnS w' w.heap.size 103 5 (some ⟨g', 0, none⟩) 1 c' [lRow]) ∧ Below w.heap.size w w' := by
  have hq := fun (W : World) => Lib.run_eql_slice_nil (P := Tryz.prog) W 104 103 (some ⟨g, 0, none⟩) 1 1 0 0 Tryz.underlying104
  have HB := hide hB
  clear hB
  go_enter Tryz.func58, Tryz.ntmps58
  go_wp2_with (at_builtin
               refine wpList_app rfl (.tmp 5) (.tmp 6) 104 rfl elLos (B := w.heap.size) rfl (OwnS.lit w (Nat.le_refl _) 103 [] RowsOk.nil_ (by simp [maxLen]) #[] rfl) rfl rfl ?_ okLos ?_ ?_ ?_ ?_
               · exact sl_of_blk (cs := loC) (HB.out.alloc _)
               · simp [maxLen]
               · omega
               · simp
               intro A1 c1 wa ho1 hg1 ha1
               have hba : Below w.heap.size w wa := ((Below.refl _ _).alloc (Nat.le_refl _) _).grown hg1 (by simp) (fun k hk => by simp [blk] at hk; omega)
               simp only [Nat.zero_add, List.nil_append] at ho1
               obtain ⟨g2, rfl, hgB, hgl⟩ : ∃ g2, A1 = some ⟨g2, 0, none⟩ ∧ w.heap.size ≤ g2 ∧ g2 < wa.heap.size := by
                 rcases ho1.addr with ⟨-, h0, -⟩ | h
                 · omega
                 · exact h
               clear hg1 ha1)
  go_ret
  exact ⟨⟨g2, c1, rfl, ho1⟩, hba⟩
end Go.Proofs.YtmfohnchnbgbaaaGreat

/- One quota, one loss: tower.Of. -/
namespace Go.Proofs.YtmfohnchnbgbaaaGreat
open Go.RowKit Go.Lib
set_option linter.unusedSimpArgs false

theorem makeC1 (W : World) : (Instr.makeSlice 98 (.int .i64 1) (.int .i64 1)).run Tryz.prog W = .ok (.slice (some ⟨W.heap.size, 0, none⟩) 1 1) (W.alloc (.cells #[.slice none 0 0] 152)) := by
  have h := run_make_row' (P := Tryz.prog) 98 152 (.slice none 0 0) 24 Tryz.underlying98 (by kernel_rfl) rfl .i64 .i64 1 (by omega) (by omega) W
  have e : madeCells #[Value.slice none 0 0] 1 = #[Value.slice none 0 0] := by
    apply Array.ext'
    rw [toList_madeCells_one]
    rfl
  rw [e] at h
  exact h
theorem elCed : ElT Tryz.prog 152 154 2 16 := ElT.mk' (z := .agg #[.int .i64 0, .int .i64 0]) Tryz.underlying152 (by kernel_rfl) rfl (by omega)
def cRow : List Value := [.int .i64 2, .int .i64 300]
theorem okCed : RowsOk 2 [cRow] := by
  intro r hr
  obtain rfl := List.mem_singleton.1 hr
  exact ⟨rfl, fun u hu => by simp [cRow] at hu; rcases hu with rfl | rfl <;> rfl⟩
theorem own_loi {w : World} {B g c : Nat} (h : OwnS w B 103 5 (some ⟨g, 0, none⟩) 1 c [lRow]) : LoI w g := by
  obtain ⟨b, off, hA, _, hc⟩ := h.sl 0 lRow rfl
  cases hA
  exact ⟨by simpa using hc 0 _ rfl, by simpa using hc 1 _ rfl, by simpa using hc 2 _ rfl, by simpa using hc 3 _ rfl, by simpa using hc 4 _ rfl⟩
theorem own_lo2 {w : World} {B g c : Nat} (h : OwnS w B 103 5 (some ⟨g, 0, none⟩) 1 c [lRow2]) : w.cell? ⟨g, 0, none⟩ = some (.int .i64 3) ∧ w.cell? ⟨g, 1, none⟩ = some (.int .i64 0) ∧ w.cell? ⟨g, 2, none⟩ = some (.int .i64 8) ∧ w.cell? ⟨g, 3, none⟩ = some (.int .i64 1) ∧ w.cell? ⟨g, 4, none⟩ = some (.int .i64 300) := by
  obtain ⟨b, off, hA, _, hc⟩ := h.sl 0 lRow2 rfl
  cases hA
  exact ⟨by simpa using hc 0 _ rfl, by simpa using hc 1 _ rfl, by simpa using hc 2 _ rfl, by simpa using hc 3 _ rfl, by simpa using hc 4 _ rfl⟩
set_option maxRecDepth 100000 in
set_option maxHeartbeats 8000000 in
theorem towerOf_any (g h : Nat) (w : World) (hT : Blk w g 97 trC) (hL : Blk w h 103 loC) :
    Calls Tryz.prog 27 #[.slice (some ⟨g, 0, none⟩) 1 1, .slice (some ⟨h, 0, none⟩) 1 1] w fun e w' => (∃ (A : Option Addr) (n c X : Nat), e = .returned (.tuple #[.slice A n c, .slice (some ⟨X, 0, none⟩) 1 1, .int .i64 0]) ∧ Blk w' X 3 #[.int .i64 300]) ∧ Below w.heap.size w w' := by
  obtain ⟨B, hBq⟩ : ∃ B, w.heap.size = B := ⟨_, rfl⟩
  have HMY := hide (may_any g h w hT hL)
  have HT := hide hT
  have HL := hide hL
  have hgB : g < B := by rw [← hBq]; exact hT.lt
  have hhB : h < B := by rw [← hBq]; exact hL.lt
  have HBq := hide hBq
  clear hT hL hBq
  go_enter Tryz.func27, Tryz.ntmps27
  go_wp2_with fail
  refine HMY.out.mono ?_
  rintro e w1 ⟨rfl, h1⟩
  have HT1 := hide (HT.out.below h1 HT.out.lt)
  have HL1 := hide (HL.out.below h1 HL.out.lt)
  rw [HBq.out] at h1
  have H1 := hide h1
  have hs1 : B ≤ w1.heap.size := by have := h1.size; rw [← HBq.out]; exact this
  clear h1
  go_wp2_with fail
  refine (cloneL_any h w1 HL1.out).mono ?_
  rintro e w2 ⟨⟨g1, c1, rfl, ho2⟩, h2⟩
  have HT2 := hide (HT1.out.below h2 HT1.out.lt)
  have HL2 := hide (HL1.out.below h2 HL1.out.lt)
  have HO2 := hide (ho2.mono hs1)
  have H2 := hide (H1.out.trans (h2.mono hs1))
  have hs2 : B ≤ w2.heap.size := by have := h2.size; omega
  have hg1 := ho2.lt g1 rfl
  have hg1B : B ≤ g1 := by omega
  have hg1s : g1 < w2.heap.size := hg1.2
  clear h2 ho2 hg1
  have hmc := makeC1
  obtain ⟨XO, hXO⟩ : ∃ X, w2.heap.size = X := ⟨_, rfl⟩
  obtain ⟨w3, hw3⟩ : ∃ W, w2.alloc (.cells #[.slice none 0 0] 152) = W := ⟨_, rfl⟩
  have h3 : Below w2.heap.size w2 w3 := by rw [← hw3]; exact (Below.refl _ _).alloc (Nat.le_refl _) _
  have HXO := hide (show Blk w3 XO 152 #[.slice none 0 0] by rw [← hw3, ← hXO]; exact Blk.new _ _ _)
  have HT3 := hide (HT2.out.below h3 HT2.out.lt)
  have HL3 := hide (HL2.out.below h3 HL2.out.lt)
  have HO3 := hide (HO2.out.below h3)
  have H3 := hide (H2.out.trans (h3.mono hs2))
  have HW3 := hide hw3
  have HXQ := hide hXO
  have hs3 : B ≤ w3.heap.size := by have := h3.size; omega
  have hXOg : g1 < XO := by omega
  have hXOB : B ≤ XO := by omega
  clear hw3 hXO h3
  go_upto_region 6 with fail
  rw [show w2.alloc (.cells #[.slice none 0 0] 152) = w3 from HW3.out, HXQ.out]
  clear hmc
  go_wp2_with fail
  refine (cloneL_any h w3 HL3.out).mono ?_
  rintro e w4 ⟨⟨g3, c3, rfl, ho4⟩, h4⟩
  have HT4 := hide (HT3.out.below h4 HT3.out.lt)
  have HX4 := hide (HXO.out.below h4 HXO.out.lt)
  have HO4 := hide (HO3.out.below h4)
  have HR4 := hide (own_loi ho4)
  have H4 := hide (H3.out.trans (h4.mono hs3))
  have hs4 : B ≤ w4.heap.size := by have := h4.size; omega
  clear h4 ho4
  go_wp2_with fail
  refine (orderT_any g w4 HT4.out).mono ?_
  rintro e w5 ⟨⟨A5, c5, rfl, hs5o⟩, h5⟩
  obtain ⟨b5, off5, hA5, -, hco⟩ := hs5o.sl 0 [.int .i64 0] rfl
  have z0 := hco 0 _ rfl
  simp only [Nat.zero_mul, Nat.add_zero] at z0
  have HT5 := hide (HT4.out.below h5 HT4.out.lt)
  have HX5 := hide (HX4.out.below h5 HX4.out.lt)
  have HO5 := hide (HO4.out.below h5)
  have HR5 := hide (HR4.out.below h5)
  have H5 := hide (H4.out.trans (h5.mono hs4))
  have hs5 : B ≤ w5.heap.size := by have := h5.size; omega
  subst hA5
  clear h5 hs5o hco
  go_wp2_with fail
  go_loopw [10, 11, 36] (fun q10 q11 q wr => (q10 = .slice (some ⟨g3, 0, none⟩) 1 c3 ∧ q11 = .int .i64 1 ∧ q = .int .i64 0 ∧ wr = w5) ∨ (q = .int .i64 1 ∧ Below B w wr ∧ B ≤ wr.heap.size ∧ OwnS wr B 103 5 (some ⟨g1, 0, none⟩) 1 c1 [lRow2])) (fun _ _ q _ => 2 - (RowKit.intOf q).toNat)
  case atStart => exact .inl ⟨rfl, rfl, rfl, rfl⟩
  case round =>
    rename World => wo
    rcases hrel with ⟨rfl, rfl, rfl, rfl⟩ | ⟨rfl, hb, hsz, ho⟩
    · obtain ⟨x0, x1, x2, x3, x4, x5, x6, x7, x8⟩ := tr_cells HT5.out
      obtain ⟨w6, hw6⟩ : ∃ W, wo.alloc (.cells trC 97) = W := ⟨_, rfl⟩
      have h6 : Below wo.heap.size wo w6 := by rw [← hw6]; exact (Below.refl _ _).alloc (Nat.le_refl _) _
      have HT6 := hide (show Blk w6 wo.heap.size 97 trC by rw [← hw6]; exact Blk.new _ _ _)
      have HX6 := hide (HX5.out.below h6 HX5.out.lt)
      have HO6 := hide (HO5.out.below h6)
      have HR6 := hide (HR5.out.below h6)
      have H6 := hide (H5.out.trans (h6.mono hs5))
      have hs6 : B ≤ w6.heap.size := by have := h6.size; omega
      have HW6 := hide hw6
      clear hw6 h6
      go_upto_region 11 with fail
      rw [show wo.alloc (.cells #[.int .i64 2, .int .i64 1, .int .i64 1, .int .i64 101, .int .i64 5000, .int .i64 0, .int .i64 0, .int .i64 0, .int .i64 255] 97) = w6 from HW6.out]
      obtain ⟨TB, hTB⟩ : ∃ X, wo.heap.size = X := ⟨_, rfl⟩
      rw [hTB] at HT6 ⊢
      clear hTB HW6
      clear x0 x1 x2 x3 x4 x5 x6 x7 x8
      obtain ⟨x0, x1, x2, x3, x4, x5, x6, x7, x8⟩ := tr_cells HT6.out
      go_wp2_with fail
      refine (bearsT_any g3 c3 w6 HR6.out).mono ?_
      rintro e w7 ⟨⟨X7, rfl, hX7⟩, h7⟩
      have HN7 := hide hX7
      have HT7 := hide (HT6.out.below h7 HT6.out.lt)
      have HX7 := hide (HX6.out.below h7 HX6.out.lt)
      have HO7 := hide (HO6.out.below h7)
      have H7 := hide (H6.out.trans (h7.mono hs6))
      have hs7 : B ≤ w7.heap.size := by have := h7.size; omega
      clear hX7 h7 x0 x1 x2 x3 x4 x5 x6 x7 x8
      go_wp2_with fail
      go_loopw [56] (fun q wr => (q = .int .i64 0 ∧ wr = w7) ∨ (q = .int .i64 1 ∧ Below B w wr ∧ B ≤ wr.heap.size ∧ OwnS wr B 103 5 (some ⟨g1, 0, none⟩) 1 c1 [lRow2])) (fun q _ => 2 - (RowKit.intOf q).toNat)
      case atStart => exact .inl ⟨rfl, rfl⟩
      case round =>
        rename World => wp
        rcases hrel with ⟨rfl, rfl⟩ | ⟨rfl, hb, hsz, ho⟩
        · have n0 : wp.cell? ⟨X7, 0, none⟩ = some (.int .i64 300) := HN7.out.cell 0
          have x0 : wp.cell? ⟨TB, 0, none⟩ = some (.int .i64 2) := HT7.out.cell 0
          obtain ⟨y0, y1, y2, y3, y4⟩ := own_loi HO7.out
          have f4 : wp.frozen? ⟨g1, 4, none⟩ = false := HO7.out.frozen 4
          have ho8 := HO7.out.set_ (i := 0) (j := 4) (row := lRow) rfl (by omega) (u := .int .i64 300) rfl
          obtain ⟨w8, hw8⟩ : ∃ W, wp.setCell ⟨g1, 4, none⟩ (.int .i64 300) = W := ⟨_, rfl⟩
          have hTBX : TB ≠ g1 := by have := HT6.out.lt; intro e; subst e; have h9 := HT7.out; have := own_loi HO7.out; have e1 := h9.cell 0; rw [this.1] at e1; simp [trC] at e1
          have HO8 := hide (show OwnS w8 B 103 5 (some ⟨g1, 0, none⟩) 1 c1 [lRow2] by rw [← hw8]; exact ho8)
          have HX8 := hide (show Blk w8 XO 152 #[.slice none 0 0] by rw [← hw8]; exact HX7.out.far (p := ⟨g1, 4, none⟩) (by simp; omega) _)
          have HT8 := hide (show Blk w8 TB 97 trC by rw [← hw8]; exact HT7.out.far (p := ⟨g1, 4, none⟩) (by simpa using hTBX) _)
          have H8 := hide (show Below B w w8 by rw [← hw8]; exact H7.out.setCell (p := ⟨g1, 4, none⟩) hg1B _)
          have hs8 : B ≤ w8.heap.size := by rw [← hw8]; simpa using hs7
          have HW8 := hide hw8
          clear hw8 ho8
          go_upto_region 19 with fail
          rw [show min (300 : Int) 600 = 300 from by decide, show (600 : Int) - 300 = 300 from by decide]
          rw [show wp.setCell ⟨g1, 4, none⟩ (.int .i64 300) = w8 from HW8.out]
          clear n0 x0 y0 y1 y2 y3 y4 f4
          have x0 : w8.cell? ⟨TB, 0, none⟩ = some (.int .i64 2) := HT8.out.cell 0
          have o0 : w8.cell? ⟨XO, 0, none⟩ = some (.slice none 0 0) := HX8.out.cell 0
          have f0 := HX8.out.frozen 0
          have hxl := HX8.out.lt
          go_region_law (first
            | (refine step_app rfl (.tmp 84) (.tmp 89) 152 rfl elCed (B := B) (rows := []) (A2 := some ⟨_, 0, none⟩) (news := [cRow]) rfl (OwnS.nil_ _ _ _ _) rfl rfl ?_ okCed ?_ ?_ ?_ ?_
               · first | exact sl_of_blk (cs := #[.int .i64 2, .int .i64 300]) (Blk.drew (Blk.new' (by simp))) | exact sl_of_blk (cs := #[.int .i64 2, .int .i64 300]) (Blk.new' (by simp))
               · simp [maxLen]
               · omega
               · (simp; try omega)
               intro A3 cp3 wb ho9 hg9 ha9
               have HXb := hide (((HX8.out.alloc _).drew).grown hg9 (by simp [blk]))
               have HOb := hide (((HO8.out.alloc _).drew).kept hg9 (.inr (by simp [blk])))
               have HBb := hide (((H8.out.alloc hs8 _).drew).grown hg9 (by simp; omega) (fun kk hk => by simp [blk] at hk))
               have hsb : B ≤ wb.heap.size := by have := hg9.size; simp at this; omega
               have o1 := HXb.out.cell 0
               have f1 := HXb.out.frozen 0
               clear ho9 hg9 ha9))
          all_goals
            go_wp2_with fail
            go_roundw
            case rel => exact .inr ⟨rfl, HBb.out.setCell (p := ⟨XO, 0, none⟩) hXOB _, by simpa using hsb, HOb.out.far (p := ⟨XO, 0, none⟩) (fun kk hk => by simp [blk] at hk; subst hk; simp; omega) _⟩
            case measure => simp [RowKit.intOf]
        · have HBE := hide hb
          have HOE := hide ho
          clear hb ho
          go_wp2_with fail
          go_roundw
          case rel => exact .inr ⟨rfl, HBE.out, hsz, HOE.out⟩
          case measure => simp [RowKit.intOf]
    · have HBE := hide hb
      have HOE := hide ho
      clear hb ho z0
      have hmk := make1
      obtain ⟨w6, hw6⟩ : ∃ W, wo.alloc (.cells #[.int .i64 0] 3) = W := ⟨_, rfl⟩
      have h6 : Below wo.heap.size wo w6 := by rw [← hw6]; exact (Below.refl _ _).alloc (Nat.le_refl _) _
      obtain ⟨X, hX⟩ : ∃ X, wo.heap.size = X := ⟨_, rfl⟩
      have HN6 := hide (show Blk w6 X 3 #[.int .i64 0] by rw [← hw6, ← hX]; exact Blk.new _ _ _)
      have HO6 := hide (HOE.out.below h6)
      have H6 := hide (HBE.out.trans (h6.mono hsz))
      have hXB : B ≤ X := by omega
      have hs6 : B ≤ w6.heap.size := by have := h6.size; omega
      have HW6 := hide hw6
      have HXX := hide hX
      clear hw6 h6 hX
      go_upto_region 23 with fail
      rw [show wo.alloc (.cells #[.int .i64 0] 3) = w6 from HW6.out, HXX.out]
      clear hmk
      go_wp2_with fail
      go_loopw [99] (fun q wr => (q = .int .i64 0 ∧ wr = w6) ∨ (q = .int .i64 1 ∧ Below B w wr ∧ Blk wr X 3 #[.int .i64 300])) (fun q _ => 2 - (RowKit.intOf q).toNat)
      case atStart => exact .inl ⟨rfl, rfl⟩
      case round =>
        rename World => wp
        rcases hrel with ⟨rfl, rfl⟩ | ⟨rfl, hb, hB⟩
        · obtain ⟨y0, y1, y2, y3, y4⟩ := own_lo2 HO6.out
          obtain ⟨w7, hw7⟩ : ∃ W, wp.alloc (.cells #[.int .i64 3, .int .i64 0, .int .i64 8, .int .i64 1, .int .i64 300] 103) = W := ⟨_, rfl⟩
          have h7 : Below wp.heap.size wp w7 := by rw [← hw7]; exact (Below.refl _ _).alloc (Nat.le_refl _) _
          have HL7 := hide (show Blk w7 wp.heap.size 103 #[.int .i64 3, .int .i64 0, .int .i64 8, .int .i64 1, .int .i64 300] by rw [← hw7]; exact Blk.new _ _ _)
          have HN7 := hide (HN6.out.below h7 HN6.out.lt)
          have H7 := hide (H6.out.trans (h7.mono hs6))
          have HW7 := hide hw7
          clear hw7 h7
          go_upto_region 26 with fail
          rw [show wp.alloc (.cells #[.int .i64 3, .int .i64 0, .int .i64 8, .int .i64 1, .int .i64 300] 103) = w7 from HW7.out]
          clear y0 y1 y2 y3 y4
          have y4 : w7.cell? ⟨wp.heap.size, 4, none⟩ = some (.int .i64 300) := HL7.out.cell 4
          have n0 : w7.cell? ⟨X, 0, none⟩ = some (.int .i64 0) := HN7.out.cell 0
          have f0 := HN7.out.frozen 0
          go_wp2_with fail
          go_roundw
          case rel => exact .inr ⟨rfl, H7.out.setCell (p := ⟨X, 0, none⟩) hXB _, HN7.out.set_ 0 _⟩
          case measure => simp [RowKit.intOf]
        · have HBF := hide hb
          have HNF := hide hB
          clear hb hB
          go_wp2_with fail
          refine bodyPost_ret (by simp [results, Tryz.results27, go_sem]; try rfl) rfl ?_
          exact ⟨⟨_, _, _, X, rfl, HNF.out⟩, by rw [HBq.out]; exact HBF.out⟩
end Go.Proofs.YtmfohnchnbgbaaaGreat

/- claimsAlive: its numbers. -/
namespace Go.Proofs.YtmfohnchnbgbaaaGreat
open Go.RowKit

def cv0 : Cv := ⟨1, 1000, 1500, 100, 10000⟩
def acts0 : List Ac := [⟨10, 1, 900⟩, ⟨11, 2, 700⟩]
def fl0 (b : Nat) : Fl := ⟨⟨3, 1, 1, 8, 9, 0⟩, some ⟨b, 0, none⟩, acts0, 2⟩
theorem check0 (b : Nat) : checkQ cv0 [fl0 b] = 0 := by
  have h : rightF cv0 [fl0 b] = true := by
    have e : rightF cv0 [fl0 b] = rightF cv0 [fl0 0] := rfl
    rw [e]
    decide +kernel
  unfold checkQ
  rw [if_pos h, if_neg (by simp [actsN, fl0, acts0])]
theorem steps0 (b : Nat) : stepsL 0 [fl0 b] = [⟨0, 10, 1, 900⟩, ⟨0, 11, 2, 700⟩] := rfl
theorem sort0 (b : Nat) : sortS (stepsL 0 [fl0 b]) = [⟨0, 10, 1, 900⟩, ⟨0, 11, 2, 700⟩] := by
  have h := srtS_uniq (l := stepsL 0 [fl0 b]) (S := (stepsL 0 [fl0 b]).zipIdx) (List.Perm.refl _) (by
    rw [steps0]
    simp [ltS])
  unfold sortS
  rw [← h, List.zipIdx_map_fst, steps0]
theorem run0 (b : Nat) : (paidS cv0 [fl0 b]).out = [⟨0, 11, 600⟩] := by
  unfold paidS
  rw [sort0]
  show (pRun cv0 1 [⟨0, 10, 1, 900⟩, ⟨0, 11, 2, 700⟩]).out = _
  kernel_rfl
theorem pos0 {b : Nat} {P0 P : List Ps} (h1 : OfI [fl0 b] P0 (fun k => byF k (paidS cv0 [fl0 b]).out)) (h2 : (heldN cv0 P0 ((paidS cv0 [fl0 b]).out.map (·.m)).sum 1).1 = P) :
    ∃ y : Ps, P = [y] ∧ y.p = 600 ∧ y.r = 200 := by
  rw [run0] at h1 h2
  have hl := h1.len
  obtain ⟨y, rfl⟩ : ∃ y, P0 = [y] := by
    match P0, hl with
    | [y], _ => exact ⟨y, rfl⟩
  have hp : y.p = 600 := by rw [h1.pd 0 y rfl]; decide
  obtain ⟨x, hx, hg, _, _, ho⟩ := h1.gr 0 y rfl
  obtain rfl : fl0 b = x := Option.some.inj hx
  have hg2 : y.g = 900 := by rw [hg]; have : (psOf (fl0 b)).g = (psOf (fl0 0)).g := rfl; rw [this]; decide +kernel
  have ho2 : y.o = true := by rw [ho]; have : (psOf (fl0 b)).o = (psOf (fl0 0)).o := rfl; rw [this]; decide +kernel
  have h3 := heldN_on (c := cv0) (P := [y]) (S := 600) (t := 0) (y := y) rfl rfl ho2
  have e : (([⟨0, 11, 600⟩] : List R3).map (·.m)).sum = 600 := by decide
  rw [e, h3] at h2
  refine ⟨_, h2.symm, hp, ?_⟩
  show max 0 (paysQ cv0 y.g (600 - y.p) - y.p) = 200
  rw [hp, hg2]
  decide +kernel

/-! ### The triangle of one row -/
def l0 : List R3 := [⟨8, 11, 600⟩]
theorem yr0 {n : Int} (h1 : 1 ≤ n) (h2 : n ≤ 365) : yrV n = 1601 := by
  rw [yrV, if_pos ⟨h1, by omega⟩]
  obtain ⟨a1, a2, a3, a4⟩ := yearI_ok n h1 (by omega)
  have e2 : aheadI (1601 + 1) = 365 := by decide +kernel
  exact year_uniq a1 (by omega) a3 a4 (by rw [ahead0]; omega) (by rw [e2]; exact h2)
theorem of0 : ofE l0 = 0 := by
  have hc : chkL l0 = 0 := by decide
  have hf : fromL l0 = 1601 := by
    show min 2401 (yrV 8) = 1601
    rw [yr0 (by omega) (by omega)]; decide
  have ht : toL l0 = 1601 := by
    show max 0 (yrV 11) = 1601
    rw [yr0 (by omega) (by omega)]; decide
  have hy : yearsN l0 = 1 := by unfold yearsN; rw [hf, ht]; decide
  have ho : ofO l0 = some [[600]] := by
    have hi : idxO 1601 ⟨8, 11, 600⟩ = 0 := by
      show (yrV 8 - 1601).toNat = 0
      rw [yr0 (by omega) (by omega)]; decide
    have hd : devO ⟨8, 11, 600⟩ = 0 := by
      show yrV 11 - yrV 8 = 0
      rw [yr0 (by omega) (by omega), yr0 (by omega) (by omega)]; decide
    have hr : rowO 1601 (zerosT 1) ⟨8, 11, 600⟩ = [600] := by
      unfold rowO
      rw [hi, hd]
      decide
    rw [ofO, hf, hy, l0, putAll, hr, hi]
    decide
  exact ofE_ok (by simp [l0]) hc (by rw [hf, ht]; simp [l0]) ho
theorem diag0 : diagL (fromL l0) (ofC l0) = [600] := by
  obtain ⟨hn, hc, ho, hs, hr, hy1, hy2, hf1, hf2, hl⟩ := made of0
  have hf : fromL l0 = 1601 := by
    show min 2401 (yrV 8) = 1601
    rw [yr0 (by omega) (by omega)]; decide
  have ht : toL l0 = 1601 := by
    show max 0 (yrV 11) = 1601
    rw [yr0 (by omega) (by omega)]; decide
  have hy : yearsN l0 = 1 := by unfold yearsN; rw [hf, ht]; decide
  have h1 : (diagL (fromL l0) (ofC l0)).length = 1 := by rw [diagL, if_pos hr, List.length_map, hl, hy]
  have h2 := diag_sum of0
  obtain ⟨v, hv⟩ : ∃ v, diagL (fromL l0) (ofC l0) = [v] := by
    match diagL (fromL l0) (ofC l0), h1 with
    | [v], _ => exact ⟨v, rfl⟩
  rw [hv] at h2 ⊢
  have h3 : sumM l0 = 600 := by decide
  rw [h3] at h2
  simp [sumI] at h2
  rw [h2]
end Go.Proofs.YtmfohnchnbgbaaaGreat
