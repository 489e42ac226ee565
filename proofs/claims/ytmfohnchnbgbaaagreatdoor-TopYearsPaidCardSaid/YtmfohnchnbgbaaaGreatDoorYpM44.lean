/- Part 44 of the proof. -/
import Derived.Test.YtmfohnchnbgbaaaGreatDoorYpM43
/- A change more, behind none: change.Put. -/
namespace Go.Proofs.YtmfohnchnbgbaaaGreatDoor
open Go.RowKit

def hiZ : Array Value := #[.int .i64 0, .int .i64 0, .int .i64 0, .int .i64 0, .int .i64 0, .int .i64 0, .int .i64 0, .int .i64 0, .slice none 0 0, .slice none 0 0]
def chA (c : Ch) (A : Option Addr) (k : Nat) : Array Value := #[.int .i64 c.b, .int .i64 c.d, .int .i64 c.k, .int .i64 c.rk, .int .i64 c.rv, .int .i64 c.ra, .int .i64 c.rz, .slice A c.l.length k, .int .i64 c.way]
theorem chA_cells {w : World} {g : Nat} {c : Ch} {A : Option Addr} {k : Nat} (h : Blk w g 77 (chA c A k)) : w.cell? ⟨g, 0, none⟩ = some (.int .i64 c.b) ∧ w.cell? ⟨g, 1, none⟩ = some (.int .i64 c.d) ∧ w.cell? ⟨g, 2, none⟩ = some (.int .i64 c.k) ∧ w.cell? ⟨g, 3, none⟩ = some (.int .i64 c.rk) ∧
    w.cell? ⟨g, 4, none⟩ = some (.int .i64 c.rv) ∧ w.cell? ⟨g, 5, none⟩ = some (.int .i64 c.ra) ∧ w.cell? ⟨g, 6, none⟩ = some (.int .i64 c.rz) ∧ w.cell? ⟨g, 7, none⟩ = some (.slice A c.l.length k) ∧ w.cell? ⟨g, 8, none⟩ = some (.int .i64 c.way) := ⟨h.cell 0, h.cell 1, h.cell 2, h.cell 3, h.cell 4, h.cell 5, h.cell 6, h.cell 7, h.cell 8⟩
def hiA (h : Hi) (A : Option Addr) (k : Nat) : Array Value := #[.int .i64 h.id, .int .i64 h.bk, .int .i64 h.tm.f, .int .i64 h.tm.t, .int .i64 h.tm.k, .int .i64 h.tm.v, .int .i64 h.tm.a, .int .i64 h.tm.z, .slice A h.tm.l.length k, .slice none 0 0]
theorem hi_fill {w : World} {g : Nat} {T : TypeId} {a0 a1 a2 a3 a4 a5 a6 a7 a8 a9 z0 z1 z2 z3 z4 z5 z6 z7 z8 z9 : Value} (h : Blk w g T #[z0, z1, z2, z3, z4, z5, z6, z7, z8, z9]) : Blk ((((((((((w.setCell ⟨g, 0, none⟩ a0).setCell ⟨g, 1, none⟩ a1).setCell ⟨g, 2, none⟩ a2).setCell ⟨g, 3, none⟩ a3).setCell ⟨g, 4, none⟩ a4).setCell ⟨g, 5, none⟩ a5).setCell ⟨g, 6, none⟩ a6).setCell ⟨g, 7, none⟩ a7).setCell ⟨g, 8, none⟩ a8).setCell ⟨g, 9, none⟩ a9) g T #[a0, a1, a2, a3, a4, a5, a6, a7, a8, a9] := by
  have := ((((((((((h.set_ 0 a0).set_ 1 a1).set_ 2 a2).set_ 3 a3).set_ 4 a4).set_ 5 a5).set_ 6 a6).set_ 7 a7).set_ 8 a8).set_ 9 a9)
  simpa using this
def PutP (h : Hi) (c : Ch) (w : World) (e : Ending) (w' : World) : Prop :=
  ∃ (tA cA A : Option Addr) (tc cc cap : Nat) (x : Hi), x = { h with tm := { h.tm with A := tA, cap := tc }, A := A, cs := [{ c with A := cA, cap := cc }], cap := cap } ∧ e = .returned (.tuple #[.agg #[.int .i64 x.id, .int .i64 x.bk, .int .i64 x.tm.f, .int .i64 x.tm.t, .int .i64 x.tm.k, .int .i64 x.tm.v, .int .i64 x.tm.a, .int .i64 x.tm.z, .slice x.tm.A x.tm.l.length x.tm.cap, .slice x.A x.cs.length x.cap], .int .i64 0]) ∧ HV w' x ∧ Below w.heap.size w w'
set_option linter.unusedSimpArgs false in
set_option maxRecDepth 100000 in
set_option maxHeartbeats 4000000 in
theorem put0_any (h : Hi) (c : Ch) (w : World) (hv : HV w h) (hcs : h.cs = []) (hA : h.A = none) (hcap : h.cap = 0) (hcv : SV w 5 c.A c.l.length c.cap (c.l.map encCv)) (hoc : okCh c) (hr : changeB c = true) (hin : inB h.tm.f h.tm.t c.d = true) (hb : h.bk ≤ c.b)
    (hm : h.tm.l.length ≤ 1000000 ∧ c.l.length ≤ 1000000) : Calls Tryz.prog 44 #[.agg #[.int .i64 h.id, .int .i64 h.bk, .int .i64 h.tm.f, .int .i64 h.tm.t, .int .i64 h.tm.k, .int .i64 h.tm.v, .int .i64 h.tm.a, .int .i64 h.tm.z, .slice h.tm.A h.tm.l.length h.tm.cap, .slice h.A h.cs.length h.cap], .agg #[.int .i64 c.b, .int .i64 c.d, .int .i64 c.k, .int .i64 c.rk, .int .i64 c.rv, .int .i64 c.ra, .int .i64 c.rz, .slice c.A c.l.length c.cap, .int .i64 c.way]] w (PutP h c w) := by
  obtain ⟨w1, hw1⟩ : ∃ W, ((w.alloc (.cells (hiC h) 64)).alloc (.cells (chA c c.A c.cap) 77)).alloc (.cells hiZ 64) = W := ⟨_, rfl⟩
  have hH1 : Blk w1 w.heap.size 64 (hiC h) := by rw [← hw1]; exact ((Blk.new _ _ _).alloc _).alloc _
  have hC1 : Blk w1 (w.heap.size + 1) 77 (chA c c.A c.cap) := by rw [← hw1]; exact (Blk.new' (by simp)).alloc _
  have hR1 : Blk w1 (w.heap.size + 1 + 1) 64 hiZ := by rw [← hw1]; exact Blk.new' (by simp)
  have hb1 : Below w.heap.size w w1 := by rw [← hw1]; exact (((Below.refl _ _).alloc (Nat.le_refl _) _).alloc (by simp) _).alloc (by simp; omega) _
  have hz1 : w.heap.size + 1 + 1 < w1.heap.size := hR1.lt
  obtain ⟨x0, x1, x2, x3, x4, x5, x6, x7, x8, x9⟩ := hi_cells hH1
  obtain ⟨y0, y1, y2, y3, y4, y5, y6, y7, y8⟩ := chA_cells hC1
  rw [hcs, hA, hcap] at x9
  simp only [List.length_nil] at x9
  have H1 := hide hb1
  have HH := hide hH1
  have HC := hide hC1
  have HR := hide hR1
  have HW := hide hw1
  have HV1 := hide (hv.below hb1)
  have HCV := hide (hcv.below hb1)
  have HCR := hide (change_any c w1 hoc.1 (hcv.below hb1) hoc.2)
  rw [hr] at HCR
  have HIN := hide (fun W => in_any h.tm.f h.tm.t c.d W)
  rw [hin] at HIN
  have HCS := hide hcs
  have HV0 := hide hv
  have HA0 := hide hA
  have HP0 := hide hcap
  have HOC := hide hoc
  have hbq : ¬ c.b < h.bk := by omega
  clear hH1 hC1 hR1 hb1 hw1 hv hcv hr hin hcs hA hcap hoc
  go_enter Tryz.func44, Tryz.ntmps44
  go_upto_region 1 with fail
  rw [show ((w.alloc (.cells #[.int .i64 h.id, .int .i64 h.bk, .int .i64 h.tm.f, .int .i64 h.tm.t, .int .i64 h.tm.k, .int .i64 h.tm.v, .int .i64 h.tm.a, .int .i64 h.tm.z, .slice h.tm.A h.tm.l.length h.tm.cap, .slice h.A h.cs.length h.cap] 64)).alloc (.cells #[.int .i64 c.b, .int .i64 c.d, .int .i64 c.k, .int .i64 c.rk, .int .i64 c.rv, .int .i64 c.ra, .int .i64 c.rz, .slice c.A c.l.length c.cap, .int .i64 c.way] 77)).alloc (.cells #[.int .i64 0, .int .i64 0, .int .i64 0, .int .i64 0, .int .i64 0, .int .i64 0, .int .i64 0, .int .i64 0, .slice none 0 0, .slice none 0 0] 64) = w1 from HW.out]
  go_wp2_with fail
  refine HCR.out.mono ?_
  rintro e w2 ⟨rfl, h2⟩
  have HH2 := hide (HH.out.below h2 (by omega))
  have HC2 := hide (HC.out.below h2 (by omega))
  have HR2 := hide (HR.out.below h2 (by omega))
  have H2 := hide (chain H1.out h2)
  have HV2 := hide (HV1.out.below h2)
  have HCV2 := hide (HCV.out.below h2)
  clear h2 x0 x1 x2 x3 x4 x5 x6 x7 x8 x9 y0 y1 y2 y3 y4 y5 y6 y7 y8 HCR HV1 HCV
  have x2 := (hi_cells HH2.out).2.2.1
  have x3 := (hi_cells HH2.out).2.2.2.1
  have y1 := (chA_cells HC2.out).2.1
  go_wp2_with fail
  refine (HIN.out _).mono ?_
  rintro e w3 ⟨rfl, h3⟩
  have HH3 := hide (HH2.out.below h3 HH2.out.lt)
  have HC3 := hide (HC2.out.below h3 HC2.out.lt)
  have HR3 := hide (HR2.out.below h3 HR2.out.lt)
  have H3 := hide (chain H2.out h3)
  have HV3 := hide (HV2.out.below h3)
  have HCL := hide (cloneC_any c.A c.l.length c.cap c.l w3 (HCV2.out.below h3) hm.2)
  clear h3 x2 x3 y1 HIN
  have y0 := (chA_cells HC3.out).1
  have y7 := (chA_cells HC3.out).2.2.2.2.2.2.2.1
  go_wp2_with fail
  refine HCL.out.mono ?_
  rintro e w4 ⟨cA, cc, rfl, ho, h4⟩
  obtain ⟨w5, hw5⟩ : ∃ W, w4.setCell ⟨w.heap.size + 1, 7, none⟩ (.slice cA c.l.length cc) = W := ⟨_, rfl⟩
  have hH4 := HH3.out.below h4 HH3.out.lt
  have hC4 := HC3.out.below h4 HC3.out.lt
  have hR4 := HR3.out.below h4 HR3.out.lt
  have y7 := (chA_cells hC4).2.2.2.2.2.2.2.1
  have f7 := hC4.frozen 7
  have HH5 := hide (show Blk w5 w.heap.size 64 (hiC h) by rw [← hw5]; exact hH4.far (by simp) _)
  have HC5 := hide (show Blk w5 (w.heap.size + 1) 77 (chA c cA cc) by rw [← hw5]; exact hC4.set_ 7 _)
  have HR5 := hide (show Blk w5 (w.heap.size + 1 + 1) 64 hiZ by rw [← hw5]; exact hR4.far (by simp) _)
  have H5 := hide (show Below w.heap.size w w5 by rw [← hw5]; exact (chain H3.out h4).setCell (by simp) _)
  have H35 := hide (show ∀ b, b < w3.heap.size → b ≠ w.heap.size + 1 → w5.heap[b]? = w3.heap[b]? from fun b h1 h2 => by rw [← hw5]; exact (heap_setCell_other w4 ⟨w.heap.size + 1, 7, none⟩ b _ h2).trans (h4.block b h1))
  have HCV5 := hide (show OwnS w5 w3.heap.size 41 5 cA c.l.length cc (c.l.map encCv) by rw [← hw5]; exact ho.far (fun k hk => by have := (ho.lt k hk).1; have := HC3.out.lt; simp; omega) _)
  have hz5 : w3.heap.size ≤ w5.heap.size := by rw [← hw5]; simpa using h4.size
  have HW5 := hide hw5
  clear hH4 hC4 hR4 ho h4 hw5 y0 HCL
  go_upto_region 12 with fail
  rw [show w4.setCell ⟨w.heap.size + 1, 7, none⟩ (.slice cA c.l.length cc) = w5 from HW5.out]
  have hh5 := HH5.out
  have HOW := hide (ownT_any h.tm w5 (HV0.out.below H5.out).tm hm.1)
  obtain ⟨x0, x1, x2, x3, x4, x5, x6, x7, x8, x9⟩ := hi_cells HH5.out
  clear hh5 x0 x1 x9
  go_wp2_with fail
  refine HOW.out.mono ?_
  rintro e w6 ⟨tA, tc, rfl, hs6, hlo, h6⟩
  obtain ⟨w7, hw7⟩ : ∃ W, (((((((w6.setCell ⟨w.heap.size, 2, none⟩ (.int .i64 h.tm.f)).setCell ⟨w.heap.size, 3, none⟩ (.int .i64 h.tm.t)).setCell ⟨w.heap.size, 4, none⟩ (.int .i64 h.tm.k)).setCell ⟨w.heap.size, 5, none⟩ (.int .i64 h.tm.v)).setCell ⟨w.heap.size, 6, none⟩ (.int .i64 h.tm.a)).setCell ⟨w.heap.size, 7, none⟩ (.int .i64 h.tm.z)).setCell ⟨w.heap.size, 8, none⟩ (.slice tA h.tm.l.length tc)) = W := ⟨_, rfl⟩
  have hH6 := HH5.out.below h6 HH5.out.lt
  have hC6 := HC5.out.below h6 HC5.out.lt
  have hR6 := HR5.out.below h6 HR5.out.lt
  have HH7 := hide (show Blk w7 w.heap.size 64 (hiA h tA tc) by rw [← hw7]; simpa [hiC, hiA, HCS.out, HA0.out, HP0.out] using (((((((hH6.set_ 2 (.int .i64 h.tm.f)).set_ 3 (.int .i64 h.tm.t)).set_ 4 (.int .i64 h.tm.k)).set_ 5 (.int .i64 h.tm.v)).set_ 6 (.int .i64 h.tm.a)).set_ 7 (.int .i64 h.tm.z)).set_ 8 (.slice tA h.tm.l.length tc)))
  have HC7 := hide (show Blk w7 (w.heap.size + 1) 77 (chA c cA cc) by rw [← hw7]; exact (((((((hC6.far (p := ⟨w.heap.size, 2, none⟩) (by simp <;> omega) _).far (p := ⟨w.heap.size, 3, none⟩) (by simp <;> omega) _).far (p := ⟨w.heap.size, 4, none⟩) (by simp <;> omega) _).far (p := ⟨w.heap.size, 5, none⟩) (by simp <;> omega) _).far (p := ⟨w.heap.size, 6, none⟩) (by simp <;> omega) _).far (p := ⟨w.heap.size, 7, none⟩) (by simp <;> omega) _).far (p := ⟨w.heap.size, 8, none⟩) (by simp <;> omega) _))
  have HR7 := hide (show Blk w7 (w.heap.size + 1 + 1) 64 hiZ by rw [← hw7]; exact (((((((hR6.far (p := ⟨w.heap.size, 2, none⟩) (by simp <;> omega) _).far (p := ⟨w.heap.size, 3, none⟩) (by simp <;> omega) _).far (p := ⟨w.heap.size, 4, none⟩) (by simp <;> omega) _).far (p := ⟨w.heap.size, 5, none⟩) (by simp <;> omega) _).far (p := ⟨w.heap.size, 6, none⟩) (by simp <;> omega) _).far (p := ⟨w.heap.size, 7, none⟩) (by simp <;> omega) _).far (p := ⟨w.heap.size, 8, none⟩) (by simp <;> omega) _))
  have H7 := hide (show Below w.heap.size w w7 by rw [← hw7]; exact ((((((((chain H5.out h6).setCell (p := ⟨w.heap.size, 2, none⟩) (by simp <;> omega) _).setCell (p := ⟨w.heap.size, 3, none⟩) (by simp <;> omega) _).setCell (p := ⟨w.heap.size, 4, none⟩) (by simp <;> omega) _).setCell (p := ⟨w.heap.size, 5, none⟩) (by simp <;> omega) _).setCell (p := ⟨w.heap.size, 6, none⟩) (by simp <;> omega) _).setCell (p := ⟨w.heap.size, 7, none⟩) (by simp <;> omega) _).setCell (p := ⟨w.heap.size, 8, none⟩) (by simp <;> omega) _))
  have HTM7 := hide (show SV w7 5 tA h.tm.l.length tc (h.tm.l.map encCv) by rw [← hw7]; exact (((((((hs6.far (p := ⟨w.heap.size, 2, none⟩) (fun k hk => by have := hlo k hk; have := HH5.out.lt; simp; omega) _).far (p := ⟨w.heap.size, 3, none⟩) (fun k hk => by have := hlo k hk; have := HH5.out.lt; simp; omega) _).far (p := ⟨w.heap.size, 4, none⟩) (fun k hk => by have := hlo k hk; have := HH5.out.lt; simp; omega) _).far (p := ⟨w.heap.size, 5, none⟩) (fun k hk => by have := hlo k hk; have := HH5.out.lt; simp; omega) _).far (p := ⟨w.heap.size, 6, none⟩) (fun k hk => by have := hlo k hk; have := HH5.out.lt; simp; omega) _).far (p := ⟨w.heap.size, 7, none⟩) (fun k hk => by have := hlo k hk; have := HH5.out.lt; simp; omega) _).far (p := ⟨w.heap.size, 8, none⟩) (fun k hk => by have := hlo k hk; have := HH5.out.lt; simp; omega) _))
  have HCV7 := hide (show OwnS w7 w3.heap.size 41 5 cA c.l.length cc (c.l.map encCv) by rw [← hw7]; exact ((((((((HCV5.out.below h6).far (p := ⟨w.heap.size, 2, none⟩) (fun k hk => by have := (HCV5.out.lt k hk).1; have := HC3.out.lt; simp; omega) _).far (p := ⟨w.heap.size, 3, none⟩) (fun k hk => by have := (HCV5.out.lt k hk).1; have := HC3.out.lt; simp; omega) _).far (p := ⟨w.heap.size, 4, none⟩) (fun k hk => by have := (HCV5.out.lt k hk).1; have := HC3.out.lt; simp; omega) _).far (p := ⟨w.heap.size, 5, none⟩) (fun k hk => by have := (HCV5.out.lt k hk).1; have := HC3.out.lt; simp; omega) _).far (p := ⟨w.heap.size, 6, none⟩) (fun k hk => by have := (HCV5.out.lt k hk).1; have := HC3.out.lt; simp; omega) _).far (p := ⟨w.heap.size, 7, none⟩) (fun k hk => by have := (HCV5.out.lt k hk).1; have := HC3.out.lt; simp; omega) _).far (p := ⟨w.heap.size, 8, none⟩) (fun k hk => by have := (HCV5.out.lt k hk).1; have := HC3.out.lt; simp; omega) _))
  have HLO := hide hlo
  have hz7 : w5.heap.size ≤ w7.heap.size := by rw [← hw7]; simpa using h6.size
  have HW7 := hide hw7
  obtain ⟨x0, x1, x2, x3, x4, x5, x6, x7, x8, x9⟩ := hi_cells hH6
  have f2 := hH6.frozen 2
  have f3 := hH6.frozen 3
  have f4 := hH6.frozen 4
  have f5 := hH6.frozen 5
  have f6 := hH6.frozen 6
  have f7 := hH6.frozen 7
  have f8 := hH6.frozen 8
  clear hH6 hC6 hR6 hs6 hlo h6 hw7 x0 x1 x9 HOW
  go_upto_region 13 with fail
  rw [show (((((((w6.setCell ⟨w.heap.size, 2, none⟩ (.int .i64 h.tm.f)).setCell ⟨w.heap.size, 3, none⟩ (.int .i64 h.tm.t)).setCell ⟨w.heap.size, 4, none⟩ (.int .i64 h.tm.k)).setCell ⟨w.heap.size, 5, none⟩ (.int .i64 h.tm.v)).setCell ⟨w.heap.size, 6, none⟩ (.int .i64 h.tm.a)).setCell ⟨w.heap.size, 7, none⟩ (.int .i64 h.tm.z)).setCell ⟨w.heap.size, 8, none⟩ (.slice tA h.tm.l.length tc)) = w7 from HW7.out]
  clear x2 x3 x4 x5 x6 x7 x8
  have hS0 : (fun W => W.cell? ⟨w.heap.size, 9, none⟩ = some (.slice none 0 0) ∧ (W.cell? ⟨w.heap.size + 1, 0, none⟩ = some (.int .i64 c.b) ∧ W.cell? ⟨w.heap.size + 1, 1, none⟩ = some (.int .i64 c.d) ∧ W.cell? ⟨w.heap.size + 1, 2, none⟩ = some (.int .i64 c.k) ∧ W.cell? ⟨w.heap.size + 1, 3, none⟩ = some (.int .i64 c.rk) ∧ W.cell? ⟨w.heap.size + 1, 4, none⟩ = some (.int .i64 c.rv) ∧ W.cell? ⟨w.heap.size + 1, 5, none⟩ = some (.int .i64 c.ra) ∧ W.cell? ⟨w.heap.size + 1, 6, none⟩ = some (.int .i64 c.rz) ∧ W.cell? ⟨w.heap.size + 1, 7, none⟩ = some (.slice cA c.l.length cc) ∧ W.cell? ⟨w.heap.size + 1, 8, none⟩ = some (.int .i64 c.way))) w7.drew := ⟨HH7.out.drew.cell 9, chA_cells HC7.out.drew⟩
  simp only at hS0
  have hR0 : (0 : Int) ≤ 0 := by decide
  refine wp_region_T (fun W => W.cell? ⟨w.heap.size, 9, none⟩ = some (.slice none 0 0) ∧ (W.cell? ⟨w.heap.size + 1, 0, none⟩ = some (.int .i64 c.b) ∧ W.cell? ⟨w.heap.size + 1, 1, none⟩ = some (.int .i64 c.d) ∧ W.cell? ⟨w.heap.size + 1, 2, none⟩ = some (.int .i64 c.k) ∧ W.cell? ⟨w.heap.size + 1, 3, none⟩ = some (.int .i64 c.rk) ∧ W.cell? ⟨w.heap.size + 1, 4, none⟩ = some (.int .i64 c.rv) ∧ W.cell? ⟨w.heap.size + 1, 5, none⟩ = some (.int .i64 c.ra) ∧ W.cell? ⟨w.heap.size + 1, 6, none⟩ = some (.int .i64 c.rz) ∧ W.cell? ⟨w.heap.size + 1, 7, none⟩ = some (.slice cA c.l.length cc) ∧ W.cell? ⟨w.heap.size + 1, 8, none⟩ = some (.int .i64 c.way))) [0, 2, 3, 8, 9] rfl (by kernel_rfl) ?_
  refine wpAnyT_take0 (i := 0) (v := ?_) rfl (by kernel_rfl) (by kernel_rfl) (by kernel_rfl) (by kernel_rfl) (fun _ _ _ h => h) (Or.inl ⟨by rfl, ?_⟩) ?_
  rotate_left
  · intro W hSW
    go_simp
    try with_reducible rfl
  simp only [Act.put, List.setIfInBounds_toArray, List.set_cons_zero, List.set_cons_succ]
  refine wpAnyT_take0 (i := 2) (v := ?_) rfl (by kernel_rfl) (by kernel_rfl) (by kernel_rfl) (by kernel_rfl) (fun _ _ _ h => h) (Or.inl ⟨by rfl, ?_⟩) ?_
  rotate_left
  · intro W hSW
    go_simp
    try with_reducible rfl
  simp only [Act.put, List.setIfInBounds_toArray, List.set_cons_zero, List.set_cons_succ]
  refine wpAnyT_take0 (i := 3) (v := ?_) rfl (by kernel_rfl) (by kernel_rfl) (by kernel_rfl) (by kernel_rfl) (fun _ _ _ h => h) (Or.inl ⟨by rfl, ?_⟩) ?_
  rotate_left
  · intro W hSW
    go_simp
    try with_reducible rfl
  simp only [Act.put, List.setIfInBounds_toArray, List.set_cons_zero, List.set_cons_succ]
  refine wpAnyT_take (i := 1) (v := ?_) rfl (by kernel_rfl) (by kernel_rfl) (by kernel_rfl) (by kernel_rfl) (fun _ _ _ h => h) (Or.inl ⟨by rfl, ?_⟩) hS0 ?_
  rotate_left
  · intro W hSW
    obtain ⟨hs0, hs1⟩ := hSW
    go_simp
    try with_reducible rfl
  simp only [Act.put, List.setIfInBounds_toArray, List.set_cons_zero, List.set_cons_succ]
  refine wpAnyT_take (i := 5) (v := ?_) rfl (by kernel_rfl) (by kernel_rfl) (by kernel_rfl) (by kernel_rfl) (fun _ _ _ h => h) (Or.inl ⟨by rfl, ?_⟩) hS0 ?_
  rotate_left
  · intro W hSW
    obtain ⟨hs0, hs1⟩ := hSW
    go_simp
    try with_reducible rfl
  simp only [Act.put, List.setIfInBounds_toArray, List.set_cons_zero, List.set_cons_succ]
  refine wpAnyT_take (i := 4) (v := ?_) rfl (by kernel_rfl) (by kernel_rfl) (by kernel_rfl) (by kernel_rfl) (fun _ _ _ h => h) (Or.inl ⟨by rfl, ?_⟩) hS0 ?_
  rotate_left
  · intro W hSW
    obtain ⟨hs0, hs1⟩ := hSW
    go_simp
    try with_reducible rfl
  simp only [Act.put, List.setIfInBounds_toArray, List.set_cons_zero, List.set_cons_succ]
  refine wpAnyT_ready (rs := [6]) (by kernel_rfl) (by simp) ?_
  refine AllReadyT.cons rfl (fun K hK => ?_) ?_
  · go_simp
    refine hK.out _ _ (fun _ => ⟨(HH7.out.drew.alloc _).cell 9, chA_cells (HC7.out.drew.alloc _)⟩) ?_
    try simp only [Act.put, List.setIfInBounds_toArray, List.set_cons_zero, List.set_cons_succ]
    clear hK K
    refine wpAnyT_ready (rs := [7]) (by kernel_rfl) (by simp) ?_
    refine AllReadyT.cons rfl (fun K hK => ?_) ?_
    · refine step_app rfl (.tmp 58) (.tmp 60) 62 rfl elCh (B := w7.heap.size) (A := none) (rows := []) (A2 := some ⟨_, 0, none⟩) (news := [{ c with A := cA, cap := cc }].map encCh) rfl (OwnS.nil_ _ _ _ _) rfl rfl ?_ (okChs [{ c with A := cA, cap := cc }]) ?_ ?_ ?_ ?_
      · exact sl_of_blk (cs := chA c cA cc) (Blk.new _ _ _)
      · (simp only [maxLen]; omega)
      · omega
      · (first | omega | (simp; try omega))
      intro A8 c8 w8 ho8 hg8 ha8
      have hbe8 := (((Below.refl w7.heap.size w7).drew.alloc (by simp) (.cells (chA c cA cc) 77))).grown hg8 (by simp) (fun kk hk => by simp [blk] at hk)
      have HH8 := hide (HH7.out.below hbe8 HH7.out.lt)
      have HC8 := hide (HC7.out.below hbe8 HC7.out.lt)
      have HR8 := hide (HR7.out.below hbe8 HR7.out.lt)
      have H8 := hide (chain H7.out hbe8)
      have HTM8 := hide (HTM7.out.below hbe8)
      have HCV8 := hide (HCV7.out.below hbe8)
      have HO8 := hide ho8
      have lH8 := HH8.out.lt
      have lR8 := HR8.out.lt
      have f9 := HH8.out.frozen 9
      have lR1 := HR.out.lt
      have lR3 := HR3.out.lt
      have lR5 := HR5.out.lt
      have lR7 := HR7.out.lt
      clear ho8 hg8 ha8 hbe8 hS0
      refine hK.out _ _ (fun _ => ⟨HH8.out.cell 9, chA_cells HC8.out⟩) ?_
      try simp only [Act.put, List.setIfInBounds_toArray, List.set_cons_zero, List.set_cons_succ]
      clear hK K
      refine wpAnyT_take0 (i := 8) (v := ?_) rfl (by kernel_rfl) (by kernel_rfl) (by kernel_rfl) (by kernel_rfl) (fun _ _ _ h => h) (Or.inl ⟨by rfl, ?_⟩) ?_
      rotate_left
      · intro W hSW
        go_simp
        try with_reducible rfl
      simp only [Act.put, List.setIfInBounds_toArray, List.set_cons_zero, List.set_cons_succ]
      refine wpAnyT_ready (rs := [9]) (by kernel_rfl) (by simp) ?_
      refine AllReadyT.cons rfl (fun K hK => ?_) ?_
      · have x9 : w8.cell? ⟨w.heap.size, 9, none⟩ = some (.slice none 0 0) := HH8.out.cell 9
        go_simp
        refine hK.out _ _ (fun h => by cases h) ?_
        try simp only [Act.put, List.setIfInBounds_toArray, List.set_cons_zero, List.set_cons_succ]
        clear hK K x9
        refine wpAnyT_done (by kernel_rfl) ?_ _
        have x0 : w8.cell? ⟨w.heap.size, 0, none⟩ = some (.int .i64 h.id) := HH8.out.cell 0
        have x1 : w8.cell? ⟨w.heap.size, 1, none⟩ = some (.int .i64 h.bk) := HH8.out.cell 1
        have x2 : w8.cell? ⟨w.heap.size, 2, none⟩ = some (.int .i64 h.tm.f) := HH8.out.cell 2
        have x3 : w8.cell? ⟨w.heap.size, 3, none⟩ = some (.int .i64 h.tm.t) := HH8.out.cell 3
        have x4 : w8.cell? ⟨w.heap.size, 4, none⟩ = some (.int .i64 h.tm.k) := HH8.out.cell 4
        have x5 : w8.cell? ⟨w.heap.size, 5, none⟩ = some (.int .i64 h.tm.v) := HH8.out.cell 5
        have x6 : w8.cell? ⟨w.heap.size, 6, none⟩ = some (.int .i64 h.tm.a) := HH8.out.cell 6
        have x7 : w8.cell? ⟨w.heap.size, 7, none⟩ = some (.int .i64 h.tm.z) := HH8.out.cell 7
        have x8 : w8.cell? ⟨w.heap.size, 8, none⟩ = some (.slice tA h.tm.l.length tc) := HH8.out.cell 8
        have x9 : w8.cell? ⟨w.heap.size, 9, none⟩ = some (.slice none 0 0) := HH8.out.cell 9
        have r0 : w8.cell? ⟨w.heap.size + 1 + 1, 0, none⟩ = some (.int .i64 0) := HR8.out.cell 0
        have g0 := HR8.out.frozen 0
        have r1 : w8.cell? ⟨w.heap.size + 1 + 1, 1, none⟩ = some (.int .i64 0) := HR8.out.cell 1
        have g1 := HR8.out.frozen 1
        have r2 : w8.cell? ⟨w.heap.size + 1 + 1, 2, none⟩ = some (.int .i64 0) := HR8.out.cell 2
        have g2 := HR8.out.frozen 2
        have r3 : w8.cell? ⟨w.heap.size + 1 + 1, 3, none⟩ = some (.int .i64 0) := HR8.out.cell 3
        have g3 := HR8.out.frozen 3
        have r4 : w8.cell? ⟨w.heap.size + 1 + 1, 4, none⟩ = some (.int .i64 0) := HR8.out.cell 4
        have g4 := HR8.out.frozen 4
        have r5 : w8.cell? ⟨w.heap.size + 1 + 1, 5, none⟩ = some (.int .i64 0) := HR8.out.cell 5
        have g5 := HR8.out.frozen 5
        have r6 : w8.cell? ⟨w.heap.size + 1 + 1, 6, none⟩ = some (.int .i64 0) := HR8.out.cell 6
        have g6 := HR8.out.frozen 6
        have r7 : w8.cell? ⟨w.heap.size + 1 + 1, 7, none⟩ = some (.int .i64 0) := HR8.out.cell 7
        have g7 := HR8.out.frozen 7
        have r8 : w8.cell? ⟨w.heap.size + 1 + 1, 8, none⟩ = some (.slice none 0 0) := HR8.out.cell 8
        have g8 := HR8.out.frozen 8
        have r9 : w8.cell? ⟨w.heap.size + 1 + 1, 9, none⟩ = some (.slice none 0 0) := HR8.out.cell 9
        have g9 := HR8.out.frozen 9
        go_wp2_with fail
        clear x0 x1 x2 x3 x4 x5 x6 x7 x8 x9 r0 r1 r2 r3 r4 r5 r6 r7 r8 r9
        refine ret_row2 rfl rfl rfl rfl (hi_fill (show Blk _ (w.heap.size + 1 + 1) 64 #[.int .i64 0, .int .i64 0, .int .i64 0, .int .i64 0, .int .i64 0, .int .i64 0, .int .i64 0, .int .i64 0, .slice none 0 0, .slice none 0 0] from (HR8.out.far (p := ⟨w.heap.size, 9, none⟩) (by simp <;> omega) _))) Tryz.underlying64 rfl (by kernel_rfl) ⟨tA, cA, A8, tc, cc, c8, _, rfl, rfl, ⟨?_, HV0.out.ot, ?_, fun y hy => ?_, fun y hy => ?_⟩, (((((((((((H8.out.setCell (p := ⟨w.heap.size, 9, none⟩) (by simp <;> omega) _).setCell (p := ⟨w.heap.size + 1 + 1, 0, none⟩) (by simp <;> omega) _).setCell (p := ⟨w.heap.size + 1 + 1, 1, none⟩) (by simp <;> omega) _).setCell (p := ⟨w.heap.size + 1 + 1, 2, none⟩) (by simp <;> omega) _).setCell (p := ⟨w.heap.size + 1 + 1, 3, none⟩) (by simp <;> omega) _).setCell (p := ⟨w.heap.size + 1 + 1, 4, none⟩) (by simp <;> omega) _).setCell (p := ⟨w.heap.size + 1 + 1, 5, none⟩) (by simp <;> omega) _).setCell (p := ⟨w.heap.size + 1 + 1, 6, none⟩) (by simp <;> omega) _).setCell (p := ⟨w.heap.size + 1 + 1, 7, none⟩) (by simp <;> omega) _).setCell (p := ⟨w.heap.size + 1 + 1, 8, none⟩) (by simp <;> omega) _).setCell (p := ⟨w.heap.size + 1 + 1, 9, none⟩) (by simp <;> omega) _)⟩
        · exact (((((((((((HTM8.out.far (p := ⟨w.heap.size, 9, none⟩) (fun k hk => by have := HLO.out k hk; simp; omega) _).far (p := ⟨w.heap.size + 1 + 1, 0, none⟩) (fun k hk => by have := HLO.out k hk; simp; omega) _).far (p := ⟨w.heap.size + 1 + 1, 1, none⟩) (fun k hk => by have := HLO.out k hk; simp; omega) _).far (p := ⟨w.heap.size + 1 + 1, 2, none⟩) (fun k hk => by have := HLO.out k hk; simp; omega) _).far (p := ⟨w.heap.size + 1 + 1, 3, none⟩) (fun k hk => by have := HLO.out k hk; simp; omega) _).far (p := ⟨w.heap.size + 1 + 1, 4, none⟩) (fun k hk => by have := HLO.out k hk; simp; omega) _).far (p := ⟨w.heap.size + 1 + 1, 5, none⟩) (fun k hk => by have := HLO.out k hk; simp; omega) _).far (p := ⟨w.heap.size + 1 + 1, 6, none⟩) (fun k hk => by have := HLO.out k hk; simp; omega) _).far (p := ⟨w.heap.size + 1 + 1, 7, none⟩) (fun k hk => by have := HLO.out k hk; simp; omega) _).far (p := ⟨w.heap.size + 1 + 1, 8, none⟩) (fun k hk => by have := HLO.out k hk; simp; omega) _).far (p := ⟨w.heap.size + 1 + 1, 9, none⟩) (fun k hk => by have := HLO.out k hk; simp; omega) _)
        · have := HO8.out.sv
          rw [Nat.zero_add, List.nil_append] at this
          exact (((((((((((this.far (p := ⟨w.heap.size, 9, none⟩) (fun k hk => by have := (HO8.out.lt k hk).1; simp; omega) _).far (p := ⟨w.heap.size + 1 + 1, 0, none⟩) (fun k hk => by have := (HO8.out.lt k hk).1; simp; omega) _).far (p := ⟨w.heap.size + 1 + 1, 1, none⟩) (fun k hk => by have := (HO8.out.lt k hk).1; simp; omega) _).far (p := ⟨w.heap.size + 1 + 1, 2, none⟩) (fun k hk => by have := (HO8.out.lt k hk).1; simp; omega) _).far (p := ⟨w.heap.size + 1 + 1, 3, none⟩) (fun k hk => by have := (HO8.out.lt k hk).1; simp; omega) _).far (p := ⟨w.heap.size + 1 + 1, 4, none⟩) (fun k hk => by have := (HO8.out.lt k hk).1; simp; omega) _).far (p := ⟨w.heap.size + 1 + 1, 5, none⟩) (fun k hk => by have := (HO8.out.lt k hk).1; simp; omega) _).far (p := ⟨w.heap.size + 1 + 1, 6, none⟩) (fun k hk => by have := (HO8.out.lt k hk).1; simp; omega) _).far (p := ⟨w.heap.size + 1 + 1, 7, none⟩) (fun k hk => by have := (HO8.out.lt k hk).1; simp; omega) _).far (p := ⟨w.heap.size + 1 + 1, 8, none⟩) (fun k hk => by have := (HO8.out.lt k hk).1; simp; omega) _).far (p := ⟨w.heap.size + 1 + 1, 9, none⟩) (fun k hk => by have := (HO8.out.lt k hk).1; simp; omega) _)
        · rw [List.mem_singleton] at hy
          subst hy
          exact (((((((((((HCV8.out.sv.far (p := ⟨w.heap.size, 9, none⟩) (fun k hk => by have := (HCV8.out.lt k hk).1; simp; omega) _).far (p := ⟨w.heap.size + 1 + 1, 0, none⟩) (fun k hk => by have := (HCV8.out.lt k hk).1; simp; omega) _).far (p := ⟨w.heap.size + 1 + 1, 1, none⟩) (fun k hk => by have := (HCV8.out.lt k hk).1; simp; omega) _).far (p := ⟨w.heap.size + 1 + 1, 2, none⟩) (fun k hk => by have := (HCV8.out.lt k hk).1; simp; omega) _).far (p := ⟨w.heap.size + 1 + 1, 3, none⟩) (fun k hk => by have := (HCV8.out.lt k hk).1; simp; omega) _).far (p := ⟨w.heap.size + 1 + 1, 4, none⟩) (fun k hk => by have := (HCV8.out.lt k hk).1; simp; omega) _).far (p := ⟨w.heap.size + 1 + 1, 5, none⟩) (fun k hk => by have := (HCV8.out.lt k hk).1; simp; omega) _).far (p := ⟨w.heap.size + 1 + 1, 6, none⟩) (fun k hk => by have := (HCV8.out.lt k hk).1; simp; omega) _).far (p := ⟨w.heap.size + 1 + 1, 7, none⟩) (fun k hk => by have := (HCV8.out.lt k hk).1; simp; omega) _).far (p := ⟨w.heap.size + 1 + 1, 8, none⟩) (fun k hk => by have := (HCV8.out.lt k hk).1; simp; omega) _).far (p := ⟨w.heap.size + 1 + 1, 9, none⟩) (fun k hk => by have := (HCV8.out.lt k hk).1; simp; omega) _)
        · rw [List.mem_singleton] at hy
          subst hy
          exact HOC.out
      exact AllReadyT.nil
    exact AllReadyT.nil
  exact AllReadyT.nil
end Go.Proofs.YtmfohnchnbgbaaaGreatDoor
