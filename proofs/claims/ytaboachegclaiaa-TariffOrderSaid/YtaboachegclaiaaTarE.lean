/- A version of its own. -/
import Derived.Test.YtaboachegclaiaaTarD
namespace Go.Proofs.Ytaboachegclaiaa
open Go.RowKit

def zeroV : Array Value := #[.int .i64 0, .int .i64 0, .int .i64 0, .int .i64 0, .int .i64 0, .slice none 0 0, .slice none 0 0, .slice none 0 0, .int .i64 0]
/-- The blocks of a version are new. -/
def FreshV (B : Nat) (x : Vw) : Prop := ∀ kk, (blk x.aA = some kk ∨ blk x.zA = some kk ∨ blk x.pA = some kk) → B ≤ kk
def OwnP (w : World) (v : Ver) (e : Ending) (w' : World) : Prop :=
  ∃ x : Vw, e = .returned (.agg #[.int .i64 x.f, .int .i64 x.b0, .int .i64 x.b1, .int .i64 x.b2, .int .i64 x.b3, .slice x.aA x.age.length x.aC, .slice x.zA x.zone.length x.zC, .slice x.pA x.peril.length x.pC, .int .i64 x.mn]) ∧ x.v = v ∧ VOK w' x ∧ FreshV w.heap.size x ∧ Below w.heap.size w w'
section
variable {w0 w : World} {A : Option Addr} {n cap : Nat}
def CopyB (w0 w : World) (sz n : Nat) (rows : List (List Value)) (en : Ending) (w' : World) : Prop :=
  ∃ A' c', en = .returned (.slice A' n c') ∧ SV w' sz A' n c' rows ∧ (∀ kk, blk A' = some kk → w0.heap.size ≤ kk) ∧ Below w0.heap.size w0 w' ∧ Below w.heap.size w w'
theorem cloneI_b {l : List Int} (hs : SV w0 1 A n cap (l.map encI)) (hb : Below w0.heap.size w0 w) (hm : n ≤ 1000000) : Calls Try.prog 39 #[.slice A n cap] w (CopyB w0 w 1 n (l.map encI)) :=
  (cloneI_any A n cap l w (hs.below hb) hm).mono fun _ _ ⟨A', c', he, ho, h⟩ => ⟨A', c', he, ho.sv, fun kk hk => Nat.le_trans hb.size (ho.lt kk hk).1, chain hb h, h⟩
theorem cloneB_b {l : List Bd} (hs : SV w0 2 A n cap (l.map encBd)) (hb : Below w0.heap.size w0 w) (hm : n ≤ 1000000) : Calls Try.prog 38 #[.slice A n cap] w (CopyB w0 w 2 n (l.map encBd)) :=
  (cloneB_any A n cap l w (hs.below hb) hm).mono fun _ _ ⟨A', c', he, ho, h⟩ => ⟨A', c', he, ho.sv, fun kk hk => Nat.le_trans hb.size (ho.lt kk hk).1, chain hb h, h⟩
end
theorem blk_cells {w : World} {g : Nat} {x : Vw} (h : Blk w g 26 (boxV x)) : w.cell? ⟨g, 0, none⟩ = some (.int .i64 x.f) ∧ w.cell? ⟨g, 1, none⟩ = some (.int .i64 x.b0) ∧ w.cell? ⟨g, 2, none⟩ = some (.int .i64 x.b1) ∧ w.cell? ⟨g, 3, none⟩ = some (.int .i64 x.b2) ∧ w.cell? ⟨g, 4, none⟩ = some (.int .i64 x.b3) ∧
    w.cell? ⟨g, 5, none⟩ = some (.slice x.aA x.age.length x.aC) ∧ w.cell? ⟨g, 6, none⟩ = some (.slice x.zA x.zone.length x.zC) ∧ w.cell? ⟨g, 7, none⟩ = some (.slice x.pA x.peril.length x.pC) ∧ w.cell? ⟨g, 8, none⟩ = some (.int .i64 x.mn) :=
  ⟨h.cell 0, h.cell 1, h.cell 2, h.cell 3, h.cell 4, h.cell 5, h.cell 6, h.cell 7, h.cell 8⟩
theorem blk_frozen {w : World} {g : Nat} {cs : Array Value} (h : Blk w g 26 cs) : w.frozen? ⟨g, 0, none⟩ = false ∧ w.frozen? ⟨g, 1, none⟩ = false ∧ w.frozen? ⟨g, 2, none⟩ = false ∧ w.frozen? ⟨g, 3, none⟩ = false ∧ w.frozen? ⟨g, 4, none⟩ = false ∧ w.frozen? ⟨g, 5, none⟩ = false ∧ w.frozen? ⟨g, 6, none⟩ = false ∧ w.frozen? ⟨g, 7, none⟩ = false ∧ w.frozen? ⟨g, 8, none⟩ = false :=
  ⟨h.frozen 0, h.frozen 1, h.frozen 2, h.frozen 3, h.frozen 4, h.frozen 5, h.frozen 6, h.frozen 7, h.frozen 8⟩

set_option maxRecDepth 100000 in
set_option maxHeartbeats 8000000 in
theorem own_any (x : Vw) (w : World) (hs : VOK w x) (hm : x.age.length ≤ 1000000 ∧ x.zone.length ≤ 1000000 ∧ x.peril.length ≤ 1000000) :
    Calls Try.prog 27 #[.agg #[.int .i64 x.f, .int .i64 x.b0, .int .i64 x.b1, .int .i64 x.b2, .int .i64 x.b3, .slice x.aA x.age.length x.aC, .slice x.zA x.zone.length x.zC, .slice x.pA x.peril.length x.pC, .int .i64 x.mn]] w (OwnP w x.v) := by
  obtain ⟨m1, m2, m3⟩ := hm
  have HS := hide hs
  clear hs
  go_enter Try.func27, Try.ntmps27
  go_wp2_with fail
  obtain ⟨w1, hw1⟩ : ∃ W, (w.alloc (.cells #[.int .i64 x.f, .int .i64 x.b0, .int .i64 x.b1, .int .i64 x.b2, .int .i64 x.b3, .slice x.aA x.age.length x.aC, .slice x.zA x.zone.length x.zC, .slice x.pA x.peril.length x.pC, .int .i64 x.mn] 26)).alloc (.cells #[.int .i64 0, .int .i64 0, .int .i64 0, .int .i64 0, .int .i64 0, .slice none 0 0, .slice none 0 0, .slice none 0 0, .int .i64 0] 26) = W := ⟨_, rfl⟩
  have hX : Blk w1 w.heap.size 26 (boxV x) := by rw [← hw1]; exact (Blk.new _ _ _).alloc _
  have hZ : Blk w1 (w.heap.size + 1) 26 zeroV := by rw [← hw1]; exact Blk.new' (by simp)
  have h1 : Below w.heap.size w w1 := by rw [← hw1]; exact ((Below.refl _ _).alloc (Nat.le_refl _) _).alloc (by simp) _
  rw [hw1]
  clear hw1
  have HS1 := hide (HS.out.below h1)
  have c5 := hX.cell 5
  have c6 := hX.cell 6
  have c7 := hX.cell 7
  have f5 := hX.frozen 5
  have f6 := hX.frozen 6
  have f7 := hX.frozen 7
  simp [boxV] at c5 c6 c7
  have HX := hide hX
  have HZ := hide hZ
  have H1 := hide h1
  have hcur : Below w1.heap.size w1 w1 := Below.refl _ _
  clear hX hZ h1
  go_region_law (first
    | (go_simp
       go_at_call 38
       with_reducible refine (cloneB_b (l := x.age) (w0 := w1) ?_ ?_ m1).mono ?_
       · exact HS1.out.age
       · first | with_reducible exact hcur | exact hcur.drew
       rintro e w2 ⟨A1, c1, rfl, hs1, hf1, hcur, hbb⟩
       have hX := HX.out.below hcur HX.out.lt
       have c5 := hX.cell 5
       have c6 := hX.cell 6
       have c7 := hX.cell 7
       have f5 := hX.frozen 5
       have f6 := hX.frozen 6
       have f7 := hX.frozen 7
       simp [boxV] at c5 c6 c7
       first
         | have hb1 : Below w1.heap.size w1 w2 := hbb
         | have hb1 : Below w1.heap.size w1 w2 := bel_undrew hbb
       dsimp only)
    | (go_simp
       go_at_call 39
       with_reducible refine (cloneI_b (A := x.zA) (l := x.zone) (w0 := w1) ?_ ?_ m2).mono ?_
       · exact HS1.out.zone
       · first | with_reducible exact hcur | exact hcur.drew
       rintro e w3 ⟨A2, c2, rfl, hs2, hf2, hcur, hbb⟩
       have hX := HX.out.below hcur HX.out.lt
       have c5 := hX.cell 5
       have c6 := hX.cell 6
       have c7 := hX.cell 7
       have f5 := hX.frozen 5
       have f6 := hX.frozen 6
       have f7 := hX.frozen 7
       simp [boxV] at c5 c6 c7
       first
         | have hb2 : Below w2.heap.size w2 w3 := hbb
         | have hb2 : Below w2.heap.size w2 w3 := bel_undrew hbb
       dsimp only)
    | (go_simp
       go_at_call 39
       with_reducible refine (cloneI_b (A := x.pA) (l := x.peril) (w0 := w1) ?_ ?_ m3).mono ?_
       · exact HS1.out.peril
       · first | with_reducible exact hcur | exact hcur.drew
       rintro e w4 ⟨A3, c3, rfl, hs3, hf3, hcur, hbb⟩
       have hX := HX.out.below hcur HX.out.lt
       have c5 := hX.cell 5
       have c6 := hX.cell 6
       have c7 := hX.cell 7
       have f5 := hX.frozen 5
       have f6 := hX.frozen 6
       have f7 := hX.frozen 7
       simp [boxV] at c5 c6 c7
       first
         | have hb3 : Below w3.heap.size w3 w4 := hbb
         | have hb3 : Below w3.heap.size w3 w4 := bel_undrew hbb
       dsimp only))
  all_goals
    obtain ⟨y, hy⟩ : ∃ y : Vw, y = ⟨x.f, x.b0, x.b1, x.b2, x.b3, A1, x.age, c1, A2, x.zone, c2, A3, x.peril, c3, x.mn⟩ := ⟨_, rfl⟩
    obtain ⟨W, hW⟩ : ∃ W, (((w4.setCell ⟨w.heap.size, 5, none⟩ (.slice A1 x.age.length c1)).setCell ⟨w.heap.size, 6, none⟩ (.slice A2 x.zone.length c2)).setCell ⟨w.heap.size, 7, none⟩ (.slice A3 x.peril.length c3)) = W := ⟨_, rfl⟩
    have hx1 := HX.out.lt
    have hz1 := HZ.out.lt
    have hoth : ∀ b, b ≠ w.heap.size → W.heap[b]? = w4.heap[b]? := fun b hb => by
      rw [← hW, heap_setCell_other _ _ _ _ (show b ≠ (⟨w.heap.size, 7, none⟩ : Addr).block from hb), heap_setCell_other _ _ _ _ (show b ≠ (⟨w.heap.size, 6, none⟩ : Addr).block from hb), heap_setCell_other _ _ _ _ (show b ≠ (⟨w.heap.size, 5, none⟩ : Addr).block from hb)]
    have hWs : W.heap.size = w4.heap.size := by rw [← hW]; simp
    have hXW : Blk W w.heap.size 26 (boxV y) := by
      rw [← hW, hy]
      have := (((HX.out.below hcur HX.out.lt).set_ 5 (.slice A1 x.age.length c1)).set_ 6 (.slice A2 x.zone.length c2)).set_ 7 (.slice A3 x.peril.length c3)
      simpa [boxV] using this
    have hZW : Blk W (w.heap.size + 1) 26 zeroV := (hoth _ (by omega)).trans (HZ.out.below hcur HZ.out.lt)
    have hvok : VOK w4 y := by
      rw [hy]
      exact ⟨(hs1.below hb2).below hb3, hs2.below hb3, hs3⟩
    have hfr : ∀ kk, (blk y.aA = some kk ∨ blk y.zA = some kk ∨ blk y.pA = some kk) → w1.heap.size ≤ kk := by
      rw [hy]
      rintro kk (h | h | h)
      · exact hf1 kk h
      · exact hf2 kk h
      · exact hf3 kk h
    have hbW : Below w.heap.size w W := by
      rw [← hW]
      exact (((chain H1.out hcur).setCell (p := ⟨w.heap.size, 5, none⟩) (Nat.le_refl _) _).setCell (p := ⟨w.heap.size, 6, none⟩) (Nat.le_refl _) _).setCell (p := ⟨w.heap.size, 7, none⟩) (Nat.le_refl _) _
    have hvW : VOK W y := hvok.only (fun b hb => hoth b (by have := hfr b hb; omega)) (by omega)
    have hyv : y.v = x.v := by rw [hy]; rfl
    rw [hW]
    obtain ⟨d0, d1, d2, d3, d4, d5, d6, d7, d8⟩ := blk_cells hXW
    obtain ⟨z0, z1, z2, z3, z4, z5, z6, z7, z8⟩ := blk_frozen hZW
    have e0 := hZW.cell 0
    have e1 := hZW.cell 1
    have e2 := hZW.cell 2
    have e3 := hZW.cell 3
    have e4 := hZW.cell 4
    have e5 := hZW.cell 5
    have e6 := hZW.cell 6
    have e7 := hZW.cell 7
    have e8 := hZW.cell 8
    simp [zeroV] at e0 e1 e2 e3 e4 e5 e6 e7 e8
    have HXW := hide hXW
    have HZW := hide hZW
    have HVW := hide hvW
    have HFR := hide hfr
    have HBW := hide hbW
    have HYV := hide hyv
    clear hy hW hoth hXW hZW hvok hfr hbW hvW hyv hs1 hs2 hs3 hf1 hf2 hf3 hcur hbb hb1 hb2 hb3 c5 c6 c7 f5 f6 f7
    go_wp2_with fail
    refine ret_row rfl rfl rfl (g := w.heap.size + 1) (cs := boxV y) (t := 26) (setV_blk y HZW.out) Try.underlying26 rfl (by kernel_rfl) ?_
    exact ⟨y, rfl, HYV.out, HVW.out.only (fun b hb => setV_other _ _ _ (by have := HFR.out b hb; omega)) (by simp), fun kk hk => by have := HFR.out kk hk; omega, setV_below y HBW.out (by omega)⟩
end Go.Proofs.Ytaboachegclaiaa
