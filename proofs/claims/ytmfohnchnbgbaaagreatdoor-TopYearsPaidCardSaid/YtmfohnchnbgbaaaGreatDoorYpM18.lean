/- Part 18 of the proof. -/
import Derived.RangeFuncNested
import Derived.RangeFuncBound
import Derived.RangeFuncCalls
import Derived.RangeFuncLeaves
import Derived.RangeFuncBox
import Derived.Shelf.Abstract
import Derived.OwnWalkIn
import Derived.TacticsInMore
import Derived.LoopNIn
import Derived.LoopIn
import Derived.Test.YtmfohnchnbgbaaaGreatDoorYpM13
import Derived.Test.YtmfohnchnbgbaaaGreatDoorYpM14
/- A version of its own. -/
namespace Go.Proofs.YtmfohnchnbgbaaaGreatDoor
open Go.RowKit

def zeroV : Array Value := #[.int .i64 0, .int .i64 0, .int .i64 0, .int .i64 0, .int .i64 0, .slice none 0 0, .slice none 0 0, .slice none 0 0, .int .i64 0]
/-- The blocks of a version are new. -/
def FreshV (B : Nat) (x : Vw) : Prop := ∀ kk, (blk x.aA = some kk ∨ blk x.zA = some kk ∨ blk x.pA = some kk) → B ≤ kk
def OwnP (w : World) (v : Ver) (e : Ending) (w' : World) : Prop :=
  ∃ x : Vw, e = .returned (.agg #[.int .i64 x.f, .int .i64 x.b0, .int .i64 x.b1, .int .i64 x.b2, .int .i64 x.b3, .slice x.aA x.age.length x.aC, .slice x.zA x.zone.length x.zC, .slice x.pA x.peril.length x.pC, .int .i64 x.mn]) ∧ x.v = v ∧ VOK w' x ∧ FreshV w.heap.size x ∧ Below w.heap.size w w'
section
variable {w0 w : World} {A : Option Addr} {n cap : Nat}
def CopyB (w0 w : World) (sz n : Nat) (rows : List (List Value)) (en : Ending) (w' : World) : Prop :=
  ∃ A' c', en = .returned (.slice A' n c') ∧ SV w' sz A' n c' rows ∧ (∀ kk, blk A' = some kk → w0.heap.size ≤ kk) ∧ Below w0.heap.size w0 w' ∧ Below w.heap.size w w'
theorem cloneI_b {l : List Int} (hs : SV w0 1 A n cap (l.map encI)) (hb : Below w0.heap.size w0 w) (hm : n ≤ 1000000) : Calls Tryz.prog 123 #[.slice A n cap] w (CopyB w0 w 1 n (l.map encI)) :=
  (cloneI_any A n cap l w (hs.below hb) hm).mono fun _ _ ⟨A', c', he, ho, h⟩ => ⟨A', c', he, ho.sv, fun kk hk => Nat.le_trans hb.size (ho.lt kk hk).1, chain hb h, h⟩
theorem cloneB_b {l : List Bd} (hs : SV w0 2 A n cap (l.map encBd)) (hb : Below w0.heap.size w0 w) (hm : n ≤ 1000000) : Calls Tryz.prog 122 #[.slice A n cap] w (CopyB w0 w 2 n (l.map encBd)) :=
  (cloneB_any A n cap l w (hs.below hb) hm).mono fun _ _ ⟨A', c', he, ho, h⟩ => ⟨A', c', he, ho.sv, fun kk hk => Nat.le_trans hb.size (ho.lt kk hk).1, chain hb h, h⟩
end
theorem blk_cells {w : World} {g : Nat} {x : Vw} (h : Blk w g 114 (boxV x)) : w.cell? ⟨g, 0, none⟩ = some (.int .i64 x.f) ∧ w.cell? ⟨g, 1, none⟩ = some (.int .i64 x.b0) ∧ w.cell? ⟨g, 2, none⟩ = some (.int .i64 x.b1) ∧ w.cell? ⟨g, 3, none⟩ = some (.int .i64 x.b2) ∧ w.cell? ⟨g, 4, none⟩ = some (.int .i64 x.b3) ∧
    w.cell? ⟨g, 5, none⟩ = some (.slice x.aA x.age.length x.aC) ∧ w.cell? ⟨g, 6, none⟩ = some (.slice x.zA x.zone.length x.zC) ∧ w.cell? ⟨g, 7, none⟩ = some (.slice x.pA x.peril.length x.pC) ∧ w.cell? ⟨g, 8, none⟩ = some (.int .i64 x.mn) :=
  ⟨h.cell 0, h.cell 1, h.cell 2, h.cell 3, h.cell 4, h.cell 5, h.cell 6, h.cell 7, h.cell 8⟩
theorem blk_frozen {w : World} {g : Nat} {cs : Array Value} (h : Blk w g 114 cs) : w.frozen? ⟨g, 0, none⟩ = false ∧ w.frozen? ⟨g, 1, none⟩ = false ∧ w.frozen? ⟨g, 2, none⟩ = false ∧ w.frozen? ⟨g, 3, none⟩ = false ∧ w.frozen? ⟨g, 4, none⟩ = false ∧ w.frozen? ⟨g, 5, none⟩ = false ∧ w.frozen? ⟨g, 6, none⟩ = false ∧ w.frozen? ⟨g, 7, none⟩ = false ∧ w.frozen? ⟨g, 8, none⟩ = false :=
  ⟨h.frozen 0, h.frozen 1, h.frozen 2, h.frozen 3, h.frozen 4, h.frozen 5, h.frozen 6, h.frozen 7, h.frozen 8⟩

set_option maxRecDepth 100000 in
set_option maxHeartbeats 8000000 in
theorem own_any (x : Vw) (w : World) (hs : VOK w x) (hm : x.age.length ≤ 1000000 ∧ x.zone.length ≤ 1000000 ∧ x.peril.length ≤ 1000000) :
    Calls Tryz.prog 71 #[.agg #[.int .i64 x.f, .int .i64 x.b0, .int .i64 x.b1, .int .i64 x.b2, .int .i64 x.b3, .slice x.aA x.age.length x.aC, .slice x.zA x.zone.length x.zC, .slice x.pA x.peril.length x.pC, .int .i64 x.mn]] w (OwnP w x.v) := by
  obtain ⟨m1, m2, m3⟩ := hm
  have HS := hide hs
  clear hs
  go_enter Tryz.func71, Tryz.ntmps71
  go_wp2_with fail
  obtain ⟨w1, hw1⟩ : ∃ W, (w.alloc (.cells #[.int .i64 x.f, .int .i64 x.b0, .int .i64 x.b1, .int .i64 x.b2, .int .i64 x.b3, .slice x.aA x.age.length x.aC, .slice x.zA x.zone.length x.zC, .slice x.pA x.peril.length x.pC, .int .i64 x.mn] 114)).alloc (.cells #[.int .i64 0, .int .i64 0, .int .i64 0, .int .i64 0, .int .i64 0, .slice none 0 0, .slice none 0 0, .slice none 0 0, .int .i64 0] 114) = W := ⟨_, rfl⟩
  have hX : Blk w1 w.heap.size 114 (boxV x) := by rw [← hw1]; exact (Blk.new _ _ _).alloc _
  have hZ : Blk w1 (w.heap.size + 1) 114 zeroV := by rw [← hw1]; exact Blk.new' (by simp)
  have h1 : Below w.heap.size w w1 := by rw [← hw1]; exact ((Below.refl _ _).alloc (Nat.le_refl _) _).alloc (by simp) _
  rw [hw1]
  clear hw1
  have HS1 := hide (HS.out.below h1)
  have c5 := hX.cell 5
  have c6 := hX.cell 6
  have c7 := hX.cell 7
  have f5 := hX.frozen 5
  have f6 := hX.frozen 6
  have f7 := hX.frozen 7
  simp [boxV] at c5 c6 c7
  have HX := hide hX
  have HZ := hide hZ
  have H1 := hide h1
  have hcur : Below w1.heap.size w1 w1 := Below.refl _ _
  clear hX hZ h1
  go_region_law (first
    | (go_simp
       go_at_call 122
       with_reducible refine (cloneB_b (l := x.age) (w0 := w1) ?_ ?_ m1).mono ?_
       · exact HS1.out.age
       · first | with_reducible exact hcur | exact hcur.drew
       rintro e w2 ⟨A1, c1, rfl, hs1, hf1, hcur, hbb⟩
       have hX := HX.out.below hcur HX.out.lt
       have c5 := hX.cell 5
       have c6 := hX.cell 6
       have c7 := hX.cell 7
       have f5 := hX.frozen 5
       have f6 := hX.frozen 6
       have f7 := hX.frozen 7
       simp [boxV] at c5 c6 c7
       first
         | have hb1 : Below w1.heap.size w1 w2 := hbb
         | have hb1 : Below w1.heap.size w1 w2 := bel_undrew hbb
       dsimp only)
    | (go_simp
       go_at_call 123
       with_reducible refine (cloneI_b (A := x.zA) (l := x.zone) (w0 := w1) ?_ ?_ m2).mono ?_
       · exact HS1.out.zone
       · first | with_reducible exact hcur | exact hcur.drew
       rintro e w3 ⟨A2, c2, rfl, hs2, hf2, hcur, hbb⟩
       have hX := HX.out.below hcur HX.out.lt
       have c5 := hX.cell 5
       have c6 := hX.cell 6
       have c7 := hX.cell 7
       have f5 := hX.frozen 5
       have f6 := hX.frozen 6
       have f7 := hX.frozen 7
       simp [boxV] at c5 c6 c7
       first
         | have hb2 : Below w2.heap.size w2 w3 := hbb
         | have hb2 : Below w2.heap.size w2 w3 := bel_undrew hbb
       dsimp only)
    | (go_simp
       go_at_call 123
       with_reducible refine (cloneI_b (A := x.pA) (l := x.peril) (w0 := w1) ?_ ?_ m3).mono ?_
       · exact HS1.out.peril
       · first | with_reducible exact hcur | exact hcur.drew
       rintro e w4 ⟨A3, c3, rfl, hs3, hf3, hcur, hbb⟩
       have hX := HX.out.below hcur HX.out.lt
       have c5 := hX.cell 5
       have c6 := hX.cell 6
       have c7 := hX.cell 7
       have f5 := hX.frozen 5
       have f6 := hX.frozen 6
       have f7 := hX.frozen 7
       simp [boxV] at c5 c6 c7
       first
         | have hb3 : Below w3.heap.size w3 w4 := hbb
         | have hb3 : Below w3.heap.size w3 w4 := bel_undrew hbb
       dsimp only))
  all_goals
    obtain ⟨y, hy⟩ : ∃ y : Vw, y = ⟨x.f, x.b0, x.b1, x.b2, x.b3, A1, x.age, c1, A2, x.zone, c2, A3, x.peril, c3, x.mn⟩ := ⟨_, rfl⟩
    obtain ⟨W, hW⟩ : ∃ W, (((w4.setCell ⟨w.heap.size, 5, none⟩ (.slice A1 x.age.length c1)).setCell ⟨w.heap.size, 6, none⟩ (.slice A2 x.zone.length c2)).setCell ⟨w.heap.size, 7, none⟩ (.slice A3 x.peril.length c3)) = W := ⟨_, rfl⟩
    have hx1 := HX.out.lt
    have hz1 := HZ.out.lt
    have hoth : ∀ b, b ≠ w.heap.size → W.heap[b]? = w4.heap[b]? := fun b hb => by
      rw [← hW, heap_setCell_other _ _ _ _ (show b ≠ (⟨w.heap.size, 7, none⟩ : Addr).block from hb), heap_setCell_other _ _ _ _ (show b ≠ (⟨w.heap.size, 6, none⟩ : Addr).block from hb), heap_setCell_other _ _ _ _ (show b ≠ (⟨w.heap.size, 5, none⟩ : Addr).block from hb)]
    have hWs : W.heap.size = w4.heap.size := by rw [← hW]; simp
    have hXW : Blk W w.heap.size 114 (boxV y) := by
      rw [← hW, hy]
      have := (((HX.out.below hcur HX.out.lt).set_ 5 (.slice A1 x.age.length c1)).set_ 6 (.slice A2 x.zone.length c2)).set_ 7 (.slice A3 x.peril.length c3)
      simpa [boxV] using this
    have hZW : Blk W (w.heap.size + 1) 114 zeroV := (hoth _ (by omega)).trans (HZ.out.below hcur HZ.out.lt)
    have hvok : VOK w4 y := by
      rw [hy]
      exact ⟨(hs1.below hb2).below hb3, hs2.below hb3, hs3⟩
    have hfr : ∀ kk, (blk y.aA = some kk ∨ blk y.zA = some kk ∨ blk y.pA = some kk) → w1.heap.size ≤ kk := by
      rw [hy]
      rintro kk (h | h | h)
      · exact hf1 kk h
      · exact hf2 kk h
      · exact hf3 kk h
    have hbW : Below w.heap.size w W := by
      rw [← hW]
      exact (((chain H1.out hcur).setCell (p := ⟨w.heap.size, 5, none⟩) (Nat.le_refl _) _).setCell (p := ⟨w.heap.size, 6, none⟩) (Nat.le_refl _) _).setCell (p := ⟨w.heap.size, 7, none⟩) (Nat.le_refl _) _
    have hvW : VOK W y := hvok.only (fun b hb => hoth b (by have := hfr b hb; omega)) (by omega)
    have hyv : y.v = x.v := by rw [hy]; rfl
    rw [hW]
    obtain ⟨d0, d1, d2, d3, d4, d5, d6, d7, d8⟩ := blk_cells hXW
    obtain ⟨z0, z1, z2, z3, z4, z5, z6, z7, z8⟩ := blk_frozen hZW
    have e0 := hZW.cell 0
    have e1 := hZW.cell 1
    have e2 := hZW.cell 2
    have e3 := hZW.cell 3
    have e4 := hZW.cell 4
    have e5 := hZW.cell 5
    have e6 := hZW.cell 6
    have e7 := hZW.cell 7
    have e8 := hZW.cell 8
    simp [zeroV] at e0 e1 e2 e3 e4 e5 e6 e7 e8
    have HXW := hide hXW
    have HZW := hide hZW
    have HVW := hide hvW
    have HFR := hide hfr
    have HBW := hide hbW
    have HYV := hide hyv
    clear hy hW hoth hXW hZW hvok hfr hbW hvW hyv hs1 hs2 hs3 hf1 hf2 hf3 hcur hbb hb1 hb2 hb3 c5 c6 c7 f5 f6 f7
    go_wp2_with fail
    refine ret_row rfl rfl rfl (g := w.heap.size + 1) (cs := boxV y) (t := 114) (setV_blk y HZW.out) Tryz.underlying114 rfl (by kernel_rfl) ?_
    exact ⟨y, rfl, HYV.out, HVW.out.only (fun b hb => setV_other _ _ _ (by have := HFR.out b hb; omega)) (by simp), fun kk hk => by have := HFR.out kk hk; omega, setV_below y HBW.out (by omega)⟩
end Go.Proofs.YtmfohnchnbgbaaaGreatDoor

/- The version of a day: the document's; few versions. -/
namespace Go.Proofs.YtmfohnchnbgbaaaGreatDoor
open Go.RowKit

/-- The version of a day. -/
def atL (l : List Ver) (d : Int) : Option Ver := (l.filter fun v => decide (v.f ≤ d)).getLast?
def AtP (w : World) (r : Option Ver) (e : Ending) (w' : World) : Prop :=
  Below w.heap.size w w' ∧ ((r = none ∧ e = .returned (.tuple #[.agg #[.int .i64 0, .int .i64 0, .int .i64 0, .int .i64 0, .int .i64 0, .slice none 0 0, .slice none 0 0, .slice none 0 0, .int .i64 0], .int .i64 7])) ∨ ∃ v, r = some v ∧ ∃ x : Vw, e = .returned (.tuple #[.agg #[.int .i64 x.f, .int .i64 x.b0, .int .i64 x.b1, .int .i64 x.b2, .int .i64 x.b3, .slice x.aA x.age.length x.aC, .slice x.zA x.zone.length x.zC, .slice x.pA x.peril.length x.pC, .int .i64 x.mn], .int .i64 0]) ∧ x.v = v ∧ VOK w' x)
def zeroW : Vw := ⟨0, 0, 0, 0, 0, none, [], 0, none, [], 0, none, [], 0, 0⟩
theorem atL_hit {l : List Ver} {k : Nat} {x : Ver} {d : Int} (hx : l[k]? = some x) (hd : x.f ≤ d) (hr : ∀ (j : Nat) (y : Ver), k < j → l[j]? = some y → d < y.f) : atL l d = some x := by
  have e : l = l.take k ++ (x :: l.drop (k + 1)) := by rw [← drop_of hx, List.take_append_drop]
  rw [atL, e, List.filter_append, List.filter_cons_of_pos (by simpa using hd)]
  have h0 : (l.drop (k + 1)).filter (fun v => decide (v.f ≤ d)) = [] := by
    rw [List.filter_eq_nil_iff]
    intro y hy
    obtain ⟨j, hj⟩ := List.mem_iff_getElem?.1 hy
    rw [List.getElem?_drop] at hj
    have := hr (k + 1 + j) y (by omega) hj
    simp; omega
  rw [h0]; simp
theorem atL_none {l : List Ver} {d : Int} (hr : ∀ (j : Nat) (y : Ver), l[j]? = some y → d < y.f) : atL l d = none := by
  rw [atL, List.getLast?_eq_none_iff, List.filter_eq_nil_iff]
  intro y hy
  obtain ⟨j, hj⟩ := List.mem_iff_getElem?.1 hy
  have := hr j y hj
  simp; omega

end Go.Proofs.YtmfohnchnbgbaaaGreatDoor

/- The version of a day: the program's: the iterator that goes backward. -/
namespace Go.Proofs.YtmfohnchnbgbaaaGreatDoor
open Go.RowKit Go.Shelf
attribute [local go_sem] Oper.semAt_some

def LenV (x : Vw) : Prop := x.age.length ≤ 1000000 ∧ x.zone.length ≤ 1000000 ∧ x.peril.length ≤ 1000000
/-- What comes, round by round: a place and a version. -/
abbrev It (w0 : World) := { p : Int × Vw // VOK w0 p.2 ∧ LenV p.2 }
def encIt (w0 : World) (p : It w0) : Array Value := #[.int .i64 p.1.1, .agg #[.int .i64 p.1.2.f, .int .i64 p.1.2.b0, .int .i64 p.1.2.b1, .int .i64 p.1.2.b2, .int .i64 p.1.2.b3, .slice p.1.2.aA p.1.2.age.length p.1.2.aC, .slice p.1.2.zA p.1.2.zone.length p.1.2.zC, .slice p.1.2.pA p.1.2.peril.length p.1.2.pC, .int .i64 p.1.2.mn]]
/-- The versions, the last one first. -/
def Backs (w0 : World) (M : List Vw) (zs : List (It w0)) : Prop := zs.length = M.length ∧ ∀ (j : Nat) (z : It w0), zs[j]? = some z → z.1.1 = ((M.length - 1 - j : Nat) : Int) ∧ M[M.length - 1 - j]? = some z.1.2
theorem backs_of {w0 : World} {M : List Vw} (h : ∀ x ∈ M, VOK w0 x ∧ LenV x) : ∃ zs : List (It w0), Backs w0 M zs := by
  obtain ⟨zs, h1, h2⟩ := list_of (α := It w0) (n := M.length) (p := fun j z => z.1.1 = ((M.length - 1 - j : Nat) : Int) ∧ M[M.length - 1 - j]? = some z.1.2) (fun j hj => by
    obtain ⟨x, hx⟩ := get_of (l := M) (k := M.length - 1 - j) (by omega)
    exact ⟨⟨(((M.length - 1 - j : Nat) : Int), x), h x (List.mem_of_getElem? hx)⟩, rfl, hx⟩)
  exact ⟨zs, h1, h2⟩

set_option maxRecDepth 100000 in
set_option maxHeartbeats 4000000 in
theorem back1_in (F : Fence) (n : Nat) (h37 : F.fn 121) (hro : F.round = none) (hn : 1 ≤ n) (w0 : World) (l Bs n0 cap : Nat) (A : Option Addr) (M : List Vw) (zs : List (It w0)) (hz : Backs w0 M zs) (J Jx : List (It w0) → World → Prop)
    (hTV : TV w0 A M.length cap M) (hn0 : w0.heap.size ≤ n0) (hBs0 : Bs < n0)
    (hY : ∀ pre x W, J pre W → pre.length < M.length → YieldAt F (n - 1) Tryz.prog l (encIt w0 x) W fun e W' =>
      (e = .returned (.bool true) ∧ J (pre ++ [x]) W' ∧ Below n0 W W') ∨ (e = .returned (.bool false) ∧ Jx (pre ++ [x]) W'))
    (W : World) (hBs : W.cell? ⟨Bs, 0, none⟩ = some (.slice A M.length cap)) (hW : Below w0.heap.size w0 W) (h0 : J [] W) :
    CallsIn F n Tryz.prog 121 #[.func (.yield l) #[] #[], .pointer (some ⟨Bs, 0, none⟩)] W fun e W' => (∃ v, e = .returned v) ∧
      ((∃ ys, ys = zs ∧ J ys W') ∨ (∃ pre, (∃ k, k ≤ M.length ∧ pre = zs.take k) ∧ Jx pre W')) := by
  have hmx := hTV.sv.le
  have hmy := hTV.sv.most
  unfold maxLen at hmy
  have HTV := hide hTV
  have HZ := hide hz
  have HW := hide hW
  clear hTV hz hW
  refine callsIn_of_wp Tryz.func121 rfl h37 ?_ hro
  simp only [Tryz.ntmps121, List.size_toArray, List.length_cons, List.length_nil, Nat.reduceAdd, Nat.reduceSub, Array.replicate_succ, Array.replicate_zero, List.push_toArray, List.append_toArray, List.nil_append, List.cons_append]
  gi_wp2
  gi_loopw [3] (fun i wr => ∃ k : Nat, k ≤ M.length ∧ i = .int .i64 ((k : Int) - 1) ∧ J (zs.take (M.length - k)) wr ∧ Below n0 W wr) (fun i _ => (intOf i + 1).toNat)
  case atStart => exact ⟨M.length, Nat.le_refl _, rfl, by rw [Nat.sub_self]; exact h0, Below.refl _ _⟩
  case round =>
    obtain ⟨k, hk, rfl, hJs, hnx⟩ := hrel
    have hBs' : (wr : World).cell? ⟨Bs, 0, none⟩ = some (.slice A M.length cap) := (hnx.cell (p := ⟨Bs, 0, none⟩) hBs0).trans hBs
    by_cases hlt : 1 ≤ k
    · obtain ⟨j, rfl⟩ : ∃ j, k = j + 1 := ⟨k - 1, by omega⟩
      obtain ⟨z, hzj⟩ := get_of (l := zs) (k := M.length - (j + 1)) (by rw [HZ.out.1]; omega)
      obtain ⟨z1, z2⟩ := HZ.out.2 _ z hzj
      have ej : M.length - 1 - (M.length - (j + 1)) = j := by omega
      rw [ej] at z1 z2
      obtain ⟨fn, tmps, assign, body, hy, hR⟩ := hY _ z wr hJs (by rw [List.length_take, HZ.out.1]; omega)
      dsimp only [encIt] at hy
      rw [z1] at hy
      have hbw : Below w0.heap.size w0 wr := HW.out.trans (hnx.mono hn0)
      obtain ⟨bb, off, rfl, hbl, c0, c1, c2, c3, c4, c5, c6, c7, c8⟩ := (HTV.out.below hbw).sv.sl.vw z2
      have hj : ((j + 1 : Nat) : Int) - 1 = (j : Int) := by omega
      have hk0 : (0 : Int) ≤ (j : Int) := by omega
      have hk1 : (j : Int) < (M.length : Int) := by omega
      have HT := hide (take_of hzj)
      rw [hj]
      clear hzj z1 z2 ej hbw
      gi_wp2
      refine hR.mono ?_
      rintro e W3 (⟨rfl, hJ3, hk3⟩ | ⟨rfl, hJx3⟩)
      · rw [← HT.out, show M.length - (j + 1) + 1 = M.length - j by omega] at hJ3
        have HJ3 := hide hJ3
        clear hJ3 c0 c1 c2 c3 c4 c5 c6 c7 c8 hy hR hJs
        gi_wp2
        go_roundw
        case rel => exact ⟨j, by omega, rfl, HJ3.out, hnx.trans hk3⟩
        case measure => simp [intOf] <;> omega
      · rw [← HT.out, show M.length - (j + 1) + 1 = M.length - j by omega] at hJx3
        have HJ3 := hide hJx3
        clear hJx3 c0 c1 c2 c3 c4 c5 c6 c7 c8 hy hR hJs
        gi_wp2
        refine bodyPost_ret (results_none rfl _ _ _) rfl ?_
        exact ⟨⟨_, rfl⟩, .inr ⟨_, ⟨M.length - j, by omega, rfl⟩, HJ3.out⟩⟩
    · obtain rfl : k = 0 := by omega
      rw [List.take_of_length_le (by rw [HZ.out.1]; omega)] at hJs
      have hneg : ¬ ((0 : Int) ≤ ((0 : Nat) : Int) - 1) := by omega
      gi_wp2
      go_end0
      exact ⟨⟨_, rfl⟩, .inl hJs⟩
set_option maxHeartbeats 1000000 in
theorem back_in (F : Fence) (n : Nat) (h26 : F.fn 70) (hro : F.round = none) (a : Option Addr) (len cap : Nat) (w : World) :
    CallsIn F n Tryz.prog 70 #[.slice a len cap] w fun e w' => e = .returned (.func (.func 121) #[] #[.pointer (some ⟨w.heap.size, 0, none⟩)]) ∧ w' = w.alloc (.cells #[.slice a len cap] 65) := by
  refine callsIn_of_wp Tryz.func70 rfl h26 ?_ hro
  simp only [Tryz.ntmps70, List.size_toArray, List.length_cons, List.length_nil, Nat.reduceAdd, Nat.reduceSub, Array.replicate_succ, Array.replicate_zero, List.push_toArray, List.append_toArray, List.nil_append, List.cons_append]
  gi_wp2
  go_ret
  exact ⟨rfl, rfl⟩
theorem back_stops (F : Fence) (n : Nat) (h37 : F.fn 121) (hro : F.round = none) (hn : 1 ≤ n) (w0 : World) (Bs n0 cap : Nat) (A : Option Addr) (M : List Vw) (zs : List (It w0)) (hz : Backs w0 M zs) (hTV : TV w0 A M.length cap M) (hn0 : w0.heap.size ≤ n0) (hBs0 : Bs < n0)
    (w : World) (hnw : n0 ≤ w.heap.size) (hBs : w.cell? ⟨Bs, 0, none⟩ = some (.slice A M.length cap)) (hw : Below w0.heap.size w0 w) :
    SeqStopsK F n Tryz.prog 121 #[.pointer (some ⟨Bs, 0, none⟩)] (encIt w0) (Below n0) (fun ys => ys = zs) (fun pre => ∃ k, k ≤ M.length ∧ pre = zs.take k) M.length w := fun l J Jx W hW _ _ hY h0 =>
  back1_in F n h37 hro hn w0 l Bs n0 cap A M zs hz J Jx hTV hn0 hBs0 hY W ((hW.cell (p := ⟨Bs, 0, none⟩) (by simp only; omega)).trans hBs) (chain hw hW) h0
end Go.Proofs.YtmfohnchnbgbaaaGreatDoor
