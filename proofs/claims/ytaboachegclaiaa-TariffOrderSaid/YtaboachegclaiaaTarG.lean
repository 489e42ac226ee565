/- The version of a day: the document's; few versions. -/
import Derived.Test.YtaboachegclaiaaTarF
namespace Go.Proofs.Ytaboachegclaiaa
open Go.RowKit

/-- The version of a day. -/
def atL (l : List Ver) (d : Int) : Option Ver := (l.filter fun v => decide (v.f ≤ d)).getLast?
def AtP (w : World) (r : Option Ver) (e : Ending) (w' : World) : Prop :=
  Below w.heap.size w w' ∧ ((r = none ∧ e = .returned (.tuple #[.agg #[.int .i64 0, .int .i64 0, .int .i64 0, .int .i64 0, .int .i64 0, .slice none 0 0, .slice none 0 0, .slice none 0 0, .int .i64 0], .int .i64 7])) ∨ ∃ v, r = some v ∧ ∃ x : Vw, e = .returned (.tuple #[.agg #[.int .i64 x.f, .int .i64 x.b0, .int .i64 x.b1, .int .i64 x.b2, .int .i64 x.b3, .slice x.aA x.age.length x.aC, .slice x.zA x.zone.length x.zC, .slice x.pA x.peril.length x.pC, .int .i64 x.mn], .int .i64 0]) ∧ x.v = v ∧ VOK w' x)
def zeroW : Vw := ⟨0, 0, 0, 0, 0, none, [], 0, none, [], 0, none, [], 0, 0⟩
theorem atL_hit {l : List Ver} {k : Nat} {x : Ver} {d : Int} (hx : l[k]? = some x) (hd : x.f ≤ d) (hr : ∀ (j : Nat) (y : Ver), k < j → l[j]? = some y → d < y.f) : atL l d = some x := by
  have e : l = l.take k ++ (x :: l.drop (k + 1)) := by rw [← drop_of hx, List.take_append_drop]
  rw [atL, e, List.filter_append, List.filter_cons_of_pos (by simpa using hd)]
  have h0 : (l.drop (k + 1)).filter (fun v => decide (v.f ≤ d)) = [] := by
    rw [List.filter_eq_nil_iff]
    intro y hy
    obtain ⟨j, hj⟩ := List.mem_iff_getElem?.1 hy
    rw [List.getElem?_drop] at hj
    have := hr (k + 1 + j) y (by omega) hj
    simp; omega
  rw [h0]; simp
theorem atL_none {l : List Ver} {d : Int} (hr : ∀ (j : Nat) (y : Ver), l[j]? = some y → d < y.f) : atL l d = none := by
  rw [atL, List.getLast?_eq_none_iff, List.filter_eq_nil_iff]
  intro y hy
  obtain ⟨j, hj⟩ := List.mem_iff_getElem?.1 hy
  have := hr j y hj
  simp; omega

set_option maxRecDepth 100000 in
set_option maxHeartbeats 4000000 in
theorem atR_any (A : Option Addr) (cap : Nat) (M : List Vw) (d : Int) (w : World) (hs : TV w A M.length cap M) :
    Calls Try.prog 15 #[.agg #[.slice A M.length cap], .int .i64 d] w (AtP w (atL (allV M) d)) := by
  have HS := hide hs
  have hmx := hs.sv.le
  have hmy := hs.sv.most
  unfold maxLen at hmy
  clear hs
  go_enter Try.func15, Try.ntmps15
  go_wp2_with fail
  obtain ⟨w1, hw1⟩ : ∃ W, ((w.alloc (.cells #[.slice A M.length cap] 29)).alloc (.cells #[.int .i64 0, .int .i64 0, .int .i64 0, .int .i64 0, .int .i64 0, .slice none 0 0, .slice none 0 0, .slice none 0 0, .int .i64 0] 26)) = W := ⟨_, rfl⟩
  have hT : Blk w1 w.heap.size 29 #[.slice A M.length cap] := by rw [← hw1]; exact (Blk.new _ _ _).alloc _
  have hZ : Blk w1 (w.heap.size + 1) 26 zeroV := by rw [← hw1]; exact Blk.new' (by simp)
  have h1 : Below w.heap.size w w1 := by rw [← hw1]; exact ((Below.refl _ _).alloc (Nat.le_refl _) _).alloc (by simp) _
  rw [hw1]
  clear hw1
  have t0 := hT.cell 0
  simp at t0
  have hzl := hZ.lt
  have HZ := hide hZ
  have H1 := hide h1
  have HS1 := hide (HS.out.below h1)
  clear hT hZ h1
  go_loop [6] (fun i => ∃ k : Nat, k ≤ M.length ∧ i = .int .i64 ((k : Int) - 1) ∧ ∀ (j : Nat) (y : Ver), k ≤ j → (allV M)[j]? = some y → d < y.f) (fun i => (intOf i + 1).toNat)
  case atStart => exact ⟨M.length, Nat.le_refl _, rfl, fun j y hj hy => by have := lt_of_get hy; rw [allV_len] at this; omega⟩
  case round =>
    obtain ⟨k, hk, rfl, hr⟩ := hrel
    have HR := hide hr
    clear hr
    obtain ⟨e0, e1, e2, e3, e4, e5, e6, e7, e8⟩ := blk_frozen HZ.out
    have g0 := HZ.out.cell 0
    have g1 := HZ.out.cell 1
    have g2 := HZ.out.cell 2
    have g3 := HZ.out.cell 3
    have g4 := HZ.out.cell 4
    have g5 := HZ.out.cell 5
    have g6 := HZ.out.cell 6
    have g7 := HZ.out.cell 7
    have g8 := HZ.out.cell 8
    simp [zeroV] at g0 g1 g2 g3 g4 g5 g6 g7 g8
    by_cases hlt : 1 ≤ k
    · obtain ⟨j, rfl⟩ : ∃ j, k = j + 1 := ⟨k - 1, by omega⟩
      obtain ⟨x, hx⟩ := get_of (l := M) (k := j) (by omega)
      obtain ⟨bb, off, rfl, hbl, c0, c1, c2, c3, c4, c5, c6, c7, c8⟩ := HS1.out.sv.sl.vw hx
      have hj : ((j + 1 : Nat) : Int) - 1 = (j : Int) := by omega
      have hk0 : (0 : Int) ≤ (j : Int) := by omega
      have hk1 : (j : Int) < (M.length : Int) := by omega
      have HX := hide hx
      have HVX := hide (HS1.out.rows x (List.mem_of_getElem? hx))
      rw [hj]
      clear hx
      by_cases hd : x.f ≤ d
      · have HA := hide (atL_hit (allV_get HX.out) hd (fun i y hi hy => HR.out i y (by omega) hy))
        go_wp2_with fail
        refine ret_row2 (cs := boxV x) (g := w.heap.size + 1) (x := .int .i64 0) rfl rfl rfl rfl (setV_blk x HZ.out) Try.underlying26 rfl (by kernel_rfl) ?_
        rw [HA.out]
        exact ⟨setV_below x H1.out (by omega), .inr ⟨x.v, rfl, x, rfl, rfl, (HS.out.rows x (List.mem_of_getElem? HX.out)).below (setV_below x H1.out (by omega))⟩⟩
      · have HN := hide (show ∀ (i : Nat) (y : Ver), j ≤ i → (allV M)[i]? = some y → d < y.f from fun i y hi hy => by
          rcases Nat.lt_or_ge j i with h | h
          · exact HR.out i y (by omega) hy
          · obtain rfl : i = j := by omega
            rw [allV_get HX.out] at hy; cases hy
            show d < x.f
            omega)
        go_wp2_with fail
        go_round
        case rel => exact ⟨j, by omega, rfl, HN.out⟩
        case measure => simp [intOf] <;> omega
    · obtain rfl : k = 0 := by omega
      have HA := hide (atL_none (fun j y hy => HR.out j y (by omega) hy))
      have hneg : ¬ ((0 : Int) ≤ ((0 : Nat) : Int) - 1) := by omega
      go_wp2_with fail
      rw [HA.out]
      exact ret_row2 (cs := zeroV) (g := w.heap.size + 1) (x := .int .i64 7) rfl rfl rfl rfl (setV_blk zeroW HZ.out) Try.underlying26 rfl (by kernel_rfl) ⟨setV_below zeroW H1.out (by omega), .inl ⟨rfl, rfl⟩⟩
end Go.Proofs.Ytaboachegclaiaa
