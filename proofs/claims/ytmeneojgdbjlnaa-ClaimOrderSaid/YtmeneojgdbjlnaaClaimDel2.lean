/- What was known on a day: DeleteFunc. -/
import Derived.Test.YtmeneojgdbjlnaaClaimDel
import Derived.Test.YtmeneojgdbjlnaaClaimM
import Derived.Deep.RegionWith
namespace Go.Proofs.Ytmeneojgdbjlnaa
open Go.RowKit

theorem ac_set {w : World} {B g n cap i : Nat} {R : List Ac} {x : Ac} (h : OwnS w B 25 3 (some ⟨g, 0, none⟩) n cap (R.map encAc)) (hi : i < n) :
    OwnS (((w.setCell ⟨g, i * 3, none⟩ (.int .i64 x.b)).setCell ⟨g, i * 3 + 1, none⟩ (.int .i64 x.k)).setCell ⟨g, i * 3 + 2, none⟩ (.int .i64 x.m)) B 25 3 (some ⟨g, 0, none⟩) n cap ((R.set i x).map encAc) := by
  have hl := h.len
  obtain ⟨y, hy⟩ := get_of (l := R) (k := i) (by simp at hl; omega)
  have hil : i < R.length := lt_of_get hy
  have h1 := h.set_ (i := i) (j := 0) (row := encAc y) (by simp [hy]) (by omega) (u := .int .i64 x.b) rfl
  have h2 := h1.set_ (i := i) (j := 1) (row := (encAc y).set 0 (.int .i64 x.b)) (by simp [hil]) (by omega) (u := .int .i64 x.k) rfl
  have h3 := h2.set_ (i := i) (j := 2) (row := ((encAc y).set 0 (.int .i64 x.b)).set 1 (.int .i64 x.k)) (by simp [hil]) (by omega) (u := .int .i64 x.m) rfl
  simp only [Nat.add_zero, List.set_set] at h3
  rw [List.map_set]
  exact h3

theorem atL_take {d : Int} {l : List Ac} {j : Nat} {x : Ac} (h : l[j]? = some x) : atL d (l.take (j + 1)) = atL d (l.take j) ++ (if x.b ≤ d then [x] else []) := by
  rw [take_of h]
  unfold atL
  rw [List.filter_append]
  by_cases hx : x.b ≤ d <;> simp [hx]
theorem atL_of_all {d : Int} {l : List Ac} (h : l.all (fun a => decide (a.b ≤ d)) = true) : atL d l = l := by
  unfold atL; rw [List.filter_eq_self]; simpa using h

/-- What DeleteFunc leaves. -/
def DelPost (w : World) (B : Nat) (d : Int) (l : List Ac) (e : Ending) (w' : World) : Prop :=
  ∃ A' c', e = .returned (.slice A' (atL d l).length c') ∧ OwnS w' B 25 3 A' (atL d l).length c' ((atL d l).map encAc) ∧ Below B w w'

/-- The loop's state: what is kept, up to i; what is to be looked at, from j on. -/
structure DelI (w : World) (B g cap : Nat) (d : Int) (q : Nat) (l R : List Ac) (i j : Nat) (wr : World) : Prop where
  own : OwnS wr B 25 3 (some ⟨g, 0, none⟩) l.length cap (R.map encAc)
  lt : i < j
  le : j ≤ l.length
  kept : R.take i = atL d (l.take j)
  rest : R.drop j = l.drop j
  day : wr.cell? ⟨q, 0, none⟩ = some (.int .i64 d)
  bel : Below B w wr
theorem DelI.len {w : World} {B g cap : Nat} {d : Int} {q : Nat} {l R : List Ac} {i j : Nat} {wr : World} (h : DelI w B g cap d q l R i j wr) : R.length = l.length := by have := h.own.len; simpa using this
theorem DelI.at {w : World} {B g cap : Nat} {d : Int} {q : Nat} {l R : List Ac} {i j : Nat} {wr : World} (h : DelI w B g cap d q l R i j wr) {x : Ac} (hx : l[j]? = some x) : R[j]? = some x := by
  have : (R.drop j)[0]? = (l.drop j)[0]? := by rw [h.rest]
  simpa [hx] using this
theorem DelI.ilen {w : World} {B g cap : Nat} {d : Int} {q : Nat} {l R : List Ac} {i j : Nat} {wr : World} (h : DelI w B g cap d q l R i j wr) : (atL d (l.take j)).length = i := by
  rw [← h.kept, List.length_take, h.len]; have := h.lt; have := h.le; omega
/-- A round that leaves an element out. -/
theorem DelI.skip {w : World} {B g cap : Nat} {d : Int} {q : Nat} {l R : List Ac} {i j : Nat} {wr wy : World} (h : DelI w B g cap d q l R i j wr) {x : Ac} (hx : l[j]? = some x) (hd : d < x.b) (hb : Below wr.heap.size wr wy) (hB : B ≤ wr.heap.size) : DelI w B g cap d q l R i (j + 1) wy := by
  refine ⟨h.own.below hb, by have := h.lt; omega, lt_of_get hx, ?_, ?_, Go.Proofs.Ytmeneojgdbjlnaa.kept hb h.day, h.bel.trans (hb.mono hB)⟩
  · rw [atL_take hx, if_neg (by omega), List.append_nil]; exact h.kept
  · have := congrArg (List.drop 1) h.rest
    simpa [List.drop_drop] using this
/-- A round that keeps one. -/
theorem DelI.keep {w : World} {B g cap : Nat} {d : Int} {q : Nat} {l R : List Ac} {i j : Nat} {wr wy : World} (h : DelI w B g cap d q l R i j wr) {x : Ac} (hx : l[j]? = some x) (hd : x.b ≤ d) (hb : Below wr.heap.size wr wy) (hB : B ≤ wr.heap.size) (hq : q ≠ g) (hg : B ≤ g) :
    DelI w B g cap d q l (R.set i x) (i + 1) (j + 1) (((wy.setCell ⟨g, i * 3, none⟩ (.int .i64 x.b)).setCell ⟨g, i * 3 + 1, none⟩ (.int .i64 x.k)).setCell ⟨g, i * 3 + 2, none⟩ (.int .i64 x.m)) := by
  have hlt := h.lt
  have hle := h.le
  have hlen := h.len
  have hj := lt_of_get hx
  refine ⟨ac_set (h.own.below hb) (by omega), by omega, hj, ?_, ?_, ?_, ?_⟩
  · rw [atL_take hx, if_pos hd, ← h.kept, List.take_succ_eq_append_getElem (by simp; omega)]
    simp [List.take_set_of_le]
  · have := congrArg (List.drop 1) h.rest
    rw [List.drop_set_of_lt (by omega)]
    simpa [List.drop_drop] using this
  · have hk := Go.Proofs.Ytmeneojgdbjlnaa.kept hb h.day
    rw [World.cell?_of_block (w := wy)]
    · exact hk
    · simp only [heap_setCell_other _ _ _ _ (show q ≠ (Addr.mk g (i * 3) none).block from hq), heap_setCell_other _ _ _ _ (show q ≠ (Addr.mk g (i * 3 + 1) none).block from hq), heap_setCell_other _ _ _ _ (show q ≠ (Addr.mk g (i * 3 + 2) none).block from hq)]
  · exact (((h.bel.trans (hb.mono hB)).setCell (p := ⟨g, i * 3, none⟩) hg _).setCell (p := ⟨g, i * 3 + 1, none⟩) hg _).setCell (p := ⟨g, i * 3 + 2, none⟩) hg _

set_option maxHeartbeats 2000000 in
theorem del_any (A : Option Addr) (cap B : Nat) (l : List Ac) (d : Int) (q : Nat) (w : World) (ho : OwnS w B 25 3 A l.length cap (l.map encAc)) (hB : B ≤ w.heap.size) (hm : l.length ≤ 9223372036854775806) (hqB : q < B) (hq : w.cell? ⟨q, 0, none⟩ = some (.int .i64 d)) :
    Calls Try.prog 31 #[.slice A l.length cap, .func (Fn.func 32) #[] #[.pointer (some ⟨q, 0, none⟩)]] w (DelPost w B d l) := by
  have HO := hide ho
  have HQ := hide hq
  clear ho hq
  go_enter Try.func31, Try.ntmps31
  go_wp2_with fail
  refine (index_any A cap l d q _ HO.out.sl hm HQ.out).mono ?_
  rintro e w1 ⟨r, rfl, hf, hb1⟩
  rcases hf with ⟨rfl, hall⟩ | ⟨k, x, rfl, hx, hd, hall⟩
  · have HA := hide hall
    clear hall
    go_wp2_with fail
    go_ret
    exact ⟨A, cap, by rw [atL_of_all HA.out]; rfl, by rw [atL_of_all HA.out]; exact HO.out.below hb1, hb1.mono hB⟩
  · have hk := lt_of_get hx
    obtain ⟨g, hA, hgB, hgw⟩ : ∃ g, A = some ⟨g, 0, none⟩ ∧ B ≤ g ∧ g < w.heap.size := by
      rcases HO.out.addr with ⟨_, h0, _⟩ | h
      · omega
      · exact h
    subst hA
    have hz1 := hb1.size
    have hI : DelI w B g cap d q l l k (k + 1) w1 := ⟨HO.out.below hb1, by omega, hk, by rw [atL_take hx, if_neg (by omega), List.append_nil, atL_of_all hall], rfl, kept hb1 HQ.out, hb1.mono hB⟩
    have HI := hide hI
    have hk1 : ((k : Int) == -1) = false := by simp
    clear hI hall hx hd HO HQ hb1
    go_wp2_with fail
    go_loopw [5, 6] (fun s t wr => ∃ (i j : Nat) (R : List Ac), s = .int .i64 i ∧ t = .int .i64 j ∧ DelI w B g cap d q l R i j wr) (fun _ t _ => l.length - (intOf t).toNat)
    case atStart => exact ⟨k, k + 1, l, rfl, by go_num, HI.out⟩
    case round =>
      clear HI
      obtain ⟨i, j, R, rfl, rfl, hI⟩ := hrel
      have hlt := hI.lt
      have hle := hI.le
      have hcap := hI.own.cap_le
      by_cases hj : j < l.length
      · obtain ⟨⟨ab, ak, am⟩, hx⟩ := get_of hj
        obtain ⟨bb, off, hA, hbl, hc0, hc1, hc2⟩ := hI.own.sl.ac (hI.at hx)
        cases hA
        simp only [Nat.zero_add] at hc0 hc1 hc2
        have HI := hide hI
        have HX := hide hx
        clear hx hI
        go_wp2_with fail
        refine (late_any ab ak am d q _ (kept ((Below.refl _ _).alloc (Nat.le_refl _) _) HI.out.day)).mono ?_
        rintro e w2 ⟨rfl, hb2⟩
        have v0 := kept hb2 (b := wr.heap.size) (o := 0) (u := .int .i64 ab) (by simp)
        have v1 := kept hb2 (b := wr.heap.size) (o := 1) (u := .int .i64 ak) (by simp)
        have v2 := kept hb2 (b := wr.heap.size) (o := 2) (u := .int .i64 am) (by simp)
        have hb2' : Below wr.heap.size wr w2 := chain ((Below.refl _ _).alloc (Nat.le_refl _) _) hb2
        clear hb2
        rcases Int.lt_or_le d ab with hd | hd
        · go_wp2_with fail
          go_roundw
          case rel => exact ⟨i, j + 1, R, rfl, by go_num, HI.out.skip HX.out hd hb2' (by omega)⟩
          case measure => simp [intOf]; omega
        · have ho2 := HI.out.own.below hb2'
          obtain ⟨y, hy⟩ := get_of (l := R) (k := i) (by have := HI.out.len; omega)
          obtain ⟨bb, off, hA, hbl', hd0, hd1, hd2⟩ := ho2.sl.ac hy
          cases hA
          simp only [Nat.zero_add] at hd0 hd1 hd2
          have hfz := ho2.frozen
          have hf0 := hfz (i * 3)
          have hf1 := hfz (i * 3 + 1)
          have hf2 := hfz (i * 3 + 2)
          have hi0 : (0 : Int) ≤ (i : Int) := by omega
          have hi1 : (i : Int) < (l.length : Int) := by omega
          have hdb : decide (d < ab) = false := by simpa using hd
          clear hy hfz ho2
          go_wp2_with fail
          go_roundw
          case rel => exact ⟨i + 1, j + 1, R.set i ⟨ab, ak, am⟩, by go_num, by go_num, HI.out.keep HX.out hd hb2' (by omega) (by omega) hgB⟩
          case measure => simp [intOf]; omega
      · obtain rfl : j = l.length := by omega
        have hil := hI.ilen
        rw [List.take_length] at hil
        obtain ⟨W', hrun, hown', hgr⟩ := run_clear_own elAc acZero hI.own (k := i) (m := l.length - i) (c := cap - i) (o := i * 3) (by omega) rfl rfl
        have hrun := hrun 0
        rw [← List.map_take, hI.kept, List.take_length, ← hil] at hown'
        have HO := hide hown'
        have HL := hide hil
        have hb' := hI.bel.grown hgr (by have := hI.bel.size; omega) (fun kk hk => by cases hk; exact hgB)
        have hci : (i : Int) ≤ (cap : Int) := by omega
        have hcn : ¬cap = i := by omega
        have hi0 : (0 : Int) ≤ (i : Int) := by omega
        have hi1 : (i : Int) ≤ (l.length : Int) := by omega
        clear hown' hil hgr hI
        go_wp2_with fail
        go_ret
        exact ⟨some ⟨g, 0, none⟩, cap, by rw [HL.out]; rfl, HO.out, hb'⟩
end Go.Proofs.Ytmeneojgdbjlnaa
