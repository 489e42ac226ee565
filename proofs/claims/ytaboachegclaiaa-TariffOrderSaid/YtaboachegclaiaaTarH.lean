/- The version of a day: the program's: the iterator that goes backward. -/
import Derived.RangeFuncNested
import Derived.RangeFuncBound
import Derived.RangeFuncCalls
import Derived.RangeFuncLeaves
import Derived.RangeFuncBox
import Derived.Shelf.Abstract
import Derived.OwnWalkIn
import Derived.TacticsInMore
import Derived.LoopNIn
import Derived.LoopIn
import Derived.Test.YtaboachegclaiaaTarG
namespace Go.Proofs.Ytaboachegclaiaa
open Go.RowKit Go.Shelf
attribute [local go_sem] Oper.semAt_some

def LenV (x : Vw) : Prop := x.age.length ≤ 1000000 ∧ x.zone.length ≤ 1000000 ∧ x.peril.length ≤ 1000000
/-- What comes, round by round: a place and a version. -/
abbrev It (w0 : World) := { p : Int × Vw // VOK w0 p.2 ∧ LenV p.2 }
def encIt (w0 : World) (p : It w0) : Array Value := #[.int .i64 p.1.1, .agg #[.int .i64 p.1.2.f, .int .i64 p.1.2.b0, .int .i64 p.1.2.b1, .int .i64 p.1.2.b2, .int .i64 p.1.2.b3, .slice p.1.2.aA p.1.2.age.length p.1.2.aC, .slice p.1.2.zA p.1.2.zone.length p.1.2.zC, .slice p.1.2.pA p.1.2.peril.length p.1.2.pC, .int .i64 p.1.2.mn]]
/-- The versions, the last one first. -/
def Backs (w0 : World) (M : List Vw) (zs : List (It w0)) : Prop := zs.length = M.length ∧ ∀ (j : Nat) (z : It w0), zs[j]? = some z → z.1.1 = ((M.length - 1 - j : Nat) : Int) ∧ M[M.length - 1 - j]? = some z.1.2
theorem backs_of {w0 : World} {M : List Vw} (h : ∀ x ∈ M, VOK w0 x ∧ LenV x) : ∃ zs : List (It w0), Backs w0 M zs := by
  obtain ⟨zs, h1, h2⟩ := list_of (α := It w0) (n := M.length) (p := fun j z => z.1.1 = ((M.length - 1 - j : Nat) : Int) ∧ M[M.length - 1 - j]? = some z.1.2) (fun j hj => by
    obtain ⟨x, hx⟩ := get_of (l := M) (k := M.length - 1 - j) (by omega)
    exact ⟨⟨(((M.length - 1 - j : Nat) : Int), x), h x (List.mem_of_getElem? hx)⟩, rfl, hx⟩)
  exact ⟨zs, h1, h2⟩

set_option maxRecDepth 100000 in
set_option maxHeartbeats 4000000 in
theorem back1_in (F : Fence) (n : Nat) (h37 : F.fn 37) (hro : F.round = none) (hn : 1 ≤ n) (w0 : World) (l Bs n0 cap : Nat) (A : Option Addr) (M : List Vw) (zs : List (It w0)) (hz : Backs w0 M zs) (J Jx : List (It w0) → World → Prop)
    (hTV : TV w0 A M.length cap M) (hn0 : w0.heap.size ≤ n0) (hBs0 : Bs < n0)
    (hY : ∀ pre x W, J pre W → pre.length < M.length → YieldAt F (n - 1) Try.prog l (encIt w0 x) W fun e W' =>
      (e = .returned (.bool true) ∧ J (pre ++ [x]) W' ∧ Below n0 W W') ∨ (e = .returned (.bool false) ∧ Jx (pre ++ [x]) W'))
    (W : World) (hBs : W.cell? ⟨Bs, 0, none⟩ = some (.slice A M.length cap)) (hW : Below w0.heap.size w0 W) (h0 : J [] W) :
    CallsIn F n Try.prog 37 #[.func (.yield l) #[] #[], .pointer (some ⟨Bs, 0, none⟩)] W fun e W' => (∃ v, e = .returned v) ∧
      ((∃ ys, ys = zs ∧ J ys W') ∨ (∃ pre, (∃ k, k ≤ M.length ∧ pre = zs.take k) ∧ Jx pre W')) := by
  have hmx := hTV.sv.le
  have hmy := hTV.sv.most
  unfold maxLen at hmy
  have HTV := hide hTV
  have HZ := hide hz
  have HW := hide hW
  clear hTV hz hW
  refine callsIn_of_wp Try.func37 rfl h37 ?_ hro
  simp only [Try.ntmps37, List.size_toArray, List.length_cons, List.length_nil, Nat.reduceAdd, Nat.reduceSub, Array.replicate_succ, Array.replicate_zero, List.push_toArray, List.append_toArray, List.nil_append, List.cons_append]
  gi_wp2
  gi_loopw [3] (fun i wr => ∃ k : Nat, k ≤ M.length ∧ i = .int .i64 ((k : Int) - 1) ∧ J (zs.take (M.length - k)) wr ∧ Below n0 W wr) (fun i _ => (intOf i + 1).toNat)
  case atStart => exact ⟨M.length, Nat.le_refl _, rfl, by rw [Nat.sub_self]; exact h0, Below.refl _ _⟩
  case round =>
    obtain ⟨k, hk, rfl, hJs, hnx⟩ := hrel
    have hBs' : (wr : World).cell? ⟨Bs, 0, none⟩ = some (.slice A M.length cap) := (hnx.cell (p := ⟨Bs, 0, none⟩) hBs0).trans hBs
    by_cases hlt : 1 ≤ k
    · obtain ⟨j, rfl⟩ : ∃ j, k = j + 1 := ⟨k - 1, by omega⟩
      obtain ⟨z, hzj⟩ := get_of (l := zs) (k := M.length - (j + 1)) (by rw [HZ.out.1]; omega)
      obtain ⟨z1, z2⟩ := HZ.out.2 _ z hzj
      have ej : M.length - 1 - (M.length - (j + 1)) = j := by omega
      rw [ej] at z1 z2
      obtain ⟨fn, tmps, assign, body, hy, hR⟩ := hY _ z wr hJs (by rw [List.length_take, HZ.out.1]; omega)
      dsimp only [encIt] at hy
      rw [z1] at hy
      have hbw : Below w0.heap.size w0 wr := HW.out.trans (hnx.mono hn0)
      obtain ⟨bb, off, rfl, hbl, c0, c1, c2, c3, c4, c5, c6, c7, c8⟩ := (HTV.out.below hbw).sv.sl.vw z2
      have hj : ((j + 1 : Nat) : Int) - 1 = (j : Int) := by omega
      have hk0 : (0 : Int) ≤ (j : Int) := by omega
      have hk1 : (j : Int) < (M.length : Int) := by omega
      have HT := hide (take_of hzj)
      rw [hj]
      clear hzj z1 z2 ej hbw
      gi_wp2
      refine hR.mono ?_
      rintro e W3 (⟨rfl, hJ3, hk3⟩ | ⟨rfl, hJx3⟩)
      · rw [← HT.out, show M.length - (j + 1) + 1 = M.length - j by omega] at hJ3
        have HJ3 := hide hJ3
        clear hJ3 c0 c1 c2 c3 c4 c5 c6 c7 c8 hy hR hJs
        gi_wp2
        go_roundw
        case rel => exact ⟨j, by omega, rfl, HJ3.out, hnx.trans hk3⟩
        case measure => simp [intOf] <;> omega
      · rw [← HT.out, show M.length - (j + 1) + 1 = M.length - j by omega] at hJx3
        have HJ3 := hide hJx3
        clear hJx3 c0 c1 c2 c3 c4 c5 c6 c7 c8 hy hR hJs
        gi_wp2
        refine bodyPost_ret (results_none rfl _ _ _) rfl ?_
        exact ⟨⟨_, rfl⟩, .inr ⟨_, ⟨M.length - j, by omega, rfl⟩, HJ3.out⟩⟩
    · obtain rfl : k = 0 := by omega
      rw [List.take_of_length_le (by rw [HZ.out.1]; omega)] at hJs
      have hneg : ¬ ((0 : Int) ≤ ((0 : Nat) : Int) - 1) := by omega
      gi_wp2
      go_end0
      exact ⟨⟨_, rfl⟩, .inl hJs⟩
set_option maxHeartbeats 1000000 in
theorem back_in (F : Fence) (n : Nat) (h26 : F.fn 26) (hro : F.round = none) (a : Option Addr) (len cap : Nat) (w : World) :
    CallsIn F n Try.prog 26 #[.slice a len cap] w fun e w' => e = .returned (.func (.func 37) #[] #[.pointer (some ⟨w.heap.size, 0, none⟩)]) ∧ w' = w.alloc (.cells #[.slice a len cap] 27) := by
  refine callsIn_of_wp Try.func26 rfl h26 ?_ hro
  simp only [Try.ntmps26, List.size_toArray, List.length_cons, List.length_nil, Nat.reduceAdd, Nat.reduceSub, Array.replicate_succ, Array.replicate_zero, List.push_toArray, List.append_toArray, List.nil_append, List.cons_append]
  gi_wp2
  go_ret
  exact ⟨rfl, rfl⟩
theorem back_stops (F : Fence) (n : Nat) (h37 : F.fn 37) (hro : F.round = none) (hn : 1 ≤ n) (w0 : World) (Bs n0 cap : Nat) (A : Option Addr) (M : List Vw) (zs : List (It w0)) (hz : Backs w0 M zs) (hTV : TV w0 A M.length cap M) (hn0 : w0.heap.size ≤ n0) (hBs0 : Bs < n0)
    (w : World) (hnw : n0 ≤ w.heap.size) (hBs : w.cell? ⟨Bs, 0, none⟩ = some (.slice A M.length cap)) (hw : Below w0.heap.size w0 w) :
    SeqStopsK F n Try.prog 37 #[.pointer (some ⟨Bs, 0, none⟩)] (encIt w0) (Below n0) (fun ys => ys = zs) (fun pre => ∃ k, k ≤ M.length ∧ pre = zs.take k) M.length w := fun l J Jx W hW _ _ hY h0 =>
  back1_in F n h37 hro hn w0 l Bs n0 cap A M zs hz J Jx hTV hn0 hBs0 hY W ((hW.cell (p := ⟨Bs, 0, none⟩) (by simp only; omega)).trans hBs) (chain hw hW) h0
end Go.Proofs.Ytaboachegclaiaa
