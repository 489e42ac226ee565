/- Where a version goes: the search by halves. -/
import Derived.Test.YtaboachegclaiaaTarI
namespace Go.Proofs.Ytaboachegclaiaa
open Go.RowKit

set_option maxHeartbeats 1000000 in
theorem put1_any (x : Vw) (d : Int) (hx : 1 ≤ x.f ∧ x.f ≤ 292194) (hd : 1 ≤ d ∧ d ≤ 292194) (w : World) :
    Calls Try.prog 31 #[.agg #[.int .i64 x.f, .int .i64 x.b0, .int .i64 x.b1, .int .i64 x.b2, .int .i64 x.b3, .slice x.aA x.age.length x.aC, .slice x.zA x.zone.length x.zC, .slice x.pA x.peril.length x.pC, .int .i64 x.mn], .int .i64 d] w fun e w' => e = .returned (.int .i64 (x.f - d)) ∧ Below w.heap.size w w' := by
  go_enter Try.func31, Try.ntmps31
  go_wp2_with fail
  go_ret
  exact ⟨rfl, (Below.refl _ _).alloc (Nat.le_refl _) _⟩

/-- All versions ahead of place i are ahead of the day, the others are not. -/
def Cut2 (M : List Vw) (d : Int) (lo hi : Nat) : Prop := ∀ (j : Nat) (y : Vw), M[j]? = some y → (j < lo → y.f < d) ∧ (hi ≤ j → d ≤ y.f)
def SearchP (w : World) (M : List Vw) (d : Int) (e : Ending) (w' : World) : Prop :=
  ∃ (i : Nat) (b : Bool), e = .returned (.tuple #[.int .i64 i, .bool b]) ∧ i ≤ M.length ∧ Cut2 M d i i ∧ (b = true ↔ ∃ y, M[i]? = some y ∧ y.f = d) ∧ Below w.heap.size w w'

set_option maxRecDepth 100000 in
set_option maxHeartbeats 4000000 in
theorem search_any (A : Option Addr) (cap : Nat) (M : List Vw) (d : Int) (w : World) (hs : TV w A M.length cap M) (hd : 1 ≤ d ∧ d ≤ 292194) (hl : M.length ≤ 200) (hf : ∀ y ∈ M, 1 ≤ y.f ∧ y.f ≤ 292194)
    (hr : ∀ (i j : Nat) (x y : Vw), i < j → M[i]? = some x → M[j]? = some y → x.f < y.f) :
    Calls Try.prog 30 #[.slice A M.length cap, .int .i64 d, .func (.func 31) #[] #[]] w (SearchP w M d) := by
  have HS := hide hs
  have hmx := hs.sv.le
  have hmy := hs.sv.most
  unfold maxLen at hmy
  have HD := hide hd
  have HF := hide hf
  have HR := hide hr
  clear hs hd hf hr
  go_enter Try.func30, Try.ntmps30
  go_wp2_with fail
  go_loopw [9, 10] (fun i h wr => ∃ lo hi : Nat, lo ≤ hi ∧ hi ≤ M.length ∧ i = .int .i64 lo ∧ h = .int .i64 hi ∧ Cut2 M d lo hi ∧ Below w.heap.size w wr) (fun i h _ => (intOf h - intOf i).toNat)
  case atStart => exact ⟨0, M.length, Nat.zero_le _, Nat.le_refl _, rfl, rfl, fun j y hj => ⟨fun h => absurd h (Nat.not_lt_zero _), fun h => by have := lt_of_get hj; omega⟩, Below.refl _ _⟩
  case round =>
    obtain ⟨lo, hi, hlh, hhm, rfl, rfl, hc, hb⟩ := hrel
    have HC := hide hc
    have HB := hide hb
    by_cases hlt : lo < hi
    · obtain ⟨x, hx⟩ := get_of (l := M) (k := (lo + hi) / 2) (by omega)
      obtain ⟨bb, off, rfl, hbl, c0, c1, c2, c3, c4, c5, c6, c7, c8⟩ := (HS.out.below hb).sv.sl.vw hx
      have HX := hide hx
      clear hx hb hc
      have hxf := HF.out x (List.mem_of_getElem? HX.out)
      go_wp2_with fail
      refine (put1_any x d hxf HD.out wr).mono ?_
      rintro e w2 ⟨rfl, hb2⟩
      have HB2 := hide (chain HB.out hb2)
      clear hb2 c0 c1 c2 c3 c4 c5 c6 c7 c8 hbl
      by_cases hxd : x.f < d
      · have hxs : x.f - d < 0 := by omega
        go_wp2_with fail
        go_roundw
        case rel =>
          refine ⟨(lo + hi) / 2 + 1, hi, by omega, hhm, by rw [show ((lo : Int) + (hi : Int)) / 2 + 1 = (((lo + hi) / 2 + 1 : Nat) : Int) by omega], rfl, fun j y hj => ⟨fun h => ?_, (HC.out j y hj).2⟩, HB2.out⟩
          rcases Nat.lt_or_ge j ((lo + hi) / 2) with h2 | h2
          · have := HR.out j ((lo + hi) / 2) y x h2 hj HX.out; omega
          · obtain rfl : j = (lo + hi) / 2 := by omega
            rw [HX.out] at hj; cases hj; exact hxd
        case measure => simp [intOf]; omega
      · have hxs : ¬ (x.f - d < 0) := by omega
        go_wp2_with fail
        go_roundw
        case rel =>
          refine ⟨lo, (lo + hi) / 2, by omega, by omega, rfl, by rw [show ((lo : Int) + (hi : Int)) / 2 = (((lo + hi) / 2 : Nat) : Int) by omega], fun j y hj => ⟨(HC.out j y hj).1, fun h => ?_⟩, HB2.out⟩
          rcases Nat.lt_or_ge ((lo + hi) / 2) j with h2 | h2
          · have := HR.out ((lo + hi) / 2) j x y h2 HX.out hj; omega
          · obtain rfl : j = (lo + hi) / 2 := by omega
            rw [HX.out] at hj; cases hj; omega
        case measure => simp [intOf]; omega
    · obtain rfl : hi = lo := by omega
      by_cases hlt2 : hi < M.length
      · obtain ⟨x, hx⟩ := get_of hlt2
        obtain ⟨bb, off, rfl, hbl, c0, c1, c2, c3, c4, c5, c6, c7, c8⟩ := (HS.out.below hb).sv.sl.vw hx
        have HX := hide hx
        clear hx hb hc
        have hxf := HF.out x (List.mem_of_getElem? HX.out)
        have hk0 : (0 : Int) ≤ (hi : Int) := by omega
        have hk1 : (hi : Int) < (M.length : Int) := by omega
        go_wp2_with fail
        refine (put1_any x d hxf HD.out wr).mono ?_
        rintro e w2 ⟨rfl, hb2⟩
        have HB2 := hide (chain HB.out hb2)
        clear hb2 c0 c1 c2 c3 c4 c5 c6 c7 c8 hbl
        go_wp2_with fail
        go_ret2
        refine ⟨hi, (x.f - d == 0), rfl, hhm, HC.out, ?_, HB2.out⟩
        rw [beq_iff_eq]
        exact ⟨fun h => ⟨x, HX.out, by omega⟩, fun ⟨y, hy, h⟩ => by rw [HX.out] at hy; cases hy; omega⟩
      · have hk1 : ¬ ((hi : Int) < (M.length : Int)) := by omega
        go_wp2_with fail
        go_ret2
        exact ⟨hi, false, rfl, hhm, HC.out, by simp only [Bool.false_eq_true, false_iff]; rintro ⟨y, hy, h⟩; have := lt_of_get hy; omega, HB.out⟩
end Go.Proofs.Ytaboachegclaiaa
