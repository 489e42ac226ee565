/- The arguments of the laws of layer 6, opened; the laws' common example. -/
import Derived.Test.YtiflfhfcdohncaaRiskA
import Derived.Test.YtiflfhfcdohncaaRiskB
import Derived.Test.YtiflfhfcdohncaaOpen
import Derived.Deep.RegionWith
namespace Go.Proofs.Ytiflfhfcdohncaa
open Go.ChangeShapes Go.WideShapes Go.ChangeAt Go.RowKit

theorem own : ownKnob Try.prog.godebug = none := by kernel_rfl
theorem laidOut : laidOutB Try.prog = true := by kernel_rfl
theorem cells_risk : Try.prog.cellsOf 23 = 4 := by kernel_rfl
theorem cells_band : Try.prog.cellsOf 31 = 2 := by kernel_rfl
theorem leaves_risk : leaves Try.prog 2 23 = some [.int .i64, .int .i64, .int .i64, .int .i64] := by kernel_rfl
theorem leaves_band : leaves Try.prog 2 31 = some [.int .i64, .int .i64] := by kernel_rfl

section
variable {H : Type} {enc : TypeId × Value → H} {W : World} {r : Reach} {b0 : Nat} {v : Value} {d : DataW H} {p : List MemPlace}
theorem open_risk (hv : Value.okWide Try.prog W r b0 23 v) (h : DataW.Trod enc Try.prog W 0 (fun _ => true) true 23 v d p) :
    ∃ k n a z : Int, v = .agg #[.int .i64 k, .int .i64 n, .int .i64 a, .int .i64 z] := by
  obtain ⟨l, rfl, hl⟩ := top_agg enc Try.prog W 2 Try.underlying23 leaves_risk cells_risk hv h
  obtain ⟨k, l1, rfl, _, h1⟩ := leaf_int enc _ _ hl
  obtain ⟨n, l2, rfl, _, h2⟩ := leaf_int enc _ _ h1
  obtain ⟨a, l3, rfl, _, h3⟩ := leaf_int enc _ _ h2
  obtain ⟨z, l4, rfl, _, h4⟩ := leaf_int enc _ _ h3
  obtain rfl := allLeaf_nil enc _ _ h4
  exact ⟨k, n, a, z, rfl⟩
theorem open_band (hv : Value.okWide Try.prog W r b0 31 v) (h : DataW.Trod enc Try.prog W 0 (fun _ => true) true 31 v d p) :
    ∃ u q : Int, v = .agg #[.int .i64 u, .int .i64 q] := by
  obtain ⟨l, rfl, hl⟩ := top_agg enc Try.prog W 2 Try.underlying31 leaves_band cells_band hv h
  obtain ⟨k, l1, rfl, _, h1⟩ := leaf_int enc _ _ hl
  obtain ⟨n, l2, rfl, _, h2⟩ := leaf_int enc _ _ h1
  obtain rfl := allLeaf_nil enc _ _ h2
  exact ⟨k, n, rfl⟩
theorem open_bands (hv : Value.okWide Try.prog W r b0 26 v) (h : DataW.Trod enc Try.prog W 0 (fun _ => true) true 26 v d p) :
    ∃ (A : Option Addr) (l : List Bd) (cap : Nat), v = .slice A l.length cap ∧ l.length ≤ cap ∧ cap ≤ maxLen ∧ Sl W W.heap.size 2 A (l.map encBd) := by
  obtain ⟨A, l, cap, hv, h1, h2, h3, _⟩ := rows_of enc Try.prog W (α := Bd) 2 2 encBd (fun _ => True) leaves_band cells_band rfl (by omega) (fun cs hl => by
    obtain ⟨k, l1, rfl, _, h1⟩ := leaf_int enc _ _ hl
    obtain ⟨n, l2, rfl, _, h2⟩ := leaf_int enc _ _ h1
    obtain rfl := allLeaf_nil enc _ _ h2
    exact ⟨(k, n), rfl, trivial⟩) (top_slice enc _ _ Try.underlying26 hv h)
  exact ⟨A, l, cap, hv, h1, h2, h3⟩
end

def awL : List Bd := [(24, 15000), (69, 9000)]
theorem awL_sl (w : World) : Sl (w.alloc (.cells #[.int .i64 24, .int .i64 15000, .int .i64 69, .int .i64 9000] 31)) (w.heap.size + 1) 2 (some ⟨w.heap.size, 0, none⟩) (awL.map encBd) := by
  intro i row hr
  match i, hr with
  | 0, hr =>
    simp [awL, encBd] at hr
    subst hr
    refine ⟨_, _, rfl, by omega, fun j u hu => ?_⟩
    match j, hu with
    | 0, hu => simp at hu; subst hu; simp
    | 1, hu => simp at hu; subst hu; simp
  | 1, hr =>
    simp [awL, encBd] at hr
    subst hr
    refine ⟨_, _, rfl, by omega, fun j u hu => ?_⟩
    match j, hu with
    | 0, hu => simp at hu; subst hu; simp
    | 1, hu => simp at hu; subst hu; simp

theorem band_at (age n : Int) (h : bandI age awL = n) (b : Nat) (w0 w : World) (hs : Sl w0 (b + 1) 2 (some ⟨b, 0, none⟩) (awL.map encBd)) (hb : Below (b + 1) w0 w) (hz : b + 1 ≤ w0.heap.size) :
    Calls Try.prog 14 #[.slice (some ⟨b, 0, none⟩) 2 2, .int .i64 age] w fun e w' => e = .returned (.int .i64 n) ∧ Below (b + 1) w0 w' := by
  have hz' := hb.size
  have hc := band_any (some ⟨b, 0, none⟩) 2 awL age w ((hs.below hb).more (by omega)) (by simp [awL]) (by simp [awL])
  rw [h] at hc
  exact hc.mono fun e w' ⟨he, hb'⟩ => ⟨he, hb.trans (hb'.mono (by omega))⟩
theorem bands_at (b : Nat) (w0 w : World) (hs : Sl w0 (b + 1) 2 (some ⟨b, 0, none⟩) (awL.map encBd)) (hb : Below (b + 1) w0 w) (hz : b + 1 ≤ w0.heap.size) :
    Calls Try.prog 12 #[.slice (some ⟨b, 0, none⟩) 2 2] w fun e w' => e = .returned (.bool true) ∧ Below (b + 1) w0 w' := by
  have hz' := hb.size
  have hc := bands_any (some ⟨b, 0, none⟩) 2 awL w ((hs.below hb).more (by omega)) (by simp [awL])
  exact hc.mono fun e w' ⟨he, hb'⟩ => ⟨he, hb.trans (hb'.mono (by omega))⟩

set_option maxHeartbeats 400000 in
theorem awake_any (w : World) : Calls Try.prog 9 #[] w fun e w' => e = .returned (.bool true) ∧ Below w.heap.size w w' := by
  have hsl := hide (awL_sl w)
  go_enter Try.func9, Try.ntmps9
  go_wp2_with fail
  refine (band_at 24 15000 rfl _ _ _ hsl.out (Below.refl _ _) (by simp)).mono ?_
  rintro e w1 ⟨rfl, hb1⟩
  go_wp2_with fail
  refine (band_at 25 9000 rfl _ _ _ hsl.out hb1 (by simp)).mono ?_
  clear hb1
  rintro e w2 ⟨rfl, hb2⟩
  go_wp2_with fail
  refine (band_at 70 10000 rfl _ _ _ hsl.out hb2 (by simp)).mono ?_
  clear hb2
  rintro e w3 ⟨rfl, hb3⟩
  go_wp2_with fail
  refine (bands_at _ _ _ hsl.out hb3 (by simp)).mono ?_
  clear hb3
  rintro e w4 ⟨rfl, hb4⟩
  go_wp2_with fail
  refine (right_any _ _ _ _ _).mono ?_
  rintro e w5 ⟨rfl, hb5⟩
  go_wp2_with fail
  go_ret
  have h4 : Below w.heap.size w w4 := (((Below.refl _ _).alloc (Nat.le_refl _) _).trans (hb4.mono (by omega)))
  exact ⟨rfl, h4.trans (hb5.mono h4.size)⟩
end Go.Proofs.Ytiflfhfcdohncaa
