/- Whether a version may be: the program's and the document's answer. -/
import Derived.Test.YtaboachegclaiaaTarA
import Derived.Deep.RegionLaw
import Derived.Deep.RegionHeld3
import Derived.Deep.CutRange
namespace Go.Proofs.Ytaboachegclaiaa
open Go.RowKit

def numsB (v : Ver) : Bool := decide (1 ≤ v.f ∧ v.f ≤ 292194 ∧ 0 ≤ v.mn ∧ v.mn ≤ 1000000000000000)
def lensB (v : Ver) : Bool := decide (v.age.length ≤ 100 ∧ 1 ≤ v.zone.length ∧ v.zone.length ≤ 100 ∧ v.peril.length = 8)
theorem numsB_iff (x : Vw) : numsB x.v = true ↔ (1 ≤ x.f ∧ x.f ≤ 292194 ∧ 0 ≤ x.mn ∧ x.mn ≤ 1000000000000000) := by unfold numsB; exact decide_eq_true_iff
theorem lensB_iff (x : Vw) : lensB x.v = true ↔ (x.age.length ≤ 100 ∧ 1 ≤ x.zone.length ∧ x.zone.length ≤ 100 ∧ x.peril.length = 8) := by unfold lensB; exact decide_eq_true_iff
/-- Whether a version may be. -/
def versionB (v : Ver) : Bool := numsB v && (lensB v && (facB [v.b0, v.b1, v.b2, v.b3] && (facB v.zone && (facB v.peril && bandsB v.age))))
def boxV (x : Vw) : Array Value := #[.int .i64 x.f, .int .i64 x.b0, .int .i64 x.b1, .int .i64 x.b2, .int .i64 x.b3, .slice x.aA x.age.length x.aC, .slice x.zA x.zone.length x.zC, .slice x.pA x.peril.length x.pC, .int .i64 x.mn]
theorem base_sv {w : World} {g : Nat} {x : Vw} (h : Blk w g 26 (boxV x)) : SV w 1 (some ⟨g, 1, none⟩) 4 4 ([x.b0, x.b1, x.b2, x.b3].map encI) := by
  refine ⟨fun i row hr => ⟨g, 1, rfl, h.lt, fun j u hu => ?_⟩, rfl, Nat.le_refl _, by simp [maxLen], fun h => by cases h⟩
  have hi := lt_of_get hr
  simp at hi
  rw [List.getElem?_map] at hr
  obtain ⟨n, hn, rfl⟩ := Option.map_eq_some_iff.1 hr
  have : j = 0 := by have := lt_of_get hu; simp [encI] at this; exact this
  subst this
  simp [encI] at hu; subst hu
  rw [h.cell]
  rcases (show i = 0 ∨ i = 1 ∨ i = 2 ∨ i = 3 by omega) with rfl | rfl | rfl | rfl <;> (simp at hn; subst hn; rfl)

set_option maxRecDepth 100000 in
set_option maxHeartbeats 4000000 in
theorem version_any (x : Vw) (w : World) (hs : VOK w x) :
    Calls Try.prog 10 #[.agg #[.int .i64 x.f, .int .i64 x.b0, .int .i64 x.b1, .int .i64 x.b2, .int .i64 x.b3, .slice x.aA x.age.length x.aC, .slice x.zA x.zone.length x.zC, .slice x.pA x.peril.length x.pC, .int .i64 x.mn]] w
      fun e w' => e = .returned (.bool (versionB x.v)) ∧ Below w.heap.size w w' := by
  have HS := hide hs
  clear hs
  have hw1 : ∃ W, w.alloc (.cells (boxV x) 26) = W := ⟨_, rfl⟩
  obtain ⟨w1, hw1⟩ := hw1
  have hB : Blk w1 w.heap.size 26 (boxV x) := by rw [← hw1]; exact Blk.new _ _ _
  have hb1 : Below w.heap.size w w1 := by rw [← hw1]; exact (Below.refl _ _).alloc (Nat.le_refl _) _
  have HB := hide hB
  have H1 := hide hb1
  have HW := hide hw1
  clear hB hb1 hw1
  by_cases hn : numsB x.v = true
  case neg =>
    have HV := hide (show versionB x.v = false by rw [versionB, Bool.eq_false_iff.2 hn]; rfl)
    rw [numsB_iff] at hn
    rcases (show x.f < 1 ∨ (1 ≤ x.f ∧ 292194 < x.f) ∨ (1 ≤ x.f ∧ x.f ≤ 292194 ∧ x.mn < 0) ∨ (1 ≤ x.f ∧ x.f ≤ 292194 ∧ 0 ≤ x.mn ∧ 1000000000000000 < x.mn) by omega) with g | ⟨g, g2⟩ | ⟨g, g2, g3⟩ | ⟨g, g2, g3, g4⟩
    all_goals
      clear hn
      go_enter Try.func10, Try.ntmps10
      go_wp2_with fail
      go_ret
      exact ⟨ret_bool HV.out.symm, (Below.refl _ _).alloc (Nat.le_refl _) _⟩
  have HN := hide hn
  rw [numsB_iff] at hn
  obtain ⟨n1, n2, n3, n4⟩ := hn
  by_cases hl : lensB x.v = true
  case neg =>
    have HV := hide (show versionB x.v = false by rw [versionB, HN.out, Bool.eq_false_iff.2 hl]; rfl)
    rw [lensB_iff] at hl
    rcases (show 100 < x.age.length ∨ (x.age.length ≤ 100 ∧ x.zone.length < 1) ∨ (x.age.length ≤ 100 ∧ 1 ≤ x.zone.length ∧ 100 < x.zone.length) ∨ (x.age.length ≤ 100 ∧ 1 ≤ x.zone.length ∧ x.zone.length ≤ 100 ∧ x.peril.length ≠ 8) by omega) with g | ⟨g, g2⟩ | ⟨g, g2, g3⟩ | ⟨g, g2, g3, g4⟩
    all_goals
      clear hl
      try (have g5 : ((x.peril.length : Int) != 8) = true := by simp; omega)
      try clear g4
      go_enter Try.func10, Try.ntmps10
      go_wp2_with fail
      go_ret
      exact ⟨ret_bool HV.out.symm, (Below.refl _ _).alloc (Nat.le_refl _) _⟩
  have HL := hide hl
  rw [lensB_iff] at hl
  obtain ⟨l1, l2, l3, l4⟩ := hl
  have l4' : ((x.peril.length : Int) != 8) = false := by simp; omega
  have HL4 := hide l4
  clear l4
  go_enter Try.func10, Try.ntmps10
  go_upto_region 5 with fail
  rw [show w.alloc (.cells #[.int .i64 x.f, .int .i64 x.b0, .int .i64 x.b1, .int .i64 x.b2, .int .i64 x.b3, .slice x.aA x.age.length x.aC, .slice x.zA x.zone.length x.zC, .slice x.pA x.peril.length x.pC, .int .i64 x.mn] 26) = w1 from HW.out]
  have c5 := HB.out.cell 5
  have c6 := HB.out.cell 6
  have c7 := HB.out.cell 7
  have cl := HB.out.lt
  simp [boxV] at c5 c6 c7
  have HS1 := hide (HS.out.below H1.out)
  go_wp2_with fail
  refine (factors_any _ _ 4 [x.b0, x.b1, x.b2, x.b3] _ (base_sv HB.out)).mono ?_
  rintro e w2 ⟨rfl, rfl⟩
  cases h1 : facB [x.b0, x.b1, x.b2, x.b3]
  · have HV := hide (show versionB x.v = false by rw [versionB, HN.out, HL.out, show facB [x.v.b0, x.v.b1, x.v.b2, x.v.b3] = false from h1]; rfl)
    clear h1
    go_wp2_with fail
    go_ret
    exact ⟨ret_bool HV.out.symm, H1.out⟩
  have K1 := hide h1
  clear h1
  go_wp2_with fail
  refine (factors_any _ _ _ x.zone _ HS1.out.zone).mono ?_
  rintro e w2 ⟨rfl, rfl⟩
  cases h2 : facB x.zone
  · have HV := hide (show versionB x.v = false by rw [versionB, HN.out, HL.out, show facB [x.v.b0, x.v.b1, x.v.b2, x.v.b3] = true from K1.out, show facB x.v.zone = false from h2]; rfl)
    clear h2
    go_wp2_with fail
    go_ret
    exact ⟨ret_bool HV.out.symm, H1.out⟩
  have K2 := hide h2
  clear h2
  go_wp2_with fail
  refine (factors_any _ _ _ x.peril _ HS1.out.peril).mono ?_
  rintro e w2 ⟨rfl, rfl⟩
  cases h3 : facB x.peril
  · have HV := hide (show versionB x.v = false by rw [versionB, HN.out, HL.out, show facB [x.v.b0, x.v.b1, x.v.b2, x.v.b3] = true from K1.out, show facB x.v.zone = true from K2.out, show facB x.v.peril = false from h3]; rfl)
    clear h3
    go_wp2_with fail
    go_ret
    exact ⟨ret_bool HV.out.symm, H1.out⟩
  have K3 := hide h3
  clear h3
  go_wp2_with fail
  refine (bands_any x.aA x.aC x.age _ HS1.out.age.sl (by omega)).mono ?_
  rintro e w2 ⟨rfl, hb2⟩
  have HV := hide (show versionB x.v = bandsB x.age by rw [versionB, HN.out, HL.out, show facB [x.v.b0, x.v.b1, x.v.b2, x.v.b3] = true from K1.out, show facB x.v.zone = true from K2.out, show facB x.v.peril = true from K3.out]; rfl)
  go_wp2_with fail
  go_ret
  exact ⟨ret_bool HV.out.symm, chain H1.out hb2⟩
end Go.Proofs.Ytaboachegclaiaa
