/- RiskBands: for every list of bands and every age the program's and the document's answers are the same. No condition. -/
import Derived.Test.YtiflfhfcdohncaaRiskOpen
namespace Go.Proofs.Ytiflfhfcdohncaa
open Go.ChangeShapes Go.WideShapes Go.ChangeAt Go.RowKit
set_option linter.unusedVariables false


set_option maxHeartbeats 400000 in
theorem riskBands_walk (w : World) (A : Option Addr) (l : List Bd) (c : Nat) (hc : l.length ≤ c) (hm : c ≤ maxLen) (hl : Sl w w.heap.size 2 A (l.map encBd)) (age : Int) (_wa : (Lit.int .i64 age).wf = true) :
    Calls Try.prog 4 #[.slice A l.length c, .int .i64 age] w fun e w' => e = .returned (.bool true) ∧ Below w.heap.size w w' := by
  unfold maxLen at hm
  have hlen : l.length ≤ 9223372036854775807 := by omega
  have HL := hide hl
  clear hl
  go_enter Try.func4, Try.ntmps4
  go_wp2_with fail
  refine (awake_any _).mono ?_
  rintro e w1 ⟨rfl, hb1⟩
  by_cases hbig : 200 < l.length
  · go_wp2_with fail
    go_ret
    exact ⟨rfl, hb1⟩
  · go_wp2_with fail
    refine (bands_any A c l _ ((HL.out.below hb1).more hb1.size) hlen).mono ?_
    rintro e w2 ⟨rfl, hb2⟩
    have h2 := chain hb1 hb2
    clear hb1 hb2
    go_wp2_with fail
    refine (bandsR_any A c l _ ((HL.out.below h2).more h2.size) hlen).mono ?_
    rintro e w3 ⟨rfl, hb3⟩
    have h3 := chain h2 hb3
    clear h2 hb3
    go_wp2_with fail
    refine (band_any A c l age _ ((HL.out.below h3).more h3.size) hlen hc).mono ?_
    rintro e w4 ⟨rfl, hb4⟩
    have h4 := chain h3 hb4
    clear h3 hb4
    go_wp2_with fail
    refine (bandR_any A c l age _ ((HL.out.below h4).more h4.size) hlen).mono ?_
    rintro e w5 ⟨rfl, hb5⟩
    have h5 := chain h4 hb5
    clear h4 hb5
    go_wp2_with fail
    go_ret
    exact ⟨rfl, h5⟩

theorem riskBands_lifted (os : Os) (started : os.Started) (H : Type) (enc : TypeId × Value → H) :
    ReturnsInHanded {} Try.checked os 4 .any (Rows.riskBandsSpec.pre6 enc Try.prog Try.f4 Rows.riskBandsRow.domain false) (Rows.riskBandsSpec.post enc Try.prog Try.f4 false true false false) := by
  refine returnsInHanded_of_change (C := Try.checked) own started (by kernel_rfl) Try.func4
    (ChangeSpec.witness6 (enc := enc) (C := Try.checked) false ⟨#[], #[.slice none 0 0, .int .i64 0], []⟩ 8 (by kernel_rfl) (by kernel_rfl) (by kernel_rfl) (by kernel_rfl)) ?_
  intro W base args ds gs before hval0 hW hcnd _
  have hval : ∀ (j : Nat) t v, Try.f4.params[j]? = some t → args[j]? = some v → Value.okWide Try.prog W .any base t v := hval0
  have hW' := hW
  obtain ⟨p, q, hA0, hV, rfl, hfz, hnd⟩ := hW
  have hA : DataW.TrodAll enc Try.prog W 0 (fun _ => true) true Try.f4.params.toList args.toList ds p := hA0
  rw [Try.params4] at hA hval
  obtain ⟨v0, vs0, d0, ds0, p0, q0, hargs, rfl, rfl, h0, r0⟩ := trodAll_cons hA
  obtain ⟨v1, vs1, d1, ds1, p1, q1, rfl, rfl, rfl, h1, r1⟩ := trodAll_cons r0
  obtain ⟨rfl, rfl, rfl⟩ := trodAll_nil r1
  obtain rfl : args = #[v0, v1] := by cases args; simp_all
  obtain ⟨rfl, rfl⟩ := trodVars_none hV
  obtain ⟨A0, l0, c0, rfl, hc0, hm0, hl0⟩ := open_bands (hval 0 26 v0 rfl rfl) h0
  obtain ⟨x1, rfl, rfl, rfl, wx1⟩ := open_int Try.underlying3 (hval 1 3 v1 rfl rfl) h1
  refine (riskBands_walk W A0 l0 c0 hc0 hm0 hl0 x1 wx1).mono fun e W' ⟨he, hb⟩ => ?_
  subst he
  exact ⟨_, rfl, law_post laidOut (by kernel_rfl) rfl Try.underlying4 rfl rfl hW' hb⟩

/-- THE STATEMENT. -/
theorem riskBands_holds : Rows.RiskBandsSaid :=
  OpenClaim.holds_of_wide 4 Try.f4 rfl rfl rfl rfl rfl rfl rfl ⟨rfl, rfl, rfl, rfl, rfl⟩ rfl rfl rfl rfl rfl (by kernel_rfl) Try.func4 (by kernel_rfl)
    (of_decide_eq_true (by kernel_rfl)) (by unfold Func.isWrapper; first | (rw [if_pos (by decide +kernel)]; kernel_rfl) | (rw [if_neg (by decide +kernel)]; exact ⟨rfl, rfl⟩))
    (fun os started H enc _ => riskBands_lifted os started H enc)
end Go.Proofs.Ytiflfhfcdohncaa
