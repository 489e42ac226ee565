/- RiskEdges: just within its limits a risk may be; with one number moved out of them it may not. For all numbers. -/
import Derived.Test.YtiflfhfcdohncaaRiskOpen
import Derived.BigQuiet
import Derived.Deep.QuietTactic
namespace Go.Proofs.Ytiflfhfcdohncaa
open Go.ChangeShapes Go.WideShapes Go.ChangeAt Go.RowKit
set_option linter.unusedVariables false


set_option maxHeartbeats 2000000 in
theorem riskEdges_walk (w : World) (k : Int) (wk : (Lit.int .u8 k).wf = true) (v : Int) (wv : (Lit.int .u64 v).wf = true) (a : Int) (wa : (Lit.int .u8 a).wf = true) (z : Int) (wz : (Lit.int .u8 z).wf = true)
    (wh : Int) (wwh : (Lit.int .u8 wh).wf = true) (by' : Int) (wby : (Lit.int .u32 by').wf = true) (below : Bool) :
    Calls Try.prog 8 #[.int .u8 k, .int .u64 v, .int .u8 a, .int .u8 z, .int .u8 wh, .int .u32 by', .bool below] w fun e w' => e = .returned (.bool true) ∧ Below w.heap.size w w' := by
  have ⟨k0, k1⟩ : 0 ≤ k ∧ k ≤ 255 := by simpa [Lit.wf, IntKind.min, IntKind.max, IntKind.signed, IntKind.bits] using wk
  have ⟨v0, v1⟩ : 0 ≤ v ∧ v ≤ 18446744073709551615 := by simpa [Lit.wf, IntKind.min, IntKind.max, IntKind.signed, IntKind.bits] using wv
  have ⟨a0, a1⟩ : 0 ≤ a ∧ a ≤ 255 := by simpa [Lit.wf, IntKind.min, IntKind.max, IntKind.signed, IntKind.bits] using wa
  have ⟨z0, z1⟩ : 0 ≤ z ∧ z ≤ 255 := by simpa [Lit.wf, IntKind.min, IntKind.max, IntKind.signed, IntKind.bits] using wz
  have ⟨h0, h1⟩ : 0 ≤ wh ∧ wh ≤ 255 := by simpa [Lit.wf, IntKind.min, IntKind.max, IntKind.signed, IntKind.bits] using wwh
  have ⟨b0, b1⟩ : 0 ≤ by' ∧ by' ≤ 4294967295 := by simpa [Lit.wf, IntKind.min, IntKind.max, IntKind.signed, IntKind.bits] using wby
  clear wk wv wa wz wwh wby
  have hq : wh % 4 = 0 ∨ wh % 4 = 1 ∨ wh % 4 = 2 ∨ wh % 4 = 3 := by omega
  go_enter Try.func8, Try.ntmps8
  go_wp2_with fail
  refine (awake_any _).mono ?_
  rintro e w1 ⟨rfl, hb1⟩
  have hR : riskB (k % 4) (1 + v % 1000000000000000) (a % 201) (z % 100) = true := by simp only [riskB, decide_eq_true_eq]; omega
  have hE : riskB 3 1000000000000000 200 99 = true := by decide
  have hX0 : ∀ p q r : Int, riskB (-1 - by') p q r = false ∧ riskB (4 + by') p q r = false := fun p q r => by constructor <;> (rw [riskB, decide_eq_false_iff_not]; omega)
  have hX1 : ∀ p q r : Int, riskB p (0 - by') q r = false ∧ riskB p (-by') q r = false ∧ riskB p (1000000000000001 + by') q r = false := fun p q r => by refine ⟨?_, ?_, ?_⟩ <;> (rw [riskB, decide_eq_false_iff_not]; omega)
  have hX2 : ∀ p q r : Int, riskB p q (-1 - by') r = false ∧ riskB p q (201 + by') r = false := fun p q r => by constructor <;> (rw [riskB, decide_eq_false_iff_not]; omega)
  have hX3 : ∀ p q r : Int, riskB p q r (-1 - by') = false ∧ riskB p q r (100 + by') = false := fun p q r => by constructor <;> (rw [riskB, decide_eq_false_iff_not]; omega)
  have HR := hide hR
  have HE := hide hE
  have H0 := hide hX0
  have H1 := hide hX1
  have H2 := hide hX2
  have H3 := hide hX3
  clear hR hE hX0 hX1 hX2 hX3
  rcases hq with hq | hq | hq | hq <;> cases below <;>
    (go_wp2_with fail
     refine (right_any _ _ _ _ _).mono ?_
     rw [HR.out]
     rintro e w2 ⟨rfl, hb2⟩
     obtain ⟨hc2, hf2⟩ := bcell hb2
     have h2 : Below w.heap.size w w2 := hb1.trans (((((Below.refl _ _).alloc (Nat.le_refl _) _).alloc (by simp) _).alloc (by simp; omega) _).alloc (by simp; omega) _ |>.trans (hb2.mono (by simp; omega)) |>.mono hb1.size)
     clear hb2
     go_wp2_with fail
     refine (right_any _ _ _ _ _).mono ?_
     first | rw [(H0.out _ _ _).1] | rw [(H0.out _ _ _).2] | rw [(H1.out _ _ _).1] | rw [(H1.out _ _ _).2.1] | rw [(H1.out _ _ _).2.2] | rw [(H2.out _ _ _).1] | rw [(H2.out _ _ _).2] | rw [(H3.out _ _ _).1] | rw [(H3.out _ _ _).2]
     rintro e w3 ⟨rfl, hb3⟩
     have h3 := chain h2 hb3
     clear h2 hb3 hc2 hf2
     go_wp2_with fail
     refine (right_any _ _ _ _ _).mono ?_
     rw [HE.out]
     rintro e w4 ⟨rfl, hb4⟩
     go_wp2_with fail
     go_ret
     exact ⟨rfl, chain h3 hb4⟩)

theorem riskEdges_lifted (os : Os) (started : os.Started) (H : Type) (enc : TypeId × Value → H) :
    ReturnsInHanded {} Try.checked os 8 .any (Rows.riskEdgesSpec.pre6 enc Try.prog Try.f8 Rows.riskEdgesRow.domain false) (Rows.riskEdgesSpec.post enc Try.prog Try.f8 false true false false) := by
  refine returnsInHanded_of_change (C := Try.checked) own started (by kernel_rfl) Try.func8
    (ChangeSpec.witness6 (enc := enc) (C := Try.checked) false ⟨#[], #[.int .u8 0, .int .u64 0, .int .u8 0, .int .u8 0, .int .u8 0, .int .u32 0, .bool false], []⟩ 8 (by kernel_rfl) (by kernel_rfl) (by kernel_rfl) (by kernel_rfl)) ?_
  intro W base args ds gs before hval0 hW hcnd _
  have hval : ∀ (j : Nat) t v, Try.f8.params[j]? = some t → args[j]? = some v → Value.okWide Try.prog W .any base t v := hval0
  have hW' := hW
  obtain ⟨p, q, hA0, hV, rfl, hfz, hnd⟩ := hW
  have hA : DataW.TrodAll enc Try.prog W 0 (fun _ => true) true Try.f8.params.toList args.toList ds p := hA0
  rw [Try.params8] at hA hval
  obtain ⟨v0, vs0, d0, ds0, p0, q0, hargs, rfl, rfl, h0, r0⟩ := trodAll_cons hA
  obtain ⟨v1, vs1, d1, ds1, p1, q1, rfl, rfl, rfl, h1, r1⟩ := trodAll_cons r0
  obtain ⟨v2, vs2, d2, ds2, p2, q2, rfl, rfl, rfl, h2, r2⟩ := trodAll_cons r1
  obtain ⟨v3, vs3, d3, ds3, p3, q3, rfl, rfl, rfl, h3, r3⟩ := trodAll_cons r2
  obtain ⟨v4, vs4, d4, ds4, p4, q4, rfl, rfl, rfl, h4, r4⟩ := trodAll_cons r3
  obtain ⟨v5, vs5, d5, ds5, p5, q5, rfl, rfl, rfl, h5, r5⟩ := trodAll_cons r4
  obtain ⟨v6, vs6, d6, ds6, p6, q6, rfl, rfl, rfl, h6, r6⟩ := trodAll_cons r5
  obtain ⟨rfl, rfl, rfl⟩ := trodAll_nil r6
  obtain rfl : args = #[v0, v1, v2, v3, v4, v5, v6] := by cases args; simp_all
  obtain ⟨rfl, rfl⟩ := trodVars_none hV
  obtain ⟨x0, rfl, rfl, rfl, wx0⟩ := open_int Try.underlying5 (hval 0 5 v0 rfl rfl) h0
  obtain ⟨x1, rfl, rfl, rfl, wx1⟩ := open_int Try.underlying34 (hval 1 34 v1 rfl rfl) h1
  obtain ⟨x2, rfl, rfl, rfl, wx2⟩ := open_int Try.underlying5 (hval 2 5 v2 rfl rfl) h2
  obtain ⟨x3, rfl, rfl, rfl, wx3⟩ := open_int Try.underlying5 (hval 3 5 v3 rfl rfl) h3
  obtain ⟨x4, rfl, rfl, rfl, wx4⟩ := open_int Try.underlying5 (hval 4 5 v4 rfl rfl) h4
  obtain ⟨x5, rfl, rfl, rfl, wx5⟩ := open_int Try.underlying35 (hval 5 35 v5 rfl rfl) h5
  obtain ⟨x6, rfl, rfl, rfl⟩ := open_bool Try.underlying4 (hval 6 4 v6 rfl rfl) h6
  refine (riskEdges_walk W x0 wx0 x1 wx1 x2 wx2 x3 wx3 x4 wx4 x5 wx5 x6).mono fun e W' ⟨he, hb⟩ => ?_
  subst he
  exact ⟨_, rfl, law_post laidOut (by kernel_rfl) rfl Try.underlying4 rfl rfl hW' hb⟩

/-- THE STATEMENT. -/
theorem riskEdges_holds : Rows.RiskEdgesSaid :=
  OpenClaim.holds_of_wide 8 Try.f8 rfl rfl rfl rfl rfl rfl rfl ⟨rfl, rfl, rfl, rfl, rfl⟩ rfl rfl rfl rfl rfl (by kernel_rfl) Try.func8 (by kernel_rfl)
    (of_decide_eq_true (by kernel_rfl)) (by unfold Func.isWrapper; first | (rw [if_pos (by decide +kernel)]; kernel_rfl) | (rw [if_neg (by decide +kernel)]; exact ⟨rfl, rfl⟩))
    (fun os started H enc _ => riskEdges_lifted os started H enc)
end Go.Proofs.Ytiflfhfcdohncaa
