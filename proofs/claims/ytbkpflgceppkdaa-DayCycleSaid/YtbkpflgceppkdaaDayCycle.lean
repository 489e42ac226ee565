/- DayCycle: four hundred years on it is the same day. -/
import Derived.Test.YtbkpflgceppkdaaDayOpen
namespace Go.Proofs.Ytbkpflgceppkdaa
open Go.ChangeShapes Go.WideShapes Go.ChangeAt Go.RowKit
set_option linter.unusedVariables false

theorem leapI_400 (y : Int) : leapI (y + 400) = leapI y := by
  unfold leapI leapB; simp only [decide_eq_true_eq]; congr 1; rw [eq_iff_iff]; omega
theorem cycle_all {k : Int} (h1 : 1 ≤ k) (h2 : k ≤ 146097) : (ofI (k + 146097)).1 = (ofI k).1 + 400 ∧ (ofI (k + 146097)).2.1 = (ofI k).2.1 ∧ (ofI (k + 146097)).2.2 = (ofI k).2.2 := by
  obtain ⟨r, e⟩ := ofI_ok h1 (show k ≤ 292194 by omega)
  obtain ⟨⟨y, m, d⟩, hp⟩ : ∃ p, ofI k = p := ⟨_, rfl⟩
  rw [hp] at r e ⊢
  simp only at r e ⊢
  have r0 := right_iff.1 r
  have i := in_year r
  have hy : y ≤ 2000 := by
    rcases Int.lt_or_le 2000 y with h | h
    · exfalso
      have : aheadI 2001 = 146097 := by decide
      rcases Int.lt_or_le 2001 y with h' | h'
      · have := ahead_lt (y := 2001) (by omega) h'
        omega
      · obtain rfl : y = 2001 := by omega
        omega
    · exact h
  have hl : ∀ n, lenM (y + 400) n = lenM y n := fun n => by unfold lenM; rw [leapI_400]
  have hc : cumM (y + 400) m = cumM y m := by unfold cumM; rw [leapI_400]
  have ha : aheadI (y + 400) = aheadI y + 146097 := by unfold aheadI; omega
  have r1 : rightB (y + 400) m d = true := right_iff.2 (by rw [hl]; omega)
  have e1 : numI (y + 400) m d = k + 146097 := by unfold numI at e ⊢; rw [hc, ha]; omega
  have q := ofI_eq r1
  rw [e1] at q
  rw [q]
  exact ⟨rfl, rfl, rfl⟩

set_option maxRecDepth 100000 in
set_option maxHeartbeats 1000000 in
theorem dayCycle_walk (w : World) (n : Int) (_wn : (Lit.int .u32 n).wf = true) :
    Calls Try.prog 8 #[.int .u32 n] w fun e w' => e = .returned (.bool true) ∧ Below w.heap.size w w' := by
  go_enter Try.func8, Try.ntmps8
  go_wp2_with fail
  refine (awake_any _).mono ?_
  rintro e w1 ⟨rfl, hb1⟩
  have bn : 0 ≤ n ∧ n ≤ 4294967295 := wf_u32 _wn
  obtain ⟨k, hk⟩ : ∃ k, 1 + n % 146097 = k := ⟨_, rfl⟩
  have hk1 : 1 ≤ k := by omega
  have hk2 : k ≤ 146097 := by omega
  have ek : okE k = 0 := by rw [okE, if_pos (by omega)]
  have ek' : okE (k + 146097) = 0 := by rw [okE, if_pos (by omega)]
  have hw : IntKind.u32.wrap (n.tmod 146097) = n % 146097 := by rw [Int.tmod_eq_emod_of_nonneg bn.1]; exact IntWalk.u32_in _ (by omega)
  have HF := hide (cycle_all hk1 hk2)
  go_wp2_with fail
  refine (of_val _ _).mono ?_
  rw [ek]
  rintro e w2 ⟨rfl, q⟩
  have h2 := chain hb1 q
  clear q hb1
  go_wp2_with fail
  refine (of_val _ _).mono ?_
  rw [ek']
  rintro e w3 ⟨rfl, q⟩
  have a0 : w3.cell? ⟨w2.heap.size, 0, none⟩ = some (.int .i64 (ofI k).1) := kept q (by simp)
  have a1 : w3.cell? ⟨w2.heap.size, 1, none⟩ = some (.int .i64 (ofI k).2.1) := kept q (by simp)
  have a2 : w3.cell? ⟨w2.heap.size, 2, none⟩ = some (.int .i64 (ofI k).2.2) := kept q (by simp)
  have h3 := chain (h2.alloc h2.size _) q
  clear q h2
  have hz : w2.heap.size < w3.heap.size := block_lt_of_cell a0
  obtain ⟨⟨ay, am, ad⟩, hA⟩ : ∃ p, ofI k = p := ⟨_, rfl⟩
  obtain ⟨⟨by', bm', bd⟩, hB⟩ : ∃ p, ofI (k + 146097) = p := ⟨_, rfl⟩
  have hbnd : 1601 ≤ ay ∧ ay ≤ 2400 ∧ 1 ≤ am ∧ am ≤ 12 := by
    have r := right_iff.1 (ofI_ok hk1 (show k ≤ 292194 by omega)).1
    rw [hA] at r
    simp only at r
    omega
  obtain ⟨hb1, hb2, hb3, hb4⟩ := hbnd
  have hf := HF.out
  clear HF
  rw [hA, hB] at hf
  simp only at hf
  rw [hA] at a0 a1 a2
  rw [hB]
  simp only at a0 a1 a2 ⊢
  obtain ⟨rfl, rfl, rfl⟩ := hf
  go_wp2_with fail
  go_ret
  exact ⟨ret_bool (by first | rfl | (simp; omega) | omega), h3.alloc h3.size _⟩

theorem dayCycle_lifted (os : Os) (started : os.Started) (H : Type) (enc : TypeId × Value → H) :
    ReturnsInHanded {} Try.checked os 8 .any (Rows.dayCycleSpec.pre6 enc Try.prog Try.f8 Rows.dayCycleRow.domain false) (Rows.dayCycleSpec.post enc Try.prog Try.f8 false true false false) := by
  refine returnsInHanded_of_change (C := Try.checked) own started (by kernel_rfl) Try.func8
    (ChangeSpec.witness6 (enc := enc) (C := Try.checked) false ⟨#[], #[.int .u32 0], []⟩ 8 (by kernel_rfl) (by kernel_rfl) (by kernel_rfl) (by kernel_rfl)) ?_
  intro W base args ds gs before hval0 hW hcnd _
  have hval : ∀ (j : Nat) t v, Try.f8.params[j]? = some t → args[j]? = some v → Value.okWide Try.prog W .any base t v := hval0
  have hW' := hW
  obtain ⟨p, q, hA0, hV, rfl, hfz, hnd⟩ := hW
  have hA : DataW.TrodAll enc Try.prog W 0 (fun _ => true) true Try.f8.params.toList args.toList ds p := hA0
  rw [Try.params8] at hA hval
  obtain ⟨v0, vs0, d0, ds0, p0, q0, hargs, rfl, rfl, h0, r0⟩ := trodAll_cons hA
  obtain ⟨rfl, rfl, rfl⟩ := trodAll_nil r0
  obtain rfl : args = #[v0] := by cases args; simp_all
  obtain ⟨rfl, rfl⟩ := trodVars_none hV
  obtain ⟨x0, rfl, rfl, rfl, wx0⟩ := open_int Try.underlying32 (hval 0 32 v0 rfl rfl) h0
  refine (dayCycle_walk W x0 wx0).mono fun e W' ⟨he, hb⟩ => ?_
  subst he
  exact ⟨_, rfl, law_post laidOut (by kernel_rfl) rfl Try.underlying4 rfl rfl hW' hb⟩

/-- THE STATEMENT. -/
theorem dayCycle_holds : Rows.DayCycleSaid :=
  OpenClaim.holds_of_wide 8 Try.f8 rfl rfl rfl rfl rfl rfl rfl ⟨rfl, rfl, rfl, rfl, rfl⟩ rfl rfl rfl rfl rfl (by kernel_rfl) Try.func8 (by kernel_rfl)
    (of_decide_eq_true (by kernel_rfl)) (by unfold Func.isWrapper; first | (rw [if_pos (by decide +kernel)]; kernel_rfl) | (rw [if_neg (by decide +kernel)]; exact ⟨rfl, rfl⟩))
    (fun os started H enc _ => dayCycle_lifted os started H enc)
end Go.Proofs.Ytbkpflgceppkdaa
