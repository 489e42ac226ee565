/- DayShifts: the day that is so many months behind any one, or ahead of it, or that there is none: any numbers. -/
import Derived.Test.YtbkpflgceppkdaaDayE
namespace Go.Proofs.Ytbkpflgceppkdaa
open Go.ChangeShapes Go.WideShapes Go.ChangeAt Go.RowKit
set_option linter.unusedVariables false

set_option maxRecDepth 100000 in
set_option maxHeartbeats 4000000 in
theorem shiftR_val (n s : Int) (w : World) (_ws : -9223372036854775808 ≤ s ∧ s ≤ 9223372036854775807) : Calls Try.prog 18 #[.int .i64 n, .int .i64 s] w fun e w' => e = .returned (.tuple #[.int .i64 (shV n s), .int .i64 (shE n s)]) ∧ Below w.heap.size w w' := by
  by_cases hn : 1 ≤ n ∧ n ≤ 292194
  · by_cases hs : -9600 ≤ s ∧ s ≤ 9600
    · exact shiftR_in n s w hn.1 hn.2 hs.1 hs.2
    · have e1 : shV n s = 0 := by rw [shV, if_pos hn, shiftP, if_pos (by omega)]
      have e2 : shE n s = 3 := by rw [shE, if_pos hn, shiftP, if_pos (by omega)]
      rw [e1, e2]
      have ek : okE n = 0 := by rw [okE, if_pos hn]
      clear e1 e2 hn
      rcases (show 9600 < s ∨ (s ≤ 9600 ∧ s < -9600) by omega) with h | ⟨h, h'⟩
      all_goals
        clear hs
        go_enter Try.func18, Try.ntmps18
        go_wp2_with fail
        refine (ofR_val _ _).mono ?_
        rw [ek]
        rintro e w1 ⟨rfl, hb1⟩
        go_wp2_with fail
        go_ret2
        exact ⟨rfl, hb1.alloc hb1.size _⟩
  · have e1 : shV n s = 0 := by rw [shV, if_neg hn]
    have e2 : shE n s = 3 := by rw [shE, if_neg hn]
    rw [e1, e2]
    have ek : okE n = 3 := by rw [okE, if_neg hn]
    clear e1 e2 hn
    go_enter Try.func18, Try.ntmps18
    go_wp2_with fail
    refine (ofR_val _ _).mono ?_
    rw [ek]
    rintro e w1 ⟨rfl, hb1⟩
    go_wp2_with fail
    go_ret2
    exact ⟨rfl, hb1.alloc hb1.size _⟩

set_option maxRecDepth 100000 in
set_option maxHeartbeats 1000000 in
theorem dayShifts_walk (w : World) (n : Int) (_wn : (Lit.int .i64 n).wf = true) (s : Int) (_ws : (Lit.int .i64 s).wf = true) :
    Calls Try.prog 4 #[.int .i64 n, .int .i64 s] w fun e w' => e = .returned (.bool true) ∧ Below w.heap.size w w' := by
  go_enter Try.func4, Try.ntmps4
  go_wp2_with fail
  refine (awake_any _).mono ?_
  rintro e w1 ⟨rfl, hb1⟩
  have bs := wf64 _ws
  go_wp2_with fail
  refine (shift_val _ _ _ bs).mono ?_
  rintro e w2 ⟨rfl, q⟩
  have h2 := chain hb1 q
  clear q hb1
  go_wp2_with fail
  refine (shiftR_val _ _ _ bs).mono ?_
  rintro e w3 ⟨rfl, q⟩
  have h := chain h2 q
  clear q h2
  go_wp2_with fail
  go_ret
  exact ⟨rfl, h⟩

theorem dayShifts_lifted (os : Os) (started : os.Started) (H : Type) (enc : TypeId × Value → H) :
    ReturnsInHanded {} Try.checked os 4 .any (Rows.dayShiftsSpec.pre6 enc Try.prog Try.f4 Rows.dayShiftsRow.domain false) (Rows.dayShiftsSpec.post enc Try.prog Try.f4 false true false false) := by
  refine returnsInHanded_of_change (C := Try.checked) own started (by kernel_rfl) Try.func4
    (ChangeSpec.witness6 (enc := enc) (C := Try.checked) false ⟨#[], #[.int .i64 0, .int .i64 0], []⟩ 8 (by kernel_rfl) (by kernel_rfl) (by kernel_rfl) (by kernel_rfl)) ?_
  intro W base args ds gs before hval0 hW hcnd _
  have hval : ∀ (j : Nat) t v, Try.f4.params[j]? = some t → args[j]? = some v → Value.okWide Try.prog W .any base t v := hval0
  have hW' := hW
  obtain ⟨p, q, hA0, hV, rfl, hfz, hnd⟩ := hW
  have hA : DataW.TrodAll enc Try.prog W 0 (fun _ => true) true Try.f4.params.toList args.toList ds p := hA0
  rw [Try.params4] at hA hval
  obtain ⟨v0, vs0, d0, ds0, p0, q0, hargs, rfl, rfl, h0, r0⟩ := trodAll_cons hA
  obtain ⟨v1, vs1, d1, ds1, p1, q1, rfl, rfl, rfl, h1, r1⟩ := trodAll_cons r0
  obtain ⟨rfl, rfl, rfl⟩ := trodAll_nil r1
  obtain rfl : args = #[v0, v1] := by cases args; simp_all
  obtain ⟨rfl, rfl⟩ := trodVars_none hV
  obtain ⟨x0, rfl, rfl, rfl, wx0⟩ := open_int Try.underlying3 (hval 0 3 v0 rfl rfl) h0
  obtain ⟨x1, rfl, rfl, rfl, wx1⟩ := open_int Try.underlying3 (hval 1 3 v1 rfl rfl) h1
  refine (dayShifts_walk W x0 wx0 x1 wx1).mono fun e W' ⟨he, hb⟩ => ?_
  subst he
  exact ⟨_, rfl, law_post laidOut (by kernel_rfl) rfl Try.underlying4 rfl rfl hW' hb⟩

/-- THE STATEMENT. -/
theorem dayShifts_holds : Rows.DayShiftsSaid :=
  OpenClaim.holds_of_wide 4 Try.f4 rfl rfl rfl rfl rfl rfl rfl ⟨rfl, rfl, rfl, rfl, rfl⟩ rfl rfl rfl rfl rfl (by kernel_rfl) Try.func4 (by kernel_rfl)
    (of_decide_eq_true (by kernel_rfl)) (by unfold Func.isWrapper; first | (rw [if_pos (by decide +kernel)]; kernel_rfl) | (rw [if_neg (by decide +kernel)]; exact ⟨rfl, rfl⟩))
    (fun os started H enc _ => dayShifts_lifted os started H enc)
end Go.Proofs.Ytbkpflgceppkdaa
