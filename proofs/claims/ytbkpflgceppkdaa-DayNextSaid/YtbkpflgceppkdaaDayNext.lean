/- DayNext: what day comes behind a day. -/
import Derived.Test.YtbkpflgceppkdaaDayOpen
namespace Go.Proofs.Ytbkpflgceppkdaa
open Go.ChangeShapes Go.WideShapes Go.ChangeAt Go.RowKit
set_option linter.unusedVariables false

/-- What the next day is. -/
theorem next_all {k : Int} (h1 : 1 ≤ k) (h2 : k ≤ 292193) :
    (28 ≤ (ofI k).2.2 ∨ (ofI (k + 1)).2.2 ≠ 1) ∧ (((ofI (k + 1)).1 = (ofI k).1 ∧ (ofI (k + 1)).2.1 = (ofI k).2.1 ∧ (ofI (k + 1)).2.2 = (ofI k).2.2 + 1 ∧ 1 ≤ (ofI k).2.2 ∧ (ofI (k + 1)).2.2 ≤ 31) ∨
      ((ofI (k + 1)).1 = (ofI k).1 ∧ (ofI (k + 1)).2.1 = (ofI k).2.1 + 1 ∧ (ofI (k + 1)).2.2 = 1 ∧ 1 ≤ (ofI k).2.1) ∨
      ((ofI (k + 1)).1 = (ofI k).1 + 1 ∧ (ofI k).2.1 = 12 ∧ (ofI k).2.2 = 31 ∧ (ofI (k + 1)).2.1 = 1 ∧ (ofI (k + 1)).2.2 = 1)) := by
  obtain ⟨r, e⟩ := ofI_ok h1 (show k ≤ 292194 by omega)
  obtain ⟨⟨y, m, d⟩, hp⟩ : ∃ p, ofI k = p := ⟨_, rfl⟩
  rw [hp] at r e ⊢
  simp only at r e ⊢
  have r0 := right_iff.1 r
  have hb := lenM_bd y m
  by_cases hd : d < lenM y m
  · have r1 : rightB y m (d + 1) = true := right_iff.2 (by omega)
    have e1 : numI y m (d + 1) = k + 1 := by unfold numI at e ⊢; omega
    have q := ofI_eq r1
    rw [e1] at q
    rw [q]
    exact ⟨.inr (by simp only; omega), .inl ⟨rfl, rfl, rfl, by omega, by simp only; omega⟩⟩
  · by_cases hm : m < 12
    · have r1 : rightB y (m + 1) 1 = true := right_iff.2 (by have := lenM_bd y (m + 1); omega)
      have e1 : numI y (m + 1) 1 = k + 1 := by
        unfold numI at e ⊢; rw [cumM_succ y m (by omega) (by omega)]; omega
      have q := ofI_eq r1
      rw [e1] at q
      rw [q]
      exact ⟨.inl (by omega), .inr (.inl ⟨rfl, rfl, rfl, by omega⟩)⟩
    · obtain rfl : m = 12 := by omega
      have hl : lenM y 12 = 31 := by simp [lenM]
      have hc := cumM_succ y 12 (by omega) (by omega)
      rw [show (12 : Int) + 1 = 13 by omega, cum13] at hc
      have ha := leap_of_ahead y
      have hy : y < 2400 := by
        rcases Int.lt_or_le y 2400 with h | h
        · exact h
        · exfalso
          obtain rfl : y = 2400 := by omega
          have : aheadI (2400 + 1) = 292194 := by decide
          unfold numI at e
          omega
      have r1 : rightB (y + 1) 1 1 = true := right_iff.2 (by have := lenM_bd (y + 1) 1; omega)
      have e1 : numI (y + 1) 1 1 = k + 1 := by
        unfold numI at e ⊢; rw [cum1]; omega
      have q := ofI_eq r1
      rw [e1] at q
      rw [q]
      exact ⟨.inl (by omega), .inr (.inr ⟨rfl, rfl, by omega, rfl, rfl⟩)⟩

set_option maxRecDepth 100000 in
set_option maxHeartbeats 1000000 in
theorem dayNext_walk (w : World) (n : Int) (_wn : (Lit.int .u32 n).wf = true) :
    Calls Try.prog 6 #[.int .u32 n] w fun e w' => e = .returned (.bool true) ∧ Below w.heap.size w w' := by
  go_enter Try.func6, Try.ntmps6
  go_wp2_with fail
  refine (awake_any _).mono ?_
  rintro e w1 ⟨rfl, hb1⟩
  have bn : 0 ≤ n ∧ n ≤ 4294967295 := wf_u32 _wn
  go_wp2_with fail
  refine (in_any _ _ bn.1 bn.2).mono ?_
  rintro e wq ⟨rfl, rfl⟩
  obtain ⟨k, hk⟩ : ∃ k, 1 + n % 292194 = k := ⟨_, rfl⟩
  rw [hk]
  have hk1 : 1 ≤ k := by omega
  have hk2 : k ≤ 292194 := by omega
  have ek : okE k = 0 := by rw [okE, if_pos ⟨hk1, hk2⟩]
  by_cases hlast : k = 292194
  · subst hlast
    go_wp2_with fail
    go_ret
    exact ⟨rfl, hb1⟩
  have hne : (k == 292194) = false := by simpa using hlast
  have hk3 : k ≤ 292193 := by omega
  have ek' : okE (k + 1) = 0 := by rw [okE, if_pos (by omega)]
  clear hlast
  have HF := hide (next_all hk1 hk3)
  go_wp2_with fail
  refine (of_val _ _).mono ?_
  rw [ek]
  rintro e w2 ⟨rfl, q⟩
  have h2 := chain hb1 q
  clear q hb1
  go_wp2_with fail
  refine (of_val _ _).mono ?_
  rw [ek']
  rintro e w3 ⟨rfl, q⟩
  have a0 : w3.cell? ⟨w2.heap.size, 0, none⟩ = some (.int .i64 (ofI k).1) := kept q (by simp)
  have a1 : w3.cell? ⟨w2.heap.size, 1, none⟩ = some (.int .i64 (ofI k).2.1) := kept q (by simp)
  have a2 : w3.cell? ⟨w2.heap.size, 2, none⟩ = some (.int .i64 (ofI k).2.2) := kept q (by simp)
  have h3 := chain (h2.alloc h2.size _) q
  clear q h2
  have hz : w2.heap.size < w3.heap.size := block_lt_of_cell a0
  obtain ⟨⟨ay, am, ad⟩, hA⟩ : ∃ p, ofI k = p := ⟨_, rfl⟩
  obtain ⟨⟨by', bm', bd⟩, hB⟩ : ∃ p, ofI (k + 1) = p := ⟨_, rfl⟩
  have hbnd : 1601 ≤ ay ∧ ay ≤ 2400 ∧ 1 ≤ am ∧ am ≤ 12 := by
    have r := right_iff.1 (ofI_ok hk1 (show k ≤ 292194 by omega)).1
    rw [hA] at r
    simp only at r
    omega
  obtain ⟨hb1, hb2, hb3, hb4⟩ := hbnd
  have hf := HF.out
  clear HF
  rw [hA, hB] at hf
  simp only at hf
  rw [hA] at a0 a1 a2
  rw [hB]
  simp only at a0 a1 a2 ⊢
  obtain ⟨hf1, ⟨rfl, rfl, rfl, hd, hd'⟩ | ⟨rfl, rfl, rfl, hm⟩ | ⟨rfl, rfl, rfl, rfl, rfl⟩⟩ := hf
  all_goals
    go_wp2_with fail
    go_ret
    exact ⟨ret_bool (by first | rfl | (simp; omega) | omega), h3.alloc h3.size _⟩

theorem dayNext_lifted (os : Os) (started : os.Started) (H : Type) (enc : TypeId × Value → H) :
    ReturnsInHanded {} Try.checked os 6 .any (Rows.dayNextSpec.pre6 enc Try.prog Try.f6 Rows.dayNextRow.domain false) (Rows.dayNextSpec.post enc Try.prog Try.f6 false true false false) := by
  refine returnsInHanded_of_change (C := Try.checked) own started (by kernel_rfl) Try.func6
    (ChangeSpec.witness6 (enc := enc) (C := Try.checked) false ⟨#[], #[.int .u32 0], []⟩ 8 (by kernel_rfl) (by kernel_rfl) (by kernel_rfl) (by kernel_rfl)) ?_
  intro W base args ds gs before hval0 hW hcnd _
  have hval : ∀ (j : Nat) t v, Try.f6.params[j]? = some t → args[j]? = some v → Value.okWide Try.prog W .any base t v := hval0
  have hW' := hW
  obtain ⟨p, q, hA0, hV, rfl, hfz, hnd⟩ := hW
  have hA : DataW.TrodAll enc Try.prog W 0 (fun _ => true) true Try.f6.params.toList args.toList ds p := hA0
  rw [Try.params6] at hA hval
  obtain ⟨v0, vs0, d0, ds0, p0, q0, hargs, rfl, rfl, h0, r0⟩ := trodAll_cons hA
  obtain ⟨rfl, rfl, rfl⟩ := trodAll_nil r0
  obtain rfl : args = #[v0] := by cases args; simp_all
  obtain ⟨rfl, rfl⟩ := trodVars_none hV
  obtain ⟨x0, rfl, rfl, rfl, wx0⟩ := open_int Try.underlying32 (hval 0 32 v0 rfl rfl) h0
  refine (dayNext_walk W x0 wx0).mono fun e W' ⟨he, hb⟩ => ?_
  subst he
  exact ⟨_, rfl, law_post laidOut (by kernel_rfl) rfl Try.underlying4 rfl rfl hW' hb⟩

/-- THE STATEMENT. -/
theorem dayNext_holds : Rows.DayNextSaid :=
  OpenClaim.holds_of_wide 6 Try.f6 rfl rfl rfl rfl rfl rfl rfl ⟨rfl, rfl, rfl, rfl, rfl⟩ rfl rfl rfl rfl rfl (by kernel_rfl) Try.func6 (by kernel_rfl)
    (of_decide_eq_true (by kernel_rfl)) (by unfold Func.isWrapper; first | (rw [if_pos (by decide +kernel)]; kernel_rfl) | (rw [if_neg (by decide +kernel)]; exact ⟨rfl, rfl⟩))
    (fun os started H enc _ => dayNext_lifted os started H enc)
end Go.Proofs.Ytbkpflgceppkdaa
