/- DayOrder: later days have greater numbers. -/
import Derived.Test.YtbkpflgceppkdaaDayOpen
namespace Go.Proofs.Ytbkpflgceppkdaa
open Go.ChangeShapes Go.WideShapes Go.ChangeAt Go.RowKit
set_option linter.unusedVariables false

theorem order_all {j k : Int} (hj1 : 1 ≤ j) (hj2 : j ≤ 292194) (hk1 : 1 ≤ k) (hk2 : k ≤ 292194) :
    (firstP (ofI j).1 (ofI j).2.1 (ofI j).2.2 (ofI k).1 (ofI k).2.1 (ofI k).2.2 ↔ j < k) ∧ (((ofI j).1 = (ofI k).1 ∧ (ofI j).2.1 = (ofI k).2.1 ∧ (ofI j).2.2 = (ofI k).2.2) ↔ j = k) := by
  obtain ⟨r, e⟩ := ofI_ok hj1 hj2
  obtain ⟨r', e'⟩ := ofI_ok hk1 hk2
  have hback : firstP (ofI k).1 (ofI k).2.1 (ofI k).2.2 (ofI j).1 (ofI j).2.1 (ofI j).2.2 → k < j := fun h => by have := num_lt r' r h; omega
  have hforth : firstP (ofI j).1 (ofI j).2.1 (ofI j).2.2 (ofI k).1 (ofI k).2.1 (ofI k).2.2 → j < k := fun h => by have := num_lt r r' h; omega
  have hsame : ((ofI j).1 = (ofI k).1 ∧ (ofI j).2.1 = (ofI k).2.1 ∧ (ofI j).2.2 = (ofI k).2.2) → j = k := fun h => by
    rw [h.1, h.2.1, h.2.2] at e; omega
  refine ⟨⟨hforth, fun h => ?_⟩, ⟨hsame, fun h => by subst h; exact ⟨rfl, rfl, rfl⟩⟩⟩
  by_cases hb : firstP (ofI k).1 (ofI k).2.1 (ofI k).2.2 (ofI j).1 (ofI j).2.1 (ofI j).2.2
  · have := hback hb; omega
  · by_cases hs : (ofI j).1 = (ofI k).1 ∧ (ofI j).2.1 = (ofI k).2.1 ∧ (ofI j).2.2 = (ofI k).2.2
    · have := hsame hs; omega
    · unfold firstP at hb ⊢; omega

set_option maxHeartbeats 400000 in
theorem dayOrder_walk (w : World) (m : Int) (_wm : (Lit.int .u32 m).wf = true) (n : Int) (_wn : (Lit.int .u32 n).wf = true) :
    Calls Try.prog 7 #[.int .u32 m, .int .u32 n] w fun e w' => e = .returned (.bool true) ∧ Below w.heap.size w w' := by
  go_enter Try.func7, Try.ntmps7
  go_wp2_with fail
  refine (awake_any _).mono ?_
  rintro e w1 ⟨rfl, hb1⟩
  have bm : 0 ≤ m ∧ m ≤ 4294967295 := wf_u32 _wm
  have bn : 0 ≤ n ∧ n ≤ 4294967295 := wf_u32 _wn
  go_wp2_with fail
  refine (in_any _ _ bm.1 bm.2).mono ?_
  rintro e wq ⟨rfl, rfl⟩
  go_wp2_with fail
  refine (in_any _ _ bn.1 bn.2).mono ?_
  rintro e wq ⟨rfl, rfl⟩
  obtain ⟨j, hj⟩ : ∃ j, 1 + m % 292194 = j := ⟨_, rfl⟩
  rw [hj]
  have hj1 : 1 ≤ j := by omega
  have hj2 : j ≤ 292194 := by omega
  have ej : okE j = 0 := by rw [okE, if_pos ⟨hj1, hj2⟩]
  obtain ⟨k, hk⟩ : ∃ k, 1 + n % 292194 = k := ⟨_, rfl⟩
  rw [hk]
  have hk1 : 1 ≤ k := by omega
  have hk2 : k ≤ 292194 := by omega
  have ek : okE k = 0 := by rw [okE, if_pos ⟨hk1, hk2⟩]
  have HF := hide (order_all hj1 hj2 hk1 hk2)
  go_wp2_with fail
  refine (of_val _ _).mono ?_
  rw [ej]
  rintro e w2 ⟨rfl, q⟩
  have h2 := chain hb1 q
  clear q hb1
  go_wp2_with fail
  refine (of_val _ _).mono ?_
  rw [ek]
  rintro e w3 ⟨rfl, q⟩
  have a0 : w3.cell? ⟨w2.heap.size, 0, none⟩ = some (.int .i64 (ofI j).1) := kept q (by simp)
  have a1 : w3.cell? ⟨w2.heap.size, 1, none⟩ = some (.int .i64 (ofI j).2.1) := kept q (by simp)
  have a2 : w3.cell? ⟨w2.heap.size, 2, none⟩ = some (.int .i64 (ofI j).2.2) := kept q (by simp)
  have h3 := chain (h2.alloc h2.size _) q
  clear q h2
  have hz : w2.heap.size < w3.heap.size := block_lt_of_cell a0
  have HF' := HF.out
  unfold firstP at HF'
  obtain ⟨HL, HQ⟩ := HF'
  have HL := hide HL
  have HQ := hide HQ
  clear HF
  go_wp2_with fail
  all_goals
    go_ret
    have hl := HL.out
    have hq := HQ.out
    exact ⟨ret_bool (by first | rfl | (simp; omega) | omega), h3.alloc h3.size _⟩

theorem dayOrder_lifted (os : Os) (started : os.Started) (H : Type) (enc : TypeId × Value → H) :
    ReturnsInHanded {} Try.checked os 7 .any (Rows.dayOrderSpec.pre6 enc Try.prog Try.f7 Rows.dayOrderRow.domain false) (Rows.dayOrderSpec.post enc Try.prog Try.f7 false true false false) := by
  refine returnsInHanded_of_change (C := Try.checked) own started (by kernel_rfl) Try.func7
    (ChangeSpec.witness6 (enc := enc) (C := Try.checked) false ⟨#[], #[.int .u32 0, .int .u32 0], []⟩ 8 (by kernel_rfl) (by kernel_rfl) (by kernel_rfl) (by kernel_rfl)) ?_
  intro W base args ds gs before hval0 hW hcnd _
  have hval : ∀ (j : Nat) t v, Try.f7.params[j]? = some t → args[j]? = some v → Value.okWide Try.prog W .any base t v := hval0
  have hW' := hW
  obtain ⟨p, q, hA0, hV, rfl, hfz, hnd⟩ := hW
  have hA : DataW.TrodAll enc Try.prog W 0 (fun _ => true) true Try.f7.params.toList args.toList ds p := hA0
  rw [Try.params7] at hA hval
  obtain ⟨v0, vs0, d0, ds0, p0, q0, hargs, rfl, rfl, h0, r0⟩ := trodAll_cons hA
  obtain ⟨v1, vs1, d1, ds1, p1, q1, rfl, rfl, rfl, h1, r1⟩ := trodAll_cons r0
  obtain ⟨rfl, rfl, rfl⟩ := trodAll_nil r1
  obtain rfl : args = #[v0, v1] := by cases args; simp_all
  obtain ⟨rfl, rfl⟩ := trodVars_none hV
  obtain ⟨x0, rfl, rfl, rfl, wx0⟩ := open_int Try.underlying32 (hval 0 32 v0 rfl rfl) h0
  obtain ⟨x1, rfl, rfl, rfl, wx1⟩ := open_int Try.underlying32 (hval 1 32 v1 rfl rfl) h1
  refine (dayOrder_walk W x0 wx0 x1 wx1).mono fun e W' ⟨he, hb⟩ => ?_
  subst he
  exact ⟨_, rfl, law_post laidOut (by kernel_rfl) rfl Try.underlying4 rfl rfl hW' hb⟩

/-- THE STATEMENT. -/
theorem dayOrder_holds : Rows.DayOrderSaid :=
  OpenClaim.holds_of_wide 7 Try.f7 rfl rfl rfl rfl rfl rfl rfl ⟨rfl, rfl, rfl, rfl, rfl⟩ rfl rfl rfl rfl rfl (by kernel_rfl) Try.func7 (by kernel_rfl)
    (of_decide_eq_true (by kernel_rfl)) (by unfold Func.isWrapper; first | (rw [if_pos (by decide +kernel)]; kernel_rfl) | (rw [if_neg (by decide +kernel)]; exact ⟨rfl, rfl⟩))
    (fun os started H enc _ => dayOrder_lifted os started H enc)
end Go.Proofs.Ytbkpflgceppkdaa
