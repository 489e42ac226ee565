/- DayTells: a number's day and year, and a year's first day. -/
import Derived.Test.YtbkpflgceppkdaaDayOpen
namespace Go.Proofs.Ytbkpflgceppkdaa
open Go.ChangeShapes Go.WideShapes Go.ChangeAt Go.RowKit
set_option linter.unusedVariables false

set_option maxHeartbeats 400000 in
theorem dayTells_walk (w : World) (n : Int) (_wn : (Lit.int .i64 n).wf = true) (y : Int) (_wy : (Lit.int .i64 y).wf = true) :
    Calls Try.prog 10 #[.int .i64 n, .int .i64 y] w fun e w' => e = .returned (.bool true) ∧ Below w.heap.size w w' := by
  go_enter Try.func10, Try.ntmps10
  go_wp2_with fail
  refine (awake_any _).mono ?_
  rintro e w1 ⟨rfl, hb1⟩
  go_wp2_with fail
  refine (of_val _ _).mono ?_
  rintro e w2 ⟨rfl, q⟩
  have h2 := chain hb1 q
  clear q hb1
  go_wp2_with fail
  refine (ofR_val _ _).mono ?_
  rintro e w3 ⟨rfl, q⟩
  have a0 : w3.cell? ⟨w2.heap.size, 0, none⟩ = some (.int .i64 (ofI n).1) := kept q (by simp)
  have a1 : w3.cell? ⟨w2.heap.size, 1, none⟩ = some (.int .i64 (ofI n).2.1) := kept q (by simp)
  have a2 : w3.cell? ⟨w2.heap.size, 2, none⟩ = some (.int .i64 (ofI n).2.2) := kept q (by simp)
  have h3 := chain (h2.alloc h2.size _) q
  clear q h2
  have hz : w2.heap.size < w3.heap.size := block_lt_of_cell a0
  go_wp2_with fail
  refine (year_v _ _).mono ?_
  rintro e wq ⟨rfl, rfl⟩
  go_wp2_with fail
  refine (first_v _ _).mono ?_
  rintro e wq ⟨rfl, rfl⟩
  go_wp2_with fail
  refine (firstR_v _ _).mono ?_
  rintro e w4 ⟨rfl, q⟩
  have c0 : w4.cell? ⟨w3.heap.size, 0, none⟩ = some (.int .i64 (ofI n).1) := kept q (by simp)
  have c1 : w4.cell? ⟨w3.heap.size, 1, none⟩ = some (.int .i64 (ofI n).2.1) := kept q (by simp)
  have c2 : w4.cell? ⟨w3.heap.size, 2, none⟩ = some (.int .i64 (ofI n).2.2) := kept q (by simp)
  have a'0 := kept q (kept ((Below.refl _ _).alloc (Nat.le_refl _) _) a0)
  have a'1 := kept q (kept ((Below.refl _ _).alloc (Nat.le_refl _) _) a1)
  have a'2 := kept q (kept ((Below.refl _ _).alloc (Nat.le_refl _) _) a2)
  have h := chain (h3.alloc h3.size _) q
  clear q h3 a0 a1 a2
  go_wp2_with fail
  go_ret
  exact ⟨rfl, h⟩

theorem dayTells_lifted (os : Os) (started : os.Started) (H : Type) (enc : TypeId × Value → H) :
    ReturnsInHanded {} Try.checked os 10 .any (Rows.dayTellsSpec.pre6 enc Try.prog Try.f10 Rows.dayTellsRow.domain false) (Rows.dayTellsSpec.post enc Try.prog Try.f10 false true false false) := by
  refine returnsInHanded_of_change (C := Try.checked) own started (by kernel_rfl) Try.func10
    (ChangeSpec.witness6 (enc := enc) (C := Try.checked) false ⟨#[], #[.int .i64 0, .int .i64 0], []⟩ 8 (by kernel_rfl) (by kernel_rfl) (by kernel_rfl) (by kernel_rfl)) ?_
  intro W base args ds gs before hval0 hW hcnd _
  have hval : ∀ (j : Nat) t v, Try.f10.params[j]? = some t → args[j]? = some v → Value.okWide Try.prog W .any base t v := hval0
  have hW' := hW
  obtain ⟨p, q, hA0, hV, rfl, hfz, hnd⟩ := hW
  have hA : DataW.TrodAll enc Try.prog W 0 (fun _ => true) true Try.f10.params.toList args.toList ds p := hA0
  rw [Try.params10] at hA hval
  obtain ⟨v0, vs0, d0, ds0, p0, q0, hargs, rfl, rfl, h0, r0⟩ := trodAll_cons hA
  obtain ⟨v1, vs1, d1, ds1, p1, q1, rfl, rfl, rfl, h1, r1⟩ := trodAll_cons r0
  obtain ⟨rfl, rfl, rfl⟩ := trodAll_nil r1
  obtain rfl : args = #[v0, v1] := by cases args; simp_all
  obtain ⟨rfl, rfl⟩ := trodVars_none hV
  obtain ⟨x0, rfl, rfl, rfl, wx0⟩ := open_int Try.underlying3 (hval 0 3 v0 rfl rfl) h0
  obtain ⟨x1, rfl, rfl, rfl, wx1⟩ := open_int Try.underlying3 (hval 1 3 v1 rfl rfl) h1
  refine (dayTells_walk W x0 wx0 x1 wx1).mono fun e W' ⟨he, hb⟩ => ?_
  subst he
  exact ⟨_, rfl, law_post laidOut (by kernel_rfl) rfl Try.underlying4 rfl rfl hW' hb⟩

/-- THE STATEMENT. -/
theorem dayTells_holds : Rows.DayTellsSaid :=
  OpenClaim.holds_of_wide 10 Try.f10 rfl rfl rfl rfl rfl rfl rfl ⟨rfl, rfl, rfl, rfl, rfl⟩ rfl rfl rfl rfl rfl (by kernel_rfl) Try.func10 (by kernel_rfl)
    (of_decide_eq_true (by kernel_rfl)) (by unfold Func.isWrapper; first | (rw [if_pos (by decide +kernel)]; kernel_rfl) | (rw [if_neg (by decide +kernel)]; exact ⟨rfl, rfl⟩))
    (fun os started H enc _ => dayTells_lifted os started H enc)
end Go.Proofs.Ytbkpflgceppkdaa
