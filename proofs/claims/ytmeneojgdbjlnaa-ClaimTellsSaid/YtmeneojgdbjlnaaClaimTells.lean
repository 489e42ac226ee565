/- ClaimTells: whether any claim may be, and any act. -/
import Derived.Test.YtmeneojgdbjlnaaClaimE
import Derived.Deep.RegionHeld3
namespace Go.Proofs.Ytmeneojgdbjlnaa
open Go.ChangeShapes Go.WideShapes Go.ChangeAt Go.RowKit
set_option linter.unusedVariables false

set_option maxRecDepth 100000 in
set_option maxHeartbeats 4000000 in
theorem claimTells_walk (w : World) (c : Cl) (b k m : Int) (_wb : (Lit.int .i64 b).wf = true) (_wk : (Lit.int .i64 k).wf = true) (_wm : (Lit.int .i64 m).wf = true) :
    Calls Try.prog 3 #[.agg #[.int .i64 c.id, .int .i64 c.pol, .int .i64 c.per, .int .i64 c.loss, .int .i64 c.bkd, .int .i64 c.ev], .agg #[.int .i64 b, .int .i64 k, .int .i64 m]] w fun e w' => e = .returned (.bool true) ∧ Below w.heap.size w w' := by
  go_enter Try.func3, Try.ntmps3
  go_wp2_with fail
  refine (awake_any _).mono ?_
  rintro e w1 ⟨rfl, hb1⟩
  have c0 := kept hb1 (b := w.heap.size) (o := 0) (u := .int .i64 c.id) (by simp)
  have c1 := kept hb1 (b := w.heap.size) (o := 1) (u := .int .i64 c.pol) (by simp)
  have c2 := kept hb1 (b := w.heap.size) (o := 2) (u := .int .i64 c.per) (by simp)
  have c3 := kept hb1 (b := w.heap.size) (o := 3) (u := .int .i64 c.loss) (by simp)
  have c4 := kept hb1 (b := w.heap.size) (o := 4) (u := .int .i64 c.bkd) (by simp)
  have c5 := kept hb1 (b := w.heap.size) (o := 5) (u := .int .i64 c.ev) (by simp)
  have a0 := kept hb1 (b := w.heap.size + 1) (o := 0) (u := .int .i64 b) (by simp)
  have a1 := kept hb1 (b := w.heap.size + 1) (o := 1) (u := .int .i64 k) (by simp)
  have a2 := kept hb1 (b := w.heap.size + 1) (o := 2) (u := .int .i64 m) (by simp)
  have h1 := chain (((Below.refl w.heap.size w).alloc (Nat.le_refl _) _).alloc (by simp) _) hb1
  have hz := hb1.size
  simp at hz
  clear hb1
  go_wp2_with fail
  go_region_held3 (fun w' => w'.cell? ⟨w.heap.size, 0, none⟩ = some (.int .i64 c.id) ∧ w'.cell? ⟨w.heap.size, 1, none⟩ = some (.int .i64 c.pol) ∧ w'.cell? ⟨w.heap.size, 2, none⟩ = some (.int .i64 c.per) ∧ w'.cell? ⟨w.heap.size, 3, none⟩ = some (.int .i64 c.loss) ∧ w'.cell? ⟨w.heap.size, 4, none⟩ = some (.int .i64 c.bkd) ∧ w'.cell? ⟨w.heap.size, 5, none⟩ = some (.int .i64 c.ev) ∧ w'.cell? ⟨w.heap.size + 1, 0, none⟩ = some (.int .i64 b) ∧ w'.cell? ⟨w.heap.size + 1, 1, none⟩ = some (.int .i64 k) ∧ w'.cell? ⟨w.heap.size + 1, 2, none⟩ = some (.int .i64 m)) (first | with_reducible exact ⟨c0, c1, c2, c3, c4, c5, a0, a1, a2⟩ | go_keep)
    (first
     | (go_at_call 11
        refine (formed_any c _).mono ?_
        rintro e w2 ⟨rfl, hb2⟩
        have c0 := kept hb2 c0
        have c1 := kept hb2 c1
        have c2 := kept hb2 c2
        have c3 := kept hb2 c3
        have c4 := kept hb2 c4
        have c5 := kept hb2 c5
        have a0 := kept hb2 a0
        have a1 := kept hb2 a1
        have a2 := kept hb2 a2
        have h2 := chain h1.drew hb2)
     | (go_at_call 12
        refine (formedR_any c _).mono ?_
        rintro e w3 ⟨rfl, hb3⟩
        have c0 := kept hb3 c0
        have c1 := kept hb3 c1
        have c2 := kept hb3 c2
        have c3 := kept hb3 c3
        have c4 := kept hb3 c4
        have c5 := kept hb3 c5
        have a0 := kept hb3 a0
        have a1 := kept hb3 a1
        have a2 := kept hb3 a2
        have h3 := chain h2 hb3)
     | (go_at_call 13
        refine (right_any b k m _).mono ?_
        rintro e w4 ⟨rfl, hb4⟩
        have c0 := kept hb4 c0
        have c1 := kept hb4 c1
        have c2 := kept hb4 c2
        have c3 := kept hb4 c3
        have c4 := kept hb4 c4
        have c5 := kept hb4 c5
        have a0 := kept hb4 a0
        have a1 := kept hb4 a1
        have a2 := kept hb4 a2
        have h4 := chain h3 hb4)
     | (go_at_call 14
        refine (rightR_any b k m _).mono ?_
        rintro e w5 ⟨rfl, hb5⟩
        have c0 := kept hb5 c0
        have c1 := kept hb5 c1
        have c2 := kept hb5 c2
        have c3 := kept hb5 c3
        have c4 := kept hb5 c4
        have c5 := kept hb5 c5
        have a0 := kept hb5 a0
        have a1 := kept hb5 a1
        have a2 := kept hb5 a2
        have h := chain h4 hb5))
  go_wp2_with fail
  go_ret
  exact ⟨rfl, h⟩

theorem claimTells_lifted (os : Os) (started : os.Started) (H : Type) (enc : TypeId × Value → H) :
    ReturnsInHanded {} Try.checked os 3 .any (Rows.claimTellsSpec.pre6 enc Try.prog Try.f3 Rows.claimTellsRow.domain false) (Rows.claimTellsSpec.post enc Try.prog Try.f3 false true false false) := by
  refine returnsInHanded_of_change (C := Try.checked) own started (by kernel_rfl) Try.func3
    (ChangeSpec.witness6 (enc := enc) (C := Try.checked) false ⟨#[], #[.agg #[.int .i64 0, .int .i64 0, .int .i64 0, .int .i64 0, .int .i64 0, .int .i64 0], .agg #[.int .i64 0, .int .i64 0, .int .i64 0]], []⟩ 8 (by kernel_rfl) (by kernel_rfl) (by kernel_rfl) (by kernel_rfl)) ?_
  intro W base args ds gs before hval0 hW hcnd _
  have hval : ∀ (j : Nat) t v, Try.f3.params[j]? = some t → args[j]? = some v → Value.okWide Try.prog W .any base t v := hval0
  have hW' := hW
  obtain ⟨p, q, hA0, hV, rfl, hfz, hnd⟩ := hW
  have hA : DataW.TrodAll enc Try.prog W 0 (fun _ => true) true Try.f3.params.toList args.toList ds p := hA0
  rw [Try.params3] at hA hval
  obtain ⟨v0, vs0, d0, ds0, p0, q0, hargs, rfl, rfl, h0, r0⟩ := trodAll_cons hA
  obtain ⟨v1, vs1, d1, ds1, p1, q1, rfl, rfl, rfl, h1, r1⟩ := trodAll_cons r0
  obtain ⟨rfl, rfl, rfl⟩ := trodAll_nil r1
  obtain rfl : args = #[v0, v1] := by cases args; simp_all
  obtain ⟨rfl, rfl⟩ := trodVars_none hV
  obtain ⟨c0, rfl⟩ := open_claim (hval 0 23 v0 rfl rfl) h0
  obtain ⟨b1, k1, m1, rfl, wb1, wk1, wm1⟩ := open_act (hval 1 25 v1 rfl rfl) h1
  refine (claimTells_walk W c0 b1 k1 m1 wb1 wk1 wm1).mono fun e W' ⟨he, hb⟩ => ?_
  subst he
  exact ⟨_, rfl, law_post laidOut (by kernel_rfl) rfl Try.underlying4 rfl rfl hW' hb⟩

/-- THE STATEMENT. -/
theorem claimTells_holds : Rows.ClaimTellsSaid :=
  OpenClaim.holds_of_wide 3 Try.f3 rfl rfl rfl rfl rfl rfl rfl ⟨rfl, rfl, rfl, rfl, rfl⟩ rfl rfl rfl rfl rfl (by kernel_rfl) Try.func3 (by kernel_rfl)
    (of_decide_eq_true (by kernel_rfl)) (by unfold Func.isWrapper; first | (rw [if_pos (by decide +kernel)]; kernel_rfl) | (rw [if_neg (by decide +kernel)]; exact ⟨rfl, rfl⟩))
    (fun os started H enc _ => claimTells_lifted os started H enc)
end Go.Proofs.Ytmeneojgdbjlnaa
