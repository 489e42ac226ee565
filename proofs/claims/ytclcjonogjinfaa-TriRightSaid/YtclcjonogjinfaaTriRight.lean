/- TriRight: which triangles may be, and the last cells of any, is what the document says. -/
import Derived.Test.YtclcjonogjinfaaTriQ
namespace Go.Proofs.Ytclcjonogjinfaa
open Go.ChangeShapes Go.WideShapes Go.ChangeAt Go.RowKit
set_option linter.unusedVariables false

set_option maxRecDepth 100000 in
set_option maxHeartbeats 4000000 in
theorem triRight_walk (w : World) (f : Int) (A : Option Addr) (M : List Rw) (cap : Nat) (hf : ok64 f) (hs : MV w A M.length cap M) (_ho : ∀ r ∈ M, ∀ n ∈ r.l, ok64 n) :
    Calls Try.prog 3 #[.agg #[.int .i64 f, .slice A M.length cap]] w fun e w' => e = .returned (.bool true) ∧ Below w.heap.size w w' := by
  go_enter Try.func3, Try.ntmps3
  have HS := hide hs
  clear hs
  cases hsm : smallB (allM M)
  · go_wp2_with fail
    refine (small_b HS.out ((Below.refl w.heap.size w).alloc (Nat.le_refl _) _) hsm).mono ?_
    rintro e w1 ⟨rfl, h1, hb1⟩
    clear hb1
    go_wp2_with fail
    refine (alive_b h1).mono ?_
    rintro e w2 ⟨rfl, h2, hb2⟩
    go_wp2_with fail
    go_ret
    exact ⟨rfl, h2⟩
  go_wp2_with fail
  refine (small_b HS.out ((Below.refl w.heap.size w).alloc (Nat.le_refl _) _) hsm).mono ?_
  rintro e w1 ⟨rfl, h1, hb1⟩
  have c0 := kept hb1 (b := w.heap.size) (o := 0) (u := .int .i64 f) (by simp)
  have c1 := kept hb1 (b := w.heap.size) (o := 1) (u := .slice A M.length cap) (by simp)
  have hz := hb1.size
  simp at hz
  clear hb1 hsm
  obtain ⟨v, hv⟩ : ∃ v, rightC f (allM M) = v := ⟨_, rfl⟩
  obtain ⟨D, hD⟩ : ∃ D, diagL f (allM M) = D := ⟨_, rfl⟩
  obtain ⟨m, hm⟩ : ∃ m, D.length = m := ⟨_, rfl⟩
  have hm' : m ≤ 20 := by rw [← hm, ← hD]; exact diag_len
  have HV := hide hv
  have HD := hide hD
  have HM := hide hm
  clear hv hD hm
  go_wp2_with fail
  go_region_held3 (fun w' => w'.cell? ⟨w.heap.size, 0, none⟩ = some (.int .i64 f) ∧ w'.cell? ⟨w.heap.size, 1, none⟩ = some (.slice A M.length cap)) (first | with_reducible exact ⟨c0, c1⟩ | go_keep)
    (first
     | (go_at_call 10
        with_reducible refine (alive_b h1.drew).mono ?_
        rintro e w2 ⟨rfl, h2, hb2⟩
        have c0 := kept hb2 c0
        have c1 := kept hb2 c1)
     | (go_at_call 11
        with_reducible refine (right_b HS.out h2 hf HV.out).mono ?_
        rintro e w3 ⟨rfl, h3, hb3⟩
        have c0 := kept hb3 c0
        have c1 := kept hb3 c1)
     | (go_at_call 12
        with_reducible refine (rightR_b HS.out h3 hf HV.out).mono ?_
        rintro e w4 ⟨rfl, h4, hb4⟩
        have c0 := kept hb4 c0
        have c1 := kept hb4 c1)
     | (go_at_call 14
        with_reducible refine (diag_b HS.out h4 hf HD.out HM.out).mono ?_
        rintro e w5 ⟨A5, q5, rfl, hs5, h5, hb5⟩
        have c0 := kept hb5 c0
        have c1 := kept hb5 c1)
     | (go_at_call 15
        with_reducible refine (diagR_b HS.out h5 hf HD.out HM.out).mono ?_
        rintro e w6 ⟨A6, q6, rfl, hs6, h6, hb6⟩
        have c0 := kept hb6 c0
        have c1 := kept hb6 c1)
     | (go_at_call 13
        with_reducible refine (sameI_b hs5 hb6 hs6 (Below.refl _ _) h6 (by omega)).mono ?_
        rintro e w7 ⟨rfl, h7, hb7⟩
        have c0 := kept hb7 c0
        have c1 := kept hb7 c1))
  go_wp2_with fail
  go_ret
  exact ⟨rfl, h7⟩

theorem triRight_lifted (os : Os) (started : os.Started) (H : Type) (enc : TypeId × Value → H) :
    ReturnsInHanded {} Try.checked os 3 .any (Rows.triRightSpec.pre6 enc Try.prog Try.f3 Rows.triRightRow.domain false) (Rows.triRightSpec.post enc Try.prog Try.f3 false true false false) := by
  refine returnsInHanded_of_change (C := Try.checked) own started (by kernel_rfl) Try.func3
    (ChangeSpec.witness6 (enc := enc) (C := Try.checked) false ⟨#[], #[.agg #[.int .i64 0, .slice none 0 0]], []⟩ 8 (by kernel_rfl) (by kernel_rfl) (by kernel_rfl) (by kernel_rfl)) ?_
  intro W base args ds gs before hval0 hW hcnd _
  have hval : ∀ (j : Nat) t v, Try.f3.params[j]? = some t → args[j]? = some v → Value.okWide Try.prog W .any base t v := hval0
  have hW' := hW
  obtain ⟨p, q, hA0, hV, rfl, hfz, hnd⟩ := hW
  have hA : DataW.TrodAll enc Try.prog W 0 (fun _ => true) true Try.f3.params.toList args.toList ds p := hA0
  rw [Try.params3] at hA hval
  obtain ⟨v0, vs0, d0, ds0, p0, q0, hargs, rfl, rfl, h0, r0⟩ := trodAll_cons hA
  obtain ⟨rfl, rfl, rfl⟩ := trodAll_nil r0
  obtain rfl : args = #[v0] := by cases args; simp_all
  obtain ⟨rfl, rfl⟩ := trodVars_none hV
  obtain ⟨f0, A0, M0, p0, rfl, hf0, hs0, ho0⟩ := open_tri (hval 0 24 v0 rfl rfl) h0
  refine (triRight_walk W f0 A0 M0 p0 hf0 hs0 ho0).mono fun e W' ⟨he, hb⟩ => ?_
  subst he
  exact ⟨_, rfl, law_post laidOut (by kernel_rfl) rfl Try.underlying4 rfl rfl hW' hb⟩

/-- THE STATEMENT. -/
theorem triRight_holds : Rows.TriRightSaid :=
  OpenClaim.holds_of_wide 3 Try.f3 rfl rfl rfl rfl rfl rfl rfl ⟨rfl, rfl, rfl, rfl, rfl⟩ rfl rfl rfl rfl rfl (by kernel_rfl) Try.func3 (by kernel_rfl)
    (of_decide_eq_true (by kernel_rfl)) (by unfold Func.isWrapper; first | (rw [if_pos (by decide +kernel)]; kernel_rfl) | (rw [if_neg (by decide +kernel)]; exact ⟨rfl, rfl⟩))
    (fun os started H enc _ => triRight_lifted os started H enc)
end Go.Proofs.Ytclcjonogjinfaa
