/- TriOf: the triangle of any rows, or why there is none, is what the document says; it may be. -/
import Derived.Test.YtclcjonogjinfaaTriW
namespace Go.Proofs.Ytclcjonogjinfaa
open Go.ChangeShapes Go.WideShapes Go.ChangeAt Go.RowKit
set_option linter.unusedVariables false

set_option maxRecDepth 100000 in
set_option maxHeartbeats 4000000 in
theorem triOf_walk (w : World) (A : Option Addr) (l : List R3) (cap : Nat) (hs : SV w 3 A l.length cap (l.map enc3)) (_ho : ∀ x ∈ l, ok3 x) :
    Calls Try.prog 4 #[.slice A l.length cap] w fun e w' => e = .returned (.bool true) ∧ Below w.heap.size w w' := by
  go_enter Try.func4, Try.ntmps4
  have HS := hide hs
  have hmo := hs.most
  have hle := hs.le
  unfold maxLen at hmo
  clear hs
  by_cases hfw : l.length ≤ 200
  case neg =>
    have hfd : decide (l.length ≤ 200) = false := by simp; omega
    go_wp2_with fail
    refine (few_any A l.length cap _ (by omega)).mono ?_
    rintro e w1 ⟨rfl, rfl⟩
    rw [hfd]
    go_wp2_with fail
    refine (alive_b (Below.refl w.heap.size w)).mono ?_
    rintro e w2 ⟨rfl, h2, hb2⟩
    go_wp2_with fail
    go_ret
    exact ⟨rfl, h2⟩
  have hfd : decide (l.length ≤ 200) = true := by simp; omega
  go_wp2_with fail
  refine (few_any A l.length cap _ (by omega)).mono ?_
  rintro e w1 ⟨rfl, rfl⟩
  rw [hfd]
  clear hfd
  go_wp2_with fail
  obtain ⟨E1, hE⟩ : ∃ E, ofE l = E := ⟨_, rfl⟩
  obtain ⟨F1, hF⟩ : ∃ E, ofF l = E := ⟨_, rfl⟩
  obtain ⟨C1, hC⟩ : ∃ E, ofM l = E := ⟨_, rfl⟩
  obtain ⟨m1, hm⟩ : ∃ E, C1.length = E := ⟨_, rfl⟩
  have hm201 : m1 ≤ 20 := by rw [← hm, ← hC]; exact ofM_len
  have hok1 : ok64 F1 := by rw [← hF]; exact ofF_ok
  have HE1 := hide hE
  have HF1 := hide hF
  have HC1 := hide hC
  have HM1 := hide hm
  clear hE hF hC hm
  have HRT := hide (show rightC F1 C1 = (E1 == 0) by rw [← HF1.out, ← HC1.out, ← HE1.out]; exact right_of l)
  refine (of_g HS.out (Below.refl _ _) HE1.out HF1.out HC1.out HM1.out).mono ?_
  rintro e w1 ⟨A1, c1, R1, rfl, hmv, hR, _, h1, hb1⟩
  clear hb1
  have HMV := hide hmv
  have HR := hide hR
  have H1 := hide h1
  clear hmv hR h1
  go_wp2_with fail
  refine (ofR_g HS.out (H1.out.alloc H1.out.size _) HE1.out HF1.out HC1.out HM1.out).mono ?_
  rintro e w2 ⟨A2, c2, R2, rfl, hmv, hR, _, h2, hb2⟩
  have hX := Blk.below (Blk.new w1 24 #[.int .i64 F1, .slice A1 m1 c1]) hb2 (by simp)
  have hb3 : Below w1.heap.size w1 w2 := chain1 hb2
  obtain ⟨w3, hw3⟩ : ∃ W, w2.alloc (.cells #[.int .i64 F1, .slice A2 m1 c2] 24) = W := ⟨_, rfl⟩
  have hY : Blk w3 w2.heap.size 24 #[.int .i64 F1, .slice A2 m1 c2] := by rw [← hw3]; exact Blk.new _ _ _
  have h3 : Below w2.heap.size w2 w3 := by rw [← hw3]; exact (Below.refl _ _).alloc (Nat.le_refl _) _
  have HXB := hide (hX.below h3 hX.lt)
  have HYB := hide hY
  have HM1' := hide (HMV.out.below (chain hb3 h3))
  have HM2' := hide (hmv.below h3)
  have HRR := hide (HR.out.trans hR.symm)
  have H3 := hide (chain h2 h3)
  have HW3 := hide hw3
  clear hX hb2 hb3 hY h3 h2 hmv hR HMV hw3
  go_upto_region 5 with fail
  rw [HW3.out]
  go_wp2_with fail
  refine (alive_b H3.out).mono ?_
  rintro e w4 ⟨rfl, h4, hb4⟩
  have HX4 := hide (HXB.out.below hb4 HXB.out.lt)
  have x0 := HX4.out.cell 0
  have x1 := HX4.out.cell 1
  have y0 := (HYB.out.below hb4 HYB.out.lt).cell 0
  have y1 := (HYB.out.below hb4 HYB.out.lt).cell 1
  simp at x0 x1 y0 y1
  have HM4 := hide (HM1'.out.below hb4)
  have HN4 := hide (HM2'.out.below hb4)
  clear hb4 HM1' HM2'
  go_wp2_with fail
  refine (sameT_any F1 A1 A2 m1 c1 c2 R1 R2 _ HM4.out HN4.out HRR.out (by omega)).mono ?_
  rintro e w5 ⟨rfl, hb5⟩
  have x0 := (HX4.out.below hb5 HX4.out.lt).cell 0
  have x1 := (HX4.out.below hb5 HX4.out.lt).cell 1
  simp at x0 x1
  have H5 := hide (chain h4 hb5)
  have HM5 := hide (HM4.out.below hb5)
  clear hb5 y0 y1
  have hee : (E1 == E1) = true := by simp
  cases hE0 : (E1 == 0)
  all_goals
    have hv := HRT.out.trans hE0
    rw [← HR.out] at hv
    have HVV := hide hv
    clear hv
    go_wp2_with fail
    refine (right_b HM5.out (Below.refl _ _) hok1 HVV.out).mono ?_
    rintro e w6 ⟨rfl, h6, _⟩
    go_wp2_with fail
    go_ret
    exact ⟨rfl, chain H5.out h6⟩

theorem triOf_lifted (os : Os) (started : os.Started) (H : Type) (enc : TypeId × Value → H) :
    ReturnsInHanded {} Try.checked os 4 .any (Rows.triOfSpec.pre6 enc Try.prog Try.f4 Rows.triOfRow.domain false) (Rows.triOfSpec.post enc Try.prog Try.f4 false true false false) := by
  refine returnsInHanded_of_change (C := Try.checked) own started (by kernel_rfl) Try.func4
    (ChangeSpec.witness6 (enc := enc) (C := Try.checked) false ⟨#[], #[.slice none 0 0], []⟩ 8 (by kernel_rfl) (by kernel_rfl) (by kernel_rfl) (by kernel_rfl)) ?_
  intro W base args ds gs before hval0 hW hcnd _
  have hval : ∀ (j : Nat) t v, Try.f4.params[j]? = some t → args[j]? = some v → Value.okWide Try.prog W .any base t v := hval0
  have hW' := hW
  obtain ⟨p, q, hA0, hV, rfl, hfz, hnd⟩ := hW
  have hA : DataW.TrodAll enc Try.prog W 0 (fun _ => true) true Try.f4.params.toList args.toList ds p := hA0
  rw [Try.params4] at hA hval
  obtain ⟨v0, vs0, d0, ds0, p0, q0, hargs, rfl, rfl, h0, r0⟩ := trodAll_cons hA
  obtain ⟨rfl, rfl, rfl⟩ := trodAll_nil r0
  obtain rfl : args = #[v0] := by cases args; simp_all
  obtain ⟨rfl, rfl⟩ := trodVars_none hV
  obtain ⟨A0, l0, p0, rfl, hs0, ho0⟩ := open_r3s (hval 0 30 v0 rfl rfl) h0
  refine (triOf_walk W A0 l0 p0 hs0 ho0).mono fun e W' ⟨he, hb⟩ => ?_
  subst he
  exact ⟨_, rfl, law_post laidOut (by kernel_rfl) rfl Try.underlying4 rfl rfl hW' hb⟩

/-- THE STATEMENT. -/
theorem triOf_holds : Rows.TriOfSaid :=
  OpenClaim.holds_of_wide 4 Try.f4 rfl rfl rfl rfl rfl rfl rfl ⟨rfl, rfl, rfl, rfl, rfl⟩ rfl rfl rfl rfl rfl (by kernel_rfl) Try.func4 (by kernel_rfl)
    (of_decide_eq_true (by kernel_rfl)) (by unfold Func.isWrapper; first | (rw [if_pos (by decide +kernel)]; kernel_rfl) | (rw [if_neg (by decide +kernel)]; exact ⟨rfl, rfl⟩))
    (fun os started H enc _ => triOf_lifted os started H enc)
end Go.Proofs.Ytclcjonogjinfaa
