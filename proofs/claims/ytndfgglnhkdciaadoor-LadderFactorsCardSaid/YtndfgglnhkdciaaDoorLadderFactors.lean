/- LadderFactors: how years develop is as the document says. -/
import Derived.Test.YtndfgglnhkdciaaDoorLadX
import Derived.Test.YtndfgglnhkdciaaDoorTie
import Derived.Test.YtndfgglnhkdciaaDoorCards
import Derived.SevenTiedAt
namespace Go.Proofs.YtndfgglnhkdciaaDoor
open Go.ChangeShapes Go.WideShapes Go.ChangeAt Go.RowKit
set_option linter.unusedVariables false

set_option maxRecDepth 100000 in
set_option maxHeartbeats 4000000 in
theorem ladderFactors_walk (w : World) (f : Int) (A : Option Addr) (M : List Rw) (cap : Nat) (hf : ok64 f) (hs : MV w A M.length cap M) (_ho : ∀ r ∈ M, ∀ n ∈ r.l, ok64 n) (hg : Hdl w) :
    Calls Tryd.prog 3 #[.agg #[.int .i64 f, .slice A M.length cap]] w fun e w' => e = .returned (.bool true) ∧ Below w.heap.size w w' := by
  have HS := hide hs
  have HG := hide hg
  clear hs hg
  go_enter Tryd.func3, Tryd.ntmps3
  go_wp2_with fail
  obtain ⟨wa, hwa⟩ : ∃ W, w.alloc (.cells #[.int .i64 f, .slice A M.length cap] 24) = W := ⟨_, rfl⟩
  have ka : Blk wa w.heap.size 24 #[.int .i64 f, .slice A M.length cap] := by rw [← hwa]; exact Blk.new _ _ _
  have ba : Below w.heap.size w wa := by rw [← hwa]; exact (Below.refl _ _).alloc (Nat.le_refl _) _
  rw [hwa]
  obtain ⟨X, hX⟩ : ∃ X, w.heap.size = X := ⟨_, rfl⟩
  rw [hX] at ka ⊢
  refine (awake22_b HG.out ba).mono ?_
  rintro e w1 ⟨rfl, h1, hb1⟩
  have H1 := hide h1
  have HK1 := hide (ka.below hb1 ka.lt)
  have x0 := HK1.out.cell 0
  have x1 := HK1.out.cell 1
  simp only [List.getElem?_toArray, List.getElem?_cons_zero, List.getElem?_cons_succ] at x0 x1
  have HX := hide hX
  clear hwa ka ba h1 hb1 hX
  go_wp2_with fail
  refine (few22_any f A cap M _ (HS.out.below H1.out)).mono ?_
  rintro e w2 ⟨⟨b, rfl, hfew⟩, hb2⟩
  have H2 := hide (chain H1.out hb2)
  have HK2 := hide (HK1.out.below hb2 HK1.out.lt)
  clear hb2
  cases b
  · go_wp2_with fail
    go_ret
    rw [HX.out]
    have := H2.out
    rw [HX.out] at this
    exact ⟨rfl, this⟩
  have hM30 := hfew rfl
  have x0 := HK2.out.cell 0
  have x1 := HK2.out.cell 1
  simp only [List.getElem?_toArray, List.getElem?_cons_zero, List.getElem?_cons_succ] at x0 x1
  clear hfew
  go_wp2_with fail
  refine (factors_any f A cap M _ (HS.out.below H2.out) hf).mono ?_
  rintro e w3 ⟨hno, hyes, hb3, -⟩
  obtain ⟨r, hr⟩ : ∃ b, rightC f (allM M) = b := ⟨_, rfl⟩
  have HR := hide hr
  rw [hr] at hno hyes
  have H3 := hide (chain H2.out hb3)
  have HK3 := hide (HK2.out.below hb3 HK2.out.lt)
  clear hb3 hr
  have x0 := HK3.out.cell 0
  have x1 := HK3.out.cell 1
  simp only [List.getElem?_toArray, List.getElem?_cons_zero, List.getElem?_cons_succ] at x0 x1
  cases r
  · obtain rfl := hno rfl
    clear hno hyes
    go_wp2_with fail
    refine (factorsR_any f A cap M _ (HS.out.below H3.out) hf).mono ?_
    rintro e w4 ⟨hno, -, hb4, -⟩
    obtain rfl := hno HR.out
    have h4 := chain H3.out hb4
    rw [HX.out] at h4
    clear hno hb4
    go_wp2_with fail
    refine wp_loop_rounds 1 ?_
    rw [rounds_succ]
    go_wp2_with fail
    go_ret
    rw [HX.out]
    exact ⟨rfl, h4⟩
  · obtain ⟨A3, c3, rfl, ho3⟩ := hyes rfl
    have hok := right_okC HR.out
    have HO3 := hide ho3
    clear hno hyes ho3
    go_wp2_with fail
    refine (factorsR_any f A cap M _ (HS.out.below H3.out) hf).mono ?_
    rintro e w4 ⟨-, hyes, hb4, -⟩
    obtain ⟨A4, c4, rfl, ho4⟩ := hyes HR.out
    have H4 := hide (chain H3.out hb4)
    have HS4 := hide ho4.sv
    have HS3 := hide (HO3.out.below hb4).sv
    obtain ⟨n, hn⟩ : ∃ n, (facL (allM M)).length = n := ⟨_, rfl⟩
    have hn20 : n ≤ 20 := by rw [← hn, facL_len]; have := hok.1; omega
    have HN := hide hn
    rw [hn] at HS3 HS4 ⊢
    clear hyes hb4 ho4 hok hn
    go_wp2_with fail
    go_loopw [9] (fun q wr => ∃ j : Nat, j ≤ n ∧ q = .int .i64 j ∧ Below w4.heap.size w4 wr) (fun q _ => n - (RowKit.intOf q).toNat)
    case atStart => exact ⟨0, Nat.zero_le _, rfl, Below.refl _ _⟩
    case round =>
      obtain ⟨j, hj, rfl, hb⟩ := hrel
      have hq3 := HS3.out.le
      have hq4 := HS4.out.le
      have hy3 := HS3.out.most
      have hy4 := HS4.out.most
      unfold maxLen at hy3 hy4
      by_cases hlt : j < n
      · obtain ⟨⟨p, q⟩, hpq⟩ := get_of (l := facL (allM M)) (k := j) (by rw [HN.out]; exact hlt)
        obtain ⟨b3, o3, rfl, hb3, y0, y1⟩ := (HS3.out.below hb).sl.rt hpq
        obtain ⟨b4, o4, rfl, hb4, z0, z1⟩ := (HS4.out.below hb).sl.rt hpq
        have hk0 : (0 : Int) ≤ (j : Int) := by omega
        have hk1 : (j : Int) < (n : Int) := by omega
        have HB := hide hb
        clear hb hpq
        simp only at y0 y1 z0 z1
        go_wp2_with fail
        go_region
        go_wp2_with fail
        go_roundw
        case rel => exact ⟨j + 1, by omega, by go_num, HB.out.drew⟩
        case measure => simp [RowKit.intOf]; omega
      · obtain rfl : j = n := by omega
        have H5 := hide (chain H4.out hb)
        have hk1 : ¬ (j : Int) < (j : Int) := by omega
        go_wp2_with fail
        go_ret
        have := H5.out
        rw [HX.out] at this ⊢
        exact ⟨rfl, this⟩

set_option maxRecDepth 100000 in
theorem ladderFactors_lifted (os : Os) (started : os.Started) (H : Type) (enc : TypeId × Value → H) :
    ReturnsInHanded {} Tryd.checked os 3 .any (fun w args => (Rows.ladderFactorsSpec.pre enc Tryd.prog Tryd.f3 Rows.ladderFactorsRow.domain false w args ∧ laidMetH Tryd.prog [("errors.errorType", Rows.laid_errors_errorType)] w) ∧ sizedMet enc Tryd.prog Tryd.f3 (OpenSpec.ofChange Rows.ladderFactorsSpec) false w args) (Rows.ladderFactorsSpec.post enc Tryd.prog Tryd.f3 false true false false) := by
  refine returnsInHanded_of_change_and (C := Tryd.checked) (X := fun w _ => laidMetH Tryd.prog [("errors.errorType", Rows.laid_errors_errorType)] w) (fun _ _ _ hh h => h.of_heap hh) own started (by kernel_rfl) Tryd.func3
    (ChangeSpec.witness_at (enc := enc) (C := Tryd.checked) (os := os) (X := fun w _ => laidMetH Tryd.prog [("errors.errorType", Rows.laid_errors_errorType)] w) false (laidWorld os) #[.agg #[.int .i64 0, .slice none 0 0]] 8 rfl (by kernel_rfl) (by kernel_rfl) (by kernel_rfl) (by kernel_rfl) (by kernel_rfl) (laidWorld_met os _)) ?_
  intro W base args ds gs before hval0 hW hcnd hz0 hL _
  have hval : ∀ (j : Nat) t v, Tryd.f3.params[j]? = some t → args[j]? = some v → Value.okWide Tryd.prog W .any base t v := hval0
  have hg := handle_of_laid hL
  have hW' := hW
  obtain ⟨p, q, hA0, hV, rfl, hfz, hnd⟩ := hW
  have hA : DataW.TrodAll enc Tryd.prog W 0 (fun _ => true) true Tryd.f3.params.toList args.toList ds p := hA0
  rw [Tryd.params3] at hA hval
  obtain ⟨v0, vs0, d0, ds0, p0, q0, hargs, rfl, rfl, h0, r0⟩ := trodAll_cons hA
  obtain ⟨rfl, rfl, rfl⟩ := trodAll_nil r0
  obtain rfl : args = #[v0] := by cases args; simp_all
  obtain ⟨rfl, rfl⟩ := trodVars_none hV
  obtain ⟨f0, A0, M0, p0, rfl, hf0, hs0, ho0⟩ := open_tri (hval 0 24 v0 rfl rfl) h0
  refine (ladderFactors_walk W f0 A0 M0 p0 hf0 hs0 ho0 hg).mono fun e W' ⟨he, hb⟩ => ?_
  subst he
  exact ⟨_, rfl, law_post laidOut (by kernel_rfl) rfl Tryd.underlying4 rfl rfl hW' hb⟩

/-- THE STATEMENT. -/
theorem ladderFactors_holds : Rows.LadderFactorsSaid :=
  OpenClaim.holds_of_wide 3 Tryd.f3 rfl rfl rfl rfl rfl rfl rfl ⟨rfl, rfl, rfl, rfl, rfl⟩ rfl rfl rfl rfl rfl (by kernel_rfl) Tryd.func3 (by kernel_rfl)
    (of_decide_eq_true (by kernel_rfl)) (by unfold Func.isWrapper; first | (rw [if_pos (by decide +kernel)]; kernel_rfl) | (rw [if_neg (by decide +kernel)]; exact ⟨rfl, rfl⟩))
    (fun os started H enc _ => ladderFactors_lifted os started H enc)

/-- THE CARD. -/
theorem ladderFactors_card : Rows.LadderFactorsCardSaid :=
  Claim7.holds_tied_plain_at .later [] [.handle] true (true, "bdcda131af11127666d7c96b4cf135cd643b2f670ab3ee630936f5b9de6127d0") true
    ladderFactors_holds (fun _ h => by cases h) (by kernel_rfl) (fun _ h => by cases h) ladderFactors_row_tie rfl ⟨rfl, rfl⟩ (by kernel_rfl) rfl
    (fun f fn hf hfn => by
      obtain rfl : f = 3 := Option.some.inj ((show Tryd.prog.funcNamed "bordereau/bordereaulaw22.LadderFactors" = some 3 by kernel_rfl).symm.trans hf) |>.symm
      obtain rfl : fn = Tryd.f3 := (Option.some.inj (Tryd.func3.symm.trans hfn)).symm
      exact ⟨by kernel_rfl, fun j t ht => by
        rw [Tryd.params3] at ht
        have h3 : t = 24 := by
          rcases j with _ | j
          · simpa using ht.symm
          · simp at ht
        subst h3
        exact (show Tryd.prog.wantsStandIn 24 = false by kernel_rfl)⟩)
    (by kernel_rfl)
end Go.Proofs.YtndfgglnhkdciaaDoor
