/- LadderTells: what years become, and what is left, is as the document says. -/
import Derived.Test.YtndfgglnhkdciaaDoorLadZ
import Derived.Test.YtndfgglnhkdciaaDoorTie
import Derived.Test.YtndfgglnhkdciaaDoorCards
import Derived.SevenTiedAt
namespace Go.Proofs.YtndfgglnhkdciaaDoor
open Go.ChangeShapes Go.WideShapes Go.ChangeAt Go.RowKit
set_option linter.unusedVariables false

set_option maxRecDepth 100000 in
set_option maxHeartbeats 4000000 in
theorem ladderTells_walk (w : World) (f : Int) (A : Option Addr) (M : List Rw) (cap : Nat) (hf : ok64 f) (hs : MV w A M.length cap M) (_ho : ∀ r ∈ M, ∀ n ∈ r.l, ok64 n) (hg : Hdl w) :
    Calls Tryd.prog 4 #[.agg #[.int .i64 f, .slice A M.length cap]] w fun e w' => e = .returned (.bool true) ∧ Below w.heap.size w w' := by
  have HS := hide hs
  have HG := hide hg
  clear hs hg
  go_enter Tryd.func4, Tryd.ntmps4
  go_wp2_with fail
  obtain ⟨wa, hwa⟩ : ∃ W, w.alloc (.cells #[.int .i64 f, .slice A M.length cap] 24) = W := ⟨_, rfl⟩
  have ka : Blk wa w.heap.size 24 #[.int .i64 f, .slice A M.length cap] := by rw [← hwa]; exact Blk.new _ _ _
  have ba : Below w.heap.size w wa := by rw [← hwa]; exact (Below.refl _ _).alloc (Nat.le_refl _) _
  rw [hwa]
  obtain ⟨X, hX⟩ : ∃ X, w.heap.size = X := ⟨_, rfl⟩
  rw [hX] at ka ⊢
  refine (awake22_b HG.out ba).mono ?_
  rintro e w1 ⟨rfl, h1, hb1⟩
  have H1 := hide h1
  have HK1 := hide (ka.below hb1 ka.lt)
  have x0 := HK1.out.cell 0
  have x1 := HK1.out.cell 1
  simp only [List.getElem?_toArray, List.getElem?_cons_zero, List.getElem?_cons_succ] at x0 x1
  have HX := hide hX
  clear hwa ka ba h1 hb1 hX
  go_wp2_with fail
  refine (few22_any f A cap M _ (HS.out.below H1.out)).mono ?_
  rintro e w2 ⟨⟨b, rfl, hfew⟩, hb2⟩
  have H2 := hide (chain H1.out hb2)
  have HK2 := hide (HK1.out.below hb2 HK1.out.lt)
  clear hb2
  cases b
  · go_wp2_with fail
    go_ret
    rw [HX.out]
    have := H2.out
    rw [HX.out] at this
    exact ⟨rfl, this⟩
  have x0 := HK2.out.cell 0
  have x1 := HK2.out.cell 1
  simp only [List.getElem?_toArray, List.getElem?_cons_zero, List.getElem?_cons_succ] at x0 x1
  clear hfew
  have hn20 : (ultC f (allM M)).1.length ≤ 20 := Nat.le_trans (ultC_len f (allM M)) (diagL_len f (allM M))
  have hZl : (lefts (castL (ultC f (allM M)).1) (diagL f (allM M))).length = (ultC f (allM M)).1.length := by
    have := ultC_len f (allM M)
    rw [lefts, List.length_zipWith, castL_len]; omega
  have HU := hide (fun w hs hg => ult_any f A cap M w hs hf hg)
  have HUR := hide (fun w hs => ultR_any f A cap M w hs hf)
  have HL := hide (fun w hs hg => left_any f A cap M w hs hf hg)
  have HLR := hide (fun w hs => leftR_any f A cap M w hs hf)
  obtain ⟨Z, hZ⟩ : ∃ Z, lefts (castL (ultC f (allM M)).1) (diagL f (allM M)) = Z := ⟨_, rfl⟩
  rw [hZ] at hZl HL HLR
  obtain ⟨s, hs⟩ : ∃ s, ultC f (allM M) = s := ⟨_, rfl⟩
  rw [hs] at HU HUR HL HLR hn20 hZl
  clear hs hZ
  obtain ⟨L, k⟩ := s
  simp only at hn20 hZl HL HLR
  obtain ⟨n, hn⟩ : ∃ n, L.length = n := ⟨_, rfl⟩
  simp only [hn] at HU HUR HL HLR hn20
  clear hn hZl
  go_wp2_with fail
  refine (HU.out _ (HS.out.below H2.out) (HG.out.below H2.out)).mono ?_
  rintro e w3 ⟨A3, c3, rfl, ho3, hb3, -⟩
  have H3 := hide (chain H2.out hb3)
  have HK3 := hide (HK2.out.below hb3 HK2.out.lt)
  have HO3 := hide ho3.sv
  clear hb3 ho3
  have x0 := HK3.out.cell 0
  have x1 := HK3.out.cell 1
  simp only [List.getElem?_toArray, List.getElem?_cons_zero, List.getElem?_cons_succ] at x0 x1
  go_wp2_with fail
  refine (HUR.out _ (HS.out.below H3.out)).mono ?_
  rintro e w4 ⟨A4, c4, rfl, ho4, hb4, -⟩
  have H4 := hide (chain H3.out hb4)
  have HK4 := hide (HK3.out.below hb4 HK3.out.lt)
  have HO4 := hide ho4.sv
  have HO34 := hide (HO3.out.below hb4)
  clear hb4 ho4
  have x0 := HK4.out.cell 0
  have x1 := HK4.out.cell 1
  simp only [List.getElem?_toArray, List.getElem?_cons_zero, List.getElem?_cons_succ] at x0 x1
  go_wp2_with fail
  refine (HL.out _ (HS.out.below H4.out) (HG.out.below H4.out)).mono ?_
  rintro e w5 ⟨A5, c5, rfl, ho5, hb5, -⟩
  have H5 := hide (chain H4.out hb5)
  have HK5 := hide (HK4.out.below hb5 HK4.out.lt)
  have HO5 := hide ho5.sv
  have HO35 := hide (HO34.out.below hb5)
  have HO45 := hide (HO4.out.below hb5)
  clear hb5 ho5
  have x0 := HK5.out.cell 0
  have x1 := HK5.out.cell 1
  simp only [List.getElem?_toArray, List.getElem?_cons_zero, List.getElem?_cons_succ] at x0 x1
  go_wp2_with fail
  refine (HLR.out _ (HS.out.below H5.out)).mono ?_
  rintro e w6 ⟨A6, c6, rfl, ho6, hb6, -⟩
  have H6 := hide (chain H5.out hb6)
  have HO6 := hide ho6.sv
  have HO36 := hide (HO35.out.below hb6)
  have HO46 := hide (HO45.out.below hb6)
  have HO56 := hide (HO5.out.below hb6)
  have hkk : (k == k) = true := by simp
  clear hb6 ho6 x0 x1
  go_wp2_with fail
  refine (same22_b HO36.out HO46.out (by omega) H6.out).mono ?_
  rintro e w7 ⟨rfl, h7, hb7⟩
  have H7 := hide h7
  have HO57 := hide (HO56.out.below hb7)
  have HO67 := hide (HO6.out.below hb7)
  clear h7 hb7
  go_wp2_with fail
  refine (same22_b HO57.out HO67.out (by omega) H7.out).mono ?_
  rintro e w8 ⟨rfl, h8, -⟩
  go_wp2_with fail
  go_ret
  rw [HX.out] at h8 ⊢
  exact ⟨rfl, h8⟩

set_option maxRecDepth 100000 in
theorem ladderTells_lifted (os : Os) (started : os.Started) (H : Type) (enc : TypeId × Value → H) :
    ReturnsInHanded {} Tryd.checked os 4 .any (fun w args => (Rows.ladderTellsSpec.pre enc Tryd.prog Tryd.f4 Rows.ladderTellsRow.domain false w args ∧ laidMetH Tryd.prog [("errors.errorType", Rows.laid_errors_errorType)] w) ∧ sizedMet enc Tryd.prog Tryd.f4 (OpenSpec.ofChange Rows.ladderTellsSpec) false w args) (Rows.ladderTellsSpec.post enc Tryd.prog Tryd.f4 false true false false) := by
  refine returnsInHanded_of_change_and (C := Tryd.checked) (X := fun w _ => laidMetH Tryd.prog [("errors.errorType", Rows.laid_errors_errorType)] w) (fun _ _ _ hh h => h.of_heap hh) own started (by kernel_rfl) Tryd.func4
    (ChangeSpec.witness_at (enc := enc) (C := Tryd.checked) (os := os) (X := fun w _ => laidMetH Tryd.prog [("errors.errorType", Rows.laid_errors_errorType)] w) false (laidWorld os) #[.agg #[.int .i64 0, .slice none 0 0]] 8 rfl (by kernel_rfl) (by kernel_rfl) (by kernel_rfl) (by kernel_rfl) (by kernel_rfl) (laidWorld_met os _)) ?_
  intro W base args ds gs before hval0 hW hcnd hz0 hL _
  have hval : ∀ (j : Nat) t v, Tryd.f4.params[j]? = some t → args[j]? = some v → Value.okWide Tryd.prog W .any base t v := hval0
  have hg := handle_of_laid hL
  have hW' := hW
  obtain ⟨p, q, hA0, hV, rfl, hfz, hnd⟩ := hW
  have hA : DataW.TrodAll enc Tryd.prog W 0 (fun _ => true) true Tryd.f4.params.toList args.toList ds p := hA0
  rw [Tryd.params4] at hA hval
  obtain ⟨v0, vs0, d0, ds0, p0, q0, hargs, rfl, rfl, h0, r0⟩ := trodAll_cons hA
  obtain ⟨rfl, rfl, rfl⟩ := trodAll_nil r0
  obtain rfl : args = #[v0] := by cases args; simp_all
  obtain ⟨rfl, rfl⟩ := trodVars_none hV
  obtain ⟨f0, A0, M0, p0, rfl, hf0, hs0, ho0⟩ := open_tri (hval 0 24 v0 rfl rfl) h0
  refine (ladderTells_walk W f0 A0 M0 p0 hf0 hs0 ho0 hg).mono fun e W' ⟨he, hb⟩ => ?_
  subst he
  exact ⟨_, rfl, law_post laidOut (by kernel_rfl) rfl Tryd.underlying4 rfl rfl hW' hb⟩

/-- THE STATEMENT. -/
theorem ladderTells_holds : Rows.LadderTellsSaid :=
  OpenClaim.holds_of_wide 4 Tryd.f4 rfl rfl rfl rfl rfl rfl rfl ⟨rfl, rfl, rfl, rfl, rfl⟩ rfl rfl rfl rfl rfl (by kernel_rfl) Tryd.func4 (by kernel_rfl)
    (of_decide_eq_true (by kernel_rfl)) (by unfold Func.isWrapper; first | (rw [if_pos (by decide +kernel)]; kernel_rfl) | (rw [if_neg (by decide +kernel)]; exact ⟨rfl, rfl⟩))
    (fun os started H enc _ => ladderTells_lifted os started H enc)

/-- THE CARD. -/
theorem ladderTells_card : Rows.LadderTellsCardSaid :=
  Claim7.holds_tied_plain_at .later [] [.handle] true (true, "bdcda131af11127666d7c96b4cf135cd643b2f670ab3ee630936f5b9de6127d0") true
    ladderTells_holds (fun _ h => by cases h) (by kernel_rfl) (fun _ h => by cases h) ladderTells_row_tie rfl ⟨rfl, rfl⟩ (by kernel_rfl) rfl
    (fun f fn hf hfn => by
      obtain rfl : f = 4 := Option.some.inj ((show Tryd.prog.funcNamed "bordereau/bordereaulaw22.LadderTells" = some 4 by kernel_rfl).symm.trans hf) |>.symm
      obtain rfl : fn = Tryd.f4 := (Option.some.inj (Tryd.func4.symm.trans hfn)).symm
      exact ⟨by kernel_rfl, fun j t ht => by
        rw [Tryd.params4] at ht
        have h3 : t = 24 := by
          rcases j with _ | j
          · simpa using ht.symm
          · simp at ht
        subst h3
        exact (show Tryd.prog.wantsStandIn 24 = false by kernel_rfl)⟩)
    (by kernel_rfl)
end Go.Proofs.YtndfgglnhkdciaaDoor
