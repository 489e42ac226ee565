/- LadderFirst: the first year has nothing left. -/
import Derived.Test.YtndfgglnhkdciaaDoorLadZ
import Derived.Test.YtndfgglnhkdciaaDoorTie
import Derived.Test.YtndfgglnhkdciaaDoorCards
import Derived.SevenTiedAt
namespace Go.Proofs.YtndfgglnhkdciaaDoor
open Go.ChangeShapes Go.WideShapes Go.ChangeAt Go.RowKit
set_option linter.unusedVariables false

theorem ultC_code (f : Int) (c : List (List Int)) (hr : rightC f c = true) : ((ultC f c).2 = 0 ∧ (ultC f c).1.length = c.length) ∨ ((ultC f c).2 = 5 ∧ (ultC f c).1 = []) := by
  rw [ultC, if_pos hr]
  rcases allN_code (facL c) c with h | h
  · exact .inl ⟨h, allN_len h⟩
  · exact .inr h
/-- The first year has nothing left. -/
theorem first_zero {f : Int} {c : List (List Int)} (hr : rightC f c = true) (h0 : (ultC f c).2 = 0) : (lefts (castL (ultC f c).1) (diagL f c))[0]? = some 0 := by
  have hbd := right_bounds hr
  obtain ⟨l, hl⟩ := get_of (l := c) (k := 0) (by omega)
  have hll := (right_row hr hl).1
  cases c with
  | nil => simp at hl
  | cons l' r =>
    simp at hl
    subst hl
    have hok := (right_okC hr).2 l' (by simp)
    simp only [List.length_cons, Nat.sub_zero] at hll
    rw [ultC, if_pos hr] at h0 ⊢
    rw [diagL, if_pos hr]
    simp only [allN] at h0 ⊢
    have hd : (facL (l' :: r)).drop (l'.length - 1) = [] := List.drop_of_length_le (by rw [facL_len, List.length_cons]; omega)
    rw [hd] at h0 ⊢
    simp only [growN, if_pos] at h0 ⊢
    have hs : (allN (facL (l' :: r)) r).2 = 0 := by
      rcases allN_code (facL (l' :: r)) r with h | ⟨h, _⟩
      · exact h
      · rw [h] at h0; simp at h0
    rw [if_pos hs]
    obtain ⟨v, hv⟩ := get_of (l := l') (k := l'.length - 1) (by omega)
    have h1 := celN_eq hok hv
    simp only [lefts, castL, List.map_cons, List.zipWith_cons_cons, List.getElem?_cons_zero]
    rw [lastI, List.getLast?_eq_getElem?, hv, ← h1]
    simp

set_option maxRecDepth 100000 in
set_option maxHeartbeats 4000000 in
theorem ladderFirst_walk (w : World) (f : Int) (A : Option Addr) (M : List Rw) (cap : Nat) (hf : ok64 f) (hs : MV w A M.length cap M) (_ho : ∀ r ∈ M, ∀ n ∈ r.l, ok64 n) (hg : Hdl w) :
    Calls Tryd.prog 5 #[.agg #[.int .i64 f, .slice A M.length cap]] w fun e w' => e = .returned (.bool true) ∧ Below w.heap.size w w' := by
  have HS := hide hs
  have HG := hide hg
  clear hs hg
  go_enter Tryd.func5, Tryd.ntmps5
  go_wp2_with fail
  obtain ⟨wa, hwa⟩ : ∃ W, w.alloc (.cells #[.int .i64 f, .slice A M.length cap] 24) = W := ⟨_, rfl⟩
  have ka : Blk wa w.heap.size 24 #[.int .i64 f, .slice A M.length cap] := by rw [← hwa]; exact Blk.new _ _ _
  have ba : Below w.heap.size w wa := by rw [← hwa]; exact (Below.refl _ _).alloc (Nat.le_refl _) _
  rw [hwa]
  obtain ⟨X, hX⟩ : ∃ X, w.heap.size = X := ⟨_, rfl⟩
  rw [hX] at ka ⊢
  refine (awake22_b HG.out ba).mono ?_
  rintro e w1 ⟨rfl, h1, hb1⟩
  have H1 := hide h1
  have HK1 := hide (ka.below hb1 ka.lt)
  have x0 := HK1.out.cell 0
  have x1 := HK1.out.cell 1
  simp only [List.getElem?_toArray, List.getElem?_cons_zero, List.getElem?_cons_succ] at x0 x1
  have HX := hide hX
  clear hwa ka ba h1 hb1 hX
  go_wp2_with fail
  refine (few22_any f A cap M _ (HS.out.below H1.out)).mono ?_
  rintro e w2 ⟨⟨b, rfl, hfew⟩, hb2⟩
  have H2 := hide (chain H1.out hb2)
  have HK2 := hide (HK1.out.below hb2 HK1.out.lt)
  clear hb2
  cases b
  · go_wp2_with fail
    go_ret
    rw [HX.out]
    have := H2.out
    rw [HX.out] at this
    exact ⟨rfl, this⟩
  have x0 := HK2.out.cell 0
  have x1 := HK2.out.cell 1
  simp only [List.getElem?_toArray, List.getElem?_cons_zero, List.getElem?_cons_succ] at x0 x1
  clear hfew
  go_wp2_with fail
  refine (right_any f A cap M _ (HS.out.below H2.out) hf).mono ?_
  rintro e w3 ⟨rfl, hb3⟩
  have H3 := hide (chain H2.out hb3)
  have HK3 := hide (HK2.out.below hb3 HK2.out.lt)
  clear hb3
  obtain ⟨r, hr⟩ : ∃ b, rightC f (allM M) = b := ⟨_, rfl⟩
  rw [hr]
  cases r
  · clear hr
    go_wp2_with fail
    go_ret
    have := H3.out
    rw [HX.out] at this ⊢
    exact ⟨rfl, this⟩
  have x0 := HK3.out.cell 0
  have x1 := HK3.out.cell 1
  simp only [List.getElem?_toArray, List.getElem?_cons_zero, List.getElem?_cons_succ] at x0 x1
  have hbd := right_bounds hr
  rw [allM_len] at hbd
  obtain ⟨nF, hnF⟩ : ∃ n, (facL (allM M)).length = n := ⟨_, rfl⟩
  have hmi : (M.length : Int) - 1 = (nF : Int) := by
    have := hnF
    rw [facL_len, allM_len] at this
    omega
  have HFA := hide (fun w hs => factors_any f A cap M w hs hf)
  rw [hr, hnF] at HFA
  have HUA := hide (fun w hs hg => ult_any f A cap M w hs hf hg)
  have HLA := hide (fun w hs hg => left_any f A cap M w hs hf hg)
  have HDA := hide (fun w hs => diag_any f A cap M w hs hf)
  have hcode := ultC_code f (allM M) hr
  have hz0 := first_zero (f := f) (c := allM M) hr
  have hul := ultC_len f (allM M)
  have hue := ultC_le f (allM M)
  have hde := diagL_mem f (allM M)
  have hD : (diagL f (allM M)).length = M.length := by rw [diagL, if_pos hr, List.length_map, allM_len]
  obtain ⟨D, hDe⟩ : ∃ D, diagL f (allM M) = D := ⟨_, rfl⟩
  rw [hDe] at HLA HDA hz0 hul hde hD
  rw [hD] at hul
  obtain ⟨s, hs⟩ : ∃ s, ultC f (allM M) = s := ⟨_, rfl⟩
  rw [hs] at HUA HLA hcode hz0 hul hue
  obtain ⟨L, k⟩ := s
  simp only at HLA hcode hz0 hul hue
  rw [allM_len] at hcode
  have HD := hide hD
  have HUE := hide hue
  have HDE := hide hde
  clear hr hnF hs hDe hul hue hde hD
  go_wp2_with fail
  refine (HFA.out _ (HS.out.below H3.out)).mono ?_
  rintro e w4 ⟨-, hyes, hb4, -⟩
  obtain ⟨A4, c4, rfl, -⟩ := hyes rfl
  have H4 := hide (chain H3.out hb4)
  have HK4 := hide (HK3.out.below hb4 HK3.out.lt)
  clear hyes hb4
  have x0 := HK4.out.cell 0
  have x1 := HK4.out.cell 1
  simp only [List.getElem?_toArray, List.getElem?_cons_zero, List.getElem?_cons_succ] at x0 x1
  go_wp2_with fail
  refine (HUA.out _ (HS.out.below H4.out) (HG.out.below H4.out)).mono ?_
  rintro e w5 ⟨A5, c5, rfl, ho5, hb5, -⟩
  have H5 := hide (chain H4.out hb5)
  have HK5 := hide (HK4.out.below hb5 HK4.out.lt)
  have HO5 := hide ho5.sv
  clear hb5 ho5
  have x0 := HK5.out.cell 0
  have x1 := HK5.out.cell 1
  simp only [List.getElem?_toArray, List.getElem?_cons_zero, List.getElem?_cons_succ] at x0 x1
  go_wp2_with fail
  refine (HLA.out _ (HS.out.below H5.out) (HG.out.below H5.out)).mono ?_
  rintro e w6 ⟨A6, c6, rfl, ho6, hb6, -⟩
  have H6 := hide (chain H5.out hb6)
  have HK6 := hide (HK5.out.below hb6 HK5.out.lt)
  have HO6 := hide ho6.sv
  have HO56 := hide (HO5.out.below hb6)
  clear hb6 ho6
  have x0 := HK6.out.cell 0
  have x1 := HK6.out.cell 1
  simp only [List.getElem?_toArray, List.getElem?_cons_zero, List.getElem?_cons_succ] at x0 x1
  go_wp2_with fail
  refine (HDA.out _ (HS.out.below H6.out)).mono ?_
  rintro e w7 ⟨A7, c7, rfl, hs7, hb7⟩
  have H7 := hide (chain H6.out hb7)
  have HK7 := hide (HK6.out.below hb7 HK6.out.lt)
  have HO7 := hide hs7
  have HO57 := hide (HO56.out.below hb7)
  have HO67 := hide (HO6.out.below hb7)
  rw [HD.out] at HO7 ⊢
  clear hb7 hs7
  have x0 := HK7.out.cell 0
  have x1 := HK7.out.cell 1
  simp only [List.getElem?_toArray, List.getElem?_cons_zero, List.getElem?_cons_succ] at x0 x1
  rcases hcode with ⟨rfl, hL⟩ | ⟨rfl, rfl⟩
  case inr =>
    simp only [List.length_nil]
    clear hz0
    go_wp2_with fail
    go_ret
    have := H7.out
    rw [HX.out] at this ⊢
    exact ⟨rfl, this⟩
  rw [hL] at HO57 HO67 ⊢
  have hz := hz0 rfl
  obtain ⟨n, hn⟩ : ∃ n, M.length = n := ⟨_, rfl⟩
  rw [hn] at hbd
  have hne : (n == 0) = false := by simp; omega
  have hn1 : 1 ≤ n := hbd.1
  have hn20 : n ≤ 20 := hbd.2
  have hnz : ¬ (n : Int) = 0 := by omega
  obtain ⟨Z, hZ⟩ : ∃ Z, lefts (castL L) D = Z := ⟨_, rfl⟩
  have hZl : Z.length = n := by rw [← hZ, lefts, List.length_zipWith, castL_len, HD.out, hL, hn, Nat.min_self]
  have HZL := hide hZl
  have HLL := hide (show L.length = n by rw [hL, hn])
  have HZE := hide hZ
  have HDL := hide (show D.length = n by rw [HD.out, hn])
  rw [hZ] at HO67 hz
  have HZ0 := hide hz
  clear hz0 hZ hZl hz hL
  go_wp2_with fail
  go_loopw [12] (fun q wr => ∃ j : Nat, j ≤ n ∧ q = .int .i64 j ∧ Below w7.heap.size w7 wr) (fun q _ => n - (RowKit.intOf q).toNat)
  case atStart => exact ⟨0, Nat.zero_le _, rfl, Below.refl _ _⟩
  case round =>
    obtain ⟨j, hj, rfl, hb⟩ := hrel
    have hq5 := HO57.out.le
    have hq6 := HO67.out.le
    have hq7 := HO7.out.le
    rw [hn] at hq5 hq6 hq7
    have HB := hide hb
    by_cases hlt : j < n
    · obtain ⟨u, hu⟩ := get_of (l := L) (k := j) (by rw [HLL.out]; exact hlt)
      obtain ⟨d, hd⟩ := get_of (l := D) (k := j) (by rw [HDL.out]; exact hlt)
      have hcu : (castL L)[j]? = some (u : Int) := by rw [castL, List.getElem?_map, hu]; rfl
      have hz : Z[j]? = some ((u : Int) - d) := by rw [← HZE.out, lefts, List.getElem?_zipWith, hcu, hd]
      have hu2 := HUE.out u (List.mem_of_getElem? hu)
      have hd2 := HDE.out d (List.mem_of_getElem? hd)
      obtain ⟨b5, o5, rfl, hb5, y0⟩ := (HO57.out.below hb).sl.i hcu
      obtain ⟨b7, o7, rfl, hb7, y1⟩ := (HO7.out.below hb).sl.i hd
      obtain ⟨b6, o6, rfl, hb6, y2⟩ := (HO67.out.below hb).sl.i hz
      obtain ⟨z, hze⟩ : ∃ z, (u : Int) - d = z := ⟨_, rfl⟩
      rw [hze] at y2
      have hw : IntKind.i64.wrap (d + z) = (u : Int) := by rw [← hze, IntWalk.i64_in _ (by omega)]; omega
      have hu0 : ¬ (u : Int) < 0 := by omega
      have hk0 : (0 : Int) ≤ (j : Int) := by omega
      have hk2 : (j : Int) < (n : Int) := by omega
      have hle0 : (0 : Int) ≤ (u : Int) := by omega
      clear hb hu hd hcu hz hze
      go_upto_region 18 with fail
      refine wp_region_class (fun W => Below wr.heap.size wr W) (by kernel_rfl) (by kernel_rfl) (Below.refl _ _).drew ?_
      repeat (first
        | go_big_quiet_skip
        | (go_big_quiet_want
           first
             | (go_big_quiet_op
                go_big_quiet_on)
             | (refine quiet_yield (v := ?_) ?_ ?_
                rotate_left
                · intro W hW
                  have y0 := kept hW y0
                  have y1 := kept hW y1
                  have y2 := kept hW y2
                  clear hW
                  go_simp
                  try with_reducible rfl
                simp only [Act.put, List.setIfInBounds_toArray, List.set_cons_zero, List.set_cons_succ]
                go_big_quiet_on)))
      refine wpQuiet_nil ?_
      intro W hW
      have HW := hide (chain HB.out hW)
      clear hW y0 y1 y2 hw
      go_wp2_with fail
      go_roundw
      case rel => exact ⟨j + 1, by omega, by go_num, HW.out⟩
      case measure => simp [RowKit.intOf]; omega
    · obtain rfl : j = n := by omega
      obtain ⟨b6, o6, rfl, hb6, y2⟩ := (HO67.out.below hb).sl.i HZ0.out
      rw [Nat.add_zero] at y2
      have hk1 : ¬ (j : Int) < (j : Int) := by omega
      have hk3 : (0 : Int) < (j : Int) := by omega
      have H8 := hide (chain H7.out hb)
      clear hb
      go_wp2_with fail
      go_ret
      have := H8.out
      rw [HX.out] at this ⊢
      exact ⟨rfl, this⟩

set_option maxRecDepth 100000 in
theorem ladderFirst_lifted (os : Os) (started : os.Started) (H : Type) (enc : TypeId × Value → H) :
    ReturnsInHanded {} Tryd.checked os 5 .any (fun w args => (Rows.ladderFirstSpec.pre enc Tryd.prog Tryd.f5 Rows.ladderFirstRow.domain false w args ∧ laidMetH Tryd.prog [("errors.errorType", Rows.laid_errors_errorType)] w) ∧ sizedMet enc Tryd.prog Tryd.f5 (OpenSpec.ofChange Rows.ladderFirstSpec) false w args) (Rows.ladderFirstSpec.post enc Tryd.prog Tryd.f5 false true false false) := by
  refine returnsInHanded_of_change_and (C := Tryd.checked) (X := fun w _ => laidMetH Tryd.prog [("errors.errorType", Rows.laid_errors_errorType)] w) (fun _ _ _ hh h => h.of_heap hh) own started (by kernel_rfl) Tryd.func5
    (ChangeSpec.witness_at (enc := enc) (C := Tryd.checked) (os := os) (X := fun w _ => laidMetH Tryd.prog [("errors.errorType", Rows.laid_errors_errorType)] w) false (laidWorld os) #[.agg #[.int .i64 0, .slice none 0 0]] 8 rfl (by kernel_rfl) (by kernel_rfl) (by kernel_rfl) (by kernel_rfl) (by kernel_rfl) (laidWorld_met os _)) ?_
  intro W base args ds gs before hval0 hW hcnd hz0 hL _
  have hval : ∀ (j : Nat) t v, Tryd.f5.params[j]? = some t → args[j]? = some v → Value.okWide Tryd.prog W .any base t v := hval0
  have hg := handle_of_laid hL
  have hW' := hW
  obtain ⟨p, q, hA0, hV, rfl, hfz, hnd⟩ := hW
  have hA : DataW.TrodAll enc Tryd.prog W 0 (fun _ => true) true Tryd.f5.params.toList args.toList ds p := hA0
  rw [Tryd.params5] at hA hval
  obtain ⟨v0, vs0, d0, ds0, p0, q0, hargs, rfl, rfl, h0, r0⟩ := trodAll_cons hA
  obtain ⟨rfl, rfl, rfl⟩ := trodAll_nil r0
  obtain rfl : args = #[v0] := by cases args; simp_all
  obtain ⟨rfl, rfl⟩ := trodVars_none hV
  obtain ⟨f0, A0, M0, p0, rfl, hf0, hs0, ho0⟩ := open_tri (hval 0 24 v0 rfl rfl) h0
  refine (ladderFirst_walk W f0 A0 M0 p0 hf0 hs0 ho0 hg).mono fun e W' ⟨he, hb⟩ => ?_
  subst he
  exact ⟨_, rfl, law_post laidOut (by kernel_rfl) rfl Tryd.underlying4 rfl rfl hW' hb⟩

/-- THE STATEMENT. -/
theorem ladderFirst_holds : Rows.LadderFirstSaid :=
  OpenClaim.holds_of_wide 5 Tryd.f5 rfl rfl rfl rfl rfl rfl rfl ⟨rfl, rfl, rfl, rfl, rfl⟩ rfl rfl rfl rfl rfl (by kernel_rfl) Tryd.func5 (by kernel_rfl)
    (of_decide_eq_true (by kernel_rfl)) (by unfold Func.isWrapper; first | (rw [if_pos (by decide +kernel)]; kernel_rfl) | (rw [if_neg (by decide +kernel)]; exact ⟨rfl, rfl⟩))
    (fun os started H enc _ => ladderFirst_lifted os started H enc)

/-- THE CARD. -/
theorem ladderFirst_card : Rows.LadderFirstCardSaid :=
  Claim7.holds_tied_plain_at .later [] [.handle] true (true, "bdcda131af11127666d7c96b4cf135cd643b2f670ab3ee630936f5b9de6127d0") true
    ladderFirst_holds (fun _ h => by cases h) (by kernel_rfl) (fun _ h => by cases h) ladderFirst_row_tie rfl ⟨rfl, rfl⟩ (by kernel_rfl) rfl
    (fun f fn hf hfn => by
      obtain rfl : f = 5 := Option.some.inj ((show Tryd.prog.funcNamed "bordereau/bordereaulaw22.LadderFirst" = some 5 by kernel_rfl).symm.trans hf) |>.symm
      obtain rfl : fn = Tryd.f5 := (Option.some.inj (Tryd.func5.symm.trans hfn)).symm
      exact ⟨by kernel_rfl, fun j t ht => by
        rw [Tryd.params5] at ht
        have h3 : t = 24 := by
          rcases j with _ | j
          · simpa using ht.symm
          · simp at ht
        subst h3
        exact (show Tryd.prog.wantsStandIn 24 = false by kernel_rfl)⟩)
    (by kernel_rfl)
end Go.Proofs.YtndfgglnhkdciaaDoor
