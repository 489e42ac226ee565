/- LadderRises: where no row falls nothing that is left is below 0. -/
import Derived.Test.YtndfgglnhkdciaaDoorLadP
import Derived.Test.YtndfgglnhkdciaaDoorTie
import Derived.Test.YtndfgglnhkdciaaDoorCards
import Derived.SevenTiedAt
namespace Go.Proofs.YtndfgglnhkdciaaDoor
open Go.ChangeShapes Go.WideShapes Go.ChangeAt Go.RowKit
set_option linter.unusedVariables false

set_option maxRecDepth 100000 in
set_option maxHeartbeats 4000000 in
theorem ladderRises_walk (w : World) (f : Int) (A : Option Addr) (M : List Rw) (cap : Nat) (hf : ok64 f) (hs : MV w A M.length cap M) (_ho : ∀ r ∈ M, ∀ n ∈ r.l, ok64 n) (hg : Hdl w) :
    Calls Tryd.prog 7 #[.agg #[.int .i64 f, .slice A M.length cap]] w fun e w' => e = .returned (.bool true) ∧ Below w.heap.size w w' := by
  have HS := hide hs
  have HG := hide hg
  clear hs hg
  go_enter Tryd.func7, Tryd.ntmps7
  go_wp2_with fail
  obtain ⟨wa, hwa⟩ : ∃ W, w.alloc (.cells #[.int .i64 f, .slice A M.length cap] 24) = W := ⟨_, rfl⟩
  have ka : Blk wa w.heap.size 24 #[.int .i64 f, .slice A M.length cap] := by rw [← hwa]; exact Blk.new _ _ _
  have ba : Below w.heap.size w wa := by rw [← hwa]; exact (Below.refl _ _).alloc (Nat.le_refl _) _
  rw [hwa]
  obtain ⟨X, hX⟩ : ∃ X, w.heap.size = X := ⟨_, rfl⟩
  rw [hX] at ka ⊢
  refine (awake22_b HG.out ba).mono ?_
  rintro e w1 ⟨rfl, h1, hb1⟩
  have H1 := hide h1
  have HK1 := hide (ka.below hb1 ka.lt)
  have x0 := HK1.out.cell 0
  have x1 := HK1.out.cell 1
  simp only [List.getElem?_toArray, List.getElem?_cons_zero, List.getElem?_cons_succ] at x0 x1
  have HX := hide hX
  clear hwa ka ba h1 hb1 hX
  go_wp2_with fail
  refine (few22_any f A cap M _ (HS.out.below H1.out)).mono ?_
  rintro e w2 ⟨⟨b, rfl, hfew⟩, hb2⟩
  have H2 := hide (chain H1.out hb2)
  have HK2 := hide (HK1.out.below hb2 HK1.out.lt)
  clear hb2
  cases b
  · go_wp2_with fail
    go_ret
    rw [HX.out]
    have := H2.out
    rw [HX.out] at this
    exact ⟨rfl, this⟩
  have x0 := HK2.out.cell 0
  have x1 := HK2.out.cell 1
  simp only [List.getElem?_toArray, List.getElem?_cons_zero, List.getElem?_cons_succ] at x0 x1
  clear hfew
  go_wp2_with fail
  refine (right_any f A cap M _ (HS.out.below H2.out) hf).mono ?_
  rintro e w3 ⟨rfl, hb3⟩
  have H3 := hide (chain H2.out hb3)
  have HK3 := hide (HK2.out.below hb3 HK2.out.lt)
  clear hb3
  obtain ⟨r, hr⟩ : ∃ b, rightC f (allM M) = b := ⟨_, rfl⟩
  rw [hr]
  cases r
  · clear hr
    go_wp2_with fail
    go_ret
    have := H3.out
    rw [HX.out] at this ⊢
    exact ⟨rfl, this⟩
  have x0 := HK3.out.cell 0
  have x1 := HK3.out.cell 1
  simp only [List.getElem?_toArray, List.getElem?_cons_zero, List.getElem?_cons_succ] at x0 x1
  have hbd := right_bounds hr
  rw [allM_len] at hbd
  have hok := (right_okC hr).2
  have HR := hide hr
  have HOK := hide hok
  have X1 := hide x1
  clear hok x0 x1
  go_wp2_with fail
  go_loopw [5] (fun q wr => ∃ j : Nat, j ≤ M.length ∧ q = .int .i64 j ∧ (∀ l ∈ (allM M).take j, Mono l) ∧ Below w3.heap.size w3 wr) (fun q _ => M.length - (RowKit.intOf q).toNat)
  case atStart => exact ⟨0, Nat.zero_le _, rfl, by simp, Below.refl _ _⟩
  case round =>
    obtain ⟨j, hj, rfl, hmono, hb⟩ := hrel
    have HB := hide hb
    have HM := hide hmono
    have x1 := kept hb X1.out
    by_cases hlt : j < M.length
    · obtain ⟨r, hrr⟩ := get_of hlt
      have hbr := chain H3.out hb
      obtain ⟨bb, off, rfl, hbl, c0⟩ := (HS.out.sv.sl.below hbr).rw hrr
      have hrl := (right_row HR.out (allM_get hrr)).1
      rw [allM_len] at hrl
      have hrow := (HS.out.rows r (List.mem_of_getElem? hrr)).below hbr
      have HROW := hide hrow
      have HGET := hide (allM_get hrr)
      have C0 := hide c0
      have XX := hide x1
      have hk0 : (0 : Int) ≤ (j : Int) := by omega
      have hk1 : (j : Int) < (M.length : Int) := by omega
      have hlen1 : 1 ≤ r.l.length ∧ r.l.length ≤ 20 := by omega
      obtain ⟨m, hm⟩ : ∃ m, r.l.length = m := ⟨_, rfl⟩
      rw [hm] at hlen1 C0 HROW
      have HMM := hide hm
      have hcap := HROW.out.le
      clear hrr hbr hrl hrow c0 hmono hb hm
      go_wp2_with fail
      clear x1
      go_loopw [6] (fun q ws => ∃ k : Nat, 1 ≤ k ∧ k ≤ m ∧ q = .int .i64 k ∧ (∀ (p : Nat) (v u : Int), p + 1 < k → r.l[p]? = some v → r.l[p + 1]? = some u → v ≤ u) ∧ Below wr.heap.size wr ws) (fun q _ => m - (RowKit.intOf q).toNat)
      case atStart => exact ⟨1, Nat.le_refl _, hlen1.1, rfl, fun p v u h => by omega, Below.refl _ _⟩
      case round =>
        obtain ⟨k, hk1', hkm, rfl, hup, hbs⟩ := hrel
        have HBS := hide hbs
        have HUP := hide hup
        have x1 := kept hbs XX.out
        have c0 := kept hbs C0.out
        by_cases hkl : k < m
        · obtain ⟨p, hp⟩ : ∃ p, k = p + 1 := ⟨k - 1, by omega⟩
          obtain ⟨v, hv⟩ := get_of (l := r.l) (k := p) (by rw [HMM.out]; omega)
          obtain ⟨u, hu⟩ := get_of (l := r.l) (k := k) (by rw [HMM.out]; omega)
          obtain ⟨b1, o1, hA1, hb1, y0⟩ := (HROW.out.below hbs).sl.i hv
          obtain ⟨b2, o2, hA2, hb2, y1⟩ := (HROW.out.below hbs).sl.i hu
          have hA3 := hA1.symm.trans hA2
          obtain ⟨rfl, rfl⟩ : b1 = b2 ∧ o1 = o2 := by simpa using hA3
          rw [hA1] at c0
          have hpi : (k : Int) - 1 = (p : Int) := by omega
          have hw : IntKind.i64.wrap ((k : Int) - 1) = (p : Int) := by rw [hpi]; exact IntWalk.i64_in _ (by omega)
          have hq0 : (0 : Int) ≤ (p : Int) := by omega
          have hq1 : (p : Int) < (m : Int) := by omega
          have hq2 : (k : Int) < (m : Int) := by omega
          have hq3 : (0 : Int) ≤ (k : Int) := by omega
          have HV := hide hv
          have HU := hide hu
          have HP := hide hp
          have hp20 : p ≤ 20 := by omega
          clear hv hu hA1 hA2 hA3 hup hbs hpi hp
          by_cases hvu : u < v
          · go_upto_region 11 with fail
            refine wp_region_class (fun W => Below wr.heap.size wr W) (by kernel_rfl) (by kernel_rfl) (Below.refl _ _).drew ?_
            repeat (first
              | go_big_quiet_skip
              | (go_big_quiet_want
                 first
                   | (go_big_quiet_op
                      go_big_quiet_on)
                   | (refine quiet_yield (v := ?_) ?_ ?_
                      rotate_left
                      · intro W hW
                        have x1 := kept hW x1
                        have c0 := kept hW c0
                        have y0 := kept hW y0
                        have y1 := kept hW y1
                        clear hW
                        go_simp
                        try with_reducible rfl
                      simp only [Act.put, List.setIfInBounds_toArray, List.set_cons_zero, List.set_cons_succ]
                      go_big_quiet_on)))
            refine wpQuiet_nil ?_
            intro W hW
            have h9 := chain H3.out (chain HB.out (chain HBS.out hW))
            clear hW x1 c0 y0 y1 hw
            go_wp2_with fail
            go_ret
            rw [HX.out] at h9 ⊢
            exact ⟨rfl, h9⟩
          · go_upto_region 11 with fail
            refine wp_region_class (fun W => Below wr.heap.size wr W) (by kernel_rfl) (by kernel_rfl) (Below.refl _ _).drew ?_
            repeat (first
              | go_big_quiet_skip
              | (go_big_quiet_want
                 first
                   | (go_big_quiet_op
                      go_big_quiet_on)
                   | (refine quiet_yield (v := ?_) ?_ ?_
                      rotate_left
                      · intro W hW
                        have x1 := kept hW x1
                        have c0 := kept hW c0
                        have y0 := kept hW y0
                        have y1 := kept hW y1
                        clear hW
                        go_simp
                        try with_reducible rfl
                      simp only [Act.put, List.setIfInBounds_toArray, List.set_cons_zero, List.set_cons_succ]
                      go_big_quiet_on)))
            refine wpQuiet_nil ?_
            intro W hW
            have HW := hide (chain HBS.out hW)
            clear hW x1 c0 y0 y1 hw
            have HUP2 := hide (show ∀ (p' : Nat) (v' u' : Int), p' + 1 < k + 1 → r.l[p']? = some v' → r.l[p' + 1]? = some u' → v' ≤ u' from fun p' v' u' h h1 h2 => by
              by_cases hpp : p' + 1 < k
              · exact HUP.out p' v' u' hpp h1 h2
              · obtain rfl : p' = p := by have := HP.out; omega
                rw [HV.out] at h1
                rw [← HP.out, HU.out] at h2
                cases h1; cases h2
                omega)
            go_wp2_with fail
            go_roundw
            case rel => exact ⟨k + 1, by omega, by omega, by go_num, HUP2.out, HW.out⟩
            case measure => simp [RowKit.intOf]; omega
        · obtain rfl : k = m := by omega
          have hq2 : ¬ (k : Int) < (k : Int) := by omega
          have HW := hide (chain HB.out hbs)
          have HM2 := hide (show ∀ l ∈ (allM M).take (j + 1), Mono l by
            rw [take_of HGET.out]
            intro l hl
            rcases List.mem_append.1 hl with h | h
            · exact HM.out l h
            · obtain rfl := List.mem_singleton.1 h
              exact fun p v u h1 h2 => HUP.out p v u (by have := lt_of_get h2; have := HMM.out; omega) h1 h2)
          clear hbs hup
          go_wp2_with fail
          go_roundw
          case rel => exact ⟨j + 1, by omega, by go_num, HM2.out, HW.out⟩
          case measure => simp [RowKit.intOf]; omega
    · obtain rfl : j = M.length := by omega
      rw [List.take_of_length_le (by rw [allM_len]; exact Nat.le_refl _)] at hmono
      have hk1 : ¬ ((M.length : Nat) : Int) < (M.length : Int) := by omega
      have x0 := HK3.out.below hb HK3.out.lt |>.cell 0
      simp only [List.getElem?_toArray, List.getElem?_cons_zero] at x0
      obtain ⟨nF, hnF⟩ : ∃ n, (facL (allM M)).length = n := ⟨_, rfl⟩
      have H4 := hide (chain H3.out hb)
      have HK4 := hide (HK3.out.below hb HK3.out.lt)
      have HFU := hide (facL_up hmono HOK.out)
      have HLU := hide (left_up HR.out hmono)
      have hcode := ultC_code f (allM M) HR.out
      have hnF20 : nF ≤ 20 := by rw [← hnF, facL_len]; have := (right_okC HR.out).1; omega
      have hn20 : (ultC f (allM M)).1.length ≤ 20 := Nat.le_trans (ultC_len f (allM M)) (diagL_len f (allM M))
      have hZl : (lefts (castL (ultC f (allM M)).1) (diagL f (allM M))).length = (ultC f (allM M)).1.length := by
        have := ultC_len f (allM M)
        rw [lefts, List.length_zipWith, castL_len]; omega
      have HFA := hide (fun w hs => factors_any f A cap M w hs hf)
      rw [HR.out, hnF] at HFA
      have HLA := hide (fun w hs hg => left_any f A cap M w hs hf hg)
      obtain ⟨Z, hZ⟩ : ∃ Z, lefts (castL (ultC f (allM M)).1) (diagL f (allM M)) = Z := ⟨_, rfl⟩
      obtain ⟨F, hF⟩ : ∃ F, facL (allM M) = F := ⟨_, rfl⟩
      rw [hZ] at HLA HLU hZl
      rw [hF] at HFA HFU hnF
      obtain ⟨s, hs⟩ : ∃ s, ultC f (allM M) = s := ⟨_, rfl⟩
      rw [hs] at HLA hcode hZl hn20
      obtain ⟨L, k⟩ := s
      simp only at HLA hcode hZl hn20
      obtain ⟨n, hn⟩ : ∃ n, L.length = n := ⟨_, rfl⟩
      have hkc : k = 0 ∨ k = 5 := by rcases hcode with h | h; exact .inl h.1; exact .inr h.1
      rw [hn] at HLA hZl hn20
      have HZL := hide hZl
      have HNF := hide hnF
      clear hmono hb hcode hnF hZ hF hs hn hZl
      go_wp2_with fail
      refine (HFA.out _ (HS.out.below H4.out)).mono ?_
      rintro e w5 ⟨-, hyes, hb5, -⟩
      obtain ⟨A5, c5, rfl, ho5⟩ := hyes rfl
      have H5 := hide (chain H4.out hb5)
      have HK5 := hide (HK4.out.below hb5 HK4.out.lt)
      have HO5 := hide ho5.sv
      clear hyes hb5 ho5 x0 x1
      have x0 := HK5.out.cell 0
      have x1 := HK5.out.cell 1
      simp only [List.getElem?_toArray, List.getElem?_cons_zero, List.getElem?_cons_succ] at x0 x1
      go_wp2_with fail
      refine (HLA.out _ (HS.out.below H5.out) (HG.out.below H5.out)).mono ?_
      rintro e w6 ⟨A6, c6, rfl, ho6, hb6, -⟩
      have H6 := hide (chain H5.out hb6)
      have HO6 := hide ho6.sv
      have HO56 := hide (HO5.out.below hb6)
      clear hb6 ho6 x0 x1
      go_wp2_with fail
      go_loopw [11] (fun q wr => ∃ j : Nat, j ≤ nF ∧ q = .int .i64 j ∧ Below w6.heap.size w6 wr) (fun q _ => nF - (RowKit.intOf q).toNat)
      case atStart => exact ⟨0, Nat.zero_le _, rfl, Below.refl _ _⟩
      case round =>
        obtain ⟨j, hj, rfl, hb⟩ := hrel
        have hq5 := HO56.out.le
        have HB := hide hb
        by_cases hlt : j < nF
        · obtain ⟨⟨fn, fd⟩, hfk⟩ := get_of (l := F) (k := j) (by rw [HNF.out]; exact hlt)
          obtain ⟨q1, q2⟩ := HFU.out _ (List.mem_of_getElem? hfk)
          obtain ⟨b2, o2, rfl, hb2, y0, y1⟩ := (HO56.out.below hb).sl.rt hfk
          simp only at y0 y1 q1 q2
          have hr0 : ¬ (fn : Int) < (fd : Int) := by omega
          have hr1 : ¬ (fd : Int) < 1 := by omega
          have hk0 : (0 : Int) ≤ (j : Int) := by omega
          have hk2 : (j : Int) < (nF : Int) := by omega
          clear hb hfk
          go_upto_region 18 with fail
          refine wp_region_class (fun W => Below wr.heap.size wr W) (by kernel_rfl) (by kernel_rfl) (Below.refl _ _).drew ?_
          repeat (first
            | go_big_quiet_skip
            | (go_big_quiet_want
               first
                 | (go_big_quiet_op
                    go_big_quiet_on)
                 | (refine quiet_yield (v := ?_) ?_ ?_
                    rotate_left
                    · intro W hW
                      have y0 := kept hW y0
                      have y1 := kept hW y1
                      clear hW
                      go_simp
                      try with_reducible rfl
                    simp only [Act.put, List.setIfInBounds_toArray, List.set_cons_zero, List.set_cons_succ]
                    go_big_quiet_on)))
          refine wpQuiet_nil ?_
          intro W hW
          have HW := hide (chain HB.out hW)
          clear hW y0 y1
          go_wp2_with fail
          go_roundw
          case rel => exact ⟨j + 1, by omega, by go_num, HW.out⟩
          case measure => simp [RowKit.intOf]; omega
        · obtain rfl : j = nF := by omega
          have hk1 : ¬ (j : Int) < (j : Int) := by omega
          have H7 := hide (chain H6.out hb)
          have HO67 := hide (HO6.out.below hb)
          clear hb
          go_wp2_with fail
          go_loopw [12] (fun q ws => ∃ i : Nat, i ≤ n ∧ q = .int .i64 i ∧ ws = wr) (fun q _ => n - (RowKit.intOf q).toNat)
          case atStart => exact ⟨0, Nat.zero_le _, rfl, rfl⟩
          case round =>
            obtain ⟨i, hi, rfl, rfl⟩ := hrel
            have hq6 := HO67.out.le
            by_cases hlt : i < n
            · obtain ⟨z, hz⟩ := get_of (l := Z) (k := i) (by rw [HZL.out]; exact hlt)
              have hz0 := HLU.out z (List.mem_of_getElem? hz)
              obtain ⟨b6, o6, rfl, hb6, y0⟩ := HO67.out.sl.i hz
              have hz1 : ¬ z < 0 := by omega
              have hk0 : (0 : Int) ≤ (i : Int) := by omega
              have hk2 : (i : Int) < (n : Int) := by omega
              clear hz
              go_wp2_with fail
              go_roundw
              case rel => exact ⟨i + 1, by omega, by go_num, by first | rfl | trivial⟩
              case measure => simp [RowKit.intOf]; omega
            · obtain rfl : i = n := by omega
              have hk1 : ¬ (i : Int) < (i : Int) := by omega
              have h9 := H7.out
              rw [HX.out] at h9
              have H9 := hide h9
              clear h9
              rcases hkc with rfl | rfl
              · go_wp2_with fail
                go_ret
                rw [HX.out]
                exact ⟨rfl, H9.out⟩
              · go_wp2_with fail
                go_ret
                rw [HX.out]
                exact ⟨rfl, H9.out⟩

set_option maxRecDepth 100000 in
theorem ladderRises_lifted (os : Os) (started : os.Started) (H : Type) (enc : TypeId × Value → H) :
    ReturnsInHanded {} Tryd.checked os 7 .any (fun w args => (Rows.ladderRisesSpec.pre enc Tryd.prog Tryd.f7 Rows.ladderRisesRow.domain false w args ∧ laidMetH Tryd.prog [("errors.errorType", Rows.laid_errors_errorType)] w) ∧ sizedMet enc Tryd.prog Tryd.f7 (OpenSpec.ofChange Rows.ladderRisesSpec) false w args) (Rows.ladderRisesSpec.post enc Tryd.prog Tryd.f7 false true false false) := by
  refine returnsInHanded_of_change_and (C := Tryd.checked) (X := fun w _ => laidMetH Tryd.prog [("errors.errorType", Rows.laid_errors_errorType)] w) (fun _ _ _ hh h => h.of_heap hh) own started (by kernel_rfl) Tryd.func7
    (ChangeSpec.witness_at (enc := enc) (C := Tryd.checked) (os := os) (X := fun w _ => laidMetH Tryd.prog [("errors.errorType", Rows.laid_errors_errorType)] w) false (laidWorld os) #[.agg #[.int .i64 0, .slice none 0 0]] 8 rfl (by kernel_rfl) (by kernel_rfl) (by kernel_rfl) (by kernel_rfl) (by kernel_rfl) (laidWorld_met os _)) ?_
  intro W base args ds gs before hval0 hW hcnd hz0 hL _
  have hval : ∀ (j : Nat) t v, Tryd.f7.params[j]? = some t → args[j]? = some v → Value.okWide Tryd.prog W .any base t v := hval0
  have hg := handle_of_laid hL
  have hW' := hW
  obtain ⟨p, q, hA0, hV, rfl, hfz, hnd⟩ := hW
  have hA : DataW.TrodAll enc Tryd.prog W 0 (fun _ => true) true Tryd.f7.params.toList args.toList ds p := hA0
  rw [Tryd.params7] at hA hval
  obtain ⟨v0, vs0, d0, ds0, p0, q0, hargs, rfl, rfl, h0, r0⟩ := trodAll_cons hA
  obtain ⟨rfl, rfl, rfl⟩ := trodAll_nil r0
  obtain rfl : args = #[v0] := by cases args; simp_all
  obtain ⟨rfl, rfl⟩ := trodVars_none hV
  obtain ⟨f0, A0, M0, p0, rfl, hf0, hs0, ho0⟩ := open_tri (hval 0 24 v0 rfl rfl) h0
  refine (ladderRises_walk W f0 A0 M0 p0 hf0 hs0 ho0 hg).mono fun e W' ⟨he, hb⟩ => ?_
  subst he
  exact ⟨_, rfl, law_post laidOut (by kernel_rfl) rfl Tryd.underlying4 rfl rfl hW' hb⟩

/-- THE STATEMENT. -/
theorem ladderRises_holds : Rows.LadderRisesSaid :=
  OpenClaim.holds_of_wide 7 Tryd.f7 rfl rfl rfl rfl rfl rfl rfl ⟨rfl, rfl, rfl, rfl, rfl⟩ rfl rfl rfl rfl rfl (by kernel_rfl) Tryd.func7 (by kernel_rfl)
    (of_decide_eq_true (by kernel_rfl)) (by unfold Func.isWrapper; first | (rw [if_pos (by decide +kernel)]; kernel_rfl) | (rw [if_neg (by decide +kernel)]; exact ⟨rfl, rfl⟩))
    (fun os started H enc _ => ladderRises_lifted os started H enc)

/-- THE CARD. -/
theorem ladderRises_card : Rows.LadderRisesCardSaid :=
  Claim7.holds_tied_plain_at .later [] [.handle] true (true, "bdcda131af11127666d7c96b4cf135cd643b2f670ab3ee630936f5b9de6127d0") true
    ladderRises_holds (fun _ h => by cases h) (by kernel_rfl) (fun _ h => by cases h) ladderRises_row_tie rfl ⟨rfl, rfl⟩ (by kernel_rfl) rfl
    (fun f fn hf hfn => by
      obtain rfl : f = 7 := Option.some.inj ((show Tryd.prog.funcNamed "bordereau/bordereaulaw22.LadderRises" = some 7 by kernel_rfl).symm.trans hf) |>.symm
      obtain rfl : fn = Tryd.f7 := (Option.some.inj (Tryd.func7.symm.trans hfn)).symm
      exact ⟨by kernel_rfl, fun j t ht => by
        rw [Tryd.params7] at ht
        have h3 : t = 24 := by
          rcases j with _ | j
          · simpa using ht.symm
          · simp at ht
        subst h3
        exact (show Tryd.prog.wantsStandIn 24 = false by kernel_rfl)⟩)
    (by kernel_rfl)
end Go.Proofs.YtndfgglnhkdciaaDoor
