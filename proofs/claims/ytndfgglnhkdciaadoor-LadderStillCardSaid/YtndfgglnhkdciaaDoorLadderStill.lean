/- LadderStill: where no row changes nothing is left. -/
import Derived.Test.YtndfgglnhkdciaaDoorLadT
import Derived.Test.YtndfgglnhkdciaaDoorTie
import Derived.Test.YtndfgglnhkdciaaDoorCards
import Derived.SevenTiedAt
namespace Go.Proofs.YtndfgglnhkdciaaDoor
open Go.ChangeShapes Go.WideShapes Go.ChangeAt Go.RowKit
set_option linter.unusedVariables false

theorem rep_next {α : Type} (k : Nat) (v : α) : List.replicate (k + 1) v = List.replicate k v ++ [v] := by
  rw [List.replicate_succ']

set_option maxRecDepth 100000 in
set_option maxHeartbeats 4000000 in
theorem ladderStill_walk (w : World) (A0 : Option Addr) (l : List Int) (cap0 : Nat) (hs : SV w 1 A0 l.length cap0 (l.map encU)) (ho : ∀ n ∈ l, okU n) (hg : Hdl w) :
    Calls Tryd.prog 8 #[.slice A0 l.length cap0] w fun e w' => e = .returned (.bool true) ∧ Below w.heap.size w w' := by
  have HS := hide hs
  have HG := hide hg
  have HU := hide ho
  have hmo := hs.most
  have hle := hs.le
  unfold maxLen at hmo
  clear hs hg ho
  go_enter Tryd.func8, Tryd.ntmps8
  go_wp2_with fail
  refine (awake22_b HG.out (Below.refl _ _)).mono ?_
  rintro e w1 ⟨rfl, h1, -⟩
  obtain ⟨n, hn⟩ : ∃ n, l.length = n := ⟨_, rfl⟩
  rw [hn] at hle HS ⊢
  have HN := hide hn
  have H1 := hide h1
  clear h1 hn
  rcases (show n < 1 ∨ (1 ≤ n ∧ 20 < n) ∨ (1 ≤ n ∧ n ≤ 20) by omega) with h | ⟨h, h'⟩ | ⟨hn1, hn20⟩
  · have hq : (n : Int) < 1 := by omega
    go_wp2_with fail
    go_ret
    exact ⟨rfl, H1.out⟩
  · have hq : ¬ (n : Int) < 1 := by omega
    have hq2 : (20 : Int) < (n : Int) := by omega
    go_wp2_with fail
    go_ret
    exact ⟨rfl, H1.out⟩
  have hq : ¬ (n : Int) < 1 := by omega
  have hq2 : ¬ (20 : Int) < (n : Int) := by omega
  go_wp2_with fail
  clear hq hq2
  obtain ⟨w2, hw2⟩ : ∃ W, w1.alloc (.cells #[.int .i64 1700, .slice none 0 0] 24) = W := ⟨_, rfl⟩
  obtain ⟨G, hG⟩ : ∃ G, w1.heap.size = G := ⟨_, rfl⟩
  have hM0 : Mat w (G + 1) G 1700 [] none 0 w2 := ⟨by rw [← hw2, ← hG]; exact Blk.new _ _ _, OwnS.nil_ _ _ _ _, fun r hr => by simp at hr, fun r hr => by simp at hr, Nat.lt_succ_self _, by rw [← hG]; exact H1.out.size, by rw [← hw2]; exact H1.out.alloc H1.out.size _⟩
  rw [hw2, hG]
  obtain ⟨ms, hms⟩ : ∃ ms, l.map Int.toNat = ms := ⟨_, rfl⟩
  have hml : ms.length = n := by rw [← hms, List.length_map, HN.out]
  have hcl : castL ms = l := by
    rw [← hms, castL, List.map_map]
    refine (List.map_congr_left (fun x hx => ?_)).trans (List.map_id l)
    have := (HU.out x hx).1
    simp only [Function.comp]
    show ((x.toNat : Nat) : Int) = x
    omega
  have hmb : ∀ m ∈ ms, m ≤ 100000000000000000 := fun m hm => by
    rw [← hms] at hm
    obtain ⟨x, hx, rfl⟩ := List.mem_map.1 hm
    have := HU.out x hx
    unfold okU at this
    omega
  obtain ⟨C, hC⟩ : ∃ C, alikeC (List.replicate n 1) ms = C := ⟨_, rfl⟩
  have hst := still_all (ms := ms) (f := 1700) (by omega) (by omega) (by omega) hmb
  rw [hml, hC] at hst
  have hget : ∀ (i : Nat) (v : Int), l[i]? = some v → C[i]? = some (List.replicate (n - i) v) := fun i v hv => by
    have hi : ms[i]? = some v.toNat := by rw [← hms, List.getElem?_map, hv]; rfl
    have h9 := alikeC_get (List.replicate n 1) ms i _ hi
    rw [hC, hml] at h9
    rw [h9, List.take_replicate, Nat.min_eq_left (by omega), List.map_replicate, Nat.mul_one]
    have := (HU.out v (List.mem_of_getElem? hv)).1
    rw [show ((v.toNat : Nat) : Int) = v by omega]
  have hCl : C.length = n := by rw [← hC, alikeC_len, hml]
  have HM0 := hide hM0
  have HST := hide hst
  have HGET := hide hget
  have HCL := hide hCl
  have HCAST := hide hcl
  have HML := hide hml
  clear hM0 hw2 hG hms hml hcl hmb hC hst hget hCl
  go_loopw [5] (fun q wr => ∃ (i : Nat) (R : List Rw) (A : Option Addr) (cap : Nat), i ≤ n ∧ q = .int .i64 i ∧ R.length = i ∧ allM R = C.take i ∧ Mat w (G + 1) G 1700 R A cap wr) (fun q _ => n - (RowKit.intOf q).toNat)
  case atStart => exact ⟨0, [], none, 0, Nat.zero_le _, rfl, rfl, rfl, HM0.out⟩
  case round =>
    obtain ⟨i, R, A, cap, hi, rfl, hRl, hRC, hM⟩ := hrel
    have HM := hide hM
    have HRL := hide hRl
    have HRC := hide hRC
    by_cases hlt : i < n
    · obtain ⟨v, hv⟩ := get_of (l := l) (k := i) (by rw [HN.out]; exact hlt)
      have HV := hide (HGET.out i v hv)
      have hvu := HU.out v (List.mem_of_getElem? hv)
      obtain ⟨hv0, hv1⟩ := hvu
      have HLV := hide hv
      obtain ⟨m, hm⟩ : ∃ m, n - i = m := ⟨_, rfl⟩
      have hmi : (n : Int) - (i : Int) = (m : Int) := by omega
      have hm1 : 1 ≤ m ∧ m ≤ 20 := by omega
      have hk0 : (0 : Int) ≤ (i : Int) := by omega
      have hk1 : (i : Int) < (n : Int) := by omega
      rw [hm] at HV
      clear hM hRl hRC hv hm
      go_wp2_with fail
      go_loopw [6, 7] (fun t q ws => ∃ (k : Nat) (A' : Option Addr) (c' : Nat), k ≤ m ∧ q = .int .i64 k ∧ t = .slice A' k c' ∧ OwnS ws wr.heap.size 3 1 A' k c' ((List.replicate k v).map encI) ∧ Below wr.heap.size wr ws) (fun _ q _ => m - (RowKit.intOf q).toNat)
      case atStart => exact ⟨0, none, 0, Nat.zero_le _, rfl, rfl, OwnS.nil_ _ _ _ _, Below.refl _ _⟩
      case round =>
        obtain ⟨k, A', c', hk, rfl, rfl, hown, hbs⟩ := hrel
        have HO := hide hown
        have HBS := hide hbs
        by_cases hkl : k < m
        · have hM2 := HM.out.below hbs
          obtain ⟨b0, o0, rfl, hb0, y0⟩ := (HS.out.below hM2.bel).sl.u HLV.out
          have hq0 : (0 : Int) ≤ (k : Int) := by omega
          have hq1 : (k : Int) < (m : Int) := by omega
          have hsz := hbs.size
          clear hown hbs hM2
          go_wp2_with (at_builtin
                       refine wpList_app rfl (.tmp 38) (.tmp 44) 33 rfl elInt (A2 := some ⟨_, 0, none⟩) (news := [v].map encI) rfl (HO.out.alloc _) rfl rfl ?_ (okI [v]) ?_ ?_ ?_ ?_
                       · exact sl_of_blk (cs := #[.int .i64 v]) (Blk.new _ _ _)
                       · (simp only [maxLen]; omega)
                       · omega
                       · (simp; try omega)
                       intro A2 c2 wb ho2 hg2 ha2
                       have HO2 := hide ho2
                       have H3 := hide ((HBS.out.alloc hsz _).grown hg2 (by simp; omega) (fun kk e => (HO.out.lt kk e).1))
                       clear ho2 hg2 ha2)
          go_roundw
          case rel => exact ⟨k + 1, A2, c2, by omega, by go_num, rfl, by rw [rep_next, List.map_append]; exact HO2.out, H3.out⟩
          case measure => simp [RowKit.intOf]; omega
        · obtain rfl : k = m := by omega
          have hq1 : ¬ (k : Int) < (k : Int) := by omega
          have HM2 := hide (HM.out.below hbs)
          have HLT := hide (fun kk (h : blk A' = some kk) => hown.lt kk h)
          have HGL := hide HM.out.o.lt
          have HOL := hide HM.out.own.lt
          have HSVR := hide hown.sv
          obtain ⟨Lr, hLr⟩ : ∃ Lr : List Int, List.replicate k v = Lr := ⟨_, rfl⟩
          have hLl : Lr.length = k := by rw [← hLr, List.length_replicate]
          rw [hLr] at HSVR HV
          rw [← hLl] at HSVR
          have o1 := HM2.out.o.cell 1
          have u1 := HM2.out.o.frozen 1
          simp [triC] at o1
          have hGl := HM2.out.o.lt
          have hap : ∀ kk, blk A' = some kk → kk ≠ G ∧ blk A ≠ some kk := fun kk hkk => by
            have h1 := HLT.out kk hkk
            have h2 := HGL.out
            exact ⟨by omega, fun he => by have := (HOL.out kk he).2; omega⟩
          have HAP := hide hap
          have HNW := hide (show [(⟨A', Lr, c'⟩ : Rw)].map encRw = [[.slice A' k c']] by simp [encRw, hLl])
          have HOK := hide (show RowsOk 1 [[Value.slice A' k c']] by rw [← HNW.out]; exact okRw [⟨A', Lr, c'⟩])
          have hLpos : 0 < Lr.length := by omega
          have HLL := hide hLl
          have hRle : R.length ≤ 20 := by have := HRL.out; omega
          clear hown hbs hap hLr hLl
          go_wp2_with (at_builtin
                       refine wpList_app rfl (.tmp 47) (.tmp 49) 22 rfl elRow (B := G + 1) (rows := R.map encRw) (A2 := some ⟨_, 0, none⟩) (news := [[.slice A' k c']]) rfl (HM2.out.own.alloc _) rfl rfl ?_ HOK.out ?_ ?_ ?_ ?_
                       · exact sl_of_blk (cs := #[.slice A' k c']) (Blk.new _ _ _)
                       · (simp only [maxLen]; omega)
                       · omega
                       · (simp; try omega)
                       intro A2 c2 wb ho2 hg2 ha2
                       rw [← HNW.out] at ho2
                       have hP2 := HM2.out.step (r := ⟨A', Lr, c'⟩) ((Below.refl _ _).alloc (Nat.le_refl _) _) (HSVR.out.below ((Below.refl _ _).alloc (Nat.le_refl _) _)) hLpos HAP.out ho2 hg2 ha2
                       have HP2 := hide hP2
                       have hgo := Blk.grown ((HM2.out.below ((Below.refl _ _).alloc (Nat.le_refl _) (.cells #[.slice A' k c'] 33))).o) hg2 (fun he => by have := (HM2.out.own.lt G he.symm).1; omega)
                       have d6 := hgo.cell 1
                       have v6 := hgo.frozen 1
                       simp [triC] at d6
                       clear hP2 hgo ho2 hg2 ha2)
          go_roundw
          case rel => exact ⟨i + 1, R ++ [⟨A', Lr, c'⟩], A2, c2, by omega, by go_num, by rw [List.length_append, HRL.out]; rfl, by rw [allM, List.map_append, take_of HV.out]; exact congrArg (· ++ [Lr]) HRC.out, HP2.out⟩
          case measure => simp [RowKit.intOf]; omega
    · obtain rfl : i = n := by omega
      have hk1 : ¬ (i : Int) < (i : Int) := by omega
      rw [List.take_of_length_le (by rw [HCL.out]; exact Nat.le_refl _)] at hRC
      have o0 := hM.o.cell 0
      have o1 := hM.o.cell 1
      simp [triC] at o0 o1
      have HRC2 := hide hRC
      clear hM hRl hRC
      go_wp2_with fail
      have hLA := left_any 1700 A cap R wr HM.out.mv (by unfold ok64; omega) (HG.out.below HM.out.bel)
      have HUA := hide (fun W hW => ult_any 1700 A cap R W (HM.out.mv.below hW) (by unfold ok64; omega) (HG.out.below (chain HM.out.bel hW)))
      rw [HRC2.out, HST.out.1] at hLA HUA
      simp only at hLA HUA
      rw [HST.out.2, HML.out] at hLA
      rw [HML.out] at HUA
      refine hLA.mono ?_
      rintro e w3 ⟨A3, c3, rfl, ho3, hb3, -⟩
      have H3 := hide hb3
      have HO3 := hide ho3.sv
      have x0 := (HM.out.o.below hb3 HM.out.o.lt).cell 0
      have x1 := (HM.out.o.below hb3 HM.out.o.lt).cell 1
      simp [triC] at x0 x1
      clear hLA hb3 ho3 o0 o1
      go_wp2_with fail
      refine (HUA.out _ H3.out).mono ?_
      rintro e w4 ⟨A4, c4, rfl, ho4, hb4, -⟩
      have H4 := hide (chain HM.out.bel (chain H3.out hb4))
      have HO4 := hide ho4.sv
      have HO34 := hide (HO3.out.below hb4)
      clear hb4 ho4 x0 x1
      go_wp2_with fail
      go_loopw [12] (fun q ws => ∃ j : Nat, j ≤ i ∧ q = .int .i64 j ∧ Below w4.heap.size w4 ws) (fun q _ => i - (RowKit.intOf q).toNat)
      case atStart => exact ⟨0, Nat.zero_le _, rfl, Below.refl _ _⟩
      case round =>
        obtain ⟨j, hj, rfl, hb⟩ := hrel
        have hq3 := HO34.out.le
        have hq4 := HO4.out.le
        have HB := hide hb
        by_cases hlt2 : j < i
        · obtain ⟨v, hv⟩ := get_of (l := l) (k := j) (by rw [HN.out]; exact hlt2)
          obtain ⟨hv0, hv1⟩ := HU.out v (List.mem_of_getElem? hv)
          have hv2 : (castL ms)[j]? = some v := by rw [HCAST.out]; exact hv
          obtain ⟨x, hx⟩ := get_of (l := ms) (k := j) (by rw [HML.out]; exact hlt2)
          have hz : (ms.map (fun _ => (0 : Int)))[j]? = some 0 := by rw [List.getElem?_map, hx]; rfl
          obtain ⟨b3, o3, rfl, hb3, y0⟩ := (HO34.out.below hb).sl.i hz
          obtain ⟨b4, o4, rfl, hb4, y1⟩ := (HO4.out.below hb).sl.i hv2
          obtain ⟨b5, o5, rfl, hb5, y2⟩ := (HS.out.below (chain H4.out hb)).sl.u hv
          have hk0 : (0 : Int) ≤ (j : Int) := by omega
          have hk2 : (j : Int) < (i : Int) := by omega
          have hw : IntKind.i64.wrap v = v := IntWalk.i64_in _ (by omega)
          clear hb hv hv2 hx hz
          go_upto_region 21 with fail
          refine wp_region_class (fun W => Below wr.heap.size wr W) (by kernel_rfl) (by kernel_rfl) (Below.refl _ _).drew ?_
          repeat (first
            | go_big_quiet_skip
            | (go_big_quiet_want
               first
                 | (go_big_quiet_op
                    go_big_quiet_on)
                 | (refine quiet_yield (v := ?_) ?_ ?_
                    rotate_left
                    · intro W hW
                      have y0 := kept hW y0
                      have y1 := kept hW y1
                      have y2 := kept hW y2
                      clear hW
                      go_simp
                      try with_reducible rfl
                    simp only [Act.put, List.setIfInBounds_toArray, List.set_cons_zero, List.set_cons_succ]
                    go_big_quiet_on)))
          refine wpQuiet_nil ?_
          intro W hW
          have HW := hide (chain HB.out hW)
          clear hW y0 y1 y2 hw
          go_wp2_with fail
          go_roundw
          case rel => exact ⟨j + 1, by omega, by go_num, HW.out⟩
          case measure => simp [RowKit.intOf]; omega
        · obtain rfl : j = i := by omega
          have hk3 : ¬ (j : Int) < (j : Int) := by omega
          have H9 := hide (chain H4.out hb)
          clear hb
          go_wp2_with fail
          go_ret
          exact ⟨rfl, H9.out⟩

set_option maxRecDepth 100000 in
theorem ladderStill_lifted (os : Os) (started : os.Started) (H : Type) (enc : TypeId × Value → H) :
    ReturnsInHanded {} Tryd.checked os 8 .any (fun w args => (Rows.ladderStillSpec.pre enc Tryd.prog Tryd.f8 Rows.ladderStillRow.domain false w args ∧ laidMetH Tryd.prog [("errors.errorType", Rows.laid_errors_errorType)] w) ∧ sizedMet enc Tryd.prog Tryd.f8 (OpenSpec.ofChange Rows.ladderStillSpec) false w args) (Rows.ladderStillSpec.post enc Tryd.prog Tryd.f8 false true false false) := by
  refine returnsInHanded_of_change_and (C := Tryd.checked) (X := fun w _ => laidMetH Tryd.prog [("errors.errorType", Rows.laid_errors_errorType)] w) (fun _ _ _ hh h => h.of_heap hh) own started (by kernel_rfl) Tryd.func8
    (ChangeSpec.witness_at (enc := enc) (C := Tryd.checked) (os := os) (X := fun w _ => laidMetH Tryd.prog [("errors.errorType", Rows.laid_errors_errorType)] w) false (laidWorld os) #[.slice none 0 0] 8 rfl (by kernel_rfl) (by kernel_rfl) (by kernel_rfl) (by kernel_rfl) (by kernel_rfl) (laidWorld_met os _)) ?_
  intro W base args ds gs before hval0 hW hcnd hz0 hL _
  have hval : ∀ (j : Nat) t v, Tryd.f8.params[j]? = some t → args[j]? = some v → Value.okWide Tryd.prog W .any base t v := hval0
  have hg := handle_of_laid hL
  have hW' := hW
  obtain ⟨p, q, hA0, hV, rfl, hfz, hnd⟩ := hW
  have hA : DataW.TrodAll enc Tryd.prog W 0 (fun _ => true) true Tryd.f8.params.toList args.toList ds p := hA0
  rw [Tryd.params8] at hA hval
  obtain ⟨v0, vs0, d0, ds0, p0, q0, hargs, rfl, rfl, h0, r0⟩ := trodAll_cons hA
  obtain ⟨rfl, rfl, rfl⟩ := trodAll_nil r0
  obtain rfl : args = #[v0] := by cases args; simp_all
  obtain ⟨rfl, rfl⟩ := trodVars_none hV
  obtain ⟨A0, l0, p0, rfl, hs0, ho0⟩ := open_u32s (hval 0 38 v0 rfl rfl) h0
  refine (ladderStill_walk W A0 l0 p0 hs0 ho0 hg).mono fun e W' ⟨he, hb⟩ => ?_
  subst he
  exact ⟨_, rfl, law_post laidOut (by kernel_rfl) rfl Tryd.underlying4 rfl rfl hW' hb⟩

/-- THE STATEMENT. -/
theorem ladderStill_holds : Rows.LadderStillSaid :=
  OpenClaim.holds_of_wide 8 Tryd.f8 rfl rfl rfl rfl rfl rfl rfl ⟨rfl, rfl, rfl, rfl, rfl⟩ rfl rfl rfl rfl rfl (by kernel_rfl) Tryd.func8 (by kernel_rfl)
    (of_decide_eq_true (by kernel_rfl)) (by unfold Func.isWrapper; first | (rw [if_pos (by decide +kernel)]; kernel_rfl) | (rw [if_neg (by decide +kernel)]; exact ⟨rfl, rfl⟩))
    (fun os started H enc _ => ladderStill_lifted os started H enc)

/-- THE CARD. -/
theorem ladderStill_card : Rows.LadderStillCardSaid :=
  Claim7.holds_tied_plain_at .later [] [.handle] true (true, "bdcda131af11127666d7c96b4cf135cd643b2f670ab3ee630936f5b9de6127d0") true
    ladderStill_holds (fun _ h => by cases h) (by kernel_rfl) (fun _ h => by cases h) ladderStill_row_tie rfl ⟨rfl, rfl⟩ (by kernel_rfl) rfl
    (fun f fn hf hfn => by
      obtain rfl : f = 8 := Option.some.inj ((show Tryd.prog.funcNamed "bordereau/bordereaulaw22.LadderStill" = some 8 by kernel_rfl).symm.trans hf) |>.symm
      obtain rfl : fn = Tryd.f8 := (Option.some.inj (Tryd.func8.symm.trans hfn)).symm
      exact ⟨by kernel_rfl, fun j t ht => by
        rw [Tryd.params8] at ht
        have h3 : t = 38 := by
          rcases j with _ | j
          · simpa using ht.symm
          · simp at ht
        subst h3
        exact (show Tryd.prog.wantsStandIn 38 = false by kernel_rfl)⟩)
    (by kernel_rfl)
end Go.Proofs.YtndfgglnhkdciaaDoor
