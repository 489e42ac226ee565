/- Proved: whatever the cover and the files, TopYearsPaid returns true, and its arguments read behind the call as they did ahead of it. Conditions: none beyond those that the given card states. -/
import Derived.Deep.RegionWith
import Derived.Laws.EntriesVeiled
import Derived.Test.YtmfohnchnbgbaaaGreatDoorTie
import Derived.Test.YtmfohnchnbgbaaaGreatDoorCards
import Derived.SevenTiedAt
import Derived.Test.YtmfohnchnbgbaaaGreatDoorYpM02
import Derived.Test.YtmfohnchnbgbaaaGreatDoorYpM04
import Derived.Test.YtmfohnchnbgbaaaGreatDoorYpM25
import Derived.Test.YtmfohnchnbgbaaaGreatDoorYpM39
import Derived.Test.YtmfohnchnbgbaaaGreatDoorYpM40
import Derived.Test.YtmfohnchnbgbaaaGreatDoorYpM48
/- The policy's premium is alive. -/
namespace Go.Proofs.YtmfohnchnbgbaaaGreatDoor
open Go.RowKit Go.Lib

set_option maxRecDepth 1000000 in
theorem pol_due (A Z P : Option Addr) : due0 (polH A) (allV [polV Z P]) = (10000, 0) := by kernel_rfl
set_option maxRecDepth 1000000 in
theorem pol_slE (A Z P : Option Addr) : slE (polH A) [] (allV [polV Z P]) = 0 := by kernel_rfl
set_option maxRecDepth 1000000 in
theorem pol_upto (A Z P : Option Addr) : UptoS (slL (polH A) [] (allV [polV Z P])) 41 = (4000, 0) := by kernel_rfl
/-- The cancel. -/
def polC (A : Option Addr) (k : Nat) : Ch := ⟨5, 41, 3, 0, 0, 0, 0, A, [], k, 0⟩
set_option maxRecDepth 1000000 in
theorem pol_given (Z P tA cA B : Option Addr) (tc cc cap : Nat) : shortC [polC cA cc] = false ∧ due0 { polH tA with tm := { (polH tA).tm with A := tA, cap := tc }, A := B, cs := [polC cA cc], cap := cap } (allV [polV Z P]) = (4000, 0) := ⟨by kernel_rfl, by kernel_rfl⟩
theorem lenV_pol (Z P : Option Addr) : ∀ x ∈ [polV Z P], LenV x := by
  intro x hx
  rw [List.mem_singleton] at hx
  subst hx
  simp [LenV, polV]
theorem polU {out : List Sc} {A Z P : Option Addr} (h : out.map Sc.v = slL (polH A) [] (allV [polV Z P])) : UptoQ out 41 = (4000, 0) := by rw [uptoS_of h]; exact pol_upto A Z P
theorem his_hic (A : Option Addr) : hisC A = hiC (polH A) := rfl
set_option maxRecDepth 100000 in
set_option maxHeartbeats 4000000 in
theorem palive_any (w : World) : Calls Tryz.prog 5 #[] w fun e w' => e = .returned (.bool true) ∧ Below w.heap.size w w' := by
  go_enter Tryz.func5, Tryz.ntmps5
  go_wp2_with fail
  refine (policy_any w).mono ?_
  rintro e w1 ⟨A, Z, P, V, rfl, hv, hT, h1⟩
  have hd : ∀ W, HV W (polH A) → TV W V 1 1 [polV Z P] → Calls Tryz.prog 17 #[.agg #[.int .i64 1, .int .i64 1, .int .i64 1, .int .i64 101, .int .i64 0, .int .i64 36500, .int .i64 0, .int .i64 0, .slice A 1 1, .slice none 0 0], .agg #[.slice V 1 1]] W fun e w' => e = .returned (.tuple #[.int .i64 10000, .int .i64 0]) ∧ Below W.heap.size W w' := fun W a b => by
    have h := due0_any (polH A) V 1 1 [polV Z P] W a b (lenV_pol Z P) (by simp [polH]) rfl
    rw [pol_due] at h
    exact h
  have hsl : ∀ W, HV W (polH A) → TV W V 1 1 [polV Z P] → Calls Tryz.prog 18 #[.agg #[.int .i64 1, .int .i64 1, .int .i64 1, .int .i64 101, .int .i64 0, .int .i64 36500, .int .i64 0, .int .i64 0, .slice A 1 1, .slice none 0 0], .agg #[.slice V 1 1]] W (SlcP 0 (slL (polH A) [] (allV [polV Z P])) W) := fun W a b => by
    have h := slc_any (polH A) [] V 1 [polV Z P] W a b (lenV_pol Z P) (fun _ => ordd_small (polH A) W a (by simp [polH]))
    rw [pol_slE] at h
    exact h
  have hgi : ∀ W, HV W (polH A) → TV W V 1 1 [polV Z P] → Calls Tryz.prog 20 #[.agg #[.int .i64 1, .int .i64 1, .int .i64 1, .int .i64 101, .int .i64 0, .int .i64 36500, .int .i64 0, .int .i64 0, .slice A 1 1, .slice none 0 0], .agg #[.slice V 1 1], .agg #[.int .i64 5, .int .i64 41, .int .i64 3, .int .i64 0, .int .i64 0, .int .i64 0, .int .i64 0, .slice none 0 0, .int .i64 0]] W fun e w' => e = .returned (.tuple #[.int .i64 6000, .int .i64 0]) ∧ Below W.heap.size W w' := fun W a b =>
    given0_any (polH A) (polC none 0) V 1 1 [polV Z P] 10000 4000 W a b (lenV_pol Z P) rfl rfl rfl ⟨Sl.nil_, rfl, Nat.le_refl _, by simp [maxLen, polC], fun _ => rfl⟩ ⟨by simp [ok64, polC], fun x hx => by simp [polC] at hx⟩ (by kernel_rfl) (by kernel_rfl) (by simp [polH, polC]) (by simp [polH, polC]) (pol_due A Z P) (fun tA cA B tc cc cap => pol_given Z P tA cA B tc cc cap) (by omega)
  have hup : ∀ W B A5 cap5 (out : List Sc), out.map Sc.v = slL (polH A) [] (allV [polV Z P]) → Made W B A5 cap5 out → Calls Tryz.prog 19 #[.slice A5 out.length cap5, .int .i64 41] W fun e w' => e = .returned (.tuple #[.int .i64 4000, .int .i64 0]) ∧ Below W.heap.size W w' := fun W B A5 cap5 out ho hm => by
    have h := Upto_any addc_all A5 cap5 out.length out 41 W hm.own.sv
    rw [polU ho] at h
    exact h
  obtain ⟨w2, hw2⟩ : ∃ W, (w1.alloc (.cells (hisC A) 64)).alloc (.cells #[.slice V 1 1] 67) = W := ⟨_, rfl⟩
  have hb2 : Below w1.heap.size w1 w2 := by rw [← hw2]; exact ((Below.refl _ _).alloc (Nat.le_refl _) _).alloc (by simp) _
  have hB2 : Blk w2 w1.heap.size 64 (hisC A) := by rw [← hw2]; exact (Blk.new _ _ _).alloc _
  have hC2 : Blk w2 (w1.heap.size + 1) 67 #[.slice V 1 1] := by rw [← hw2]; exact Blk.new' (by simp)
  obtain ⟨x0, x1, x2, x3, x4, x5, x6, x7, x8, x9⟩ := his_cells hB2
  have y0 : w2.cell? ⟨w1.heap.size + 1, 0, none⟩ = some (.slice V 1 1) := hC2.cell 0
  have HB2 := hide hB2
  have HC2 := hide hC2
  have HV2 := hide (hv.below hb2)
  have HT2 := hide (hT.below hb2)
  have H2 := hide (chain h1 hb2)
  have HD := hide hd
  have HS := hide hsl
  have HG := hide hgi
  have HU := hide hup
  clear hv hT h1 hd hsl hgi hup hb2 hB2 hC2
  rw [← his_hic, hisC]
  go_upto_region 2 with fail
  change Code.wp _ _ _ _ ((w1.alloc (.cells (hisC A) 64)).alloc (.cells #[.slice V 1 1] 67))
  rw [hw2]
  clear hw2
  go_wp2_with fail
  refine (HD.out _ HV2.out HT2.out).mono ?_
  rintro e w3 ⟨rfl, h3⟩
  have HB3 := hide (HB2.out.below h3 HB2.out.lt)
  have HC3 := hide (HC2.out.below h3 HC2.out.lt)
  have HV3 := hide (HV2.out.below h3)
  have HT3 := hide (HT2.out.below h3)
  have H3 := hide (chain H2.out h3)
  clear h3 x0 x1 x2 x3 x4 x5 x6 x7 x8 x9 y0
  obtain ⟨x0, x1, x2, x3, x4, x5, x6, x7, x8, x9⟩ := his_cells HB3.out
  have y0 : w3.cell? ⟨w1.heap.size + 1, 0, none⟩ = some (.slice V 1 1) := HC3.out.cell 0
  go_wp2_with fail
  refine (HS.out _ HV3.out HT3.out).mono ?_
  rintro e w4 ⟨h4, ⟨hne, -⟩ | ⟨-, A5, cap5, out, rfl, hov, hmd⟩⟩
  · exact absurd rfl hne
  have HB4 := hide (HB3.out.below h4 HB3.out.lt)
  have HC4 := hide (HC3.out.below h4 HC3.out.lt)
  have HV4 := hide (HV3.out.below h4)
  have HT4 := hide (HT3.out.below h4)
  have H4 := hide (chain H3.out h4)
  have HM4 := hide hmd
  have HOV := hide hov
  clear h4 hov hmd x0 x1 x2 x3 x4 x5 x6 x7 x8 x9 y0
  go_wp2_with fail
  refine (HU.out _ _ _ _ _ HOV.out HM4.out).mono ?_
  rintro e w5 ⟨rfl, h5⟩
  have HB5 := hide (HB4.out.below h5 HB4.out.lt)
  have HC5 := hide (HC4.out.below h5 HC4.out.lt)
  have HV5 := hide (HV4.out.below h5)
  have HT5 := hide (HT4.out.below h5)
  have H5 := hide (chain H4.out h5)
  clear h5
  obtain ⟨x0, x1, x2, x3, x4, x5, x6, x7, x8, x9⟩ := his_cells HB5.out
  have y0 : w5.cell? ⟨w1.heap.size + 1, 0, none⟩ = some (.slice V 1 1) := HC5.out.cell 0
  go_wp2_with fail
  refine (HG.out _ HV5.out HT5.out).mono ?_
  rintro e w6 ⟨rfl, h6⟩
  have HB6 := hide (HB5.out.below h6 HB5.out.lt)
  have HC6 := hide (HC5.out.below h6 HC5.out.lt)
  have HV6 := hide (HV5.out.below h6)
  have HT6 := hide (HT5.out.below h6)
  have H6 := hide (chain H5.out h6)
  clear h6 x0 x1 x2 x3 x4 x5 x6 x7 x8 x9 y0
  obtain ⟨x0, x1, x2, x3, x4, x5, x6, x7, x8, x9⟩ := his_cells HB6.out
  have y0 : w6.cell? ⟨w1.heap.size + 1, 0, none⟩ = some (.slice V 1 1) := HC6.out.cell 0
  go_wp2_with fail
  refine (plan_any _).mono ?_
  rintro e w7 ⟨A7, c7, rfl, hp7, h7⟩
  have H7 := hide (chain H6.out h7)
  have hal := (Below.refl w7.heap.size w7).alloc (Nat.le_refl _) (.cells #[.int .i64 1, .int .i64 5000, .int .i64 0, .int .i64 182, .int .i64 5000, .int .i64 0] 83)
  have hsa := sameBl_any A7 (some ⟨w7.heap.size, 0, none⟩) 2 c7 2 [(1, 5000), (182, 5000)] _ (hp7.below hal) (OwnS.lit w7 (B := w7.heap.size) (Nat.le_refl _) 83 (sz := 3) ([(1, 5000), (182, 5000)].map encBl) (okBl _) (by simp [maxLen]) #[.int .i64 1, .int .i64 5000, .int .i64 0, .int .i64 182, .int .i64 5000, .int .i64 0] rfl).sv (by omega)
  have HSA := hide hsa
  clear h7 hp7 hal hsa x0 x1 x2 x3 x4 x5 x6 x7 x8 x9 y0
  go_wp2_with fail
  refine HSA.out.mono ?_
  rintro e w8 ⟨rfl, h8⟩
  have H8 := hide (chain H7.out (chain1 h8))
  clear h8
  go_wp2_with fail
  go_ret
  exact ⟨rfl, H8.out⟩
end Go.Proofs.YtmfohnchnbgbaaaGreatDoor

/- TopYearsPaid: the walk. -/
namespace Go.Proofs.YtmfohnchnbgbaaaGreatDoor
open Go.RowKit Go.Lib
set_option linter.unusedSimpArgs false

set_option maxRecDepth 100000 in
set_option maxHeartbeats 8000000 in
theorem topYearsPaid_w (w : World) (c : Cv) (A : Option Addr) (n cap : Nat) (L : List Fl) (ho : okCv c) (hv : FV w A n cap L) (hg : Hdl w) :
    Calls Tryz.prog 4 #[.agg #[.int .i64 c.p, .int .i64 c.lim, .int .i64 c.agg, .int .i64 c.ded, .int .i64 c.sh], .slice A n cap] w fun e w' => e = .returned (.bool true) ∧ Below w.heap.size w w' := by
  obtain ⟨w1, hw1⟩ : ∃ W, w.alloc (.cells (cvC c) 41) = W := ⟨_, rfl⟩
  have h01 : Below w.heap.size w w1 := by rw [← hw1]; exact (Below.refl _ _).alloc (Nat.le_refl _) _
  have HB := hide (show Blk w1 w.heap.size 41 (cvC c) by rw [← hw1]; exact Blk.new _ _ _)
  have HV := hide (hv.below h01)
  have HG := hide hg
  have H1 := hide h01
  have HW := hide hw1
  have HN := hide hv.len
  have HOK := hide ho
  clear hw1 h01 hv ho hg
  go_enter Tryz.func4, Tryz.ntmps4
  go_upto_region 1 with fail
  rw [show w.alloc (.cells #[.int .i64 c.p, .int .i64 c.lim, .int .i64 c.agg, .int .i64 c.ded, .int .i64 c.sh] 41) = w1 from HW.out]
  go_wp2_with fail
  refine (palive_any w1).mono ?_
  rintro e w2 ⟨rfl, h2⟩
  have HB2 := hide (HB.out.below h2 HB.out.lt)
  have HV2 := hide (HV.out.below h2)
  have H2 := hide (chain H1.out h2)
  clear h2
  go_wp2_with fail
  refine (few20_any A n cap L w2 HV2.out).mono ?_
  rintro e w3 ⟨⟨b, rfl, hq⟩, h3⟩
  have HB3 := hide (HB2.out.below h3 HB2.out.lt)
  have HV3 := hide (HV2.out.below h3)
  have H3 := hide (chain H2.out h3)
  clear h3
  cases b
  · go_wp2_with fail
    go_ret
    exact ⟨rfl, H3.out⟩
  have hn20 : n ≤ 20 := hq rfl
  clear hq
  obtain ⟨x0, x1, x2, x3, x4⟩ := cv_cells HB3.out
  have HPD := hide (paid_any c A n cap L w3 HOK.out HV3.out (by omega))
  go_wp2_with fail
  refine HPD.out.mono ?_
  rintro e w4 ⟨h4, hr⟩
  have HB4 := hide (HB3.out.below h4 HB3.out.lt)
  have HV4 := hide (HV3.out.below h4)
  have H4 := hide (chain H3.out h4)
  have HOF := hide (ofF_any c A n cap L w4 HOK.out HV4.out (by omega))
  clear h4 x0 x1 x2 x3 x4 HPD
  obtain ⟨x0, x1, x2, x3, x4⟩ := cv_cells HB4.out
  rcases hr with ⟨hne, rfl⟩ | ⟨hE, AR, capR, rfl, hsr⟩
  · obtain ⟨E, hE⟩ : ∃ E, checkQ c L = E := ⟨_, rfl⟩
    rw [hE] at hne ⊢
    have hq : (E != 0) = true := by simpa using hne
    have HE := hide hE
    clear hne hE
    go_wp2_with fail
    refine HOF.out.mono ?_
    rintro e w5 ⟨h5, ⟨-, rfl⟩ | ⟨h0, -⟩⟩
    · have H5 := hide (chain H4.out h5)
      rw [HE.out]
      clear h5 x0 x1 x2 x3 x4
      go_wp2_with fail
      go_ret
      exact ⟨rfl, H5.out⟩
    · rw [HE.out] at h0
      subst h0
      simp at hq
  obtain ⟨O, hO⟩ : ∃ O, (paidS c L).out = O := ⟨_, rfl⟩
  obtain ⟨m, hm⟩ : ∃ m, O.length = m := ⟨_, rfl⟩
  have hinv := paid_inv (check_zero hE).1
  have hac := (check_zero hE).2.2
  have hol := hinv.ol
  have HINV := hide hinv
  have HDG := hide (fun h => paid_diag (L := L) hE h)
  have HSR := hide hsr
  have HE := hide hE
  rw [hO] at HSR hol HDG ⊢
  rw [hm] at HSR hol ⊢
  have hm2 : m ≤ 2000 := by omega
  have HO := hide hO
  have HM := hide hm
  have HRO := hide (show ∀ r ∈ O, ∃ f : Nat, r.a = f ∧ f < n by rw [← HO.out, ← HN.out]; exact fun r hr => (hinv.ro r hr).1)
  clear hinv hac hol hsr hE hO hm
  go_wp2_with fail
  refine HOF.out.mono ?_
  rintro e w5 ⟨h5, ⟨hne, -⟩ | ⟨-, AP, capP, P, rfl, hsp, hofi, -⟩⟩
  · exact absurd HE.out hne
  have HB5 := hide (HB4.out.below h5 HB4.out.lt)
  have HV5 := hide (HV4.out.below h5)
  have H5 := hide (chain H4.out h5)
  have HSR5 := hide (HSR.out.below h5)
  have HSP := hide hsp
  have HPS := hide (pos_paid hofi HINV.out)
  have HPB := hide (show ∀ y ∈ P, 0 ≤ y.p ∧ y.p ≤ 1000000000000000 from fun y hy => by
    obtain ⟨k, hk⟩ := List.mem_iff_getElem?.1 hy
    have h1 := hofi.pd k y hk
    have h2 := byF_le (l := (paidS c L).out) (fun r hr => (HINV.out.ro r hr).2) k
    have h3 := HINV.out.tot
    have h4 := HINV.out.al
    rw [← h1] at h2
    omega)
  have HLN := hide (show L.length = n from HN.out)
  rw [HN.out] at HSP ⊢
  clear h5 hsp hofi x0 x1 x2 x3 x4 HOF
  go_wp2_with fail
  refine (prows_any A n cap L AR m capR O w5 HV5.out HSR5.out HM.out HRO.out hm2).mono ?_
  rintro e w6 ⟨h6, A6, cap6, rfl, hs6⟩
  rw [HM.out] at hs6 ⊢
  obtain ⟨T, hT⟩ : ∃ T, O.map (crow L) = T := ⟨_, rfl⟩
  rw [hT] at hs6 HDG
  have HS6 := hide hs6
  have HSP6 := hide (HSP.out.below h6)
  have H6 := hide (chain H5.out h6)
  clear h6 hs6 hT
  go_wp2_with fail
  by_cases hE : ofE T = 0
  case neg =>
    obtain ⟨E, hEe⟩ : ∃ E, ofE T = E := ⟨_, rfl⟩
    have hE0 : (E != 0) = true := by rw [← hEe]; simp; exact hE
    refine (of_no HS6.out (Below.refl _ _) hEe (by rw [← hEe]; exact hE)).mono ?_
    rintro e w7 ⟨rfl, h7, -⟩
    have H7 := hide (chain H6.out h7)
    clear hE hEe h7
    go_wp2_with fail
    go_ret
    exact ⟨rfl, H7.out.alloc H7.out.size _⟩
  obtain ⟨F, hF⟩ : ∃ F, fromL T = F := ⟨_, rfl⟩
  obtain ⟨C, hC⟩ : ∃ C, ofC T = C := ⟨_, rfl⟩
  obtain ⟨q, hq⟩ : ∃ q, C.length = q := ⟨_, rfl⟩
  refine (of_yes HS6.out (Below.refl _ _) hE hF hC hq).mono ?_
  rintro e w7 ⟨A7, c7, R, rfl, hmv, hR, -, h7, -⟩
  obtain ⟨-, -, -, -, hrt, -, -, hf1, hf2, -⟩ := made hE
  obtain ⟨g1, g2, g3⟩ := left_made hE
  have hsum := HDG.out hE
  rw [hF] at hf1 hf2 g1 g2 g3 hsum
  rw [hC] at g1 g2 g3 hsum
  have hfo : ok64 F := by unfold ok64; omega
  have HMV := hide hmv
  have HR := hide hR
  have H7 := hide (chain H6.out h7)
  have HSP7 := hide (HSP6.out.below h7)
  obtain ⟨D, hD⟩ : ∃ D, diagL F C = D := ⟨_, rfl⟩
  obtain ⟨d, hd⟩ : ∃ d, D.length = d := ⟨_, rfl⟩
  have HDB := hide (fun v (hv : v ∈ D) => diag_bd (f := F) (c := C) (by rw [hD]; exact hv))
  have hd20 : d ≤ 20 := by rw [← hd, ← hD]; exact diag_len
  rw [hD] at g1 g2 g3 hsum
  rw [hd] at g3
  obtain ⟨u, hu⟩ : ∃ u, ultC F C = u := ⟨_, rfl⟩
  rw [hu] at g1 g2 g3
  obtain ⟨U, k5⟩ := u
  simp only at g1 g2 g3
  obtain ⟨Z, hZ⟩ : ∃ Z, lefts (castL U) D = Z := ⟨_, rfl⟩
  rw [hZ] at g1 g2
  obtain ⟨z, hz⟩ : ∃ z, U.length = z := ⟨_, rfl⟩
  rw [hz] at g3
  have hzd : z = d ∨ z = 0 := by
    rcases g3 with ⟨-, h⟩ | ⟨-, h⟩
    · exact .inl h
    · exact .inr (by rw [← hz, h]; rfl)
  have HZN := hide (show Z.length = z by rw [← hZ, lefts, List.length_zipWith, castL_len, hz, hd]; omega)
  have HG1 := hide g1
  have HG2 := hide g2
  have hkc : (k5 = 0 ∧ z = d) ∨ k5 = 5 := by
    rcases g3 with h | ⟨h, -⟩
    · exact .inl h
    · exact .inr h
  obtain ⟨S, hS⟩ : ∃ S, (paidS c L).all = S := ⟨_, rfl⟩
  rw [hS] at hsum
  have HSU := hide hsum
  have HPS2 := hide (HPS.out.trans hS)
  have HDA := hide (fun (W : World) (hW : Below w7.heap.size w7 W) => (diag_b (w0 := W) (hmv.below hW) (Below.refl _ _) hfo (by rw [hR]; exact hD) hd : Calls Tryz.prog 14 #[.agg #[.int .i64 F, .slice A7 q c7]] W (DiagB W W D d)))
  have HLA := hide (fun (W : World) (hW : Below w7.heap.size w7 W) => (show Calls Tryz.prog 9 #[.agg #[.int .i64 F, .slice A7 q c7]] W (LeftP W W Z k5 z) by
    have hlq := hmv.len
    have := left_any F A7 c7 R W (by rw [hlq]; exact hmv.below hW) hfo (HG.out.below (chain H7.out hW))
    rw [hR, hu, hD, hlq] at this
    simp only at this
    rw [hZ, hz] at this
    exact this))
  have HD := hide hd
  clear hE hF hC hq hmv hR h7 hrt hf1 hf2 g1 g2 g3 hsum hfo hD hd hu hZ hz hS HB HB2 HB3 HB4 HB5 HDG HINV HSR HSR5
  obtain ⟨w8, hw8⟩ : ∃ W, w7.alloc (.cells #[.int .i64 F, .slice A7 q c7] 33) = W := ⟨_, rfl⟩
  have hB8 : Blk w8 w7.heap.size 33 #[.int .i64 F, .slice A7 q c7] := by rw [← hw8]; exact Blk.new _ _ _
  have h8 : Below w7.heap.size w7 w8 := by rw [← hw8]; exact (Below.refl _ _).alloc (Nat.le_refl _) _
  have HB8 := hide hB8
  have H8 := hide (chain H7.out h8)
  have H78 := hide h8
  have HW8 := hide hw8
  have HSP8 := hide (HSP7.out.below h8)
  clear hB8 h8 hw8
  go_upto_region 10 with fail
  rw [show w7.alloc (.cells #[.int .i64 F, .slice A7 q c7] 33) = w8 from HW8.out]
  obtain ⟨X, hX⟩ : ∃ X, w7.heap.size = X := ⟨_, rfl⟩
  rw [hX] at HB8 ⊢
  have HX := hide hX
  clear hX HW8
  have x0 : w8.cell? ⟨X, 0, none⟩ = some (.int .i64 F) := HB8.out.cell 0
  have x1 : w8.cell? ⟨X, 1, none⟩ = some (.slice A7 q c7) := HB8.out.cell 1
  go_wp2_with fail
  refine (HDA.out w8 H78.out).mono ?_
  rintro e w9 ⟨A9, c9, rfl, hs9, h9, -⟩
  have HB9 := hide (HB8.out.below h9 HB8.out.lt)
  have HS9 := hide hs9
  have H9 := hide (chain H8.out h9)
  have H79 := hide (chain H78.out h9)
  have HSP9 := hide (HSP8.out.below h9)
  clear h9 hs9 x0 x1
  go_wp2_with fail
  go_loopw [13, 15] (fun s i wr => ∃ (k : Nat) (S' : Int), k ≤ d ∧ i = .int .i64 k ∧ s = .int .i64 S' ∧ S' = sumI (D.take k) ∧ w9 = wr) (fun _ i _ => d - (RowKit.intOf i).toNat)
  case atStart => exact ⟨0, 0, Nat.zero_le _, rfl, rfl, rfl, rfl⟩
  case round =>
    obtain ⟨k, S', hk, rfl, rfl, hS, rfl⟩ := hrel
    have hbd := sumI_bd (B := 100000000000000000) (l := D.take k) (fun v hv => HDB.out v (List.mem_of_mem_take hv))
    rw [List.length_take, HD.out] at hbd
    have hS0 : 0 ≤ S' ∧ S' ≤ 2000000000000000000 := by rw [hS]; omega
    obtain ⟨hS1', hS2'⟩ := hS0
    clear hbd
    by_cases hlt : k < d
    · obtain ⟨v, hv⟩ := get_of (l := D) (k := k) (by rw [HD.out]; exact hlt)
      obtain ⟨bb, off, rfl, hbl, cv⟩ := HS9.out.sl.i hv
      obtain ⟨v0, v1⟩ := HDB.out v (List.mem_of_getElem? hv)
      have hk0 : (0 : Int) ≤ (k : Int) := by omega
      have hk1 : (k : Int) < (d : Int) := by omega
      have HT := hide (show sumI (D.take (k + 1)) = S' + v by rw [sumI_take hv, hS])
      clear hv hS
      go_wp2_with fail
      go_roundw
      case rel => exact ⟨k + 1, S' + v, by omega, by go_num, rfl, by rw [HT.out], by first | rfl | trivial⟩
      case measure => simp [RowKit.intOf]; omega
    · obtain rfl : k = d := by omega
      rw [List.take_of_length_le (by rw [HD.out]; exact Nat.le_refl _), HSU.out] at hS
      subst hS
      have x0 : w9.cell? ⟨X, 0, none⟩ = some (.int .i64 F) := HB9.out.cell 0
      have x1 : w9.cell? ⟨X, 1, none⟩ = some (.slice A7 q c7) := HB9.out.cell 1
      go_wp2_with fail
      refine (HLA.out w9 H79.out).mono ?_
      rintro e w10 ⟨A10, c10, rfl, ho10, h10, -⟩
      have HS10 := hide ho10.sv
      have H10 := hide (chain H9.out h10)
      have HSP10 := hide (HSP9.out.below h10)
      clear h10 ho10 x0 x1
      go_wp2_with fail
      go_loopw [18] (fun i wr => ∃ j : Nat, j ≤ z ∧ i = .int .i64 j ∧ w10 = wr) (fun i _ => z - (RowKit.intOf i).toNat)
      case atStart => exact ⟨0, Nat.zero_le _, rfl, rfl⟩
      case round =>
        obtain ⟨j, hj, rfl, rfl⟩ := hrel
        by_cases hltz : j < z
        · obtain ⟨v, hv⟩ := get_of (l := Z) (k := j) (by rw [HZN.out]; exact hltz)
          obtain ⟨bb, off, rfl, hbl, cv⟩ := HS10.out.sl.i hv
          have v0 := HG1.out v (List.mem_of_getElem? hv)
          have v1 : ¬ v < 0 := by omega
          have hk0 : (0 : Int) ≤ (j : Int) := by omega
          have hk1 : (j : Int) < (z : Int) := by omega
          by_cases hj0 : j = 0
          · have hv0 : v = 0 := HG2.out v (by rw [← hj0]; exact hv)
            have hb1 : ((j : Int) == 0) = true := by simp; omega
            have hb2 : (v != 0) = false := by simpa using hv0
            clear hv hj0 hv0
            go_wp2_with fail
            go_roundw
            case rel => exact ⟨j + 1, by omega, by go_num, by first | rfl | trivial⟩
            case measure => simp [RowKit.intOf]; omega
          · have hb1 : ((j : Int) == 0) = false := by simp; omega
            clear hv hj0
            go_wp2_with fail
            go_roundw
            case rel => exact ⟨j + 1, by omega, by go_num, by first | rfl | trivial⟩
            case measure => simp [RowKit.intOf]; omega
        · obtain rfl : j = z := by omega
          have HSM := hide (sum20_any AP n capP P w10 HSP10.out HPB.out (by omega))
          go_upto_region 24 with fail
          go_wp2_with fail
          refine HSM.out.mono ?_
          rintro e w11 ⟨h11, sg, ss, sb, sr, so, rfl⟩
          have H11 := hide (chain H10.out h11)
          rw [HPS2.out]
          have hb1 : (S' == S') = true := by simp
          have hfi : ∀ (a1 a2 a3 a4 a5 : Int) (a6 : Bool) (W : World), (Instr.field 52 (.agg #[.int .i64 a1, .int .i64 a2, .int .i64 a3, .int .i64 a4, .int .i64 a5, .bool a6]) 2).run Tryz.prog W = .ok (.int .i64 a3) W := fun _ _ _ _ _ _ _ => by kernel_rfl
          rcases hkc with ⟨rfl, rfl⟩ | rfl
          · have hb2 : ((j : Int) == (j : Int)) = true := by simp
            go_wp2_with fail
            go_ret
            exact ⟨rfl, H11.out⟩
          · go_wp2_with fail
            go_ret
            exact ⟨rfl, H11.out⟩
end Go.Proofs.YtmfohnchnbgbaaaGreatDoor

/- Covers and files as they are given. -/
namespace Go.Proofs.YtmfohnchnbgbaaaGreatDoor
open Go.ChangeShapes Go.WideShapes Go.ChangeAt Go.RowKit
set_option linter.unusedVariables false
set_option maxRecDepth 1000000

theorem cells_covZ : Tryz.prog.cellsOf 41 = 5 := by kernel_rfl
theorem leaves_covZ : leaves Tryz.prog 2 41 = some [.int .i64, .int .i64, .int .i64, .int .i64, .int .i64] := by kernel_rfl
section
variable {H : Type} {enc : TypeId × Value → H} {W : World} {r : Reach} {b0 : Nat} {v : Value} {d : DataW H} {p : List MemPlace}
theorem open_coverZ (hv : Value.okWide Tryz.prog W r b0 41 v) (h : DataW.Trod enc Tryz.prog W 0 (fun _ => true) true 41 v d p) :
    ∃ c : Cv, v = .agg #[.int .i64 c.p, .int .i64 c.lim, .int .i64 c.agg, .int .i64 c.ded, .int .i64 c.sh] ∧ okCv c := by
  obtain ⟨l, rfl, hl⟩ := top_agg enc Tryz.prog W 2 Tryz.underlying41 leaves_covZ cells_covZ hv h
  obtain ⟨n1, l1, rfl, w1, h1⟩ := leaf_int enc _ _ hl
  obtain ⟨n2, l2, rfl, w2, h2⟩ := leaf_int enc _ _ h1
  obtain ⟨n3, l3, rfl, w3, h3⟩ := leaf_int enc _ _ h2
  obtain ⟨n4, l4, rfl, w4, h4⟩ := leaf_int enc _ _ h3
  obtain ⟨n5, l5, rfl, w5, h5⟩ := leaf_int enc _ _ h4
  obtain rfl := allLeaf_nil enc _ _ h5
  exact ⟨⟨n1, n2, n3, n4, n5⟩, rfl, wf64 w1, wf64 w2, wf64 w3, wf64 w4, wf64 w5⟩
theorem open_files (hv : Value.okWide Tryz.prog W r b0 42 v) (h : DataW.Trod enc Tryz.prog W 0 (fun _ => true) true 42 v d p) :
    ∃ (A : Option Addr) (L : List Fl) (cap : Nat), v = .slice A L.length cap ∧ FV W A L.length cap L := by
  obtain ⟨A, L, cap, rfl, g1, g2, g3, g4, g5⟩ := rows_of enc Tryz.prog W (α := Fl) 3 7 encFl (fun x => SV W 3 x.A x.l.length x.cap (x.l.map encAc)) leaves_file cells_file rfl (by omega) (fun cs hl => by
    obtain ⟨n1, l1, rfl, _, h1⟩ := leaf_int enc _ _ hl
    obtain ⟨n2, l2, rfl, _, h2⟩ := leaf_int enc _ _ h1
    obtain ⟨n3, l3, rfl, _, h3⟩ := leaf_int enc _ _ h2
    obtain ⟨n4, l4, rfl, _, h4⟩ := leaf_int enc _ _ h3
    obtain ⟨n5, l5, rfl, _, h5⟩ := leaf_int enc _ _ h4
    obtain ⟨n6, l6, rfl, _, h6⟩ := leaf_int enc _ _ h5
    obtain ⟨v7, l7, rfl, h7, h8⟩ := allLeaf_cons enc _ _ h6
    obtain rfl := allLeaf_nil enc _ _ h8
    obtain ⟨A, l, cap, rfl, hs⟩ := rows_acts h7
    exact ⟨⟨⟨n1, n2, n3, n4, n5, n6⟩, A, l, cap⟩, rfl, hs⟩) (top_slice enc _ _ Tryz.underlying42 hv h)
  exact ⟨A, L, cap, rfl, ⟨⟨g3, List.length_map _, g1, g2, g5⟩, g4⟩⟩
end
end Go.Proofs.YtmfohnchnbgbaaaGreatDoor

/- TopYearsPaid: the last diagonal of the triangle of what was paid is all that files were paid; the first year has nothing left, none has less than nothing left. The card. -/
namespace Go.Proofs.YtmfohnchnbgbaaaGreatDoor
open Go.ChangeShapes Go.WideShapes Go.ChangeAt Go.RowKit
set_option linter.unusedVariables false

theorem topYearsPaid_walk (w : World) (c : Cv) (oc : okCv c) (A : Option Addr) (L : List Fl) (cap : Nat) (fv : FV w A L.length cap L) (hg : Hdl w) :
    Calls Tryz.prog 4 #[.agg #[.int .i64 c.p, .int .i64 c.lim, .int .i64 c.agg, .int .i64 c.ded, .int .i64 c.sh], .slice A L.length cap] w fun e w' => e = .returned (.bool true) ∧ Below w.heap.size w w' :=
  topYearsPaid_w w c A L.length cap L oc fv hg

set_option maxRecDepth 100000 in
theorem topYearsPaid_lifted (os : Os) (started : os.Started) (H : Type) (enc : TypeId × Value → H) :
    ReturnsInHanded {} Tryz.checked os 4 .any (fun w args => (Rows.topYearsPaidSpec.pre enc Tryz.prog Tryz.f4 Rows.topYearsPaidRow.domain false w args ∧ laidMetH Tryz.prog [("errors.errorType", Rows.laid_errors_errorType)] w) ∧ sizedMet enc Tryz.prog Tryz.f4 (OpenSpec.ofChange Rows.topYearsPaidSpec) false w args) (Rows.topYearsPaidSpec.post enc Tryz.prog Tryz.f4 false true false false) := by
  refine returnsInHanded_of_change_and (C := Tryz.checked) (X := fun w _ => laidMetH Tryz.prog [("errors.errorType", Rows.laid_errors_errorType)] w) (fun _ _ _ hh h => h.of_heap hh) own started (by kernel_rfl) Tryz.func4
    (ChangeSpec.witness_at (enc := enc) (C := Tryz.checked) (os := os) (X := fun w _ => laidMetH Tryz.prog [("errors.errorType", Rows.laid_errors_errorType)] w) false (laidWorld os) #[.agg #[.int .i64 0, .int .i64 0, .int .i64 0, .int .i64 0, .int .i64 0], .slice none 0 0] 8 rfl (by kernel_rfl) (by kernel_rfl) (by kernel_rfl) (by kernel_rfl) (by kernel_rfl) (laidWorld_met os _)) ?_
  intro W base args ds gs before hval0 hW hcnd hz0 hL _
  have hval : ∀ (j : Nat) t v, Tryz.f4.params[j]? = some t → args[j]? = some v → Value.okWide Tryz.prog W .any base t v := hval0
  have hg := handle_of_laid hL
  have hW' := hW
  obtain ⟨p, q, hA0, hV, rfl, hfz, hnd⟩ := hW
  have hA : DataW.TrodAll enc Tryz.prog W 0 (fun _ => true) true Tryz.f4.params.toList args.toList ds p := hA0
  rw [Tryz.params4] at hA hval
  obtain ⟨v0, vs0, d0, ds0, p0, q0, hargs, rfl, rfl, h0, r0⟩ := trodAll_cons hA
  obtain ⟨v1, vs1, d1, ds1, p1, q1, rfl, rfl, rfl, h1, r1⟩ := trodAll_cons r0
  obtain ⟨rfl, rfl, rfl⟩ := trodAll_nil r1
  obtain rfl : args = #[v0, v1] := by cases args; simp_all
  obtain ⟨rfl, rfl⟩ := trodVars_none hV
  obtain ⟨c0, rfl, oc0⟩ := open_coverZ (hval 0 41 v0 rfl rfl) h0
  obtain ⟨A1, L1, cap1, rfl, fv1⟩ := open_files (hval 1 42 v1 rfl rfl) h1
  refine (topYearsPaid_walk W c0 oc0 A1 L1 cap1 fv1 hg).mono fun e W' ⟨he, hb⟩ => ?_
  subst he
  exact ⟨_, rfl, law_post laidOut (by kernel_rfl) rfl Tryz.underlying4 rfl rfl hW' hb⟩

/-- THE STATEMENT. -/
theorem topYearsPaid_holds : Rows.TopYearsPaidSaid :=
  OpenClaim.holds_of_wide 4 Tryz.f4 rfl rfl rfl rfl rfl rfl rfl ⟨rfl, rfl, rfl, rfl, rfl⟩ rfl rfl rfl rfl rfl (by kernel_rfl) Tryz.func4 (by kernel_rfl)
    (of_decide_eq_true (by kernel_rfl)) (by unfold Func.isWrapper; first | (rw [if_pos (by decide +kernel)]; kernel_rfl) | (rw [if_neg (by decide +kernel)]; exact ⟨rfl, rfl⟩))
    (fun os started H enc _ => topYearsPaid_lifted os started H enc)

/-- THE CARD. -/
theorem topYearsPaid_card : Rows.TopYearsPaidCardSaid :=
  Claim7.holds_tied_plain_at .later [] [.handle] true (true, "a762175604726eaf503e19e7344a5bfdbaefc46709ac949de9124ca253a18e26") true
    topYearsPaid_holds (fun _ h => by cases h) (by kernel_rfl) (fun _ h => by cases h) topYearsPaid_row_tie rfl ⟨rfl, rfl⟩ (by kernel_rfl) rfl
    (fun f fn hf hfn => by
      obtain rfl : f = 4 := Option.some.inj ((show Tryz.prog.funcNamed "bordereau/bordereautop.TopYearsPaid" = some 4 by kernel_rfl).symm.trans hf) |>.symm
      obtain rfl : fn = Tryz.f4 := (Option.some.inj (Tryz.func4.symm.trans hfn)).symm
      exact ⟨by kernel_rfl, fun j t ht => by
        rw [Tryz.params4] at ht
        have h3 : t = 41 ∨ t = 42 := by
          rcases j with _ | _ | j
          · exact .inl (by simpa using ht.symm)
          · exact .inr (by simpa using ht.symm)
          · simp at ht
        rcases h3 with rfl | rfl
        · exact (show Tryz.prog.wantsStandIn 41 = false by kernel_rfl)
        · exact (show Tryz.prog.wantsStandIn 42 = false by kernel_rfl)⟩)
    (by kernel_rfl)

end Go.Proofs.YtmfohnchnbgbaaaGreatDoor
