/- Part 50 of the proof. -/
import Derived.Test.YtmfohnchnbgbaaaGreatKnM49
/- The policy's premium is alive. -/
namespace Go.Proofs.YtmfohnchnbgbaaaGreat
open Go.RowKit Go.Lib

set_option maxRecDepth 1000000 in
theorem pol_due (A Z P : Option Addr) : due0 (polH A) (allV [polV Z P]) = (10000, 0) := by kernel_rfl
set_option maxRecDepth 1000000 in
theorem pol_slE (A Z P : Option Addr) : slE (polH A) [] (allV [polV Z P]) = 0 := by kernel_rfl
set_option maxRecDepth 1000000 in
theorem pol_upto (A Z P : Option Addr) : UptoS (slL (polH A) [] (allV [polV Z P])) 41 = (4000, 0) := by kernel_rfl
/-- The cancel. -/
def polC (A : Option Addr) (k : Nat) : Ch := ⟨5, 41, 3, 0, 0, 0, 0, A, [], k, 0⟩
set_option maxRecDepth 1000000 in
theorem pol_given (Z P tA cA B : Option Addr) (tc cc cap : Nat) : shortC [polC cA cc] = false ∧ due0 { polH tA with tm := { (polH tA).tm with A := tA, cap := tc }, A := B, cs := [polC cA cc], cap := cap } (allV [polV Z P]) = (4000, 0) := ⟨by kernel_rfl, by kernel_rfl⟩
theorem lenV_pol (Z P : Option Addr) : ∀ x ∈ [polV Z P], LenV x := by
  intro x hx
  rw [List.mem_singleton] at hx
  subst hx
  simp [LenV, polV]
theorem polU {out : List Sc} {A Z P : Option Addr} (h : out.map Sc.v = slL (polH A) [] (allV [polV Z P])) : UptoQ out 41 = (4000, 0) := by rw [uptoS_of h]; exact pol_upto A Z P
theorem his_hic (A : Option Addr) : hisC A = hiC (polH A) := rfl
def hisV (A : Option Addr) : Value := .agg #[.int .i64 1, .int .i64 1, .int .i64 1, .int .i64 101, .int .i64 0, .int .i64 36500, .int .i64 0, .int .i64 0, .slice A 1 1, .slice none 0 0]

set_option maxRecDepth 100000 in
set_option maxHeartbeats 4000000 in
theorem palive_any (w : World) : Calls Tryz.prog 16 #[] w fun e w' => e = .returned (.bool true) ∧ Below w.heap.size w w' := by
  go_enter Tryz.func16, Tryz.ntmps16
  go_wp2_with fail
  refine (policy_any w).mono ?_
  rintro e w1 ⟨A, Z, P, V, rfl, hv, hT, h1⟩
  have hd : ∀ W, HV W (polH A) → TV W V 1 1 [polV Z P] → Calls Tryz.prog 19 #[.agg #[.int .i64 1, .int .i64 1, .int .i64 1, .int .i64 101, .int .i64 0, .int .i64 36500, .int .i64 0, .int .i64 0, .slice A 1 1, .slice none 0 0], .agg #[.slice V 1 1]] W fun e w' => e = .returned (.tuple #[.int .i64 10000, .int .i64 0]) ∧ Below W.heap.size W w' := fun W a b => by
    have h := due0_any (polH A) V 1 1 [polV Z P] W a b (lenV_pol Z P) (by simp [polH]) rfl
    rw [pol_due] at h
    exact h
  have hsl : ∀ W, HV W (polH A) → TV W V 1 1 [polV Z P] → Calls Tryz.prog 18 #[.agg #[.int .i64 1, .int .i64 1, .int .i64 1, .int .i64 101, .int .i64 0, .int .i64 36500, .int .i64 0, .int .i64 0, .slice A 1 1, .slice none 0 0], .agg #[.slice V 1 1]] W (SlcP 0 (slL (polH A) [] (allV [polV Z P])) W) := fun W a b => by
    have h := slc_any (polH A) [] V 1 [polV Z P] W a b (lenV_pol Z P) (fun _ => ordd_small (polH A) W a (by simp [polH]))
    rw [pol_slE] at h
    exact h
  have hgi : ∀ W, HV W (polH A) → TV W V 1 1 [polV Z P] → Calls Tryz.prog 38 #[.agg #[.int .i64 1, .int .i64 1, .int .i64 1, .int .i64 101, .int .i64 0, .int .i64 36500, .int .i64 0, .int .i64 0, .slice A 1 1, .slice none 0 0], .agg #[.slice V 1 1], .agg #[.int .i64 5, .int .i64 41, .int .i64 3, .int .i64 0, .int .i64 0, .int .i64 0, .int .i64 0, .slice none 0 0, .int .i64 0]] W fun e w' => e = .returned (.tuple #[.int .i64 6000, .int .i64 0]) ∧ Below W.heap.size W w' := fun W a b =>
    given0_any (polH A) (polC none 0) V 1 1 [polV Z P] 10000 4000 W a b (lenV_pol Z P) rfl rfl rfl ⟨Sl.nil_, rfl, Nat.le_refl _, by simp [maxLen, polC], fun _ => rfl⟩ ⟨by simp [ok64, polC], fun x hx => by simp [polC] at hx⟩ (by kernel_rfl) (by kernel_rfl) (by simp [polH, polC]) (by simp [polH, polC]) (pol_due A Z P) (fun tA cA B tc cc cap => pol_given Z P tA cA B tc cc cap) (by omega)
  have hup : ∀ W B A5 cap5 (out : List Sc), out.map Sc.v = slL (polH A) [] (allV [polV Z P]) → Made W B A5 cap5 out → Calls Tryz.prog 20 #[.slice A5 out.length cap5, .int .i64 41] W fun e w' => e = .returned (.tuple #[.int .i64 4000, .int .i64 0]) ∧ Below W.heap.size W w' := fun W B A5 cap5 out ho hm => by
    have h := Upto_any addc_all A5 cap5 out.length out 41 W hm.own.sv
    rw [polU ho] at h
    exact h
  obtain ⟨w2, hw2⟩ : ∃ W, (w1.alloc (.cells (hisC A) 65)).alloc (.cells #[.slice V 1 1] 68) = W := ⟨_, rfl⟩
  have hb2 : Below w1.heap.size w1 w2 := by rw [← hw2]; exact ((Below.refl _ _).alloc (Nat.le_refl _) _).alloc (by simp) _
  have hB2 : Blk w2 w1.heap.size 65 (hisC A) := by rw [← hw2]; exact (Blk.new _ _ _).alloc _
  have hC2 : Blk w2 (w1.heap.size + 1) 68 #[.slice V 1 1] := by rw [← hw2]; exact Blk.new' (by simp)
  obtain ⟨x0, x1, x2, x3, x4, x5, x6, x7, x8, x9⟩ := his_cells hB2
  have y0 : w2.cell? ⟨w1.heap.size + 1, 0, none⟩ = some (.slice V 1 1) := hC2.cell 0
  have HB2 := hide hB2
  have HC2 := hide hC2
  have HV2 := hide (hv.below hb2)
  have HT2 := hide (hT.below hb2)
  have H2 := hide (chain h1 hb2)
  have HD := hide hd
  have HS := hide hsl
  have HG := hide hgi
  have HU := hide hup
  clear hv hT h1 hd hsl hgi hup hb2 hB2 hC2
  rw [← his_hic, hisC]
  go_upto_region 2 with fail
  change Code.wp _ _ _ _ ((w1.alloc (.cells (hisC A) 65)).alloc (.cells #[.slice V 1 1] 68))
  rw [hw2]
  clear hw2
  go_wp2_with fail
  refine (HD.out _ HV2.out HT2.out).mono ?_
  rintro e w3 ⟨rfl, h3⟩
  have HB3 := hide (HB2.out.below h3 HB2.out.lt)
  have HC3 := hide (HC2.out.below h3 HC2.out.lt)
  have HV3 := hide (HV2.out.below h3)
  have HT3 := hide (HT2.out.below h3)
  have H3 := hide (chain H2.out h3)
  clear h3 x0 x1 x2 x3 x4 x5 x6 x7 x8 x9 y0
  obtain ⟨x0, x1, x2, x3, x4, x5, x6, x7, x8, x9⟩ := his_cells HB3.out
  have y0 : w3.cell? ⟨w1.heap.size + 1, 0, none⟩ = some (.slice V 1 1) := HC3.out.cell 0
  go_wp2_with fail
  refine (HS.out _ HV3.out HT3.out).mono ?_
  rintro e w4 ⟨h4, ⟨hne, -⟩ | ⟨-, A5, cap5, out, rfl, hov, hmd⟩⟩
  · exact absurd rfl hne
  have HB4 := hide (HB3.out.below h4 HB3.out.lt)
  have HC4 := hide (HC3.out.below h4 HC3.out.lt)
  have HV4 := hide (HV3.out.below h4)
  have HT4 := hide (HT3.out.below h4)
  have H4 := hide (chain H3.out h4)
  have HM4 := hide hmd
  have HOV := hide hov
  clear h4 hov hmd x0 x1 x2 x3 x4 x5 x6 x7 x8 x9 y0
  go_wp2_with fail
  refine (HU.out _ _ _ _ _ HOV.out HM4.out).mono ?_
  rintro e w5 ⟨rfl, h5⟩
  have HB5 := hide (HB4.out.below h5 HB4.out.lt)
  have HC5 := hide (HC4.out.below h5 HC4.out.lt)
  have HV5 := hide (HV4.out.below h5)
  have HT5 := hide (HT4.out.below h5)
  have H5 := hide (chain H4.out h5)
  clear h5
  obtain ⟨x0, x1, x2, x3, x4, x5, x6, x7, x8, x9⟩ := his_cells HB5.out
  have y0 : w5.cell? ⟨w1.heap.size + 1, 0, none⟩ = some (.slice V 1 1) := HC5.out.cell 0
  go_wp2_with fail
  refine (HG.out _ HV5.out HT5.out).mono ?_
  rintro e w6 ⟨rfl, h6⟩
  have HB6 := hide (HB5.out.below h6 HB5.out.lt)
  have HC6 := hide (HC5.out.below h6 HC5.out.lt)
  have HV6 := hide (HV5.out.below h6)
  have HT6 := hide (HT5.out.below h6)
  have H6 := hide (chain H5.out h6)
  clear h6 x0 x1 x2 x3 x4 x5 x6 x7 x8 x9 y0
  obtain ⟨x0, x1, x2, x3, x4, x5, x6, x7, x8, x9⟩ := his_cells HB6.out
  have y0 : w6.cell? ⟨w1.heap.size + 1, 0, none⟩ = some (.slice V 1 1) := HC6.out.cell 0
  go_wp2_with fail
  refine (plan_any _).mono ?_
  rintro e w7 ⟨A7, c7, rfl, hp7, h7⟩
  have H7 := hide (chain H6.out h7)
  have hal := (Below.refl w7.heap.size w7).alloc (Nat.le_refl _) (.cells #[.int .i64 1, .int .i64 5000, .int .i64 0, .int .i64 182, .int .i64 5000, .int .i64 0] 123)
  have hsa := sameBl_any A7 (some ⟨w7.heap.size, 0, none⟩) 2 c7 2 [(1, 5000), (182, 5000)] _ (hp7.below hal) (OwnS.lit w7 (B := w7.heap.size) (Nat.le_refl _) 123 (sz := 3) ([(1, 5000), (182, 5000)].map encBl) (okBl _) (by simp [maxLen]) #[.int .i64 1, .int .i64 5000, .int .i64 0, .int .i64 182, .int .i64 5000, .int .i64 0] rfl).sv (by omega)
  have HSA := hide hsa
  clear h7 hp7 hal hsa x0 x1 x2 x3 x4 x5 x6 x7 x8 x9 y0
  go_wp2_with fail
  refine HSA.out.mono ?_
  rintro e w8 ⟨rfl, h8⟩
  have H8 := hide (chain H7.out (chain1 h8))
  clear h8
  go_wp2_with fail
  go_ret
  exact ⟨rfl, H8.out⟩
end Go.Proofs.YtmfohnchnbgbaaaGreat
