/- Part 47 of the proof. -/
import Derived.Test.YtmfohnchnbgbaaaGreatPdM39
import Derived.Test.YtmfohnchnbgbaaaGreatPdM46
/- The policy's premium is alive. -/
namespace Go.Proofs.YtmfohnchnbgbaaaGreat
open Go.RowKit Go.Lib

set_option maxRecDepth 1000000 in
theorem pol_due (A Z P : Option Addr) : due0 (polH A) (allV [polV Z P]) = (10000, 0) := by kernel_rfl
set_option maxRecDepth 1000000 in
theorem pol_slE (A Z P : Option Addr) : slE (polH A) [] (allV [polV Z P]) = 0 := by kernel_rfl
set_option maxRecDepth 1000000 in
theorem pol_upto (A Z P : Option Addr) : UptoS (slL (polH A) [] (allV [polV Z P])) 41 = (4000, 0) := by kernel_rfl
/-- The cancel. -/
def polC (A : Option Addr) (k : Nat) : Ch := ⟨5, 41, 3, 0, 0, 0, 0, A, [], k, 0⟩
set_option maxRecDepth 1000000 in
theorem pol_given (Z P tA cA B : Option Addr) (tc cc cap : Nat) : shortC [polC cA cc] = false ∧ due0 { polH tA with tm := { (polH tA).tm with A := tA, cap := tc }, A := B, cs := [polC cA cc], cap := cap } (allV [polV Z P]) = (4000, 0) := ⟨by kernel_rfl, by kernel_rfl⟩
theorem lenV_pol (Z P : Option Addr) : ∀ x ∈ [polV Z P], LenV x := by
  intro x hx
  rw [List.mem_singleton] at hx
  subst hx
  simp [LenV, polV]
theorem polU {out : List Sc} {A Z P : Option Addr} (h : out.map Sc.v = slL (polH A) [] (allV [polV Z P])) : UptoQ out 41 = (4000, 0) := by rw [uptoS_of h]; exact pol_upto A Z P
theorem his_hic (A : Option Addr) : hisC A = hiC (polH A) := rfl
def hisV (A : Option Addr) : Value := .agg #[.int .i64 1, .int .i64 1, .int .i64 1, .int .i64 101, .int .i64 0, .int .i64 36500, .int .i64 0, .int .i64 0, .slice A 1 1, .slice none 0 0]

set_option maxRecDepth 100000 in
set_option maxHeartbeats 4000000 in
theorem palive_any (w : World) : Calls Tryz.prog 16 #[] w fun e w' => e = .returned (.bool true) ∧ Below w.heap.size w w' := by
  go_enter Tryz.func16, Tryz.ntmps16
  go_wp2_with fail
  refine (policy_any w).mono ?_
  rintro e w1 ⟨A, Z, P, V, rfl, hv, hT, h1⟩
  have hd : ∀ W, HV W (polH A) → TV W V 1 1 [polV Z P] → Calls Tryz.prog 19 #[.agg #[.int .i64 1, .int .i64 1, .int .i64 1, .int .i64 101, .int .i64 0, .int .i64 36500, .int .i64 0, .int .i64 0, .slice A 1 1, .slice none 0 0], .agg #[.slice V 1 1]] W fun e w' => e = .returned (.tuple #[.int .i64 10000, .int .i64 0]) ∧ Below W.heap.size W w' := fun W a b => by
    have h := due0_any (polH A) V 1 1 [polV Z P] W a b (lenV_pol Z P) (by simp [polH]) rfl
    rw [pol_due] at h
    exact h
  have hsl : ∀ W, HV W (polH A) → TV W V 1 1 [polV Z P] → Calls Tryz.prog 18 #[.agg #[.int .i64 1, .int .i64 1, .int .i64 1, .int .i64 101, .int .i64 0, .int .i64 36500, .int .i64 0, .int .i64 0, .slice A 1 1, .slice none 0 0], .agg #[.slice V 1 1]] W (SlcP 0 (slL (polH A) [] (allV [polV Z P])) W) := fun W a b => by
    have h := slc_any (polH A) [] V 1 [polV Z P] W a b (lenV_pol Z P) (fun _ => ordd_small (polH A) W a (by simp [polH]))
    rw [pol_slE] at h
    exact h
  have hgi : ∀ W, HV W (polH A) → TV W V 1 1 [polV Z P] → Calls Tryz.prog 38 #[.agg #[.int .i64 1, .int .i64 1, .int .i64 1, .int .i64 101, .int .i64 0, .int .i64 36500, .int .i64 0, .int .i64 0, .slice A 1 1, .slice none 0 0], .agg #[.slice V 1 1], .agg #[.int .i64 5, .int .i64 41, .int .i64 3, .int .i64 0, .int .i64 0, .int .i64 0, .int .i64 0, .slice none 0 0, .int .i64 0]] W fun e w' => e = .returned (.tuple #[.int .i64 6000, .int .i64 0]) ∧ Below W.heap.size W w' := fun W a b =>
    given0_any (polH A) (polC none 0) V 1 1 [polV Z P] 10000 4000 W a b (lenV_pol Z P) rfl rfl rfl ⟨Sl.nil_, rfl, Nat.le_refl _, by simp [maxLen, polC], fun _ => rfl⟩ ⟨by simp [ok64, polC], fun x hx => by simp [polC] at hx⟩ (by kernel_rfl) (by kernel_rfl) (by simp [polH, polC]) (by simp [polH, polC]) (pol_due A Z P) (fun tA cA B tc cc cap => pol_given Z P tA cA B tc cc cap) (by omega)
  have hup : ∀ W B A5 cap5 (out : List Sc), out.map Sc.v = slL (polH A) [] (allV [polV Z P]) → Made W B A5 cap5 out → Calls Tryz.prog 20 #[.slice A5 out.length cap5, .int .i64 41] W fun e w' => e = .returned (.tuple #[.int .i64 4000, .int .i64 0]) ∧ Below W.heap.size W w' := fun W B A5 cap5 out ho hm => by
    have h := Upto_any addc_all A5 cap5 out.length out 41 W hm.own.sv
    rw [polU ho] at h
    exact h
  obtain ⟨w2, hw2⟩ : ∃ W, (w1.alloc (.cells (hisC A) 65)).alloc (.cells #[.slice V 1 1] 68) = W := ⟨_, rfl⟩
  have hb2 : Below w1.heap.size w1 w2 := by rw [← hw2]; exact ((Below.refl _ _).alloc (Nat.le_refl _) _).alloc (by simp) _
  have hB2 : Blk w2 w1.heap.size 65 (hisC A) := by rw [← hw2]; exact (Blk.new _ _ _).alloc _
  have hC2 : Blk w2 (w1.heap.size + 1) 68 #[.slice V 1 1] := by rw [← hw2]; exact Blk.new' (by simp)
  obtain ⟨x0, x1, x2, x3, x4, x5, x6, x7, x8, x9⟩ := his_cells hB2
  have y0 : w2.cell? ⟨w1.heap.size + 1, 0, none⟩ = some (.slice V 1 1) := hC2.cell 0
  have HB2 := hide hB2
  have HC2 := hide hC2
  have HV2 := hide (hv.below hb2)
  have HT2 := hide (hT.below hb2)
  have H2 := hide (chain h1 hb2)
  have HD := hide hd
  have HS := hide hsl
  have HG := hide hgi
  have HU := hide hup
  clear hv hT h1 hd hsl hgi hup hb2 hB2 hC2
  rw [← his_hic, hisC]
  go_upto_region 2 with fail
  change Code.wp _ _ _ _ ((w1.alloc (.cells (hisC A) 65)).alloc (.cells #[.slice V 1 1] 68))
  rw [hw2]
  clear hw2
  go_wp2_with fail
  refine (HD.out _ HV2.out HT2.out).mono ?_
  rintro e w3 ⟨rfl, h3⟩
  have HB3 := hide (HB2.out.below h3 HB2.out.lt)
  have HC3 := hide (HC2.out.below h3 HC2.out.lt)
  have HV3 := hide (HV2.out.below h3)
  have HT3 := hide (HT2.out.below h3)
  have H3 := hide (chain H2.out h3)
  clear h3 x0 x1 x2 x3 x4 x5 x6 x7 x8 x9 y0
  obtain ⟨x0, x1, x2, x3, x4, x5, x6, x7, x8, x9⟩ := his_cells HB3.out
  have y0 : w3.cell? ⟨w1.heap.size + 1, 0, none⟩ = some (.slice V 1 1) := HC3.out.cell 0
  go_wp2_with fail
  refine (HS.out _ HV3.out HT3.out).mono ?_
  rintro e w4 ⟨h4, ⟨hne, -⟩ | ⟨-, A5, cap5, out, rfl, hov, hmd⟩⟩
  · exact absurd rfl hne
  have HB4 := hide (HB3.out.below h4 HB3.out.lt)
  have HC4 := hide (HC3.out.below h4 HC3.out.lt)
  have HV4 := hide (HV3.out.below h4)
  have HT4 := hide (HT3.out.below h4)
  have H4 := hide (chain H3.out h4)
  have HM4 := hide hmd
  have HOV := hide hov
  clear h4 hov hmd x0 x1 x2 x3 x4 x5 x6 x7 x8 x9 y0
  go_wp2_with fail
  refine (HU.out _ _ _ _ _ HOV.out HM4.out).mono ?_
  rintro e w5 ⟨rfl, h5⟩
  have HB5 := hide (HB4.out.below h5 HB4.out.lt)
  have HC5 := hide (HC4.out.below h5 HC4.out.lt)
  have HV5 := hide (HV4.out.below h5)
  have HT5 := hide (HT4.out.below h5)
  have H5 := hide (chain H4.out h5)
  clear h5
  obtain ⟨x0, x1, x2, x3, x4, x5, x6, x7, x8, x9⟩ := his_cells HB5.out
  have y0 : w5.cell? ⟨w1.heap.size + 1, 0, none⟩ = some (.slice V 1 1) := HC5.out.cell 0
  go_wp2_with fail
  refine (HG.out _ HV5.out HT5.out).mono ?_
  rintro e w6 ⟨rfl, h6⟩
  have HB6 := hide (HB5.out.below h6 HB5.out.lt)
  have HC6 := hide (HC5.out.below h6 HC5.out.lt)
  have HV6 := hide (HV5.out.below h6)
  have HT6 := hide (HT5.out.below h6)
  have H6 := hide (chain H5.out h6)
  clear h6 x0 x1 x2 x3 x4 x5 x6 x7 x8 x9 y0
  obtain ⟨x0, x1, x2, x3, x4, x5, x6, x7, x8, x9⟩ := his_cells HB6.out
  have y0 : w6.cell? ⟨w1.heap.size + 1, 0, none⟩ = some (.slice V 1 1) := HC6.out.cell 0
  go_wp2_with fail
  refine (plan_any _).mono ?_
  rintro e w7 ⟨A7, c7, rfl, hp7, h7⟩
  have H7 := hide (chain H6.out h7)
  have hal := (Below.refl w7.heap.size w7).alloc (Nat.le_refl _) (.cells #[.int .i64 1, .int .i64 5000, .int .i64 0, .int .i64 182, .int .i64 5000, .int .i64 0] 123)
  have hsa := sameBl_any A7 (some ⟨w7.heap.size, 0, none⟩) 2 c7 2 [(1, 5000), (182, 5000)] _ (hp7.below hal) (OwnS.lit w7 (B := w7.heap.size) (Nat.le_refl _) 123 (sz := 3) ([(1, 5000), (182, 5000)].map encBl) (okBl _) (by simp [maxLen]) #[.int .i64 1, .int .i64 5000, .int .i64 0, .int .i64 182, .int .i64 5000, .int .i64 0] rfl).sv (by omega)
  have HSA := hide hsa
  clear h7 hp7 hal hsa x0 x1 x2 x3 x4 x5 x6 x7 x8 x9 y0
  go_wp2_with fail
  refine HSA.out.mono ?_
  rintro e w8 ⟨rfl, h8⟩
  have H8 := hide (chain H7.out (chain1 h8))
  clear h8
  go_wp2_with fail
  go_ret
  exact ⟨rfl, H8.out⟩
end Go.Proofs.YtmfohnchnbgbaaaGreat

/- TopPremiumDays: the walk. -/
namespace Go.Proofs.YtmfohnchnbgbaaaGreat
open Go.RowKit Go.Lib

def ch0 : Ch := ⟨0, 0, 0, 0, 0, 0, 0, none, [], 0, 0⟩
theorem pfew_zero (h : Hi) (A : Option Addr) (cap : Nat) (M : List Vw) (w : World) (hv : HV w h) (hT : TV w A M.length cap M) :
    Calls Tryz.prog 17 #[.agg #[.int .i64 h.id, .int .i64 h.bk, .int .i64 h.tm.f, .int .i64 h.tm.t, .int .i64 h.tm.k, .int .i64 h.tm.v, .int .i64 h.tm.a, .int .i64 h.tm.z, .slice h.tm.A h.tm.l.length h.tm.cap, .slice h.A h.cs.length h.cap], .agg #[.slice A M.length cap], .agg #[.int .i64 0, .int .i64 0, .int .i64 0, .int .i64 0, .int .i64 0, .int .i64 0, .int .i64 0, .slice none 0 0, .int .i64 0]] w (FewP h M w) := pfew_any h A cap M ch0 w hv hT
theorem even365 (s : Nat) (h : s ≤ 4000000000000000000) (w : World) : Calls Tryz.prog 25 #[.int .i64 s, .int .i64 1, .int .i64 365] w fun e w' => e = .returned (.tuple #[.int .i64 (evQ s 1 365 : Nat), .int .i64 0]) ∧ Below w.heap.size w w' := by
  have := even_any s 1 365 (by omega) (by omega) (by omega) (by omega) w
  rwa [ev365 s h] at this
theorem year_is {s : Sc} {v : Ver} {x : Vw} {k vl a z y : Int} (hxv : x.v = v) (hq : yearQ v k vl a z s.l = (y, 0)) (w : World) (hx : VOK w x) (hs : SV w 5 s.A s.l.length s.cap (s.l.map encCv)) (ho : ∀ c ∈ s.l, okCv c) :
    Calls Tryz.prog 24 #[.agg #[.int .i64 x.f, .int .i64 x.b0, .int .i64 x.b1, .int .i64 x.b2, .int .i64 x.b3, .slice x.aA x.age.length x.aC, .slice x.zA x.zone.length x.zC, .slice x.pA x.peril.length x.pC, .int .i64 x.mn], .agg #[.int .i64 k, .int .i64 vl, .int .i64 a, .int .i64 z], .slice s.A s.l.length s.cap] w fun e w' => e = .returned (.tuple #[.int .i64 y, .int .i64 0]) ∧ Below w.heap.size w w' := by
  subst hxv
  have := yearC_any x k vl a z s.A s.cap s.l.length s.l w hx hs ho
  rw [hq] at this
  exact this

set_option maxRecDepth 100000 in
set_option maxHeartbeats 8000000 in
theorem topPremiumDays_w (w : World) (h : Hi) (V : Option Addr) (cap : Nat) (M : List Vw) (u : Int) (hu : 0 ≤ u ∧ u ≤ 4294967295) (hv : HV w h) (hT : TV w V M.length cap M) :
    Calls Tryz.prog 6 #[.agg #[.int .i64 h.id, .int .i64 h.bk, .int .i64 h.tm.f, .int .i64 h.tm.t, .int .i64 h.tm.k, .int .i64 h.tm.v, .int .i64 h.tm.a, .int .i64 h.tm.z, .slice h.tm.A h.tm.l.length h.tm.cap, .slice h.A h.cs.length h.cap], .agg #[.slice V M.length cap], .int .u32 u] w fun e w' => e = .returned (.bool true) ∧ Below w.heap.size w w' := by
  have HU := hide hu
  obtain ⟨w1, hw1⟩ : ∃ W, (w.alloc (.cells (hiC h) 65)).alloc (.cells #[.slice V M.length cap] 68) = W := ⟨_, rfl⟩
  have hB : Blk w1 w.heap.size 65 (hiC h) := by rw [← hw1]; exact (Blk.new _ _ _).alloc _
  have hS : Blk w1 (w.heap.size + 1) 68 #[.slice V M.length cap] := by rw [← hw1]; exact Blk.new' (by simp)
  have hb1 : Below w.heap.size w w1 := by rw [← hw1]; exact ((Below.refl _ _).alloc (Nat.le_refl _) _).alloc (by simp) _
  have H1 := hide hb1
  have HW := hide hw1
  have HB := hide hB
  have HS := hide hS
  have HV := hide (hv.below hb1)
  have HT := hide (hT.below hb1)
  clear hB hS hb1 hw1 hv hT hu
  go_enter Tryz.func6, Tryz.ntmps6
  go_upto_region 1 with fail
  change Code.wp _ _ _ _ ((w.alloc (.cells (hiC h) 65)).alloc (.cells #[.slice V M.length cap] 68))
  rw [HW.out]
  clear HW
  go_wp2_with fail
  refine (palive_any w1).mono ?_
  rintro e w2 ⟨rfl, h2⟩
  have HB2 := hide (HB.out.below h2 HB.out.lt)
  have HS2 := hide (HS.out.below h2 HS.out.lt)
  have HV2 := hide (HV.out.below h2)
  have HT2 := hide (HT.out.below h2)
  have H2 := hide (chain H1.out h2)
  clear h2 HB HS HV HT H1
  obtain ⟨z0, z1, z2, z3, z4, z5, z6, z7, z8, z9⟩ := hi_cells HB2.out
  have s0 : w2.cell? ⟨w.heap.size + 1, 0, none⟩ = some (.slice V M.length cap) := HS2.out.cell 0
  have HF := hide (pfew_zero h V cap M w2 HV2.out HT2.out)
  go_wp2_with fail
  refine HF.out.mono ?_
  rintro e w3 ⟨b, rfl, hq, h3⟩
  have HB3 := hide (HB2.out.below h3 HB2.out.lt)
  have HS3 := hide (HS2.out.below h3 HS2.out.lt)
  have HV3 := hide (HV2.out.below h3)
  have HT3 := hide (HT2.out.below h3)
  have H3 := hide (chain H2.out h3)
  have HQ := hide hq
  clear h3 hq z0 z1 z2 z3 z4 z5 z6 z7 z8 z9 s0 HF HB2 HS2 HV2 HT2 H2
  cases b
  · go_wp2_with fail
    go_ret
    exact ⟨rfl, H3.out⟩
  obtain ⟨hn60, hfew⟩ := HQ.out rfl
  have hlen : ∀ x ∈ M, LenV x := fun x hx => by obtain ⟨a, b, c⟩ := hfew x hx; exact ⟨by omega, by omega, by omega⟩
  obtain ⟨z0, z1, z2, z3, z4, z5, z6, z7, z8, z9⟩ := hi_cells HB3.out
  have s0 : w3.cell? ⟨w.heap.size + 1, 0, none⟩ = some (.slice V M.length cap) := HS3.out.cell 0
  have HSL := hide (slc_any h (chL h) V cap M w3 HV3.out HT3.out hlen (fun _ => ordd_any h w3 HV3.out (by omega)))
  have HN60 := hide hn60
  have HLEN := hide hlen
  clear hn60 hfew hlen HQ
  go_wp2_with fail
  refine HSL.out.mono ?_
  rintro e w4 ⟨h4, ⟨hne, rfl⟩ | ⟨he0, A5, cap5, out, rfl, hov, hmd⟩⟩
  · have H4 := hide (chain H3.out h4)
    clear h4 z0 z1 z2 z3 z4 z5 z6 z7 z8 z9 s0 HSL
    go_wp2_with fail
    go_ret
    exact ⟨rfl, H4.out⟩
  obtain ⟨v, hatv, hdk⟩ := days_ok he0 hov HN60.out HV3.out.ot HV3.out.oc
  have HB4 := hide (HB3.out.below h4 HB3.out.lt)
  have HS4 := hide (HS3.out.below h4 HS3.out.lt)
  have HT4 := hide (HT3.out.below h4)
  have H4 := hide (chain H3.out h4)
  have HM4 := hide hmd
  have HDK := hide hdk
  have HAT := hide (at_any V cap M h.tm.f w4 (HT3.out.below h4) HLEN.out)
  rw [hatv] at HAT
  clear h4 hmd hov he0 hatv hdk z0 z1 z2 z3 z4 z5 z6 z7 z8 z9 s0 HSL HB3 HS3 HV3 HT3 H3
  obtain ⟨n, hn⟩ : ∃ n, out.length = n := ⟨_, rfl⟩
  have HN := hide hn
  rw [hn]
  clear hn
  obtain ⟨z0, z1, z2, z3, z4, z5, z6, z7, z8, z9⟩ := hi_cells HB4.out
  have s0 : w4.cell? ⟨w.heap.size + 1, 0, none⟩ = some (.slice V M.length cap) := HS4.out.cell 0
  go_wp2_with fail
  refine HAT.out.mono ?_
  rintro e w5 ⟨h5, ⟨h0, -⟩ | ⟨v', hvv, x, rfl, hxv, hxo⟩⟩
  · cases h0
  obtain rfl : v = v' := Option.some.inj hvv
  obtain ⟨w6, hw6⟩ : ∃ W, w5.alloc (.cells (boxV x) 83) = W := ⟨_, rfl⟩
  have hb6 : Below w5.heap.size w5 w6 := by rw [← hw6]; exact (Below.refl _ _).alloc (Nat.le_refl _) _
  have hX6 : Blk w6 w5.heap.size 83 (boxV x) := by rw [← hw6]; exact Blk.new _ _ _
  have h46 := chain h5 hb6
  have HB6 := hide (HB4.out.below h46 HB4.out.lt)
  have H6 := hide (chain H4.out h46)
  have HSV := hide (show SV w6 9 A5 n cap5 (out.map encSc) by have hq := HM4.out.own.sv.below h46; rwa [show out.length = n from HN.out] at hq)
  have HCV := hide (show ∀ s ∈ out, SV w6 5 s.A s.l.length s.cap (s.l.map encCv) from fun s hs => (HM4.out.sv s hs).below h46)
  have HX6 := hide hX6
  have HXO := hide (hxo.below hb6)
  have HXV := hide hxv
  have HW6 := hide hw6
  have hlt : w.heap.size < w5.heap.size := by have := HB4.out.lt; have := h5.size; omega
  clear h5 hb6 hX6 h46 hxo hxv hw6 hvv HAT HB4 HS4 HT4 H4 HM4 z0 z1 z2 z3 z4 z5 z6 z7 z8 z9 s0
  go_upto_region 9 with fail
  rw [show w5.alloc (.cells #[.int .i64 x.f, .int .i64 x.b0, .int .i64 x.b1, .int .i64 x.b2, .int .i64 x.b3, .slice x.aA x.age.length x.aC, .slice x.zA x.zone.length x.zC, .slice x.pA x.peril.length x.pC, .int .i64 x.mn] 83) = w6 from HW6.out]
  clear HW6
  obtain ⟨z0, z1, z2, z3, z4, z5, z6, z7, z8, z9⟩ := hi_cells HB6.out
  have hf1 := HDK.out.f1
  have hf2 := HDK.out.f2
  have hxt : 0 ≤ u.tmod 1101 ∧ u.tmod 1101 < 1101 := by rw [Int.tmod_eq_emod_of_nonneg HU.out.1]; omega
  obtain ⟨r, hr⟩ : ∃ r, u.tmod 1101 = r := ⟨_, rfl⟩
  rw [hr] at hxt
  obtain ⟨U, rfl⟩ : ∃ U : Nat, r = U := ⟨r.toNat, by omega⟩
  obtain ⟨F, hF⟩ : ∃ F, h.tm.f = F := ⟨_, rfl⟩
  rw [hF] at z2 hf1 hf2 HDK
  have hu1 := HU.out
  have hU : U < 1101 := by omega
  clear hF hxt
  go_wp2_with fail
  clear hr hu1
  have hlt6 : w.heap.size < w6.heap.size := HB6.out.lt
  go_loopw [14, 15] (fun q14 q15 wr => ∃ (i : Nat) (s : Int), i ≤ U ∧ q14 = .int .i64 s ∧ q15 = .int .i64 (F + i) ∧ sumD (yAt out) F i = s ∧ 0 ≤ s ∧ s ≤ 4000000000000000000 ∧ Below w6.heap.size w6 wr) (fun _ q _ => U - (RowKit.intOf q - F).toNat)
  case atStart => exact ⟨0, 0, Nat.zero_le _, rfl, by simp, rfl, by omega, by omega, Below.refl _ _⟩
  case round =>
    obtain ⟨i, s, hi, rfl, rfl, hs, hs0, hs1, hb⟩ := hrel
    have HSM := hide hs
    have HBW := hide hb
    have HXW := hide (HX6.out.below hb HX6.out.lt)
    have hxlt : w5.heap.size < wr.heap.size := by have := HX6.out.lt; have := hb.size; omega
    clear hs
    by_cases hlt : i < U
    · have HA := hide (sat_any A5 cap5 n out (F + i) wr (HSV.out.below hb))
      have hk1 : F + (i : Int) < F + (U : Int) := by omega
      have HY := hide (slAt_y (d := F + i) HDK.out.ch hf1)
      clear hb z0 z1 z2 z3 z4 z5 z6 z7 z8 z9
      go_wp2_with fail
      refine HA.out.mono ?_
      rintro e w7 ⟨h7, ⟨hno, rfl⟩ | ⟨sc, hsc, rfl⟩⟩
      · have hy0 := HY.out.1 hno
        have HSM2 := hide (show sumD (yAt out) F (i + 1) = s by rw [sumD, HSM.out, hy0, Int.add_zero])
        have H7 := hide ((chain HBW.out h7).alloc (by have := HBW.out.size; have := h7.size; omega) (.cells zeroSc 87))
        clear h7 hy0 hno HA HY
        simp only [zeroSc]
        go_wp2_with fail
        go_roundw
        case rel => exact ⟨i + 1, s, by omega, rfl, by go_num, HSM2.out, hs0, hs1, H7.out⟩
        case measure => simp [RowKit.intOf]; omega
      · obtain ⟨hmem, hyy, hy0, hy1⟩ := HY.out.2 sc hsc
        have hcost := HDK.out.cost sc hmem
        have HSM2 := hide (show sumD (yAt out) F (i + 1) = s + sc.y by rw [sumD, HSM.out, hyy])
        obtain ⟨w8, hw8⟩ : ∃ W, w7.alloc (.cells (scC sc) 87) = W := ⟨_, rfl⟩
        have hb8 : Below w7.heap.size w7 w8 := by rw [← hw8]; exact (Below.refl _ _).alloc (Nat.le_refl _) _
        have hS8 : Blk w8 w7.heap.size 87 (scC sc) := by rw [← hw8]; exact Blk.new _ _ _
        have h78 := chain h7 hb8
        have HB8 := hide (chain HBW.out h78)
        have HX8 := hide (HXW.out.below h78 hxlt)
        have HXO8 := hide ((HXO.out.below HBW.out).below h78)
        have HCV8 := hide (((HCV.out sc hmem).below HBW.out).below h78)
        have HOK := hide (HDK.out.cov sc hmem)
        have HW8 := hide hw8
        have HSC8 := hide hS8
        have hxlt8 : w5.heap.size < w8.heap.size := by have := h78.size; omega
        clear h7 hb8 hS8 hw8 h78 hyy hmem hsc HA HY HXW
        simp only [scC]
        go_upto_region 15 with fail
        rw [show w7.alloc (.cells #[.int .i64 sc.f, .int .i64 sc.t, .bool sc.on, .int .i64 sc.rk, .int .i64 sc.rv, .int .i64 sc.ra, .int .i64 sc.rz, .slice sc.A sc.l.length sc.cap, .int .i64 sc.y] 87) = w8 from HW8.out]
        obtain ⟨X, hX⟩ : ∃ X, w7.heap.size = X := ⟨_, rfl⟩
        have hX8 := HSC8.out.lt
        rw [hX] at HSC8 hX8 ⊢
        clear hX HW8
        obtain ⟨k0, k1, k2, k3, k4, k5, k6, k7, k8⟩ := sc_cells HSC8.out
        obtain ⟨x0, x1, x2, x3, x4, x5, x6, x7, x8⟩ := blk_cells HX8.out
        obtain ⟨y, hyq⟩ : ∃ y, sc.y = y := ⟨_, rfl⟩
        obtain ⟨o, hoq⟩ : ∃ o, sc.on = o := ⟨_, rfl⟩
        rw [hyq] at k8 HSM2 hy0 hy1 hcost
        rw [hoq] at k2 hcost
        clear hyq
        cases o
        · obtain rfl := hcost.1 rfl
          clear hcost hoq
          go_wp2_with fail
          go_roundw
          case rel => exact ⟨i + 1, s, by omega, rfl, by go_num, by rw [HSM2.out, Int.add_zero], hs0, hs1, HB8.out⟩
          case measure => simp [RowKit.intOf]; omega
        · have HYE := hide (year_is HXV.out (hcost.2 rfl) w8 HXO8.out HCV8.out HOK.out)
          clear hcost hoq
          go_wp2_with fail
          refine HYE.out.mono ?_
          rintro e w9 ⟨rfl, h9⟩
          have HB9 := hide (chain HB8.out h9)
          have k8' : w9.cell? ⟨X, 8, none⟩ = some (.int .i64 y) := kept h9 k8
          clear h9 k0 k1 k2 k3 k4 k5 k6 k7 k8 x0 x1 x2 x3 x4 x5 x6 x7 x8 HYE
          by_cases hmx : 4000000000000000000 - s < y
          · go_wp2_with fail
            go_ret
            exact ⟨rfl, chain H6.out HB9.out⟩
          · go_wp2_with fail
            go_roundw
            case rel => exact ⟨i + 1, s + y, by omega, rfl, by go_num, HSM2.out, by omega, by omega, HB9.out⟩
            case measure => simp [RowKit.intOf]; omega
    · obtain rfl : i = U := by omega
      obtain ⟨S, rfl⟩ : ∃ S : Nat, s = S := ⟨s.toNat, by omega⟩
      have HE := hide (even365 S (by omega) wr)
      have hde := days_end (T := F + i) HDK.out.ch HDK.out.len hf1 hf2 (by omega) (by rw [show (F + (i : Int) - F).toNat = i by omega, HSM.out]; exact hs1)
      rw [show (F + (i : Int) - F).toNat = i by omega, HSM.out, Int.toNat_natCast] at hde
      have HUP : ∀ W, Below wr.heap.size wr W → Calls Tryz.prog 20 #[.slice A5 n cap5, .int .i64 (F + i)] W fun e w' => e = .returned (.tuple #[.int .i64 (evQ S 1 365 : Nat), .int .i64 0]) ∧ Below W.heap.size W w' := fun W hW => by
        have := Upto_any addc_all A5 cap5 n out (F + i) W ((HSV.out.below HBW.out).below hW)
        rw [hde] at this
        exact this
      have HUPH := hide HUP
      clear hde HUP hb z0 z1 z2 z3 z4 z5 z6 z7 z8 z9
      obtain ⟨Q, hQ⟩ : ∃ Q, evQ S 1 365 = Q := ⟨_, rfl⟩
      rw [hQ] at HE HUPH
      clear hQ
      go_wp2_with fail
      refine HE.out.mono ?_
      rintro e w7 ⟨rfl, h7⟩
      have HU7 := hide (HUPH.out _ h7)
      have H7 := hide (chain HBW.out h7)
      clear h7
      go_wp2_with fail
      refine HU7.out.mono ?_
      rintro e w8 ⟨rfl, h8⟩
      have H8 := hide (chain H6.out (chain H7.out h8))
      clear h8
      go_wp2_with fail
      go_ret
      exact ⟨rfl, H8.out⟩
end Go.Proofs.YtmfohnchnbgbaaaGreat
