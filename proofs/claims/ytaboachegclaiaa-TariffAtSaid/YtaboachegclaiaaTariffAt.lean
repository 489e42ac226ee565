/- TariffAt: the version of any tariff on any day, or that there is none, is what the document says. -/
import Derived.Test.YtaboachegclaiaaTarQ
namespace Go.Proofs.Ytaboachegclaiaa
open Go.ChangeShapes Go.WideShapes Go.ChangeAt Go.RowKit Go.BigFrame
set_option linter.unusedVariables false

set_option maxRecDepth 100000 in
set_option maxHeartbeats 4000000 in
theorem tariffAt_walk (w : World) (A : Option Addr) (M : List Vw) (cap : Nat) (ht : TIn w A cap M) (d : Int) (_wd : (Lit.int .i64 d).wf = true) :
    Calls Try.prog 4 #[.agg #[.slice A M.length cap], .int .i64 d] w fun e w' => e = .returned (.bool true) ∧ Below w.heap.size w w' := by
  have HT := hide ht
  have hmx := ht.tv.sv.le
  have hmy := ht.tv.sv.most
  unfold maxLen at hmy
  have hFA : ∀ y ∈ M, FitV y := fun y hy => (ht.ok y hy).2
  have HF := hide hFA
  clear hFA ht
  go_enter Try.func4, Try.ntmps4
  go_wp2_with fail
  cases hfe : fewB M
  · refine (few_b (w0 := w) HT.out.tv ((Below.refl _ _).alloc (Nat.le_refl _) _) ((Below.refl _ _).alloc (Nat.le_refl _) _) HF.out hfe).mono ?_
    rintro e w3 ⟨rfl, h3, _⟩
    clear hfe
    go_wp2_with fail
    refine (alive_b h3).mono ?_
    rintro e w4 ⟨rfl, h4, _⟩
    go_wp2_with fail
    go_ret
    exact ⟨rfl, h4⟩
  refine (few_b (w0 := w) HT.out.tv ((Below.refl _ _).alloc (Nat.le_refl _) _) ((Below.refl _ _).alloc (Nat.le_refl _) _) HF.out hfe).mono ?_
  rintro e w3 ⟨rfl, h3, hb3⟩
  have t0 := kept hb3 (b := w.heap.size) (o := 0) (u := .slice A M.length cap) (by simp)
  have HLM := hide (fit_allV (few_len HF.out hfe).2)
  have htl := block_lt_of_cell t0
  have H3 := hide h3
  clear hfe hb3 h3
  go_wp2_with fail
  cases hat : atL (allV M) d
  case none =>
    have HAT := hide hat
    clear hat
    refine (at_n (w0 := w) HT.out.tv H3.out H3.out rfl HLM.out HAT.out).mono ?_
    rintro e w4 ⟨rfl, h4, hb4⟩
    have t0 := kept hb4 t0
    have htl := block_lt_of_cell t0
    have H4 := hide h4
    clear h4 hb4 H3
    go_wp2_with fail
    obtain ⟨w5, hw5⟩ : ∃ W, w4.alloc (.cells #[.int .i64 0, .int .i64 0, .int .i64 0, .int .i64 0, .int .i64 0, .slice none 0 0, .slice none 0 0, .slice none 0 0, .int .i64 0] 26) = W := ⟨_, rfl⟩
    have hb_ : Below w4.heap.size w4 w5 := by rw [← hw5]; exact (Below.refl _ _).alloc (Nat.le_refl _) _
    have H5 := hide (chain H4.out hb_)
    have HA := hide (show Blk w5 w4.heap.size 26 (boxV zeroW) by rw [← hw5]; exact Blk.new _ _ _)
    rw [hw5]
    obtain ⟨G1, hG_⟩ : ∃ G1, w4.heap.size = G1 := ⟨_, rfl⟩
    rw [hG_] at HA ⊢
    clear hw5 hG_ hb_
    refine (atR_n (w0 := w) HT.out.tv H5.out H5.out rfl HAT.out).mono ?_
    rintro e w6 ⟨rfl, h6, hb6⟩
    have HA6 := hide (HA.out.below hb6 HA.out.lt)
    have H6 := hide h6
    clear h6 hb6 H5 HA t0 htl
    go_wp2_with fail
    obtain ⟨w7, hw7⟩ : ∃ W, w6.alloc (.cells #[.int .i64 0, .int .i64 0, .int .i64 0, .int .i64 0, .int .i64 0, .slice none 0 0, .slice none 0 0, .slice none 0 0, .int .i64 0] 26) = W := ⟨_, rfl⟩
    have hb_ : Below w6.heap.size w6 w7 := by rw [← hw7]; exact (Below.refl _ _).alloc (Nat.le_refl _) _
    have H7 := hide (chain H6.out hb_)
    have HB := hide (show Blk w7 w6.heap.size 26 (boxV zeroW) by rw [← hw7]; exact Blk.new _ _ _)
    rw [hw7]
    have HA7 := hide (HA6.out.below hb_ HA6.out.lt)
    obtain ⟨G2, hG_⟩ : ∃ G2, w6.heap.size = G2 := ⟨_, rfl⟩
    rw [hG_] at HB ⊢
    clear hw7 hG_ hb_
    refine (alive_b H7.out).mono ?_
    rintro e w8 ⟨rfl, h8, hb8⟩
    obtain ⟨a0, a1, a2, a3, a4, a5, a6, a7, a8⟩ := blk_cells (HA7.out.below hb8 HA7.out.lt)
    obtain ⟨b0, b1, b2, b3, b4, b5, b6, b7, b8⟩ := blk_cells (HB.out.below hb8 HB.out.lt)
    simp only [zeroW, List.length_nil] at a0 a1 a2 a3 a4 a5 a6 a7 a8 b0 b1 b2 b3 b4 b5 b6 b7 b8
    have hal := block_lt_of_cell a0
    have hbl := block_lt_of_cell b0
    have H8 := hide h8
    clear h8 hb8 H7 HA7 HB HA6 H6
    go_wp2_with fail
    refine (sameV_b (w0 := w) (wa := w8) (wb := w8) (x := ⟨0, 0, 0, 0, 0, none, [], 0, none, [], 0, none, [], 0, 0⟩) (y := ⟨0, 0, 0, 0, 0, none, [], 0, none, [], 0, none, [], 0, 0⟩) (vok_zero w8) (Below.refl _ _) (vok_zero w8) (Below.refl _ _) H8.out rfl (by simp [LenV])).mono ?_
    rintro e w9 ⟨rfl, h9, _⟩
    go_wp2_with fail
    go_ret
    exact ⟨rfl, h9⟩
  case some v =>
    have HAT := hide hat
    have HLV := hide (HLM.out v (atL_mem hat))
    clear hat
    refine (at_b (w0 := w) HT.out.tv H3.out H3.out rfl HLM.out HAT.out).mono ?_
    rintro e w4 ⟨xa, rfl, hva, hka, h4, hb4⟩
    have t0 := kept hb4 t0
    have htl := block_lt_of_cell t0
    have H4 := hide h4
    have KA := hide hka
    have VA := hide hva
    clear h4 hb4 H3 hka hva
    go_wp2_with fail
    obtain ⟨w5, hw5⟩ : ∃ W, w4.alloc (.cells #[.int .i64 xa.f, .int .i64 xa.b0, .int .i64 xa.b1, .int .i64 xa.b2, .int .i64 xa.b3, .slice xa.aA xa.age.length xa.aC, .slice xa.zA xa.zone.length xa.zC, .slice xa.pA xa.peril.length xa.pC, .int .i64 xa.mn] 26) = W := ⟨_, rfl⟩
    have hb_ : Below w4.heap.size w4 w5 := by rw [← hw5]; exact (Below.refl _ _).alloc (Nat.le_refl _) _
    have H5 := hide (chain H4.out hb_)
    have HA := hide (show Blk w5 w4.heap.size 26 (boxV xa) by rw [← hw5]; exact Blk.new _ _ _)
    rw [hw5]
    have KA5 := hide (KA.out.below hb_)
    obtain ⟨G1, hG_⟩ : ∃ G1, w4.heap.size = G1 := ⟨_, rfl⟩
    rw [hG_] at HA ⊢
    clear hw5 hG_ hb_
    refine (atR_b (w0 := w) HT.out.tv H5.out H5.out rfl HAT.out).mono ?_
    rintro e w6 ⟨xb, rfl, hvb, hkb, h6, hb6⟩
    have HA6 := hide (HA.out.below hb6 HA.out.lt)
    have KA6 := hide (KA5.out.below hb6)
    have H6 := hide h6
    have KB := hide hkb
    have VB := hide hvb
    clear h6 hb6 H5 HA t0 htl KA KA5 hkb hvb
    go_wp2_with fail
    obtain ⟨w7, hw7⟩ : ∃ W, w6.alloc (.cells #[.int .i64 xb.f, .int .i64 xb.b0, .int .i64 xb.b1, .int .i64 xb.b2, .int .i64 xb.b3, .slice xb.aA xb.age.length xb.aC, .slice xb.zA xb.zone.length xb.zC, .slice xb.pA xb.peril.length xb.pC, .int .i64 xb.mn] 26) = W := ⟨_, rfl⟩
    have hb_ : Below w6.heap.size w6 w7 := by rw [← hw7]; exact (Below.refl _ _).alloc (Nat.le_refl _) _
    have H7 := hide (chain H6.out hb_)
    have HB := hide (show Blk w7 w6.heap.size 26 (boxV xb) by rw [← hw7]; exact Blk.new _ _ _)
    rw [hw7]
    have HA7 := hide (HA6.out.below hb_ HA6.out.lt)
    have KA7 := hide (KA6.out.below hb_)
    have KB7 := hide (KB.out.below hb_)
    obtain ⟨G2, hG_⟩ : ∃ G2, w6.heap.size = G2 := ⟨_, rfl⟩
    rw [hG_] at HB ⊢
    clear hw7 hG_ hb_
    refine (alive_b H7.out).mono ?_
    rintro e w8 ⟨rfl, h8, hb8⟩
    obtain ⟨a0, a1, a2, a3, a4, a5, a6, a7, a8⟩ := blk_cells (HA7.out.below hb8 HA7.out.lt)
    obtain ⟨b0, b1, b2, b3, b4, b5, b6, b7, b8⟩ := blk_cells (HB.out.below hb8 HB.out.lt)
    have hal := block_lt_of_cell a0
    have hbl := block_lt_of_cell b0
    have H8 := hide h8
    have KA8 := hide (KA7.out.below hb8)
    have KB8 := hide (KB7.out.below hb8)
    clear h8 hb8 H7 HA7 HB HA6 H6 KA7 KB7 KA6 KB
    go_wp2_with fail
    refine (sameV_b (w0 := w) KA8.out (Below.refl _ _) KB8.out (Below.refl _ _) H8.out (VA.out.trans VB.out.symm) (by have h := HLV.out; rw [← VA.out] at h; exact h)).mono ?_
    rintro e w9 ⟨rfl, h9, _⟩
    go_wp2_with fail
    go_ret
    exact ⟨rfl, h9⟩

theorem tariffAt_lifted (os : Os) (started : os.Started) (H : Type) (enc : TypeId × Value → H) :
    ReturnsInHanded {} Try.checked os 4 .any (Rows.tariffAtSpec.pre6 enc Try.prog Try.f4 Rows.tariffAtRow.domain false) (Rows.tariffAtSpec.post enc Try.prog Try.f4 false true false false) := by
  refine returnsInHanded_of_change_sized (C := Try.checked) own started (by kernel_rfl) Try.func4
    (ChangeSpec.witness6 (enc := enc) (C := Try.checked) false ⟨#[], #[.agg #[.slice none 0 0], .int .i64 0], []⟩ 8 (by kernel_rfl) (by kernel_rfl) (by kernel_rfl) (by kernel_rfl)) ?_
  intro W base args ds gs before hval0 hW hcnd hz0 _
  have hval : ∀ (j : Nat) t v, Try.f4.params[j]? = some t → args[j]? = some v → Value.okWide Try.prog W .any base t v := hval0
  have hW' := hW
  obtain ⟨p, q, hA0, hV, rfl, hfz, hnd⟩ := hW
  have hA : DataW.TrodAll enc Try.prog W 0 (fun _ => true) true Try.f4.params.toList args.toList ds p := hA0
  rw [Try.params4] at hA hval
  have hz := hz0
  rw [Try.params4] at hz
  obtain ⟨v0, vs0, d0, ds0, p0, q0, hargs, rfl, rfl, h0, r0⟩ := trodAll_cons hA
  obtain ⟨v1, vs1, d1, ds1, p1, q1, rfl, rfl, rfl, h1, r1⟩ := trodAll_cons r0
  obtain ⟨rfl, rfl, rfl⟩ := trodAll_nil r1
  obtain rfl : args = #[v0, v1] := by cases args; simp_all
  obtain ⟨rfl, rfl⟩ := trodVars_none hV
  obtain ⟨A0, M0, cap0, rfl, ht0⟩ := openZ_tariff (hval 0 29 v0 rfl rfl) h0 (small_of hz (j := 0) rfl rfl)
  obtain ⟨x1, rfl, rfl, rfl, wx1⟩ := open_int Try.underlying3 (hval 1 3 v1 rfl rfl) h1
  refine (tariffAt_walk W A0 M0 cap0 ht0 x1 wx1).mono fun e W' ⟨he, hb⟩ => ?_
  subst he
  exact ⟨_, rfl, law_post laidOut (by kernel_rfl) rfl Try.underlying4 rfl rfl hW' hb⟩

/-- THE STATEMENT. -/
theorem tariffAt_holds : Rows.TariffAtSaid :=
  OpenClaim.holds_of_wide 4 Try.f4 rfl rfl rfl rfl rfl rfl rfl ⟨rfl, rfl, rfl, rfl, rfl⟩ rfl rfl rfl rfl rfl (by kernel_rfl) Try.func4 (by kernel_rfl)
    (of_decide_eq_true (by kernel_rfl)) (by unfold Func.isWrapper; first | (rw [if_pos (by decide +kernel)]; kernel_rfl) | (rw [if_neg (by decide +kernel)]; exact ⟨rfl, rfl⟩))
    (fun os started H enc _ => tariffAt_lifted os started H enc)
end Go.Proofs.Ytaboachegclaiaa
