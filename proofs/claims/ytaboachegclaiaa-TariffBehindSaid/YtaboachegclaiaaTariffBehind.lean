/- TariffBehind: a version that is put changes nothing of what is told of days ahead of its From; from that on, up to the next one, it is told itself. -/
import Derived.Test.YtaboachegclaiaaTarR
namespace Go.Proofs.Ytaboachegclaiaa
open Go.ChangeShapes Go.WideShapes Go.ChangeAt Go.RowKit Go.BigFrame
set_option linter.unusedVariables false

set_option maxRecDepth 100000 in
set_option maxHeartbeats 4000000 in
theorem tariffBehind_walk (w : World) (A : Option Addr) (M : List Vw) (cap : Nat) (ht : TIn w A cap M) (x : Vw) (hk : VOK w x) (ho : okVw x) (hf : FitV x) (d : Int) (_wd : (Lit.int .i64 d).wf = true) :
    Calls Try.prog 5 #[.agg #[.slice A M.length cap], .agg #[.int .i64 x.f, .int .i64 x.b0, .int .i64 x.b1, .int .i64 x.b2, .int .i64 x.b3, .slice x.aA x.age.length x.aC, .slice x.zA x.zone.length x.zC, .slice x.pA x.peril.length x.pC, .int .i64 x.mn], .int .i64 d] w fun e w' => e = .returned (.bool true) ∧ Below w.heap.size w w' := by
  have HT := hide ht
  have HK := hide hk
  have hmx := ht.tv.sv.le
  have hmy := ht.tv.sv.most
  unfold maxLen at hmy
  have hrm := ht.room
  have hFA : ∀ y ∈ [x] ++ M, FitV y := fun y hy => by
    rcases List.mem_cons.1 hy with h | h
    · subst h; exact hf
    · exact (ht.ok y h).2
  have HF := hide hFA
  obtain ⟨w1, hw1⟩ : ∃ W, ((w.alloc (.cells #[.slice A M.length cap] 29)).alloc (.cells #[.int .i64 x.f, .int .i64 x.b0, .int .i64 x.b1, .int .i64 x.b2, .int .i64 x.b3, .slice x.aA x.age.length x.aC, .slice x.zA x.zone.length x.zC, .slice x.pA x.peril.length x.pC, .int .i64 x.mn] 26)).alloc (.cells #[.int .i64 x.f, .int .i64 x.b0, .int .i64 x.b1, .int .i64 x.b2, .int .i64 x.b3, .slice x.aA x.age.length x.aC, .slice x.zA x.zone.length x.zC, .slice x.pA x.peril.length x.pC, .int .i64 x.mn] 26) = W := ⟨_, rfl⟩
  have hV1 : Blk w1 (w.heap.size + 1) 26 (boxV x) := by rw [← hw1]; exact (Blk.new' (by simp)).alloc _
  have hT1 : Blk w1 (w.heap.size) 29 #[.slice A M.length cap] := by rw [← hw1]; exact ((Blk.new _ _ _).alloc _).alloc _
  have h1 : Below w.heap.size w w1 := by rw [← hw1]; exact (((Below.refl _ _).alloc (Nat.le_refl _) _).alloc (by simp) _).alloc (by simp; omega) _
  have hown : OwnS w1 w.heap.size 26 9 (some ⟨w.heap.size + 1 + 1, 0, none⟩) 1 1 ([x].map encV) := by
    have h := OwnS.lit ((w.alloc (.cells #[.slice A M.length cap] 29)).alloc (.cells #[.int .i64 x.f, .int .i64 x.b0, .int .i64 x.b1, .int .i64 x.b2, .int .i64 x.b3, .slice x.aA x.age.length x.aC, .slice x.zA x.zone.length x.zC, .slice x.pA x.peril.length x.pC, .int .i64 x.mn] 26)) (B := w.heap.size) (by simp; omega) 26 ([x].map encV) (okVs [x]) (by simp [maxLen]) (boxV x) rfl
    simp only [World.size_alloc] at h
    rw [← hw1]
    exact h
  have HW1 := hide hw1
  have HO := hide hown
  have HB := hide h1
  have HV1 := hide hV1
  have HT1 := hide hT1
  clear hw1 hown h1 hV1 hT1 hFA ht hk hf
  go_enter Try.func5, Try.ntmps5
  go_wp2_with (at_builtin
               rw [HW1.out]
               refine wpList_app rfl (.tmp 15) (.tmp 17) 27 rfl elVer (B := w.heap.size) (news := M.map encV) rfl HO.out rfl (List.length_map _) ((HT.out.tv.sv.sl.below HB.out).more HB.out.size) (okVs M) ?_ ?_ HB.out.size ?_
               · simp only [maxLen]; omega
               · omega
               intro A2 q2 w2 ho2 hg2 _)
  obtain ⟨tv2, h2⟩ := cons_tv HT.out.tv (N := [x]) (fun z hz => by simp at hz; subst hz; exact HK.out) HB.out ho2 hg2 (by simp only; omega)
  have hV2 := HV1.out.grown hg2 (by simp [blk]; try omega)
  have hT2 := HT1.out.grown hg2 (by simp [blk]; try omega)
  clear HO HB HV1 HT1 HW1 ho2 hg2
  have HTV2 := hide tv2
  have HV2 := hide hV2
  have HT2 := hide hT2
  have H2 := hide h2
  clear tv2 hV2 hT2 h2
  cases hfe : fewB ([x] ++ M)
  · refine (few_b (w0 := w) HTV2.out (Below.refl _ _) H2.out HF.out hfe).mono ?_
    rintro e w3 ⟨rfl, h3, _⟩
    clear hfe
    go_wp2_with fail
    refine (alive_b h3).mono ?_
    rintro e w4 ⟨rfl, h4, _⟩
    go_wp2_with fail
    go_ret
    exact ⟨rfl, h4⟩
  refine (few_b (w0 := w) HTV2.out (Below.refl _ _) H2.out HF.out hfe).mono ?_
  rintro e w3 ⟨rfl, h3, hb3⟩
  have hV3 := HV2.out.below hb3 HV2.out.lt
  have hT3 := HT2.out.below hb3 HT2.out.lt
  obtain ⟨hm110, hlx, hlM⟩ := few_cons HF.out hfe
  obtain ⟨c0, c1, c2, c3, c4, c5, c6, c7, c8⟩ := blk_cells hV3
  have t0 := hT3.cell 0
  simp at t0
  have hvl := hV3.lt
  have htl := hT3.lt
  have HV3 := hide hV3
  have HT3 := hide hT3
  have H3 := hide h3
  have HLX := hide hlx
  have HLM := hide hlM
  clear HTV2 HV2 HT2 H2 hb3 hV3 hT3 h3 hfe hlx hlM
  have HK3 := hide (HK.out.below H3.out)
  obtain ⟨l, hl⟩ : ∃ z, allV M = z := ⟨_, rfl⟩
  obtain ⟨v, hv⟩ : ∃ z, x.v = z := ⟨_, rfl⟩
  obtain ⟨c, l2, hp⟩ : ∃ c l2, putV l v = (c, l2) := ⟨_, _, rfl⟩
  obtain ⟨n2, hn2⟩ : ∃ z, l2.length = z := ⟨_, rfl⟩
  have HL := hide hl
  have HV := hide hv
  have HP := hide hp
  have HN2 := hide hn2
  clear hl hv hp hn2
  go_wp2_with fail
  refine (put_b (w0 := w) HT.out.tv H3.out HK.out H3.out H3.out HL.out HV.out HP.out HN2.out).mono ?_
  rintro e w4 ⟨A4, q4, M4, rfl, ht4, hm4, h4, hb4⟩
  have V4 := hide (HV3.out.below hb4 HV3.out.lt)
  have T4 := hide (HT3.out.below hb4 HT3.out.lt)
  have H4 := hide h4
  have TM4 := hide ht4
  have HM4 := hide hm4
  clear c0 c1 c2 c3 c4 c5 c6 c7 c8 t0 hvl htl h4 hb4 ht4 hm4 HV3 HT3
  by_cases hc : c = 0
  case neg =>
    have HC := hide hc
    have HZ := hide (show n2 = 0 by
      have h := put_code (l := l) (v := v) (by rw [HP.out]; exact hc)
      rw [HP.out] at h
      rw [← HN2.out, show l2 = [] from h]; rfl)
    have hcb : (c != 0) = true := by simpa using hc
    obtain rfl := HZ.out
    go_wp2_with fail
    obtain ⟨w5, hw5⟩ : ∃ W, w4.alloc (.cells #[.slice A4 0 q4] 29) = W := ⟨_, rfl⟩
    have hb_ : Below w4.heap.size w4 w5 := by rw [← hw5]; exact (Below.refl _ _).alloc (Nat.le_refl _) _
    have H5 := hide (chain H4.out hb_)
    have HX := hide (show Blk w5 w4.heap.size 29 #[.slice A4 0 q4] by rw [← hw5]; exact Blk.new _ _ _)
    rw [hw5]
    obtain ⟨G, hG_⟩ : ∃ G, w4.heap.size = G := ⟨_, rfl⟩
    rw [hG_] at HX ⊢
    clear hw5 hG_ hb_
    refine (alive_b (w0 := w) H5.out).mono ?_
    rintro e w6 ⟨rfl, h6, hb6⟩
    have x0 := (HX.out.below hb6 HX.out.lt).cell 0
    simp at x0
    have hxl := block_lt_of_cell x0
    have H6 := hide h6
    clear h6 hb6
    go_wp2_with fail
    go_ret
    exact ⟨rfl, H6.out⟩
  have hcb : (c != 0) = false := by simp [hc]
  obtain rfl := hc
  go_wp2_with fail
  obtain ⟨w5, hw5⟩ : ∃ W, w4.alloc (.cells #[.slice A4 n2 q4] 29) = W := ⟨_, rfl⟩
  have hb_ : Below w4.heap.size w4 w5 := by rw [← hw5]; exact (Below.refl _ _).alloc (Nat.le_refl _) _
  have H5 := hide (chain H4.out hb_)
  have HX := hide (show Blk w5 w4.heap.size 29 #[.slice A4 n2 q4] by rw [← hw5]; exact Blk.new _ _ _)
  rw [hw5]
  have V5 := hide (V4.out.below hb_ V4.out.lt)
  have T5 := hide (T4.out.below hb_ T4.out.lt)
  have TM5 := hide (TM4.out.below hb_)
  obtain ⟨G, hG_⟩ : ∃ G, w4.heap.size = G := ⟨_, rfl⟩
  rw [hG_] at HX ⊢
  clear hw5 hG_ hb_
  clear V4 T4 TM4
  obtain ⟨r1, r2, r3, r4, r5⟩ := put_ok HP.out
  have hlen : l.length < 100 := by have := right_len r1; omega
  have R1 := hide r1
  have HL2 := hide r5
  have HINS := hide (at_ins (d := d) r1 r2 r3 hlen)
  have HRI := hide (ins_right r1 r2 r3 hlen)
  have hvf := version_f r2
  have hfv : v.f = x.f := by rw [← HV.out]; rfl
  rw [hfv] at hvf
  have hfl : FitL l := by rw [← HL.out]; exact fit_allV HLM.out
  have hfl2 : FitL l2 := fun y hy => by
    rw [r5] at hy
    rcases mem_ins.1 hy with h | h
    · subst h; rw [← HV.out]; exact HLX.out
    · exact hfl y h
  obtain ⟨e1, he1⟩ : ∃ z, atC l2 d = z := ⟨_, rfl⟩
  obtain ⟨e2, he2⟩ : ∃ z, atC l d = z := ⟨_, rfl⟩
  obtain ⟨m1, hm1⟩ : ∃ z, mostF l2 d = z := ⟨_, rfl⟩
  obtain ⟨m2, hm2⟩ : ∃ z, mostF l d = z := ⟨_, rfl⟩
  have E1 := hide he1
  have E2 := hide he2
  have N1 := hide hm1
  have N2 := hide hm2
  have HF1 := hide hfl
  have HF2 := hide hfl2
  have HFV := hide hfv
  clear r1 r2 r3 r4 r5 he1 he2 hm1 hm2 hfl hfl2 hfv
  refine (at_u (w0 := w) TM5.out (Below.refl _ _) H5.out HM4.out HF2.out E1.out N1.out).mono ?_
  rintro e w6 ⟨xa, rfl, hfa, hka, hsa, hna, h6, hb6⟩
  have V6 := hide (V5.out.below hb6 V5.out.lt)
  have T6 := hide (T5.out.below hb6 T5.out.lt)
  have H6 := hide h6
  have KA := hide hka
  have SA := hide hsa
  have NA := hide hna
  clear V5 T5 h6 hb6 hka hsa hna hfa HX H5 TM5
  have t0 := T6.out.cell 0
  simp at t0
  have htl := T6.out.lt
  go_wp2_with fail
  obtain ⟨w7, hw7⟩ : ∃ W, w6.alloc (.cells #[.int .i64 xa.f, .int .i64 xa.b0, .int .i64 xa.b1, .int .i64 xa.b2, .int .i64 xa.b3, .slice xa.aA xa.age.length xa.aC, .slice xa.zA xa.zone.length xa.zC, .slice xa.pA xa.peril.length xa.pC, .int .i64 xa.mn] 26) = W := ⟨_, rfl⟩
  have hb_ : Below w6.heap.size w6 w7 := by rw [← hw7]; exact (Below.refl _ _).alloc (Nat.le_refl _) _
  have H7 := hide (chain H6.out hb_)
  have HA := hide (show Blk w7 w6.heap.size 26 (boxV xa) by rw [← hw7]; exact Blk.new _ _ _)
  rw [hw7]
  have V7 := hide (V6.out.below hb_ V6.out.lt)
  have T7 := hide (T6.out.below hb_ T6.out.lt)
  have KA7 := hide (KA.out.below hb_)
  obtain ⟨G1, hG_⟩ : ∃ G1, w6.heap.size = G1 := ⟨_, rfl⟩
  rw [hG_] at HA ⊢
  clear hw7 hG_ hb_
  clear t0 htl V6 T6 KA
  have t0 := T7.out.cell 0
  simp at t0
  have htl := T7.out.lt
  refine (at_u (w0 := w) HT.out.tv H7.out H7.out HL.out HF1.out E2.out N2.out).mono ?_
  rintro e w8 ⟨xb, rfl, hfb, hkb, hsb, hnb, h8, hb8⟩
  have V8 := hide (V7.out.below hb8 V7.out.lt)
  have A8 := hide (HA.out.below hb8 HA.out.lt)
  have KA8 := hide (KA7.out.below hb8)
  have H8 := hide h8
  have KB := hide hkb
  have SB := hide hsb
  have NB := hide hnb
  have FB := hide hfb
  clear V7 T7 HA KA7 h8 hb8 hkb hsb hnb hfb t0 htl H7
  have c0 := V8.out.cell 0
  simp [boxV] at c0
  have hvl := V8.out.lt
  have hfv := HFV.out
  have hfb := FB.out
  have h7 : ((7 : Int) != 0) = true := rfl
  have hlxa : LenV xa := by
    cases h : atL l2 d with
    | none => rw [NA.out h]; simp [LenV, zeroW]
    | some y => have h1 := HF2.out y (atL_mem h); rw [← SA.out y h] at h1; exact h1
  have LXA := hide hlxa
  clear hlxa
  have hown : (v.f ≤ d → (∀ b, atL l d = some b → b.f < v.f) → e1 = 0 ∧ xa.v = x.v) := fun h1 h2 => by
    have h3 := HINS.out.1 h1 h2
    rw [← HL2.out] at h3
    exact ⟨by rw [← E1.out, atC, h3]; rfl, by rw [SA.out v h3, HV.out]⟩
  have hoth : (¬ (v.f ≤ d ∧ ∀ b, atL l d = some b → b.f < v.f) → e1 = e2 ∧ xa.v = xb.v) := fun h1 => by
    have h3 := HINS.out.2 h1
    rw [← HL2.out] at h3
    refine ⟨by rw [← E1.out, ← E2.out, atC, atC, h3], ?_⟩
    cases h : atL l d with
    | none => rw [NA.out (h3.trans h), NB.out h]
    | some y => rw [SA.out y (h3.trans h), SB.out y h]
  have he2 : (e2 = 7 ∧ atL l d = none) ∨ (e2 = 0 ∧ ∃ b, atL l d = some b ∧ b.f = xb.f) := by
    rw [← E2.out, atC]
    cases h : atL l d with
    | none => exact .inl ⟨rfl, rfl⟩
    | some y => exact .inr ⟨rfl, y, rfl, by rw [← SB.out y h]; rfl⟩
  have HOWN := hide hown
  have HOTH := hide hoth
  clear hown hoth
  by_cases hxd : x.f ≤ d
  · rcases he2 with ⟨rfl, hn⟩ | ⟨rfl, bb, hb1, hb2⟩
    · obtain ⟨rfl, hsame⟩ := HOWN.out (by rw [HFV.out]; exact hxd) (fun b hb => by rw [hn] at hb; cases hb)
      have HS := hide hsame
      clear hsame hn hfv hfb
      go_wp2_with fail
      obtain ⟨w9, hw9⟩ : ∃ W, w8.alloc (.cells #[.int .i64 xb.f, .int .i64 xb.b0, .int .i64 xb.b1, .int .i64 xb.b2, .int .i64 xb.b3, .slice xb.aA xb.age.length xb.aC, .slice xb.zA xb.zone.length xb.zC, .slice xb.pA xb.peril.length xb.pC, .int .i64 xb.mn] 26) = W := ⟨_, rfl⟩
      have hb_ : Below w8.heap.size w8 w9 := by rw [← hw9]; exact (Below.refl _ _).alloc (Nat.le_refl _) _
      have H9 := hide (chain H8.out hb_)
      have HB := hide (show Blk w9 w8.heap.size 26 (boxV xb) by rw [← hw9]; exact Blk.new _ _ _)
      rw [hw9]
      have V9 := hide (V8.out.below hb_ V8.out.lt)
      have A9 := hide (A8.out.below hb_ A8.out.lt)
      have KA9 := hide (KA8.out.below hb_)
      have KB9 := hide (KB.out.below hb_)
      obtain ⟨G2, hG_⟩ : ∃ G2, w8.heap.size = G2 := ⟨_, rfl⟩
      rw [hG_] at HB ⊢
      clear hw9 hG_ hb_
      refine (alive_b (w0 := w) H9.out).mono ?_
      rintro e w10 ⟨rfl, h10, hb10⟩
      obtain ⟨a0, a1, a2, a3, a4, a5, a6, a7, a8⟩ := blk_cells (A9.out.below hb10 A9.out.lt)
      obtain ⟨x0, x1, x2, x3, x4, x5, x6, x7, x8⟩ := blk_cells (V9.out.below hb10 V9.out.lt)
      have hxl := block_lt_of_cell x0
      have hal := block_lt_of_cell a0
      have H10 := hide h10
      have KA10 := hide (KA9.out.below hb10)
      have KB10 := hide (KB9.out.below hb10)
      clear h10 hb10 c0 hvl
      go_wp2_with fail
      refine (sameV_b (w0 := w) KA10.out (Below.refl _ _) HK.out H10.out H10.out HS.out LXA.out).mono ?_
      rintro e w11 ⟨rfl, h11, _⟩
      go_wp2_with fail
      go_ret
      exact ⟨rfl, h11⟩
    · by_cases hbx : xb.f < x.f
      · obtain ⟨rfl, hsame⟩ := HOWN.out (by rw [HFV.out]; exact hxd) (fun b hb => by rw [hb1] at hb; cases hb; rw [HFV.out, hb2]; exact hbx)
        have HS := hide hsame
        clear hsame hb1 hb2 hfv hfb
        go_wp2_with fail
        obtain ⟨w9, hw9⟩ : ∃ W, w8.alloc (.cells #[.int .i64 xb.f, .int .i64 xb.b0, .int .i64 xb.b1, .int .i64 xb.b2, .int .i64 xb.b3, .slice xb.aA xb.age.length xb.aC, .slice xb.zA xb.zone.length xb.zC, .slice xb.pA xb.peril.length xb.pC, .int .i64 xb.mn] 26) = W := ⟨_, rfl⟩
        have hb_ : Below w8.heap.size w8 w9 := by rw [← hw9]; exact (Below.refl _ _).alloc (Nat.le_refl _) _
        have H9 := hide (chain H8.out hb_)
        have HB := hide (show Blk w9 w8.heap.size 26 (boxV xb) by rw [← hw9]; exact Blk.new _ _ _)
        rw [hw9]
        have V9 := hide (V8.out.below hb_ V8.out.lt)
        have A9 := hide (A8.out.below hb_ A8.out.lt)
        have KA9 := hide (KA8.out.below hb_)
        have KB9 := hide (KB.out.below hb_)
        obtain ⟨G2, hG_⟩ : ∃ G2, w8.heap.size = G2 := ⟨_, rfl⟩
        rw [hG_] at HB ⊢
        clear hw9 hG_ hb_
        refine (alive_b (w0 := w) H9.out).mono ?_
        rintro e w10 ⟨rfl, h10, hb10⟩
        obtain ⟨a0, a1, a2, a3, a4, a5, a6, a7, a8⟩ := blk_cells (A9.out.below hb10 A9.out.lt)
        obtain ⟨x0, x1, x2, x3, x4, x5, x6, x7, x8⟩ := blk_cells (V9.out.below hb10 V9.out.lt)
        have hxl := block_lt_of_cell x0
        have hal := block_lt_of_cell a0
        have H10 := hide h10
        have KA10 := hide (KA9.out.below hb10)
        have KB10 := hide (KB9.out.below hb10)
        clear h10 hb10 c0 hvl
        go_wp2_with fail
        refine (sameV_b (w0 := w) KA10.out (Below.refl _ _) HK.out H10.out H10.out HS.out LXA.out).mono ?_
        rintro e w11 ⟨rfl, h11, _⟩
        go_wp2_with fail
        go_ret
        exact ⟨rfl, h11⟩
      · obtain ⟨rfl, hsame⟩ := HOTH.out (fun h => hbx (by have := h.2 bb hb1; omega))
        have HS := hide hsame
        clear hsame hb1 hb2 hfv hfb
        go_wp2_with fail
        obtain ⟨w9, hw9⟩ : ∃ W, w8.alloc (.cells #[.int .i64 xb.f, .int .i64 xb.b0, .int .i64 xb.b1, .int .i64 xb.b2, .int .i64 xb.b3, .slice xb.aA xb.age.length xb.aC, .slice xb.zA xb.zone.length xb.zC, .slice xb.pA xb.peril.length xb.pC, .int .i64 xb.mn] 26) = W := ⟨_, rfl⟩
        have hb_ : Below w8.heap.size w8 w9 := by rw [← hw9]; exact (Below.refl _ _).alloc (Nat.le_refl _) _
        have H9 := hide (chain H8.out hb_)
        have HB := hide (show Blk w9 w8.heap.size 26 (boxV xb) by rw [← hw9]; exact Blk.new _ _ _)
        rw [hw9]
        have V9 := hide (V8.out.below hb_ V8.out.lt)
        have A9 := hide (A8.out.below hb_ A8.out.lt)
        have KA9 := hide (KA8.out.below hb_)
        have KB9 := hide (KB.out.below hb_)
        obtain ⟨G2, hG_⟩ : ∃ G2, w8.heap.size = G2 := ⟨_, rfl⟩
        rw [hG_] at HB ⊢
        clear hw9 hG_ hb_
        refine (alive_b (w0 := w) H9.out).mono ?_
        rintro e w10 ⟨rfl, h10, hb10⟩
        obtain ⟨a0, a1, a2, a3, a4, a5, a6, a7, a8⟩ := blk_cells (A9.out.below hb10 A9.out.lt)
        obtain ⟨b0, b1, b2, b3, b4, b5, b6, b7, b8⟩ := blk_cells (HB.out.below hb10 HB.out.lt)
        have hbl := block_lt_of_cell b0
        have hal := block_lt_of_cell a0
        have H10 := hide h10
        have KA10 := hide (KA9.out.below hb10)
        have KB10 := hide (KB9.out.below hb10)
        clear h10 hb10 c0 hvl
        go_wp2_with fail
        refine (sameV_b (w0 := w) KA10.out (Below.refl _ _) KB10.out (Below.refl _ _) H10.out HS.out LXA.out).mono ?_
        rintro e w11 ⟨rfl, h11, _⟩
        go_wp2_with fail
        go_ret
        exact ⟨rfl, h11⟩
  · obtain ⟨rfl, hsame⟩ := HOTH.out (fun h => hxd (by have := h.1; omega))
    have HS := hide hsame
    clear hsame he2 hfv hfb
    go_wp2_with fail
    obtain ⟨w9, hw9⟩ : ∃ W, w8.alloc (.cells #[.int .i64 xb.f, .int .i64 xb.b0, .int .i64 xb.b1, .int .i64 xb.b2, .int .i64 xb.b3, .slice xb.aA xb.age.length xb.aC, .slice xb.zA xb.zone.length xb.zC, .slice xb.pA xb.peril.length xb.pC, .int .i64 xb.mn] 26) = W := ⟨_, rfl⟩
    have hb_ : Below w8.heap.size w8 w9 := by rw [← hw9]; exact (Below.refl _ _).alloc (Nat.le_refl _) _
    have H9 := hide (chain H8.out hb_)
    have HB := hide (show Blk w9 w8.heap.size 26 (boxV xb) by rw [← hw9]; exact Blk.new _ _ _)
    rw [hw9]
    have V9 := hide (V8.out.below hb_ V8.out.lt)
    have A9 := hide (A8.out.below hb_ A8.out.lt)
    have KA9 := hide (KA8.out.below hb_)
    have KB9 := hide (KB.out.below hb_)
    obtain ⟨G2, hG_⟩ : ∃ G2, w8.heap.size = G2 := ⟨_, rfl⟩
    rw [hG_] at HB ⊢
    clear hw9 hG_ hb_
    refine (alive_b (w0 := w) H9.out).mono ?_
    rintro e w10 ⟨rfl, h10, hb10⟩
    obtain ⟨a0, a1, a2, a3, a4, a5, a6, a7, a8⟩ := blk_cells (A9.out.below hb10 A9.out.lt)
    obtain ⟨b0, b1, b2, b3, b4, b5, b6, b7, b8⟩ := blk_cells (HB.out.below hb10 HB.out.lt)
    have hbl := block_lt_of_cell b0
    have hal := block_lt_of_cell a0
    have H10 := hide h10
    have KA10 := hide (KA9.out.below hb10)
    have KB10 := hide (KB9.out.below hb10)
    clear h10 hb10 c0 hvl
    go_wp2_with fail
    refine (sameV_b (w0 := w) KA10.out (Below.refl _ _) KB10.out (Below.refl _ _) H10.out HS.out LXA.out).mono ?_
    rintro e w11 ⟨rfl, h11, _⟩
    go_wp2_with fail
    go_ret
    exact ⟨rfl, h11⟩

theorem tariffBehind_lifted (os : Os) (started : os.Started) (H : Type) (enc : TypeId × Value → H) :
    ReturnsInHanded {} Try.checked os 5 .any (Rows.tariffBehindSpec.pre6 enc Try.prog Try.f5 Rows.tariffBehindRow.domain false) (Rows.tariffBehindSpec.post enc Try.prog Try.f5 false true false false) := by
  refine returnsInHanded_of_change_sized (C := Try.checked) own started (by kernel_rfl) Try.func5
    (ChangeSpec.witness6 (enc := enc) (C := Try.checked) false ⟨#[], #[.agg #[.slice none 0 0], .agg #[.int .i64 0, .int .i64 0, .int .i64 0, .int .i64 0, .int .i64 0, .slice none 0 0, .slice none 0 0, .slice none 0 0, .int .i64 0], .int .i64 0], []⟩ 8 (by kernel_rfl) (by kernel_rfl) (by kernel_rfl) (by kernel_rfl)) ?_
  intro W base args ds gs before hval0 hW hcnd hz0 _
  have hval : ∀ (j : Nat) t v, Try.f5.params[j]? = some t → args[j]? = some v → Value.okWide Try.prog W .any base t v := hval0
  have hW' := hW
  obtain ⟨p, q, hA0, hV, rfl, hfz, hnd⟩ := hW
  have hA : DataW.TrodAll enc Try.prog W 0 (fun _ => true) true Try.f5.params.toList args.toList ds p := hA0
  rw [Try.params5] at hA hval
  have hz := hz0
  rw [Try.params5] at hz
  obtain ⟨v0, vs0, d0, ds0, p0, q0, hargs, rfl, rfl, h0, r0⟩ := trodAll_cons hA
  obtain ⟨v1, vs1, d1, ds1, p1, q1, rfl, rfl, rfl, h1, r1⟩ := trodAll_cons r0
  obtain ⟨v2, vs2, d2, ds2, p2, q2, rfl, rfl, rfl, h2, r2⟩ := trodAll_cons r1
  obtain ⟨rfl, rfl, rfl⟩ := trodAll_nil r2
  obtain rfl : args = #[v0, v1, v2] := by cases args; simp_all
  obtain ⟨rfl, rfl⟩ := trodVars_none hV
  obtain ⟨A0, M0, cap0, rfl, ht0⟩ := openZ_tariff (hval 0 29 v0 rfl rfl) h0 (small_of hz (j := 0) rfl rfl)
  obtain ⟨x1, rfl, hk1, ho1, hf1⟩ := openZ_version (hval 1 26 v1 rfl rfl) h1 (small_of hz (j := 1) rfl rfl)
  obtain ⟨x2, rfl, rfl, rfl, wx2⟩ := open_int Try.underlying3 (hval 2 3 v2 rfl rfl) h2
  refine (tariffBehind_walk W A0 M0 cap0 ht0 x1 hk1 ho1 hf1 x2 wx2).mono fun e W' ⟨he, hb⟩ => ?_
  subst he
  exact ⟨_, rfl, law_post laidOut (by kernel_rfl) rfl Try.underlying4 rfl rfl hW' hb⟩

/-- THE STATEMENT. -/
theorem tariffBehind_holds : Rows.TariffBehindSaid :=
  OpenClaim.holds_of_wide 5 Try.f5 rfl rfl rfl rfl rfl rfl rfl ⟨rfl, rfl, rfl, rfl, rfl⟩ rfl rfl rfl rfl rfl (by kernel_rfl) Try.func5 (by kernel_rfl)
    (of_decide_eq_true (by kernel_rfl)) (by unfold Func.isWrapper; first | (rw [if_pos (by decide +kernel)]; kernel_rfl) | (rw [if_neg (by decide +kernel)]; exact ⟨rfl, rfl⟩))
    (fun os started H enc _ => tariffBehind_lifted os started H enc)
end Go.Proofs.Ytaboachegclaiaa
