/- TariffOrder: two versions, put in either order, make the same tariff. -/
import Derived.Test.YtaboachegclaiaaTarS
namespace Go.Proofs.Ytaboachegclaiaa
open Go.ChangeShapes Go.WideShapes Go.ChangeAt Go.RowKit Go.BigFrame
set_option linter.unusedVariables false

set_option maxRecDepth 100000 in
set_option maxHeartbeats 8000000 in
theorem tariffOrder_walk (w : World) (A : Option Addr) (M : List Vw) (cap : Nat) (ht : TIn w A cap M) (x : Vw) (hk : VOK w x) (ho : okVw x) (hf : FitV x) (y : Vw) (hk' : VOK w y) (ho' : okVw y) (hf' : FitV y) :
    Calls Try.prog 6 #[.agg #[.slice A M.length cap], .agg #[.int .i64 x.f, .int .i64 x.b0, .int .i64 x.b1, .int .i64 x.b2, .int .i64 x.b3, .slice x.aA x.age.length x.aC, .slice x.zA x.zone.length x.zC, .slice x.pA x.peril.length x.pC, .int .i64 x.mn], .agg #[.int .i64 y.f, .int .i64 y.b0, .int .i64 y.b1, .int .i64 y.b2, .int .i64 y.b3, .slice y.aA y.age.length y.aC, .slice y.zA y.zone.length y.zC, .slice y.pA y.peril.length y.pC, .int .i64 y.mn]] w fun e w' => e = .returned (.bool true) ∧ Below w.heap.size w w' := by
  have HT := hide ht
  have HK := hide hk
  have HK' := hide hk'
  have hmx := ht.tv.sv.le
  have hmy := ht.tv.sv.most
  unfold maxLen at hmy
  have hrm := ht.room
  have hFA : ∀ z ∈ [x, y] ++ M, FitV z := fun z hz => by
    rcases List.mem_cons.1 hz with h | h
    · subst h; exact hf
    · rcases List.mem_cons.1 h with h | h
      · subst h; exact hf'
      · exact (ht.ok z h).2
  have HF := hide hFA
  obtain ⟨w1, hw1⟩ : ∃ W, (((w.alloc (.cells #[.slice A M.length cap] 29)).alloc (.cells #[.int .i64 x.f, .int .i64 x.b0, .int .i64 x.b1, .int .i64 x.b2, .int .i64 x.b3, .slice x.aA x.age.length x.aC, .slice x.zA x.zone.length x.zC, .slice x.pA x.peril.length x.pC, .int .i64 x.mn] 26)).alloc (.cells #[.int .i64 y.f, .int .i64 y.b0, .int .i64 y.b1, .int .i64 y.b2, .int .i64 y.b3, .slice y.aA y.age.length y.aC, .slice y.zA y.zone.length y.zC, .slice y.pA y.peril.length y.pC, .int .i64 y.mn] 26)).alloc (.cells #[.int .i64 x.f, .int .i64 x.b0, .int .i64 x.b1, .int .i64 x.b2, .int .i64 x.b3, .slice x.aA x.age.length x.aC, .slice x.zA x.zone.length x.zC, .slice x.pA x.peril.length x.pC, .int .i64 x.mn, .int .i64 y.f, .int .i64 y.b0, .int .i64 y.b1, .int .i64 y.b2, .int .i64 y.b3, .slice y.aA y.age.length y.aC, .slice y.zA y.zone.length y.zC, .slice y.pA y.peril.length y.pC, .int .i64 y.mn] 26) = W := ⟨_, rfl⟩
  have hT1 : Blk w1 w.heap.size 29 #[.slice A M.length cap] := by rw [← hw1]; exact (((Blk.new _ _ _).alloc _).alloc _).alloc _
  have hX1 : Blk w1 (w.heap.size + 1) 26 (boxV x) := by rw [← hw1]; exact ((Blk.new' (by simp)).alloc _).alloc _
  have hY1 : Blk w1 (w.heap.size + 1 + 1) 26 (boxV y) := by rw [← hw1]; exact (Blk.new' (by simp)).alloc _
  have h1 : Below w.heap.size w w1 := by rw [← hw1]; exact ((((Below.refl _ _).alloc (Nat.le_refl _) _).alloc (by simp) _).alloc (by simp; omega) _).alloc (by simp; omega) _
  have hown : OwnS w1 w.heap.size 26 9 (some ⟨w.heap.size + 1 + 1 + 1, 0, none⟩) 2 2 ([x, y].map encV) := by
    have h := OwnS.lit (((w.alloc (.cells #[.slice A M.length cap] 29)).alloc (.cells #[.int .i64 x.f, .int .i64 x.b0, .int .i64 x.b1, .int .i64 x.b2, .int .i64 x.b3, .slice x.aA x.age.length x.aC, .slice x.zA x.zone.length x.zC, .slice x.pA x.peril.length x.pC, .int .i64 x.mn] 26)).alloc (.cells #[.int .i64 y.f, .int .i64 y.b0, .int .i64 y.b1, .int .i64 y.b2, .int .i64 y.b3, .slice y.aA y.age.length y.aC, .slice y.zA y.zone.length y.zC, .slice y.pA y.peril.length y.pC, .int .i64 y.mn] 26)) (B := w.heap.size) (by simp; omega) 26 ([x, y].map encV) (okVs [x, y]) (by simp [maxLen]) #[.int .i64 x.f, .int .i64 x.b0, .int .i64 x.b1, .int .i64 x.b2, .int .i64 x.b3, .slice x.aA x.age.length x.aC, .slice x.zA x.zone.length x.zC, .slice x.pA x.peril.length x.pC, .int .i64 x.mn, .int .i64 y.f, .int .i64 y.b0, .int .i64 y.b1, .int .i64 y.b2, .int .i64 y.b3, .slice y.aA y.age.length y.aC, .slice y.zA y.zone.length y.zC, .slice y.pA y.peril.length y.pC, .int .i64 y.mn] rfl
    simp only [World.size_alloc] at h
    rw [← hw1]
    exact h
  have HW1 := hide hw1
  have HO := hide hown
  have HB := hide h1
  have HX1 := hide hX1
  have HY1 := hide hY1
  have HT1 := hide hT1
  clear hw1 hown h1 hX1 hY1 hT1 hFA ht hk hf hk' hf'
  go_enter Try.func6, Try.ntmps6
  go_wp2_with (at_builtin
               rw [HW1.out]
               refine wpList_app rfl (.tmp 17) (.tmp 19) 27 rfl elVer (B := w.heap.size) (news := M.map encV) rfl HO.out rfl (List.length_map _) ((HT.out.tv.sv.sl.below HB.out).more HB.out.size) (okVs M) ?_ ?_ HB.out.size ?_
               · simp only [maxLen]; omega
               · omega
               intro A2 q2 w2 ho2 hg2 _)
  obtain ⟨tv2, h2⟩ := cons_tv HT.out.tv (N := [x, y]) (fun z hz => by simp at hz; rcases hz with rfl | rfl; exact HK.out; exact HK'.out) HB.out ho2 hg2 (by simp only; omega)
  have hX2 := HX1.out.grown hg2 (by simp [blk]; try omega)
  have hY2 := HY1.out.grown hg2 (by simp [blk]; try omega)
  have hT2 := HT1.out.grown hg2 (by simp [blk]; try omega)
  clear HO HB HX1 HY1 HT1 HW1 ho2 hg2
  have HTV2 := hide tv2
  have HX2 := hide hX2
  have HY2 := hide hY2
  have HT2 := hide hT2
  have H2 := hide h2
  clear tv2 hX2 hY2 hT2 h2
  cases hfe : fewB ([x, y] ++ M)
  · refine (few_b (w0 := w) HTV2.out (Below.refl _ _) H2.out HF.out hfe).mono ?_
    rintro e w3 ⟨rfl, h3, _⟩
    clear hfe
    go_wp2_with fail
    refine (alive_b h3).mono ?_
    rintro e w4 ⟨rfl, h4, _⟩
    go_wp2_with fail
    go_ret
    exact ⟨rfl, h4⟩
  refine (few_b (w0 := w) HTV2.out (Below.refl _ _) H2.out HF.out hfe).mono ?_
  rintro e w3 ⟨rfl, h3, hb3⟩
  have X3 := hide (HX2.out.below hb3 HX2.out.lt)
  have Y3 := hide (HY2.out.below hb3 HY2.out.lt)
  have T3 := hide (HT2.out.below hb3 HT2.out.lt)
  obtain ⟨hm112, hlall⟩ := few_len HF.out hfe
  have hm110 : M.length ≤ 110 := by simp at hm112; omega
  have HLM := hide (show ∀ z ∈ M, LenV z from fun z hz => hlall z (List.mem_append_right _ hz))
  have HLX := hide (hlall x (by simp))
  have HLY := hide (hlall y (by simp))
  obtain ⟨c0, c1, c2, c3, c4, c5, c6, c7, c8⟩ := blk_cells X3.out
  obtain ⟨d0, d1, d2, d3, d4, d5, d6, d7, d8⟩ := blk_cells Y3.out
  have t0 := T3.out.cell 0
  simp at t0
  have hvl := X3.out.lt
  have hyl := Y3.out.lt
  have htl := T3.out.lt
  have H3 := hide h3
  clear HTV2 HX2 HY2 HT2 H2 hb3 h3 hfe hlall hm112
  by_cases h98 : 98 < M.length
  · have h98' : (98 : Int) < (M.length : Int) := by omega
    go_wp2_with fail
    refine (alive_b (w0 := w) H3.out).mono ?_
    rintro e w4 ⟨rfl, h4, _⟩
    go_wp2_with fail
    go_ret
    exact ⟨rfl, h4⟩
  have h98' : ¬ (98 : Int) < (M.length : Int) := by omega
  obtain ⟨l, hl⟩ : ∃ z, allV M = z := ⟨_, rfl⟩
  obtain ⟨v, hv⟩ : ∃ z, x.v = z := ⟨_, rfl⟩
  obtain ⟨u, hu⟩ : ∃ z, y.v = z := ⟨_, rfl⟩
  obtain ⟨k1, l1, hp1⟩ : ∃ c l2, putV l v = (c, l2) := ⟨_, _, rfl⟩
  obtain ⟨k2, l2, hp2⟩ : ∃ c l2, putV l u = (c, l2) := ⟨_, _, rfl⟩
  obtain ⟨n1, hn1⟩ : ∃ z, l1.length = z := ⟨_, rfl⟩
  obtain ⟨n2, hn2⟩ : ∃ z, l2.length = z := ⟨_, rfl⟩
  have HL := hide hl
  have HV := hide hv
  have HU := hide hu
  have P1 := hide hp1
  have P2 := hide hp2
  have N1 := hide hn1
  have N2 := hide hn2
  have hll : l.length ≤ 98 := by rw [← hl, allV_len]; omega
  have hfl : FitL l := by rw [← hl]; exact fit_allV HLM.out
  have HFL := hide hfl
  clear hl hv hu hp1 hp2 hn1 hn2 hfl
  by_cases hk1 : k1 = 0
  case neg =>
    have hkb : (k1 != 0) = true := by simpa using hk1
    go_wp2_with fail
    refine (put_b (w0 := w) HT.out.tv H3.out HK.out H3.out H3.out HL.out HV.out P1.out N1.out).mono ?_
    rintro e w4 ⟨A4, q4, M4, rfl, ht4, hm4, h4, hb4⟩
    have X4 := hide (X3.out.below hb4 X3.out.lt)
    have Y4 := hide (Y3.out.below hb4 Y3.out.lt)
    have T4 := hide (T3.out.below hb4 T3.out.lt)
    have H4 := hide h4
    have TM4 := hide ht4
    have HM4 := hide hm4
    clear c0 c1 c2 c3 c4 c5 c6 c7 c8 d0 d1 d2 d3 d4 d5 d6 d7 d8 t0 hvl hyl htl h4 hb4 ht4 hm4 X3 Y3 T3
    have t0 := T4.out.cell 0
    simp at t0
    have htl := T4.out.lt
    obtain ⟨d0, d1, d2, d3, d4, d5, d6, d7, d8⟩ := blk_cells Y4.out
    have hyl := Y4.out.lt
    go_wp2_with fail
    obtain ⟨w5, hw5⟩ : ∃ W, w4.alloc (.cells #[.slice A4 n1 q4] 29) = W := ⟨_, rfl⟩
    have hb_ : Below w4.heap.size w4 w5 := by rw [← hw5]; exact (Below.refl _ _).alloc (Nat.le_refl _) _
    have H5 := hide (chain H4.out hb_)
    have G1B := hide (show Blk w5 w4.heap.size 29 #[.slice A4 n1 q4] by rw [← hw5]; exact Blk.new _ _ _)
    rw [hw5]
    have X5 := hide (X4.out.below hb_ X4.out.lt)
    have Y5 := hide (Y4.out.below hb_ Y4.out.lt)
    have T5 := hide (T4.out.below hb_ T4.out.lt)
    have TM5 := hide (TM4.out.below hb_)
    obtain ⟨G1, hG_⟩ : ∃ G1, w4.heap.size = G1 := ⟨_, rfl⟩
    rw [hG_] at G1B ⊢
    clear hw5 hG_ hb_
    clear X4 Y4 T4 TM4 t0 htl d0 d1 d2 d3 d4 d5 d6 d7 d8 hyl
    refine (put_b (w0 := w) HT.out.tv H5.out HK'.out H5.out H5.out HL.out HU.out P2.out N2.out).mono ?_
    rintro e w6 ⟨A6, q6, M6, rfl, ht6, hm6, h6, hb6⟩
    have X6 := hide (X5.out.below hb6 X5.out.lt)
    have Y6 := hide (Y5.out.below hb6 Y5.out.lt)
    have B6 := hide (G1B.out.below hb6 G1B.out.lt)
    have TA6 := hide (TM5.out.below hb6)
    have H6 := hide h6
    have TM6 := hide ht6
    have HM6 := hide hm6
    clear h6 hb6 ht6 hm6 X5 Y5 T5 TM5 H5 G1B
    have g0 := B6.out.cell 0
    simp at g0
    have hgl := B6.out.lt
    obtain ⟨d0, d1, d2, d3, d4, d5, d6, d7, d8⟩ := blk_cells Y6.out
    have hyl := Y6.out.lt
    go_wp2_with fail
    obtain ⟨w7, hw7⟩ : ∃ W, w6.alloc (.cells #[.slice A6 n2 q6] 29) = W := ⟨_, rfl⟩
    have hb_ : Below w6.heap.size w6 w7 := by rw [← hw7]; exact (Below.refl _ _).alloc (Nat.le_refl _) _
    have H7 := hide (chain H6.out hb_)
    have G2B := hide (show Blk w7 w6.heap.size 29 #[.slice A6 n2 q6] by rw [← hw7]; exact Blk.new _ _ _)
    rw [hw7]
    have X7 := hide (X6.out.below hb_ X6.out.lt)
    have Y7 := hide (Y6.out.below hb_ Y6.out.lt)
    have B7 := hide (B6.out.below hb_ B6.out.lt)
    have TA7 := hide (TA6.out.below hb_)
    have TM7 := hide (TM6.out.below hb_)
    obtain ⟨G2, hG_⟩ : ∃ G2, w6.heap.size = G2 := ⟨_, rfl⟩
    rw [hG_] at G2B ⊢
    clear hw7 hG_ hb_
    clear X6 Y6 B6 TA6 TM6 g0 hgl d0 d1 d2 d3 d4 d5 d6 d7 d8 hyl H6
    refine (alive_b (w0 := w) H7.out).mono ?_
    rintro e w8 ⟨rfl, h8, _⟩
    go_wp2_with fail
    go_ret
    exact ⟨rfl, h8⟩
  have hkb : (k1 != 0) = false := by simp [hk1]
  obtain rfl := hk1
  by_cases hk2 : k2 = 0
  case neg =>
    have hkb2 : (k2 != 0) = true := by simpa using hk2
    go_wp2_with fail
    refine (put_b (w0 := w) HT.out.tv H3.out HK.out H3.out H3.out HL.out HV.out P1.out N1.out).mono ?_
    rintro e w4 ⟨A4, q4, M4, rfl, ht4, hm4, h4, hb4⟩
    have X4 := hide (X3.out.below hb4 X3.out.lt)
    have Y4 := hide (Y3.out.below hb4 Y3.out.lt)
    have T4 := hide (T3.out.below hb4 T3.out.lt)
    have H4 := hide h4
    have TM4 := hide ht4
    have HM4 := hide hm4
    clear c0 c1 c2 c3 c4 c5 c6 c7 c8 d0 d1 d2 d3 d4 d5 d6 d7 d8 t0 hvl hyl htl h4 hb4 ht4 hm4 X3 Y3 T3
    have t0 := T4.out.cell 0
    simp at t0
    have htl := T4.out.lt
    obtain ⟨d0, d1, d2, d3, d4, d5, d6, d7, d8⟩ := blk_cells Y4.out
    have hyl := Y4.out.lt
    go_wp2_with fail
    obtain ⟨w5, hw5⟩ : ∃ W, w4.alloc (.cells #[.slice A4 n1 q4] 29) = W := ⟨_, rfl⟩
    have hb_ : Below w4.heap.size w4 w5 := by rw [← hw5]; exact (Below.refl _ _).alloc (Nat.le_refl _) _
    have H5 := hide (chain H4.out hb_)
    have G1B := hide (show Blk w5 w4.heap.size 29 #[.slice A4 n1 q4] by rw [← hw5]; exact Blk.new _ _ _)
    rw [hw5]
    have X5 := hide (X4.out.below hb_ X4.out.lt)
    have Y5 := hide (Y4.out.below hb_ Y4.out.lt)
    have T5 := hide (T4.out.below hb_ T4.out.lt)
    have TM5 := hide (TM4.out.below hb_)
    obtain ⟨G1, hG_⟩ : ∃ G1, w4.heap.size = G1 := ⟨_, rfl⟩
    rw [hG_] at G1B ⊢
    clear hw5 hG_ hb_
    clear X4 Y4 T4 TM4 t0 htl d0 d1 d2 d3 d4 d5 d6 d7 d8 hyl
    refine (put_b (w0 := w) HT.out.tv H5.out HK'.out H5.out H5.out HL.out HU.out P2.out N2.out).mono ?_
    rintro e w6 ⟨A6, q6, M6, rfl, ht6, hm6, h6, hb6⟩
    have X6 := hide (X5.out.below hb6 X5.out.lt)
    have Y6 := hide (Y5.out.below hb6 Y5.out.lt)
    have B6 := hide (G1B.out.below hb6 G1B.out.lt)
    have TA6 := hide (TM5.out.below hb6)
    have H6 := hide h6
    have TM6 := hide ht6
    have HM6 := hide hm6
    clear h6 hb6 ht6 hm6 X5 Y5 T5 TM5 H5 G1B
    have g0 := B6.out.cell 0
    simp at g0
    have hgl := B6.out.lt
    obtain ⟨d0, d1, d2, d3, d4, d5, d6, d7, d8⟩ := blk_cells Y6.out
    have hyl := Y6.out.lt
    go_wp2_with fail
    obtain ⟨w7, hw7⟩ : ∃ W, w6.alloc (.cells #[.slice A6 n2 q6] 29) = W := ⟨_, rfl⟩
    have hb_ : Below w6.heap.size w6 w7 := by rw [← hw7]; exact (Below.refl _ _).alloc (Nat.le_refl _) _
    have H7 := hide (chain H6.out hb_)
    have G2B := hide (show Blk w7 w6.heap.size 29 #[.slice A6 n2 q6] by rw [← hw7]; exact Blk.new _ _ _)
    rw [hw7]
    have X7 := hide (X6.out.below hb_ X6.out.lt)
    have Y7 := hide (Y6.out.below hb_ Y6.out.lt)
    have B7 := hide (B6.out.below hb_ B6.out.lt)
    have TA7 := hide (TA6.out.below hb_)
    have TM7 := hide (TM6.out.below hb_)
    obtain ⟨G2, hG_⟩ : ∃ G2, w6.heap.size = G2 := ⟨_, rfl⟩
    rw [hG_] at G2B ⊢
    clear hw7 hG_ hb_
    clear X6 Y6 B6 TA6 TM6 g0 hgl d0 d1 d2 d3 d4 d5 d6 d7 d8 hyl H6
    refine (alive_b (w0 := w) H7.out).mono ?_
    rintro e w8 ⟨rfl, h8, _⟩
    go_wp2_with fail
    go_ret
    exact ⟨rfl, h8⟩
  have hkb2 : (k2 != 0) = false := by simp [hk2]
  obtain rfl := hk2
  obtain ⟨r1, r2, r3, r4, r5⟩ := put_ok P1.out
  obtain ⟨s1, s2, s3, s4, s5⟩ := put_ok P2.out
  have hi1 := ins_right r1 r2 r3 (by omega)
  have hi2 := ins_right s1 s2 s3 (by omega)
  have hfv : v.f = x.f := by rw [← HV.out]; rfl
  have hfu : u.f = y.f := by rw [← HU.out]; rfl
  obtain ⟨c, l3, hq1, hq2, hcc⟩ : ∃ c l3, putV l1 u = (c, l3) ∧ putV l2 v = (c, l3) ∧ ((x.f = y.f ∧ c = 8) ∨ (x.f ≠ y.f ∧ c = 0)) := by
    by_cases he : x.f = y.f
    · exact ⟨8, [], put_there (by rw [r5]; exact hi1) s2 (a := v) (by rw [r5]; exact mem_ins.2 (.inl rfl)) (by omega), put_there (by rw [s5]; exact hi2) r2 (a := u) (by rw [s5]; exact mem_ins.2 (.inl rfl)) (by omega), .inl ⟨he, rfl⟩⟩
    · refine ⟨0, insV u (insV v l), ?_, ?_, .inr ⟨he, rfl⟩⟩
      · rw [r5]
        refine put_of hi1 s2 (fun a ha => ?_) (by rw [len_ins]; omega)
        rcases mem_ins.1 ha with h | h
        · subst h; omega
        · exact s3 a h
      · rw [s5, ins_comm (by omega)]
        refine put_of hi2 r2 (fun a ha => ?_) (by rw [len_ins]; omega)
        rcases mem_ins.1 ha with h | h
        · subst h; omega
        · exact r3 a h
  obtain ⟨n3, hn3⟩ : ∃ z, l3.length = z := ⟨_, rfl⟩
  have hfl3 : FitL l3 := fun z hz => by
    rcases hcc with ⟨_, h⟩ | ⟨_, h⟩
    · have h2 := put_code (l := l1) (v := u) (by rw [hq1, h]; simp)
      rw [hq1] at h2
      rw [show l3 = [] from h2] at hz
      cases hz
    · subst h
      have h2 := (put_ok hq1).2.2.2.2
      rw [h2] at hz
      rcases mem_ins.1 hz with h | h
      · subst h; rw [← HU.out]; exact HLY.out
      · rw [r5] at h
        rcases mem_ins.1 h with h | h
        · subst h; rw [← HV.out]; exact HLX.out
        · exact HFL.out z h
  have Q1 := hide hq1
  have Q2 := hide hq2
  have N3 := hide hn3
  have HF3 := hide hfl3
  have HCC := hide hcc
  clear r1 r2 r3 r4 r5 s1 s2 s3 s4 s5 hi1 hi2 hfv hfu hq1 hq2 hn3 hfl3 hcc hll
  go_wp2_with fail
  refine (put_b (w0 := w) HT.out.tv H3.out HK.out H3.out H3.out HL.out HV.out P1.out N1.out).mono ?_
  rintro e w4 ⟨A4, q4, M4, rfl, ht4, hm4, h4, hb4⟩
  have X4 := hide (X3.out.below hb4 X3.out.lt)
  have Y4 := hide (Y3.out.below hb4 Y3.out.lt)
  have T4 := hide (T3.out.below hb4 T3.out.lt)
  have H4 := hide h4
  have TM4 := hide ht4
  have HM4 := hide hm4
  clear c0 c1 c2 c3 c4 c5 c6 c7 c8 d0 d1 d2 d3 d4 d5 d6 d7 d8 t0 hvl hyl htl h4 hb4 ht4 hm4 X3 Y3 T3
  have t0 := T4.out.cell 0
  simp at t0
  have htl := T4.out.lt
  obtain ⟨d0, d1, d2, d3, d4, d5, d6, d7, d8⟩ := blk_cells Y4.out
  have hyl := Y4.out.lt
  go_wp2_with fail
  obtain ⟨w5, hw5⟩ : ∃ W, w4.alloc (.cells #[.slice A4 n1 q4] 29) = W := ⟨_, rfl⟩
  have hb_ : Below w4.heap.size w4 w5 := by rw [← hw5]; exact (Below.refl _ _).alloc (Nat.le_refl _) _
  have H5 := hide (chain H4.out hb_)
  have G1B := hide (show Blk w5 w4.heap.size 29 #[.slice A4 n1 q4] by rw [← hw5]; exact Blk.new _ _ _)
  rw [hw5]
  have X5 := hide (X4.out.below hb_ X4.out.lt)
  have Y5 := hide (Y4.out.below hb_ Y4.out.lt)
  have T5 := hide (T4.out.below hb_ T4.out.lt)
  have TM5 := hide (TM4.out.below hb_)
  obtain ⟨G1, hG_⟩ : ∃ G1, w4.heap.size = G1 := ⟨_, rfl⟩
  rw [hG_] at G1B ⊢
  clear hw5 hG_ hb_
  clear X4 Y4 T4 TM4 t0 htl d0 d1 d2 d3 d4 d5 d6 d7 d8 hyl
  refine (put_b (w0 := w) HT.out.tv H5.out HK'.out H5.out H5.out HL.out HU.out P2.out N2.out).mono ?_
  rintro e w6 ⟨A6, q6, M6, rfl, ht6, hm6, h6, hb6⟩
  have X6 := hide (X5.out.below hb6 X5.out.lt)
  have Y6 := hide (Y5.out.below hb6 Y5.out.lt)
  have B6 := hide (G1B.out.below hb6 G1B.out.lt)
  have TA6 := hide (TM5.out.below hb6)
  have H6 := hide h6
  have TM6 := hide ht6
  have HM6 := hide hm6
  clear h6 hb6 ht6 hm6 X5 Y5 T5 TM5 H5 G1B
  have g0 := B6.out.cell 0
  simp at g0
  have hgl := B6.out.lt
  obtain ⟨d0, d1, d2, d3, d4, d5, d6, d7, d8⟩ := blk_cells Y6.out
  have hyl := Y6.out.lt
  go_wp2_with fail
  obtain ⟨w7, hw7⟩ : ∃ W, w6.alloc (.cells #[.slice A6 n2 q6] 29) = W := ⟨_, rfl⟩
  have hb_ : Below w6.heap.size w6 w7 := by rw [← hw7]; exact (Below.refl _ _).alloc (Nat.le_refl _) _
  have H7 := hide (chain H6.out hb_)
  have G2B := hide (show Blk w7 w6.heap.size 29 #[.slice A6 n2 q6] by rw [← hw7]; exact Blk.new _ _ _)
  rw [hw7]
  have X7 := hide (X6.out.below hb_ X6.out.lt)
  have Y7 := hide (Y6.out.below hb_ Y6.out.lt)
  have B7 := hide (B6.out.below hb_ B6.out.lt)
  have TA7 := hide (TA6.out.below hb_)
  have TM7 := hide (TM6.out.below hb_)
  obtain ⟨G2, hG_⟩ : ∃ G2, w6.heap.size = G2 := ⟨_, rfl⟩
  rw [hG_] at G2B ⊢
  clear hw7 hG_ hb_
  clear X6 Y6 B6 TA6 TM6 g0 hgl d0 d1 d2 d3 d4 d5 d6 d7 d8 hyl H6
  refine (put_b (w0 := w) TA7.out (Below.refl _ _) HK'.out H7.out H7.out HM4.out HU.out Q1.out N3.out).mono ?_
  rintro e w8 ⟨A8, q8, M8, rfl, ht8, hm8, h8, hb8⟩
  have X8 := hide (X7.out.below hb8 X7.out.lt)
  have Y8 := hide (Y7.out.below hb8 Y7.out.lt)
  have D8 := hide (G2B.out.below hb8 G2B.out.lt)
  have TB8 := hide (TM7.out.below hb8)
  have H8 := hide h8
  have TM8 := hide ht8
  have HM8 := hide hm8
  clear h8 hb8 ht8 hm8 X7 Y7 B7 TA7 TM7 H7 G2B
  have g0 := D8.out.cell 0
  simp at g0
  have hgl := D8.out.lt
  obtain ⟨c0, c1, c2, c3, c4, c5, c6, c7, c8⟩ := blk_cells X8.out
  have hvl := X8.out.lt
  go_wp2_with fail
  obtain ⟨w9, hw9⟩ : ∃ W, w8.alloc (.cells #[.slice A8 n3 q8] 29) = W := ⟨_, rfl⟩
  have hb_ : Below w8.heap.size w8 w9 := by rw [← hw9]; exact (Below.refl _ _).alloc (Nat.le_refl _) _
  have H9 := hide (chain H8.out hb_)
  have G3B := hide (show Blk w9 w8.heap.size 29 #[.slice A8 n3 q8] by rw [← hw9]; exact Blk.new _ _ _)
  rw [hw9]
  have X9 := hide (X8.out.below hb_ X8.out.lt)
  have Y9 := hide (Y8.out.below hb_ Y8.out.lt)
  have TB9 := hide (TB8.out.below hb_)
  have TM9 := hide (TM8.out.below hb_)
  obtain ⟨G3, hG_⟩ : ∃ G3, w8.heap.size = G3 := ⟨_, rfl⟩
  rw [hG_] at G3B ⊢
  clear hw9 hG_ hb_
  clear X8 Y8 D8 TB8 TM8 g0 hgl c0 c1 c2 c3 c4 c5 c6 c7 c8 hvl H8
  refine (put_b (w0 := w) TB9.out (Below.refl _ _) HK.out H9.out H9.out HM6.out HV.out Q2.out N3.out).mono ?_
  rintro e w10 ⟨A10, q10, M10, rfl, ht10, hm10, h10, hb10⟩
  have X10 := hide (X9.out.below hb10 X9.out.lt)
  have Y10 := hide (Y9.out.below hb10 Y9.out.lt)
  have E10 := hide (G3B.out.below hb10 G3B.out.lt)
  have TC10 := hide (TM9.out.below hb10)
  have H10 := hide h10
  have TM10 := hide ht10
  have HM10 := hide hm10
  clear h10 hb10 ht10 hm10 X9 Y9 TB9 TM9 H9 G3B
  go_wp2_with fail
  obtain ⟨w11, hw11⟩ : ∃ W, w10.alloc (.cells #[.slice A10 n3 q10] 29) = W := ⟨_, rfl⟩
  have hb_ : Below w10.heap.size w10 w11 := by rw [← hw11]; exact (Below.refl _ _).alloc (Nat.le_refl _) _
  have H11 := hide (chain H10.out hb_)
  have G4B := hide (show Blk w11 w10.heap.size 29 #[.slice A10 n3 q10] by rw [← hw11]; exact Blk.new _ _ _)
  rw [hw11]
  have X11 := hide (X10.out.below hb_ X10.out.lt)
  have Y11 := hide (Y10.out.below hb_ Y10.out.lt)
  have E11 := hide (E10.out.below hb_ E10.out.lt)
  have TC11 := hide (TC10.out.below hb_)
  have TM11 := hide (TM10.out.below hb_)
  obtain ⟨G4, hG_⟩ : ∃ G4, w10.heap.size = G4 := ⟨_, rfl⟩
  rw [hG_] at G4B ⊢
  clear hw11 hG_ hb_
  clear X10 Y10 E10 TC10 TM10 H10
  refine (alive_b (w0 := w) H11.out).mono ?_
  rintro e w12 ⟨rfl, h12, hb12⟩
  have g0 := (E11.out.below hb12 E11.out.lt).cell 0
  have k0 := (G4B.out.below hb12 G4B.out.lt).cell 0
  have c0 := (X11.out.below hb12 X11.out.lt).cell 0
  have d0 := (Y11.out.below hb12 Y11.out.lt).cell 0
  simp [boxV] at g0 k0 c0 d0
  have hgl := block_lt_of_cell g0
  have hkl := block_lt_of_cell k0
  have hcl := block_lt_of_cell c0
  have hdl := block_lt_of_cell d0
  have TC12 := hide (TC11.out.below hb12)
  have TM12 := hide (TM11.out.below hb12)
  have H12 := hide h12
  clear h12 hb12 X11 Y11 E11 G4B TC11 TM11 H11
  go_wp2_with fail
  refine (sameT_b (w0 := w) TC12.out (Below.refl _ _) TM12.out (Below.refl _ _) H12.out (by rw [HM8.out, HM10.out]) (by rw [HM8.out]; exact HF3.out)).mono ?_
  rintro e w13 ⟨rfl, h13, hb13⟩
  have c0 := kept hb13 c0
  have d0 := kept hb13 d0
  have hcl := block_lt_of_cell c0
  have hdl := block_lt_of_cell d0
  have H13 := hide h13
  have hcc := HCC.out
  clear h13 hb13 g0 k0 hgl hkl
  rcases hcc with ⟨hxy, rfl⟩ | ⟨hxy, rfl⟩
  · have hb1 : (x.f != y.f) = false := by simp [hxy]
    go_wp2_with fail
    go_ret
    exact ⟨ret_bool (by simp), H13.out⟩
  · have hb1 : (x.f != y.f) = true := by simpa using hxy
    go_wp2_with fail
    go_ret
    exact ⟨ret_bool (by simp), H13.out⟩

theorem tariffOrder_lifted (os : Os) (started : os.Started) (H : Type) (enc : TypeId × Value → H) :
    ReturnsInHanded {} Try.checked os 6 .any (Rows.tariffOrderSpec.pre6 enc Try.prog Try.f6 Rows.tariffOrderRow.domain false) (Rows.tariffOrderSpec.post enc Try.prog Try.f6 false true false false) := by
  refine returnsInHanded_of_change_sized (C := Try.checked) own started (by kernel_rfl) Try.func6
    (ChangeSpec.witness6 (enc := enc) (C := Try.checked) false ⟨#[], #[.agg #[.slice none 0 0], .agg #[.int .i64 0, .int .i64 0, .int .i64 0, .int .i64 0, .int .i64 0, .slice none 0 0, .slice none 0 0, .slice none 0 0, .int .i64 0], .agg #[.int .i64 0, .int .i64 0, .int .i64 0, .int .i64 0, .int .i64 0, .slice none 0 0, .slice none 0 0, .slice none 0 0, .int .i64 0]], []⟩ 8 (by kernel_rfl) (by kernel_rfl) (by kernel_rfl) (by kernel_rfl)) ?_
  intro W base args ds gs before hval0 hW hcnd hz0 _
  have hval : ∀ (j : Nat) t v, Try.f6.params[j]? = some t → args[j]? = some v → Value.okWide Try.prog W .any base t v := hval0
  have hW' := hW
  obtain ⟨p, q, hA0, hV, rfl, hfz, hnd⟩ := hW
  have hA : DataW.TrodAll enc Try.prog W 0 (fun _ => true) true Try.f6.params.toList args.toList ds p := hA0
  rw [Try.params6] at hA hval
  have hz := hz0
  rw [Try.params6] at hz
  obtain ⟨v0, vs0, d0, ds0, p0, q0, hargs, rfl, rfl, h0, r0⟩ := trodAll_cons hA
  obtain ⟨v1, vs1, d1, ds1, p1, q1, rfl, rfl, rfl, h1, r1⟩ := trodAll_cons r0
  obtain ⟨v2, vs2, d2, ds2, p2, q2, rfl, rfl, rfl, h2, r2⟩ := trodAll_cons r1
  obtain ⟨rfl, rfl, rfl⟩ := trodAll_nil r2
  obtain rfl : args = #[v0, v1, v2] := by cases args; simp_all
  obtain ⟨rfl, rfl⟩ := trodVars_none hV
  obtain ⟨A0, M0, cap0, rfl, ht0⟩ := openZ_tariff (hval 0 29 v0 rfl rfl) h0 (small_of hz (j := 0) rfl rfl)
  obtain ⟨x1, rfl, hk1, ho1, hf1⟩ := openZ_version (hval 1 26 v1 rfl rfl) h1 (small_of hz (j := 1) rfl rfl)
  obtain ⟨y2, rfl, hk'2, ho'2, hf'2⟩ := openZ_version (hval 2 26 v2 rfl rfl) h2 (small_of hz (j := 2) rfl rfl)
  refine (tariffOrder_walk W A0 M0 cap0 ht0 x1 hk1 ho1 hf1 y2 hk'2 ho'2 hf'2).mono fun e W' ⟨he, hb⟩ => ?_
  subst he
  exact ⟨_, rfl, law_post laidOut (by kernel_rfl) rfl Try.underlying4 rfl rfl hW' hb⟩

/-- THE STATEMENT. -/
theorem tariffOrder_holds : Rows.TariffOrderSaid :=
  OpenClaim.holds_of_wide 6 Try.f6 rfl rfl rfl rfl rfl rfl rfl ⟨rfl, rfl, rfl, rfl, rfl⟩ rfl rfl rfl rfl rfl (by kernel_rfl) Try.func6 (by kernel_rfl)
    (of_decide_eq_true (by kernel_rfl)) (by unfold Func.isWrapper; first | (rw [if_pos (by decide +kernel)]; kernel_rfl) | (rw [if_neg (by decide +kernel)]; exact ⟨rfl, rfl⟩))
    (fun os started H enc _ => tariffOrder_lifted os started H enc)
end Go.Proofs.Ytaboachegclaiaa
