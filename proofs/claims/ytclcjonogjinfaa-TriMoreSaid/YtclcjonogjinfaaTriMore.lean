/- TriMore: one row more, of years that the triangle has, is one amount put. -/
import Derived.Test.YtclcjonogjinfaaTriT
namespace Go.Proofs.Ytclcjonogjinfaa
open Go.ChangeShapes Go.WideShapes Go.ChangeAt Go.RowKit
set_option linter.unusedVariables false

set_option maxRecDepth 100000 in
set_option maxHeartbeats 4000000 in
theorem triMore_walk (w : World) (A : Option Addr) (l : List R3) (cap : Nat) (hs : SV w 3 A l.length cap (l.map enc3)) (_ho : ∀ x ∈ l, ok3 x) (x : R3) (_hx : ok3 x) :
    Calls Try.prog 8 #[.slice A l.length cap, .agg #[.int .i64 x.a, .int .i64 x.b, .int .i64 x.m]] w fun e w' => e = .returned (.bool true) ∧ Below w.heap.size w w' := by
  go_enter Try.func8, Try.ntmps8
  have HS := hide hs
  have hmo := hs.most
  have hle := hs.le
  have hnl := hs.nil
  unfold maxLen at hmo
  clear hs
  obtain ⟨wx, hwx⟩ : ∃ W, w.alloc (.cells #[.int .i64 x.a, .int .i64 x.b, .int .i64 x.m] 36) = W := ⟨_, rfl⟩
  have hX0 : Blk wx w.heap.size 36 #[.int .i64 x.a, .int .i64 x.b, .int .i64 x.m] := by rw [← hwx]; exact Blk.new _ _ _
  have h0 : Below w.heap.size w wx := by rw [← hwx]; exact (Below.refl _ _).alloc (Nat.le_refl _) _
  by_cases hfw : l.length ≤ 200
  case neg =>
    have hfd : decide (l.length ≤ 200) = false := by simp; omega
    have H0 := hide h0
    clear hX0 h0
    have HWX := hide hwx
    clear hwx
    go_wp2_with fail
    refine (few_any A l.length cap _ (by omega)).mono ?_
    rintro e w1 ⟨rfl, rfl⟩
    rw [hfd, HWX.out]
    go_wp2_with fail
    refine (alive_b H0.out).mono ?_
    rintro e w2 ⟨rfl, h2, hb2⟩
    go_wp2_with fail
    go_ret
    exact ⟨rfl, h2⟩
  have hfd : decide (l.length ≤ 200) = true := by simp; omega
  have HX0 := hide hX0
  have H0 := hide h0
  have HWX := hide hwx
  clear hX0 h0 hwx
  go_wp2_with fail
  refine (few_any A l.length cap _ (by omega)).mono ?_
  rintro e w1 ⟨rfl, rfl⟩
  rw [hfd, HWX.out]
  clear hfd HWX
  obtain ⟨E1, hE⟩ : ∃ E, ofE l = E := ⟨_, rfl⟩
  obtain ⟨F1, hF⟩ : ∃ E, ofF l = E := ⟨_, rfl⟩
  obtain ⟨C1, hC⟩ : ∃ E, ofM l = E := ⟨_, rfl⟩
  obtain ⟨m1, hm⟩ : ∃ E, C1.length = E := ⟨_, rfl⟩
  have hm201 : m1 ≤ 20 := by rw [← hm, ← hC]; exact ofM_len
  have hok1 : ok64 F1 := by rw [← hF]; exact ofF_ok
  have HE1 := hide hE
  have HF1 := hide hF
  have HC1 := hide hC
  have HM1 := hide hm
  clear hE hF hC hm
  go_wp2_with fail
  refine (of_g HS.out H0.out HE1.out HF1.out HC1.out HM1.out).mono ?_
  rintro e w1 ⟨A1, c1, R1, rfl, hmv, hR, _, h1, hb1⟩
  have hX1 := HX0.out.below hb1 HX0.out.lt
  have HMV := hide hmv
  have HR1 := hide hR
  have HX1 := hide hX1
  have H1 := hide h1
  clear hmv hR h1 hb1 hX1 HX0 H0
  go_upto_region 4 with fail
  obtain ⟨w2, hw2⟩ : ∃ W, w1.alloc (.cells #[.int .i64 F1, .slice A1 m1 c1] 24) = W := ⟨_, rfl⟩
  have hB : Blk w2 w1.heap.size 24 #[.int .i64 F1, .slice A1 m1 c1] := by rw [← hw2]; exact Blk.new _ _ _
  have h2 : Below w1.heap.size w1 w2 := by rw [← hw2]; exact (Below.refl _ _).alloc (Nat.le_refl _) _
  rw [hw2]
  obtain ⟨X, hX⟩ : ∃ X, w1.heap.size = X := ⟨_, rfl⟩
  rw [hX] at hB ⊢
  have HB := hide hB
  have HV2 := hide (HMV.out.below h2)
  have H2 := hide (chain H1.out h2)
  have HX2 := hide (HX1.out.below h2 HX1.out.lt)
  clear hw2 hB h2 hX HMV H1 HX1
  have HS2 := hide (HS.out.below H2.out)
  have x0 := HX2.out.cell 0
  have x1 := HX2.out.cell 1
  have x2 := HX2.out.cell 2
  simp at x0 x1 x2
  have xl := HX2.out.lt
  obtain ⟨E2, hE⟩ : ∃ E, ofE (l ++ [x]) = E := ⟨_, rfl⟩
  obtain ⟨F2, hF⟩ : ∃ E, ofF (l ++ [x]) = E := ⟨_, rfl⟩
  obtain ⟨C2, hC⟩ : ∃ E, ofM (l ++ [x]) = E := ⟨_, rfl⟩
  obtain ⟨m2, hm⟩ : ∃ E, C2.length = E := ⟨_, rfl⟩
  have hm202 : m2 ≤ 20 := by rw [← hm, ← hC]; exact ofM_len
  have hok2 : ok64 F2 := by rw [← hF]; exact ofF_ok
  have HE2 := hide hE
  have HF2 := hide hF
  have HC2 := hide hC
  have HM2 := hide hm
  clear hE hF hC hm
  go_cut [7, 8] from 22 to 34 (fun t u wx => TurnRel w2 F2 C2 m2 E2 t u wx)
  case first =>
    go_region_law (first
      | (refine step_app_new rfl (.tmp 28) (.tmp 30) 30 rfl el3 (rows := l.map enc3) (news := [x].map enc3) rfl ?_ (by simp) (ok_rows3 _) ?_ rfl rfl ?_ (ok_rows3 _) ?_ ?_ ?_ ?_
         · exact (HS2.out.sl.below (by repeat (first | exact Below.refl _ _ | refine Below.drew ?_ | refine Below.alloc ?_ (by simp) _))).more (by simp; try omega)
         · exact fun h => by have := hnl h; omega
         · first | exact sl_of_blk (cs := #[.int .i64 x.a, .int .i64 x.b, .int .i64 x.m]) (Blk.drew (Blk.new' (by simp))) | exact sl_of_blk (cs := #[.int .i64 x.a, .int .i64 x.b, .int .i64 x.m]) (Blk.drew ((Blk.new' (by simp)).alloc _))
         · omega
         · (simp only [maxLen]; omega)
         · omega
         intro A3 c3 wb ho2 hg2
         have hbb : Below w2.heap.size w2 wb := Below.grown (by repeat (first | exact Below.refl _ _ | refine Below.drew ?_ | refine Below.alloc ?_ (by simp) _)) hg2 (by simp; try omega) (fun k hk => by cases hk)
         first
           | have hy2 := Blk.grown (Blk.drew (Blk.alloc (Blk.new w2 24 #[.int .i64 0, .slice none 0 0]) _)) hg2 (by simp)
           | have hy2 := Blk.grown (Blk.drew (Blk.new (w2.alloc (.cells #[.int .i64 x.a, .int .i64 x.b, .int .i64 x.m] 36)) 24 #[.int .i64 0, .slice none 0 0])) hg2 (by simp)
           | skip)
      | (go_simp
         go_at_call 17
         have hs3 : SV wb 3 A3 (l.length + 1) c3 ((l ++ [x]).map enc3) := by rw [List.map_append]; exact ho2.sv
         refine (of_g (w0 := wb) hs3 (by first | exact Below.refl _ _ | exact (Below.refl _ _).alloc (Nat.le_refl _) _) HE2.out HF2.out HC2.out HM2.out).mono ?_
         rintro e wc ⟨A4, c4, R4, rfl, hmv4, hR4, hfr4, hbc, hbd⟩
         have hbe : Below w2.heap.size w2 wc := hbb.trans (hbc.mono hbb.size)
         first
           | have hy3 := Blk.below hy2 hbc hy2.lt
           | have hy3 := Blk.below (Blk.new wb 24 #[.int .i64 0, .slice none 0 0]) hbd (by simp)
           | skip
         first
           | (have d0 := hy3.cell 0
              have d1 := hy3.cell 1
              have v0 := hy3.frozen 0
              have v1 := hy3.frozen 1
              have hyl := hy2.lt
              simp at d0 d1 v0 v1 hyl)
           | (have d0 := hy3.cell 0
              have d1 := hy3.cell 1
              have v0 := hy3.frozen 0
              have v1 := hy3.frozen 1
              have hyl := hy3.lt
              simp at d0 d1 v0 v1 hyl)
           | skip
         dsimp only))
    all_goals
      have HFR := hide hfr4
      have hs2 := hbb.size
      have HMV4 := hide hmv4
      have HBE := hide hbe
      clear hmv4 hbe hbc hbd hg2 ho2 hfr4 hs3
      go_wp2_with fail
      go_meet
      first
        | exact ⟨_, A4, c4, R4, rfl, rfl, Blk.new _ _ _, HMV4.out.below ((Below.refl _ _).alloc (Nat.le_refl _) _), hR4, HBE.out.alloc HBE.out.size _⟩
        | exact ⟨_, A4, c4, R4, rfl, rfl, (Blk.drew (Blk.new _ _ _)), HMV4.out.below ((Below.refl _ _).alloc (Nat.le_refl _) _).drew, hR4, (HBE.out.alloc HBE.out.size _).drew⟩
        | (refine ⟨_, A4, c4, R4, rfl, rfl, ?_, ?_, hR4, ?_⟩
           · have := (hy3.set_ 0 (.int .i64 F2)).set_ 1 (.slice A4 m2 c4)
             simpa using this
           · refine (HMV4.out.far (fun kk hk he => ?_) (fun r hr kk hk he => ?_) _).far (fun kk hk he => ?_) (fun r hr kk hk he => ?_) _
             · have h9 := HFR.out.1 kk hk
               simp at he
               try simp at h9
               omega
             · have h9 := HFR.out.2 r hr kk hk
               simp at he
               try simp at h9
               omega
             · have h9 := HFR.out.1 kk hk
               simp at he
               try simp at h9
               omega
             · have h9 := HFR.out.2 r hr kk hk
               simp at he
               try simp at h9
               omega
           · refine (HBE.out.setCell ?_ _).setCell ?_ _
             · simp only
               omega
             · simp only
               omega)
  case rest =>
    obtain ⟨Y, A4, c4, R4, rfl, rfl, hY, hmv4, hR4, hb4⟩ := hcut
    have hp := HB.out.below hb4 HB.out.lt
    have hx4 := HX2.out.below hb4 HX2.out.lt
    have x0 := hx4.cell 0
    have x1 := hx4.cell 1
    have x2 := hx4.cell 2
    have p0 := hp.cell 0
    have p1 := hp.cell 1
    have y0 := hY.cell 0
    have y1 := hY.cell 1
    simp at x0 x1 x2 p0 p1 y0 y1
    have hpl := hp.lt
    have hxl := hx4.lt
    have hyl := hY.lt
    have H4 := hide (chain H2.out hb4)
    have HV4 := hide (HV2.out.below hb4)
    have HMV4 := hide hmv4
    have HP4 := hide hp
    have HX4 := hide hx4
    have HY4 := hide hY
    have HR4 := hide hR4
    clear hb4 hp hx4 hY hmv4 hR4 HV2 HX2 HB HS2 H2 xl
    by_cases hg : E1 = 0 ∧ E2 = 0 ∧ F2 = F1 ∧ m2 = m1
    case neg =>
      rcases (show E1 ≠ 0 ∨ (E1 = 0 ∧ E2 ≠ 0) ∨ (E1 = 0 ∧ E2 = 0 ∧ F2 ≠ F1) ∨ (E1 = 0 ∧ E2 = 0 ∧ F2 = F1 ∧ m2 ≠ m1) by omega) with g1 | ⟨rfl, g1⟩ | ⟨rfl, rfl, g1⟩ | ⟨rfl, rfl, rfl, g1⟩
      · have g2 : (E1 != 0) = true := by simp; exact g1
        clear hg g1
        go_wp2_with fail
        refine (alive_b H4.out).mono ?_
        rintro e w5 ⟨rfl, h5, hb5⟩
        go_wp2_with fail
        go_ret
        exact ⟨rfl, h5⟩
      · have g2 : (E2 != 0) = true := by simp; exact g1
        clear hg g1
        go_wp2_with fail
        refine (alive_b H4.out).mono ?_
        rintro e w5 ⟨rfl, h5, hb5⟩
        go_wp2_with fail
        go_ret
        exact ⟨rfl, h5⟩
      · have g2 : (F2 != F1) = true := by simp; exact g1
        clear hg g1
        go_wp2_with fail
        refine (alive_b H4.out).mono ?_
        rintro e w5 ⟨rfl, h5, hb5⟩
        go_wp2_with fail
        go_ret
        exact ⟨rfl, h5⟩
      · have g2 : ((m2 : Int) != (m1 : Int)) = true := by simp; omega
        clear hg g1
        go_wp2_with fail
        refine (alive_b H4.out).mono ?_
        rintro e w5 ⟨rfl, h5, hb5⟩
        go_wp2_with fail
        go_ret
        exact ⟨rfl, h5⟩
    obtain ⟨rfl, rfl, rfl, rfl⟩ := hg
    have q1 := HF1.out
    have q2 := HF2.out
    have q3 := HC1.out
    have q4 := HC2.out
    rw [ofF, if_pos HE1.out] at q1
    rw [ofF, if_pos HE2.out] at q2
    rw [ofM, if_pos HE1.out] at q3
    rw [ofM, if_pos HE2.out] at q4
    have hone := more_one HE1.out HE2.out (by rw [q1, q2]) (by rw [q3, q4, HM1.out, HM2.out])
    rw [q1, q3, q4] at hone
    obtain ⟨k1, k2, k3, k4, k5, k6⟩ := hone
    obtain ⟨C3, hC3⟩ : ∃ E, ofC [x] = E := ⟨_, rfl⟩
    obtain ⟨m3, hm3⟩ : ∃ E, C3.length = E := ⟨_, rfl⟩
    obtain ⟨y, hy⟩ : ∃ E, yrV x.a = E := ⟨_, rfl⟩
    obtain ⟨d, hd⟩ : ∃ E, devO x = E := ⟨_, rfl⟩
    rw [hC3, hm3] at k3 k4
    rw [hy] at k2 k5 k6
    rw [hd] at k4 k5 k6
    have hm32 : m3 ≤ 20 := by
      rw [← hm3, ← hC3]
      obtain ⟨_, _, _, _, _, _, h20, _, _, h21⟩ := made k1
      omega
    have g1 : ((m3 : Int) == 0) = false := by simp; omega
    have K1 := hide k1
    have K2 := hide k2
    have K5 := hide k5
    have K6 := hide k6
    have HC3 := hide hC3
    have HM3 := hide hm3
    clear q1 q2 q3 q4 k1 k2 k5 k6 hC3 hm3 hy hd
    go_wp2_with fail
    refine (of_yes (lit_sv wc [x] (by simp) #[.int .i64 x.a, .int .i64 x.b, .int .i64 x.m] rfl) (Below.refl _ _) K1.out K2.out HC3.out HM3.out).mono ?_
    rintro e w5 ⟨A5, c5, R5, rfl, _, _, _, hb5, _⟩
    have hb5' : Below wc.heap.size wc w5 := chain1 hb5
    have hp := HP4.out.below hb5' HP4.out.lt
    have hx4 := HX4.out.below hb5' HX4.out.lt
    have hY := HY4.out.below hb5' HY4.out.lt
    have x0 := hx4.cell 0
    have x1 := hx4.cell 1
    have x2 := hx4.cell 2
    have p0 := hp.cell 0
    have p1 := hp.cell 1
    have y0 := hY.cell 0
    have y1 := hY.cell 1
    simp at x0 x1 x2 p0 p1 y0 y1
    have hpl := hp.lt
    have hxl := hx4.lt
    have hyl := hY.lt
    have H5 := hide (chain H4.out hb5')
    have HV5 := hide (HV4.out.below hb5')
    have HW5 := hide (HMV4.out.below hb5')
    have HY5 := hide hY
    clear hb5 hb5' hp hx4 hY HV4 HMV4 HP4 HX4 HY4 H4
    go_wp2_with fail
    refine (put_b HV5.out ((Below.refl w5.heap.size w5).alloc (Nat.le_refl _) _) hok1 (by rw [HR1.out]; exact K5.out) (by rw [HR1.out]; exact K6.out) HM2.out).mono ?_
    rintro e w6 ⟨A6, c6, R6, rfl, hmv6, hR6, _, hb6, _⟩
    have HY6 := hide (HY5.out.below hb6 HY5.out.lt)
    have H6 := hide (chain H5.out hb6)
    have HW6 := hide (HW5.out.below hb6)
    have HMV6 := hide hmv6
    have HR6 := hide (HR4.out.trans hR6.symm)
    clear hb6 hmv6 hR6 HY5 H5 HW5 HV5 x0 x1 x2 p0 p1 y0 y1
    go_wp2_with fail
    refine (alive_b (H6.out.alloc H6.out.size _)).mono ?_
    rintro e w7 ⟨rfl, h7, hb7⟩
    have hz := Blk.below (Blk.new w6 24 #[.int .i64 F2, .slice A6 m2 c6]) hb7 (by simp)
    have hY := (HY6.out.alloc (.cells #[.int .i64 F2, .slice A6 m2 c6] 24)).below hb7 (by have := HY6.out.lt; simp; omega)
    have z0 := hz.cell 0
    have z1 := hz.cell 1
    have y0 := hY.cell 0
    have y1 := hY.cell 1
    simp at z0 z1 y0 y1
    have hb76 : Below w6.heap.size w6 w7 := chain1 hb7
    have HW7 := hide (HW6.out.below hb76)
    have HN7 := hide (HMV6.out.below hb76)
    clear hb7 hz hY hb76 HY6 HW6 HMV6
    go_wp2_with fail
    refine (sameT_any F2 A4 A6 m2 c4 c6 R4 R6 _ HW7.out HN7.out HR6.out (by omega)).mono ?_
    rintro e w8 ⟨rfl, hb8⟩
    go_wp2_with fail
    go_ret
    exact ⟨rfl, chain h7 hb8⟩

theorem triMore_lifted (os : Os) (started : os.Started) (H : Type) (enc : TypeId × Value → H) :
    ReturnsInHanded {} Try.checked os 8 .any (Rows.triMoreSpec.pre6 enc Try.prog Try.f8 Rows.triMoreRow.domain false) (Rows.triMoreSpec.post enc Try.prog Try.f8 false true false false) := by
  refine returnsInHanded_of_change (C := Try.checked) own started (by kernel_rfl) Try.func8
    (ChangeSpec.witness6 (enc := enc) (C := Try.checked) false ⟨#[], #[.slice none 0 0, .agg #[.int .i64 0, .int .i64 0, .int .i64 0]], []⟩ 8 (by kernel_rfl) (by kernel_rfl) (by kernel_rfl) (by kernel_rfl)) ?_
  intro W base args ds gs before hval0 hW hcnd _
  have hval : ∀ (j : Nat) t v, Try.f8.params[j]? = some t → args[j]? = some v → Value.okWide Try.prog W .any base t v := hval0
  have hW' := hW
  obtain ⟨p, q, hA0, hV, rfl, hfz, hnd⟩ := hW
  have hA : DataW.TrodAll enc Try.prog W 0 (fun _ => true) true Try.f8.params.toList args.toList ds p := hA0
  rw [Try.params8] at hA hval
  obtain ⟨v0, vs0, d0, ds0, p0, q0, hargs, rfl, rfl, h0, r0⟩ := trodAll_cons hA
  obtain ⟨v1, vs1, d1, ds1, p1, q1, rfl, rfl, rfl, h1, r1⟩ := trodAll_cons r0
  obtain ⟨rfl, rfl, rfl⟩ := trodAll_nil r1
  obtain rfl : args = #[v0, v1] := by cases args; simp_all
  obtain ⟨rfl, rfl⟩ := trodVars_none hV
  obtain ⟨A0, l0, p0, rfl, hs0, ho0⟩ := open_r3s (hval 0 30 v0 rfl rfl) h0
  obtain ⟨x1, rfl, hx1⟩ := open_r3 (hval 1 36 v1 rfl rfl) h1
  refine (triMore_walk W A0 l0 p0 hs0 ho0 x1 hx1).mono fun e W' ⟨he, hb⟩ => ?_
  subst he
  exact ⟨_, rfl, law_post laidOut (by kernel_rfl) rfl Try.underlying4 rfl rfl hW' hb⟩

/-- THE STATEMENT. -/
theorem triMore_holds : Rows.TriMoreSaid :=
  OpenClaim.holds_of_wide 8 Try.f8 rfl rfl rfl rfl rfl rfl rfl ⟨rfl, rfl, rfl, rfl, rfl⟩ rfl rfl rfl rfl rfl (by kernel_rfl) Try.func8 (by kernel_rfl)
    (of_decide_eq_true (by kernel_rfl)) (by unfold Func.isWrapper; first | (rw [if_pos (by decide +kernel)]; kernel_rfl) | (rw [if_neg (by decide +kernel)]; exact ⟨rfl, rfl⟩))
    (fun os started H enc _ => triMore_lifted os started H enc)
end Go.Proofs.Ytclcjonogjinfaa
