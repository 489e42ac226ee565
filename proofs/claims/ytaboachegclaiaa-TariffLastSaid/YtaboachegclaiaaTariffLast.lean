/- TariffLast: of a tariff that is right, what is told of a day has the greatest From of those that are not behind it. -/
import Derived.Test.YtaboachegclaiaaTarR
namespace Go.Proofs.Ytaboachegclaiaa
open Go.ChangeShapes Go.WideShapes Go.ChangeAt Go.RowKit Go.BigFrame
set_option linter.unusedVariables false

set_option maxRecDepth 100000 in
set_option maxHeartbeats 4000000 in
theorem tariffLast_walk (w : World) (A : Option Addr) (M : List Vw) (cap : Nat) (ht : TIn w A cap M) (a : Int) (_wa : (Lit.int .i64 a).wf = true) (b : Int) (_wb : (Lit.int .i64 b).wf = true) :
    Calls Try.prog 7 #[.agg #[.slice A M.length cap], .int .i64 a, .int .i64 b] w fun e w' => e = .returned (.bool true) ∧ Below w.heap.size w w' := by
  have HT := hide ht
  have hmx := ht.tv.sv.le
  have hmy := ht.tv.sv.most
  unfold maxLen at hmy
  have hFA : ∀ y ∈ M, FitV y := fun y hy => (ht.ok y hy).2
  have HF := hide hFA
  clear hFA ht
  go_enter Try.func7, Try.ntmps7
  go_wp2_with fail
  cases hfe : fewB M
  · refine (few_b (w0 := w) HT.out.tv ((Below.refl _ _).alloc (Nat.le_refl _) _) ((Below.refl _ _).alloc (Nat.le_refl _) _) HF.out hfe).mono ?_
    rintro e w3 ⟨rfl, h3, _⟩
    clear hfe
    go_wp2_with fail
    refine (alive_b h3).mono ?_
    rintro e w4 ⟨rfl, h4, _⟩
    go_wp2_with fail
    go_ret
    exact ⟨rfl, h4⟩
  refine (few_b (w0 := w) HT.out.tv ((Below.refl _ _).alloc (Nat.le_refl _) _) ((Below.refl _ _).alloc (Nat.le_refl _) _) HF.out hfe).mono ?_
  rintro e w3 ⟨rfl, h3, hb3⟩
  have t0 := kept hb3 (b := w.heap.size) (o := 0) (u := .slice A M.length cap) (by simp)
  have HLM := hide (fit_allV (few_len HF.out hfe).2)
  have hm110 := (few_len HF.out hfe).1
  have htl := block_lt_of_cell t0
  have H3 := hide h3
  clear hfe hb3 h3
  go_wp2_with fail
  cases hrt : rightT (allV M)
  · refine (right_b (w0 := w) HT.out.tv H3.out H3.out rfl hrt).mono ?_
    rintro e w4 ⟨rfl, h4, _⟩
    clear hrt
    go_wp2_with fail
    refine (alive_b h4).mono ?_
    rintro e w5 ⟨rfl, h5, _⟩
    go_wp2_with fail
    go_ret
    exact ⟨rfl, h5⟩
  refine (right_b (w0 := w) HT.out.tv H3.out H3.out rfl hrt).mono ?_
  rintro e w4 ⟨rfl, h4, hb4⟩
  have t0 := kept hb4 t0
  have htl := block_lt_of_cell t0
  have H4 := hide h4
  have HRT := hide hrt
  obtain ⟨lo, hlo⟩ : ∃ z, min a b = z := ⟨_, rfl⟩
  obtain ⟨hi, hhi⟩ : ∃ z, max a b = z := ⟨_, rfl⟩
  have hlh : lo ≤ hi := by omega
  obtain ⟨m1, hm1⟩ : ∃ z, mostF (allV M) lo = z := ⟨_, rfl⟩
  obtain ⟨m2, hm2⟩ : ∃ z, mostF (allV M) hi = z := ⟨_, rfl⟩
  obtain ⟨e1, he1⟩ : ∃ z, atC (allV M) lo = z := ⟨_, rfl⟩
  obtain ⟨e2, he2⟩ : ∃ z, atC (allV M) hi = z := ⟨_, rfl⟩
  have hcs : (e1 = 7 ∧ m1 = 0 ∧ (e2 = 7 ∨ e2 = 0)) ∨ (e1 = 0 ∧ 0 < m1 ∧ e2 = 0 ∧ m1 ≤ m2) := by
    have g1 := mostF_pos (d := lo) hrt
    rw [hm1] at g1
    unfold atC at he1 he2
    cases h1 : atL (allV M) lo with
    | none =>
      rw [h1] at he1 g1
      refine .inl ⟨he1.symm, ?_, ?_⟩
      · have := g1.1; simp at this; omega
      · cases h2 : atL (allV M) hi with
        | none => rw [h2] at he2; exact .inl he2.symm
        | some y => rw [h2] at he2; exact .inr he2.symm
    | some x =>
      obtain ⟨y, hy, hxy⟩ := at_later hrt hlh h1
      rw [h1] at he1 g1
      rw [hy] at he2
      refine .inr ⟨he1.symm, g1.1.2 rfl, he2.symm, ?_⟩
      rw [← hm1, ← hm2, mostF, mostF, h1, hy]
      exact hxy
  have HCS := hide hcs
  have HM1 := hide hm1
  have HM2 := hide hm2
  have HE1 := hide he1
  have HE2 := hide he2
  have HLO := hide hlo
  have HHI := hide hhi
  clear hrt h4 hb4 H3 hcs hm1 hm2 he1 he2
  go_wp2_with fail
  refine (at_u (w0 := w) HT.out.tv H4.out H4.out rfl HLM.out HE1.out HM1.out).mono ?_
  rintro e w5 ⟨xa, rfl, hfa, hka, _, _, h5, hb5⟩
  have T5 := hide (kept hb5 t0)
  clear t0 htl
  have t0 := T5.out
  have htl := block_lt_of_cell t0
  have H5 := hide h5
  have FA := hide hfa
  clear h5 hb5 H4 hka hfa
  go_wp2_with fail
  obtain ⟨w6, hw6⟩ : ∃ W, w5.alloc (.cells #[.int .i64 xa.f, .int .i64 xa.b0, .int .i64 xa.b1, .int .i64 xa.b2, .int .i64 xa.b3, .slice xa.aA xa.age.length xa.aC, .slice xa.zA xa.zone.length xa.zC, .slice xa.pA xa.peril.length xa.pC, .int .i64 xa.mn] 26) = W := ⟨_, rfl⟩
  have hb_ : Below w5.heap.size w5 w6 := by rw [← hw6]; exact (Below.refl _ _).alloc (Nat.le_refl _) _
  have H6 := hide (chain H5.out hb_)
  have HA := hide (show Blk w6 w5.heap.size 26 (boxV xa) by rw [← hw6]; exact Blk.new _ _ _)
  rw [hw6]
  have T6 := hide (kept hb_ T5.out)
  obtain ⟨G1, hG_⟩ : ∃ G1, w5.heap.size = G1 := ⟨_, rfl⟩
  rw [hG_] at HA ⊢
  clear hw6 hG_ hb_
  refine (at_u (w0 := w) HT.out.tv H6.out H6.out rfl HLM.out HE2.out HM2.out).mono ?_
  rintro e w7 ⟨xb, rfl, hfb, hkb, _, _, h7, hb7⟩
  have T7 := hide (kept hb7 T6.out)
  clear t0 htl T5 T6
  have t0 := T7.out
  have htl := block_lt_of_cell t0
  have H7 := hide h7
  have FB := hide hfb
  have HA7 := hide (HA.out.below hb7 HA.out.lt)
  clear h7 hb7 H6 hkb hfb HA H5
  go_wp2_with fail
  obtain ⟨w8, hw8⟩ : ∃ W, w7.alloc (.cells #[.int .i64 xb.f, .int .i64 xb.b0, .int .i64 xb.b1, .int .i64 xb.b2, .int .i64 xb.b3, .slice xb.aA xb.age.length xb.aC, .slice xb.zA xb.zone.length xb.zC, .slice xb.pA xb.peril.length xb.pC, .int .i64 xb.mn] 26) = W := ⟨_, rfl⟩
  have hb_ : Below w7.heap.size w7 w8 := by rw [← hw8]; exact (Below.refl _ _).alloc (Nat.le_refl _) _
  have H8 := hide (chain H7.out hb_)
  have HB := hide (show Blk w8 w7.heap.size 26 (boxV xb) by rw [← hw8]; exact Blk.new _ _ _)
  rw [hw8]
  have T8 := hide (kept hb_ T7.out)
  have HA8 := hide (HA7.out.below hb_ HA7.out.lt)
  obtain ⟨G2, hG_⟩ : ∃ G2, w7.heap.size = G2 := ⟨_, rfl⟩
  rw [hG_] at HB ⊢
  clear hw8 hG_ hb_
  clear t0 htl T7 HA7 H7
  have t0 := T8.out
  have htl := block_lt_of_cell t0
  have a0 := HA8.out.cell 0
  have b0 := HB.out.cell 0
  simp [boxV] at a0 b0
  rw [FA.out] at a0
  rw [FB.out] at b0
  go_loopw [11, 43] (fun n q wr => ∃ k : Nat, k ≤ M.length ∧ q = .int .i64 k ∧ n = .int .i64 (mostF ((allV M).take k) lo) ∧ Below w8.heap.size w8 wr) (fun _ q _ => M.length - (RowKit.intOf q).toNat)
  case atStart => exact ⟨0, Nat.zero_le _, rfl, rfl, Below.refl _ _⟩
  case round =>
    obtain ⟨k, hk, rfl, rfl, hb⟩ := hrel
    have HBR := hide hb
    by_cases hlt : k < M.length
    · obtain ⟨x, hx⟩ := get_of hlt
      obtain ⟨bb, off, rfl, hbl, c0, c1, c2, c3, c4, c5, c6, c7, c8⟩ := (HT.out.tv.below (chain H8.out hb)).sv.sl.vw hx
      have hk0 : (0 : Int) ≤ (k : Int) := by omega
      have hk1 : (k : Int) < (M.length : Int) := by omega
      have HMT := hide (mostF_take (d := lo) HRT.out (allV_get hx))
      obtain ⟨mk, hmk⟩ : ∃ z, mostF ((allV M).take k) lo = z := ⟨_, rfl⟩
      rw [hmk] at HMT ⊢
      clear hx hb hmk t0 htl a0 b0
      by_cases hxl : x.f ≤ lo
      · obtain ⟨mx, hmx2⟩ : ∃ z, max mk x.f = z := ⟨_, rfl⟩
        have HMX := hide hmx2
        go_wp2_with fail
        go_roundw
        case rel => exact ⟨k + 1, by omega, by go_num, by rw [HMT.out, if_pos (show x.v.f ≤ lo from hxl)]; first | rfl | (rw [← HMX.out]; rfl), HBR.out.alloc HBR.out.size _⟩
        case measure => simp [RowKit.intOf]; omega
      · go_wp2_with fail
        go_roundw
        case rel => exact ⟨k + 1, by omega, by go_num, by rw [HMT.out, if_neg (show ¬ x.v.f ≤ lo from hxl)], HBR.out.alloc HBR.out.size _⟩
        case measure => simp [RowKit.intOf]; omega
    · obtain rfl : k = M.length := by omega
      have hk1 : ¬ (((M.length : Nat) : Int) < (M.length : Int)) := by omega
      rw [List.take_of_length_le (by rw [allV_len]; exact Nat.le_refl _), HM1.out]
      clear hlt t0 htl
      go_wp2_with fail
      refine (alive_b (w0 := w) (chain H8.out HBR.out)).mono ?_
      rintro e w9 ⟨rfl, h9, hb9⟩
      have a0 := kept hb9 (kept HBR.out a0)
      have b0 := kept hb9 (kept HBR.out b0)
      have hal := block_lt_of_cell a0
      have hbl := block_lt_of_cell b0
      have H9 := hide h9
      have hcs := HCS.out
      clear h9 hb9 hb
      rcases hcs with ⟨rfl, rfl, rfl | rfl⟩ | ⟨rfl, g1, rfl, g2⟩
      all_goals
        go_wp2_with fail
        go_ret
        exact ⟨rfl, H9.out⟩

theorem tariffLast_lifted (os : Os) (started : os.Started) (H : Type) (enc : TypeId × Value → H) :
    ReturnsInHanded {} Try.checked os 7 .any (Rows.tariffLastSpec.pre6 enc Try.prog Try.f7 Rows.tariffLastRow.domain false) (Rows.tariffLastSpec.post enc Try.prog Try.f7 false true false false) := by
  refine returnsInHanded_of_change_sized (C := Try.checked) own started (by kernel_rfl) Try.func7
    (ChangeSpec.witness6 (enc := enc) (C := Try.checked) false ⟨#[], #[.agg #[.slice none 0 0], .int .i64 0, .int .i64 0], []⟩ 8 (by kernel_rfl) (by kernel_rfl) (by kernel_rfl) (by kernel_rfl)) ?_
  intro W base args ds gs before hval0 hW hcnd hz0 _
  have hval : ∀ (j : Nat) t v, Try.f7.params[j]? = some t → args[j]? = some v → Value.okWide Try.prog W .any base t v := hval0
  have hW' := hW
  obtain ⟨p, q, hA0, hV, rfl, hfz, hnd⟩ := hW
  have hA : DataW.TrodAll enc Try.prog W 0 (fun _ => true) true Try.f7.params.toList args.toList ds p := hA0
  rw [Try.params7] at hA hval
  have hz := hz0
  rw [Try.params7] at hz
  obtain ⟨v0, vs0, d0, ds0, p0, q0, hargs, rfl, rfl, h0, r0⟩ := trodAll_cons hA
  obtain ⟨v1, vs1, d1, ds1, p1, q1, rfl, rfl, rfl, h1, r1⟩ := trodAll_cons r0
  obtain ⟨v2, vs2, d2, ds2, p2, q2, rfl, rfl, rfl, h2, r2⟩ := trodAll_cons r1
  obtain ⟨rfl, rfl, rfl⟩ := trodAll_nil r2
  obtain rfl : args = #[v0, v1, v2] := by cases args; simp_all
  obtain ⟨rfl, rfl⟩ := trodVars_none hV
  obtain ⟨A0, M0, cap0, rfl, ht0⟩ := openZ_tariff (hval 0 29 v0 rfl rfl) h0 (small_of hz (j := 0) rfl rfl)
  obtain ⟨x1, rfl, rfl, rfl, wx1⟩ := open_int Try.underlying3 (hval 1 3 v1 rfl rfl) h1
  obtain ⟨x2, rfl, rfl, rfl, wx2⟩ := open_int Try.underlying3 (hval 2 3 v2 rfl rfl) h2
  refine (tariffLast_walk W A0 M0 cap0 ht0 x1 wx1 x2 wx2).mono fun e W' ⟨he, hb⟩ => ?_
  subst he
  exact ⟨_, rfl, law_post laidOut (by kernel_rfl) rfl Try.underlying4 rfl rfl hW' hb⟩

/-- THE STATEMENT. -/
theorem tariffLast_holds : Rows.TariffLastSaid :=
  OpenClaim.holds_of_wide 7 Try.f7 rfl rfl rfl rfl rfl rfl rfl ⟨rfl, rfl, rfl, rfl, rfl⟩ rfl rfl rfl rfl rfl (by kernel_rfl) Try.func7 (by kernel_rfl)
    (of_decide_eq_true (by kernel_rfl)) (by unfold Func.isWrapper; first | (rw [if_pos (by decide +kernel)]; kernel_rfl) | (rw [if_neg (by decide +kernel)]; exact ⟨rfl, rfl⟩))
    (fun os started H enc _ => tariffLast_lifted os started H enc)
end Go.Proofs.Ytaboachegclaiaa
