/- TariffVersions: which versions may be, and which tariffs, is what the document says. -/
import Derived.Test.YtaboachegclaiaaTarQ
namespace Go.Proofs.Ytaboachegclaiaa
open Go.ChangeShapes Go.WideShapes Go.ChangeAt Go.RowKit Go.BigFrame
set_option linter.unusedVariables false

set_option maxRecDepth 100000 in
set_option maxHeartbeats 4000000 in
theorem tariffVersions_walk (w : World) (x : Vw) (hk : VOK w x) (ho : okVw x) (hf : FitV x) (A : Option Addr) (M : List Vw) (cap : Nat) (ht : TIn w A cap M) :
    Calls Try.prog 3 #[.agg #[.int .i64 x.f, .int .i64 x.b0, .int .i64 x.b1, .int .i64 x.b2, .int .i64 x.b3, .slice x.aA x.age.length x.aC, .slice x.zA x.zone.length x.zC, .slice x.pA x.peril.length x.pC, .int .i64 x.mn], .agg #[.slice A M.length cap]] w fun e w' => e = .returned (.bool true) ∧ Below w.heap.size w w' := by
  have HT := hide ht
  have HK := hide hk
  have hmx := ht.tv.sv.le
  have hmy := ht.tv.sv.most
  unfold maxLen at hmy
  have hrm := ht.room
  have hFA : ∀ y ∈ [x] ++ M, FitV y := fun y hy => by
    rcases List.mem_cons.1 hy with h | h
    · subst h; exact hf
    · exact (ht.ok y h).2
  have HF := hide hFA
  obtain ⟨w1, hw1⟩ : ∃ W, ((w.alloc (.cells #[.int .i64 x.f, .int .i64 x.b0, .int .i64 x.b1, .int .i64 x.b2, .int .i64 x.b3, .slice x.aA x.age.length x.aC, .slice x.zA x.zone.length x.zC, .slice x.pA x.peril.length x.pC, .int .i64 x.mn] 26)).alloc (.cells #[.slice A M.length cap] 29)).alloc (.cells #[.int .i64 x.f, .int .i64 x.b0, .int .i64 x.b1, .int .i64 x.b2, .int .i64 x.b3, .slice x.aA x.age.length x.aC, .slice x.zA x.zone.length x.zC, .slice x.pA x.peril.length x.pC, .int .i64 x.mn] 26) = W := ⟨_, rfl⟩
  have hV1 : Blk w1 (w.heap.size) 26 (boxV x) := by rw [← hw1]; exact ((Blk.new _ _ _).alloc _).alloc _
  have hT1 : Blk w1 (w.heap.size + 1) 29 #[.slice A M.length cap] := by rw [← hw1]; exact (Blk.new' (by simp)).alloc _
  have h1 : Below w.heap.size w w1 := by rw [← hw1]; exact (((Below.refl _ _).alloc (Nat.le_refl _) _).alloc (by simp) _).alloc (by simp; omega) _
  have hown : OwnS w1 w.heap.size 26 9 (some ⟨w.heap.size + 1 + 1, 0, none⟩) 1 1 ([x].map encV) := by
    have h := OwnS.lit ((w.alloc (.cells #[.int .i64 x.f, .int .i64 x.b0, .int .i64 x.b1, .int .i64 x.b2, .int .i64 x.b3, .slice x.aA x.age.length x.aC, .slice x.zA x.zone.length x.zC, .slice x.pA x.peril.length x.pC, .int .i64 x.mn] 26)).alloc (.cells #[.slice A M.length cap] 29)) (B := w.heap.size) (by simp; omega) 26 ([x].map encV) (okVs [x]) (by simp [maxLen]) (boxV x) rfl
    simp only [World.size_alloc] at h
    rw [← hw1]
    exact h
  have HW1 := hide hw1
  have HO := hide hown
  have HB := hide h1
  have HV1 := hide hV1
  have HT1 := hide hT1
  clear hw1 hown h1 hV1 hT1 hFA ht hk hf
  go_enter Try.func3, Try.ntmps3
  go_wp2_with (at_builtin
               rw [HW1.out]
               refine wpList_app rfl (.tmp 6) (.tmp 8) 27 rfl elVer (B := w.heap.size) (news := M.map encV) rfl HO.out rfl (List.length_map _) ((HT.out.tv.sv.sl.below HB.out).more HB.out.size) (okVs M) ?_ ?_ HB.out.size ?_
               · simp only [maxLen]; omega
               · omega
               intro A2 q2 w2 ho2 hg2 _)
  obtain ⟨tv2, h2⟩ := cons_tv HT.out.tv (N := [x]) (fun z hz => by simp at hz; subst hz; exact HK.out) HB.out ho2 hg2 (by simp only; omega)
  have hV2 := HV1.out.grown hg2 (by simp [blk]; try omega)
  have hT2 := HT1.out.grown hg2 (by simp [blk]; try omega)
  clear HO HB HV1 HT1 HW1 ho2 hg2
  have HTV2 := hide tv2
  have HV2 := hide hV2
  have HT2 := hide hT2
  have H2 := hide h2
  clear tv2 hV2 hT2 h2
  cases hfe : fewB ([x] ++ M)
  · refine (few_b (w0 := w) HTV2.out (Below.refl _ _) H2.out HF.out hfe).mono ?_
    rintro e w3 ⟨rfl, h3, _⟩
    clear hfe
    go_wp2_with fail
    refine (alive_b h3).mono ?_
    rintro e w4 ⟨rfl, h4, _⟩
    go_wp2_with fail
    go_ret
    exact ⟨rfl, h4⟩
  refine (few_b (w0 := w) HTV2.out (Below.refl _ _) H2.out HF.out hfe).mono ?_
  rintro e w3 ⟨rfl, h3, hb3⟩
  have hV3 := HV2.out.below hb3 HV2.out.lt
  have hT3 := HT2.out.below hb3 HT2.out.lt
  obtain ⟨hm110, hlx, hlM⟩ := few_cons HF.out hfe
  obtain ⟨c0, c1, c2, c3, c4, c5, c6, c7, c8⟩ := blk_cells hV3
  have t0 := hT3.cell 0
  simp at t0
  have hvl := hV3.lt
  have htl := hT3.lt
  have HV3 := hide hV3
  have HT3 := hide hT3
  have H3 := hide h3
  have HLX := hide hlx
  have HLM := hide hlM
  clear HTV2 HV2 HT2 H2 hb3 hV3 hT3 h3 hfe hlx hlM
  obtain ⟨vx, hvx⟩ : ∃ b, versionB x.v = b := ⟨_, rfl⟩
  obtain ⟨rt, hrt⟩ : ∃ b, rightT (allV M) = b := ⟨_, rfl⟩
  have HVX := hide hvx
  have HRT := hide hrt
  have HK3 := hide (HK.out.below H3.out)
  have HTM3 := hide (HT.out.tv.below H3.out)
  clear hvx hrt
  go_wp2_with fail
  refine wp_region_class (fun W => Below w3.heap.size w3 W) (by kernel_rfl) (by kernel_rfl) (Below.refl _ _).drew ?_
  repeat (first
    | go_big_quiet_skip
    | (go_big_quiet_want
       first
         | (go_big_quiet_op
            go_big_quiet_on)
         | (refine quiet_call (v := .bool true) (f := 9) (args := #[]) ?_ ?_ ?_
            · intro W hW
              have c0 := kept hW c0
              have c1 := kept hW c1
              have c2 := kept hW c2
              have c3 := kept hW c3
              have c4 := kept hW c4
              have c5 := kept hW c5
              have c6 := kept hW c6
              have c7 := kept hW c7
              have c8 := kept hW c8
              have t0 := kept hW t0
              clear hW
              go_simp
              done
            · intro W hW
              exact (alive_b hW).mono fun _ _ ⟨a, b, _⟩ => ⟨a, b⟩
            simp only [Act.put, List.setIfInBounds_toArray, List.set_cons_zero, List.set_cons_succ]
            go_big_quiet_on)
         | (refine quiet_call (v := .bool vx) (f := 10) (args := #[.agg #[.int .i64 x.f, .int .i64 x.b0, .int .i64 x.b1, .int .i64 x.b2, .int .i64 x.b3, .slice x.aA x.age.length x.aC, .slice x.zA x.zone.length x.zC, .slice x.pA x.peril.length x.pC, .int .i64 x.mn]]) ?_ ?_ ?_
            · intro W hW
              have c0 := kept hW c0
              have c1 := kept hW c1
              have c2 := kept hW c2
              have c3 := kept hW c3
              have c4 := kept hW c4
              have c5 := kept hW c5
              have c6 := kept hW c6
              have c7 := kept hW c7
              have c8 := kept hW c8
              have t0 := kept hW t0
              clear hW
              go_simp
              done
            · intro W hW
              exact (version_b HK3.out hW hW HVX.out).mono fun _ _ ⟨a, b, _⟩ => ⟨a, b⟩
            simp only [Act.put, List.setIfInBounds_toArray, List.set_cons_zero, List.set_cons_succ]
            go_big_quiet_on)
         | (refine quiet_call (v := .bool vx) (f := 11) (args := #[.agg #[.int .i64 x.f, .int .i64 x.b0, .int .i64 x.b1, .int .i64 x.b2, .int .i64 x.b3, .slice x.aA x.age.length x.aC, .slice x.zA x.zone.length x.zC, .slice x.pA x.peril.length x.pC, .int .i64 x.mn]]) ?_ ?_ ?_
            · intro W hW
              have c0 := kept hW c0
              have c1 := kept hW c1
              have c2 := kept hW c2
              have c3 := kept hW c3
              have c4 := kept hW c4
              have c5 := kept hW c5
              have c6 := kept hW c6
              have c7 := kept hW c7
              have c8 := kept hW c8
              have t0 := kept hW t0
              clear hW
              go_simp
              done
            · intro W hW
              exact (versionR_b HK3.out hW hW HVX.out).mono fun _ _ ⟨a, b, _⟩ => ⟨a, b⟩
            simp only [Act.put, List.setIfInBounds_toArray, List.set_cons_zero, List.set_cons_succ]
            go_big_quiet_on)
         | (refine quiet_call (v := .bool rt) (f := 12) (args := #[.agg #[.slice A M.length cap]]) ?_ ?_ ?_
            · intro W hW
              have c0 := kept hW c0
              have c1 := kept hW c1
              have c2 := kept hW c2
              have c3 := kept hW c3
              have c4 := kept hW c4
              have c5 := kept hW c5
              have c6 := kept hW c6
              have c7 := kept hW c7
              have c8 := kept hW c8
              have t0 := kept hW t0
              clear hW
              go_simp
              done
            · intro W hW
              exact (right_b HTM3.out hW hW rfl HRT.out).mono fun _ _ ⟨a, b, _⟩ => ⟨a, b⟩
            simp only [Act.put, List.setIfInBounds_toArray, List.set_cons_zero, List.set_cons_succ]
            go_big_quiet_on)
         | (refine quiet_call (v := .bool rt) (f := 13) (args := #[.agg #[.slice A M.length cap]]) ?_ ?_ ?_
            · intro W hW
              have c0 := kept hW c0
              have c1 := kept hW c1
              have c2 := kept hW c2
              have c3 := kept hW c3
              have c4 := kept hW c4
              have c5 := kept hW c5
              have c6 := kept hW c6
              have c7 := kept hW c7
              have c8 := kept hW c8
              have t0 := kept hW t0
              clear hW
              go_simp
              done
            · intro W hW
              exact (rightR_b HTM3.out hW hW (fun y hy => (HT.out.ok y hy).1) rfl HRT.out).mono fun _ _ ⟨a, b, _⟩ => ⟨a, b⟩
            simp only [Act.put, List.setIfInBounds_toArray, List.set_cons_zero, List.set_cons_succ]
            go_big_quiet_on)
         | (refine quiet_yield (v := ?_) ?_ ?_
            rotate_left
            · intro W hW
              have c0 := kept hW c0
              have c1 := kept hW c1
              have c2 := kept hW c2
              have c3 := kept hW c3
              have c4 := kept hW c4
              have c5 := kept hW c5
              have c6 := kept hW c6
              have c7 := kept hW c7
              have c8 := kept hW c8
              have t0 := kept hW t0
              clear hW
              go_simp
              try with_reducible rfl
            simp only [Act.put, List.setIfInBounds_toArray, List.set_cons_zero, List.set_cons_succ]
            go_big_quiet_on)))
  refine wpQuiet_nil ?_
  intro W hW
  have H4 := hide (chain H3.out hW)
  clear c0 c1 c2 c3 c4 c5 c6 c7 c8 t0 hW
  go_wp2_with fail
  go_ret
  exact ⟨rfl, H4.out⟩

theorem tariffVersions_lifted (os : Os) (started : os.Started) (H : Type) (enc : TypeId × Value → H) :
    ReturnsInHanded {} Try.checked os 3 .any (Rows.tariffVersionsSpec.pre6 enc Try.prog Try.f3 Rows.tariffVersionsRow.domain false) (Rows.tariffVersionsSpec.post enc Try.prog Try.f3 false true false false) := by
  refine returnsInHanded_of_change_sized (C := Try.checked) own started (by kernel_rfl) Try.func3
    (ChangeSpec.witness6 (enc := enc) (C := Try.checked) false ⟨#[], #[.agg #[.int .i64 0, .int .i64 0, .int .i64 0, .int .i64 0, .int .i64 0, .slice none 0 0, .slice none 0 0, .slice none 0 0, .int .i64 0], .agg #[.slice none 0 0]], []⟩ 8 (by kernel_rfl) (by kernel_rfl) (by kernel_rfl) (by kernel_rfl)) ?_
  intro W base args ds gs before hval0 hW hcnd hz0 _
  have hval : ∀ (j : Nat) t v, Try.f3.params[j]? = some t → args[j]? = some v → Value.okWide Try.prog W .any base t v := hval0
  have hW' := hW
  obtain ⟨p, q, hA0, hV, rfl, hfz, hnd⟩ := hW
  have hA : DataW.TrodAll enc Try.prog W 0 (fun _ => true) true Try.f3.params.toList args.toList ds p := hA0
  rw [Try.params3] at hA hval
  have hz := hz0
  rw [Try.params3] at hz
  obtain ⟨v0, vs0, d0, ds0, p0, q0, hargs, rfl, rfl, h0, r0⟩ := trodAll_cons hA
  obtain ⟨v1, vs1, d1, ds1, p1, q1, rfl, rfl, rfl, h1, r1⟩ := trodAll_cons r0
  obtain ⟨rfl, rfl, rfl⟩ := trodAll_nil r1
  obtain rfl : args = #[v0, v1] := by cases args; simp_all
  obtain ⟨rfl, rfl⟩ := trodVars_none hV
  obtain ⟨x0, rfl, hk0, ho0, hf0⟩ := openZ_version (hval 0 26 v0 rfl rfl) h0 (small_of hz (j := 0) rfl rfl)
  obtain ⟨A1, M1, cap1, rfl, ht1⟩ := openZ_tariff (hval 1 29 v1 rfl rfl) h1 (small_of hz (j := 1) rfl rfl)
  refine (tariffVersions_walk W x0 hk0 ho0 hf0 A1 M1 cap1 ht1).mono fun e W' ⟨he, hb⟩ => ?_
  subst he
  exact ⟨_, rfl, law_post laidOut (by kernel_rfl) rfl Try.underlying4 rfl rfl hW' hb⟩

/-- THE STATEMENT. -/
theorem tariffVersions_holds : Rows.TariffVersionsSaid :=
  OpenClaim.holds_of_wide 3 Try.f3 rfl rfl rfl rfl rfl rfl rfl ⟨rfl, rfl, rfl, rfl, rfl⟩ rfl rfl rfl rfl rfl (by kernel_rfl) Try.func3 (by kernel_rfl)
    (of_decide_eq_true (by kernel_rfl)) (by unfold Func.isWrapper; first | (rw [if_pos (by decide +kernel)]; kernel_rfl) | (rw [if_neg (by decide +kernel)]; exact ⟨rfl, rfl⟩))
    (fun os started H enc _ => tariffVersions_lifted os started H enc)
end Go.Proofs.Ytaboachegclaiaa
