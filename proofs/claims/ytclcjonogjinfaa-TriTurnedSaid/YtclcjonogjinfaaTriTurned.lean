/- TriTurned: a triangle hangs not on the order of its rows. -/
import Derived.Test.YtclcjonogjinfaaTriS
namespace Go.Proofs.Ytclcjonogjinfaa
open Go.ChangeShapes Go.WideShapes Go.ChangeAt Go.RowKit
set_option linter.unusedVariables false

set_option maxRecDepth 100000 in
set_option maxHeartbeats 4000000 in
theorem triTurned_walk (w : World) (A : Option Addr) (l : List R3) (cap : Nat) (hs : SV w 3 A l.length cap (l.map enc3)) (_ho : ∀ x ∈ l, ok3 x) (turn : Int) (wt : (Lit.int .i64 turn).wf = true) :
    Calls Try.prog 7 #[.slice A l.length cap, .int .i64 turn] w fun e w' => e = .returned (.bool true) ∧ Below w.heap.size w w' := by
  go_enter Try.func7, Try.ntmps7
  have HS := hide hs
  have hmo := hs.most
  have hle := hs.le
  unfold maxLen at hmo
  clear hs
  by_cases hfw : 1 ≤ l.length ∧ l.length ≤ 200
  case neg =>
    rcases (show l.length = 0 ∨ 200 < l.length by omega) with h0 | h0
    · have HL9 := hide (show l.length ≤ 9223372036854775807 by omega)
      have hfd : decide (l.length ≤ 200) = true := by simp; omega
      have hl0 : ((l.length : Int) == 0) = true := by simp; exact List.eq_nil_of_length_eq_zero h0
      clear h0
      go_wp2_with fail
      refine (few_any A l.length cap _ HL9.out).mono ?_
      rintro e w1 ⟨rfl, rfl⟩
      rw [hfd]
      clear hfw
      go_wp2_with fail
      refine (alive_b (Below.refl w.heap.size w)).mono ?_
      rintro e w2 ⟨rfl, h2, hb2⟩
      go_wp2_with fail
      go_ret
      exact ⟨rfl, h2⟩
    · have hfd : decide (l.length ≤ 200) = false := by simp; omega
      go_wp2_with fail
      refine (few_any A l.length cap _ (by omega)).mono ?_
      rintro e w1 ⟨rfl, rfl⟩
      rw [hfd]
      clear hfw
      go_wp2_with fail
      refine (alive_b (Below.refl w.heap.size w)).mono ?_
      rintro e w2 ⟨rfl, h2, hb2⟩
      go_wp2_with fail
      go_ret
      exact ⟨rfl, h2⟩
  obtain ⟨hl1, hl2⟩ := hfw
  have hfd : decide (l.length ≤ 200) = true := by simp; omega
  have hl0 : ((l.length : Int) == 0) = false := by simp; intro e; subst e; simp at hl1
  have hrem : (∃ K : Nat, turn.tmod (l.length : Int) = -(K : Int) ∧ 0 < K ∧ K < l.length) ∨ (∃ K : Nat, turn.tmod (l.length : Int) = (K : Int) ∧ K < l.length) := by
    have h1 : (turn.tmod (l.length : Int)).natAbs = turn.natAbs % l.length := by rw [Int.natAbs_tmod]; rfl
    have h2 : turn.natAbs % l.length < l.length := Nat.mod_lt _ (by omega)
    rcases Int.lt_or_le (turn.tmod (l.length : Int)) 0 with h | h
    · exact .inl ⟨(turn.tmod (l.length : Int)).natAbs, by omega, by omega, by omega⟩
    · exact .inr ⟨(turn.tmod (l.length : Int)).natAbs, by omega, by omega⟩
  go_wp2_with fail
  refine (few_any A l.length cap _ (by omega)).mono ?_
  rintro e w1 ⟨rfl, rfl⟩
  rw [hfd]
  clear hfd
  obtain ⟨E, hE⟩ : ∃ E, ofE l = E := ⟨_, rfl⟩
  obtain ⟨F, hF⟩ : ∃ F, ofF l = F := ⟨_, rfl⟩
  obtain ⟨C, hC⟩ : ∃ C, ofM l = C := ⟨_, rfl⟩
  obtain ⟨m, hm⟩ : ∃ m, C.length = m := ⟨_, rfl⟩
  have hm20 : m ≤ 20 := by rw [← hm, ← hC]; exact ofM_len
  have HE := hide hE
  have HF := hide hF
  have HC := hide hC
  have HM := hide hm
  clear hE hF hC hm
  rcases hrem with ⟨K, hK, hK0, hKl⟩ | ⟨K, hK, hKl⟩
  all_goals
    go_wp2_with fail
    refine (of_g HS.out (Below.refl _ _) HE.out HF.out HC.out HM.out).mono ?_
    rintro e w1 ⟨A1, c1, R, rfl, hmv, hR, _, h1, hb1⟩
    clear hb1
    have HMV := hide hmv
    have HR := hide hR
    have H1 := hide h1
    clear hmv hR h1 hK
    go_upto_region 7 with fail
    obtain ⟨w2, hw2⟩ : ∃ W, w1.alloc (.cells #[.int .i64 F, .slice A1 m c1] 24) = W := ⟨_, rfl⟩
    have hB : Blk w2 w1.heap.size 24 #[.int .i64 F, .slice A1 m c1] := by rw [← hw2]; exact Blk.new _ _ _
    have h2 : Below w1.heap.size w1 w2 := by rw [← hw2]; exact (Below.refl _ _).alloc (Nat.le_refl _) _
    rw [hw2]
    obtain ⟨X, hX⟩ : ∃ X, w1.heap.size = X := ⟨_, rfl⟩
    rw [hX] at hB ⊢
    have HB := hide hB
    have HM2 := hide (HMV.out.below h2)
    have H2 := hide (chain H1.out h2)
    clear hw2 hB h2 hX HMV H1
    have HS2 := hide (HS.out.below H2.out)
    have hK0' : (0 : Int) ≤ (K : Int) := by omega
    have hKl' : (K : Int) ≤ (l.length : Int) := by omega
    have hKc : (K : Int) ≤ (cap : Int) := by omega
    have HSC := hide (show Sl w2 w2.heap.size 3 (if cap = K then A else Option.map (fun x => x.add (K * 3)) A) ((l.drop K).map enc3) by
      have := HS2.out.sl.cut (k := K) (by simpa using hle)
      rwa [← List.map_drop] at this)
    have HST := hide (show Sl w2 w2.heap.size 3 A ((l.take K).map enc3) from fun i row hr => HS2.out.sl i row (by
      rw [List.map_take, List.getElem?_take] at hr
      split at hr
      · exact hr
      · cases hr))
    have hP := of_perm (turn_perm l K)
    have HF2 := hide (hP.2.1.trans HF.out)
    have HC2 := hide (hP.2.2.trans HC.out)
    obtain ⟨E2, hE2⟩ : ∃ E, ofE (l.drop K ++ l.take K) = E := ⟨_, rfl⟩
    have HE2 := hide hE2
    have HEE := hide (show E2 = 0 ↔ E = 0 by rw [← hE2, ← HE.out]; exact hP.1)
    clear hP hE2
    go_cut [8, 9] from 32 to 44 (fun t u wx => TurnRel w2 F C m E2 t u wx)
    case first =>
      go_region_law (first
        | (refine step_app rfl (.tmp 33) (.tmp 36) 30 rfl el3 (B := w2.heap.size) (rows := []) (A := some ⟨_, 0, none⟩) (news := (l.drop K).map enc3) rfl ?_ rfl (by simp) ?_ (ok_rows3 _) ?_ ?_ ?_ ?_
           · first | exact own_of_blk (Blk.drew (Blk.new' (by simp))) (by simp) | exact own_of_blk (Blk.drew ((Blk.new' (by simp)).alloc _)) (by simp)
           · exact (HSC.out.below (by repeat (first | exact Below.refl _ _ | refine Below.drew ?_ | refine Below.alloc ?_ (by simp) _))).more (by simp; try omega)
           · (simp only [maxLen]; omega)
           · omega
           · (simp; try omega)
           intro A2 c2 wa ho1 hg1 ha1
           rw [Nat.zero_add, List.nil_append] at ho1
           have hba : Below w2.heap.size w2 wa := Below.grown (by repeat (first | exact Below.refl _ _ | refine Below.drew ?_ | refine Below.alloc ?_ (by simp) _)) hg1 (by simp; try omega) (fun k hk => by simp [blk] at hk; omega)
           first
             | have hy := Blk.grown (Blk.drew (Blk.alloc (Blk.new w2 24 #[.int .i64 0, .slice none 0 0]) _)) hg1 (by simp [blk])
             | have hy := Blk.grown (Blk.drew (Blk.new (w2.alloc (.cells #[] 36)) 24 #[.int .i64 0, .slice none 0 0])) hg1 (by simp [blk])
             | skip)
        | (refine step_app rfl (.tmp 37) (.tmp 40) 30 rfl el3 (B := w2.heap.size) (rows := (l.drop K).map enc3) (news := (l.take K).map enc3) rfl ?_ rfl (by simp; omega) ?_ (ok_rows3 _) ?_ ?_ ?_ ?_
           · first | exact ho1 | exact ho1.alloc _
           · exact (HST.out.below (by first | exact hba | exact hba.alloc hba.size _)).more (by have := hba.size; simp; try omega)
           · (simp only [maxLen]; omega)
           · omega
           · (have := hba.size; simp; try omega)
           intro A3 c3 wb ho2 hg2 ha2
           have hbb : Below w2.heap.size w2 wb := Below.grown (by first | exact hba | exact hba.alloc hba.size _) hg2 (by have := hba.size; simp; try omega) (fun k hk => (ho1.lt k hk).1)
           first
             | have hy2 := Blk.grown hy hg2 (fun e => by rw [← e] at ha1; rcases ha1 with h | h <;> simp [blk] at h <;> omega)
             | have hy2 := Blk.grown (Blk.new wa 24 #[.int .i64 0, .slice none 0 0]) hg2 (fun e => by have := (ho1.lt _ e.symm).2; omega)
             | skip)
        | (go_simp
           go_at_call 17
           have hs3 : SV wb 3 A3 (l.length - K + K) c3 ((l.drop K ++ l.take K).map enc3) := by rw [List.map_append]; exact ho2.sv
           refine (of_g (w0 := wb) hs3 (by first | exact Below.refl _ _ | exact (Below.refl _ _).alloc (Nat.le_refl _) _) HE2.out HF2.out HC2.out HM.out).mono ?_
           rintro e wc ⟨A4, c4, R4, rfl, hmv4, hR4, hfr4, hbc, hbd⟩
           have hbe : Below w2.heap.size w2 wc := hbb.trans (hbc.mono hbb.size)
           first
             | have hy3 := Blk.below hy2 hbc hy2.lt
             | have hy3 := Blk.below (Blk.new wb 24 #[.int .i64 0, .slice none 0 0]) hbd (by simp)
             | skip
           first
             | (have d0 := hy3.cell 0
                have d1 := hy3.cell 1
                have v0 := hy3.frozen 0
                have v1 := hy3.frozen 1
                have hyl := hy2.lt
                simp at d0 d1 v0 v1 hyl)
             | (have d0 := hy3.cell 0
                have d1 := hy3.cell 1
                have v0 := hy3.frozen 0
                have v1 := hy3.frozen 1
                have hyl := hy3.lt
                simp at d0 d1 v0 v1 hyl)
             | skip
           dsimp only))
      all_goals
        have HFR := hide hfr4
        have hs1 := hba.size
        have hs2 := hbb.size
        have HMV4 := hide hmv4
        have HBE := hide hbe
        clear hmv4 hbe hbc hbd hg2 ha2 ha1 hg1 ho1 ho2 hfr4 hs3
        go_wp2_with fail
        go_meet
        first
          | exact ⟨_, A4, c4, R4, rfl, rfl, Blk.new _ _ _, HMV4.out.below ((Below.refl _ _).alloc (Nat.le_refl _) _), hR4, HBE.out.alloc HBE.out.size _⟩
          | exact ⟨_, A4, c4, R4, rfl, rfl, (Blk.drew (Blk.new _ _ _)), HMV4.out.below ((Below.refl _ _).alloc (Nat.le_refl _) _).drew, hR4, (HBE.out.alloc HBE.out.size _).drew⟩
          | (refine ⟨_, A4, c4, R4, rfl, rfl, ?_, ?_, hR4, ?_⟩
             · have := (hy3.set_ 0 (.int .i64 F)).set_ 1 (.slice A4 m c4)
               simpa using this
             · refine (HMV4.out.far (fun kk hk he => ?_) (fun r hr kk hk he => ?_) _).far (fun kk hk he => ?_) (fun r hr kk hk he => ?_) _
               · have h9 := HFR.out.1 kk hk
                 simp at he
                 try simp at h9
                 omega
               · have h9 := HFR.out.2 r hr kk hk
                 simp at he
                 try simp at h9
                 omega
               · have h9 := HFR.out.1 kk hk
                 simp at he
                 try simp at h9
                 omega
               · have h9 := HFR.out.2 r hr kk hk
                 simp at he
                 try simp at h9
                 omega
             · refine (HBE.out.setCell ?_ _).setCell ?_ _
               · simp only
                 omega
               · simp only
                 omega)
    case rest =>
      obtain ⟨Y, A4, c4, R4, rfl, rfl, hY, hmv4, hR4, hb4⟩ := hcut
      have hX4 := HB.out.below hb4 HB.out.lt
      have hee : (E == 0) = (E2 == 0) := by
        have := HEE.out
        rw [Bool.eq_iff_iff]
        simp
        omega
      have HM4 := hide (HM2.out.below hb4)
      have H4 := hide (chain H2.out hb4)
      have HMV4 := hide hmv4
      have HXB := hide hX4
      have HYB := hide hY
      have HRR := hide (HR.out.trans hR4.symm)
      clear hX4 hY hmv4 hR4 hb4 HSC HST HEE
      go_wp2_with fail
      refine (alive_b H4.out).mono ?_
      rintro e w5 ⟨rfl, h5, hb5⟩
      have x0 := (HXB.out.below hb5 HXB.out.lt).cell 0
      have x1 := (HXB.out.below hb5 HXB.out.lt).cell 1
      have y0 := (HYB.out.below hb5 HYB.out.lt).cell 0
      have y1 := (HYB.out.below hb5 HYB.out.lt).cell 1
      simp at x0 x1 y0 y1
      have HM5 := hide (HM4.out.below hb5)
      have HN5 := hide (HMV4.out.below hb5)
      clear hb5 HM4 HMV4
      cases hE0 : (E == 0)
      all_goals
        rw [hE0] at hee
        have hee2 := hee.symm
        clear hee
        go_wp2_with fail
        refine (sameT_any F A1 A4 m c1 c4 R R4 _ HM5.out HN5.out HRR.out (by omega)).mono ?_
        rintro e w6 ⟨rfl, hb6⟩
        go_wp2_with fail
        go_ret
        exact ⟨rfl, chain h5 hb6⟩

theorem triTurned_lifted (os : Os) (started : os.Started) (H : Type) (enc : TypeId × Value → H) :
    ReturnsInHanded {} Try.checked os 7 .any (Rows.triTurnedSpec.pre6 enc Try.prog Try.f7 Rows.triTurnedRow.domain false) (Rows.triTurnedSpec.post enc Try.prog Try.f7 false true false false) := by
  refine returnsInHanded_of_change (C := Try.checked) own started (by kernel_rfl) Try.func7
    (ChangeSpec.witness6 (enc := enc) (C := Try.checked) false ⟨#[], #[.slice none 0 0, .int .i64 0], []⟩ 8 (by kernel_rfl) (by kernel_rfl) (by kernel_rfl) (by kernel_rfl)) ?_
  intro W base args ds gs before hval0 hW hcnd _
  have hval : ∀ (j : Nat) t v, Try.f7.params[j]? = some t → args[j]? = some v → Value.okWide Try.prog W .any base t v := hval0
  have hW' := hW
  obtain ⟨p, q, hA0, hV, rfl, hfz, hnd⟩ := hW
  have hA : DataW.TrodAll enc Try.prog W 0 (fun _ => true) true Try.f7.params.toList args.toList ds p := hA0
  rw [Try.params7] at hA hval
  obtain ⟨v0, vs0, d0, ds0, p0, q0, hargs, rfl, rfl, h0, r0⟩ := trodAll_cons hA
  obtain ⟨v1, vs1, d1, ds1, p1, q1, rfl, rfl, rfl, h1, r1⟩ := trodAll_cons r0
  obtain ⟨rfl, rfl, rfl⟩ := trodAll_nil r1
  obtain rfl : args = #[v0, v1] := by cases args; simp_all
  obtain ⟨rfl, rfl⟩ := trodVars_none hV
  obtain ⟨A0, l0, p0, rfl, hs0, ho0⟩ := open_r3s (hval 0 30 v0 rfl rfl) h0
  obtain ⟨x1, rfl, rfl, rfl, wx1⟩ := open_int Try.underlying3 (hval 1 3 v1 rfl rfl) h1
  refine (triTurned_walk W A0 l0 p0 hs0 ho0 x1 wx1).mono fun e W' ⟨he, hb⟩ => ?_
  subst he
  exact ⟨_, rfl, law_post laidOut (by kernel_rfl) rfl Try.underlying4 rfl rfl hW' hb⟩

/-- THE STATEMENT. -/
theorem triTurned_holds : Rows.TriTurnedSaid :=
  OpenClaim.holds_of_wide 7 Try.f7 rfl rfl rfl rfl rfl rfl rfl ⟨rfl, rfl, rfl, rfl, rfl⟩ rfl rfl rfl rfl rfl (by kernel_rfl) Try.func7 (by kernel_rfl)
    (of_decide_eq_true (by kernel_rfl)) (by unfold Func.isWrapper; first | (rw [if_pos (by decide +kernel)]; kernel_rfl) | (rw [if_neg (by decide +kernel)]; exact ⟨rfl, rfl⟩))
    (fun os started H enc _ => triTurned_lifted os started H enc)
end Go.Proofs.Ytclcjonogjinfaa
