/- Part 41 of the proof. -/
import Derived.Test.YtmfohnchnbgbaaaGreatDoorYpM24
/- What is earned: one place more of the curve, the walk. -/
namespace Go.Proofs.YtmfohnchnbgbaaaGreatDoor
open Go.RowKit

set_option linter.unusedSimpArgs false in
set_option maxRecDepth 100000 in
set_option maxHeartbeats 8000000 in
theorem addc_any (B F : Nat) (A A2 : Option Addr) (c c2 : Nat) (s : List Int × List Int) (d v : Int) (w : World) (h : FS w B F A A2 c c2 s) (hl : s.1.length ≤ 100000) :
    Calls Tryz.prog 81 #[.int .i64 d, .int .i64 v, .pointer (some ⟨F, 0, none⟩)] w (AdcP w B F A A2 (addV d v s)) := by
  obtain ⟨a, vl⟩ := s
  have HF := hide h
  have z0 := h.f.cell 0
  have z1 := h.f.cell 1
  have k0 := h.f.frozen 0
  have k1 := h.f.frozen 1
  have hFl := h.f.lt
  simp at z0 z1 hl
  obtain ⟨n, hn⟩ : ∃ n, a.length = n := ⟨_, rfl⟩
  have hln : vl.length = n := by have := h.ln; simp at this; omega
  have hc1 := h.o1.cap_le
  have hc2 := h.o2.cap_le
  unfold maxLen at hc1 hc2
  simp only [hn, hln] at z0 z1 hl hc1 hc2
  have HN := hide hn
  have HLN := hide hln
  clear h hn hln
  obtain ⟨P, hP⟩ : ∃ P, popB d (a, vl) = P := ⟨_, rfl⟩
  have HP := hide hP
  clear hP
  go_enter Tryz.func81, Tryz.ntmps81
  go_upto_region 1 with fail
  go_cut [22] (fun q wx => q = .bool P ∧ w = wx)
  case first =>
    rcases nil_or_snoc a with rfl | ⟨r, x, rfl⟩
    · obtain rfl : n = 0 := by have := HN.out; simpa using this.symm
      have hp : P = false := by rw [← HP.out]; rfl
      subst hp
      go_wp2_with fail
      go_meet
      exact ⟨rfl, rfl⟩
    · obtain ⟨m, hm⟩ : ∃ m, r.length = m := ⟨_, rfl⟩
      obtain rfl : n = m + 1 := by have := HN.out; simp at this; omega
      have hp : P = (x == d) := by rw [← HP.out, popB]; simp
      obtain ⟨b, off, hA, -, c0⟩ := HF.out.o1.sl.i (k := m) (n := x) (by simp [← hm])
      subst hA hp
      have hm0 : (0 : Int) ≤ (m : Int) := by omega
      have hm1 : (m : Int) < ((m + 1 : Nat) : Int) := by omega
      have hm2 : (m : Int) < (m : Int) + 1 := by omega
      clear hm
      go_wp2_with fail
      go_meet
      exact ⟨rfl, rfl⟩
  case rest =>
    obtain ⟨rfl, rfl⟩ := hcut
    go_upto_if 22 with fail
    go_cut [5] (fun _ wx => PopP w B F A A2 c c2 (popV d (a, vl)) wx)
    case first =>
      cases P
      · have HV := hide (popV_no HP.out)
        go_wp2_with fail
        go_meet
        rw [HV.out]
        exact ⟨HF.out, fun _ _ => rfl, rfl, rfl, rfl, rfl⟩
      · have HV := hide (popV_yes HP.out)
        rcases nil_or_snoc a with rfl | ⟨r, x, rfl⟩
        · have := HP.out
          simp [popB] at this
        rcases nil_or_snoc vl with rfl | ⟨q, y, rfl⟩
        · have h1 := HN.out
          have h2 := HLN.out
          simp at h1 h2
          omega
        obtain ⟨m, hm⟩ : ∃ m, r.length = m := ⟨_, rfl⟩
        obtain rfl : n = m + 1 := by have := HN.out; simp at this; omega
        obtain rfl : x = d := by have := HP.out; simpa [popB] using this
        have hql : q.length = m := by have := HLN.out; simp at this; omega
        have HM := hide hm
        have HQ := hide hql
        have hm0 : (0 : Int) ≤ (m : Int) := by omega
        have hm1 : (m : Int) ≤ (c : Int) := by omega
        have hm2 : (m : Int) ≤ (c2 : Int) := by omega
        have hw : IntKind.i64.wrap ((m : Int) + 1 - 1) = (m : Int) := by rw [IntWalk.i64_in _ (by omega)]; omega
        clear hm hql
        go_wp2_with fail
        go_region
        all_goals
          go_wp2_with fail
          go_meet
        have hp := HF.out.pop
        rw [HM.out, HQ.out] at hp
        rw [HV.out]
        simpa using hp
    case rest =>
      obtain ⟨s1, hs1⟩ : ∃ s1, popV d (a, vl) = s1 := ⟨_, rfl⟩
      rw [hs1] at hcut
      have HS1 := hide hs1
      have HC := hide hcut
      obtain ⟨a1, v1⟩ := s1
      have hF1 := hcut.fs.f
      have y0 := hF1.cell 0
      have y1 := hF1.cell 1
      have l0 := hF1.frozen 0
      have l1 := hF1.frozen 1
      have lF := hF1.lt
      simp at y0 y1
      obtain ⟨n1, hn1⟩ : ∃ n, a1.length = n := ⟨_, rfl⟩
      have hln1 : v1.length = n1 := by have := hcut.fs.ln; simp at this; omega
      have hd1 := hcut.fs.o1.cap_le
      have hd2 := hcut.fs.o2.cap_le
      unfold maxLen at hd1 hd2
      have hl1 : n1 ≤ 100000 := by
        have : a1.length ≤ a.length := by
          have := HS1.out
          rw [popV] at this
          split at this <;> (cases this; simp <;> omega)
        rw [HN.out] at this
        omega
      simp only [hn1, hln1] at y0 y1 hd1 hd2
      have HN1 := hide hn1
      have HL1 := hide hln1
      clear hcut hs1 hF1 hn1 hln1 z0 z1 k0 k1
      obtain ⟨lv, hlv⟩ : ∃ x, (v1.getLast?).getD 0 = x := ⟨_, rfl⟩
      have HLV := hide hlv
      clear hlv
      go_upto_if 39 with fail
      obtain ⟨w1, rfl⟩ : ∃ W : World, W = wc := ⟨_, rfl⟩
      go_cut [6] (fun q wx => q = .int .i64 lv ∧ w1 = wx)
      case first =>
        rcases nil_or_snoc v1 with rfl | ⟨q, y, rfl⟩
        · obtain rfl : n1 = 0 := by have := HL1.out; simpa using this.symm
          have hp : lv = 0 := by rw [← HLV.out]; rfl
          subst hp
          go_wp2_with fail
          go_meet
          exact ⟨rfl, rfl⟩
        · obtain ⟨m, hm⟩ : ∃ m, q.length = m := ⟨_, rfl⟩
          obtain rfl : n1 = m + 1 := by have := HL1.out; simp at this; omega
          have hp : lv = y := by rw [← HLV.out]; simp
          subst hp
          obtain ⟨b, off, hA, -, c0⟩ := HC.out.fs.o2.sl.i (k := m) (n := lv) (by simp [← hm])
          rw [hA] at y1
          have hm0 : (0 : Int) ≤ (m : Int) := by omega
          have hm1 : (m : Int) < ((m + 1 : Nat) : Int) := by omega
          have hm2 : (m : Int) < (m : Int) + 1 := by omega
          clear hm hA
          go_wp2_with fail
          go_meet
          exact ⟨rfl, rfl⟩
      case rest =>
        obtain ⟨rfl, rfl⟩ := hcut
        have HA := hide (show addV d v (a, vl) = if v ≠ lv ∧ d ≤ 292194 then (a1 ++ [d], v1 ++ [v]) else (a1, v1) by rw [addV, HS1.out, pushV, HLV.out])
        by_cases hvl : v = lv
        · have hq : (v != lv) = false := by simpa using hvl
          have HA2 := hide (show addV d v (a, vl) = (a1, v1) by rw [HA.out, if_neg (by simp [hvl])])
          clear hvl
          go_wp2_with fail
          go_end0
          rw [HA2.out]
          exact ⟨rfl, ⟨A, A2, c, c2, HC.out.fs, fun b _ => ⟨id, id⟩⟩, fun b _ hb _ _ => HC.out.fr b hb, Nat.le_of_eq HC.out.g.symm, HC.out.k⟩
        by_cases hd : d ≤ 292194
        case neg =>
          have hq : (v != lv) = true := by simpa using hvl
          have HA2 := hide (show addV d v (a, vl) = (a1, v1) by rw [HA.out, if_neg (by omega)])
          clear hvl
          go_wp2_with fail
          go_end0
          rw [HA2.out]
          exact ⟨rfl, ⟨A, A2, c, c2, HC.out.fs, fun b _ => ⟨id, id⟩⟩, fun b _ hb _ _ => HC.out.fr b hb, Nat.le_of_eq HC.out.g.symm, HC.out.k⟩
        have hq : (v != lv) = true := by simpa using hvl
        have HA2 := hide (show addV d v (a, vl) = (a1 ++ [d], v1 ++ [v]) by rw [HA.out, if_pos ⟨hvl, hd⟩])
        clear hvl
        have hO1 := HC.out.fs.o1
        have hO2 := HC.out.fs.o2
        simp only [HN1.out, HL1.out] at hO1 hO2
        have HO1 := hide hO1
        have HO2 := hide hO2
        have hgt := HC.out.fs.gt
        have hsz := HC.out.fs.sz
        clear hO1 hO2
        go_wp2_with fail
        have hS0 : w1.drew.cell? ⟨F, 0, none⟩ = some (.slice A n1 c) ∧ w1.drew.cell? ⟨F, 1, none⟩ = some (.slice A2 n1 c2) := ⟨y0, y1⟩
        refine wp_region_T (fun W => W.cell? ⟨F, 0, none⟩ = some (.slice A n1 c) ∧ W.cell? ⟨F, 1, none⟩ = some (.slice A2 n1 c2)) [0, 2, 5, 7, 10, 11, 12, 13] rfl (by kernel_rfl) ?_
        refine wpAnyT_take0 (i := 0) (v := ?_) rfl (by kernel_rfl) (by kernel_rfl) (by kernel_rfl) (by kernel_rfl) (fun _ _ _ h => h) (Or.inl ⟨by rfl, ?_⟩) ?_
        rotate_left
        · intro W hSW
          go_simp
          try with_reducible rfl
        simp only [Act.put, List.setIfInBounds_toArray, List.set_cons_zero, List.set_cons_succ]
        refine wpAnyT_take0 (i := 2) (v := ?_) rfl (by kernel_rfl) (by kernel_rfl) (by kernel_rfl) (by kernel_rfl) (fun _ _ _ h => h) (Or.inl ⟨by rfl, ?_⟩) ?_
        rotate_left
        · intro W hSW
          go_simp
          try with_reducible rfl
        simp only [Act.put, List.setIfInBounds_toArray, List.set_cons_zero, List.set_cons_succ]
        refine wpAnyT_take0 (i := 5) (v := ?_) rfl (by kernel_rfl) (by kernel_rfl) (by kernel_rfl) (by kernel_rfl) (fun _ _ _ h => h) (Or.inl ⟨by rfl, ?_⟩) ?_
        rotate_left
        · intro W hSW
          go_simp
          try with_reducible rfl
        simp only [Act.put, List.setIfInBounds_toArray, List.set_cons_zero, List.set_cons_succ]
        refine wpAnyT_take0 (i := 7) (v := ?_) rfl (by kernel_rfl) (by kernel_rfl) (by kernel_rfl) (by kernel_rfl) (fun _ _ _ h => h) (Or.inl ⟨by rfl, ?_⟩) ?_
        rotate_left
        · intro W hSW
          go_simp
          try with_reducible rfl
        simp only [Act.put, List.setIfInBounds_toArray, List.set_cons_zero, List.set_cons_succ]
        refine wpAnyT_take (i := 1) (v := ?_) rfl (by kernel_rfl) (by kernel_rfl) (by kernel_rfl) (by kernel_rfl) (fun _ _ _ h => h) (Or.inl ⟨by rfl, ?_⟩) hS0 ?_
        rotate_left
        · intro W hSW
          obtain ⟨hs0, hs1⟩ := hSW
          go_simp
          try with_reducible rfl
        simp only [Act.put, List.setIfInBounds_toArray, List.set_cons_zero, List.set_cons_succ]
        refine wpAnyT_take (i := 6) (v := ?_) rfl (by kernel_rfl) (by kernel_rfl) (by kernel_rfl) (by kernel_rfl) (fun _ _ _ h => h) (Or.inl ⟨by rfl, ?_⟩) hS0 ?_
        rotate_left
        · intro W hSW
          obtain ⟨hs0, hs1⟩ := hSW
          go_simp
          try with_reducible rfl
        simp only [Act.put, List.setIfInBounds_toArray, List.set_cons_zero, List.set_cons_succ]
        refine wpAnyT_ready (rs := [3, 8]) (by kernel_rfl) (by simp) ?_
        refine AllReadyT.cons rfl (fun K hK => ?_) ?_
        · go_simp
          refine hK.out _ _ (fun _ => ?_) ?_
          · exact ⟨by go_simp, by go_simp⟩
          try simp only [Act.put, List.setIfInBounds_toArray, List.set_cons_zero, List.set_cons_succ]
          clear hK K
          refine wpAnyT_ready (rs := [4, 8]) (by kernel_rfl) (by simp) ?_
          refine AllReadyT.cons rfl (fun K hK => ?_) ?_
          · refine step_app rfl (.tmp 54) (.tmp 56) 36 rfl elInt (B := B) (rows := a1.map encI) (A2 := some ⟨_, 0, none⟩) (news := [d].map encI) rfl ?_ rfl rfl ?_ (okI [d]) ?_ ?_ ?_ ?_
            · (repeat (first | exact HO1.out | refine OwnS.drew ?_ | refine OwnS.alloc ?_ _))
            · first
                | exact sl_of_blk (cs := #[.int .i64 d]) (Blk.drew (Blk.new _ _ _))
                | exact sl_of_blk (cs := #[.int .i64 d]) (Blk.drew ((Blk.new _ _ _).alloc _))
                | exact sl_of_blk (cs := #[.int .i64 d]) (Blk.drew (Blk.new' (by simp)))
            · (simp only [maxLen]; omega)
            · omega
            · first | omega | (simp; try omega)
            intro A3 c3 wb ho3 hg3 ha3
            have hne : ∀ k, blk A = some k → k < w1.heap.size := fun k hk => (HO1.out.lt k hk).2
            have hbw := Below.grown_base (w1 := w1) hg3 (by repeat (first | exact Below.refl _ _ | refine Below.drew ?_ | (refine Below.alloc ?_ ?_ _; rotate_left; (simp; try omega; done))))
            have HFR := hide hbw.1
            have HKK := hide hbw.2.1
            have hzz := hbw.2.2
            have lFb : F < wb.heap.size := by omega
            have q0 := (heap_cell (o := 0) (HFR.out F lF (fun e => by have := (HO1.out.lt F e).1; omega))).trans y0
            have q1 := (heap_cell (o := 1) (HFR.out F lF (fun e => by have := (HO1.out.lt F e).1; omega))).trans y1
            have ho2b : OwnS wb B 3 1 A2 n1 c2 (v1.map encI) := by
              refine OwnS.kept ?_ hg3 ?_
              · (repeat (first | exact HO2.out | refine OwnS.drew ?_ | refine OwnS.alloc ?_ _))
              · exact ap_of HC.out.fs.ap
            have HO2B := hide ho2b
            have HO3 := hide ho3
            have HA3 := hide (new_of (w1 := w1) ha3 (by first | omega | (simp; try omega)))
            clear hne hbw ho2b ho3 hg3 ha3
            refine hK.out _ _ (fun _ => ⟨q0, q1⟩) ?_
            try simp only [Act.put, List.setIfInBounds_toArray, List.set_cons_zero, List.set_cons_succ]
            clear hK K
            refine wpAnyT_take0 (i := 10) (v := ?_) rfl (by kernel_rfl) (by kernel_rfl) (by kernel_rfl) (by kernel_rfl) (fun _ _ _ h => h) (Or.inl ⟨by rfl, ?_⟩) ?_
            rotate_left
            · intro W hSW
              go_simp
              try with_reducible rfl
            simp only [Act.put, List.setIfInBounds_toArray, List.set_cons_zero, List.set_cons_succ]
            refine wpAnyT_ready (rs := [8]) (by kernel_rfl) (by simp) ?_
            refine AllReadyT.cons rfl (fun K hK => ?_) ?_
            · go_simp
              refine hK.out _ _ (fun _ => ?_) ?_
              · exact ⟨by go_simp, by go_simp⟩
              try simp only [Act.put, List.setIfInBounds_toArray, List.set_cons_zero, List.set_cons_succ]
              clear hK K
              refine wpAnyT_ready (rs := [9]) (by kernel_rfl) (by simp) ?_
              refine AllReadyT.cons rfl (fun K hK => ?_) ?_
              · refine step_app rfl (.tmp 59) (.tmp 61) 36 rfl elInt (B := B) (rows := v1.map encI) (A2 := some ⟨_, 0, none⟩) (news := [v].map encI) rfl ?_ rfl rfl ?_ (okI [v]) ?_ ?_ ?_ ?_
                · (repeat (first | exact HO2B.out | refine OwnS.drew ?_ | refine OwnS.alloc ?_ _))
                · first
                    | exact sl_of_blk (cs := #[.int .i64 v]) HX.out
                    | exact sl_of_blk (cs := #[.int .i64 v]) (Blk.drew HX.out)
                    | exact sl_of_blk (cs := #[.int .i64 v]) (Blk.drew (Blk.new _ _ _))
                    | exact sl_of_blk (cs := #[.int .i64 v]) (Blk.new _ _ _)
                · (simp only [maxLen]; omega)
                · omega
                · first | omega | (simp; try omega)
                intro A4 c4 wd ho4 hg4 ha4
                have hbd := Below.grown_base (w1 := wb) hg4 (by repeat (first | exact Below.refl _ _ | refine Below.drew ?_ | (refine Below.alloc ?_ ?_ _; rotate_left; (simp; try omega; done))))
                have HFR2 := hide hbd.1
                have HKK2 := hide hbd.2.1
                have hzz2 := hbd.2.2
                have hFA2 : blk A2 ≠ some F := fun e => by have := (HO2.out.lt F e).1; omega
                have q0 := (heap_cell (o := 0) (HFR2.out F (by omega) hFA2)).trans q0
                have q1 := (heap_cell (o := 1) (HFR2.out F (by omega) hFA2)).trans q1
                have hFD : Blk wd F 127 #[.slice A a1.length c, .slice A2 v1.length c2] := (HFR2.out F (by omega) hFA2).trans ((HFR.out F lF (fun e => by have := (HO1.out.lt F e).1; omega)).trans HC.out.fs.f)
                have f0 := hFD.frozen 0
                have f1 := hFD.frozen 1
                have lFD := hFD.lt
                have HFD := hide hFD
                have h23 : ∀ k, blk A2 = some k → blk A3 ≠ some k := fun k hk e => HC.out.fs.ap k (HA3.out k (HO2.out.lt k hk).2 e) hk
                have ho3d : OwnS wd B 3 1 A3 (n1 + 1) c3 (a1.map encI ++ [d].map encI) := by
                  refine OwnS.kept ?_ hg4 (ap_of h23)
                  (repeat (first | exact HO3.out | refine OwnS.drew ?_ | refine OwnS.alloc ?_ _))
                have HO3D := hide ho3d
                have HO4 := hide ho4
                have HA4 := hide (new_of (w1 := wb) ha4 (by first | omega | (simp; try omega)))
                have H23 := hide h23
                clear hbd hFD ho3d ho4 hg4 ha4 h23 hFA2
                refine hK.out _ _ (fun _ => ⟨q0, q1⟩) ?_
                try simp only [Act.put, List.setIfInBounds_toArray, List.set_cons_zero, List.set_cons_succ]
                clear hK K
                refine wpAnyT_ready (rs := [11]) (by kernel_rfl) (by simp) ?_
                refine AllReadyT.cons rfl (fun K hK => ?_) ?_
                · go_simp
                  refine hK.out _ _ (fun h => by cases h) ?_
                  try simp only [Act.put, List.setIfInBounds_toArray, List.set_cons_zero, List.set_cons_succ]
                  clear hK K
                  refine wpAnyT_take0 (i := 12) (v := ?_) rfl (by kernel_rfl) (by kernel_rfl) (by kernel_rfl) (by kernel_rfl) (fun _ _ _ h => h) (Or.inl ⟨by rfl, ?_⟩) ?_
                  rotate_left
                  · intro W hSW
                    go_simp
                    try with_reducible rfl
                  simp only [Act.put, List.setIfInBounds_toArray, List.set_cons_zero, List.set_cons_succ]
                  refine wpAnyT_ready (rs := [13]) (by kernel_rfl) (by simp) ?_
                  refine AllReadyT.cons rfl (fun K hK => ?_) ?_
                  · go_simp
                    refine hK.out _ _ (fun h => by cases h) ?_
                    try simp only [Act.put, List.setIfInBounds_toArray, List.set_cons_zero, List.set_cons_succ]
                    clear hK K
                    refine wpAnyT_done (by kernel_rfl) ?_ _
                    go_end0
                    rw [HA2.out]
                    have hg0 := HC.out.g
                    have hk1 := HC.out.k
                    have hk2 := HKK.out
                    have hk3 := HKK2.out
                    refine ⟨rfl, ⟨A3, A4, c3, c4, FS.fin HFD.out HO3D.out HO4.out (fun k h3 h4 => H23.out k (HA4.out k (HO3.out.lt k h3).2 h4) h3) hgt (by omega) HN1.out HL1.out, fun b hb => ⟨fun h => HA3.out b (by omega) h, fun h => HA4.out b (by omega) h⟩⟩, fun b hb h1 h2 h3 => ?_, by simp; omega, ⟨hk3.1.trans (hk2.1.trans hk1.1), hk3.2.1.trans (hk2.2.1.trans hk1.2.1), hk3.2.2.trans (hk2.2.2.trans hk1.2.2)⟩⟩
                    exact (heap_setCell_other _ ⟨F, 1, none⟩ b _ h1).trans ((heap_setCell_other _ ⟨F, 0, none⟩ b _ h1).trans ((HFR2.out b (by omega) h3).trans ((HFR.out b (by omega) h2).trans (HC.out.fr b h1))))
                  exact AllReadyT.nil
                exact AllReadyT.nil
              exact AllReadyT.nil
            exact AllReadyT.nil
          refine AllReadyT.cons rfl (fun K hK => ?_) ?_
          · go_simp
            refine hK.out _ _ (fun _ => ?_) ?_
            · exact ⟨by go_simp, by go_simp⟩
            try simp only [Act.put, List.setIfInBounds_toArray, List.set_cons_zero, List.set_cons_succ]
            clear hK K
            refine wpAnyT_ready (rs := [4]) (by kernel_rfl) (by simp) ?_
            refine AllReadyT.cons rfl (fun K hK => ?_) ?_
            · refine step_app rfl (.tmp 54) (.tmp 56) 36 rfl elInt (B := B) (rows := a1.map encI) (A2 := some ⟨_, 0, none⟩) (news := [d].map encI) rfl ?_ rfl rfl ?_ (okI [d]) ?_ ?_ ?_ ?_
              · (repeat (first | exact HO1.out | refine OwnS.drew ?_ | refine OwnS.alloc ?_ _))
              · first
                  | exact sl_of_blk (cs := #[.int .i64 d]) (Blk.drew (Blk.new _ _ _))
                  | exact sl_of_blk (cs := #[.int .i64 d]) (Blk.drew ((Blk.new _ _ _).alloc _))
                  | exact sl_of_blk (cs := #[.int .i64 d]) (Blk.drew (Blk.new' (by simp)))
              · (simp only [maxLen]; omega)
              · omega
              · first | omega | (simp; try omega)
              intro A3 c3 wb ho3 hg3 ha3
              have hne : ∀ k, blk A = some k → k < w1.heap.size := fun k hk => (HO1.out.lt k hk).2
              have hbw := Below.grown_base (w1 := w1) hg3 (by repeat (first | exact Below.refl _ _ | refine Below.drew ?_ | (refine Below.alloc ?_ ?_ _; rotate_left; (simp; try omega; done))))
              have HFR := hide hbw.1
              have HKK := hide hbw.2.1
              have hzz := hbw.2.2
              have lFb : F < wb.heap.size := by omega
              have q0 := (heap_cell (o := 0) (HFR.out F lF (fun e => by have := (HO1.out.lt F e).1; omega))).trans y0
              have q1 := (heap_cell (o := 1) (HFR.out F lF (fun e => by have := (HO1.out.lt F e).1; omega))).trans y1
              have ho2b : OwnS wb B 3 1 A2 n1 c2 (v1.map encI) := by
                refine OwnS.kept ?_ hg3 ?_
                · (repeat (first | exact HO2.out | refine OwnS.drew ?_ | refine OwnS.alloc ?_ _))
                · exact ap_of HC.out.fs.ap
              have HO2B := hide ho2b
              have HO3 := hide ho3
              have HA3 := hide (new_of (w1 := w1) ha3 (by first | omega | (simp; try omega)))
              have hx := gx4 hg3 hne
              have HX := hide hx
              clear hx
              clear hne hbw ho2b ho3 hg3 ha3
              refine hK.out _ _ (fun _ => ⟨q0, q1⟩) ?_
              try simp only [Act.put, List.setIfInBounds_toArray, List.set_cons_zero, List.set_cons_succ]
              clear hK K
              refine wpAnyT_take0 (i := 10) (v := ?_) rfl (by kernel_rfl) (by kernel_rfl) (by kernel_rfl) (by kernel_rfl) (fun _ _ _ h => h) (Or.inl ⟨by rfl, ?_⟩) ?_
              rotate_left
              · intro W hSW
                go_simp
                try with_reducible rfl
              simp only [Act.put, List.setIfInBounds_toArray, List.set_cons_zero, List.set_cons_succ]
              refine wpAnyT_ready (rs := [9]) (by kernel_rfl) (by simp) ?_
              refine AllReadyT.cons rfl (fun K hK => ?_) ?_
              · refine step_app rfl (.tmp 59) (.tmp 61) 36 rfl elInt (B := B) (rows := v1.map encI) (A2 := some ⟨_, 0, none⟩) (news := [v].map encI) rfl ?_ rfl rfl ?_ (okI [v]) ?_ ?_ ?_ ?_
                · (repeat (first | exact HO2B.out | refine OwnS.drew ?_ | refine OwnS.alloc ?_ _))
                · first
                    | exact sl_of_blk (cs := #[.int .i64 v]) HX.out
                    | exact sl_of_blk (cs := #[.int .i64 v]) (Blk.drew HX.out)
                    | exact sl_of_blk (cs := #[.int .i64 v]) (Blk.drew (Blk.new _ _ _))
                    | exact sl_of_blk (cs := #[.int .i64 v]) (Blk.new _ _ _)
                · (simp only [maxLen]; omega)
                · omega
                · first | omega | (simp; try omega)
                intro A4 c4 wd ho4 hg4 ha4
                have hbd := Below.grown_base (w1 := wb) hg4 (by repeat (first | exact Below.refl _ _ | refine Below.drew ?_ | (refine Below.alloc ?_ ?_ _; rotate_left; (simp; try omega; done))))
                have HFR2 := hide hbd.1
                have HKK2 := hide hbd.2.1
                have hzz2 := hbd.2.2
                have hFA2 : blk A2 ≠ some F := fun e => by have := (HO2.out.lt F e).1; omega
                have q0 := (heap_cell (o := 0) (HFR2.out F (by omega) hFA2)).trans q0
                have q1 := (heap_cell (o := 1) (HFR2.out F (by omega) hFA2)).trans q1
                have hFD : Blk wd F 127 #[.slice A a1.length c, .slice A2 v1.length c2] := (HFR2.out F (by omega) hFA2).trans ((HFR.out F lF (fun e => by have := (HO1.out.lt F e).1; omega)).trans HC.out.fs.f)
                have f0 := hFD.frozen 0
                have f1 := hFD.frozen 1
                have lFD := hFD.lt
                have HFD := hide hFD
                have h23 : ∀ k, blk A2 = some k → blk A3 ≠ some k := fun k hk e => HC.out.fs.ap k (HA3.out k (HO2.out.lt k hk).2 e) hk
                have ho3d : OwnS wd B 3 1 A3 (n1 + 1) c3 (a1.map encI ++ [d].map encI) := by
                  refine OwnS.kept ?_ hg4 (ap_of h23)
                  (repeat (first | exact HO3.out | refine OwnS.drew ?_ | refine OwnS.alloc ?_ _))
                have HO3D := hide ho3d
                have HO4 := hide ho4
                have HA4 := hide (new_of (w1 := wb) ha4 (by first | omega | (simp; try omega)))
                have H23 := hide h23
                clear hbd hFD ho3d ho4 hg4 ha4 h23 hFA2
                refine hK.out _ _ (fun _ => ⟨q0, q1⟩) ?_
                try simp only [Act.put, List.setIfInBounds_toArray, List.set_cons_zero, List.set_cons_succ]
                clear hK K
                refine wpAnyT_ready (rs := [11]) (by kernel_rfl) (by simp) ?_
                refine AllReadyT.cons rfl (fun K hK => ?_) ?_
                · go_simp
                  refine hK.out _ _ (fun h => by cases h) ?_
                  try simp only [Act.put, List.setIfInBounds_toArray, List.set_cons_zero, List.set_cons_succ]
                  clear hK K
                  refine wpAnyT_take0 (i := 12) (v := ?_) rfl (by kernel_rfl) (by kernel_rfl) (by kernel_rfl) (by kernel_rfl) (fun _ _ _ h => h) (Or.inl ⟨by rfl, ?_⟩) ?_
                  rotate_left
                  · intro W hSW
                    go_simp
                    try with_reducible rfl
                  simp only [Act.put, List.setIfInBounds_toArray, List.set_cons_zero, List.set_cons_succ]
                  refine wpAnyT_ready (rs := [13]) (by kernel_rfl) (by simp) ?_
                  refine AllReadyT.cons rfl (fun K hK => ?_) ?_
                  · go_simp
                    refine hK.out _ _ (fun h => by cases h) ?_
                    try simp only [Act.put, List.setIfInBounds_toArray, List.set_cons_zero, List.set_cons_succ]
                    clear hK K
                    refine wpAnyT_done (by kernel_rfl) ?_ _
                    go_end0
                    rw [HA2.out]
                    have hg0 := HC.out.g
                    have hk1 := HC.out.k
                    have hk2 := HKK.out
                    have hk3 := HKK2.out
                    refine ⟨rfl, ⟨A3, A4, c3, c4, FS.fin HFD.out HO3D.out HO4.out (fun k h3 h4 => H23.out k (HA4.out k (HO3.out.lt k h3).2 h4) h3) hgt (by omega) HN1.out HL1.out, fun b hb => ⟨fun h => HA3.out b (by omega) h, fun h => HA4.out b (by omega) h⟩⟩, fun b hb h1 h2 h3 => ?_, by simp; omega, ⟨hk3.1.trans (hk2.1.trans hk1.1), hk3.2.1.trans (hk2.2.1.trans hk1.2.1), hk3.2.2.trans (hk2.2.2.trans hk1.2.2)⟩⟩
                    exact (heap_setCell_other _ ⟨F, 1, none⟩ b _ h1).trans ((heap_setCell_other _ ⟨F, 0, none⟩ b _ h1).trans ((HFR2.out b (by omega) h3).trans ((HFR.out b (by omega) h2).trans (HC.out.fr b h1))))
                  exact AllReadyT.nil
                exact AllReadyT.nil
              exact AllReadyT.nil
            exact AllReadyT.nil
          exact AllReadyT.nil
        refine AllReadyT.cons rfl (fun K hK => ?_) ?_
        · go_simp
          refine hK.out _ _ (fun _ => ?_) ?_
          · exact ⟨by go_simp, by go_simp⟩
          try simp only [Act.put, List.setIfInBounds_toArray, List.set_cons_zero, List.set_cons_succ]
          clear hK K
          refine wpAnyT_ready (rs := [3]) (by kernel_rfl) (by simp) ?_
          refine AllReadyT.cons rfl (fun K hK => ?_) ?_
          · go_simp
            refine hK.out _ _ (fun _ => ?_) ?_
            · exact ⟨by go_simp, by go_simp⟩
            try simp only [Act.put, List.setIfInBounds_toArray, List.set_cons_zero, List.set_cons_succ]
            clear hK K
            refine wpAnyT_ready (rs := [4]) (by kernel_rfl) (by simp) ?_
            refine AllReadyT.cons rfl (fun K hK => ?_) ?_
            · refine step_app rfl (.tmp 54) (.tmp 56) 36 rfl elInt (B := B) (rows := a1.map encI) (A2 := some ⟨_, 0, none⟩) (news := [d].map encI) rfl ?_ rfl rfl ?_ (okI [d]) ?_ ?_ ?_ ?_
              · (repeat (first | exact HO1.out | refine OwnS.drew ?_ | refine OwnS.alloc ?_ _))
              · first
                  | exact sl_of_blk (cs := #[.int .i64 d]) (Blk.drew (Blk.new _ _ _))
                  | exact sl_of_blk (cs := #[.int .i64 d]) (Blk.drew ((Blk.new _ _ _).alloc _))
                  | exact sl_of_blk (cs := #[.int .i64 d]) (Blk.drew (Blk.new' (by simp)))
              · (simp only [maxLen]; omega)
              · omega
              · first | omega | (simp; try omega)
              intro A3 c3 wb ho3 hg3 ha3
              have hne : ∀ k, blk A = some k → k < w1.heap.size := fun k hk => (HO1.out.lt k hk).2
              have hbw := Below.grown_base (w1 := w1) hg3 (by repeat (first | exact Below.refl _ _ | refine Below.drew ?_ | (refine Below.alloc ?_ ?_ _; rotate_left; (simp; try omega; done))))
              have HFR := hide hbw.1
              have HKK := hide hbw.2.1
              have hzz := hbw.2.2
              have lFb : F < wb.heap.size := by omega
              have q0 := (heap_cell (o := 0) (HFR.out F lF (fun e => by have := (HO1.out.lt F e).1; omega))).trans y0
              have q1 := (heap_cell (o := 1) (HFR.out F lF (fun e => by have := (HO1.out.lt F e).1; omega))).trans y1
              have ho2b : OwnS wb B 3 1 A2 n1 c2 (v1.map encI) := by
                refine OwnS.kept ?_ hg3 ?_
                · (repeat (first | exact HO2.out | refine OwnS.drew ?_ | refine OwnS.alloc ?_ _))
                · exact ap_of HC.out.fs.ap
              have HO2B := hide ho2b
              have HO3 := hide ho3
              have HA3 := hide (new_of (w1 := w1) ha3 (by first | omega | (simp; try omega)))
              have hx := gx5 hg3 hne
              have HX := hide hx
              clear hx
              clear hne hbw ho2b ho3 hg3 ha3
              refine hK.out _ _ (fun _ => ⟨q0, q1⟩) ?_
              try simp only [Act.put, List.setIfInBounds_toArray, List.set_cons_zero, List.set_cons_succ]
              clear hK K
              refine wpAnyT_take0 (i := 10) (v := ?_) rfl (by kernel_rfl) (by kernel_rfl) (by kernel_rfl) (by kernel_rfl) (fun _ _ _ h => h) (Or.inl ⟨by rfl, ?_⟩) ?_
              rotate_left
              · intro W hSW
                go_simp
                try with_reducible rfl
              simp only [Act.put, List.setIfInBounds_toArray, List.set_cons_zero, List.set_cons_succ]
              refine wpAnyT_ready (rs := [9]) (by kernel_rfl) (by simp) ?_
              refine AllReadyT.cons rfl (fun K hK => ?_) ?_
              · refine step_app rfl (.tmp 59) (.tmp 61) 36 rfl elInt (B := B) (rows := v1.map encI) (A2 := some ⟨_, 0, none⟩) (news := [v].map encI) rfl ?_ rfl rfl ?_ (okI [v]) ?_ ?_ ?_ ?_
                · (repeat (first | exact HO2B.out | refine OwnS.drew ?_ | refine OwnS.alloc ?_ _))
                · first
                    | exact sl_of_blk (cs := #[.int .i64 v]) HX.out
                    | exact sl_of_blk (cs := #[.int .i64 v]) (Blk.drew HX.out)
                    | exact sl_of_blk (cs := #[.int .i64 v]) (Blk.drew (Blk.new _ _ _))
                    | exact sl_of_blk (cs := #[.int .i64 v]) (Blk.new _ _ _)
                · (simp only [maxLen]; omega)
                · omega
                · first | omega | (simp; try omega)
                intro A4 c4 wd ho4 hg4 ha4
                have hbd := Below.grown_base (w1 := wb) hg4 (by repeat (first | exact Below.refl _ _ | refine Below.drew ?_ | (refine Below.alloc ?_ ?_ _; rotate_left; (simp; try omega; done))))
                have HFR2 := hide hbd.1
                have HKK2 := hide hbd.2.1
                have hzz2 := hbd.2.2
                have hFA2 : blk A2 ≠ some F := fun e => by have := (HO2.out.lt F e).1; omega
                have q0 := (heap_cell (o := 0) (HFR2.out F (by omega) hFA2)).trans q0
                have q1 := (heap_cell (o := 1) (HFR2.out F (by omega) hFA2)).trans q1
                have hFD : Blk wd F 127 #[.slice A a1.length c, .slice A2 v1.length c2] := (HFR2.out F (by omega) hFA2).trans ((HFR.out F lF (fun e => by have := (HO1.out.lt F e).1; omega)).trans HC.out.fs.f)
                have f0 := hFD.frozen 0
                have f1 := hFD.frozen 1
                have lFD := hFD.lt
                have HFD := hide hFD
                have h23 : ∀ k, blk A2 = some k → blk A3 ≠ some k := fun k hk e => HC.out.fs.ap k (HA3.out k (HO2.out.lt k hk).2 e) hk
                have ho3d : OwnS wd B 3 1 A3 (n1 + 1) c3 (a1.map encI ++ [d].map encI) := by
                  refine OwnS.kept ?_ hg4 (ap_of h23)
                  (repeat (first | exact HO3.out | refine OwnS.drew ?_ | refine OwnS.alloc ?_ _))
                have HO3D := hide ho3d
                have HO4 := hide ho4
                have HA4 := hide (new_of (w1 := wb) ha4 (by first | omega | (simp; try omega)))
                have H23 := hide h23
                clear hbd hFD ho3d ho4 hg4 ha4 h23 hFA2
                refine hK.out _ _ (fun _ => ⟨q0, q1⟩) ?_
                try simp only [Act.put, List.setIfInBounds_toArray, List.set_cons_zero, List.set_cons_succ]
                clear hK K
                refine wpAnyT_ready (rs := [11]) (by kernel_rfl) (by simp) ?_
                refine AllReadyT.cons rfl (fun K hK => ?_) ?_
                · go_simp
                  refine hK.out _ _ (fun h => by cases h) ?_
                  try simp only [Act.put, List.setIfInBounds_toArray, List.set_cons_zero, List.set_cons_succ]
                  clear hK K
                  refine wpAnyT_take0 (i := 12) (v := ?_) rfl (by kernel_rfl) (by kernel_rfl) (by kernel_rfl) (by kernel_rfl) (fun _ _ _ h => h) (Or.inl ⟨by rfl, ?_⟩) ?_
                  rotate_left
                  · intro W hSW
                    go_simp
                    try with_reducible rfl
                  simp only [Act.put, List.setIfInBounds_toArray, List.set_cons_zero, List.set_cons_succ]
                  refine wpAnyT_ready (rs := [13]) (by kernel_rfl) (by simp) ?_
                  refine AllReadyT.cons rfl (fun K hK => ?_) ?_
                  · go_simp
                    refine hK.out _ _ (fun h => by cases h) ?_
                    try simp only [Act.put, List.setIfInBounds_toArray, List.set_cons_zero, List.set_cons_succ]
                    clear hK K
                    refine wpAnyT_done (by kernel_rfl) ?_ _
                    go_end0
                    rw [HA2.out]
                    have hg0 := HC.out.g
                    have hk1 := HC.out.k
                    have hk2 := HKK.out
                    have hk3 := HKK2.out
                    refine ⟨rfl, ⟨A3, A4, c3, c4, FS.fin HFD.out HO3D.out HO4.out (fun k h3 h4 => H23.out k (HA4.out k (HO3.out.lt k h3).2 h4) h3) hgt (by omega) HN1.out HL1.out, fun b hb => ⟨fun h => HA3.out b (by omega) h, fun h => HA4.out b (by omega) h⟩⟩, fun b hb h1 h2 h3 => ?_, by simp; omega, ⟨hk3.1.trans (hk2.1.trans hk1.1), hk3.2.1.trans (hk2.2.1.trans hk1.2.1), hk3.2.2.trans (hk2.2.2.trans hk1.2.2)⟩⟩
                    exact (heap_setCell_other _ ⟨F, 1, none⟩ b _ h1).trans ((heap_setCell_other _ ⟨F, 0, none⟩ b _ h1).trans ((HFR2.out b (by omega) h3).trans ((HFR.out b (by omega) h2).trans (HC.out.fr b h1))))
                  exact AllReadyT.nil
                exact AllReadyT.nil
              exact AllReadyT.nil
            exact AllReadyT.nil
          exact AllReadyT.nil
        exact AllReadyT.nil
end Go.Proofs.YtmfohnchnbgbaaaGreatDoor
