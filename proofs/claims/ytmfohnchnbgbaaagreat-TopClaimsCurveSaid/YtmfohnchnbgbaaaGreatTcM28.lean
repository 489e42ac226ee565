/- Part 28 of the proof. -/
import Derived.Test.YtmfohnchnbgbaaaGreatTcM27
/- reserve.At, as far as what was paid goes. -/
namespace Go.Proofs.YtmfohnchnbgbaaaGreat
open Go.RowKit Go.Lib
set_option linter.unusedSimpArgs false

def AtF (c : Cv) (L : List Fl) (d : Int) (w : World) (e : Ending) (w' : World) : Prop :=
  Below w.heap.size w w' ∧ ((checkQ c L ≠ 0 ∧ e = .returned (.tuple #[.agg #[.int .i64 0, .int .i64 0, .int .i64 0, .int .i64 0, .int .i64 0, .bool false], .int .i64 (checkQ c L)])) ∨
    (checkQ c L = 0 ∧ ∃ (L' : List Fl) (g s b r : Int) (o : Bool), KnI d L L' ∧ e = .returned (.tuple #[.agg #[.int .i64 g, .int .i64 s, .int .i64 (paidS c L').all, .int .i64 b, .int .i64 r, .bool o], .int .i64 0])))
theorem blk_far6 {w : World} {G B : Nat} {t : TypeId} {cs : Array Value} (h : Blk w G t cs) (hne : G ≠ B) (u0 u1 u2 u3 u4 u5 : Value) :
    Blk ((((((w.setCell ⟨B, 0, none⟩ u0).setCell ⟨B, 1, none⟩ u1).setCell ⟨B, 2, none⟩ u2).setCell ⟨B, 3, none⟩ u3).setCell ⟨B, 4, none⟩ u4).setCell ⟨B, 5, none⟩ u5) G t cs :=
  (((((h.far (p := ⟨B, 0, none⟩) hne _).far (p := ⟨B, 1, none⟩) hne _).far (p := ⟨B, 2, none⟩) hne _).far (p := ⟨B, 3, none⟩) hne _).far (p := ⟨B, 4, none⟩) hne _).far (p := ⟨B, 5, none⟩) hne _
/-- What the region behind the first sum leaves. -/
def AtK (c : Cv) (L : List Fl) (d : Int) (w : World) (q10 q11 : Value) (W : World) : Prop :=
  ∃ (G : Nat) (L' : List Fl) (g s b r : Int) (o : Bool), q10 = .pointer (some ⟨G, 0, none⟩) ∧ q11 = .int .i64 0 ∧ KnI d L L' ∧ G ≠ w.heap.size + 1 ∧ Blk W G 42 (psC g s (paidS c L').all b r o) ∧ Blk W (w.heap.size + 1) 42 (psC 0 0 0 0 0 false) ∧ Below w.heap.size w W
set_option maxRecDepth 100000 in
set_option maxHeartbeats 8000000 in
theorem atR_any (c : Cv) (A : Option Addr) (n cap : Nat) (L : List Fl) (d : Int) (w : World) (ho : okCv c) (hv : FV w A n cap L) (hn1 : n ≤ 1000) :
    Calls Tryz.prog 15 #[.agg #[.int .i64 c.p, .int .i64 c.lim, .int .i64 c.agg, .int .i64 c.ded, .int .i64 c.sh], .slice A n cap, .int .i64 d] w (AtF c L d w) := by
  obtain ⟨w1, hw1⟩ : ∃ W, (w.alloc (.cells (cvC c) 23)).alloc (.cells (psC 0 0 0 0 0 false) 42) = W := ⟨_, rfl⟩
  have h01 : Below w.heap.size w w1 := by rw [← hw1]; exact ((Below.refl _ _).alloc (Nat.le_refl _) _).alloc (by simp) _
  have HB := hide (show Blk w1 w.heap.size 23 (cvC c) by rw [← hw1]; exact (Blk.new _ _ _).alloc _)
  have HZ := hide (show Blk w1 (w.heap.size + 1) 42 (psC 0 0 0 0 0 false) by rw [← hw1]; exact Blk.new' (by simp))
  have HSU := hide (sumF_any c A n cap L w1 ho (hv.below h01) hn1)
  have HV := hide (hv.below h01)
  have H1 := hide h01
  have HW := hide hw1
  have HN := hide hv.len
  have HOK := hide ho
  clear hw1 h01 hv ho
  go_enter Tryz.func15, Tryz.ntmps15
  go_upto_region 1 with fail
  rw [show (w.alloc (.cells #[.int .i64 c.p, .int .i64 c.lim, .int .i64 c.agg, .int .i64 c.ded, .int .i64 c.sh] 23)).alloc (.cells #[.int .i64 0, .int .i64 0, .int .i64 0, .int .i64 0, .int .i64 0, .bool false] 42) = w1 from HW.out]
  obtain ⟨x0, x1, x2, x3, x4⟩ := cv_cells HB.out
  go_wp2_with fail
  refine HSU.out.mono ?_
  rintro e w2 ⟨h2, g, s, b, r, o, rfl⟩
  obtain ⟨q, hq⟩ : ∃ q, allQ c L = q := ⟨_, rfl⟩
  rw [hq]
  have HB2 := hide (HB.out.below h2 HB.out.lt)
  have HZ2 := hide (HZ.out.below h2 HZ.out.lt)
  have HV2 := hide (HV.out.below h2)
  have H2 := hide (chain H1.out h2)
  clear h2 hq x0 x1 x2 x3 x4 HSU
  obtain ⟨w3, hw3⟩ : ∃ W, w2.alloc (.cells (psC g s q b r o) 42) = W := ⟨_, rfl⟩
  have h3 : Below w2.heap.size w2 w3 := by rw [← hw3]; exact (Below.refl _ _).alloc (Nat.le_refl _) _
  have HB3 := hide (HB2.out.below h3 HB2.out.lt)
  have HZ3 := hide (HZ2.out.below h3 HZ2.out.lt)
  have HV3 := hide (HV2.out.below h3)
  have H3 := hide (chain H2.out h3)
  have HW3 := hide hw3
  clear hw3 h3
  go_upto_region 2 with fail
  rw [show w2.alloc (.cells #[.int .i64 g, .int .i64 s, .int .i64 q, .int .i64 b, .int .i64 r, .bool o] 42) = w3 from HW3.out]
  by_cases hE : checkQ c L = 0
  case neg =>
    obtain ⟨E, hEe⟩ : ∃ E, checkQ c L = E := ⟨_, rfl⟩
    rw [hEe] at hE ⊢
    have hq : (E != 0) = true := by simpa using hE
    have HE := hide hEe
    have HNE := hide hE
    obtain ⟨y0, y1, y2, y3, y4, y5⟩ := ps_cells HZ3.out
    have z0 := HZ3.out.frozen 0
    have z1 := HZ3.out.frozen 1
    have z2 := HZ3.out.frozen 2
    have z3 := HZ3.out.frozen 3
    have z4 := HZ3.out.frozen 4
    have z5 := HZ3.out.frozen 5
    clear hE hEe
    go_wp2_with fail
    refine ret_row2 (p := 6) (ty := 42) (g := w.heap.size + 1) (t := 42) rfl rfl rfl rfl (set6 HZ3.out _ _ _ _ _ _) Tryz.underlying42 rfl (by kernel_rfl) ⟨bel6 H3.out (by omega) _ _ _ _ _ _, .inl ⟨by rw [HE.out]; exact HNE.out, by rw [HE.out]; rfl⟩⟩
  rw [hE]
  have HE := hide hE
  have hlen : ∀ x ∈ L, x.l.length ≤ 2000 := fun x hx => made_len ((right_file (check_zero hE).1).2 x hx).2.2
  have HKN := hide (fun (W : World) (hW : Below w3.heap.size w3 W) => (show Calls Tryz.prog 36 #[.slice A n cap, .int .i64 d] W (KnP d L W) from known_any A n cap L d W (HV3.out.below hW) hn1 hlen))
  clear hE hlen
  have HBo := HB3
  have HZo := HZ3
  have Ho := H3
  have HB3 := hide HB3.out.drew
  have HZ3 := hide HZ3.out.drew
  have H3 := hide H3.out.drew
  have h5S := cv_cells HB3.out
  go_upto_region 4 with fail
  go_cut [10, 11] from 22 to 29 (fun q10 q11 W => AtK c L d w q10 q11 W)
  case first =>
    refine wp_region_T (fun X : World => X.cell? ⟨w.heap.size, 0, none⟩ = some (.int .i64 c.p) ∧ X.cell? ⟨w.heap.size, 1, none⟩ = some (.int .i64 c.lim) ∧ X.cell? ⟨w.heap.size, 2, none⟩ = some (.int .i64 c.agg) ∧ X.cell? ⟨w.heap.size, 3, none⟩ = some (.int .i64 c.ded) ∧ X.cell? ⟨w.heap.size, 4, none⟩ = some (.int .i64 c.sh)) [] rfl (by kernel_rfl) ?_
    refine wpAnyT_take (i := 0) (v := ?_) rfl (by kernel_rfl) (by kernel_rfl) (by kernel_rfl) (by kernel_rfl) (fun _ _ _ h => h) (Or.inl ⟨by rfl, ?_⟩) h5S ?_
    rotate_left
    · intro W hSW
      obtain ⟨hs0, hs1, hs2, hs3, hs4⟩ := hSW
      go_simp
      try with_reducible rfl
    simp only [Act.put, List.setIfInBounds_toArray, List.set_cons_zero, List.set_cons_succ]
    refine wpAnyT_take (i := 1) (v := ?_) rfl (by kernel_rfl) (by kernel_rfl) (by kernel_rfl) (by kernel_rfl) (fun _ _ _ h => h) (Or.inl ⟨by rfl, ?_⟩) h5S ?_
    rotate_left
    · intro W hSW
      obtain ⟨hs0, hs1, hs2, hs3, hs4⟩ := hSW
      go_simp
      try with_reducible rfl
    simp only [Act.put, List.setIfInBounds_toArray, List.set_cons_zero, List.set_cons_succ]
    refine wpAnyT_take (i := 2) (v := ?_) rfl (by kernel_rfl) (by kernel_rfl) (by kernel_rfl) (by kernel_rfl) (fun _ _ _ h => h) (Or.inl ⟨by rfl, ?_⟩) h5S ?_
    rotate_left
    · intro W hSW
      obtain ⟨hs0, hs1, hs2, hs3, hs4⟩ := hSW
      go_simp
      try with_reducible rfl
    simp only [Act.put, List.setIfInBounds_toArray, List.set_cons_zero, List.set_cons_succ]
    refine wpAnyT_ready (rs := [3, 8]) (by decide +kernel) (by simp) ?_
    refine AllReadyT.cons rfl (fun K hK => ?_) (AllReadyT.cons rfl (fun K hK => ?_) AllReadyT.nil)
    · -- Known first
      go_simp
      refine (HKN.out _ ((Below.refl _ _).drew)).mono ?_
      rintro e w4 ⟨h4, A4, cap4, L', rfl, hv4, hkn⟩
      have HB4 := hide (HB3.out.below h4 HB3.out.lt)
      have HZ4 := hide (HZ3.out.below h4 HZ3.out.lt)
      have H4 := hide (chain H3.out h4)
      have h5T := cv_cells HB4.out
      have HKI := hide hkn
      have hl4 : L'.length ≤ 1000 := by have := known_len hkn; rw [HN.out] at this; omega
      have HS4 := hide (fun (X : World) (hX : Below w4.heap.size w4 X) => sumF_any c A4 L'.length cap4 L' X HOK.out (hv4.below hX) hl4)
      have HQ4 := hide (known_check hkn HE.out)
      have HA4 := hide (show allQ c L' = (paidS c L').all by rw [allQ, if_pos HQ4.out])
      refine hK.out _ _ (fun _ => h5T) ?_
      clear hK K h4 hv4 hkn
      try simp only [Act.put, List.setIfInBounds_toArray, List.set_cons_zero, List.set_cons_succ]
      obtain ⟨n4, hn4⟩ : ∃ z, L'.length = z := ⟨_, rfl⟩
      rw [hn4] at HS4 ⊢
      clear hn4 hl4
      refine wpAnyT_ready (rs := [4, 8]) (by decide +kernel) (by simp) ?_
      refine AllReadyT.cons rfl (fun K hK => ?_) (AllReadyT.cons rfl (fun K hK => ?_) AllReadyT.nil)
      · -- the sum, then the box
        go_simp
        refine (HS4.out _ (Below.refl _ _)).mono ?_
        rintro e w5 ⟨h5, g5, s5, b5, r5, o5, rfl⟩
        rw [HQ4.out, HA4.out]
        obtain ⟨p5, hp5⟩ : ∃ z, (paidS c L').all = z := ⟨_, rfl⟩
        rw [hp5]
        have HP5 := hide hp5
        have HB5 := hide (HB4.out.below h5 HB4.out.lt)
        have HZ5 := hide (HZ4.out.below h5 HZ4.out.lt)
        have H5 := hide (chain H4.out h5)
        have h5U := cv_cells HB5.out
        refine hK.out _ _ (fun _ => h5U) ?_
        clear hK K h5 hp5
        try simp only [Act.put, List.setIfInBounds_toArray, List.set_cons_zero, List.set_cons_succ]
        refine wpAnyT_take (i := 5) (v := ?_) rfl (by kernel_rfl) (by kernel_rfl) (by kernel_rfl) (by kernel_rfl) (fun _ _ _ h => h) (Or.inl ⟨by rfl, ?_⟩) h5U ?_
        rotate_left
        · intro W hSW
          obtain ⟨hs0, hs1, hs2, hs3, hs4⟩ := hSW
          go_simp
          try with_reducible rfl
        simp only [Act.put, List.setIfInBounds_toArray, List.set_cons_zero, List.set_cons_succ]
        refine wpAnyT_take (i := 6) (v := ?_) rfl (by kernel_rfl) (by kernel_rfl) (by kernel_rfl) (by kernel_rfl) (fun _ _ _ h => h) (Or.inl ⟨by rfl, ?_⟩) h5U ?_
        rotate_left
        · intro W hSW
          obtain ⟨hs0, hs1, hs2, hs3, hs4⟩ := hSW
          go_simp
          try with_reducible rfl
        simp only [Act.put, List.setIfInBounds_toArray, List.set_cons_zero, List.set_cons_succ]
        refine wpAnyT_take (i := 7) (v := ?_) rfl (by kernel_rfl) (by kernel_rfl) (by kernel_rfl) (by kernel_rfl) (fun _ _ _ h => h) (Or.inl ⟨by rfl, ?_⟩) h5U ?_
        rotate_left
        · intro W hSW
          obtain ⟨hs0, hs1, hs2, hs3, hs4⟩ := hSW
          go_simp
          try with_reducible rfl
        simp only [Act.put, List.setIfInBounds_toArray, List.set_cons_zero, List.set_cons_succ]
        refine wpAnyT_ready (rs := [8]) (by decide +kernel) (by simp) ?_
        refine AllReadyT.cons rfl (fun K hK => ?_) AllReadyT.nil
        go_simp
        obtain ⟨w6, hWw6⟩ : ∃ X, (w5).alloc (.cells (psC 0 0 0 0 0 false) 42) = X := ⟨_, rfl⟩
        have hAw6 : Below (w5).heap.size (w5) w6 := by rw [← hWw6]; exact (Below.refl _ _).alloc (Nat.le_refl _) _
        obtain ⟨G, hG⟩ : ∃ X, (w5).heap.size = X := ⟨_, rfl⟩
        have HGw6 := hide (show Blk w6 G 42 (psC 0 0 0 0 0 false) by rw [← hWw6, ← hG]; exact Blk.new _ _ _)
        have hGl : w.heap.size + 1 < G := by rw [← hG]; exact (HZ5.out).lt
        have HBw6 := hide (HB5.out.below hAw6 HB5.out.lt)
        have HZw6 := hide (HZ5.out.below hAw6 HZ5.out.lt)
        have Hw6 := hide (chain H5.out hAw6)
        have HAw6 := hide hAw6
        have h5w6 := cv_cells HBw6.out
        refine hK.out _ _ (fun _ => by
          first
            | (rw [show World.alloc _ (.cells #[.int .i64 0, .int .i64 0, .int .i64 0, .int .i64 0, .int .i64 0, .bool false] 42) = w6 from hWw6]; exact h5w6)
            | (rw [← hWw6] at h5w6; exact h5w6)) ?_
        clear hK K
        try simp only [Act.put, List.setIfInBounds_toArray, List.set_cons_zero, List.set_cons_succ]
        rw [show World.alloc _ (.cells #[.int .i64 0, .int .i64 0, .int .i64 0, .int .i64 0, .int .i64 0, .bool false] 42) = w6 from hWw6]
        try rw [hG]
        clear hWw6 hAw6 hG
        obtain ⟨y0, y1, y2, y3, y4, y5⟩ := ps_cells HGw6.out
        have z0 := HGw6.out.frozen 0
        have z1 := HGw6.out.frozen 1
        have z2 := HGw6.out.frozen 2
        have z3 := HGw6.out.frozen 3
        have z4 := HGw6.out.frozen 4
        have z5 := HGw6.out.frozen 5
        refine wpAnyT_ready (rs := [9]) (by decide +kernel) (by simp) ?_
        refine AllReadyT.cons rfl (fun K hK => ?_) AllReadyT.nil
        go_simp
        refine hK.out _ _ (fun _ => cv_cells (blk_far6 HBw6.out (by omega) _ _ _ _ _ _)) ?_
        clear hK K
        try simp only [Act.put, List.setIfInBounds_toArray, List.set_cons_zero, List.set_cons_succ]
        refine wpAnyT_ready (rs := [10]) (by decide +kernel) (by simp) ?_
        refine AllReadyT.cons rfl (fun K hK => ?_) AllReadyT.nil
        go_simp
        refine hK.out _ _ (fun _ => cv_cells (blk_far6 HBw6.out (by omega) _ _ _ _ _ _)) ?_
        clear hK K
        try simp only [Act.put, List.setIfInBounds_toArray, List.set_cons_zero, List.set_cons_succ]
        refine wpAnyT_done (by decide +kernel) ?_ _
        clear y0 y1 y2 y3 y4 y5 z0 z1 z2 z3 z4 z5
        go_wp2_with fail
        go_meet
        exact ⟨G, L', g5, s5, b5, r5, o5, rfl, rfl, HKI.out, by omega, by rw [HP5.out]; exact set6 HGw6.out _ _ _ _ _ _, blk_far6 HZw6.out (by omega) _ _ _ _ _ _, bel6 Hw6.out (by omega) _ _ _ _ _ _⟩
      · -- the box, then the sum
        go_simp
        obtain ⟨w6, hWw6⟩ : ∃ X, (w4).alloc (.cells (psC 0 0 0 0 0 false) 42) = X := ⟨_, rfl⟩
        have hAw6 : Below (w4).heap.size (w4) w6 := by rw [← hWw6]; exact (Below.refl _ _).alloc (Nat.le_refl _) _
        obtain ⟨G, hG⟩ : ∃ X, (w4).heap.size = X := ⟨_, rfl⟩
        have HGw6 := hide (show Blk w6 G 42 (psC 0 0 0 0 0 false) by rw [← hWw6, ← hG]; exact Blk.new _ _ _)
        have hGl : w.heap.size + 1 < G := by rw [← hG]; exact (HZ4.out).lt
        have HBw6 := hide (HB4.out.below hAw6 HB4.out.lt)
        have HZw6 := hide (HZ4.out.below hAw6 HZ4.out.lt)
        have Hw6 := hide (chain H4.out hAw6)
        have HAw6 := hide hAw6
        have h5w6 := cv_cells HBw6.out
        refine hK.out _ _ (fun _ => by
          first
            | (rw [show World.alloc _ (.cells #[.int .i64 0, .int .i64 0, .int .i64 0, .int .i64 0, .int .i64 0, .bool false] 42) = w6 from hWw6]; exact h5w6)
            | (rw [← hWw6] at h5w6; exact h5w6)) ?_
        clear hK K
        try simp only [Act.put, List.setIfInBounds_toArray, List.set_cons_zero, List.set_cons_succ]
        rw [show World.alloc _ (.cells #[.int .i64 0, .int .i64 0, .int .i64 0, .int .i64 0, .int .i64 0, .bool false] 42) = w6 from hWw6]
        try rw [hG]
        clear hWw6 hAw6 hG
        refine wpAnyT_ready (rs := [4]) (by decide +kernel) (by simp) ?_
        refine AllReadyT.cons rfl (fun K hK => ?_) AllReadyT.nil
        go_simp
        refine (HS4.out _ (HAw6.out)).mono ?_
        rintro e w5 ⟨h5, g5, s5, b5, r5, o5, rfl⟩
        rw [HQ4.out, HA4.out]
        obtain ⟨p5, hp5⟩ : ∃ z, (paidS c L').all = z := ⟨_, rfl⟩
        rw [hp5]
        have HP5 := hide hp5
        have HB5 := hide (HBw6.out.below h5 HBw6.out.lt)
        have HZ5 := hide (HZw6.out.below h5 HZw6.out.lt)
        have H5 := hide (chain Hw6.out h5)
        have HG5 := hide (HGw6.out.below h5 HGw6.out.lt)
        have h5U := cv_cells HB5.out
        refine hK.out _ _ (fun _ => h5U) ?_
        clear hK K h5 hp5
        try simp only [Act.put, List.setIfInBounds_toArray, List.set_cons_zero, List.set_cons_succ]
        refine wpAnyT_take (i := 5) (v := ?_) rfl (by kernel_rfl) (by kernel_rfl) (by kernel_rfl) (by kernel_rfl) (fun _ _ _ h => h) (Or.inl ⟨by rfl, ?_⟩) h5U ?_
        rotate_left
        · intro W hSW
          obtain ⟨hs0, hs1, hs2, hs3, hs4⟩ := hSW
          go_simp
          try with_reducible rfl
        simp only [Act.put, List.setIfInBounds_toArray, List.set_cons_zero, List.set_cons_succ]
        refine wpAnyT_take (i := 6) (v := ?_) rfl (by kernel_rfl) (by kernel_rfl) (by kernel_rfl) (by kernel_rfl) (fun _ _ _ h => h) (Or.inl ⟨by rfl, ?_⟩) h5U ?_
        rotate_left
        · intro W hSW
          obtain ⟨hs0, hs1, hs2, hs3, hs4⟩ := hSW
          go_simp
          try with_reducible rfl
        simp only [Act.put, List.setIfInBounds_toArray, List.set_cons_zero, List.set_cons_succ]
        refine wpAnyT_take (i := 7) (v := ?_) rfl (by kernel_rfl) (by kernel_rfl) (by kernel_rfl) (by kernel_rfl) (fun _ _ _ h => h) (Or.inl ⟨by rfl, ?_⟩) h5U ?_
        rotate_left
        · intro W hSW
          obtain ⟨hs0, hs1, hs2, hs3, hs4⟩ := hSW
          go_simp
          try with_reducible rfl
        simp only [Act.put, List.setIfInBounds_toArray, List.set_cons_zero, List.set_cons_succ]
        obtain ⟨y0, y1, y2, y3, y4, y5⟩ := ps_cells HG5.out
        have z0 := HG5.out.frozen 0
        have z1 := HG5.out.frozen 1
        have z2 := HG5.out.frozen 2
        have z3 := HG5.out.frozen 3
        have z4 := HG5.out.frozen 4
        have z5 := HG5.out.frozen 5
        refine wpAnyT_ready (rs := [9]) (by decide +kernel) (by simp) ?_
        refine AllReadyT.cons rfl (fun K hK => ?_) AllReadyT.nil
        go_simp
        refine hK.out _ _ (fun _ => cv_cells (blk_far6 HB5.out (by omega) _ _ _ _ _ _)) ?_
        clear hK K
        try simp only [Act.put, List.setIfInBounds_toArray, List.set_cons_zero, List.set_cons_succ]
        refine wpAnyT_ready (rs := [10]) (by decide +kernel) (by simp) ?_
        refine AllReadyT.cons rfl (fun K hK => ?_) AllReadyT.nil
        go_simp
        refine hK.out _ _ (fun _ => cv_cells (blk_far6 HB5.out (by omega) _ _ _ _ _ _)) ?_
        clear hK K
        try simp only [Act.put, List.setIfInBounds_toArray, List.set_cons_zero, List.set_cons_succ]
        refine wpAnyT_done (by decide +kernel) ?_ _
        clear y0 y1 y2 y3 y4 y5 z0 z1 z2 z3 z4 z5
        go_wp2_with fail
        go_meet
        exact ⟨G, L', g5, s5, b5, r5, o5, rfl, rfl, HKI.out, by omega, by rw [HP5.out]; exact set6 HG5.out _ _ _ _ _ _, blk_far6 HZ5.out (by omega) _ _ _ _ _ _, bel6 H5.out (by omega) _ _ _ _ _ _⟩
    · -- the box first
      go_simp
      obtain ⟨w6, hWw6⟩ : ∃ X, (w3.alloc (.cells (psC 0 0 0 0 0 false) 42)).drew = X := ⟨_, rfl⟩
      have hAw6 : Below w3.heap.size w3 w6 := by rw [← hWw6]; exact ((Below.refl _ _).alloc (Nat.le_refl _) _).drew
      obtain ⟨G, hG⟩ : ∃ X, w3.heap.size = X := ⟨_, rfl⟩
      have HGw6 := hide (show Blk w6 G 42 (psC 0 0 0 0 0 false) by rw [← hWw6, ← hG]; exact (Blk.new _ _ _).drew)
      have hGl : w.heap.size + 1 < G := by rw [← hG]; exact (HZo.out).lt
      have HBw6 := hide (HBo.out.below hAw6 HBo.out.lt)
      have HZw6 := hide (HZo.out.below hAw6 HZo.out.lt)
      have Hw6 := hide (chain Ho.out hAw6)
      have HAw6 := hide hAw6
      have h5w6 := cv_cells HBw6.out
      refine hK.out _ _ (fun _ => by
        first
          | (rw [show (w3.alloc (.cells #[.int .i64 0, .int .i64 0, .int .i64 0, .int .i64 0, .int .i64 0, .bool false] 42)).drew = w6 from hWw6]; exact h5w6)
          | (rw [← hWw6] at h5w6; exact h5w6)) ?_
      clear hK K
      try simp only [Act.put, List.setIfInBounds_toArray, List.set_cons_zero, List.set_cons_succ]
      rw [show (w3.alloc (.cells #[.int .i64 0, .int .i64 0, .int .i64 0, .int .i64 0, .int .i64 0, .bool false] 42)).drew = w6 from hWw6]
      try rw [hG]
      clear hWw6 hAw6 hG
      refine wpAnyT_ready (rs := [3]) (by decide +kernel) (by simp) ?_
      refine AllReadyT.cons rfl (fun K hK => ?_) AllReadyT.nil
      go_simp
      refine (HKN.out _ HAw6.out).mono ?_
      rintro e w4 ⟨h4, A4, cap4, L', rfl, hv4, hkn⟩
      have HB4 := hide (HBw6.out.below h4 HBw6.out.lt)
      have HZ4 := hide (HZw6.out.below h4 HZw6.out.lt)
      have H4 := hide (chain Hw6.out h4)
      have HG4 := hide (HGw6.out.below h4 HGw6.out.lt)
      have h5T := cv_cells HB4.out
      have HKI := hide hkn
      have hl4 : L'.length ≤ 1000 := by have := known_len hkn; rw [HN.out] at this; omega
      have HS4 := hide (fun (X : World) (hX : Below w4.heap.size w4 X) => sumF_any c A4 L'.length cap4 L' X HOK.out (hv4.below hX) hl4)
      have HQ4 := hide (known_check hkn HE.out)
      have HA4 := hide (show allQ c L' = (paidS c L').all by rw [allQ, if_pos HQ4.out])
      refine hK.out _ _ (fun _ => h5T) ?_
      clear hK K h4 hv4 hkn
      try simp only [Act.put, List.setIfInBounds_toArray, List.set_cons_zero, List.set_cons_succ]
      obtain ⟨n4, hn4⟩ : ∃ z, L'.length = z := ⟨_, rfl⟩
      rw [hn4] at HS4 ⊢
      clear hn4 hl4
      refine wpAnyT_ready (rs := [4]) (by decide +kernel) (by simp) ?_
      refine AllReadyT.cons rfl (fun K hK => ?_) AllReadyT.nil
      go_simp
      refine (HS4.out _ (Below.refl _ _)).mono ?_
      rintro e w5 ⟨h5, g5, s5, b5, r5, o5, rfl⟩
      rw [HQ4.out, HA4.out]
      obtain ⟨p5, hp5⟩ : ∃ z, (paidS c L').all = z := ⟨_, rfl⟩
      rw [hp5]
      have HP5 := hide hp5
      have HB5 := hide (HB4.out.below h5 HB4.out.lt)
      have HZ5 := hide (HZ4.out.below h5 HZ4.out.lt)
      have H5 := hide (chain H4.out h5)
      have HG5 := hide (HG4.out.below h5 HG4.out.lt)
      have h5U := cv_cells HB5.out
      refine hK.out _ _ (fun _ => h5U) ?_
      clear hK K h5 hp5
      try simp only [Act.put, List.setIfInBounds_toArray, List.set_cons_zero, List.set_cons_succ]
      refine wpAnyT_take (i := 5) (v := ?_) rfl (by kernel_rfl) (by kernel_rfl) (by kernel_rfl) (by kernel_rfl) (fun _ _ _ h => h) (Or.inl ⟨by rfl, ?_⟩) h5U ?_
      rotate_left
      · intro W hSW
        obtain ⟨hs0, hs1, hs2, hs3, hs4⟩ := hSW
        go_simp
        try with_reducible rfl
      simp only [Act.put, List.setIfInBounds_toArray, List.set_cons_zero, List.set_cons_succ]
      refine wpAnyT_take (i := 6) (v := ?_) rfl (by kernel_rfl) (by kernel_rfl) (by kernel_rfl) (by kernel_rfl) (fun _ _ _ h => h) (Or.inl ⟨by rfl, ?_⟩) h5U ?_
      rotate_left
      · intro W hSW
        obtain ⟨hs0, hs1, hs2, hs3, hs4⟩ := hSW
        go_simp
        try with_reducible rfl
      simp only [Act.put, List.setIfInBounds_toArray, List.set_cons_zero, List.set_cons_succ]
      refine wpAnyT_take (i := 7) (v := ?_) rfl (by kernel_rfl) (by kernel_rfl) (by kernel_rfl) (by kernel_rfl) (fun _ _ _ h => h) (Or.inl ⟨by rfl, ?_⟩) h5U ?_
      rotate_left
      · intro W hSW
        obtain ⟨hs0, hs1, hs2, hs3, hs4⟩ := hSW
        go_simp
        try with_reducible rfl
      simp only [Act.put, List.setIfInBounds_toArray, List.set_cons_zero, List.set_cons_succ]
      obtain ⟨y0, y1, y2, y3, y4, y5⟩ := ps_cells HG5.out
      have z0 := HG5.out.frozen 0
      have z1 := HG5.out.frozen 1
      have z2 := HG5.out.frozen 2
      have z3 := HG5.out.frozen 3
      have z4 := HG5.out.frozen 4
      have z5 := HG5.out.frozen 5
      refine wpAnyT_ready (rs := [9]) (by decide +kernel) (by simp) ?_
      refine AllReadyT.cons rfl (fun K hK => ?_) AllReadyT.nil
      go_simp
      refine hK.out _ _ (fun _ => cv_cells (blk_far6 HB5.out (by omega) _ _ _ _ _ _)) ?_
      clear hK K
      try simp only [Act.put, List.setIfInBounds_toArray, List.set_cons_zero, List.set_cons_succ]
      refine wpAnyT_ready (rs := [10]) (by decide +kernel) (by simp) ?_
      refine AllReadyT.cons rfl (fun K hK => ?_) AllReadyT.nil
      go_simp
      refine hK.out _ _ (fun _ => cv_cells (blk_far6 HB5.out (by omega) _ _ _ _ _ _)) ?_
      clear hK K
      try simp only [Act.put, List.setIfInBounds_toArray, List.set_cons_zero, List.set_cons_succ]
      refine wpAnyT_done (by decide +kernel) ?_ _
      clear y0 y1 y2 y3 y4 y5 z0 z1 z2 z3 z4 z5
      go_wp2_with fail
      go_meet
      exact ⟨G, L', g5, s5, b5, r5, o5, rfl, rfl, HKI.out, by omega, by rw [HP5.out]; exact set6 HG5.out _ _ _ _ _ _, blk_far6 HZ5.out (by omega) _ _ _ _ _ _, bel6 H5.out (by omega) _ _ _ _ _ _⟩
  case rest =>
  obtain ⟨G, L', g5, s5, b5, r5, o5, rfl, rfl, hkn, hGn, hBG, hBZ, hBB⟩ := hcut
  obtain ⟨p5, hp5⟩ : ∃ z, (paidS c L').all = z := ⟨_, rfl⟩
  rw [hp5] at hBG
  have HP5 := hide hp5
  have HKI := hide hkn
  obtain ⟨x0, x1, x2, x3, x4, x5⟩ := ps_cells hBG
  obtain ⟨y0, y1, y2, y3, y4, y5⟩ := ps_cells hBZ
  have z0 := hBZ.frozen 0
  have z1 := hBZ.frozen 1
  have z2 := hBZ.frozen 2
  have z3 := hBZ.frozen 3
  have z4 := hBZ.frozen 4
  have z5 := hBZ.frozen 5
  have HBZ := hide hBZ
  have HBB := hide hBB
  clear hp5 hkn hBG hBZ hBB h5S
  go_wp2_with fail
  refine ret_row2 (p := 6) (ty := 42) (g := w.heap.size + 1) (t := 42) rfl rfl rfl rfl (set6 HBZ.out _ _ _ _ _ _) Tryz.underlying42 rfl (by kernel_rfl) ⟨bel6 HBB.out (by omega) _ _ _ _ _ _, .inr ⟨HE.out, L', g5, s5, b5, r5, o5, HKI.out, by rw [HP5.out]; rfl⟩⟩
end Go.Proofs.YtmfohnchnbgbaaaGreat
