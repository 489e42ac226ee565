/- Part 4 of the proof. -/
import Derived.Deep.RegionLaw
import Derived.Deep.RegionHeld3
import Derived.Deep.RegionWith
import Derived.Deep.DeepMust
import Derived.Test.YtmfohnchnbgbaaaGreatTcM02
import Derived.Test.YtmfohnchnbgbaaaGreatTcM03
/- What is put into a file: the program's walk. -/
namespace Go.Proofs.YtmfohnchnbgbaaaGreat
open Go.RowKit

set_option maxRecDepth 100000 in
set_option maxHeartbeats 4000000 in
theorem put_any (c : Cl) (A : Option Addr) (cap : Nat) (l : List Ac) (b k m : Int) (w : World) (hv : SV w 3 A l.length cap (l.map encAc)) (hm : l.length ≤ 9223372036854775807) :
    Calls Tryz.prog 198 #[.agg #[.int .i64 c.id, .int .i64 c.pol, .int .i64 c.per, .int .i64 c.loss, .int .i64 c.bkd, .int .i64 c.ev, .slice A l.length cap], .agg #[.int .i64 b, .int .i64 k, .int .i64 m]] w (PutPost w c l ⟨b, k, m⟩ (putC c.bkd l ⟨b, k, m⟩)) := by
  have HV := hide hv
  clear hv
  obtain ⟨code, hcode⟩ : ∃ x, putC c.bkd l ⟨b, k, m⟩ = x := ⟨_, rfl⟩
  rw [hcode]
  have HC := hide hcode
  clear hcode
  go_enter Tryz.func198, Tryz.ntmps198
  go_wp2_with fail
  refine (stand_any c A cap l _ ((HV.out.sl.below ((((Below.refl _ _).alloc (Nat.le_refl _) _).alloc (by simp) _).alloc (by simp; omega) _)).more (by simp; omega)) hm).mono ?_
  rintro e w1 ⟨rfl, hb1⟩
  rcases hst : standP l with ⟨g, s, bk, o⟩
  have HS := hide hst
  clear hst
  simp only [St.cells]
  have hW1 : PutW w c A l.length cap b k m ⟨g, s, bk, o⟩ w1.heap.size (w1.alloc (.cells #[.int .i64 g, .int .i64 s, .int .i64 0, .int .i64 bk, .int .i64 0, .bool o] 162)) := by
    have hs := hb1.size
    simp at hs
    exact ⟨(((((Blk.new' (w := w) rfl).alloc _).alloc _).below hb1 (by simp <;> omega))).alloc _, ((((Blk.new' (w := w.alloc _) (by simp)).alloc _).below hb1 (by simp <;> omega))).alloc _, (((Blk.new' (w := (w.alloc _).alloc _) (by simp)).below hb1 (by simp))).alloc _, Blk.new _ _ _, by omega,
      (chain ((((Below.refl _ _).alloc (Nat.le_refl _) _).alloc (by simp) _).alloc (by simp <;> omega) _) hb1).alloc (by omega) _⟩
  have f0 := hW1.f.cell 0
  have f6 := hW1.f.cell 6
  have a0 := hW1.a.cell 0
  have a1 := hW1.a.cell 1
  have a2 := hW1.a.cell 2
  simp [boxC, acC] at f0 f6 a0 a1 a2
  go_wp2_with fail
  refine (right_any_Claim b k m _).mono ?_
  rintro e w2 ⟨rfl, hb2⟩
  have hW2 := hW1.below hb2
  clear f0 f6 a0 a1 a2 hW1 hb1 hb2
  have f0 := hW2.f.cell 0
  have f1 := hW2.f.cell 1
  have f2 := hW2.f.cell 2
  have f3 := hW2.f.cell 3
  have f4 := hW2.f.cell 4
  have f5 := hW2.f.cell 5
  have f6 := hW2.f.cell 6
  have a0 := hW2.a.cell 0
  have a1 := hW2.a.cell 1
  have a2 := hW2.a.cell 2
  have p1 := hW2.p.cell 1
  have p3 := hW2.p.cell 3
  have p5 := hW2.p.cell 5
  have z0 := hW2.z.cell 0
  have u0 := hW2.z.frozen 0
  have z1 := hW2.z.cell 1
  have u1 := hW2.z.frozen 1
  have z2 := hW2.z.cell 2
  have u2 := hW2.z.frozen 2
  have z3 := hW2.z.cell 3
  have u3 := hW2.z.frozen 3
  have z4 := hW2.z.cell 4
  have u4 := hW2.z.frozen 4
  have z5 := hW2.z.cell 5
  have u5 := hW2.z.frozen 5
  have z6 := hW2.z.cell 6
  have u6 := hW2.z.frozen 6
  simp [boxC, acC, St.cells, zeroF] at z0 z1 z2 z3 z4 z5 z6 f0 f1 f2 f3 f4 f5 f6 a0 a1 a2 p1 p3 p5
  cases hr : rightB_Claim ⟨b, k, m⟩
  · have hc : code = 1 := by rw [← HC.out, putC, if_pos hr]
    subst hc
    go_wp2_with fail
    exact no_post hW2 (by decide) rfl rfl rfl rfl
  by_cases hlen : 2000 ≤ l.length
  · have hc : code = 2 := by rw [← HC.out, putC, if_neg (by simp [hr]), if_pos hlen]
    subst hc
    have hlen' : (2000 : Int) ≤ l.length := by omega
    go_wp2_with fail
    exact no_post hW2 (by decide) rfl rfl rfl rfl
  have hlen' : (l.length : Int) < 2000 := by omega
  go_wp2_with fail
  clear z0 z1 z2 z3 z4 z5 z6 u0 u1 u2 u3 u4 u5 u6
  go_region_held3 (fun w' => w'.cell? ⟨w.heap.size, 0, none⟩ = some (.int .i64 c.id) ∧ w'.cell? ⟨w.heap.size, 1, none⟩ = some (.int .i64 c.pol) ∧ w'.cell? ⟨w.heap.size, 2, none⟩ = some (.int .i64 c.per) ∧ w'.cell? ⟨w.heap.size, 3, none⟩ = some (.int .i64 c.loss) ∧ w'.cell? ⟨w.heap.size, 4, none⟩ = some (.int .i64 c.bkd) ∧ w'.cell? ⟨w.heap.size, 5, none⟩ = some (.int .i64 c.ev) ∧ w'.cell? ⟨w.heap.size, 6, none⟩ = some (.slice A l.length cap) ∧ w'.cell? ⟨w.heap.size + 1, 0, none⟩ = some (.int .i64 b)) (go_keep)
    (first | (go_at_call 209
              refine (last_any c A cap l _ ((HV.out.below hW2.drew.bel).sl) hm).mono ?_
              rintro e w3 ⟨rfl, hb3⟩
              have q0 := kept hb3 f0
              have q1 := kept hb3 f1
              have q2 := kept hb3 f2
              have q3 := kept hb3 f3
              have q4 := kept hb3 f4
              have q5 := kept hb3 f5
              have q6 := kept hb3 f6
              have r0 := kept hb3 a0))
  have hW3 := hW2.drew.below hb3
  clear f0 f1 f2 f3 f4 f5 f6 a0 a1 a2 p1 p3 p5 q0 q1 q2 q3 q4 q5 q6 r0 hW2 hb3
  have f0 := hW3.f.cell 0
  have f1 := hW3.f.cell 1
  have f2 := hW3.f.cell 2
  have f3 := hW3.f.cell 3
  have f4 := hW3.f.cell 4
  have f5 := hW3.f.cell 5
  have f6 := hW3.f.cell 6
  have a0 := hW3.a.cell 0
  have a1 := hW3.a.cell 1
  have a2 := hW3.a.cell 2
  have p1 := hW3.p.cell 1
  have p3 := hW3.p.cell 3
  have p5 := hW3.p.cell 5
  have z0 := hW3.z.cell 0
  have u0 := hW3.z.frozen 0
  have z1 := hW3.z.cell 1
  have u1 := hW3.z.frozen 1
  have z2 := hW3.z.cell 2
  have u2 := hW3.z.frozen 2
  have z3 := hW3.z.cell 3
  have u3 := hW3.z.frozen 3
  have z4 := hW3.z.cell 4
  have u4 := hW3.z.frozen 4
  have z5 := hW3.z.cell 5
  have u5 := hW3.z.frozen 5
  have z6 := hW3.z.cell 6
  have u6 := hW3.z.frozen 6
  simp [boxC, acC, St.cells, zeroF] at z0 z1 z2 z3 z4 z5 z6 f0 f1 f2 f3 f4 f5 f6 a0 a1 a2 p1 p3 p5
  have hz0 := hW3.f.lt
  have hz1 := hW3.a.lt
  have hz2 := hW3.z.lt
  obtain ⟨La, hLa⟩ : ∃ x, lastB c.bkd l = x := ⟨_, rfl⟩
  rw [hLa]
  by_cases hbl : b < La
  · have hc : code = 4 := by rw [← HC.out, putC, if_neg (by simp [hr]), if_neg hlen, if_pos (by rw [hLa]; exact hbl)]
    subst hc
    go_wp2_with fail
    exact no_post hW3 (by decide) rfl rfl rfl rfl
  have hst : (o = true ∧ k = 5) ∨ (o = false ∧ k ≠ 5) ∨ (o = true ∧ k ≠ 5) ∨ (o = false ∧ k = 5) := by
    cases o <;> by_cases h5 : k = 5 <;> simp [h5]
  rcases hst with ⟨rfl, rfl⟩ | ⟨rfl, h5⟩ | ⟨rfl, h5⟩ | ⟨rfl, rfl⟩
  · have hc : code = 10 := by rw [← HC.out, putC, if_neg (by simp [hr]), if_neg hlen, if_neg (by rw [hLa]; exact hbl), if_pos (by rw [HS.out]; rfl)]
    subst hc
    go_wp2_with fail
    exact no_post hW3 (by decide) rfl rfl rfl rfl
  · have hc : code = 10 := by rw [← HC.out, putC, if_neg (by simp [hr]), if_neg hlen, if_neg (by rw [hLa]; exact hbl), if_pos (by rw [HS.out]; simp [h5])]
    subst hc
    have h5' : (k == 5) = false := by simpa using h5
    go_wp2_with fail
    exact no_post hW3 (by decide) rfl rfl rfl rfl
  · have h5' : (k == 5) = false := by simpa using h5
    have hok : overB ⟨g, s, bk, true⟩ k m = false → code = 0 := fun ho => by rw [← HC.out, putC, if_neg (by simp [hr]), if_neg hlen, if_neg (by rw [hLa]; exact hbl), if_neg (by rw [HS.out]; simp [h5]), if_neg (by rw [HS.out]; simp only; rw [ho]; simp)]
    have hno : overB ⟨g, s, bk, true⟩ k m = true → code = 5 := fun ho => by rw [← HC.out, putC, if_neg (by simp [hr]), if_neg hlen, if_neg (by rw [hLa]; exact hbl), if_neg (by rw [HS.out]; simp [h5]), if_pos (by rw [HS.out]; exact ho)]
    have hok := hide hok
    have hno := hide hno
    by_cases h2 : k = 2
    · subst h2
      go_wp2_with fail
      · obtain rfl : code = 5 := hno.out (by simp only [overB, decide_eq_true_eq]; exact .inl ⟨trivial, ‹_›⟩)
        exact no_post hW3 (by decide) rfl rfl rfl rfl
      · obtain rfl : code = 0 := hok.out (by simp only [overB, decide_eq_false_iff_not]; omega)
        go_region_law (first
          | (refine step_app rfl (.tmp 61) (.tmp 63) 47 rfl elAc (B := w1.heap.size + 1) (rows := l.map encAc) (A2 := some ⟨_, 0, none⟩) (news := [⟨b, 2, m⟩].map encAc) rfl ?_ rfl rfl ?_ (okAc [⟨b, 2, m⟩]) ?_ ?_ ?_ ?_
             · first | exact ho1 | exact ho1.alloc _
             · first | exact sl_of_blk (Blk.new _ _ (acC b 2 m)) | exact sl_of_blk hnb
             · (simp only [maxLen]; omega)
             · omega
             · (have := hW4.p.lt; simp; try omega)
             intro A2 c2 wb ho2 hg2 ha2
             have hW5 : PutW w c A l.length cap b 2 m ⟨g, s, bk, true⟩ w1.heap.size wb := PutW.grown (by first | exact hW4 | exact hW4.alloc _) hg2 (fun j hj => by have := (ho1.lt j hj).1; omega)
             have hz0 := hW5.f.lt
             have d6 := hW5.f.cell 6
             have v6 := hW5.f.frozen 6
             simp [boxC] at d6)
          | (go_simp
             go_at_call 129
             refine (clone_any A l.length cap l _ (HV.out.below (by first | exact hW3.drew.bel | exact (hW3.drew.alloc _).bel)) (by omega)).mono ?_
             rintro e w4 ⟨A1, c1, rfl, ho1', hb4⟩
             have hW4 : PutW w c A l.length cap b 2 m ⟨g, s, bk, true⟩ w1.heap.size w4 := PutW.below (by first | exact hW3.drew | exact hW3.drew.alloc _) hb4
             have ho1 := ho1'.mono (show w1.heap.size + 1 ≤ _ by have := hW3.p.lt; simp; try omega)
             have hz0 := hW4.f.lt
             have hz1 := hW4.a.lt
             have k0 := hW4.a.cell 0
             have k1 := hW4.a.cell 1
             have k2 := hW4.a.cell 2
             simp [acC] at k0 k1 k2
             try (have hnb : Blk w4 w3.heap.size 95 (acC b 2 m) := (Blk.new w3.drew _ _).below hb4 (by simp))))
        all_goals
          clear f0 f1 f2 f3 f4 f5 f6 a0 a1 a2 p1 p3 p5 z0 z1 z2 z3 z4 z5 z6 u0 u1 u2 u3 u4 u5 u6 k0 k1 k2
          have y0 := hW5.f.cell 0
          have y1 := hW5.f.cell 1
          have y2 := hW5.f.cell 2
          have y3 := hW5.f.cell 3
          have y4 := hW5.f.cell 4
          have y5 := hW5.f.cell 5
          have x0 := hW5.z.cell 0
          have t0 := hW5.z.frozen 0
          have x1 := hW5.z.cell 1
          have t1 := hW5.z.frozen 1
          have x2 := hW5.z.cell 2
          have t2 := hW5.z.frozen 2
          have x3 := hW5.z.cell 3
          have t3 := hW5.z.frozen 3
          have x4 := hW5.z.cell 4
          have t4 := hW5.z.frozen 4
          have x5 := hW5.z.cell 5
          have t5 := hW5.z.frozen 5
          have x6 := hW5.z.cell 6
          have t6 := hW5.z.frozen 6
          have hzz := hW5.z.lt
          simp [boxC, zeroF] at y0 y1 y2 y3 y4 y5 x0 x1 x2 x3 x4 x5 x6
          go_wp2_with fail
          exact yes_post hW5 (by rw [List.map_append]; exact ho2) (by omega) rfl rfl rfl rfl rfl
    by_cases h3 : k = 3
    · subst h3
      go_wp2_with fail
      · obtain rfl : code = 5 := hno.out (by simp only [overB, decide_eq_true_eq]; exact .inr ⟨trivial, ‹_›⟩)
        exact no_post hW3 (by decide) rfl rfl rfl rfl
      · obtain rfl : code = 0 := hok.out (by simp only [overB, decide_eq_false_iff_not]; omega)
        go_region_law (first
          | (refine step_app rfl (.tmp 61) (.tmp 63) 47 rfl elAc (B := w1.heap.size + 1) (rows := l.map encAc) (A2 := some ⟨_, 0, none⟩) (news := [⟨b, 3, m⟩].map encAc) rfl ?_ rfl rfl ?_ (okAc [⟨b, 3, m⟩]) ?_ ?_ ?_ ?_
             · first | exact ho1 | exact ho1.alloc _
             · first | exact sl_of_blk (Blk.new _ _ (acC b 3 m)) | exact sl_of_blk hnb
             · (simp only [maxLen]; omega)
             · omega
             · (have := hW4.p.lt; simp; try omega)
             intro A2 c2 wb ho2 hg2 ha2
             have hW5 : PutW w c A l.length cap b 3 m ⟨g, s, bk, true⟩ w1.heap.size wb := PutW.grown (by first | exact hW4 | exact hW4.alloc _) hg2 (fun j hj => by have := (ho1.lt j hj).1; omega)
             have hz0 := hW5.f.lt
             have d6 := hW5.f.cell 6
             have v6 := hW5.f.frozen 6
             simp [boxC] at d6)
          | (go_simp
             go_at_call 129
             refine (clone_any A l.length cap l _ (HV.out.below (by first | exact hW3.drew.bel | exact (hW3.drew.alloc _).bel)) (by omega)).mono ?_
             rintro e w4 ⟨A1, c1, rfl, ho1', hb4⟩
             have hW4 : PutW w c A l.length cap b 3 m ⟨g, s, bk, true⟩ w1.heap.size w4 := PutW.below (by first | exact hW3.drew | exact hW3.drew.alloc _) hb4
             have ho1 := ho1'.mono (show w1.heap.size + 1 ≤ _ by have := hW3.p.lt; simp; try omega)
             have hz0 := hW4.f.lt
             have hz1 := hW4.a.lt
             have k0 := hW4.a.cell 0
             have k1 := hW4.a.cell 1
             have k2 := hW4.a.cell 2
             simp [acC] at k0 k1 k2
             try (have hnb : Blk w4 w3.heap.size 95 (acC b 3 m) := (Blk.new w3.drew _ _).below hb4 (by simp))))
        all_goals
          clear f0 f1 f2 f3 f4 f5 f6 a0 a1 a2 p1 p3 p5 z0 z1 z2 z3 z4 z5 z6 u0 u1 u2 u3 u4 u5 u6 k0 k1 k2
          have y0 := hW5.f.cell 0
          have y1 := hW5.f.cell 1
          have y2 := hW5.f.cell 2
          have y3 := hW5.f.cell 3
          have y4 := hW5.f.cell 4
          have y5 := hW5.f.cell 5
          have x0 := hW5.z.cell 0
          have t0 := hW5.z.frozen 0
          have x1 := hW5.z.cell 1
          have t1 := hW5.z.frozen 1
          have x2 := hW5.z.cell 2
          have t2 := hW5.z.frozen 2
          have x3 := hW5.z.cell 3
          have t3 := hW5.z.frozen 3
          have x4 := hW5.z.cell 4
          have t4 := hW5.z.frozen 4
          have x5 := hW5.z.cell 5
          have t5 := hW5.z.frozen 5
          have x6 := hW5.z.cell 6
          have t6 := hW5.z.frozen 6
          have hzz := hW5.z.lt
          simp [boxC, zeroF] at y0 y1 y2 y3 y4 y5 x0 x1 x2 x3 x4 x5 x6
          go_wp2_with fail
          exact yes_post hW5 (by rw [List.map_append]; exact ho2) (by omega) rfl rfl rfl rfl rfl
    · have h2' : (k == 2) = false := by simpa using h2
      have h3' : (k == 3) = false := by simpa using h3
      obtain rfl : code = 0 := hok.out (by simp only [overB, decide_eq_false_iff_not]; omega)
      go_wp2_with fail
      go_region_law (first
        | (refine step_app rfl (.tmp 61) (.tmp 63) 47 rfl elAc (B := w1.heap.size + 1) (rows := l.map encAc) (A2 := some ⟨_, 0, none⟩) (news := [⟨b, k, m⟩].map encAc) rfl ?_ rfl rfl ?_ (okAc [⟨b, k, m⟩]) ?_ ?_ ?_ ?_
           · first | exact ho1 | exact ho1.alloc _
           · first | exact sl_of_blk (Blk.new _ _ (acC b k m)) | exact sl_of_blk hnb
           · (simp only [maxLen]; omega)
           · omega
           · (have := hW4.p.lt; simp; try omega)
           intro A2 c2 wb ho2 hg2 ha2
           have hW5 : PutW w c A l.length cap b k m ⟨g, s, bk, true⟩ w1.heap.size wb := PutW.grown (by first | exact hW4 | exact hW4.alloc _) hg2 (fun j hj => by have := (ho1.lt j hj).1; omega)
           have hz0 := hW5.f.lt
           have d6 := hW5.f.cell 6
           have v6 := hW5.f.frozen 6
           simp [boxC] at d6)
        | (go_simp
           go_at_call 129
           refine (clone_any A l.length cap l _ (HV.out.below (by first | exact hW3.drew.bel | exact (hW3.drew.alloc _).bel)) (by omega)).mono ?_
           rintro e w4 ⟨A1, c1, rfl, ho1', hb4⟩
           have hW4 : PutW w c A l.length cap b k m ⟨g, s, bk, true⟩ w1.heap.size w4 := PutW.below (by first | exact hW3.drew | exact hW3.drew.alloc _) hb4
           have ho1 := ho1'.mono (show w1.heap.size + 1 ≤ _ by have := hW3.p.lt; simp; try omega)
           have hz0 := hW4.f.lt
           have hz1 := hW4.a.lt
           have k0 := hW4.a.cell 0
           have k1 := hW4.a.cell 1
           have k2 := hW4.a.cell 2
           simp [acC] at k0 k1 k2
           try (have hnb : Blk w4 w3.heap.size 95 (acC b k m) := (Blk.new w3.drew _ _).below hb4 (by simp))))
      all_goals
        clear f0 f1 f2 f3 f4 f5 f6 a0 a1 a2 p1 p3 p5 z0 z1 z2 z3 z4 z5 z6 u0 u1 u2 u3 u4 u5 u6 k0 k1 k2
        have y0 := hW5.f.cell 0
        have y1 := hW5.f.cell 1
        have y2 := hW5.f.cell 2
        have y3 := hW5.f.cell 3
        have y4 := hW5.f.cell 4
        have y5 := hW5.f.cell 5
        have x0 := hW5.z.cell 0
        have t0 := hW5.z.frozen 0
        have x1 := hW5.z.cell 1
        have t1 := hW5.z.frozen 1
        have x2 := hW5.z.cell 2
        have t2 := hW5.z.frozen 2
        have x3 := hW5.z.cell 3
        have t3 := hW5.z.frozen 3
        have x4 := hW5.z.cell 4
        have t4 := hW5.z.frozen 4
        have x5 := hW5.z.cell 5
        have t5 := hW5.z.frozen 5
        have x6 := hW5.z.cell 6
        have t6 := hW5.z.frozen 6
        have hzz := hW5.z.lt
        simp [boxC, zeroF] at y0 y1 y2 y3 y4 y5 x0 x1 x2 x3 x4 x5 x6
        go_wp2_with fail
        exact yes_post hW5 (by rw [List.map_append]; exact ho2) (by omega) rfl rfl rfl rfl rfl
  · obtain rfl : code = 0 := by rw [← HC.out, putC, if_neg (by simp [hr]), if_neg hlen, if_neg (by rw [hLa]; exact hbl), if_neg (by rw [HS.out]; simp), if_neg (by simp [overB])]
    go_wp2_with fail
    go_region_law (first
      | (refine step_app rfl (.tmp 61) (.tmp 63) 47 rfl elAc (B := w1.heap.size + 1) (rows := l.map encAc) (A2 := some ⟨_, 0, none⟩) (news := [⟨b, 5, m⟩].map encAc) rfl ?_ rfl rfl ?_ (okAc [⟨b, 5, m⟩]) ?_ ?_ ?_ ?_
         · first | exact ho1 | exact ho1.alloc _
         · first | exact sl_of_blk (Blk.new _ _ (acC b 5 m)) | exact sl_of_blk hnb
         · (simp only [maxLen]; omega)
         · omega
         · (have := hW4.p.lt; simp; try omega)
         intro A2 c2 wb ho2 hg2 ha2
         have hW5 : PutW w c A l.length cap b 5 m ⟨g, s, bk, false⟩ w1.heap.size wb := PutW.grown (by first | exact hW4 | exact hW4.alloc _) hg2 (fun j hj => by have := (ho1.lt j hj).1; omega)
         have hz0 := hW5.f.lt
         have d6 := hW5.f.cell 6
         have v6 := hW5.f.frozen 6
         simp [boxC] at d6)
      | (go_simp
         go_at_call 129
         refine (clone_any A l.length cap l _ (HV.out.below (by first | exact hW3.drew.bel | exact (hW3.drew.alloc _).bel)) (by omega)).mono ?_
         rintro e w4 ⟨A1, c1, rfl, ho1', hb4⟩
         have hW4 : PutW w c A l.length cap b 5 m ⟨g, s, bk, false⟩ w1.heap.size w4 := PutW.below (by first | exact hW3.drew | exact hW3.drew.alloc _) hb4
         have ho1 := ho1'.mono (show w1.heap.size + 1 ≤ _ by have := hW3.p.lt; simp; try omega)
         have hz0 := hW4.f.lt
         have hz1 := hW4.a.lt
         have k0 := hW4.a.cell 0
         have k1 := hW4.a.cell 1
         have k2 := hW4.a.cell 2
         simp [acC] at k0 k1 k2
         try (have hnb : Blk w4 w3.heap.size 95 (acC b 5 m) := (Blk.new w3.drew _ _).below hb4 (by simp))))
    all_goals
      clear f0 f1 f2 f3 f4 f5 f6 a0 a1 a2 p1 p3 p5 z0 z1 z2 z3 z4 z5 z6 u0 u1 u2 u3 u4 u5 u6 k0 k1 k2
      have y0 := hW5.f.cell 0
      have y1 := hW5.f.cell 1
      have y2 := hW5.f.cell 2
      have y3 := hW5.f.cell 3
      have y4 := hW5.f.cell 4
      have y5 := hW5.f.cell 5
      have x0 := hW5.z.cell 0
      have t0 := hW5.z.frozen 0
      have x1 := hW5.z.cell 1
      have t1 := hW5.z.frozen 1
      have x2 := hW5.z.cell 2
      have t2 := hW5.z.frozen 2
      have x3 := hW5.z.cell 3
      have t3 := hW5.z.frozen 3
      have x4 := hW5.z.cell 4
      have t4 := hW5.z.frozen 4
      have x5 := hW5.z.cell 5
      have t5 := hW5.z.frozen 5
      have x6 := hW5.z.cell 6
      have t6 := hW5.z.frozen 6
      have hzz := hW5.z.lt
      simp [boxC, zeroF] at y0 y1 y2 y3 y4 y5 x0 x1 x2 x3 x4 x5 x6
      go_wp2_with fail
      exact yes_post hW5 (by rw [List.map_append]; exact ho2) (by omega) rfl rfl rfl rfl rfl
end Go.Proofs.YtmfohnchnbgbaaaGreat

/- The arguments of the laws of layer 18, opened. -/
namespace Go.Proofs.YtmfohnchnbgbaaaGreat
open Go.ChangeShapes Go.WideShapes Go.ChangeAt Go.RowKit

theorem cells_act : Tryz.prog.cellsOf 95 = 3 := by kernel_rfl
theorem cells_file : Tryz.prog.cellsOf 49 = 7 := by kernel_rfl
theorem leaves_act : leaves Tryz.prog 2 95 = some [.int .i64, .int .i64, .int .i64] := by kernel_rfl
theorem leaves_file : leaves Tryz.prog 3 49 = some [.int .i64, .int .i64, .int .i64, .int .i64, .int .i64, .int .i64, .slice 95] := by kernel_rfl

section
variable {H : Type} {enc : TypeId × Value → H} {W : World} {r : Reach} {b0 : Nat} {v : Value} {d : DataW H} {p : List MemPlace}
theorem rows_acts {v : Value} (h : LeafOk enc Tryz.prog W (.slice 95) v) :
    ∃ (A : Option Addr) (l : List Ac) (cap : Nat), v = .slice A l.length cap ∧ SV W 3 A l.length cap (l.map encAc) := by
  obtain ⟨A, l, cap, hv, h1, h2, h3, _, h5⟩ := rows_of enc Tryz.prog W (α := Ac) 2 3 encAc (fun _ => True) leaves_act cells_act rfl (by omega) (fun cs hl => by
    obtain ⟨n1, l1, rfl, w1, h1⟩ := leaf_int enc _ _ hl
    obtain ⟨n2, l2, rfl, w2, h2⟩ := leaf_int enc _ _ h1
    obtain ⟨n3, l3, rfl, w3, h3⟩ := leaf_int enc _ _ h2
    obtain rfl := allLeaf_nil enc _ _ h3
    exact ⟨⟨n1, n2, n3⟩, rfl, trivial⟩) h
  exact ⟨A, l, cap, hv, ⟨h3, List.length_map _, h1, h2, h5⟩⟩
end
end Go.Proofs.YtmfohnchnbgbaaaGreat

/- Plain facts: what a file is that was made act by act; what was known of it on a day. -/
namespace Go.Proofs.YtmfohnchnbgbaaaGreat
open Go.RowKit

theorem right_parts {a : Ac} (h : rightB_Claim a = true) : 1 ≤ a.b ∧ a.b ≤ 292194 ∧ 1 ≤ a.k ∧ a.k ≤ 5 ∧ 0 ≤ a.m ∧ a.m ≤ 1000000000000000 ∧ ((a.k = 4 ∨ a.k = 5) → a.m = 0) := by
  simp only [rightB_Claim, wiB, Bool.and_eq_true, decide_eq_true_eq] at h
  obtain ⟨⟨⟨h1, h2⟩, h3, h4⟩, h5, h6⟩ := h
  by_cases hk : a.k = 4 ∨ a.k = 5
  · rw [if_pos hk] at h6
    refine ⟨h1, h2, h3, h4, h5, by omega, fun _ => by omega⟩
  · rw [if_neg hk] at h6
    exact ⟨h1, h2, h3, h4, h5, h6, fun h => absurd h hk⟩
theorem putC_zero {bkd : Int} {l : List Ac} {a : Ac} (h : putC bkd l a = 0) : rightB_Claim a = true ∧ l.length < 2000 ∧ lastB bkd l ≤ a.b ∧ (standP l).o = decide (a.k ≠ 5) ∧ overB (standP l) a.k a.m = false := by
  unfold putC at h
  by_cases h1 : rightB_Claim a = false
  · rw [if_pos h1] at h; omega
  rw [if_neg h1] at h
  by_cases h2 : 2000 ≤ l.length
  · rw [if_pos h2] at h; omega
  rw [if_neg h2] at h
  by_cases h3 : a.b < lastB bkd l
  · rw [if_pos h3] at h; omega
  rw [if_neg h3] at h
  by_cases h4 : (standP l).o = decide (a.k = 5)
  · rw [if_pos h4] at h; omega
  rw [if_neg h4] at h
  by_cases h5 : overB (standP l) a.k a.m = true
  · rw [if_pos h5] at h; omega
  refine ⟨by simpa using h1, by omega, by omega, ?_, by simpa using h5⟩
  by_cases hk : a.k = 5
  · simp [hk] at h4 ⊢; exact h4
  · simp [hk] at h4 ⊢; exact h4
/-- What was known on a day. -/
def atL_Claim (d : Int) (l : List Ac) : List Ac := l.filter fun a => decide (a.b ≤ d)
end Go.Proofs.YtmfohnchnbgbaaaGreat

/- Files: how they begin, the common example, one act more with its code known. -/
namespace Go.Proofs.YtmfohnchnbgbaaaGreat
open Go.RowKit

theorem sv_nil_Claim (w : World) : SV w 3 none 0 0 (([] : List Ac).map encAc) := ⟨Sl.nil_, rfl, Nat.le_refl _, by simp [maxLen], fun _ => rfl⟩

set_option maxHeartbeats 1000000 in
set_option maxRecDepth 100000 in
theorem open_any (c : Cl) (w : World) : Calls Tryz.prog 197 #[.agg #[.int .i64 c.id, .int .i64 c.pol, .int .i64 c.per, .int .i64 c.loss, .int .i64 c.bkd, .int .i64 c.ev]] w
    fun e w' => e = .returned (.agg #[.int .i64 c.id, .int .i64 c.pol, .int .i64 c.per, .int .i64 c.loss, .int .i64 c.bkd, .int .i64 c.ev, .slice none 0 0]) ∧ Below w.heap.size w w' := by
  go_enter Tryz.func197, Tryz.ntmps197
  go_wp2_with fail
  exact ret_row (p := 2) (ty := 49) (g := w.heap.size + 1) (t := 49) rfl rfl rfl (Blk.new' (w := w.alloc _) (by simp)) Tryz.underlying49 rfl (by kernel_rfl) ⟨rfl, ((Below.refl _ _).alloc (Nat.le_refl _) _).alloc (by simp) _⟩
/-- A file with one act more. -/
def OkPost (w : World) (c : Cl) (l : List Ac) (n : Nat) (e : Ending) (w' : World) : Prop :=
  ∃ A' c', e = .returned (.tuple #[.agg #[.int .i64 c.id, .int .i64 c.pol, .int .i64 c.per, .int .i64 c.loss, .int .i64 c.bkd, .int .i64 c.ev, .slice A' n c'], .int .i64 0]) ∧ SV w' 3 A' n c' (l.map encAc) ∧ Below w.heap.size w w' ∧ ∀ kk, blk A' = some kk → w.heap.size ≤ kk
def NoPost (w : World) (code : Int) (e : Ending) (w' : World) : Prop :=
  e = .returned (.tuple #[.agg #[.int .i64 0, .int .i64 0, .int .i64 0, .int .i64 0, .int .i64 0, .int .i64 0, .slice none 0 0], .int .i64 code]) ∧ Below w.heap.size w w'
theorem put_ok {c : Cl} {A : Option Addr} {n cap : Nat} {l : List Ac} {b k m : Int} {w : World} (hv : SV w 3 A n cap (l.map encAc)) (hm : n ≤ 2000) (hc : putC c.bkd l ⟨b, k, m⟩ = 0) :
    Calls Tryz.prog 198 #[.agg #[.int .i64 c.id, .int .i64 c.pol, .int .i64 c.per, .int .i64 c.loss, .int .i64 c.bkd, .int .i64 c.ev, .slice A n cap], .agg #[.int .i64 b, .int .i64 k, .int .i64 m]] w (OkPost w c (l ++ [⟨b, k, m⟩]) (n + 1)) := by
  have hn : l.length = n := by have := hv.len; simpa using this
  subst hn
  refine (put_any c A cap l b k m w hv (by omega)).mono fun e w' ⟨hb, h⟩ => ?_
  rw [hc] at h
  rcases h with ⟨h, _⟩ | ⟨_, A', c', he, hs, hf⟩
  · exact absurd rfl h
  · exact ⟨A', c', he, hs, hb, hf⟩
theorem put_no {c : Cl} {A : Option Addr} {n cap : Nat} {l : List Ac} {b k m : Int} {w : World} {code : Int} (hv : SV w 3 A n cap (l.map encAc)) (hm : n ≤ 9223372036854775807) (hc : putC c.bkd l ⟨b, k, m⟩ = code) (h0 : code ≠ 0) :
    Calls Tryz.prog 198 #[.agg #[.int .i64 c.id, .int .i64 c.pol, .int .i64 c.per, .int .i64 c.loss, .int .i64 c.bkd, .int .i64 c.ev, .slice A n cap], .agg #[.int .i64 b, .int .i64 k, .int .i64 m]] w (NoPost w code) := by
  have hn : l.length = n := by have := hv.len; simpa using this
  subst hn
  refine (put_any c A cap l b k m w hv hm).mono fun e w' ⟨hb, h⟩ => ?_
  rw [hc] at h
  rcases h with ⟨_, he⟩ | ⟨h, _⟩
  · exact ⟨he, hb⟩
  · exact absurd h h0
theorem Stand_n {c : Cl} {A : Option Addr} {n cap : Nat} {l : List Ac} {w : World} {p : St} (hv : SV w 3 A n cap (l.map encAc)) (hm : n ≤ 9223372036854775807) (hp : standP l = p) :
    Calls Tryz.prog 29 #[.agg #[.int .i64 c.id, .int .i64 c.pol, .int .i64 c.per, .int .i64 c.loss, .int .i64 c.bkd, .int .i64 c.ev, .slice A n cap]] w
      fun e w' => e = .returned (.agg #[.int .i64 (max p.g p.s), .int .i64 p.s, .int .i64 0, .int .i64 p.b, .int .i64 0, .bool p.o]) ∧ Below w.heap.size w w' := by
  have hn : l.length = n := by have := hv.len; simpa using this
  subst hn; subst hp
  exact Stand_any c A cap l w hv.sl hm

end Go.Proofs.YtmfohnchnbgbaaaGreat

/- Which triangles may be: the document's walk; the last cells. -/
namespace Go.Proofs.YtmfohnchnbgbaaaGreat
open Go.RowKit

theorem elInt : ElT Tryz.prog 39 3 1 8 := ElT.mk' (z := .int .i64 0) Tryz.underlying39 (by kernel_rfl) rfl (by omega)
theorem okI (l : List Int) : RowsOk 1 (l.map encI) := by
  intro r hr
  obtain ⟨x, _, rfl⟩ := List.mem_map.1 hr
  refine ⟨rfl, fun u hu => ?_⟩
  simp [encI] at hu
  subst hu; rfl

/-- The last cells, row by row. -/
def lastI (l : List Int) : Int := l.getLast?.getD 0
def diagL (f : Int) (c : List (List Int)) : List Int := if rightC f c = true then c.map lastI else []
theorem right_row {f : Int} {c : List (List Int)} (h : rightC f c = true) {i : Nat} {l : List Int} (hx : c[i]? = some l) : l.length = c.length - i ∧ ∀ v ∈ l, 0 ≤ v ∧ v ≤ 100000000000000000 := by
  rw [rightC, Bool.and_eq_true] at h
  have := (rowsB_iff c c.length).1 h.2 i l hx
  simp only [goodRow, Bool.and_eq_true, decide_eq_true_eq, List.all_eq_true, okV] at this
  exact this
def DiagPost (w : World) (D : List Int) (e : Ending) (w' : World) : Prop := ∃ A' c', e = .returned (.slice A' D.length c') ∧ SV w' 1 A' D.length c' (D.map encI) ∧ Below w.heap.size w w'

set_option maxRecDepth 100000 in
set_option maxHeartbeats 2000000 in
theorem diag_any (f : Int) (A : Option Addr) (cap : Nat) (M : List Rw) (w : World) (hs : MV w A M.length cap M) (hf : ok64 f) :
    Calls Tryz.prog 12 #[.agg #[.int .i64 f, .slice A M.length cap]] w (DiagPost w (diagL f (allM M))) := by
  have HS := hide hs
  clear hs
  go_enter Tryz.func12, Tryz.ntmps12
  go_wp2_with fail
  refine (right_any f A cap M _ (HS.out.below ((Below.refl _ _).alloc (Nat.le_refl _) _)) hf).mono ?_
  rintro e w1 ⟨rfl, hb1⟩
  have k1 := kept hb1 (b := w.heap.size) (o := 1) (u := .slice A M.length cap) (by simp)
  have h1 : Below w.heap.size w w1 := chain1 hb1
  clear hb1
  cases hr : rightC f (allM M)
  · have HD := hide (show diagL f (allM M) = [] by rw [diagL, if_neg (by simp [hr])])
    go_wp2_with fail
    go_ret
    rw [HD.out]
    exact ⟨none, 0, rfl, ⟨Sl.nil_, rfl, Nat.le_refl _, by simp [maxLen], fun _ => rfl⟩, h1⟩
  have HD := hide (show diagL f (allM M) = (allM M).map lastI by rw [diagL, if_pos hr])
  have HRR := hide (fun (i : Nat) (l : List Int) (h : (allM M)[i]? = some l) => (right_row hr h).1)
  have hM20 : M.length ≤ 20 := by rw [rightC, Bool.and_eq_true, allM_len] at hr; have := hr.1; simp only [boundsB, decide_eq_true_eq] at this; omega
  go_wp2_with fail
  go_loopw [3, 12] (fun t i wr => ∃ (k : Nat) (A' : Option Addr) (cap' : Nat), k ≤ M.length ∧ i = .int .i64 k ∧ t = .slice A' k cap' ∧ OwnS wr w.heap.size 3 1 A' k cap' ((((allM M).take k).map lastI).map encI) ∧ Below w.heap.size w wr) (fun _ i _ => M.length - (intOf i).toNat)
  case atStart => exact ⟨0, none, 0, Nat.zero_le _, rfl, rfl, OwnS.nil_ _ _ _ _, h1⟩
  case round =>
    clear h1 k1
    obtain ⟨k, A', cap', hk, rfl, rfl, ho, hb⟩ := hrel
    by_cases hlt : k < M.length
    · obtain ⟨⟨B, l, bc⟩, hx⟩ := get_of hlt
      have hbs := HS.out.below hb
      obtain ⟨bb, off, rfl, hbl, hc⟩ := hbs.sv.sl.rw hx
      have hrow := hbs.rows _ (List.mem_of_getElem? hx)
      have hlen := HRR.out k l (allM_get hx)
      rw [allM_len] at hlen
      simp only at hc hrow
      obtain ⟨v, hv⟩ := get_of (l := l) (k := l.length - 1) (by omega)
      obtain ⟨b2, off2, rfl, hbl2, hcv⟩ := hrow.sl.i hv
      have hlv : lastI l = v := by rw [lastI, List.getLast?_eq_getElem?, hv]; rfl
      have hk0 : (0 : Int) ≤ (k : Int) := by omega
      have hk1 : (k : Int) < (M.length : Int) := by omega
      have hl1 : (1 : Int) ≤ (l.length : Int) := by omega
      have hl2 : l.length ≤ 20 := by omega
      have hsz := hb.size
      have HT := hide (show ((allM M).take (k + 1)).map lastI = ((allM M).take k).map lastI ++ [v] by rw [take_of (allM_get hx), List.map_append]; simp [hlv])
      have HO := hide ho
      clear hx ho hrow hlen hv hlv hbs
      go_wp2_with (at_builtin
                   refine wpList_app rfl (.tmp 16) (.tmp 23) 39 rfl elInt (B := w.heap.size) (A2 := some ⟨_, 0, none⟩) (news := [v].map encI) rfl (HO.out.alloc _) rfl rfl ?_ (okI [v]) ?_ ?_ ?_ ?_
                   · exact sl_of_blk (cs := #[.int .i64 v]) (Blk.new _ _ _)
                   · simp only [maxLen]; omega
                   · omega
                   · simp; omega
                   intro A1 c1 wa ho1 hg1 ha1
                   have hba : Below w.heap.size w wa := (hb.alloc hb.size _).grown hg1 (by simp; omega) (fun kk hk => (HO.out.lt kk hk).1)
                   clear hg1 ha1)
      go_roundw
      case rel => exact ⟨k + 1, A1, c1, by omega, by go_num, rfl, by rw [HT.out, List.map_append]; exact ho1, hba⟩
      case measure => simp [intOf]; omega
    · obtain rfl : k = M.length := by omega
      rw [List.take_of_length_le (by rw [allM_len]; exact Nat.le_refl _)] at ho
      have HO := hide ho
      clear ho
      go_wp2_with fail
      go_ret
      rw [HD.out]
      have hl : ((allM M).map lastI).length = M.length := by rw [List.length_map, allM_len]
      exact ⟨A', cap', by rw [hl]; rfl, by rw [hl]; exact HO.out.sv, hb⟩
end Go.Proofs.YtmfohnchnbgbaaaGreat
