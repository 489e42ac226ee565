/- What is put into a file: the program's walk. -/
import Derived.Test.YtmeneojgdbjlnaaClaimPutD
import Derived.Deep.RegionLaw
import Derived.Deep.RegionHeld3
namespace Go.Proofs.Ytmeneojgdbjlnaa
open Go.RowKit

set_option maxRecDepth 100000 in
set_option maxHeartbeats 4000000 in
theorem put_any (c : Cl) (A : Option Addr) (cap : Nat) (l : List Ac) (b k m : Int) (w : World) (hv : SV w 3 A l.length cap (l.map encAc)) (hm : l.length ≤ 9223372036854775807) :
    Calls Try.prog 16 #[.agg #[.int .i64 c.id, .int .i64 c.pol, .int .i64 c.per, .int .i64 c.loss, .int .i64 c.bkd, .int .i64 c.ev, .slice A l.length cap], .agg #[.int .i64 b, .int .i64 k, .int .i64 m]] w (PutPost w c l ⟨b, k, m⟩ (putC c.bkd l ⟨b, k, m⟩)) := by
  have HV := hide hv
  clear hv
  obtain ⟨code, hcode⟩ : ∃ x, putC c.bkd l ⟨b, k, m⟩ = x := ⟨_, rfl⟩
  rw [hcode]
  have HC := hide hcode
  clear hcode
  go_enter Try.func16, Try.ntmps16
  go_wp2_with fail
  refine (stand_any c A cap l _ ((HV.out.sl.below ((((Below.refl _ _).alloc (Nat.le_refl _) _).alloc (by simp) _).alloc (by simp; omega) _)).more (by simp; omega)) hm).mono ?_
  rintro e w1 ⟨rfl, hb1⟩
  rcases hst : standP l with ⟨g, s, bk, o⟩
  have HS := hide hst
  clear hst
  simp only [St.cells]
  have hW1 : PutW w c A l.length cap b k m ⟨g, s, bk, o⟩ w1.heap.size (w1.alloc (.cells #[.int .i64 g, .int .i64 s, .int .i64 0, .int .i64 bk, .int .i64 0, .bool o] 53)) := by
    have hs := hb1.size
    simp at hs
    exact ⟨(((((Blk.new' (w := w) rfl).alloc _).alloc _).below hb1 (by simp <;> omega))).alloc _, ((((Blk.new' (w := w.alloc _) (by simp)).alloc _).below hb1 (by simp <;> omega))).alloc _, (((Blk.new' (w := (w.alloc _).alloc _) (by simp)).below hb1 (by simp))).alloc _, Blk.new _ _ _, by omega,
      (chain ((((Below.refl _ _).alloc (Nat.le_refl _) _).alloc (by simp) _).alloc (by simp <;> omega) _) hb1).alloc (by omega) _⟩
  have f0 := hW1.f.cell 0
  have f6 := hW1.f.cell 6
  have a0 := hW1.a.cell 0
  have a1 := hW1.a.cell 1
  have a2 := hW1.a.cell 2
  simp [boxC, acC] at f0 f6 a0 a1 a2
  go_wp2_with fail
  refine (right_any b k m _).mono ?_
  rintro e w2 ⟨rfl, hb2⟩
  have hW2 := hW1.below hb2
  clear f0 f6 a0 a1 a2 hW1 hb1 hb2
  have f0 := hW2.f.cell 0
  have f1 := hW2.f.cell 1
  have f2 := hW2.f.cell 2
  have f3 := hW2.f.cell 3
  have f4 := hW2.f.cell 4
  have f5 := hW2.f.cell 5
  have f6 := hW2.f.cell 6
  have a0 := hW2.a.cell 0
  have a1 := hW2.a.cell 1
  have a2 := hW2.a.cell 2
  have p1 := hW2.p.cell 1
  have p3 := hW2.p.cell 3
  have p5 := hW2.p.cell 5
  have z0 := hW2.z.cell 0
  have u0 := hW2.z.frozen 0
  have z1 := hW2.z.cell 1
  have u1 := hW2.z.frozen 1
  have z2 := hW2.z.cell 2
  have u2 := hW2.z.frozen 2
  have z3 := hW2.z.cell 3
  have u3 := hW2.z.frozen 3
  have z4 := hW2.z.cell 4
  have u4 := hW2.z.frozen 4
  have z5 := hW2.z.cell 5
  have u5 := hW2.z.frozen 5
  have z6 := hW2.z.cell 6
  have u6 := hW2.z.frozen 6
  simp [boxC, acC, St.cells, zeroF] at z0 z1 z2 z3 z4 z5 z6 f0 f1 f2 f3 f4 f5 f6 a0 a1 a2 p1 p3 p5
  cases hr : rightB ⟨b, k, m⟩
  · have hc : code = 1 := by rw [← HC.out, putC, if_pos hr]
    subst hc
    go_wp2_with fail
    exact no_post hW2 (by decide) rfl rfl rfl rfl
  by_cases hlen : 2000 ≤ l.length
  · have hc : code = 2 := by rw [← HC.out, putC, if_neg (by simp [hr]), if_pos hlen]
    subst hc
    have hlen' : (2000 : Int) ≤ l.length := by omega
    go_wp2_with fail
    exact no_post hW2 (by decide) rfl rfl rfl rfl
  have hlen' : (l.length : Int) < 2000 := by omega
  go_wp2_with fail
  clear z0 z1 z2 z3 z4 z5 z6 u0 u1 u2 u3 u4 u5 u6
  go_region_held3 (fun w' => w'.cell? ⟨w.heap.size, 0, none⟩ = some (.int .i64 c.id) ∧ w'.cell? ⟨w.heap.size, 1, none⟩ = some (.int .i64 c.pol) ∧ w'.cell? ⟨w.heap.size, 2, none⟩ = some (.int .i64 c.per) ∧ w'.cell? ⟨w.heap.size, 3, none⟩ = some (.int .i64 c.loss) ∧ w'.cell? ⟨w.heap.size, 4, none⟩ = some (.int .i64 c.bkd) ∧ w'.cell? ⟨w.heap.size, 5, none⟩ = some (.int .i64 c.ev) ∧ w'.cell? ⟨w.heap.size, 6, none⟩ = some (.slice A l.length cap) ∧ w'.cell? ⟨w.heap.size + 1, 0, none⟩ = some (.int .i64 b)) (go_keep)
    (first | (go_at_call 28
              refine (last_any c A cap l _ ((HV.out.below hW2.drew.bel).sl) hm).mono ?_
              rintro e w3 ⟨rfl, hb3⟩
              have q0 := kept hb3 f0
              have q1 := kept hb3 f1
              have q2 := kept hb3 f2
              have q3 := kept hb3 f3
              have q4 := kept hb3 f4
              have q5 := kept hb3 f5
              have q6 := kept hb3 f6
              have r0 := kept hb3 a0))
  have hW3 := hW2.drew.below hb3
  clear f0 f1 f2 f3 f4 f5 f6 a0 a1 a2 p1 p3 p5 q0 q1 q2 q3 q4 q5 q6 r0 hW2 hb3
  have f0 := hW3.f.cell 0
  have f1 := hW3.f.cell 1
  have f2 := hW3.f.cell 2
  have f3 := hW3.f.cell 3
  have f4 := hW3.f.cell 4
  have f5 := hW3.f.cell 5
  have f6 := hW3.f.cell 6
  have a0 := hW3.a.cell 0
  have a1 := hW3.a.cell 1
  have a2 := hW3.a.cell 2
  have p1 := hW3.p.cell 1
  have p3 := hW3.p.cell 3
  have p5 := hW3.p.cell 5
  have z0 := hW3.z.cell 0
  have u0 := hW3.z.frozen 0
  have z1 := hW3.z.cell 1
  have u1 := hW3.z.frozen 1
  have z2 := hW3.z.cell 2
  have u2 := hW3.z.frozen 2
  have z3 := hW3.z.cell 3
  have u3 := hW3.z.frozen 3
  have z4 := hW3.z.cell 4
  have u4 := hW3.z.frozen 4
  have z5 := hW3.z.cell 5
  have u5 := hW3.z.frozen 5
  have z6 := hW3.z.cell 6
  have u6 := hW3.z.frozen 6
  simp [boxC, acC, St.cells, zeroF] at z0 z1 z2 z3 z4 z5 z6 f0 f1 f2 f3 f4 f5 f6 a0 a1 a2 p1 p3 p5
  have hz0 := hW3.f.lt
  have hz1 := hW3.a.lt
  have hz2 := hW3.z.lt
  obtain ⟨La, hLa⟩ : ∃ x, lastB c.bkd l = x := ⟨_, rfl⟩
  rw [hLa]
  by_cases hbl : b < La
  · have hc : code = 4 := by rw [← HC.out, putC, if_neg (by simp [hr]), if_neg hlen, if_pos (by rw [hLa]; exact hbl)]
    subst hc
    go_wp2_with fail
    exact no_post hW3 (by decide) rfl rfl rfl rfl
  have hst : (o = true ∧ k = 5) ∨ (o = false ∧ k ≠ 5) ∨ (o = true ∧ k ≠ 5) ∨ (o = false ∧ k = 5) := by
    cases o <;> by_cases h5 : k = 5 <;> simp [h5]
  rcases hst with ⟨rfl, rfl⟩ | ⟨rfl, h5⟩ | ⟨rfl, h5⟩ | ⟨rfl, rfl⟩
  · have hc : code = 10 := by rw [← HC.out, putC, if_neg (by simp [hr]), if_neg hlen, if_neg (by rw [hLa]; exact hbl), if_pos (by rw [HS.out]; rfl)]
    subst hc
    go_wp2_with fail
    exact no_post hW3 (by decide) rfl rfl rfl rfl
  · have hc : code = 10 := by rw [← HC.out, putC, if_neg (by simp [hr]), if_neg hlen, if_neg (by rw [hLa]; exact hbl), if_pos (by rw [HS.out]; simp [h5])]
    subst hc
    have h5' : (k == 5) = false := by simpa using h5
    go_wp2_with fail
    exact no_post hW3 (by decide) rfl rfl rfl rfl
  · have h5' : (k == 5) = false := by simpa using h5
    have hok : overB ⟨g, s, bk, true⟩ k m = false → code = 0 := fun ho => by rw [← HC.out, putC, if_neg (by simp [hr]), if_neg hlen, if_neg (by rw [hLa]; exact hbl), if_neg (by rw [HS.out]; simp [h5]), if_neg (by rw [HS.out]; simp only; rw [ho]; simp)]
    have hno : overB ⟨g, s, bk, true⟩ k m = true → code = 5 := fun ho => by rw [← HC.out, putC, if_neg (by simp [hr]), if_neg hlen, if_neg (by rw [hLa]; exact hbl), if_neg (by rw [HS.out]; simp [h5]), if_pos (by rw [HS.out]; exact ho)]
    have hok := hide hok
    have hno := hide hno
    by_cases h2 : k = 2
    · subst h2
      go_wp2_with fail
      · obtain rfl : code = 5 := hno.out (by simp only [overB, decide_eq_true_eq]; exact .inl ⟨trivial, ‹_›⟩)
        exact no_post hW3 (by decide) rfl rfl rfl rfl
      · obtain rfl : code = 0 := hok.out (by simp only [overB, decide_eq_false_iff_not]; omega)
        go_region_law (first
          | (refine step_app rfl (.tmp 61) (.tmp 63) 30 rfl elAc (B := w1.heap.size + 1) (rows := l.map encAc) (A2 := some ⟨_, 0, none⟩) (news := [⟨b, 2, m⟩].map encAc) rfl ?_ rfl rfl ?_ (okAc [⟨b, 2, m⟩]) ?_ ?_ ?_ ?_
             · first | exact ho1 | exact ho1.alloc _
             · first | exact sl_of_blk (Blk.new _ _ (acC b 2 m)) | exact sl_of_blk hnb
             · (simp only [maxLen]; omega)
             · omega
             · (have := hW4.p.lt; simp; try omega)
             intro A2 c2 wb ho2 hg2 ha2
             have hW5 : PutW w c A l.length cap b 2 m ⟨g, s, bk, true⟩ w1.heap.size wb := PutW.grown (by first | exact hW4 | exact hW4.alloc _) hg2 (fun j hj => by have := (ho1.lt j hj).1; omega)
             have hz0 := hW5.f.lt
             have d6 := hW5.f.cell 6
             have v6 := hW5.f.frozen 6
             simp [boxC] at d6)
          | (go_simp
             go_at_call 29
             refine (clone_any A l.length cap l _ (HV.out.below (by first | exact hW3.drew.bel | exact (hW3.drew.alloc _).bel)) (by omega)).mono ?_
             rintro e w4 ⟨A1, c1, rfl, ho1', hb4⟩
             have hW4 : PutW w c A l.length cap b 2 m ⟨g, s, bk, true⟩ w1.heap.size w4 := PutW.below (by first | exact hW3.drew | exact hW3.drew.alloc _) hb4
             have ho1 := ho1'.mono (show w1.heap.size + 1 ≤ _ by have := hW3.p.lt; simp; try omega)
             have hz0 := hW4.f.lt
             have hz1 := hW4.a.lt
             have k0 := hW4.a.cell 0
             have k1 := hW4.a.cell 1
             have k2 := hW4.a.cell 2
             simp [acC] at k0 k1 k2
             try (have hnb : Blk w4 w3.heap.size 25 (acC b 2 m) := (Blk.new w3.drew _ _).below hb4 (by simp))))
        all_goals
          clear f0 f1 f2 f3 f4 f5 f6 a0 a1 a2 p1 p3 p5 z0 z1 z2 z3 z4 z5 z6 u0 u1 u2 u3 u4 u5 u6 k0 k1 k2
          have y0 := hW5.f.cell 0
          have y1 := hW5.f.cell 1
          have y2 := hW5.f.cell 2
          have y3 := hW5.f.cell 3
          have y4 := hW5.f.cell 4
          have y5 := hW5.f.cell 5
          have x0 := hW5.z.cell 0
          have t0 := hW5.z.frozen 0
          have x1 := hW5.z.cell 1
          have t1 := hW5.z.frozen 1
          have x2 := hW5.z.cell 2
          have t2 := hW5.z.frozen 2
          have x3 := hW5.z.cell 3
          have t3 := hW5.z.frozen 3
          have x4 := hW5.z.cell 4
          have t4 := hW5.z.frozen 4
          have x5 := hW5.z.cell 5
          have t5 := hW5.z.frozen 5
          have x6 := hW5.z.cell 6
          have t6 := hW5.z.frozen 6
          have hzz := hW5.z.lt
          simp [boxC, zeroF] at y0 y1 y2 y3 y4 y5 x0 x1 x2 x3 x4 x5 x6
          go_wp2_with fail
          exact yes_post hW5 (by rw [List.map_append]; exact ho2) (by omega) rfl rfl rfl rfl rfl
    by_cases h3 : k = 3
    · subst h3
      go_wp2_with fail
      · obtain rfl : code = 5 := hno.out (by simp only [overB, decide_eq_true_eq]; exact .inr ⟨trivial, ‹_›⟩)
        exact no_post hW3 (by decide) rfl rfl rfl rfl
      · obtain rfl : code = 0 := hok.out (by simp only [overB, decide_eq_false_iff_not]; omega)
        go_region_law (first
          | (refine step_app rfl (.tmp 61) (.tmp 63) 30 rfl elAc (B := w1.heap.size + 1) (rows := l.map encAc) (A2 := some ⟨_, 0, none⟩) (news := [⟨b, 3, m⟩].map encAc) rfl ?_ rfl rfl ?_ (okAc [⟨b, 3, m⟩]) ?_ ?_ ?_ ?_
             · first | exact ho1 | exact ho1.alloc _
             · first | exact sl_of_blk (Blk.new _ _ (acC b 3 m)) | exact sl_of_blk hnb
             · (simp only [maxLen]; omega)
             · omega
             · (have := hW4.p.lt; simp; try omega)
             intro A2 c2 wb ho2 hg2 ha2
             have hW5 : PutW w c A l.length cap b 3 m ⟨g, s, bk, true⟩ w1.heap.size wb := PutW.grown (by first | exact hW4 | exact hW4.alloc _) hg2 (fun j hj => by have := (ho1.lt j hj).1; omega)
             have hz0 := hW5.f.lt
             have d6 := hW5.f.cell 6
             have v6 := hW5.f.frozen 6
             simp [boxC] at d6)
          | (go_simp
             go_at_call 29
             refine (clone_any A l.length cap l _ (HV.out.below (by first | exact hW3.drew.bel | exact (hW3.drew.alloc _).bel)) (by omega)).mono ?_
             rintro e w4 ⟨A1, c1, rfl, ho1', hb4⟩
             have hW4 : PutW w c A l.length cap b 3 m ⟨g, s, bk, true⟩ w1.heap.size w4 := PutW.below (by first | exact hW3.drew | exact hW3.drew.alloc _) hb4
             have ho1 := ho1'.mono (show w1.heap.size + 1 ≤ _ by have := hW3.p.lt; simp; try omega)
             have hz0 := hW4.f.lt
             have hz1 := hW4.a.lt
             have k0 := hW4.a.cell 0
             have k1 := hW4.a.cell 1
             have k2 := hW4.a.cell 2
             simp [acC] at k0 k1 k2
             try (have hnb : Blk w4 w3.heap.size 25 (acC b 3 m) := (Blk.new w3.drew _ _).below hb4 (by simp))))
        all_goals
          clear f0 f1 f2 f3 f4 f5 f6 a0 a1 a2 p1 p3 p5 z0 z1 z2 z3 z4 z5 z6 u0 u1 u2 u3 u4 u5 u6 k0 k1 k2
          have y0 := hW5.f.cell 0
          have y1 := hW5.f.cell 1
          have y2 := hW5.f.cell 2
          have y3 := hW5.f.cell 3
          have y4 := hW5.f.cell 4
          have y5 := hW5.f.cell 5
          have x0 := hW5.z.cell 0
          have t0 := hW5.z.frozen 0
          have x1 := hW5.z.cell 1
          have t1 := hW5.z.frozen 1
          have x2 := hW5.z.cell 2
          have t2 := hW5.z.frozen 2
          have x3 := hW5.z.cell 3
          have t3 := hW5.z.frozen 3
          have x4 := hW5.z.cell 4
          have t4 := hW5.z.frozen 4
          have x5 := hW5.z.cell 5
          have t5 := hW5.z.frozen 5
          have x6 := hW5.z.cell 6
          have t6 := hW5.z.frozen 6
          have hzz := hW5.z.lt
          simp [boxC, zeroF] at y0 y1 y2 y3 y4 y5 x0 x1 x2 x3 x4 x5 x6
          go_wp2_with fail
          exact yes_post hW5 (by rw [List.map_append]; exact ho2) (by omega) rfl rfl rfl rfl rfl
    · have h2' : (k == 2) = false := by simpa using h2
      have h3' : (k == 3) = false := by simpa using h3
      obtain rfl : code = 0 := hok.out (by simp only [overB, decide_eq_false_iff_not]; omega)
      go_wp2_with fail
      go_region_law (first
        | (refine step_app rfl (.tmp 61) (.tmp 63) 30 rfl elAc (B := w1.heap.size + 1) (rows := l.map encAc) (A2 := some ⟨_, 0, none⟩) (news := [⟨b, k, m⟩].map encAc) rfl ?_ rfl rfl ?_ (okAc [⟨b, k, m⟩]) ?_ ?_ ?_ ?_
           · first | exact ho1 | exact ho1.alloc _
           · first | exact sl_of_blk (Blk.new _ _ (acC b k m)) | exact sl_of_blk hnb
           · (simp only [maxLen]; omega)
           · omega
           · (have := hW4.p.lt; simp; try omega)
           intro A2 c2 wb ho2 hg2 ha2
           have hW5 : PutW w c A l.length cap b k m ⟨g, s, bk, true⟩ w1.heap.size wb := PutW.grown (by first | exact hW4 | exact hW4.alloc _) hg2 (fun j hj => by have := (ho1.lt j hj).1; omega)
           have hz0 := hW5.f.lt
           have d6 := hW5.f.cell 6
           have v6 := hW5.f.frozen 6
           simp [boxC] at d6)
        | (go_simp
           go_at_call 29
           refine (clone_any A l.length cap l _ (HV.out.below (by first | exact hW3.drew.bel | exact (hW3.drew.alloc _).bel)) (by omega)).mono ?_
           rintro e w4 ⟨A1, c1, rfl, ho1', hb4⟩
           have hW4 : PutW w c A l.length cap b k m ⟨g, s, bk, true⟩ w1.heap.size w4 := PutW.below (by first | exact hW3.drew | exact hW3.drew.alloc _) hb4
           have ho1 := ho1'.mono (show w1.heap.size + 1 ≤ _ by have := hW3.p.lt; simp; try omega)
           have hz0 := hW4.f.lt
           have hz1 := hW4.a.lt
           have k0 := hW4.a.cell 0
           have k1 := hW4.a.cell 1
           have k2 := hW4.a.cell 2
           simp [acC] at k0 k1 k2
           try (have hnb : Blk w4 w3.heap.size 25 (acC b k m) := (Blk.new w3.drew _ _).below hb4 (by simp))))
      all_goals
        clear f0 f1 f2 f3 f4 f5 f6 a0 a1 a2 p1 p3 p5 z0 z1 z2 z3 z4 z5 z6 u0 u1 u2 u3 u4 u5 u6 k0 k1 k2
        have y0 := hW5.f.cell 0
        have y1 := hW5.f.cell 1
        have y2 := hW5.f.cell 2
        have y3 := hW5.f.cell 3
        have y4 := hW5.f.cell 4
        have y5 := hW5.f.cell 5
        have x0 := hW5.z.cell 0
        have t0 := hW5.z.frozen 0
        have x1 := hW5.z.cell 1
        have t1 := hW5.z.frozen 1
        have x2 := hW5.z.cell 2
        have t2 := hW5.z.frozen 2
        have x3 := hW5.z.cell 3
        have t3 := hW5.z.frozen 3
        have x4 := hW5.z.cell 4
        have t4 := hW5.z.frozen 4
        have x5 := hW5.z.cell 5
        have t5 := hW5.z.frozen 5
        have x6 := hW5.z.cell 6
        have t6 := hW5.z.frozen 6
        have hzz := hW5.z.lt
        simp [boxC, zeroF] at y0 y1 y2 y3 y4 y5 x0 x1 x2 x3 x4 x5 x6
        go_wp2_with fail
        exact yes_post hW5 (by rw [List.map_append]; exact ho2) (by omega) rfl rfl rfl rfl rfl
  · obtain rfl : code = 0 := by rw [← HC.out, putC, if_neg (by simp [hr]), if_neg hlen, if_neg (by rw [hLa]; exact hbl), if_neg (by rw [HS.out]; simp), if_neg (by simp [overB])]
    go_wp2_with fail
    go_region_law (first
      | (refine step_app rfl (.tmp 61) (.tmp 63) 30 rfl elAc (B := w1.heap.size + 1) (rows := l.map encAc) (A2 := some ⟨_, 0, none⟩) (news := [⟨b, 5, m⟩].map encAc) rfl ?_ rfl rfl ?_ (okAc [⟨b, 5, m⟩]) ?_ ?_ ?_ ?_
         · first | exact ho1 | exact ho1.alloc _
         · first | exact sl_of_blk (Blk.new _ _ (acC b 5 m)) | exact sl_of_blk hnb
         · (simp only [maxLen]; omega)
         · omega
         · (have := hW4.p.lt; simp; try omega)
         intro A2 c2 wb ho2 hg2 ha2
         have hW5 : PutW w c A l.length cap b 5 m ⟨g, s, bk, false⟩ w1.heap.size wb := PutW.grown (by first | exact hW4 | exact hW4.alloc _) hg2 (fun j hj => by have := (ho1.lt j hj).1; omega)
         have hz0 := hW5.f.lt
         have d6 := hW5.f.cell 6
         have v6 := hW5.f.frozen 6
         simp [boxC] at d6)
      | (go_simp
         go_at_call 29
         refine (clone_any A l.length cap l _ (HV.out.below (by first | exact hW3.drew.bel | exact (hW3.drew.alloc _).bel)) (by omega)).mono ?_
         rintro e w4 ⟨A1, c1, rfl, ho1', hb4⟩
         have hW4 : PutW w c A l.length cap b 5 m ⟨g, s, bk, false⟩ w1.heap.size w4 := PutW.below (by first | exact hW3.drew | exact hW3.drew.alloc _) hb4
         have ho1 := ho1'.mono (show w1.heap.size + 1 ≤ _ by have := hW3.p.lt; simp; try omega)
         have hz0 := hW4.f.lt
         have hz1 := hW4.a.lt
         have k0 := hW4.a.cell 0
         have k1 := hW4.a.cell 1
         have k2 := hW4.a.cell 2
         simp [acC] at k0 k1 k2
         try (have hnb : Blk w4 w3.heap.size 25 (acC b 5 m) := (Blk.new w3.drew _ _).below hb4 (by simp))))
    all_goals
      clear f0 f1 f2 f3 f4 f5 f6 a0 a1 a2 p1 p3 p5 z0 z1 z2 z3 z4 z5 z6 u0 u1 u2 u3 u4 u5 u6 k0 k1 k2
      have y0 := hW5.f.cell 0
      have y1 := hW5.f.cell 1
      have y2 := hW5.f.cell 2
      have y3 := hW5.f.cell 3
      have y4 := hW5.f.cell 4
      have y5 := hW5.f.cell 5
      have x0 := hW5.z.cell 0
      have t0 := hW5.z.frozen 0
      have x1 := hW5.z.cell 1
      have t1 := hW5.z.frozen 1
      have x2 := hW5.z.cell 2
      have t2 := hW5.z.frozen 2
      have x3 := hW5.z.cell 3
      have t3 := hW5.z.frozen 3
      have x4 := hW5.z.cell 4
      have t4 := hW5.z.frozen 4
      have x5 := hW5.z.cell 5
      have t5 := hW5.z.frozen 5
      have x6 := hW5.z.cell 6
      have t6 := hW5.z.frozen 6
      have hzz := hW5.z.lt
      simp [boxC, zeroF] at y0 y1 y2 y3 y4 y5 x0 x1 x2 x3 x4 x5 x6
      go_wp2_with fail
      exact yes_post hW5 (by rw [List.map_append]; exact ho2) (by omega) rfl rfl rfl rfl rfl
end Go.Proofs.Ytmeneojgdbjlnaa
