/- ClaimKnown: what was known on a day never changes. -/
import Derived.Test.YtmeneojgdbjlnaaClaimL2
import Derived.BigQuiet
import Derived.Deep.QuietTactic
import Derived.Deep.DeepCutAuto
namespace Go.Proofs.Ytmeneojgdbjlnaa
open Go.ChangeShapes Go.WideShapes Go.ChangeAt Go.RowKit
set_option linter.unusedVariables false

set_option maxRecDepth 100000 in
set_option maxHeartbeats 4000000 in
theorem claimKnown_walk (w : World) (c : Cl) (A : Option Addr) (l : List Ac) (cap : Nat) (hs : SV w 3 A l.length cap (l.map encAc)) (b k m : Int) (_wb : (Lit.int .i64 b).wf = true) (_wk : (Lit.int .i64 k).wf = true) (_wm : (Lit.int .i64 m).wf = true) (early : Int) (_we : (Lit.int .i64 early).wf = true) (late : Int) (_wl : (Lit.int .i64 late).wf = true) :
    Calls Try.prog 9 #[.agg #[.int .i64 c.id, .int .i64 c.pol, .int .i64 c.per, .int .i64 c.loss, .int .i64 c.bkd, .int .i64 c.ev], .slice A l.length cap, .agg #[.int .i64 b, .int .i64 k, .int .i64 m], .int .i64 early, .int .i64 late] w fun e w' => e = .returned (.bool true) ∧ Below w.heap.size w w' := by
  go_enter Try.func9, Try.ntmps9
  have HS := hide hs
  clear hs
  go_wp2_with fail
  refine (awake_b (((Below.refl w.heap.size w).alloc (Nat.le_refl _) _).alloc (by simp) _)).mono ?_
  rintro e w1 ⟨rfl, h1, hb1⟩
  have c0 := kept hb1 (b := w.heap.size) (o := 0) (u := .int .i64 c.id) (by simp)
  have c1 := kept hb1 (b := w.heap.size) (o := 1) (u := .int .i64 c.pol) (by simp)
  have c2 := kept hb1 (b := w.heap.size) (o := 2) (u := .int .i64 c.per) (by simp)
  have c3 := kept hb1 (b := w.heap.size) (o := 3) (u := .int .i64 c.loss) (by simp)
  have c4 := kept hb1 (b := w.heap.size) (o := 4) (u := .int .i64 c.bkd) (by simp)
  have c5 := kept hb1 (b := w.heap.size) (o := 5) (u := .int .i64 c.ev) (by simp)
  have a0 := kept hb1 (b := w.heap.size + 1) (o := 0) (u := .int .i64 b) (by simp)
  have a1 := kept hb1 (b := w.heap.size + 1) (o := 1) (u := .int .i64 k) (by simp)
  have a2 := kept hb1 (b := w.heap.size + 1) (o := 2) (u := .int .i64 m) (by simp)
  have hzc := block_lt_of_cell c0
  have hza := block_lt_of_cell a0
  clear hb1
  by_cases hbig : 100 < l.length
  · go_wp2_with fail
    go_ret
    exact ⟨rfl, h1⟩
  by_cases hel : late < early
  · have hbig' : l.length ≤ 100 := by omega
    go_wp2_with fail
    go_ret
    exact ⟨rfl, h1⟩
  have hbig' : l.length ≤ 100 := by omega
  obtain ⟨l2, hl2⟩ : ∃ x, madeL c.bkd l = x := ⟨_, rfl⟩
  obtain ⟨n2, hn2⟩ : ∃ x, l2.length = x := ⟨_, rfl⟩
  have hgood : Good c.bkd l2 := by rw [← hl2]; exact good_made c.bkd _ l rfl
  have hm2 : n2 ≤ 100 := by have := madeL_len c.bkd _ l rfl; rw [hl2, hn2] at this; omega
  have HG := hide hgood
  have HL := hide hl2
  have HN := hide hn2
  clear hgood hl2 hn2
  go_wp2_with fail
  refine (madeF_b (c := c) HS.out h1 (by omega) HL.out HN.out).mono ?_
  rintro e w2 ⟨A2, q2, rfl, hs2, h2, hb2⟩
  have a0 := kept hb2 a0
  have a1 := kept hb2 a1
  have a2 := kept hb2 a2
  have hza := block_lt_of_cell a0
  clear hb2 h1 c0 c1 c2 c3 c4 c5 hzc
  obtain ⟨l3, hl3⟩ : ∃ x, atL early l2 = x := ⟨_, rfl⟩
  obtain ⟨n3, hn3⟩ : ∃ x, l3.length = x := ⟨_, rfl⟩
  have hm3 : n3 ≤ n2 := by have := atL_len early l2; rw [hl3, hn3, HN.out] at this; exact this
  have HX := hide hl3
  have HM := hide hn3
  have hsnoc : early < b → atL early (l2 ++ [⟨b, k, m⟩]) = l3 := fun h => by rw [atL_snoc h, hl3]
  have HB := hide hsnoc
  have hll : atL early (atL late l2) = l3 := by rw [atL_at (by omega), hl3]
  have HE := hide hll
  have hlx : atL late l3 = l3 := by rw [← hl3]; exact atL_at' (by omega) l2
  have HLX := hide hlx
  have hall : atL 292194 l2 = l2 := atL_all HG.out
  have HA := hide hall
  clear hl3 hn3 hsnoc hll hlx hall
  go_wp2_with fail
  refine (at_c (c := c) hs2 ((Below.refl _ _).alloc (Nat.le_refl _) _) (h2.alloc h2.size _) (by omega) HX.out HM.out).mono ?_
  rintro e w3 ⟨A3, q3, rfl, hs3, h3, hb3⟩
  have a0 := kept hb3 (kept ((Below.refl _ _).alloc (Nat.le_refl _) _) a0)
  have a1 := kept hb3 (kept ((Below.refl _ _).alloc (Nat.le_refl _) _) a1)
  have a2 := kept hb3 (kept ((Below.refl _ _).alloc (Nat.le_refl _) _) a2)
  have f0 := kept hb3 (b := w2.heap.size) (o := 0) (u := .int .i64 c.id) (by simp)
  have f1 := kept hb3 (b := w2.heap.size) (o := 1) (u := .int .i64 c.pol) (by simp)
  have f2 := kept hb3 (b := w2.heap.size) (o := 2) (u := .int .i64 c.per) (by simp)
  have f3 := kept hb3 (b := w2.heap.size) (o := 3) (u := .int .i64 c.loss) (by simp)
  have f4 := kept hb3 (b := w2.heap.size) (o := 4) (u := .int .i64 c.bkd) (by simp)
  have f5 := kept hb3 (b := w2.heap.size) (o := 5) (u := .int .i64 c.ev) (by simp)
  have f6 := kept hb3 (b := w2.heap.size) (o := 6) (u := .slice A2 n2 q2) (by simp)
  have hs2 := (hs2.alloc _).below hb3
  have hza := block_lt_of_cell a0
  have hzf := block_lt_of_cell f0
  clear hb3 h2
  by_cases hc : putC c.bkd l2 ⟨b, k, m⟩ = 0
  · have HC := hide hc
    clear hc
    go_wp2_with fail
    refine (put_okc (c := c) (l := l2) hs2 ((Below.refl _ _).alloc (Nat.le_refl _) _) (h3.alloc h3.size _) (by omega) HC.out).mono ?_
    rintro e w4 ⟨A4, q4, rfl, hs4, h4, hb4⟩
    have a0 := kept hb4 (kept ((Below.refl _ _).alloc (Nat.le_refl _) _) a0)
    have a1 := kept hb4 (kept ((Below.refl _ _).alloc (Nat.le_refl _) _) a1)
    have a2 := kept hb4 (kept ((Below.refl _ _).alloc (Nat.le_refl _) _) a2)
    have f0 := kept hb4 (kept ((Below.refl _ _).alloc (Nat.le_refl _) _) f0)
    have f1 := kept hb4 (kept ((Below.refl _ _).alloc (Nat.le_refl _) _) f1)
    have f2 := kept hb4 (kept ((Below.refl _ _).alloc (Nat.le_refl _) _) f2)
    have f3 := kept hb4 (kept ((Below.refl _ _).alloc (Nat.le_refl _) _) f3)
    have f4 := kept hb4 (kept ((Below.refl _ _).alloc (Nat.le_refl _) _) f4)
    have f5 := kept hb4 (kept ((Below.refl _ _).alloc (Nat.le_refl _) _) f5)
    have f6 := kept hb4 (kept ((Below.refl _ _).alloc (Nat.le_refl _) _) f6)
    have x0 := kept hb4 (b := w3.heap.size) (o := 0) (u := .int .i64 c.id) (by simp)
    have x1 := kept hb4 (b := w3.heap.size) (o := 1) (u := .int .i64 c.pol) (by simp)
    have x2 := kept hb4 (b := w3.heap.size) (o := 2) (u := .int .i64 c.per) (by simp)
    have x3 := kept hb4 (b := w3.heap.size) (o := 3) (u := .int .i64 c.loss) (by simp)
    have x4 := kept hb4 (b := w3.heap.size) (o := 4) (u := .int .i64 c.bkd) (by simp)
    have x5 := kept hb4 (b := w3.heap.size) (o := 5) (u := .int .i64 c.ev) (by simp)
    have x6 := kept hb4 (b := w3.heap.size) (o := 6) (u := .slice A3 n3 q3) (by simp)
    obtain ⟨n4, hn4⟩ : ∃ x, n2 + 1 = x := ⟨_, rfl⟩
    rw [hn4] at hs4 ⊢
    have hm4 : n4 ≤ 2000 := by omega
    clear hn4
    have hs2 := (hs2.alloc _).below hb4
    have hs3 := (hs3.alloc _).below hb4
    have hza := block_lt_of_cell a0
    have hzf := block_lt_of_cell f0
    have hzx := block_lt_of_cell x0
    clear hb4 h3
    go_upto_region 7 with fail
    obtain ⟨w5, hw5⟩ : ∃ W, w4.alloc (.cells #[.int .i64 c.id, .int .i64 c.pol, .int .i64 c.per, .int .i64 c.loss, .int .i64 c.bkd, .int .i64 c.ev, .slice A4 n4 q4] 32) = W := ⟨_, rfl⟩
    have h5 : Below w.heap.size w w5 := by rw [← hw5]; exact h4.alloc h4.size _
    have hb5 : Below w4.heap.size w4 w5 := by rw [← hw5]; exact (Below.refl _ _).alloc (Nat.le_refl _) _
    have g0 : w5.cell? ⟨w4.heap.size, 0, none⟩ = some (.int .i64 c.id) := by rw [← hw5]; simp
    have g1 : w5.cell? ⟨w4.heap.size, 1, none⟩ = some (.int .i64 c.pol) := by rw [← hw5]; simp
    have g2 : w5.cell? ⟨w4.heap.size, 2, none⟩ = some (.int .i64 c.per) := by rw [← hw5]; simp
    have g3 : w5.cell? ⟨w4.heap.size, 3, none⟩ = some (.int .i64 c.loss) := by rw [← hw5]; simp
    have g4 : w5.cell? ⟨w4.heap.size, 4, none⟩ = some (.int .i64 c.bkd) := by rw [← hw5]; simp
    have g5 : w5.cell? ⟨w4.heap.size, 5, none⟩ = some (.int .i64 c.ev) := by rw [← hw5]; simp
    have g6 : w5.cell? ⟨w4.heap.size, 6, none⟩ = some (.slice A4 n4 q4) := by rw [← hw5]; simp
    have a0 := kept hb5 a0
    have a1 := kept hb5 a1
    have a2 := kept hb5 a2
    have f0 := kept hb5 f0
    have f1 := kept hb5 f1
    have f2 := kept hb5 f2
    have f3 := kept hb5 f3
    have f4 := kept hb5 f4
    have f5 := kept hb5 f5
    have f6 := kept hb5 f6
    have x0 := kept hb5 x0
    have x1 := kept hb5 x1
    have x2 := kept hb5 x2
    have x3 := kept hb5 x3
    have x4 := kept hb5 x4
    have x5 := kept hb5 x5
    have x6 := kept hb5 x6
    have hsF := hs2.below hb5
    have hsX := hs3.below hb5
    have hsG := hs4.below hb5
    rw [hw5]
    have hza := block_lt_of_cell a0
    have hzf := block_lt_of_cell f0
    have hzx := block_lt_of_cell x0
    have hzg := block_lt_of_cell g0
    have hmL : (atL late l2).length ≤ 2000 := by have := atL_len late l2; rw [HN.out] at this; omega
    clear hw5 hb5 hs2 hs3
    by_cases heb : early < b
    · have HB' := hide (HB.out heb)
      go_region_held3 (fun w' => w'.cell? ⟨w2.heap.size, 0, none⟩ = some (.int .i64 c.id) ∧ w'.cell? ⟨w2.heap.size, 1, none⟩ = some (.int .i64 c.pol) ∧ w'.cell? ⟨w2.heap.size, 2, none⟩ = some (.int .i64 c.per) ∧ w'.cell? ⟨w2.heap.size, 3, none⟩ = some (.int .i64 c.loss) ∧ w'.cell? ⟨w2.heap.size, 4, none⟩ = some (.int .i64 c.bkd) ∧ w'.cell? ⟨w2.heap.size, 5, none⟩ = some (.int .i64 c.ev) ∧ w'.cell? ⟨w2.heap.size, 6, none⟩ = some (.slice A2 n2 q2) ∧ w'.cell? ⟨w3.heap.size, 0, none⟩ = some (.int .i64 c.id) ∧ w'.cell? ⟨w3.heap.size, 1, none⟩ = some (.int .i64 c.pol) ∧ w'.cell? ⟨w3.heap.size, 2, none⟩ = some (.int .i64 c.per) ∧ w'.cell? ⟨w3.heap.size, 3, none⟩ = some (.int .i64 c.loss) ∧ w'.cell? ⟨w3.heap.size, 4, none⟩ = some (.int .i64 c.bkd) ∧ w'.cell? ⟨w3.heap.size, 5, none⟩ = some (.int .i64 c.ev) ∧ w'.cell? ⟨w3.heap.size, 6, none⟩ = some (.slice A3 n3 q3) ∧ w'.cell? ⟨w4.heap.size, 0, none⟩ = some (.int .i64 c.id) ∧ w'.cell? ⟨w4.heap.size, 1, none⟩ = some (.int .i64 c.pol) ∧ w'.cell? ⟨w4.heap.size, 2, none⟩ = some (.int .i64 c.per) ∧ w'.cell? ⟨w4.heap.size, 3, none⟩ = some (.int .i64 c.loss) ∧ w'.cell? ⟨w4.heap.size, 4, none⟩ = some (.int .i64 c.bkd) ∧ w'.cell? ⟨w4.heap.size, 5, none⟩ = some (.int .i64 c.ev) ∧ w'.cell? ⟨w4.heap.size, 6, none⟩ = some (.slice A4 n4 q4) ∧ w'.cell? ⟨w.heap.size + 1, 0, none⟩ = some (.int .i64 b) ∧ w'.cell? ⟨w.heap.size + 1, 1, none⟩ = some (.int .i64 k) ∧ w'.cell? ⟨w.heap.size + 1, 2, none⟩ = some (.int .i64 m)) (first | with_reducible exact ⟨f0, f1, f2, f3, f4, f5, f6, x0, x1, x2, x3, x4, x5, x6, g0, g1, g2, g3, g4, g5, g6, a0, a1, a2⟩ | go_keep)
        (first
         | (go_at_call 24
            with_reducible refine (at_c (c := c) (d := early) hsG (Below.refl _ _).drew h5.drew hm4 HB'.out HM.out).mono ?_
            rintro e v8 ⟨B8, r8, rfl, t8, j8, i8⟩
            have f0 := kept i8 f0
            have f1 := kept i8 f1
            have f2 := kept i8 f2
            have f3 := kept i8 f3
            have f4 := kept i8 f4
            have f5 := kept i8 f5
            have f6 := kept i8 f6
            have x0 := kept i8 x0
            have x1 := kept i8 x1
            have x2 := kept i8 x2
            have x3 := kept i8 x3
            have x4 := kept i8 x4
            have x5 := kept i8 x5
            have x6 := kept i8 x6
            have g0 := kept i8 g0
            have g1 := kept i8 g1
            have g2 := kept i8 g2
            have g3 := kept i8 g3
            have g4 := kept i8 g4
            have g5 := kept i8 g5
            have g6 := kept i8 g6
            have a0 := kept i8 a0
            have a1 := kept i8 a1
            have a2 := kept i8 a2
            have hsF := hsF.drew.below i8
            have hsX := hsX.drew.below i8)
         | (go_at_call 18
            with_reducible refine (same_b (c := c) t8 (Below.refl _ _) hsX (Below.refl _ _) j8 (by omega)).mono ?_
            rintro e v9 ⟨rfl, j9, i9⟩
            have f0 := kept i9 f0
            have f1 := kept i9 f1
            have f2 := kept i9 f2
            have f3 := kept i9 f3
            have f4 := kept i9 f4
            have f5 := kept i9 f5
            have f6 := kept i9 f6
            have x0 := kept i9 x0
            have x1 := kept i9 x1
            have x2 := kept i9 x2
            have x3 := kept i9 x3
            have x4 := kept i9 x4
            have x5 := kept i9 x5
            have x6 := kept i9 x6
            have g0 := kept i9 g0
            have g1 := kept i9 g1
            have g2 := kept i9 g2
            have g3 := kept i9 g3
            have g4 := kept i9 g4
            have g5 := kept i9 g5
            have g6 := kept i9 g6
            have a0 := kept i9 a0
            have a1 := kept i9 a1
            have a2 := kept i9 a2
            have hsF := hsF.below i9
            have hsX := hsX.below i9))
      go_wp2_with fail
      go_region_held3 (fun w' => w'.cell? ⟨w2.heap.size, 0, none⟩ = some (.int .i64 c.id) ∧ w'.cell? ⟨w2.heap.size, 1, none⟩ = some (.int .i64 c.pol) ∧ w'.cell? ⟨w2.heap.size, 2, none⟩ = some (.int .i64 c.per) ∧ w'.cell? ⟨w2.heap.size, 3, none⟩ = some (.int .i64 c.loss) ∧ w'.cell? ⟨w2.heap.size, 4, none⟩ = some (.int .i64 c.bkd) ∧ w'.cell? ⟨w2.heap.size, 5, none⟩ = some (.int .i64 c.ev) ∧ w'.cell? ⟨w2.heap.size, 6, none⟩ = some (.slice A2 n2 q2) ∧ w'.cell? ⟨w3.heap.size, 0, none⟩ = some (.int .i64 c.id) ∧ w'.cell? ⟨w3.heap.size, 1, none⟩ = some (.int .i64 c.pol) ∧ w'.cell? ⟨w3.heap.size, 2, none⟩ = some (.int .i64 c.per) ∧ w'.cell? ⟨w3.heap.size, 3, none⟩ = some (.int .i64 c.loss) ∧ w'.cell? ⟨w3.heap.size, 4, none⟩ = some (.int .i64 c.bkd) ∧ w'.cell? ⟨w3.heap.size, 5, none⟩ = some (.int .i64 c.ev) ∧ w'.cell? ⟨w3.heap.size, 6, none⟩ = some (.slice A3 n3 q3)) (first | with_reducible exact ⟨f0, f1, f2, f3, f4, f5, f6, x0, x1, x2, x3, x4, x5, x6⟩ | go_keep)
        (first
         | (go_at_call 24
            with_reducible refine (at_c (c := c) (d := late) hsF (Below.refl _ _).drew j9.drew (by omega) rfl rfl).mono ?_
            rintro e v1 ⟨B1, r1, rfl, t1, j1, i1⟩
            have f0 := kept i1 f0
            have f1 := kept i1 f1
            have f2 := kept i1 f2
            have f3 := kept i1 f3
            have f4 := kept i1 f4
            have f5 := kept i1 f5
            have f6 := kept i1 f6
            have x0 := kept i1 x0
            have x1 := kept i1 x1
            have x2 := kept i1 x2
            have x3 := kept i1 x3
            have x4 := kept i1 x4
            have x5 := kept i1 x5
            have x6 := kept i1 x6
            have hsF := hsF.drew.below i1
            have hsX := hsX.drew.below i1)
         | (go_at_call 24
            with_reducible refine (at_c (c := c) (d := early) t1 (Below.refl _ _) j1 hmL HE.out HM.out).mono ?_
            rintro e v2 ⟨B2, r2, rfl, t2, j2, i2⟩
            have f0 := kept i2 f0
            have f1 := kept i2 f1
            have f2 := kept i2 f2
            have f3 := kept i2 f3
            have f4 := kept i2 f4
            have f5 := kept i2 f5
            have f6 := kept i2 f6
            have x0 := kept i2 x0
            have x1 := kept i2 x1
            have x2 := kept i2 x2
            have x3 := kept i2 x3
            have x4 := kept i2 x4
            have x5 := kept i2 x5
            have x6 := kept i2 x6
            have hsF := hsF.below i2
            have hsX := hsX.below i2)
         | (go_at_call 18
            with_reducible refine (same_b (c := c) t2 (Below.refl _ _) hsX (Below.refl _ _) j2 (by omega)).mono ?_
            rintro e v3 ⟨rfl, j3, i3⟩
            have f0 := kept i3 f0
            have f1 := kept i3 f1
            have f2 := kept i3 f2
            have f3 := kept i3 f3
            have f4 := kept i3 f4
            have f5 := kept i3 f5
            have f6 := kept i3 f6
            have x0 := kept i3 x0
            have x1 := kept i3 x1
            have x2 := kept i3 x2
            have x3 := kept i3 x3
            have x4 := kept i3 x4
            have x5 := kept i3 x5
            have x6 := kept i3 x6
            have hsF := hsF.below i3
            have hsX := hsX.below i3)
         | (go_at_call 24
            with_reducible refine (at_c (c := c) (d := late) hsX (Below.refl _ _) j3 (by omega) HLX.out HM.out).mono ?_
            rintro e v4 ⟨B4, r4, rfl, t4, j4, i4⟩
            have f0 := kept i4 f0
            have f1 := kept i4 f1
            have f2 := kept i4 f2
            have f3 := kept i4 f3
            have f4 := kept i4 f4
            have f5 := kept i4 f5
            have f6 := kept i4 f6
            have x0 := kept i4 x0
            have x1 := kept i4 x1
            have x2 := kept i4 x2
            have x3 := kept i4 x3
            have x4 := kept i4 x4
            have x5 := kept i4 x5
            have x6 := kept i4 x6
            have hsF := hsF.below i4
            have hsX := hsX.below i4)
         | (go_at_call 18
            with_reducible refine (same_b (c := c) t4 (Below.refl _ _) hsX (Below.refl _ _) j4 (by omega)).mono ?_
            rintro e v5 ⟨rfl, j5, i5⟩
            have f0 := kept i5 f0
            have f1 := kept i5 f1
            have f2 := kept i5 f2
            have f3 := kept i5 f3
            have f4 := kept i5 f4
            have f5 := kept i5 f5
            have f6 := kept i5 f6
            have x0 := kept i5 x0
            have x1 := kept i5 x1
            have x2 := kept i5 x2
            have x3 := kept i5 x3
            have x4 := kept i5 x4
            have x5 := kept i5 x5
            have x6 := kept i5 x6
            have hsF := hsF.below i5
            have hsX := hsX.below i5)
         | (go_at_call 24
            with_reducible refine (at_c (c := c) (d := 292194) hsF (Below.refl _ _) j5 (by omega) HA.out HN.out).mono ?_
            rintro e v6 ⟨B6, r6, rfl, t6, j6, i6⟩
            have f0 := kept i6 f0
            have f1 := kept i6 f1
            have f2 := kept i6 f2
            have f3 := kept i6 f3
            have f4 := kept i6 f4
            have f5 := kept i6 f5
            have f6 := kept i6 f6
            have x0 := kept i6 x0
            have x1 := kept i6 x1
            have x2 := kept i6 x2
            have x3 := kept i6 x3
            have x4 := kept i6 x4
            have x5 := kept i6 x5
            have x6 := kept i6 x6
            have hsF := hsF.below i6)
         | (go_at_call 18
            with_reducible refine (same_b (c := c) t6 (Below.refl _ _) hsF (Below.refl _ _) j6 (by omega)).mono ?_
            rintro e v7 ⟨rfl, j7, i7⟩
            have f0 := kept i7 f0
            have f1 := kept i7 f1
            have f2 := kept i7 f2
            have f3 := kept i7 f3
            have f4 := kept i7 f4
            have f5 := kept i7 f5
            have f6 := kept i7 f6
            have x0 := kept i7 x0
            have x1 := kept i7 x1
            have x2 := kept i7 x2
            have x3 := kept i7 x3
            have x4 := kept i7 x4
            have x5 := kept i7 x5
            have x6 := kept i7 x6))
      go_wp2_with fail
      go_ret
      exact ⟨rfl, j7⟩
    · have heb' : b ≤ early := by omega
      have hdb : decide (early < b) = false := by simpa using heb
      go_quiet (fail)
      have hsF := hsF.below (bel_drewN (Below.refl _ _) nq)
      have hsX := hsX.below (bel_drewN (Below.refl _ _) nq)
      have h6 := bel_drewN h5 nq
      have f0 : (w5.drewN nq).cell? ⟨w2.heap.size, 0, none⟩ = some (.int .i64 c.id) := f0
      have f1 : (w5.drewN nq).cell? ⟨w2.heap.size, 1, none⟩ = some (.int .i64 c.pol) := f1
      have f2 : (w5.drewN nq).cell? ⟨w2.heap.size, 2, none⟩ = some (.int .i64 c.per) := f2
      have f3 : (w5.drewN nq).cell? ⟨w2.heap.size, 3, none⟩ = some (.int .i64 c.loss) := f3
      have f4 : (w5.drewN nq).cell? ⟨w2.heap.size, 4, none⟩ = some (.int .i64 c.bkd) := f4
      have f5 : (w5.drewN nq).cell? ⟨w2.heap.size, 5, none⟩ = some (.int .i64 c.ev) := f5
      have f6 : (w5.drewN nq).cell? ⟨w2.heap.size, 6, none⟩ = some (.slice A2 n2 q2) := f6
      have x0 : (w5.drewN nq).cell? ⟨w3.heap.size, 0, none⟩ = some (.int .i64 c.id) := x0
      have x1 : (w5.drewN nq).cell? ⟨w3.heap.size, 1, none⟩ = some (.int .i64 c.pol) := x1
      have x2 : (w5.drewN nq).cell? ⟨w3.heap.size, 2, none⟩ = some (.int .i64 c.per) := x2
      have x3 : (w5.drewN nq).cell? ⟨w3.heap.size, 3, none⟩ = some (.int .i64 c.loss) := x3
      have x4 : (w5.drewN nq).cell? ⟨w3.heap.size, 4, none⟩ = some (.int .i64 c.bkd) := x4
      have x5 : (w5.drewN nq).cell? ⟨w3.heap.size, 5, none⟩ = some (.int .i64 c.ev) := x5
      have x6 : (w5.drewN nq).cell? ⟨w3.heap.size, 6, none⟩ = some (.slice A3 n3 q3) := x6
      obtain ⟨w6, hw6⟩ : ∃ W, w5.drewN nq = W := ⟨_, rfl⟩
      rw [hw6] at f0 f1 f2 f3 f4 f5 f6 x0 x1 x2 x3 x4 x5 x6 hsF hsX h6 ⊢
      clear hw6
      go_wp2_with fail
      go_region_held3 (fun w' => w'.cell? ⟨w2.heap.size, 0, none⟩ = some (.int .i64 c.id) ∧ w'.cell? ⟨w2.heap.size, 1, none⟩ = some (.int .i64 c.pol) ∧ w'.cell? ⟨w2.heap.size, 2, none⟩ = some (.int .i64 c.per) ∧ w'.cell? ⟨w2.heap.size, 3, none⟩ = some (.int .i64 c.loss) ∧ w'.cell? ⟨w2.heap.size, 4, none⟩ = some (.int .i64 c.bkd) ∧ w'.cell? ⟨w2.heap.size, 5, none⟩ = some (.int .i64 c.ev) ∧ w'.cell? ⟨w2.heap.size, 6, none⟩ = some (.slice A2 n2 q2) ∧ w'.cell? ⟨w3.heap.size, 0, none⟩ = some (.int .i64 c.id) ∧ w'.cell? ⟨w3.heap.size, 1, none⟩ = some (.int .i64 c.pol) ∧ w'.cell? ⟨w3.heap.size, 2, none⟩ = some (.int .i64 c.per) ∧ w'.cell? ⟨w3.heap.size, 3, none⟩ = some (.int .i64 c.loss) ∧ w'.cell? ⟨w3.heap.size, 4, none⟩ = some (.int .i64 c.bkd) ∧ w'.cell? ⟨w3.heap.size, 5, none⟩ = some (.int .i64 c.ev) ∧ w'.cell? ⟨w3.heap.size, 6, none⟩ = some (.slice A3 n3 q3)) (first | with_reducible exact ⟨f0, f1, f2, f3, f4, f5, f6, x0, x1, x2, x3, x4, x5, x6⟩ | go_keep)
        (first
         | (go_at_call 24
            with_reducible refine (at_c (c := c) (d := late) hsF (Below.refl _ _).drew h6.drew (by omega) rfl rfl).mono ?_
            rintro e v1 ⟨B1, r1, rfl, t1, j1, i1⟩
            have f0 := kept i1 f0
            have f1 := kept i1 f1
            have f2 := kept i1 f2
            have f3 := kept i1 f3
            have f4 := kept i1 f4
            have f5 := kept i1 f5
            have f6 := kept i1 f6
            have x0 := kept i1 x0
            have x1 := kept i1 x1
            have x2 := kept i1 x2
            have x3 := kept i1 x3
            have x4 := kept i1 x4
            have x5 := kept i1 x5
            have x6 := kept i1 x6
            have hsF := hsF.drew.below i1
            have hsX := hsX.drew.below i1)
         | (go_at_call 24
            with_reducible refine (at_c (c := c) (d := early) t1 (Below.refl _ _) j1 hmL HE.out HM.out).mono ?_
            rintro e v2 ⟨B2, r2, rfl, t2, j2, i2⟩
            have f0 := kept i2 f0
            have f1 := kept i2 f1
            have f2 := kept i2 f2
            have f3 := kept i2 f3
            have f4 := kept i2 f4
            have f5 := kept i2 f5
            have f6 := kept i2 f6
            have x0 := kept i2 x0
            have x1 := kept i2 x1
            have x2 := kept i2 x2
            have x3 := kept i2 x3
            have x4 := kept i2 x4
            have x5 := kept i2 x5
            have x6 := kept i2 x6
            have hsF := hsF.below i2
            have hsX := hsX.below i2)
         | (go_at_call 18
            with_reducible refine (same_b (c := c) t2 (Below.refl _ _) hsX (Below.refl _ _) j2 (by omega)).mono ?_
            rintro e v3 ⟨rfl, j3, i3⟩
            have f0 := kept i3 f0
            have f1 := kept i3 f1
            have f2 := kept i3 f2
            have f3 := kept i3 f3
            have f4 := kept i3 f4
            have f5 := kept i3 f5
            have f6 := kept i3 f6
            have x0 := kept i3 x0
            have x1 := kept i3 x1
            have x2 := kept i3 x2
            have x3 := kept i3 x3
            have x4 := kept i3 x4
            have x5 := kept i3 x5
            have x6 := kept i3 x6
            have hsF := hsF.below i3
            have hsX := hsX.below i3)
         | (go_at_call 24
            with_reducible refine (at_c (c := c) (d := late) hsX (Below.refl _ _) j3 (by omega) HLX.out HM.out).mono ?_
            rintro e v4 ⟨B4, r4, rfl, t4, j4, i4⟩
            have f0 := kept i4 f0
            have f1 := kept i4 f1
            have f2 := kept i4 f2
            have f3 := kept i4 f3
            have f4 := kept i4 f4
            have f5 := kept i4 f5
            have f6 := kept i4 f6
            have x0 := kept i4 x0
            have x1 := kept i4 x1
            have x2 := kept i4 x2
            have x3 := kept i4 x3
            have x4 := kept i4 x4
            have x5 := kept i4 x5
            have x6 := kept i4 x6
            have hsF := hsF.below i4
            have hsX := hsX.below i4)
         | (go_at_call 18
            with_reducible refine (same_b (c := c) t4 (Below.refl _ _) hsX (Below.refl _ _) j4 (by omega)).mono ?_
            rintro e v5 ⟨rfl, j5, i5⟩
            have f0 := kept i5 f0
            have f1 := kept i5 f1
            have f2 := kept i5 f2
            have f3 := kept i5 f3
            have f4 := kept i5 f4
            have f5 := kept i5 f5
            have f6 := kept i5 f6
            have x0 := kept i5 x0
            have x1 := kept i5 x1
            have x2 := kept i5 x2
            have x3 := kept i5 x3
            have x4 := kept i5 x4
            have x5 := kept i5 x5
            have x6 := kept i5 x6
            have hsF := hsF.below i5
            have hsX := hsX.below i5)
         | (go_at_call 24
            with_reducible refine (at_c (c := c) (d := 292194) hsF (Below.refl _ _) j5 (by omega) HA.out HN.out).mono ?_
            rintro e v6 ⟨B6, r6, rfl, t6, j6, i6⟩
            have f0 := kept i6 f0
            have f1 := kept i6 f1
            have f2 := kept i6 f2
            have f3 := kept i6 f3
            have f4 := kept i6 f4
            have f5 := kept i6 f5
            have f6 := kept i6 f6
            have x0 := kept i6 x0
            have x1 := kept i6 x1
            have x2 := kept i6 x2
            have x3 := kept i6 x3
            have x4 := kept i6 x4
            have x5 := kept i6 x5
            have x6 := kept i6 x6
            have hsF := hsF.below i6)
         | (go_at_call 18
            with_reducible refine (same_b (c := c) t6 (Below.refl _ _) hsF (Below.refl _ _) j6 (by omega)).mono ?_
            rintro e v7 ⟨rfl, j7, i7⟩
            have f0 := kept i7 f0
            have f1 := kept i7 f1
            have f2 := kept i7 f2
            have f3 := kept i7 f3
            have f4 := kept i7 f4
            have f5 := kept i7 f5
            have f6 := kept i7 f6
            have x0 := kept i7 x0
            have x1 := kept i7 x1
            have x2 := kept i7 x2
            have x3 := kept i7 x3
            have x4 := kept i7 x4
            have x5 := kept i7 x5
            have x6 := kept i7 x6))
      go_wp2_with fail
      go_ret
      exact ⟨rfl, j7⟩
  · obtain ⟨code, hcode⟩ : ∃ x, putC c.bkd l2 ⟨b, k, m⟩ = x := ⟨_, rfl⟩
    rw [hcode] at hc
    have HC := hide hcode
    clear hcode
    go_wp2_with fail
    refine (put_noc (c := c) (l := l2) hs2 ((Below.refl _ _).alloc (Nat.le_refl _) _) (h3.alloc h3.size _) (by omega) HC.out hc).mono ?_
    rintro e w4 ⟨rfl, h4, hb4⟩
    have a0 := kept hb4 (kept ((Below.refl _ _).alloc (Nat.le_refl _) _) a0)
    have a1 := kept hb4 (kept ((Below.refl _ _).alloc (Nat.le_refl _) _) a1)
    have a2 := kept hb4 (kept ((Below.refl _ _).alloc (Nat.le_refl _) _) a2)
    have f0 := kept hb4 (kept ((Below.refl _ _).alloc (Nat.le_refl _) _) f0)
    have f1 := kept hb4 (kept ((Below.refl _ _).alloc (Nat.le_refl _) _) f1)
    have f2 := kept hb4 (kept ((Below.refl _ _).alloc (Nat.le_refl _) _) f2)
    have f3 := kept hb4 (kept ((Below.refl _ _).alloc (Nat.le_refl _) _) f3)
    have f4 := kept hb4 (kept ((Below.refl _ _).alloc (Nat.le_refl _) _) f4)
    have f5 := kept hb4 (kept ((Below.refl _ _).alloc (Nat.le_refl _) _) f5)
    have f6 := kept hb4 (kept ((Below.refl _ _).alloc (Nat.le_refl _) _) f6)
    have x0 := kept hb4 (b := w3.heap.size) (o := 0) (u := .int .i64 c.id) (by simp)
    have x1 := kept hb4 (b := w3.heap.size) (o := 1) (u := .int .i64 c.pol) (by simp)
    have x2 := kept hb4 (b := w3.heap.size) (o := 2) (u := .int .i64 c.per) (by simp)
    have x3 := kept hb4 (b := w3.heap.size) (o := 3) (u := .int .i64 c.loss) (by simp)
    have x4 := kept hb4 (b := w3.heap.size) (o := 4) (u := .int .i64 c.bkd) (by simp)
    have x5 := kept hb4 (b := w3.heap.size) (o := 5) (u := .int .i64 c.ev) (by simp)
    have x6 := kept hb4 (b := w3.heap.size) (o := 6) (u := .slice A3 n3 q3) (by simp)
    have hs2 := (hs2.alloc _).below hb4
    have hs3 := (hs3.alloc _).below hb4
    have hza := block_lt_of_cell a0
    have hzf := block_lt_of_cell f0
    have hzx := block_lt_of_cell x0
    clear hb4 h3
    go_upto_region 7 with fail
    obtain ⟨w5, hw5⟩ : ∃ W, w4.alloc (.cells #[.int .i64 0, .int .i64 0, .int .i64 0, .int .i64 0, .int .i64 0, .int .i64 0, .slice none 0 0] 32) = W := ⟨_, rfl⟩
    have h5 : Below w.heap.size w w5 := by rw [← hw5]; exact h4.alloc h4.size _
    have hb5 : Below w4.heap.size w4 w5 := by rw [← hw5]; exact (Below.refl _ _).alloc (Nat.le_refl _) _
    have g0 : w5.cell? ⟨w4.heap.size, 0, none⟩ = some (.int .i64 0) := by rw [← hw5]; simp
    have g1 : w5.cell? ⟨w4.heap.size, 1, none⟩ = some (.int .i64 0) := by rw [← hw5]; simp
    have g2 : w5.cell? ⟨w4.heap.size, 2, none⟩ = some (.int .i64 0) := by rw [← hw5]; simp
    have g3 : w5.cell? ⟨w4.heap.size, 3, none⟩ = some (.int .i64 0) := by rw [← hw5]; simp
    have g4 : w5.cell? ⟨w4.heap.size, 4, none⟩ = some (.int .i64 0) := by rw [← hw5]; simp
    have g5 : w5.cell? ⟨w4.heap.size, 5, none⟩ = some (.int .i64 0) := by rw [← hw5]; simp
    have g6 : w5.cell? ⟨w4.heap.size, 6, none⟩ = some (.slice none 0 0) := by rw [← hw5]; simp
    have a0 := kept hb5 a0
    have a1 := kept hb5 a1
    have a2 := kept hb5 a2
    have f0 := kept hb5 f0
    have f1 := kept hb5 f1
    have f2 := kept hb5 f2
    have f3 := kept hb5 f3
    have f4 := kept hb5 f4
    have f5 := kept hb5 f5
    have f6 := kept hb5 f6
    have x0 := kept hb5 x0
    have x1 := kept hb5 x1
    have x2 := kept hb5 x2
    have x3 := kept hb5 x3
    have x4 := kept hb5 x4
    have x5 := kept hb5 x5
    have x6 := kept hb5 x6
    have hsF := hs2.below hb5
    have hsX := hs3.below hb5
    rw [hw5]
    have hza := block_lt_of_cell a0
    have hzf := block_lt_of_cell f0
    have hzx := block_lt_of_cell x0
    have hzg := block_lt_of_cell g0
    have hmL : (atL late l2).length ≤ 2000 := by have := atL_len late l2; rw [HN.out] at this; omega
    clear hw5 hb5 hs2 hs3
    have hcb : (code == 0) = false := by simpa using hc
    go_quiet (fail)
    have hsF := hsF.below (bel_drewN (Below.refl _ _) nq)
    have hsX := hsX.below (bel_drewN (Below.refl _ _) nq)
    have h6 := bel_drewN h5 nq
    have f0 : (w5.drewN nq).cell? ⟨w2.heap.size, 0, none⟩ = some (.int .i64 c.id) := f0
    have f1 : (w5.drewN nq).cell? ⟨w2.heap.size, 1, none⟩ = some (.int .i64 c.pol) := f1
    have f2 : (w5.drewN nq).cell? ⟨w2.heap.size, 2, none⟩ = some (.int .i64 c.per) := f2
    have f3 : (w5.drewN nq).cell? ⟨w2.heap.size, 3, none⟩ = some (.int .i64 c.loss) := f3
    have f4 : (w5.drewN nq).cell? ⟨w2.heap.size, 4, none⟩ = some (.int .i64 c.bkd) := f4
    have f5 : (w5.drewN nq).cell? ⟨w2.heap.size, 5, none⟩ = some (.int .i64 c.ev) := f5
    have f6 : (w5.drewN nq).cell? ⟨w2.heap.size, 6, none⟩ = some (.slice A2 n2 q2) := f6
    have x0 : (w5.drewN nq).cell? ⟨w3.heap.size, 0, none⟩ = some (.int .i64 c.id) := x0
    have x1 : (w5.drewN nq).cell? ⟨w3.heap.size, 1, none⟩ = some (.int .i64 c.pol) := x1
    have x2 : (w5.drewN nq).cell? ⟨w3.heap.size, 2, none⟩ = some (.int .i64 c.per) := x2
    have x3 : (w5.drewN nq).cell? ⟨w3.heap.size, 3, none⟩ = some (.int .i64 c.loss) := x3
    have x4 : (w5.drewN nq).cell? ⟨w3.heap.size, 4, none⟩ = some (.int .i64 c.bkd) := x4
    have x5 : (w5.drewN nq).cell? ⟨w3.heap.size, 5, none⟩ = some (.int .i64 c.ev) := x5
    have x6 : (w5.drewN nq).cell? ⟨w3.heap.size, 6, none⟩ = some (.slice A3 n3 q3) := x6
    obtain ⟨w6, hw6⟩ : ∃ W, w5.drewN nq = W := ⟨_, rfl⟩
    rw [hw6] at f0 f1 f2 f3 f4 f5 f6 x0 x1 x2 x3 x4 x5 x6 hsF hsX h6 ⊢
    clear hw6
    go_wp2_with fail
    go_region_held3 (fun w' => w'.cell? ⟨w2.heap.size, 0, none⟩ = some (.int .i64 c.id) ∧ w'.cell? ⟨w2.heap.size, 1, none⟩ = some (.int .i64 c.pol) ∧ w'.cell? ⟨w2.heap.size, 2, none⟩ = some (.int .i64 c.per) ∧ w'.cell? ⟨w2.heap.size, 3, none⟩ = some (.int .i64 c.loss) ∧ w'.cell? ⟨w2.heap.size, 4, none⟩ = some (.int .i64 c.bkd) ∧ w'.cell? ⟨w2.heap.size, 5, none⟩ = some (.int .i64 c.ev) ∧ w'.cell? ⟨w2.heap.size, 6, none⟩ = some (.slice A2 n2 q2) ∧ w'.cell? ⟨w3.heap.size, 0, none⟩ = some (.int .i64 c.id) ∧ w'.cell? ⟨w3.heap.size, 1, none⟩ = some (.int .i64 c.pol) ∧ w'.cell? ⟨w3.heap.size, 2, none⟩ = some (.int .i64 c.per) ∧ w'.cell? ⟨w3.heap.size, 3, none⟩ = some (.int .i64 c.loss) ∧ w'.cell? ⟨w3.heap.size, 4, none⟩ = some (.int .i64 c.bkd) ∧ w'.cell? ⟨w3.heap.size, 5, none⟩ = some (.int .i64 c.ev) ∧ w'.cell? ⟨w3.heap.size, 6, none⟩ = some (.slice A3 n3 q3)) (first | with_reducible exact ⟨f0, f1, f2, f3, f4, f5, f6, x0, x1, x2, x3, x4, x5, x6⟩ | go_keep)
      (first
       | (go_at_call 24
          with_reducible refine (at_c (c := c) (d := late) hsF (Below.refl _ _).drew h6.drew (by omega) rfl rfl).mono ?_
          rintro e v1 ⟨B1, r1, rfl, t1, j1, i1⟩
          have f0 := kept i1 f0
          have f1 := kept i1 f1
          have f2 := kept i1 f2
          have f3 := kept i1 f3
          have f4 := kept i1 f4
          have f5 := kept i1 f5
          have f6 := kept i1 f6
          have x0 := kept i1 x0
          have x1 := kept i1 x1
          have x2 := kept i1 x2
          have x3 := kept i1 x3
          have x4 := kept i1 x4
          have x5 := kept i1 x5
          have x6 := kept i1 x6
          have hsF := hsF.drew.below i1
          have hsX := hsX.drew.below i1)
       | (go_at_call 24
          with_reducible refine (at_c (c := c) (d := early) t1 (Below.refl _ _) j1 hmL HE.out HM.out).mono ?_
          rintro e v2 ⟨B2, r2, rfl, t2, j2, i2⟩
          have f0 := kept i2 f0
          have f1 := kept i2 f1
          have f2 := kept i2 f2
          have f3 := kept i2 f3
          have f4 := kept i2 f4
          have f5 := kept i2 f5
          have f6 := kept i2 f6
          have x0 := kept i2 x0
          have x1 := kept i2 x1
          have x2 := kept i2 x2
          have x3 := kept i2 x3
          have x4 := kept i2 x4
          have x5 := kept i2 x5
          have x6 := kept i2 x6
          have hsF := hsF.below i2
          have hsX := hsX.below i2)
       | (go_at_call 18
          with_reducible refine (same_b (c := c) t2 (Below.refl _ _) hsX (Below.refl _ _) j2 (by omega)).mono ?_
          rintro e v3 ⟨rfl, j3, i3⟩
          have f0 := kept i3 f0
          have f1 := kept i3 f1
          have f2 := kept i3 f2
          have f3 := kept i3 f3
          have f4 := kept i3 f4
          have f5 := kept i3 f5
          have f6 := kept i3 f6
          have x0 := kept i3 x0
          have x1 := kept i3 x1
          have x2 := kept i3 x2
          have x3 := kept i3 x3
          have x4 := kept i3 x4
          have x5 := kept i3 x5
          have x6 := kept i3 x6
          have hsF := hsF.below i3
          have hsX := hsX.below i3)
       | (go_at_call 24
          with_reducible refine (at_c (c := c) (d := late) hsX (Below.refl _ _) j3 (by omega) HLX.out HM.out).mono ?_
          rintro e v4 ⟨B4, r4, rfl, t4, j4, i4⟩
          have f0 := kept i4 f0
          have f1 := kept i4 f1
          have f2 := kept i4 f2
          have f3 := kept i4 f3
          have f4 := kept i4 f4
          have f5 := kept i4 f5
          have f6 := kept i4 f6
          have x0 := kept i4 x0
          have x1 := kept i4 x1
          have x2 := kept i4 x2
          have x3 := kept i4 x3
          have x4 := kept i4 x4
          have x5 := kept i4 x5
          have x6 := kept i4 x6
          have hsF := hsF.below i4
          have hsX := hsX.below i4)
       | (go_at_call 18
          with_reducible refine (same_b (c := c) t4 (Below.refl _ _) hsX (Below.refl _ _) j4 (by omega)).mono ?_
          rintro e v5 ⟨rfl, j5, i5⟩
          have f0 := kept i5 f0
          have f1 := kept i5 f1
          have f2 := kept i5 f2
          have f3 := kept i5 f3
          have f4 := kept i5 f4
          have f5 := kept i5 f5
          have f6 := kept i5 f6
          have x0 := kept i5 x0
          have x1 := kept i5 x1
          have x2 := kept i5 x2
          have x3 := kept i5 x3
          have x4 := kept i5 x4
          have x5 := kept i5 x5
          have x6 := kept i5 x6
          have hsF := hsF.below i5
          have hsX := hsX.below i5)
       | (go_at_call 24
          with_reducible refine (at_c (c := c) (d := 292194) hsF (Below.refl _ _) j5 (by omega) HA.out HN.out).mono ?_
          rintro e v6 ⟨B6, r6, rfl, t6, j6, i6⟩
          have f0 := kept i6 f0
          have f1 := kept i6 f1
          have f2 := kept i6 f2
          have f3 := kept i6 f3
          have f4 := kept i6 f4
          have f5 := kept i6 f5
          have f6 := kept i6 f6
          have x0 := kept i6 x0
          have x1 := kept i6 x1
          have x2 := kept i6 x2
          have x3 := kept i6 x3
          have x4 := kept i6 x4
          have x5 := kept i6 x5
          have x6 := kept i6 x6
          have hsF := hsF.below i6)
       | (go_at_call 18
          with_reducible refine (same_b (c := c) t6 (Below.refl _ _) hsF (Below.refl _ _) j6 (by omega)).mono ?_
          rintro e v7 ⟨rfl, j7, i7⟩
          have f0 := kept i7 f0
          have f1 := kept i7 f1
          have f2 := kept i7 f2
          have f3 := kept i7 f3
          have f4 := kept i7 f4
          have f5 := kept i7 f5
          have f6 := kept i7 f6
          have x0 := kept i7 x0
          have x1 := kept i7 x1
          have x2 := kept i7 x2
          have x3 := kept i7 x3
          have x4 := kept i7 x4
          have x5 := kept i7 x5
          have x6 := kept i7 x6))
    go_wp2_with fail
    go_ret
    exact ⟨rfl, j7⟩

theorem claimKnown_lifted (os : Os) (started : os.Started) (H : Type) (enc : TypeId × Value → H) :
    ReturnsInHanded {} Try.checked os 9 .any (Rows.claimKnownSpec.pre6 enc Try.prog Try.f9 Rows.claimKnownRow.domain false) (Rows.claimKnownSpec.post enc Try.prog Try.f9 false true false false) := by
  refine returnsInHanded_of_change (C := Try.checked) own started (by kernel_rfl) Try.func9
    (ChangeSpec.witness6 (enc := enc) (C := Try.checked) false ⟨#[], #[.agg #[.int .i64 0, .int .i64 0, .int .i64 0, .int .i64 0, .int .i64 0, .int .i64 0], .slice none 0 0, .agg #[.int .i64 0, .int .i64 0, .int .i64 0], .int .i64 0, .int .i64 0], []⟩ 8 (by kernel_rfl) (by kernel_rfl) (by kernel_rfl) (by kernel_rfl)) ?_
  intro W base args ds gs before hval0 hW hcnd _
  have hval : ∀ (j : Nat) t v, Try.f9.params[j]? = some t → args[j]? = some v → Value.okWide Try.prog W .any base t v := hval0
  have hW' := hW
  obtain ⟨p, q, hA0, hV, rfl, hfz, hnd⟩ := hW
  have hA : DataW.TrodAll enc Try.prog W 0 (fun _ => true) true Try.f9.params.toList args.toList ds p := hA0
  rw [Try.params9] at hA hval
  obtain ⟨v0, vs0, d0, ds0, p0, q0, hargs, rfl, rfl, h0, r0⟩ := trodAll_cons hA
  obtain ⟨v1, vs1, d1, ds1, p1, q1, rfl, rfl, rfl, h1, r1⟩ := trodAll_cons r0
  obtain ⟨v2, vs2, d2, ds2, p2, q2, rfl, rfl, rfl, h2, r2⟩ := trodAll_cons r1
  obtain ⟨v3, vs3, d3, ds3, p3, q3, rfl, rfl, rfl, h3, r3⟩ := trodAll_cons r2
  obtain ⟨v4, vs4, d4, ds4, p4, q4, rfl, rfl, rfl, h4, r4⟩ := trodAll_cons r3
  obtain ⟨rfl, rfl, rfl⟩ := trodAll_nil r4
  obtain rfl : args = #[v0, v1, v2, v3, v4] := by cases args; simp_all
  obtain ⟨rfl, rfl⟩ := trodVars_none hV
  obtain ⟨c0, rfl⟩ := open_claim (hval 0 23 v0 rfl rfl) h0
  obtain ⟨A1, l1, p1, rfl, hs1⟩ := open_acts (hval 1 30 v1 rfl rfl) h1
  obtain ⟨b2, k2, m2, rfl, wb2, wk2, wm2⟩ := open_act (hval 2 25 v2 rfl rfl) h2
  obtain ⟨x3, rfl, rfl, rfl, wx3⟩ := open_int Try.underlying3 (hval 3 3 v3 rfl rfl) h3
  obtain ⟨x4, rfl, rfl, rfl, wx4⟩ := open_int Try.underlying3 (hval 4 3 v4 rfl rfl) h4
  refine (claimKnown_walk W c0 A1 l1 p1 hs1 b2 k2 m2 wb2 wk2 wm2 x3 wx3 x4 wx4).mono fun e W' ⟨he, hb⟩ => ?_
  subst he
  exact ⟨_, rfl, law_post laidOut (by kernel_rfl) rfl Try.underlying4 rfl rfl hW' hb⟩

/-- THE STATEMENT. -/
theorem claimKnown_holds : Rows.ClaimKnownSaid :=
  OpenClaim.holds_of_wide 9 Try.f9 rfl rfl rfl rfl rfl rfl rfl ⟨rfl, rfl, rfl, rfl, rfl⟩ rfl rfl rfl rfl rfl (by kernel_rfl) Try.func9 (by kernel_rfl)
    (of_decide_eq_true (by kernel_rfl)) (by unfold Func.isWrapper; first | (rw [if_pos (by decide +kernel)]; kernel_rfl) | (rw [if_neg (by decide +kernel)]; exact ⟨rfl, rfl⟩))
    (fun os started H enc _ => claimKnown_lifted os started H enc)
end Go.Proofs.Ytmeneojgdbjlnaa
