/- ClaimPuts: what any file is with one more act, or why that can't be. -/
import Derived.Test.YtmeneojgdbjlnaaClaimL
namespace Go.Proofs.Ytmeneojgdbjlnaa
open Go.ChangeShapes Go.WideShapes Go.ChangeAt Go.RowKit
set_option linter.unusedVariables false

set_option maxRecDepth 100000 in
set_option maxHeartbeats 4000000 in
theorem claimPuts_walk (w : World) (c : Cl) (A : Option Addr) (l : List Ac) (cap : Nat) (hs : SV w 3 A l.length cap (l.map encAc)) (b k m : Int) (_wb : (Lit.int .i64 b).wf = true) (_wk : (Lit.int .i64 k).wf = true) (_wm : (Lit.int .i64 m).wf = true) :
    Calls Try.prog 4 #[.agg #[.int .i64 c.id, .int .i64 c.pol, .int .i64 c.per, .int .i64 c.loss, .int .i64 c.bkd, .int .i64 c.ev, .slice A l.length cap], .agg #[.int .i64 b, .int .i64 k, .int .i64 m]] w fun e w' => e = .returned (.bool true) ∧ Below w.heap.size w w' := by
  go_enter Try.func4, Try.ntmps4
  have HS := hide hs
  clear hs
  go_wp2_with fail
  refine (awake_b (((Below.refl w.heap.size w).alloc (Nat.le_refl _) _).alloc (by simp) _)).mono ?_
  rintro e w1 ⟨rfl, h1, hb1⟩
  have c0 := kept hb1 (b := w.heap.size) (o := 0) (u := .int .i64 c.id) (by simp)
  have c1 := kept hb1 (b := w.heap.size) (o := 1) (u := .int .i64 c.pol) (by simp)
  have c2 := kept hb1 (b := w.heap.size) (o := 2) (u := .int .i64 c.per) (by simp)
  have c3 := kept hb1 (b := w.heap.size) (o := 3) (u := .int .i64 c.loss) (by simp)
  have c4 := kept hb1 (b := w.heap.size) (o := 4) (u := .int .i64 c.bkd) (by simp)
  have c5 := kept hb1 (b := w.heap.size) (o := 5) (u := .int .i64 c.ev) (by simp)
  have c6 := kept hb1 (b := w.heap.size) (o := 6) (u := .slice A l.length cap) (by simp)
  have a0 := kept hb1 (b := w.heap.size + 1) (o := 0) (u := .int .i64 b) (by simp)
  have a1 := kept hb1 (b := w.heap.size + 1) (o := 1) (u := .int .i64 k) (by simp)
  have a2 := kept hb1 (b := w.heap.size + 1) (o := 2) (u := .int .i64 m) (by simp)
  have hz := hb1.size
  simp at hz
  clear hb1
  have hm : l.length ≤ 9223372036854775807 := by have := HS.out.le; have := HS.out.most; simp only [maxLen] at this; omega
  go_wp2_with fail
  refine (tame_any c A cap l _ (HS.out.below h1).sl hm).mono ?_
  rintro e w2 ⟨rfl, hb2⟩
  have h2 := chain h1 hb2
  have c0 := kept hb2 c0
  have c1 := kept hb2 c1
  have c2 := kept hb2 c2
  have c3 := kept hb2 c3
  have c4 := kept hb2 c4
  have c5 := kept hb2 c5
  have c6 := kept hb2 c6
  have a0 := kept hb2 a0
  have a1 := kept hb2 a1
  have a2 := kept hb2 a2
  clear hb2 h1
  cases ht : tameB l
  · go_wp2_with fail
    go_ret
    exact ⟨rfl, h2⟩
  have hm100 := (tame_parts ht).1
  go_wp2_with fail
  by_cases hc : putC c.bkd l ⟨b, k, m⟩ = 0
  · have HC := hide hc
    clear hc
    refine (put_okb (c := c) (l := l) HS.out h2 (by omega) HC.out).mono ?_
    rintro e w3 ⟨A3, q3, rfl, hs3, h3, hb3⟩
    have c0 := kept hb3 c0
    have c1 := kept hb3 c1
    have c2 := kept hb3 c2
    have c3 := kept hb3 c3
    have c4 := kept hb3 c4
    have c5 := kept hb3 c5
    have c6 := kept hb3 c6
    have a0 := kept hb3 a0
    have a1 := kept hb3 a1
    have a2 := kept hb3 a2
    have hzc := block_lt_of_cell c0
    have hza := block_lt_of_cell a0
    clear hb3
    obtain ⟨n1, hn1⟩ : ∃ x, l.length + 1 = x := ⟨_, rfl⟩
    rw [hn1] at hs3 ⊢
    have hm1 : n1 ≤ 9223372036854775807 := by omega
    go_wp2_with fail
    refine (putR_okb (c := c) (l := l) HS.out (h3.alloc h3.size _) ht HC.out).mono ?_
    rintro e w4 ⟨A4, q4, rfl, hs4, h4, hb4⟩
    rw [hn1] at hs4 ⊢
    have c0 := kept hb4 (kept ((Below.refl _ _).alloc (Nat.le_refl _) _) c0)
    have c1 := kept hb4 (kept ((Below.refl _ _).alloc (Nat.le_refl _) _) c1)
    have c2 := kept hb4 (kept ((Below.refl _ _).alloc (Nat.le_refl _) _) c2)
    have c3 := kept hb4 (kept ((Below.refl _ _).alloc (Nat.le_refl _) _) c3)
    have c4 := kept hb4 (kept ((Below.refl _ _).alloc (Nat.le_refl _) _) c4)
    have c5 := kept hb4 (kept ((Below.refl _ _).alloc (Nat.le_refl _) _) c5)
    have c6 := kept hb4 (kept ((Below.refl _ _).alloc (Nat.le_refl _) _) c6)
    have a0 := kept hb4 (kept ((Below.refl _ _).alloc (Nat.le_refl _) _) a0)
    have a1 := kept hb4 (kept ((Below.refl _ _).alloc (Nat.le_refl _) _) a1)
    have a2 := kept hb4 (kept ((Below.refl _ _).alloc (Nat.le_refl _) _) a2)
    have x0 := kept hb4 (b := w3.heap.size) (o := 0) (u := .int .i64 c.id) (by simp)
    have x1 := kept hb4 (b := w3.heap.size) (o := 1) (u := .int .i64 c.pol) (by simp)
    have x2 := kept hb4 (b := w3.heap.size) (o := 2) (u := .int .i64 c.per) (by simp)
    have x3 := kept hb4 (b := w3.heap.size) (o := 3) (u := .int .i64 c.loss) (by simp)
    have x4 := kept hb4 (b := w3.heap.size) (o := 4) (u := .int .i64 c.bkd) (by simp)
    have x5 := kept hb4 (b := w3.heap.size) (o := 5) (u := .int .i64 c.ev) (by simp)
    have x6 := kept hb4 (b := w3.heap.size) (o := 6) (u := .slice A3 n1 q3) (by simp)
    have hzx := block_lt_of_cell x0
    have hzc := block_lt_of_cell c0
    have hs3' := (hs3.alloc _).below hb4
    have hz4 := hb4.size
    clear hb4 a0 a1 a2
    go_wp2_with fail
    obtain ⟨w5, hw5⟩ : ∃ W, w4.alloc (.cells #[.int .i64 c.id, .int .i64 c.pol, .int .i64 c.per, .int .i64 c.loss, .int .i64 c.bkd, .int .i64 c.ev, .slice A4 n1 q4] 32) = W := ⟨_, rfl⟩
    have h5 : Below w.heap.size w w5 := by rw [← hw5]; exact h4.alloc h4.size _
    have hb5 : Below w4.heap.size w4 w5 := by rw [← hw5]; exact (Below.refl _ _).alloc (Nat.le_refl _) _
    have y0 : w5.cell? ⟨w4.heap.size, 0, none⟩ = some (.int .i64 c.id) := by rw [← hw5]; simp
    have y1 : w5.cell? ⟨w4.heap.size, 1, none⟩ = some (.int .i64 c.pol) := by rw [← hw5]; simp
    have y2 : w5.cell? ⟨w4.heap.size, 2, none⟩ = some (.int .i64 c.per) := by rw [← hw5]; simp
    have y3 : w5.cell? ⟨w4.heap.size, 3, none⟩ = some (.int .i64 c.loss) := by rw [← hw5]; simp
    have y4 : w5.cell? ⟨w4.heap.size, 4, none⟩ = some (.int .i64 c.bkd) := by rw [← hw5]; simp
    have y5 : w5.cell? ⟨w4.heap.size, 5, none⟩ = some (.int .i64 c.ev) := by rw [← hw5]; simp
    have y6 : w5.cell? ⟨w4.heap.size, 6, none⟩ = some (.slice A4 n1 q4) := by rw [← hw5]; simp
    have c0 := kept hb5 c0
    have c1 := kept hb5 c1
    have c2 := kept hb5 c2
    have c3 := kept hb5 c3
    have c4 := kept hb5 c4
    have c5 := kept hb5 c5
    have c6 := kept hb5 c6
    have x0 := kept hb5 x0
    have x1 := kept hb5 x1
    have x2 := kept hb5 x2
    have x3 := kept hb5 x3
    have x4 := kept hb5 x4
    have x5 := kept hb5 x5
    have x6 := kept hb5 x6
    rw [hw5]
    clear hw5
    have hs3'' := hs3'.below hb5
    have hs4'' := hs4.below hb5
    clear hb5 hs3 hs4 hs3'
    go_region_held3 (fun w' => w'.cell? ⟨w3.heap.size, 0, none⟩ = some (.int .i64 c.id) ∧ w'.cell? ⟨w3.heap.size, 1, none⟩ = some (.int .i64 c.pol) ∧ w'.cell? ⟨w3.heap.size, 2, none⟩ = some (.int .i64 c.per) ∧ w'.cell? ⟨w3.heap.size, 3, none⟩ = some (.int .i64 c.loss) ∧ w'.cell? ⟨w3.heap.size, 4, none⟩ = some (.int .i64 c.bkd) ∧ w'.cell? ⟨w3.heap.size, 5, none⟩ = some (.int .i64 c.ev) ∧ w'.cell? ⟨w3.heap.size, 6, none⟩ = some (.slice A3 n1 q3) ∧ w'.cell? ⟨w4.heap.size, 0, none⟩ = some (.int .i64 c.id) ∧ w'.cell? ⟨w4.heap.size, 1, none⟩ = some (.int .i64 c.pol) ∧ w'.cell? ⟨w4.heap.size, 2, none⟩ = some (.int .i64 c.per) ∧ w'.cell? ⟨w4.heap.size, 3, none⟩ = some (.int .i64 c.loss) ∧ w'.cell? ⟨w4.heap.size, 4, none⟩ = some (.int .i64 c.bkd) ∧ w'.cell? ⟨w4.heap.size, 5, none⟩ = some (.int .i64 c.ev) ∧ w'.cell? ⟨w4.heap.size, 6, none⟩ = some (.slice A4 n1 q4) ∧ w'.cell? ⟨w.heap.size, 0, none⟩ = some (.int .i64 c.id) ∧ w'.cell? ⟨w.heap.size, 1, none⟩ = some (.int .i64 c.pol) ∧ w'.cell? ⟨w.heap.size, 2, none⟩ = some (.int .i64 c.per) ∧ w'.cell? ⟨w.heap.size, 3, none⟩ = some (.int .i64 c.loss) ∧ w'.cell? ⟨w.heap.size, 4, none⟩ = some (.int .i64 c.bkd) ∧ w'.cell? ⟨w.heap.size, 5, none⟩ = some (.int .i64 c.ev) ∧ w'.cell? ⟨w.heap.size, 6, none⟩ = some (.slice A l.length cap)) (first | with_reducible exact ⟨x0, x1, x2, x3, x4, x5, x6, y0, y1, y2, y3, y4, y5, y6, c0, c1, c2, c3, c4, c5, c6⟩ | go_keep)
      (first
       | (go_at_call 18
          with_reducible refine (same_b hs3'' (Below.refl _ _).drew hs4'' (Below.refl _ _).drew h5.drew hm1).mono ?_
          rintro e w6 ⟨rfl, h6, hb6⟩
          have x0 := kept hb6 x0
          have x1 := kept hb6 x1
          have x2 := kept hb6 x2
          have x3 := kept hb6 x3
          have x4 := kept hb6 x4
          have x5 := kept hb6 x5
          have x6 := kept hb6 x6
          have y0 := kept hb6 y0
          have y1 := kept hb6 y1
          have y2 := kept hb6 y2
          have y3 := kept hb6 y3
          have y4 := kept hb6 y4
          have y5 := kept hb6 y5
          have y6 := kept hb6 y6
          have c0 := kept hb6 c0
          have c1 := kept hb6 c1
          have c2 := kept hb6 c2
          have c3 := kept hb6 c3
          have c4 := kept hb6 c4
          have c5 := kept hb6 c5
          have c6 := kept hb6 c6)
       | (go_at_call 19
          with_reducible refine (open_b (c := c) h6).mono ?_
          rintro e w7 ⟨rfl, h7, hb7⟩
          have x0 := kept hb7 x0
          have x1 := kept hb7 x1
          have x2 := kept hb7 x2
          have x3 := kept hb7 x3
          have x4 := kept hb7 x4
          have x5 := kept hb7 x5
          have x6 := kept hb7 x6
          have y0 := kept hb7 y0
          have y1 := kept hb7 y1
          have y2 := kept hb7 y2
          have y3 := kept hb7 y3
          have y4 := kept hb7 y4
          have y5 := kept hb7 y5
          have y6 := kept hb7 y6
          have c0 := kept hb7 c0
          have c1 := kept hb7 c1
          have c2 := kept hb7 c2
          have c3 := kept hb7 c3
          have c4 := kept hb7 c4
          have c5 := kept hb7 c5
          have c6 := kept hb7 c6)
       | (go_at_call 20
          with_reducible refine (openR_b (c := c) h7).mono ?_
          rintro e w8 ⟨rfl, h8, hb8⟩
          have x0 := kept hb8 x0
          have x1 := kept hb8 x1
          have x2 := kept hb8 x2
          have x3 := kept hb8 x3
          have x4 := kept hb8 x4
          have x5 := kept hb8 x5
          have x6 := kept hb8 x6
          have y0 := kept hb8 y0
          have y1 := kept hb8 y1
          have y2 := kept hb8 y2
          have y3 := kept hb8 y3
          have y4 := kept hb8 y4
          have y5 := kept hb8 y5
          have y6 := kept hb8 y6
          have c0 := kept hb8 c0
          have c1 := kept hb8 c1
          have c2 := kept hb8 c2
          have c3 := kept hb8 c3
          have c4 := kept hb8 c4
          have c5 := kept hb8 c5
          have c6 := kept hb8 c6)
       | (go_at_call 18
          with_reducible refine (same_b (c := c) (l := []) (sv_nil _) (Below.refl _ _) (sv_nil _) (Below.refl _ _) h8 (by omega)).mono ?_
          rintro e w9 ⟨rfl, h9, hb9⟩
          have x0 := kept hb9 x0
          have x1 := kept hb9 x1
          have x2 := kept hb9 x2
          have x3 := kept hb9 x3
          have x4 := kept hb9 x4
          have x5 := kept hb9 x5
          have x6 := kept hb9 x6
          have y0 := kept hb9 y0
          have y1 := kept hb9 y1
          have y2 := kept hb9 y2
          have y3 := kept hb9 y3
          have y4 := kept hb9 y4
          have y5 := kept hb9 y5
          have y6 := kept hb9 y6
          have c0 := kept hb9 c0
          have c1 := kept hb9 c1
          have c2 := kept hb9 c2
          have c3 := kept hb9 c3
          have c4 := kept hb9 c4
          have c5 := kept hb9 c5
          have c6 := kept hb9 c6))
    go_wp2_with fail
    go_ret
    exact ⟨rfl, h9⟩
  · obtain ⟨code, hcode⟩ : ∃ x, putC c.bkd l ⟨b, k, m⟩ = x := ⟨_, rfl⟩
    rw [hcode] at hc
    have HC := hide hcode
    clear hcode
    refine (put_nob (c := c) (l := l) HS.out h2 (by omega) HC.out hc).mono ?_
    rintro e w3 ⟨rfl, h3, hb3⟩
    have c0 := kept hb3 c0
    have c1 := kept hb3 c1
    have c2 := kept hb3 c2
    have c3 := kept hb3 c3
    have c4 := kept hb3 c4
    have c5 := kept hb3 c5
    have c6 := kept hb3 c6
    have a0 := kept hb3 a0
    have a1 := kept hb3 a1
    have a2 := kept hb3 a2
    have hzc := block_lt_of_cell c0
    have hza := block_lt_of_cell a0
    clear hb3
    go_wp2_with fail
    refine (putR_nob (c := c) (l := l) HS.out (h3.alloc h3.size _) ht HC.out hc).mono ?_
    rintro e w4 ⟨rfl, h4, hb4⟩
    have c0 := kept hb4 (kept ((Below.refl _ _).alloc (Nat.le_refl _) _) c0)
    have c1 := kept hb4 (kept ((Below.refl _ _).alloc (Nat.le_refl _) _) c1)
    have c2 := kept hb4 (kept ((Below.refl _ _).alloc (Nat.le_refl _) _) c2)
    have c3 := kept hb4 (kept ((Below.refl _ _).alloc (Nat.le_refl _) _) c3)
    have c4 := kept hb4 (kept ((Below.refl _ _).alloc (Nat.le_refl _) _) c4)
    have c5 := kept hb4 (kept ((Below.refl _ _).alloc (Nat.le_refl _) _) c5)
    have c6 := kept hb4 (kept ((Below.refl _ _).alloc (Nat.le_refl _) _) c6)
    have a0 := kept hb4 (kept ((Below.refl _ _).alloc (Nat.le_refl _) _) a0)
    have a1 := kept hb4 (kept ((Below.refl _ _).alloc (Nat.le_refl _) _) a1)
    have a2 := kept hb4 (kept ((Below.refl _ _).alloc (Nat.le_refl _) _) a2)
    have x0 := kept hb4 (b := w3.heap.size) (o := 0) (u := .int .i64 0) (by simp)
    have x1 := kept hb4 (b := w3.heap.size) (o := 1) (u := .int .i64 0) (by simp)
    have x2 := kept hb4 (b := w3.heap.size) (o := 2) (u := .int .i64 0) (by simp)
    have x3 := kept hb4 (b := w3.heap.size) (o := 3) (u := .int .i64 0) (by simp)
    have x4 := kept hb4 (b := w3.heap.size) (o := 4) (u := .int .i64 0) (by simp)
    have x5 := kept hb4 (b := w3.heap.size) (o := 5) (u := .int .i64 0) (by simp)
    have x6 := kept hb4 (b := w3.heap.size) (o := 6) (u := .slice none 0 0) (by simp)
    have hzx := block_lt_of_cell x0
    have hzc := block_lt_of_cell c0
    have hz4 := hb4.size
    clear hb4 a0 a1 a2
    go_wp2_with fail
    obtain ⟨w5, hw5⟩ : ∃ W, w4.alloc (.cells #[.int .i64 0, .int .i64 0, .int .i64 0, .int .i64 0, .int .i64 0, .int .i64 0, .slice none 0 0] 32) = W := ⟨_, rfl⟩
    have h5 : Below w.heap.size w w5 := by rw [← hw5]; exact h4.alloc h4.size _
    have hb5 : Below w4.heap.size w4 w5 := by rw [← hw5]; exact (Below.refl _ _).alloc (Nat.le_refl _) _
    have y0 : w5.cell? ⟨w4.heap.size, 0, none⟩ = some (.int .i64 0) := by rw [← hw5]; simp
    have y1 : w5.cell? ⟨w4.heap.size, 1, none⟩ = some (.int .i64 0) := by rw [← hw5]; simp
    have y2 : w5.cell? ⟨w4.heap.size, 2, none⟩ = some (.int .i64 0) := by rw [← hw5]; simp
    have y3 : w5.cell? ⟨w4.heap.size, 3, none⟩ = some (.int .i64 0) := by rw [← hw5]; simp
    have y4 : w5.cell? ⟨w4.heap.size, 4, none⟩ = some (.int .i64 0) := by rw [← hw5]; simp
    have y5 : w5.cell? ⟨w4.heap.size, 5, none⟩ = some (.int .i64 0) := by rw [← hw5]; simp
    have y6 : w5.cell? ⟨w4.heap.size, 6, none⟩ = some (.slice none 0 0) := by rw [← hw5]; simp
    have c0 := kept hb5 c0
    have c1 := kept hb5 c1
    have c2 := kept hb5 c2
    have c3 := kept hb5 c3
    have c4 := kept hb5 c4
    have c5 := kept hb5 c5
    have c6 := kept hb5 c6
    have x0 := kept hb5 x0
    have x1 := kept hb5 x1
    have x2 := kept hb5 x2
    have x3 := kept hb5 x3
    have x4 := kept hb5 x4
    have x5 := kept hb5 x5
    have x6 := kept hb5 x6
    rw [hw5]
    clear hw5
    go_region_held3 (fun w' => w'.cell? ⟨w3.heap.size, 0, none⟩ = some (.int .i64 0) ∧ w'.cell? ⟨w3.heap.size, 1, none⟩ = some (.int .i64 0) ∧ w'.cell? ⟨w3.heap.size, 2, none⟩ = some (.int .i64 0) ∧ w'.cell? ⟨w3.heap.size, 3, none⟩ = some (.int .i64 0) ∧ w'.cell? ⟨w3.heap.size, 4, none⟩ = some (.int .i64 0) ∧ w'.cell? ⟨w3.heap.size, 5, none⟩ = some (.int .i64 0) ∧ w'.cell? ⟨w3.heap.size, 6, none⟩ = some (.slice none 0 0) ∧ w'.cell? ⟨w4.heap.size, 0, none⟩ = some (.int .i64 0) ∧ w'.cell? ⟨w4.heap.size, 1, none⟩ = some (.int .i64 0) ∧ w'.cell? ⟨w4.heap.size, 2, none⟩ = some (.int .i64 0) ∧ w'.cell? ⟨w4.heap.size, 3, none⟩ = some (.int .i64 0) ∧ w'.cell? ⟨w4.heap.size, 4, none⟩ = some (.int .i64 0) ∧ w'.cell? ⟨w4.heap.size, 5, none⟩ = some (.int .i64 0) ∧ w'.cell? ⟨w4.heap.size, 6, none⟩ = some (.slice none 0 0) ∧ w'.cell? ⟨w.heap.size, 0, none⟩ = some (.int .i64 c.id) ∧ w'.cell? ⟨w.heap.size, 1, none⟩ = some (.int .i64 c.pol) ∧ w'.cell? ⟨w.heap.size, 2, none⟩ = some (.int .i64 c.per) ∧ w'.cell? ⟨w.heap.size, 3, none⟩ = some (.int .i64 c.loss) ∧ w'.cell? ⟨w.heap.size, 4, none⟩ = some (.int .i64 c.bkd) ∧ w'.cell? ⟨w.heap.size, 5, none⟩ = some (.int .i64 c.ev) ∧ w'.cell? ⟨w.heap.size, 6, none⟩ = some (.slice A l.length cap)) (first | with_reducible exact ⟨x0, x1, x2, x3, x4, x5, x6, y0, y1, y2, y3, y4, y5, y6, c0, c1, c2, c3, c4, c5, c6⟩ | go_keep)
      (first
       | (go_at_call 18
          with_reducible refine (same_b (c := ⟨0, 0, 0, 0, 0, 0⟩) (l := []) (sv_nil _) (Below.refl _ _) (sv_nil _) (Below.refl _ _) h5.drew (by omega)).mono ?_
          rintro e w6 ⟨rfl, h6, hb6⟩
          have x0 := kept hb6 x0
          have x1 := kept hb6 x1
          have x2 := kept hb6 x2
          have x3 := kept hb6 x3
          have x4 := kept hb6 x4
          have x5 := kept hb6 x5
          have x6 := kept hb6 x6
          have y0 := kept hb6 y0
          have y1 := kept hb6 y1
          have y2 := kept hb6 y2
          have y3 := kept hb6 y3
          have y4 := kept hb6 y4
          have y5 := kept hb6 y5
          have y6 := kept hb6 y6
          have c0 := kept hb6 c0
          have c1 := kept hb6 c1
          have c2 := kept hb6 c2
          have c3 := kept hb6 c3
          have c4 := kept hb6 c4
          have c5 := kept hb6 c5
          have c6 := kept hb6 c6)
       | (go_at_call 19
          with_reducible refine (open_b (c := c) h6).mono ?_
          rintro e w7 ⟨rfl, h7, hb7⟩
          have x0 := kept hb7 x0
          have x1 := kept hb7 x1
          have x2 := kept hb7 x2
          have x3 := kept hb7 x3
          have x4 := kept hb7 x4
          have x5 := kept hb7 x5
          have x6 := kept hb7 x6
          have y0 := kept hb7 y0
          have y1 := kept hb7 y1
          have y2 := kept hb7 y2
          have y3 := kept hb7 y3
          have y4 := kept hb7 y4
          have y5 := kept hb7 y5
          have y6 := kept hb7 y6
          have c0 := kept hb7 c0
          have c1 := kept hb7 c1
          have c2 := kept hb7 c2
          have c3 := kept hb7 c3
          have c4 := kept hb7 c4
          have c5 := kept hb7 c5
          have c6 := kept hb7 c6)
       | (go_at_call 20
          with_reducible refine (openR_b (c := c) h7).mono ?_
          rintro e w8 ⟨rfl, h8, hb8⟩
          have x0 := kept hb8 x0
          have x1 := kept hb8 x1
          have x2 := kept hb8 x2
          have x3 := kept hb8 x3
          have x4 := kept hb8 x4
          have x5 := kept hb8 x5
          have x6 := kept hb8 x6
          have y0 := kept hb8 y0
          have y1 := kept hb8 y1
          have y2 := kept hb8 y2
          have y3 := kept hb8 y3
          have y4 := kept hb8 y4
          have y5 := kept hb8 y5
          have y6 := kept hb8 y6
          have c0 := kept hb8 c0
          have c1 := kept hb8 c1
          have c2 := kept hb8 c2
          have c3 := kept hb8 c3
          have c4 := kept hb8 c4
          have c5 := kept hb8 c5
          have c6 := kept hb8 c6)
       | (go_at_call 18
          with_reducible refine (same_b (c := c) (l := []) (sv_nil _) (Below.refl _ _) (sv_nil _) (Below.refl _ _) h8 (by omega)).mono ?_
          rintro e w9 ⟨rfl, h9, hb9⟩
          have x0 := kept hb9 x0
          have x1 := kept hb9 x1
          have x2 := kept hb9 x2
          have x3 := kept hb9 x3
          have x4 := kept hb9 x4
          have x5 := kept hb9 x5
          have x6 := kept hb9 x6
          have y0 := kept hb9 y0
          have y1 := kept hb9 y1
          have y2 := kept hb9 y2
          have y3 := kept hb9 y3
          have y4 := kept hb9 y4
          have y5 := kept hb9 y5
          have y6 := kept hb9 y6
          have c0 := kept hb9 c0
          have c1 := kept hb9 c1
          have c2 := kept hb9 c2
          have c3 := kept hb9 c3
          have c4 := kept hb9 c4
          have c5 := kept hb9 c5
          have c6 := kept hb9 c6))
    go_wp2_with fail
    go_ret
    exact ⟨rfl, h9⟩

theorem claimPuts_lifted (os : Os) (started : os.Started) (H : Type) (enc : TypeId × Value → H) :
    ReturnsInHanded {} Try.checked os 4 .any (Rows.claimPutsSpec.pre6 enc Try.prog Try.f4 Rows.claimPutsRow.domain false) (Rows.claimPutsSpec.post enc Try.prog Try.f4 false true false false) := by
  refine returnsInHanded_of_change (C := Try.checked) own started (by kernel_rfl) Try.func4
    (ChangeSpec.witness6 (enc := enc) (C := Try.checked) false ⟨#[], #[.agg #[.int .i64 0, .int .i64 0, .int .i64 0, .int .i64 0, .int .i64 0, .int .i64 0, .slice none 0 0], .agg #[.int .i64 0, .int .i64 0, .int .i64 0]], []⟩ 8 (by kernel_rfl) (by kernel_rfl) (by kernel_rfl) (by kernel_rfl)) ?_
  intro W base args ds gs before hval0 hW hcnd _
  have hval : ∀ (j : Nat) t v, Try.f4.params[j]? = some t → args[j]? = some v → Value.okWide Try.prog W .any base t v := hval0
  have hW' := hW
  obtain ⟨p, q, hA0, hV, rfl, hfz, hnd⟩ := hW
  have hA : DataW.TrodAll enc Try.prog W 0 (fun _ => true) true Try.f4.params.toList args.toList ds p := hA0
  rw [Try.params4] at hA hval
  obtain ⟨v0, vs0, d0, ds0, p0, q0, hargs, rfl, rfl, h0, r0⟩ := trodAll_cons hA
  obtain ⟨v1, vs1, d1, ds1, p1, q1, rfl, rfl, rfl, h1, r1⟩ := trodAll_cons r0
  obtain ⟨rfl, rfl, rfl⟩ := trodAll_nil r1
  obtain rfl : args = #[v0, v1] := by cases args; simp_all
  obtain ⟨rfl, rfl⟩ := trodVars_none hV
  obtain ⟨c0, A0, l0, p0, rfl, hs0⟩ := open_file (hval 0 32 v0 rfl rfl) h0
  obtain ⟨b1, k1, m1, rfl, wb1, wk1, wm1⟩ := open_act (hval 1 25 v1 rfl rfl) h1
  refine (claimPuts_walk W c0 A0 l0 p0 hs0 b1 k1 m1 wb1 wk1 wm1).mono fun e W' ⟨he, hb⟩ => ?_
  subst he
  exact ⟨_, rfl, law_post laidOut (by kernel_rfl) rfl Try.underlying4 rfl rfl hW' hb⟩

/-- THE STATEMENT. -/
theorem claimPuts_holds : Rows.ClaimPutsSaid :=
  OpenClaim.holds_of_wide 4 Try.f4 rfl rfl rfl rfl rfl rfl rfl ⟨rfl, rfl, rfl, rfl, rfl⟩ rfl rfl rfl rfl rfl (by kernel_rfl) Try.func4 (by kernel_rfl)
    (of_decide_eq_true (by kernel_rfl)) (by unfold Func.isWrapper; first | (rw [if_pos (by decide +kernel)]; kernel_rfl) | (rw [if_neg (by decide +kernel)]; exact ⟨rfl, rfl⟩))
    (fun os started H enc _ => claimPuts_lifted os started H enc)
end Go.Proofs.Ytmeneojgdbjlnaa
