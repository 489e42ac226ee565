/- ClaimAdds: an act changes what its kind says, and nothing else. -/
import Derived.Test.YtmeneojgdbjlnaaClaimL3
namespace Go.Proofs.Ytmeneojgdbjlnaa
open Go.ChangeShapes Go.WideShapes Go.ChangeAt Go.RowKit
set_option linter.unusedVariables false

set_option maxRecDepth 100000 in
set_option maxHeartbeats 16000000 in
theorem claimAdds_walk (w : World) (c : Cl) (A : Option Addr) (l : List Ac) (cap : Nat) (hs : SV w 3 A l.length cap (l.map encAc)) (b k m : Int) (_wb : (Lit.int .i64 b).wf = true) (_wk : (Lit.int .i64 k).wf = true) (_wm : (Lit.int .i64 m).wf = true) :
    Calls Try.prog 5 #[.agg #[.int .i64 c.id, .int .i64 c.pol, .int .i64 c.per, .int .i64 c.loss, .int .i64 c.bkd, .int .i64 c.ev], .slice A l.length cap, .agg #[.int .i64 b, .int .i64 k, .int .i64 m]] w fun e w' => e = .returned (.bool true) ∧ Below w.heap.size w w' := by
  go_enter Try.func5, Try.ntmps5
  have HS := hide hs
  clear hs
  go_wp2_with fail
  refine (awake_b (((Below.refl w.heap.size w).alloc (Nat.le_refl _) _).alloc (by simp) _)).mono ?_
  rintro e w1 ⟨rfl, h1, hb1⟩
  have c0 := kept hb1 (b := w.heap.size) (o := 0) (u := .int .i64 c.id) (by simp)
  have c1 := kept hb1 (b := w.heap.size) (o := 1) (u := .int .i64 c.pol) (by simp)
  have c2 := kept hb1 (b := w.heap.size) (o := 2) (u := .int .i64 c.per) (by simp)
  have c3 := kept hb1 (b := w.heap.size) (o := 3) (u := .int .i64 c.loss) (by simp)
  have c4 := kept hb1 (b := w.heap.size) (o := 4) (u := .int .i64 c.bkd) (by simp)
  have c5 := kept hb1 (b := w.heap.size) (o := 5) (u := .int .i64 c.ev) (by simp)
  have a0 := kept hb1 (b := w.heap.size + 1) (o := 0) (u := .int .i64 b) (by simp)
  have a1 := kept hb1 (b := w.heap.size + 1) (o := 1) (u := .int .i64 k) (by simp)
  have a2 := kept hb1 (b := w.heap.size + 1) (o := 2) (u := .int .i64 m) (by simp)
  have hzc := block_lt_of_cell c0
  have hza := block_lt_of_cell a0
  clear hb1
  by_cases hbig : 100 < l.length
  · go_wp2_with fail
    go_ret
    exact ⟨rfl, h1⟩
  have hbig' : l.length ≤ 100 := by omega
  obtain ⟨l2, hl2⟩ : ∃ x, madeL c.bkd l = x := ⟨_, rfl⟩
  obtain ⟨n2, hn2⟩ : ∃ x, l2.length = x := ⟨_, rfl⟩
  have hgood : Good c.bkd l2 := by rw [← hl2]; exact good_made c.bkd _ l rfl
  have hm2 : n2 ≤ 100 := by have := madeL_len c.bkd _ l rfl; rw [hl2, hn2] at this; omega
  have HG := hide hgood
  have HL := hide hl2
  have HN := hide hn2
  clear hgood hl2 hn2
  go_wp2_with fail
  refine (madeF_b (c := c) HS.out h1 (by omega) HL.out HN.out).mono ?_
  rintro e w2 ⟨A2, q2, rfl, hs2, h2, hb2⟩
  have a0 := kept hb2 a0
  have a1 := kept hb2 a1
  have a2 := kept hb2 a2
  have hza0 := block_lt_of_cell a0
  clear hb2 h1 c0 c1 c2 c3 c4 c5 hzc
  rcases hst : standP l2 with ⟨g, s, bk, o⟩
  obtain ⟨M, hM⟩ : ∃ M, max g s = M := ⟨_, rfl⟩
  have hgd := HG.out
  have i1 := hgd.s0
  have i2 := hgd.s1
  have i3 := hgd.b0
  have i4 := hgd.b1
  rw [hst] at i1 i2 i3 i4
  simp only at i1 i2 i3 i4
  have hMa : (M = g ∧ s ≤ g) ∨ (M = s ∧ g ≤ s) := by omega
  have HP := hide hst
  have HM := hide hM
  have HMa := hide hMa
  clear hst hM hMa hgd
  go_wp2_with fail
  refine (Stand_v (c := c) hs2 ((Below.refl _ _).alloc (Nat.le_refl _) _) (h2.alloc h2.size _) (by omega) HP.out HM.out).mono ?_
  rintro e w3 ⟨rfl, h3, hb3⟩
  have a0 := kept hb3 (kept ((Below.refl _ _).alloc (Nat.le_refl _) _) a0)
  have a1 := kept hb3 (kept ((Below.refl _ _).alloc (Nat.le_refl _) _) a1)
  have a2 := kept hb3 (kept ((Below.refl _ _).alloc (Nat.le_refl _) _) a2)
  have f0 := kept hb3 (b := w2.heap.size) (o := 0) (u := .int .i64 c.id) (by simp)
  have f1 := kept hb3 (b := w2.heap.size) (o := 1) (u := .int .i64 c.pol) (by simp)
  have f2 := kept hb3 (b := w2.heap.size) (o := 2) (u := .int .i64 c.per) (by simp)
  have f3 := kept hb3 (b := w2.heap.size) (o := 3) (u := .int .i64 c.loss) (by simp)
  have f4 := kept hb3 (b := w2.heap.size) (o := 4) (u := .int .i64 c.bkd) (by simp)
  have f5 := kept hb3 (b := w2.heap.size) (o := 5) (u := .int .i64 c.ev) (by simp)
  have f6 := kept hb3 (b := w2.heap.size) (o := 6) (u := .slice A2 n2 q2) (by simp)
  have hs2 := (hs2.alloc _).below hb3
  have hza0 := block_lt_of_cell a0
  have hzf0 := block_lt_of_cell f0
  clear hb3 h2
  by_cases hc : putC c.bkd l2 ⟨b, k, m⟩ = 0
  · go_wp2_with fail
    refine (put_okc (c := c) (l := l2) hs2 ((Below.refl _ _).alloc (Nat.le_refl _) _) (h3.alloc h3.size _) (by omega) hc).mono ?_
    rintro e w4 ⟨A4, q4, rfl, hs4, h4, hb4⟩
    have a0 := kept hb4 (kept ((Below.refl _ _).alloc (Nat.le_refl _) _) a0)
    have a1 := kept hb4 (kept ((Below.refl _ _).alloc (Nat.le_refl _) _) a1)
    have a2 := kept hb4 (kept ((Below.refl _ _).alloc (Nat.le_refl _) _) a2)
    have f0 := kept hb4 (kept ((Below.refl _ _).alloc (Nat.le_refl _) _) f0)
    have f1 := kept hb4 (kept ((Below.refl _ _).alloc (Nat.le_refl _) _) f1)
    have f2 := kept hb4 (kept ((Below.refl _ _).alloc (Nat.le_refl _) _) f2)
    have f3 := kept hb4 (kept ((Below.refl _ _).alloc (Nat.le_refl _) _) f3)
    have f4 := kept hb4 (kept ((Below.refl _ _).alloc (Nat.le_refl _) _) f4)
    have f5 := kept hb4 (kept ((Below.refl _ _).alloc (Nat.le_refl _) _) f5)
    have f6 := kept hb4 (kept ((Below.refl _ _).alloc (Nat.le_refl _) _) f6)
    have p0 := kept hb4 (b := w3.heap.size) (o := 0) (u := .int .i64 M) (by simp)
    have p1 := kept hb4 (b := w3.heap.size) (o := 1) (u := .int .i64 s) (by simp)
    have p2 := kept hb4 (b := w3.heap.size) (o := 2) (u := .int .i64 0) (by simp)
    have p3 := kept hb4 (b := w3.heap.size) (o := 3) (u := .int .i64 bk) (by simp)
    have p4 := kept hb4 (b := w3.heap.size) (o := 4) (u := .int .i64 0) (by simp)
    have p5 := kept hb4 (b := w3.heap.size) (o := 5) (u := .bool o) (by simp)
    have hza0 := block_lt_of_cell a0
    have hzf0 := block_lt_of_cell f0
    have hzp0 := block_lt_of_cell p0
    clear hb4 h3 hs2
    obtain ⟨⟨g', s', bk', o'⟩, hq⟩ : ∃ q, standP (l2 ++ [⟨b, k, m⟩]) = q := ⟨_, rfl⟩
    obtain ⟨M', hM'⟩ : ∃ M, max g' s' = M := ⟨_, rfl⟩
    have had := adds HG.out HP.out hc
    have hov := putC_zero hc
    have hrp := right_parts hov.1
    have hm0 : 0 ≤ m := hrp.2.2.2.2.1
    have hm1 : m ≤ 1000000000000000 := hrp.2.2.2.2.2.1
    have hof := over_false hov.2.2.2.2 HG.out.s0 HG.out.s1 HG.out.b0 HG.out.b1
    rw [HP.out] at hof
    simp only at hof
    rw [hq] at had
    simp only [St.mk.injEq] at had
    have HQ := hide hq
    have HM' := hide hM'
    have HAD := hide had
    have HOF := hide hof
    clear hq hM' had hov hrp hof hc
    go_wp2_with fail
    refine (Stand_v (c := c) hs4 ((Below.refl _ _).alloc (Nat.le_refl _) _) (h4.alloc h4.size _) (by omega) HQ.out HM'.out).mono ?_
    rintro e w5 ⟨rfl, h5, hb5⟩
    have a0 := kept hb5 (kept ((Below.refl _ _).alloc (Nat.le_refl _) _) a0)
    have a1 := kept hb5 (kept ((Below.refl _ _).alloc (Nat.le_refl _) _) a1)
    have a2 := kept hb5 (kept ((Below.refl _ _).alloc (Nat.le_refl _) _) a2)
    have f0 := kept hb5 (kept ((Below.refl _ _).alloc (Nat.le_refl _) _) f0)
    have f1 := kept hb5 (kept ((Below.refl _ _).alloc (Nat.le_refl _) _) f1)
    have f2 := kept hb5 (kept ((Below.refl _ _).alloc (Nat.le_refl _) _) f2)
    have f3 := kept hb5 (kept ((Below.refl _ _).alloc (Nat.le_refl _) _) f3)
    have f4 := kept hb5 (kept ((Below.refl _ _).alloc (Nat.le_refl _) _) f4)
    have f5 := kept hb5 (kept ((Below.refl _ _).alloc (Nat.le_refl _) _) f5)
    have f6 := kept hb5 (kept ((Below.refl _ _).alloc (Nat.le_refl _) _) f6)
    have p0 := kept hb5 (kept ((Below.refl _ _).alloc (Nat.le_refl _) _) p0)
    have p1 := kept hb5 (kept ((Below.refl _ _).alloc (Nat.le_refl _) _) p1)
    have p2 := kept hb5 (kept ((Below.refl _ _).alloc (Nat.le_refl _) _) p2)
    have p3 := kept hb5 (kept ((Below.refl _ _).alloc (Nat.le_refl _) _) p3)
    have p4 := kept hb5 (kept ((Below.refl _ _).alloc (Nat.le_refl _) _) p4)
    have p5 := kept hb5 (kept ((Below.refl _ _).alloc (Nat.le_refl _) _) p5)
    have g0 := kept hb5 (b := w4.heap.size) (o := 0) (u := .int .i64 c.id) (by simp)
    have g1 := kept hb5 (b := w4.heap.size) (o := 1) (u := .int .i64 c.pol) (by simp)
    have g2 := kept hb5 (b := w4.heap.size) (o := 2) (u := .int .i64 c.per) (by simp)
    have g3 := kept hb5 (b := w4.heap.size) (o := 3) (u := .int .i64 c.loss) (by simp)
    have g4 := kept hb5 (b := w4.heap.size) (o := 4) (u := .int .i64 c.bkd) (by simp)
    have g5 := kept hb5 (b := w4.heap.size) (o := 5) (u := .int .i64 c.ev) (by simp)
    have g6 := kept hb5 (b := w4.heap.size) (o := 6) (u := .slice A4 (n2 + 1) q4) (by simp)
    have hza0 := block_lt_of_cell a0
    have hzf0 := block_lt_of_cell f0
    have hzp0 := block_lt_of_cell p0
    have hzg0 := block_lt_of_cell g0
    clear hb5 h4 hs4
    go_upto_region 10 with fail
    obtain ⟨w6, hw6⟩ : ∃ W, w5.alloc (.cells #[.int .i64 M', .int .i64 s', .int .i64 0, .int .i64 bk', .int .i64 0, .bool o'] 42) = W := ⟨_, rfl⟩
    have h6 : Below w.heap.size w w6 := by rw [← hw6]; exact h5.alloc h5.size _
    have hb6 : Below w5.heap.size w5 w6 := by rw [← hw6]; exact (Below.refl _ _).alloc (Nat.le_refl _) _
    have r0 : w6.cell? ⟨w5.heap.size, 0, none⟩ = some (.int .i64 M') := by rw [← hw6]; simp
    have r1 : w6.cell? ⟨w5.heap.size, 1, none⟩ = some (.int .i64 s') := by rw [← hw6]; simp
    have r2 : w6.cell? ⟨w5.heap.size, 2, none⟩ = some (.int .i64 0) := by rw [← hw6]; simp
    have r3 : w6.cell? ⟨w5.heap.size, 3, none⟩ = some (.int .i64 bk') := by rw [← hw6]; simp
    have r4 : w6.cell? ⟨w5.heap.size, 4, none⟩ = some (.int .i64 0) := by rw [← hw6]; simp
    have r5 : w6.cell? ⟨w5.heap.size, 5, none⟩ = some (.bool o') := by rw [← hw6]; simp
    have a0 := kept hb6 a0
    have a1 := kept hb6 a1
    have a2 := kept hb6 a2
    have f0 := kept hb6 f0
    have f1 := kept hb6 f1
    have f2 := kept hb6 f2
    have f3 := kept hb6 f3
    have f4 := kept hb6 f4
    have f5 := kept hb6 f5
    have f6 := kept hb6 f6
    have p0 := kept hb6 p0
    have p1 := kept hb6 p1
    have p2 := kept hb6 p2
    have p3 := kept hb6 p3
    have p4 := kept hb6 p4
    have p5 := kept hb6 p5
    have g0 := kept hb6 g0
    have g1 := kept hb6 g1
    have g2 := kept hb6 g2
    have g3 := kept hb6 g3
    have g4 := kept hb6 g4
    have g5 := kept hb6 g5
    have g6 := kept hb6 g6
    rw [hw6]
    have hza0 := block_lt_of_cell a0
    have hzf0 := block_lt_of_cell f0
    have hzp0 := block_lt_of_cell p0
    have hzg0 := block_lt_of_cell g0
    have hzr0 := block_lt_of_cell r0
    clear hw6 hb6 h5
    have had := HAD.out
    have hM2 := HM'.out
    have hof := HOF.out
    have hMa := HMa.out
    rcases had with ⟨rfl, rfl, rfl, rfl, rfl⟩ | ⟨rfl, rfl, rfl, rfl, rfl⟩ | ⟨rfl, rfl, rfl, rfl, rfl⟩ | ⟨rfl, rfl, rfl, rfl, rfl⟩ | ⟨rfl, rfl, rfl, rfl, rfl⟩
    · clear hof hMa HMa HM HP HM' HQ HAD HOF
      rcases Int.lt_or_le g' s' with hgs | hgs
      · obtain rfl : M' = s' := by omega
        clear hM2
        go_wp2_with fail
        go_ret
        exact ⟨rfl, h6.alloc h6.size _⟩
      · obtain rfl : M' = g' := by omega
        clear hM2
        go_wp2_with fail
        go_ret
        exact ⟨rfl, h6.alloc h6.size _⟩
    · have hsm := hof.1 rfl
      clear hof HMa HM HP HM' HQ HAD HOF
      rcases Int.lt_or_le M (s + m) with hMs | hMs
      · obtain rfl : M' = s + m := by omega
        clear hM2 hMa
        go_wp2_with fail
        go_ret
        exact ⟨rfl, h6.alloc h6.size _⟩
      · obtain rfl : M' = M := by omega
        clear hM2 hMa
        go_wp2_with fail
        go_ret
        exact ⟨rfl, h6.alloc h6.size _⟩
    · have hbm := hof.2 rfl
      obtain rfl : M' = M := by omega
      clear hof HMa HM HP HM' HQ HAD HOF hM2 hMa
      go_wp2_with fail
      go_ret
      exact ⟨rfl, h6.alloc h6.size _⟩
    · obtain rfl : M' = M := by omega
      clear hof HMa HM HP HM' HQ HAD HOF hM2 hMa
      go_wp2_with fail
      go_ret
      exact ⟨rfl, h6.alloc h6.size _⟩
    · obtain rfl : M' = M := by omega
      clear hof HMa HM HP HM' HQ HAD HOF hM2 hMa
      go_wp2_with fail
      go_ret
      exact ⟨rfl, h6.alloc h6.size _⟩
  · obtain ⟨code, hcode⟩ : ∃ x, putC c.bkd l2 ⟨b, k, m⟩ = x := ⟨_, rfl⟩
    rw [hcode] at hc
    have HC := hide hcode
    clear hcode
    go_wp2_with fail
    refine (put_noc (c := c) (l := l2) hs2 ((Below.refl _ _).alloc (Nat.le_refl _) _) (h3.alloc h3.size _) (by omega) HC.out hc).mono ?_
    rintro e w4 ⟨rfl, h4, hb4⟩
    clear hb4 h3 hs2
    have hcb : (code == 0) = false := by simpa using hc
    go_wp2_with fail
    refine (same_b (c := ⟨0, 0, 0, 0, 0, 0⟩) (l := []) (sv_nil _) (Below.refl _ _) (sv_nil _) (Below.refl _ _) (h4.alloc h4.size _) (by omega)).mono ?_
    rintro e w5 ⟨rfl, h5, hb5⟩
    go_wp2_with fail
    go_ret
    exact ⟨rfl, h5⟩

theorem claimAdds_lifted (os : Os) (started : os.Started) (H : Type) (enc : TypeId × Value → H) :
    ReturnsInHanded {} Try.checked os 5 .any (Rows.claimAddsSpec.pre6 enc Try.prog Try.f5 Rows.claimAddsRow.domain false) (Rows.claimAddsSpec.post enc Try.prog Try.f5 false true false false) := by
  refine returnsInHanded_of_change (C := Try.checked) own started (by kernel_rfl) Try.func5
    (ChangeSpec.witness6 (enc := enc) (C := Try.checked) false ⟨#[], #[.agg #[.int .i64 0, .int .i64 0, .int .i64 0, .int .i64 0, .int .i64 0, .int .i64 0], .slice none 0 0, .agg #[.int .i64 0, .int .i64 0, .int .i64 0]], []⟩ 8 (by kernel_rfl) (by kernel_rfl) (by kernel_rfl) (by kernel_rfl)) ?_
  intro W base args ds gs before hval0 hW hcnd _
  have hval : ∀ (j : Nat) t v, Try.f5.params[j]? = some t → args[j]? = some v → Value.okWide Try.prog W .any base t v := hval0
  have hW' := hW
  obtain ⟨p, q, hA0, hV, rfl, hfz, hnd⟩ := hW
  have hA : DataW.TrodAll enc Try.prog W 0 (fun _ => true) true Try.f5.params.toList args.toList ds p := hA0
  rw [Try.params5] at hA hval
  obtain ⟨v0, vs0, d0, ds0, p0, q0, hargs, rfl, rfl, h0, r0⟩ := trodAll_cons hA
  obtain ⟨v1, vs1, d1, ds1, p1, q1, rfl, rfl, rfl, h1, r1⟩ := trodAll_cons r0
  obtain ⟨v2, vs2, d2, ds2, p2, q2, rfl, rfl, rfl, h2, r2⟩ := trodAll_cons r1
  obtain ⟨rfl, rfl, rfl⟩ := trodAll_nil r2
  obtain rfl : args = #[v0, v1, v2] := by cases args; simp_all
  obtain ⟨rfl, rfl⟩ := trodVars_none hV
  obtain ⟨c0, rfl⟩ := open_claim (hval 0 23 v0 rfl rfl) h0
  obtain ⟨A1, l1, p1, rfl, hs1⟩ := open_acts (hval 1 30 v1 rfl rfl) h1
  obtain ⟨b2, k2, m2, rfl, wb2, wk2, wm2⟩ := open_act (hval 2 25 v2 rfl rfl) h2
  refine (claimAdds_walk W c0 A1 l1 p1 hs1 b2 k2 m2 wb2 wk2 wm2).mono fun e W' ⟨he, hb⟩ => ?_
  subst he
  exact ⟨_, rfl, law_post laidOut (by kernel_rfl) rfl Try.underlying4 rfl rfl hW' hb⟩

/-- THE STATEMENT. -/
theorem claimAdds_holds : Rows.ClaimAddsSaid :=
  OpenClaim.holds_of_wide 5 Try.f5 rfl rfl rfl rfl rfl rfl rfl ⟨rfl, rfl, rfl, rfl, rfl⟩ rfl rfl rfl rfl rfl (by kernel_rfl) Try.func5 (by kernel_rfl)
    (of_decide_eq_true (by kernel_rfl)) (by unfold Func.isWrapper; first | (rw [if_pos (by decide +kernel)]; kernel_rfl) | (rw [if_neg (by decide +kernel)]; exact ⟨rfl, rfl⟩))
    (fun os started H enc _ => claimAdds_lifted os started H enc)
end Go.Proofs.Ytmeneojgdbjlnaa
