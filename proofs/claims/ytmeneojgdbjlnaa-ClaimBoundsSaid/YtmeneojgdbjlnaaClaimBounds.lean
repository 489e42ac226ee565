/- ClaimBounds: of a file that was made act by act the gross is never below what is shown. -/
import Derived.Test.YtmeneojgdbjlnaaClaimL3
namespace Go.Proofs.Ytmeneojgdbjlnaa
open Go.ChangeShapes Go.WideShapes Go.ChangeAt Go.RowKit
set_option linter.unusedVariables false

set_option maxRecDepth 100000 in
set_option maxHeartbeats 16000000 in
theorem claimBounds_walk (w : World) (c : Cl) (A : Option Addr) (l : List Ac) (cap : Nat) (hs : SV w 3 A l.length cap (l.map encAc)) (day : Int) (_wd : (Lit.int .u32 day).wf = true) :
    Calls Try.prog 6 #[.agg #[.int .i64 c.id, .int .i64 c.pol, .int .i64 c.per, .int .i64 c.loss, .int .i64 c.bkd, .int .i64 c.ev], .slice A l.length cap, .int .u32 day] w fun e w' => e = .returned (.bool true) ∧ Below w.heap.size w w' := by
  go_enter Try.func6, Try.ntmps6
  have HS := hide hs
  clear hs
  have bday : 0 ≤ day ∧ day ≤ 4294967295 := by simpa [Lit.wf, IntKind.min, IntKind.max, IntKind.signed, IntKind.bits] using _wd
  obtain ⟨bday0, bday1⟩ := bday
  go_wp2_with fail
  refine (awake_b ((Below.refl w.heap.size w).alloc (Nat.le_refl _) _)).mono ?_
  rintro e w1 ⟨rfl, h1, hb1⟩
  have c0 := kept hb1 (b := w.heap.size) (o := 0) (u := .int .i64 c.id) (by simp)
  have c1 := kept hb1 (b := w.heap.size) (o := 1) (u := .int .i64 c.pol) (by simp)
  have c2 := kept hb1 (b := w.heap.size) (o := 2) (u := .int .i64 c.per) (by simp)
  have c3 := kept hb1 (b := w.heap.size) (o := 3) (u := .int .i64 c.loss) (by simp)
  have c4 := kept hb1 (b := w.heap.size) (o := 4) (u := .int .i64 c.bkd) (by simp)
  have c5 := kept hb1 (b := w.heap.size) (o := 5) (u := .int .i64 c.ev) (by simp)
  have hzc := block_lt_of_cell c0
  clear hb1
  by_cases hbig : 100 < l.length
  · go_wp2_with fail
    go_ret
    exact ⟨rfl, h1⟩
  have hbig' : l.length ≤ 100 := by omega
  obtain ⟨l2, hl2⟩ : ∃ x, madeL c.bkd l = x := ⟨_, rfl⟩
  obtain ⟨n2, hn2⟩ : ∃ x, l2.length = x := ⟨_, rfl⟩
  have hgood : Good c.bkd l2 := by rw [← hl2]; exact good_made c.bkd _ l rfl
  have hm2 : n2 ≤ 100 := by have := madeL_len c.bkd _ l rfl; rw [hl2, hn2] at this; omega
  have HG := hide hgood
  have HL := hide hl2
  have HN := hide hn2
  clear hgood hl2 hn2
  go_wp2_with fail
  refine (madeF_b (c := c) HS.out h1 (by omega) HL.out HN.out).mono ?_
  rintro e w2 ⟨A2, q2, rfl, hs2, h2, hb2⟩
  have c4 := kept hb2 c4
  have hzc4 := block_lt_of_cell c4
  clear hb2 h1 c0 c1 c2 c3 c5 hzc
  rcases hst : standP l2 with ⟨g, s, bk, o⟩
  obtain ⟨M, hM⟩ : ∃ M, max g s = M := ⟨_, rfl⟩
  have hgd := HG.out
  have i1 := hgd.s0
  have i2 := hgd.s1
  have i3 := hgd.b0
  have i4 := hgd.b1
  have i5 := hgd.g0
  have i6 := hgd.g1
  rw [hst] at i1 i2 i3 i4 i5 i6
  simp only at i1 i2 i3 i4 i5 i6
  have j1 : s ≤ M := by omega
  have j2 : M ≤ 1000000000000000 := by omega
  have HP := hide hst
  have HM := hide hM
  clear hst hM hgd
  go_wp2_with fail
  refine (Stand_v (c := c) hs2 ((Below.refl _ _).alloc (Nat.le_refl _) _) (h2.alloc h2.size _) (by omega) HP.out HM.out).mono ?_
  rintro e w3 ⟨rfl, h3, hb3⟩
  have c4 := kept hb3 (kept ((Below.refl _ _).alloc (Nat.le_refl _) _) c4)
  have f0 := kept hb3 (b := w2.heap.size) (o := 0) (u := .int .i64 c.id) (by simp)
  have f1 := kept hb3 (b := w2.heap.size) (o := 1) (u := .int .i64 c.pol) (by simp)
  have f2 := kept hb3 (b := w2.heap.size) (o := 2) (u := .int .i64 c.per) (by simp)
  have f3 := kept hb3 (b := w2.heap.size) (o := 3) (u := .int .i64 c.loss) (by simp)
  have f4 := kept hb3 (b := w2.heap.size) (o := 4) (u := .int .i64 c.bkd) (by simp)
  have f5 := kept hb3 (b := w2.heap.size) (o := 5) (u := .int .i64 c.ev) (by simp)
  have f6 := kept hb3 (b := w2.heap.size) (o := 6) (u := .slice A2 n2 q2) (by simp)
  have hs2 := (hs2.alloc _).below hb3
  have hzc4 := block_lt_of_cell c4
  have hzf0 := block_lt_of_cell f0
  clear hb3 h2
  go_wp2_with fail
  obtain ⟨w4, hw4⟩ : ∃ W, w3.alloc (.cells #[.int .i64 M, .int .i64 s, .int .i64 0, .int .i64 bk, .int .i64 0, .bool o] 42) = W := ⟨_, rfl⟩
  have h4 : Below w.heap.size w w4 := by rw [← hw4]; exact h3.alloc h3.size _
  have hb4 : Below w3.heap.size w3 w4 := by rw [← hw4]; exact (Below.refl _ _).alloc (Nat.le_refl _) _
  have p0 : w4.cell? ⟨w3.heap.size, 0, none⟩ = some (.int .i64 M) := by rw [← hw4]; simp
  have p1 : w4.cell? ⟨w3.heap.size, 1, none⟩ = some (.int .i64 s) := by rw [← hw4]; simp
  have p2 : w4.cell? ⟨w3.heap.size, 2, none⟩ = some (.int .i64 0) := by rw [← hw4]; simp
  have p3 : w4.cell? ⟨w3.heap.size, 3, none⟩ = some (.int .i64 bk) := by rw [← hw4]; simp
  have p4 : w4.cell? ⟨w3.heap.size, 4, none⟩ = some (.int .i64 0) := by rw [← hw4]; simp
  have p5 : w4.cell? ⟨w3.heap.size, 5, none⟩ = some (.bool o) := by rw [← hw4]; simp
  have f0 := kept hb4 f0
  have f1 := kept hb4 f1
  have f2 := kept hb4 f2
  have f3 := kept hb4 f3
  have f4 := kept hb4 f4
  have f5 := kept hb4 f5
  have f6 := kept hb4 f6
  have hs4 := hs2.below hb4
  rw [hw4]
  clear hw4 hb4 hs2 h3 c4
  have HS4 := hide hs4
  clear hs4
  go_loopw [10, 11] (fun t i wr => ∃ k : Nat, k ≤ n2 ∧ i = .int .i64 k ∧ t = .int .i64 (lastB c.bkd (l2.take k)) ∧ Below w4.heap.size w4 wr) (fun _ i _ => n2 - (intOf i).toNat)
  case atStart => exact ⟨0, Nat.zero_le _, rfl, rfl, Below.refl _ _⟩
  case round =>
    obtain ⟨k, hk, rfl, rfl, hb⟩ := hrel
    obtain ⟨La, hLa⟩ : ∃ x, lastB c.bkd (l2.take k) = x := ⟨_, rfl⟩
    rw [hLa]
    have f0 := kept hb f0
    have f1 := kept hb f1
    have f2 := kept hb f2
    have f3 := kept hb f3
    have f4 := kept hb f4
    have f5 := kept hb f5
    have f6 := kept hb f6
    have p0 := kept hb p0
    have p1 := kept hb p1
    have p2 := kept hb p2
    have p3 := kept hb p3
    have p4 := kept hb p4
    have p5 := kept hb p5
    by_cases hlt : k < n2
    · obtain ⟨⟨ab, ak, am⟩, hx⟩ := get_of (l := l2) (k := k) (by rw [HN.out]; exact hlt)
      have hss := HS4.out.below hb
      obtain ⟨bb, off, rfl, hbl, hc0, hc1, hc2⟩ := hss.sl.ac hx
      simp only at hc0 hc1 hc2
      have hrt : rightB ⟨ab, ak, am⟩ = true := HG.out.r _ (List.mem_of_getElem? hx)
      have hor : La ≤ ab := by rw [← hLa]; exact HG.out.o k _ hx
      have hla : lastB c.bkd (l2.take (k + 1)) = ab := by rw [take_of hx, lastB_snoc]
      have HLA := hide hla
      have HR := hide hrt
      have hk0 : (0 : Int) ≤ (k : Int) := by omega
      have hk1 : (k : Int) < (n2 : Int) := by omega
      clear hx hss hla hrt hLa p0 p1 p2 p3 p4 p5
      go_wp2_with fail
      refine (right_any ab ak am _).mono ?_
      rw [HR.out]
      rintro e w5 ⟨rfl, hb5⟩
      have f0 := kept hb5 f0
      have f1 := kept hb5 f1
      have f2 := kept hb5 f2
      have f3 := kept hb5 f3
      have f4 := kept hb5 f4
      have f5 := kept hb5 f5
      have f6 := kept hb5 f6
      have hc0 := kept hb5 hc0
      have hc1 := kept hb5 hc1
      have hc2 := kept hb5 hc2
      have hb' := chain hb hb5
      clear hb hb5
      go_wp2_with fail
      go_roundw
      case rel => exact ⟨k + 1, by omega, by go_num, by rw [HLA.out], hb'⟩
      case measure => simp [intOf]; omega
    · obtain rfl : k = n2 := by omega
      have hLa' : lastB c.bkd l2 = La := by rw [← hLa, ← HN.out, List.take_length]
      have hss := HS4.out.below hb
      have h5 := h4.trans (hb.mono h4.size)
      have hnil : 292194 < La → k = 0 := fun h => by
        rw [← HN.out]
        cases hl : l2.getLast? with
        | none => simp at hl; subst hl; rfl
        | some x =>
          have hx := (right_parts (HG.out.r x (List.mem_of_getLast? hl))).2.1
          rw [lastB, hl] at hLa'
          simp only at hLa'
          omega
      have hlen2 : l2.length < 2000 := by rw [HN.out]; omega
      have hcod : ∀ (d kd mm : Int), 1 ≤ d → La ≤ d → d ≤ 292194 → (kd = 5 ∧ mm = 0 ∨ kd = 4 ∧ mm = 0 ∨ kd = 1 ∧ mm = day) → (o = decide (kd ≠ 5) → putC c.bkd l2 ⟨d, kd, mm⟩ = 0) ∧ (o = decide (kd = 5) → putC c.bkd l2 ⟨d, kd, mm⟩ ≠ 0) := by
        intro d kd mm d1 d2 d3 hkd
        refine ⟨fun ho => putC_mk (right_mk d1 d3 (by simp only; omega) (by simp only; omega) (by simp only; omega) (by simp only; omega) (by simp only; omega)) hlen2 (by rw [hLa']; exact d2) (by rw [HP.out]; exact ho) ?_, fun ho => putC_state (by rw [HP.out]; exact ho)⟩
        simp only [overB, decide_eq_false_iff_not]
        omega
      have HC := hide hcod
      have HS5 := hide hss
      clear hcod hss hlen2 hLa hLa' hb h4
      have hzf := block_lt_of_cell f0
      have hzp := block_lt_of_cell p0
      rcases Int.lt_or_le La 2 with hL1 | hL1
      · have hd1 : (1 : Int) ≤ 292194 := by omega
        cases o
        · have s1 := HS5.out
          go_wp2_with fail
          refine (put_okc (c := c) (l := l2) s1 (Below.refl _ _) h5 (by omega) ((HC.out 1 5 0 (by omega) (by omega) (by omega) (by omega)).1 (by decide))).mono ?_
          rintro e z1 ⟨B1, r1, rfl, t1, k1, g1⟩
          have f0 := kept g1 f0
          have f1 := kept g1 f1
          have f2 := kept g1 f2
          have f3 := kept g1 f3
          have f4 := kept g1 f4
          have f5 := kept g1 f5
          have f6 := kept g1 f6
          have p0 := kept g1 p0
          have p1 := kept g1 p1
          have p2 := kept g1 p2
          have p3 := kept g1 p3
          have p4 := kept g1 p4
          have p5 := kept g1 p5
          have s2 := s1.below g1
          have hzf := block_lt_of_cell f0
          have hzp := block_lt_of_cell p0
          clear g1 s1
          go_wp2_with fail
          obtain ⟨cd2, hcd2⟩ : ∃ x, putC c.bkd l2 ⟨1, 4, 0⟩ = x := ⟨_, rfl⟩
          have hne2 : cd2 ≠ 0 := by rw [← hcd2]; exact (HC.out 1 4 0 (by omega) (by omega) (by omega) (by omega)).2 (by decide)
          have hcb2 : (cd2 == 0) = false := by simpa using hne2
          have HD2 := hide hcd2
          have HE2 := hide hne2
          clear hcd2 hne2
          refine (put_noc (c := c) (l := l2) s2 ((Below.refl _ _).alloc (Nat.le_refl _) _) (k1.alloc k1.size _) (by omega) HD2.out HE2.out).mono ?_
          rintro e z2 ⟨rfl, k2, g2⟩
          have f0 := kept g2 (kept ((Below.refl _ _).alloc (Nat.le_refl _) _) f0)
          have f1 := kept g2 (kept ((Below.refl _ _).alloc (Nat.le_refl _) _) f1)
          have f2 := kept g2 (kept ((Below.refl _ _).alloc (Nat.le_refl _) _) f2)
          have f3 := kept g2 (kept ((Below.refl _ _).alloc (Nat.le_refl _) _) f3)
          have f4 := kept g2 (kept ((Below.refl _ _).alloc (Nat.le_refl _) _) f4)
          have f5 := kept g2 (kept ((Below.refl _ _).alloc (Nat.le_refl _) _) f5)
          have f6 := kept g2 (kept ((Below.refl _ _).alloc (Nat.le_refl _) _) f6)
          have p0 := kept g2 (kept ((Below.refl _ _).alloc (Nat.le_refl _) _) p0)
          have p1 := kept g2 (kept ((Below.refl _ _).alloc (Nat.le_refl _) _) p1)
          have p2 := kept g2 (kept ((Below.refl _ _).alloc (Nat.le_refl _) _) p2)
          have p3 := kept g2 (kept ((Below.refl _ _).alloc (Nat.le_refl _) _) p3)
          have p4 := kept g2 (kept ((Below.refl _ _).alloc (Nat.le_refl _) _) p4)
          have p5 := kept g2 (kept ((Below.refl _ _).alloc (Nat.le_refl _) _) p5)
          have s3 := (s2.alloc _).below g2
          have hzf := block_lt_of_cell f0
          have hzp := block_lt_of_cell p0
          clear g2 s2
          go_wp2_with fail
          obtain ⟨cd3, hcd3⟩ : ∃ x, putC c.bkd l2 ⟨1, 1, day⟩ = x := ⟨_, rfl⟩
          have hne3 : cd3 ≠ 0 := by rw [← hcd3]; exact (HC.out 1 1 day (by omega) (by omega) (by omega) (by omega)).2 (by decide)
          have hcb3 : (cd3 == 0) = false := by simpa using hne3
          have HD3 := hide hcd3
          have HE3 := hide hne3
          clear hcd3 hne3
          refine (put_noc (c := c) (l := l2) s3 ((Below.refl _ _).alloc (Nat.le_refl _) _) (k2.alloc k2.size _) (by omega) HD3.out HE3.out).mono ?_
          rintro e z3 ⟨rfl, k3, g3⟩
          have f0 := kept g3 (kept ((Below.refl _ _).alloc (Nat.le_refl _) _) f0)
          have f1 := kept g3 (kept ((Below.refl _ _).alloc (Nat.le_refl _) _) f1)
          have f2 := kept g3 (kept ((Below.refl _ _).alloc (Nat.le_refl _) _) f2)
          have f3 := kept g3 (kept ((Below.refl _ _).alloc (Nat.le_refl _) _) f3)
          have f4 := kept g3 (kept ((Below.refl _ _).alloc (Nat.le_refl _) _) f4)
          have f5 := kept g3 (kept ((Below.refl _ _).alloc (Nat.le_refl _) _) f5)
          have f6 := kept g3 (kept ((Below.refl _ _).alloc (Nat.le_refl _) _) f6)
          have p0 := kept g3 (kept ((Below.refl _ _).alloc (Nat.le_refl _) _) p0)
          have p1 := kept g3 (kept ((Below.refl _ _).alloc (Nat.le_refl _) _) p1)
          have p2 := kept g3 (kept ((Below.refl _ _).alloc (Nat.le_refl _) _) p2)
          have p3 := kept g3 (kept ((Below.refl _ _).alloc (Nat.le_refl _) _) p3)
          have p4 := kept g3 (kept ((Below.refl _ _).alloc (Nat.le_refl _) _) p4)
          have p5 := kept g3 (kept ((Below.refl _ _).alloc (Nat.le_refl _) _) p5)
          have s4 := (s3.alloc _).below g3
          have hzf := block_lt_of_cell f0
          have hzp := block_lt_of_cell p0
          clear g3 s3
          go_wp2_with fail
          go_ret
          exact ⟨rfl, k3.alloc k3.size _⟩
        · have s1 := HS5.out
          go_wp2_with fail
          obtain ⟨cd1, hcd1⟩ : ∃ x, putC c.bkd l2 ⟨1, 5, 0⟩ = x := ⟨_, rfl⟩
          have hne1 : cd1 ≠ 0 := by rw [← hcd1]; exact (HC.out 1 5 0 (by omega) (by omega) (by omega) (by omega)).2 (by decide)
          have hcb1 : (cd1 == 0) = false := by simpa using hne1
          have HD1 := hide hcd1
          have HE1 := hide hne1
          clear hcd1 hne1
          refine (put_noc (c := c) (l := l2) s1 (Below.refl _ _) h5 (by omega) HD1.out HE1.out).mono ?_
          rintro e z1 ⟨rfl, k1, g1⟩
          have f0 := kept g1 f0
          have f1 := kept g1 f1
          have f2 := kept g1 f2
          have f3 := kept g1 f3
          have f4 := kept g1 f4
          have f5 := kept g1 f5
          have f6 := kept g1 f6
          have p0 := kept g1 p0
          have p1 := kept g1 p1
          have p2 := kept g1 p2
          have p3 := kept g1 p3
          have p4 := kept g1 p4
          have p5 := kept g1 p5
          have s2 := s1.below g1
          have hzf := block_lt_of_cell f0
          have hzp := block_lt_of_cell p0
          clear g1 s1
          go_wp2_with fail
          refine (put_okc (c := c) (l := l2) s2 ((Below.refl _ _).alloc (Nat.le_refl _) _) (k1.alloc k1.size _) (by omega) ((HC.out 1 4 0 (by omega) (by omega) (by omega) (by omega)).1 (by decide))).mono ?_
          rintro e z2 ⟨B2, r2, rfl, t2, k2, g2⟩
          have f0 := kept g2 (kept ((Below.refl _ _).alloc (Nat.le_refl _) _) f0)
          have f1 := kept g2 (kept ((Below.refl _ _).alloc (Nat.le_refl _) _) f1)
          have f2 := kept g2 (kept ((Below.refl _ _).alloc (Nat.le_refl _) _) f2)
          have f3 := kept g2 (kept ((Below.refl _ _).alloc (Nat.le_refl _) _) f3)
          have f4 := kept g2 (kept ((Below.refl _ _).alloc (Nat.le_refl _) _) f4)
          have f5 := kept g2 (kept ((Below.refl _ _).alloc (Nat.le_refl _) _) f5)
          have f6 := kept g2 (kept ((Below.refl _ _).alloc (Nat.le_refl _) _) f6)
          have p0 := kept g2 (kept ((Below.refl _ _).alloc (Nat.le_refl _) _) p0)
          have p1 := kept g2 (kept ((Below.refl _ _).alloc (Nat.le_refl _) _) p1)
          have p2 := kept g2 (kept ((Below.refl _ _).alloc (Nat.le_refl _) _) p2)
          have p3 := kept g2 (kept ((Below.refl _ _).alloc (Nat.le_refl _) _) p3)
          have p4 := kept g2 (kept ((Below.refl _ _).alloc (Nat.le_refl _) _) p4)
          have p5 := kept g2 (kept ((Below.refl _ _).alloc (Nat.le_refl _) _) p5)
          have s3 := (s2.alloc _).below g2
          have hzf := block_lt_of_cell f0
          have hzp := block_lt_of_cell p0
          clear g2 s2
          go_wp2_with fail
          refine (put_okc (c := c) (l := l2) s3 ((Below.refl _ _).alloc (Nat.le_refl _) _) (k2.alloc k2.size _) (by omega) ((HC.out 1 1 day (by omega) (by omega) (by omega) (by omega)).1 (by decide))).mono ?_
          rintro e z3 ⟨B3, r3, rfl, t3, k3, g3⟩
          have f0 := kept g3 (kept ((Below.refl _ _).alloc (Nat.le_refl _) _) f0)
          have f1 := kept g3 (kept ((Below.refl _ _).alloc (Nat.le_refl _) _) f1)
          have f2 := kept g3 (kept ((Below.refl _ _).alloc (Nat.le_refl _) _) f2)
          have f3 := kept g3 (kept ((Below.refl _ _).alloc (Nat.le_refl _) _) f3)
          have f4 := kept g3 (kept ((Below.refl _ _).alloc (Nat.le_refl _) _) f4)
          have f5 := kept g3 (kept ((Below.refl _ _).alloc (Nat.le_refl _) _) f5)
          have f6 := kept g3 (kept ((Below.refl _ _).alloc (Nat.le_refl _) _) f6)
          have p0 := kept g3 (kept ((Below.refl _ _).alloc (Nat.le_refl _) _) p0)
          have p1 := kept g3 (kept ((Below.refl _ _).alloc (Nat.le_refl _) _) p1)
          have p2 := kept g3 (kept ((Below.refl _ _).alloc (Nat.le_refl _) _) p2)
          have p3 := kept g3 (kept ((Below.refl _ _).alloc (Nat.le_refl _) _) p3)
          have p4 := kept g3 (kept ((Below.refl _ _).alloc (Nat.le_refl _) _) p4)
          have p5 := kept g3 (kept ((Below.refl _ _).alloc (Nat.le_refl _) _) p5)
          have s4 := (s3.alloc _).below g3
          have hzf := block_lt_of_cell f0
          have hzp := block_lt_of_cell p0
          clear g3 s3
          go_wp2_with fail
          go_ret
          exact ⟨rfl, k3.alloc k3.size _⟩
      · by_cases hbigL : 292194 < La
        · obtain rfl := hnil hbigL
          go_wp2_with fail
          go_ret
          exact ⟨rfl, h5⟩
        · have hL2 : La ≤ 292194 := by omega
          cases o
          · have s1 := HS5.out
            go_wp2_with fail
            refine (put_okc (c := c) (l := l2) s1 (Below.refl _ _) h5 (by omega) ((HC.out La 5 0 (by omega) (by omega) (by omega) (by omega)).1 (by decide))).mono ?_
            rintro e z1 ⟨B1, r1, rfl, t1, k1, g1⟩
            have f0 := kept g1 f0
            have f1 := kept g1 f1
            have f2 := kept g1 f2
            have f3 := kept g1 f3
            have f4 := kept g1 f4
            have f5 := kept g1 f5
            have f6 := kept g1 f6
            have p0 := kept g1 p0
            have p1 := kept g1 p1
            have p2 := kept g1 p2
            have p3 := kept g1 p3
            have p4 := kept g1 p4
            have p5 := kept g1 p5
            have s2 := s1.below g1
            have hzf := block_lt_of_cell f0
            have hzp := block_lt_of_cell p0
            clear g1 s1
            go_wp2_with fail
            obtain ⟨cd2, hcd2⟩ : ∃ x, putC c.bkd l2 ⟨La, 4, 0⟩ = x := ⟨_, rfl⟩
            have hne2 : cd2 ≠ 0 := by rw [← hcd2]; exact (HC.out La 4 0 (by omega) (by omega) (by omega) (by omega)).2 (by decide)
            have hcb2 : (cd2 == 0) = false := by simpa using hne2
            have HD2 := hide hcd2
            have HE2 := hide hne2
            clear hcd2 hne2
            refine (put_noc (c := c) (l := l2) s2 ((Below.refl _ _).alloc (Nat.le_refl _) _) (k1.alloc k1.size _) (by omega) HD2.out HE2.out).mono ?_
            rintro e z2 ⟨rfl, k2, g2⟩
            have f0 := kept g2 (kept ((Below.refl _ _).alloc (Nat.le_refl _) _) f0)
            have f1 := kept g2 (kept ((Below.refl _ _).alloc (Nat.le_refl _) _) f1)
            have f2 := kept g2 (kept ((Below.refl _ _).alloc (Nat.le_refl _) _) f2)
            have f3 := kept g2 (kept ((Below.refl _ _).alloc (Nat.le_refl _) _) f3)
            have f4 := kept g2 (kept ((Below.refl _ _).alloc (Nat.le_refl _) _) f4)
            have f5 := kept g2 (kept ((Below.refl _ _).alloc (Nat.le_refl _) _) f5)
            have f6 := kept g2 (kept ((Below.refl _ _).alloc (Nat.le_refl _) _) f6)
            have p0 := kept g2 (kept ((Below.refl _ _).alloc (Nat.le_refl _) _) p0)
            have p1 := kept g2 (kept ((Below.refl _ _).alloc (Nat.le_refl _) _) p1)
            have p2 := kept g2 (kept ((Below.refl _ _).alloc (Nat.le_refl _) _) p2)
            have p3 := kept g2 (kept ((Below.refl _ _).alloc (Nat.le_refl _) _) p3)
            have p4 := kept g2 (kept ((Below.refl _ _).alloc (Nat.le_refl _) _) p4)
            have p5 := kept g2 (kept ((Below.refl _ _).alloc (Nat.le_refl _) _) p5)
            have s3 := (s2.alloc _).below g2
            have hzf := block_lt_of_cell f0
            have hzp := block_lt_of_cell p0
            clear g2 s2
            go_wp2_with fail
            obtain ⟨cd3, hcd3⟩ : ∃ x, putC c.bkd l2 ⟨La, 1, day⟩ = x := ⟨_, rfl⟩
            have hne3 : cd3 ≠ 0 := by rw [← hcd3]; exact (HC.out La 1 day (by omega) (by omega) (by omega) (by omega)).2 (by decide)
            have hcb3 : (cd3 == 0) = false := by simpa using hne3
            have HD3 := hide hcd3
            have HE3 := hide hne3
            clear hcd3 hne3
            refine (put_noc (c := c) (l := l2) s3 ((Below.refl _ _).alloc (Nat.le_refl _) _) (k2.alloc k2.size _) (by omega) HD3.out HE3.out).mono ?_
            rintro e z3 ⟨rfl, k3, g3⟩
            have f0 := kept g3 (kept ((Below.refl _ _).alloc (Nat.le_refl _) _) f0)
            have f1 := kept g3 (kept ((Below.refl _ _).alloc (Nat.le_refl _) _) f1)
            have f2 := kept g3 (kept ((Below.refl _ _).alloc (Nat.le_refl _) _) f2)
            have f3 := kept g3 (kept ((Below.refl _ _).alloc (Nat.le_refl _) _) f3)
            have f4 := kept g3 (kept ((Below.refl _ _).alloc (Nat.le_refl _) _) f4)
            have f5 := kept g3 (kept ((Below.refl _ _).alloc (Nat.le_refl _) _) f5)
            have f6 := kept g3 (kept ((Below.refl _ _).alloc (Nat.le_refl _) _) f6)
            have p0 := kept g3 (kept ((Below.refl _ _).alloc (Nat.le_refl _) _) p0)
            have p1 := kept g3 (kept ((Below.refl _ _).alloc (Nat.le_refl _) _) p1)
            have p2 := kept g3 (kept ((Below.refl _ _).alloc (Nat.le_refl _) _) p2)
            have p3 := kept g3 (kept ((Below.refl _ _).alloc (Nat.le_refl _) _) p3)
            have p4 := kept g3 (kept ((Below.refl _ _).alloc (Nat.le_refl _) _) p4)
            have p5 := kept g3 (kept ((Below.refl _ _).alloc (Nat.le_refl _) _) p5)
            have s4 := (s3.alloc _).below g3
            have hzf := block_lt_of_cell f0
            have hzp := block_lt_of_cell p0
            clear g3 s3
            go_wp2_with fail
            go_ret
            exact ⟨rfl, k3.alloc k3.size _⟩
          · have s1 := HS5.out
            go_wp2_with fail
            obtain ⟨cd1, hcd1⟩ : ∃ x, putC c.bkd l2 ⟨La, 5, 0⟩ = x := ⟨_, rfl⟩
            have hne1 : cd1 ≠ 0 := by rw [← hcd1]; exact (HC.out La 5 0 (by omega) (by omega) (by omega) (by omega)).2 (by decide)
            have hcb1 : (cd1 == 0) = false := by simpa using hne1
            have HD1 := hide hcd1
            have HE1 := hide hne1
            clear hcd1 hne1
            refine (put_noc (c := c) (l := l2) s1 (Below.refl _ _) h5 (by omega) HD1.out HE1.out).mono ?_
            rintro e z1 ⟨rfl, k1, g1⟩
            have f0 := kept g1 f0
            have f1 := kept g1 f1
            have f2 := kept g1 f2
            have f3 := kept g1 f3
            have f4 := kept g1 f4
            have f5 := kept g1 f5
            have f6 := kept g1 f6
            have p0 := kept g1 p0
            have p1 := kept g1 p1
            have p2 := kept g1 p2
            have p3 := kept g1 p3
            have p4 := kept g1 p4
            have p5 := kept g1 p5
            have s2 := s1.below g1
            have hzf := block_lt_of_cell f0
            have hzp := block_lt_of_cell p0
            clear g1 s1
            go_wp2_with fail
            refine (put_okc (c := c) (l := l2) s2 ((Below.refl _ _).alloc (Nat.le_refl _) _) (k1.alloc k1.size _) (by omega) ((HC.out La 4 0 (by omega) (by omega) (by omega) (by omega)).1 (by decide))).mono ?_
            rintro e z2 ⟨B2, r2, rfl, t2, k2, g2⟩
            have f0 := kept g2 (kept ((Below.refl _ _).alloc (Nat.le_refl _) _) f0)
            have f1 := kept g2 (kept ((Below.refl _ _).alloc (Nat.le_refl _) _) f1)
            have f2 := kept g2 (kept ((Below.refl _ _).alloc (Nat.le_refl _) _) f2)
            have f3 := kept g2 (kept ((Below.refl _ _).alloc (Nat.le_refl _) _) f3)
            have f4 := kept g2 (kept ((Below.refl _ _).alloc (Nat.le_refl _) _) f4)
            have f5 := kept g2 (kept ((Below.refl _ _).alloc (Nat.le_refl _) _) f5)
            have f6 := kept g2 (kept ((Below.refl _ _).alloc (Nat.le_refl _) _) f6)
            have p0 := kept g2 (kept ((Below.refl _ _).alloc (Nat.le_refl _) _) p0)
            have p1 := kept g2 (kept ((Below.refl _ _).alloc (Nat.le_refl _) _) p1)
            have p2 := kept g2 (kept ((Below.refl _ _).alloc (Nat.le_refl _) _) p2)
            have p3 := kept g2 (kept ((Below.refl _ _).alloc (Nat.le_refl _) _) p3)
            have p4 := kept g2 (kept ((Below.refl _ _).alloc (Nat.le_refl _) _) p4)
            have p5 := kept g2 (kept ((Below.refl _ _).alloc (Nat.le_refl _) _) p5)
            have s3 := (s2.alloc _).below g2
            have hzf := block_lt_of_cell f0
            have hzp := block_lt_of_cell p0
            clear g2 s2
            go_wp2_with fail
            refine (put_okc (c := c) (l := l2) s3 ((Below.refl _ _).alloc (Nat.le_refl _) _) (k2.alloc k2.size _) (by omega) ((HC.out La 1 day (by omega) (by omega) (by omega) (by omega)).1 (by decide))).mono ?_
            rintro e z3 ⟨B3, r3, rfl, t3, k3, g3⟩
            have f0 := kept g3 (kept ((Below.refl _ _).alloc (Nat.le_refl _) _) f0)
            have f1 := kept g3 (kept ((Below.refl _ _).alloc (Nat.le_refl _) _) f1)
            have f2 := kept g3 (kept ((Below.refl _ _).alloc (Nat.le_refl _) _) f2)
            have f3 := kept g3 (kept ((Below.refl _ _).alloc (Nat.le_refl _) _) f3)
            have f4 := kept g3 (kept ((Below.refl _ _).alloc (Nat.le_refl _) _) f4)
            have f5 := kept g3 (kept ((Below.refl _ _).alloc (Nat.le_refl _) _) f5)
            have f6 := kept g3 (kept ((Below.refl _ _).alloc (Nat.le_refl _) _) f6)
            have p0 := kept g3 (kept ((Below.refl _ _).alloc (Nat.le_refl _) _) p0)
            have p1 := kept g3 (kept ((Below.refl _ _).alloc (Nat.le_refl _) _) p1)
            have p2 := kept g3 (kept ((Below.refl _ _).alloc (Nat.le_refl _) _) p2)
            have p3 := kept g3 (kept ((Below.refl _ _).alloc (Nat.le_refl _) _) p3)
            have p4 := kept g3 (kept ((Below.refl _ _).alloc (Nat.le_refl _) _) p4)
            have p5 := kept g3 (kept ((Below.refl _ _).alloc (Nat.le_refl _) _) p5)
            have s4 := (s3.alloc _).below g3
            have hzf := block_lt_of_cell f0
            have hzp := block_lt_of_cell p0
            clear g3 s3
            go_wp2_with fail
            go_ret
            exact ⟨rfl, k3.alloc k3.size _⟩

theorem claimBounds_lifted (os : Os) (started : os.Started) (H : Type) (enc : TypeId × Value → H) :
    ReturnsInHanded {} Try.checked os 6 .any (Rows.claimBoundsSpec.pre6 enc Try.prog Try.f6 Rows.claimBoundsRow.domain false) (Rows.claimBoundsSpec.post enc Try.prog Try.f6 false true false false) := by
  refine returnsInHanded_of_change (C := Try.checked) own started (by kernel_rfl) Try.func6
    (ChangeSpec.witness6 (enc := enc) (C := Try.checked) false ⟨#[], #[.agg #[.int .i64 0, .int .i64 0, .int .i64 0, .int .i64 0, .int .i64 0, .int .i64 0], .slice none 0 0, .int .u32 0], []⟩ 8 (by kernel_rfl) (by kernel_rfl) (by kernel_rfl) (by kernel_rfl)) ?_
  intro W base args ds gs before hval0 hW hcnd _
  have hval : ∀ (j : Nat) t v, Try.f6.params[j]? = some t → args[j]? = some v → Value.okWide Try.prog W .any base t v := hval0
  have hW' := hW
  obtain ⟨p, q, hA0, hV, rfl, hfz, hnd⟩ := hW
  have hA : DataW.TrodAll enc Try.prog W 0 (fun _ => true) true Try.f6.params.toList args.toList ds p := hA0
  rw [Try.params6] at hA hval
  obtain ⟨v0, vs0, d0, ds0, p0, q0, hargs, rfl, rfl, h0, r0⟩ := trodAll_cons hA
  obtain ⟨v1, vs1, d1, ds1, p1, q1, rfl, rfl, rfl, h1, r1⟩ := trodAll_cons r0
  obtain ⟨v2, vs2, d2, ds2, p2, q2, rfl, rfl, rfl, h2, r2⟩ := trodAll_cons r1
  obtain ⟨rfl, rfl, rfl⟩ := trodAll_nil r2
  obtain rfl : args = #[v0, v1, v2] := by cases args; simp_all
  obtain ⟨rfl, rfl⟩ := trodVars_none hV
  obtain ⟨c0, rfl⟩ := open_claim (hval 0 23 v0 rfl rfl) h0
  obtain ⟨A1, l1, p1, rfl, hs1⟩ := open_acts (hval 1 30 v1 rfl rfl) h1
  obtain ⟨x2, rfl, rfl, rfl, wx2⟩ := open_int Try.underlying45 (hval 2 45 v2 rfl rfl) h2
  refine (claimBounds_walk W c0 A1 l1 p1 hs1 x2 wx2).mono fun e W' ⟨he, hb⟩ => ?_
  subst he
  exact ⟨_, rfl, law_post laidOut (by kernel_rfl) rfl Try.underlying4 rfl rfl hW' hb⟩

/-- THE STATEMENT. -/
theorem claimBounds_holds : Rows.ClaimBoundsSaid :=
  OpenClaim.holds_of_wide 6 Try.f6 rfl rfl rfl rfl rfl rfl rfl ⟨rfl, rfl, rfl, rfl, rfl⟩ rfl rfl rfl rfl rfl (by kernel_rfl) Try.func6 (by kernel_rfl)
    (of_decide_eq_true (by kernel_rfl)) (by unfold Func.isWrapper; first | (rw [if_pos (by decide +kernel)]; kernel_rfl) | (rw [if_neg (by decide +kernel)]; exact ⟨rfl, rfl⟩))
    (fun os started H enc _ => claimBounds_lifted os started H enc)
end Go.Proofs.Ytmeneojgdbjlnaa
