/- DayMonths: shifts there and back. -/
import Derived.Test.YtbkpflgceppkdaaDayMon
namespace Go.Proofs.Ytbkpflgceppkdaa
open Go.ChangeShapes Go.WideShapes Go.ChangeAt Go.RowKit
set_option linter.unusedVariables false

theorem sh_code (n s : Int) : shE n s = 0 ∨ shE n s = 3 := by
  unfold shE; split
  · unfold shiftP; split
    · exact .inr rfl
    · split
      · exact .inr rfl
      · exact .inl rfl
  · exact .inr rfl
theorem sh_bd (n s : Int) (h : shE n s = 0) (h1 : 1 ≤ n) (h2 : n ≤ 292194) (h3 : -9600 ≤ s) (h4 : s ≤ 9600) : 1 ≤ shV n s ∧ shV n s ≤ 292194 := by
  obtain ⟨a1, a2, _, _, a5, a6, a7⟩ := mon_ok h1 h2
  rcases sh_eq h1 h2 h3 h4 with ⟨c1, c2, c3, _⟩ | ⟨_, _, c⟩
  · have hl := lenT_bd (monT n + s)
    obtain ⟨e1, e2, _⟩ := ofI_mon c1 c2 (show 1 ≤ min (ofI n).2.2 (lenT (monT n + s)) by omega) (by omega)
    omega
  · omega

set_option maxRecDepth 100000 in
set_option maxHeartbeats 16000000 in
theorem dayMonths_walk (w : World) (m : Int) (_wm : (Lit.int .u32 m).wf = true) (n : Int) (_wn : (Lit.int .u32 n).wf = true) (b : Int) (_wb : (Lit.int .u16 b).wf = true) (back : Bool) :
    Calls Try.prog 9 #[.int .u32 m, .int .u32 n, .int .u16 b, .bool back] w fun e w' => e = .returned (.bool true) ∧ Below w.heap.size w w' := by
  go_enter Try.func9, Try.ntmps9
  go_wp2_with fail
  refine (awake_any _).mono ?_
  rintro e w1 ⟨rfl, hb1⟩
  have bm : 0 ≤ m ∧ m ≤ 4294967295 := wf_u32 _wm
  have bn : 0 ≤ n ∧ n ≤ 4294967295 := wf_u32 _wn
  have bb : 0 ≤ b ∧ b ≤ 65535 := wf_u16 _wb
  go_wp2_with fail
  refine (in_any _ _ bm.1 bm.2).mono ?_
  rintro e wq ⟨rfl, rfl⟩
  go_wp2_with fail
  refine (in_any _ _ bn.1 bn.2).mono ?_
  rintro e wq ⟨rfl, rfl⟩
  obtain ⟨j, hj⟩ : ∃ j, 1 + m % 292194 = j := ⟨_, rfl⟩
  rw [hj]
  have hj1 : 1 ≤ j := by omega
  have hj2 : j ≤ 292194 := by omega
  have ej : okE j = 0 := by rw [okE, if_pos ⟨hj1, hj2⟩]
  obtain ⟨k, hk⟩ : ∃ k, 1 + n % 292194 = k := ⟨_, rfl⟩
  rw [hk]
  have hk1 : 1 ≤ k := by omega
  have hk2 : k ≤ 292194 := by omega
  have ek : okE k = 0 := by rw [okE, if_pos ⟨hk1, hk2⟩]
  have hw : IntKind.u16.wrap (b.tmod 9601) = b % 9601 := by rw [Int.tmod_eq_emod_of_nonneg bb.1]; exact IntWalk.u16_in _ (by omega)
  cases back
  all_goals
    go_wp2_with fail
    first
      | (obtain ⟨s, hs⟩ : ∃ s, -(b % 9601) = s := ⟨_, rfl⟩; rw [hs])
      | (obtain ⟨s, hs⟩ : ∃ s, b % 9601 = s := ⟨_, rfl⟩; rw [hs])
    have hs1 : -9600 ≤ s := by omega
    have hs2 : s ≤ 9600 := by omega
    clear hw hs bb bm bn hj hk
    refine (shift_val _ _ _ (by omega)).mono ?_
    rintro e w2 ⟨rfl, q⟩
    have h2 := chain hb1 q
    clear q hb1
    go_wp2_with fail
    refine (shift_val _ _ _ (by omega)).mono ?_
    rintro e w3 ⟨rfl, q⟩
    have h3 := chain h2 q
    clear q h2
    have HM := hide (fun h : j < k => sh_mono hj1 hj2 hk1 hk2 hs1 hs2 h)
    have HB := hide (sh_back hj1 hj2 hs1 hs2)
    have HD := hide (sh_bd j s)
    have HY := hide (sh_year hj1 hj2)
    have HO := hide (right_iff.1 (ofI_ok hj1 hj2).1)
    obtain ⟨A, hA⟩ : ∃ A, shV j s = A := ⟨_, rfl⟩
    obtain ⟨C, hC⟩ : ∃ C, shV k s = C := ⟨_, rfl⟩
    have hcond : shE j s = 3 ∨ (shE j s = 0 ∧ shE k s = 3) ∨ (shE j s = 0 ∧ shE k s = 0 ∧ j < k ∧ A ≤ C) ∨ (shE j s = 0 ∧ shE k s = 0 ∧ k ≤ j) := by
      rcases sh_code j s with e1 | e1
      · rcases sh_code k s with e2 | e2
        · rcases Int.lt_or_le j k with e3 | e3
          · exact .inr (.inr (.inl ⟨e1, e2, e3, by rw [← hA, ← hC]; exact HM.out e3 e1 e2⟩))
          · exact .inr (.inr (.inr ⟨e1, e2, e3⟩))
        · exact .inr (.inl ⟨e1, e2⟩)
      · exact .inl e1
    rw [hA, hC]
    rw [hA] at HB HD
    clear hA hC HM
    rcases hcond with e1 | ⟨e1, e2⟩ | ⟨e1, e2, e3, e4⟩ | ⟨e1, e2, e3⟩
    · rw [e1]
      obtain ⟨F, hF⟩ : ∃ F, shE k s = F := ⟨_, rfl⟩
      rw [hF]
      clear HB HD hF e1
      go_wp2_with fail
      refine (of_val _ _).mono ?_
      rw [ej]
      rintro e w5 ⟨rfl, q⟩
      have h5 := chain h3 q
      clear q h3
      go_wp2_with fail
      refine (shift_val _ _ _ (by omega)).mono ?_
      rintro e w6 ⟨rfl, q⟩
      have a0 : w6.cell? ⟨w5.heap.size, 0, none⟩ = some (.int .i64 (ofI j).1) := kept q (by simp)
      have a1 : w6.cell? ⟨w5.heap.size, 1, none⟩ = some (.int .i64 (ofI j).2.1) := kept q (by simp)
      have a2 : w6.cell? ⟨w5.heap.size, 2, none⟩ = some (.int .i64 (ofI j).2.2) := kept q (by simp)
      have h6 := chain (h5.alloc h5.size _) q
      clear q h5
      have ho := HO.out
      rcases HY.out with ⟨y1, y2, y3, y4⟩ | ⟨y1, y2⟩
      · rw [y2]
        obtain ⟨yy, hyy⟩ : ∃ x, shV j 12 = x := ⟨_, rfl⟩
        rw [hyy] at y3 y4 ⊢
        obtain ⟨⟨cy, cm, cd⟩, hc⟩ : ∃ p, ofI j = p := ⟨_, rfl⟩
        rw [hc] at a0 a1 a2 ho y1 y4
        simp only at a0 a1 a2 ho y1 y4
        clear HY HO y2 hyy
        go_wp2_with fail
        refine (of_val _ _).mono ?_
        rw [y3, y4]
        rintro e w7 ⟨rfl, q⟩
        have c0 := kept q a0
        have c1 := kept q a1
        have c2 := kept q a2
        have h7 := chain h6 q
        have hz : w5.heap.size < w7.heap.size := block_lt_of_cell c0
        clear q h6 a0 a1 a2
        by_cases h29 : cm = 2 ∧ cd = 29
        · rw [if_pos h29]
          obtain ⟨rfl, rfl⟩ := h29
          go_wp2_with fail
          go_ret
          refine ⟨ret_bool (by first | rfl | (simp; omega) | simp), ?_⟩
          first | exact (h7.alloc h7.size _).alloc (by simp; have := h7.size; omega) _ | exact ((h7.alloc h7.size _).alloc (by simp; have := h7.size; omega) _).setCell (by simp; have := h7.size; omega) _
        · rw [if_neg h29]
          have h29' : ((cm == 2) && (cd == 29)) = false := by simpa using h29
          by_cases hcm : cm = 2
          · subst hcm
            have hcd : (cd == 29) = false := by simpa using h29
            go_wp2_with fail
            go_ret
            exact ⟨ret_bool (by first | rfl | (simp; omega) | simp), (h7.alloc h7.size _).alloc (by simp; have := h7.size; omega) _⟩
          · have hcm' : (cm == 2) = false := by simpa using hcm
            go_wp2_with fail
            go_ret
            exact ⟨ret_bool (by first | rfl | (simp; omega) | simp), (h7.alloc h7.size _).alloc (by simp; have := h7.size; omega) _⟩
      · rw [y2]
        clear HY HO y2
        go_wp2_with fail
        go_ret
        exact ⟨rfl, h6⟩
    · obtain ⟨b1, b2, b3⟩ := HB.out e1
      rw [e1, e2]
      clear HB HD e1 e2
      go_wp2_with fail
      refine (shift_val _ _ _ (by omega)).mono ?_
      rw [b1]
      rintro e w4 ⟨rfl, q⟩
      have h4 := chain h3 q
      clear q h3 b1
      obtain ⟨G, hG⟩ : ∃ G, shV A (-s) = G := ⟨_, rfl⟩
      rw [hG] at b2 b3 ⊢
      clear hG
      go_wp2_with fail
      have h3 := h4
      clear h4
      refine (of_val _ _).mono ?_
      rw [ej]
      rintro e w5 ⟨rfl, q⟩
      have h5 := chain h3 q
      clear q h3
      go_wp2_with fail
      refine (shift_val _ _ _ (by omega)).mono ?_
      rintro e w6 ⟨rfl, q⟩
      have a0 : w6.cell? ⟨w5.heap.size, 0, none⟩ = some (.int .i64 (ofI j).1) := kept q (by simp)
      have a1 : w6.cell? ⟨w5.heap.size, 1, none⟩ = some (.int .i64 (ofI j).2.1) := kept q (by simp)
      have a2 : w6.cell? ⟨w5.heap.size, 2, none⟩ = some (.int .i64 (ofI j).2.2) := kept q (by simp)
      have h6 := chain (h5.alloc h5.size _) q
      clear q h5
      have ho := HO.out
      rcases HY.out with ⟨y1, y2, y3, y4⟩ | ⟨y1, y2⟩
      · rw [y2]
        obtain ⟨yy, hyy⟩ : ∃ x, shV j 12 = x := ⟨_, rfl⟩
        rw [hyy] at y3 y4 ⊢
        obtain ⟨⟨cy, cm, cd⟩, hc⟩ : ∃ p, ofI j = p := ⟨_, rfl⟩
        rw [hc] at a0 a1 a2 ho y1 y4
        simp only at a0 a1 a2 ho y1 y4
        clear HY HO y2 hyy
        go_wp2_with fail
        refine (of_val _ _).mono ?_
        rw [y3, y4]
        rintro e w7 ⟨rfl, q⟩
        have c0 := kept q a0
        have c1 := kept q a1
        have c2 := kept q a2
        have h7 := chain h6 q
        have hz : w5.heap.size < w7.heap.size := block_lt_of_cell c0
        clear q h6 a0 a1 a2
        by_cases h29 : cm = 2 ∧ cd = 29
        · rw [if_pos h29]
          obtain ⟨rfl, rfl⟩ := h29
          go_wp2_with fail
          go_ret
          refine ⟨ret_bool (by first | rfl | (simp; omega) | simp), ?_⟩
          first | exact (h7.alloc h7.size _).alloc (by simp; have := h7.size; omega) _ | exact ((h7.alloc h7.size _).alloc (by simp; have := h7.size; omega) _).setCell (by simp; have := h7.size; omega) _
        · rw [if_neg h29]
          have h29' : ((cm == 2) && (cd == 29)) = false := by simpa using h29
          by_cases hcm : cm = 2
          · subst hcm
            have hcd : (cd == 29) = false := by simpa using h29
            go_wp2_with fail
            go_ret
            exact ⟨ret_bool (by first | rfl | (simp; omega) | simp), (h7.alloc h7.size _).alloc (by simp; have := h7.size; omega) _⟩
          · have hcm' : (cm == 2) = false := by simpa using hcm
            go_wp2_with fail
            go_ret
            exact ⟨ret_bool (by first | rfl | (simp; omega) | simp), (h7.alloc h7.size _).alloc (by simp; have := h7.size; omega) _⟩
      · rw [y2]
        clear HY HO y2
        go_wp2_with fail
        go_ret
        exact ⟨rfl, h6⟩
    · obtain ⟨b1, b2, b3⟩ := HB.out e1
      rw [e1, e2]
      clear HB HD e1 e2
      go_wp2_with fail
      refine (shift_val _ _ _ (by omega)).mono ?_
      rw [b1]
      rintro e w4 ⟨rfl, q⟩
      have h4 := chain h3 q
      clear q h3 b1
      obtain ⟨G, hG⟩ : ∃ G, shV A (-s) = G := ⟨_, rfl⟩
      rw [hG] at b2 b3 ⊢
      clear hG
      go_wp2_with fail
      have h3 := h4
      clear h4
      refine (of_val _ _).mono ?_
      rw [ej]
      rintro e w5 ⟨rfl, q⟩
      have h5 := chain h3 q
      clear q h3
      go_wp2_with fail
      refine (shift_val _ _ _ (by omega)).mono ?_
      rintro e w6 ⟨rfl, q⟩
      have a0 : w6.cell? ⟨w5.heap.size, 0, none⟩ = some (.int .i64 (ofI j).1) := kept q (by simp)
      have a1 : w6.cell? ⟨w5.heap.size, 1, none⟩ = some (.int .i64 (ofI j).2.1) := kept q (by simp)
      have a2 : w6.cell? ⟨w5.heap.size, 2, none⟩ = some (.int .i64 (ofI j).2.2) := kept q (by simp)
      have h6 := chain (h5.alloc h5.size _) q
      clear q h5
      have ho := HO.out
      rcases HY.out with ⟨y1, y2, y3, y4⟩ | ⟨y1, y2⟩
      · rw [y2]
        obtain ⟨yy, hyy⟩ : ∃ x, shV j 12 = x := ⟨_, rfl⟩
        rw [hyy] at y3 y4 ⊢
        obtain ⟨⟨cy, cm, cd⟩, hc⟩ : ∃ p, ofI j = p := ⟨_, rfl⟩
        rw [hc] at a0 a1 a2 ho y1 y4
        simp only at a0 a1 a2 ho y1 y4
        clear HY HO y2 hyy
        go_wp2_with fail
        refine (of_val _ _).mono ?_
        rw [y3, y4]
        rintro e w7 ⟨rfl, q⟩
        have c0 := kept q a0
        have c1 := kept q a1
        have c2 := kept q a2
        have h7 := chain h6 q
        have hz : w5.heap.size < w7.heap.size := block_lt_of_cell c0
        clear q h6 a0 a1 a2
        by_cases h29 : cm = 2 ∧ cd = 29
        · rw [if_pos h29]
          obtain ⟨rfl, rfl⟩ := h29
          go_wp2_with fail
          go_ret
          refine ⟨ret_bool (by first | rfl | (simp; omega) | simp), ?_⟩
          first | exact (h7.alloc h7.size _).alloc (by simp; have := h7.size; omega) _ | exact ((h7.alloc h7.size _).alloc (by simp; have := h7.size; omega) _).setCell (by simp; have := h7.size; omega) _
        · rw [if_neg h29]
          have h29' : ((cm == 2) && (cd == 29)) = false := by simpa using h29
          by_cases hcm : cm = 2
          · subst hcm
            have hcd : (cd == 29) = false := by simpa using h29
            go_wp2_with fail
            go_ret
            exact ⟨ret_bool (by first | rfl | (simp; omega) | simp), (h7.alloc h7.size _).alloc (by simp; have := h7.size; omega) _⟩
          · have hcm' : (cm == 2) = false := by simpa using hcm
            go_wp2_with fail
            go_ret
            exact ⟨ret_bool (by first | rfl | (simp; omega) | simp), (h7.alloc h7.size _).alloc (by simp; have := h7.size; omega) _⟩
      · rw [y2]
        clear HY HO y2
        go_wp2_with fail
        go_ret
        exact ⟨rfl, h6⟩
    · obtain ⟨b1, b2, b3⟩ := HB.out e1
      rw [e1, e2]
      clear HB HD e1 e2
      go_wp2_with fail
      refine (shift_val _ _ _ (by omega)).mono ?_
      rw [b1]
      rintro e w4 ⟨rfl, q⟩
      have h4 := chain h3 q
      clear q h3 b1
      obtain ⟨G, hG⟩ : ∃ G, shV A (-s) = G := ⟨_, rfl⟩
      rw [hG] at b2 b3 ⊢
      clear hG
      go_wp2_with fail
      have h3 := h4
      clear h4
      refine (of_val _ _).mono ?_
      rw [ej]
      rintro e w5 ⟨rfl, q⟩
      have h5 := chain h3 q
      clear q h3
      go_wp2_with fail
      refine (shift_val _ _ _ (by omega)).mono ?_
      rintro e w6 ⟨rfl, q⟩
      have a0 : w6.cell? ⟨w5.heap.size, 0, none⟩ = some (.int .i64 (ofI j).1) := kept q (by simp)
      have a1 : w6.cell? ⟨w5.heap.size, 1, none⟩ = some (.int .i64 (ofI j).2.1) := kept q (by simp)
      have a2 : w6.cell? ⟨w5.heap.size, 2, none⟩ = some (.int .i64 (ofI j).2.2) := kept q (by simp)
      have h6 := chain (h5.alloc h5.size _) q
      clear q h5
      have ho := HO.out
      rcases HY.out with ⟨y1, y2, y3, y4⟩ | ⟨y1, y2⟩
      · rw [y2]
        obtain ⟨yy, hyy⟩ : ∃ x, shV j 12 = x := ⟨_, rfl⟩
        rw [hyy] at y3 y4 ⊢
        obtain ⟨⟨cy, cm, cd⟩, hc⟩ : ∃ p, ofI j = p := ⟨_, rfl⟩
        rw [hc] at a0 a1 a2 ho y1 y4
        simp only at a0 a1 a2 ho y1 y4
        clear HY HO y2 hyy
        go_wp2_with fail
        refine (of_val _ _).mono ?_
        rw [y3, y4]
        rintro e w7 ⟨rfl, q⟩
        have c0 := kept q a0
        have c1 := kept q a1
        have c2 := kept q a2
        have h7 := chain h6 q
        have hz : w5.heap.size < w7.heap.size := block_lt_of_cell c0
        clear q h6 a0 a1 a2
        by_cases h29 : cm = 2 ∧ cd = 29
        · rw [if_pos h29]
          obtain ⟨rfl, rfl⟩ := h29
          go_wp2_with fail
          go_ret
          refine ⟨ret_bool (by first | rfl | (simp; omega) | simp), ?_⟩
          first | exact (h7.alloc h7.size _).alloc (by simp; have := h7.size; omega) _ | exact ((h7.alloc h7.size _).alloc (by simp; have := h7.size; omega) _).setCell (by simp; have := h7.size; omega) _
        · rw [if_neg h29]
          have h29' : ((cm == 2) && (cd == 29)) = false := by simpa using h29
          by_cases hcm : cm = 2
          · subst hcm
            have hcd : (cd == 29) = false := by simpa using h29
            go_wp2_with fail
            go_ret
            exact ⟨ret_bool (by first | rfl | (simp; omega) | simp), (h7.alloc h7.size _).alloc (by simp; have := h7.size; omega) _⟩
          · have hcm' : (cm == 2) = false := by simpa using hcm
            go_wp2_with fail
            go_ret
            exact ⟨ret_bool (by first | rfl | (simp; omega) | simp), (h7.alloc h7.size _).alloc (by simp; have := h7.size; omega) _⟩
      · rw [y2]
        clear HY HO y2
        go_wp2_with fail
        go_ret
        exact ⟨rfl, h6⟩

theorem dayMonths_lifted (os : Os) (started : os.Started) (H : Type) (enc : TypeId × Value → H) :
    ReturnsInHanded {} Try.checked os 9 .any (Rows.dayMonthsSpec.pre6 enc Try.prog Try.f9 Rows.dayMonthsRow.domain false) (Rows.dayMonthsSpec.post enc Try.prog Try.f9 false true false false) := by
  refine returnsInHanded_of_change (C := Try.checked) own started (by kernel_rfl) Try.func9
    (ChangeSpec.witness6 (enc := enc) (C := Try.checked) false ⟨#[], #[.int .u32 0, .int .u32 0, .int .u16 0, .bool false], []⟩ 8 (by kernel_rfl) (by kernel_rfl) (by kernel_rfl) (by kernel_rfl)) ?_
  intro W base args ds gs before hval0 hW hcnd _
  have hval : ∀ (j : Nat) t v, Try.f9.params[j]? = some t → args[j]? = some v → Value.okWide Try.prog W .any base t v := hval0
  have hW' := hW
  obtain ⟨p, q, hA0, hV, rfl, hfz, hnd⟩ := hW
  have hA : DataW.TrodAll enc Try.prog W 0 (fun _ => true) true Try.f9.params.toList args.toList ds p := hA0
  rw [Try.params9] at hA hval
  obtain ⟨v0, vs0, d0, ds0, p0, q0, hargs, rfl, rfl, h0, r0⟩ := trodAll_cons hA
  obtain ⟨v1, vs1, d1, ds1, p1, q1, rfl, rfl, rfl, h1, r1⟩ := trodAll_cons r0
  obtain ⟨v2, vs2, d2, ds2, p2, q2, rfl, rfl, rfl, h2, r2⟩ := trodAll_cons r1
  obtain ⟨v3, vs3, d3, ds3, p3, q3, rfl, rfl, rfl, h3, r3⟩ := trodAll_cons r2
  obtain ⟨rfl, rfl, rfl⟩ := trodAll_nil r3
  obtain rfl : args = #[v0, v1, v2, v3] := by cases args; simp_all
  obtain ⟨rfl, rfl⟩ := trodVars_none hV
  obtain ⟨x0, rfl, rfl, rfl, wx0⟩ := open_int Try.underlying32 (hval 0 32 v0 rfl rfl) h0
  obtain ⟨x1, rfl, rfl, rfl, wx1⟩ := open_int Try.underlying32 (hval 1 32 v1 rfl rfl) h1
  obtain ⟨x2, rfl, rfl, rfl, wx2⟩ := open_int Try.underlying39 (hval 2 39 v2 rfl rfl) h2
  obtain ⟨x3, rfl, rfl, rfl⟩ := open_bool Try.underlying4 (hval 3 4 v3 rfl rfl) h3
  refine (dayMonths_walk W x0 wx0 x1 wx1 x2 wx2 x3).mono fun e W' ⟨he, hb⟩ => ?_
  subst he
  exact ⟨_, rfl, law_post laidOut (by kernel_rfl) rfl Try.underlying4 rfl rfl hW' hb⟩

/-- THE STATEMENT. -/
theorem dayMonths_holds : Rows.DayMonthsSaid :=
  OpenClaim.holds_of_wide 9 Try.f9 rfl rfl rfl rfl rfl rfl rfl ⟨rfl, rfl, rfl, rfl, rfl⟩ rfl rfl rfl rfl rfl (by kernel_rfl) Try.func9 (by kernel_rfl)
    (of_decide_eq_true (by kernel_rfl)) (by unfold Func.isWrapper; first | (rw [if_pos (by decide +kernel)]; kernel_rfl) | (rw [if_neg (by decide +kernel)]; exact ⟨rfl, rfl⟩))
    (fun os started H enc _ => dayMonths_lifted os started H enc)
end Go.Proofs.Ytbkpflgceppkdaa
