/- Part 15 of the proof. -/
import Derived.Test.YtmfohnchnbgbaaaGreatTcM05
import Derived.Test.YtmfohnchnbgbaaaGreatTcM14
/- Sorting: two parts of one length change places; a part is turned round another. -/
namespace Go.Proofs.YtmfohnchnbgbaaaGreat
open Go.RowKit
section
variable {α : Type} {val : α → Stp} {w0 : World} {B g n cap : Nat}

set_option linter.unusedSimpArgs false in
set_option maxRecDepth 100000 in
set_option maxHeartbeats 4000000 in
theorem swrS_any (P X Y Z R : List α) (hl : X.length = Z.length) (a b m : Nat) (ha : a = P.length) (hb : b = a + X.length + Y.length) (hm : m = X.length) (f : Value) (w : World) (hs : SrtS val w0 B g n cap (P ++ (X ++ (Y ++ (Z ++ R)))) w) (hm1 : 1 ≤ m) :
    Calls Tryz.prog 210 #[.slice (some ⟨g, 0, none⟩) n cap, .int .i64 a, .int .i64 b, .int .i64 m, f] w fun e w' => e = .returned (.tuple #[]) ∧ SrtS val w0 B g n cap (P ++ (Z ++ (Y ++ (X ++ R)))) w' := by
  have hlen := hs.len
  simp only [List.length_append] at hlen
  have hcap := hs.own.cap_le
  have hmx : cap ≤ 9223372036854775807 := by have := hcap.2; simp [maxLen] at this; exact this
  have HS := hide hs
  have HA := hide ha
  have HM := hide hm
  have HBB := hide hb
  have HL := hide hl
  have hbn : b + m ≤ n := by omega
  have hab : a + m ≤ b := by omega
  clear hs ha hm hb hl hlen
  go_enter Tryz.func210, Tryz.ntmps210
  go_wp2_with fail
  go_loopw [10] (fun i wr => ∃ k : Nat, k ≤ m ∧ i = .int .i64 k ∧ SrtS val w0 B g n cap (mixS P X Y Z R k) wr) (fun i _ => m - (RowKit.intOf i).toNat)
  case atStart => exact ⟨0, Nat.zero_le _, rfl, by rw [mixS_zero]; exact HS.out⟩
  case round =>
    obtain ⟨k, hk, rfl, hr⟩ := hrel
    have HR := hide hr
    by_cases hlt : k < m
    · obtain ⟨x, hx⟩ := get_of (l := X) (k := k) (by rw [← HM.out]; exact hlt)
      obtain ⟨z, hz⟩ := get_of (l := Z) (k := k) (by rw [← HL.out, ← HM.out]; exact hlt)
      obtain ⟨e1, e2⟩ := mixS_at (P := P) (Y := Y) (R := R) hx hz
      rw [e1] at hr
      have E2 := hide e2
      obtain ⟨p, hp⟩ : ∃ p, a + k = p := ⟨_, rfl⟩
      obtain ⟨q, hq⟩ : ∃ q, b + k = q := ⟨_, rfl⟩
      have hl1 : p = (P ++ Z.take k).length := by
        have h1 := HL.out; have h2 := HM.out; have h3 := HA.out
        simp; omega
      have hl2 : q = (P ++ Z.take k).length + 1 + (X.drop (k + 1) ++ (Y ++ X.take k)).length := by
        have h1 := HL.out; have h2 := HM.out; have h3 := HA.out; have h4 := HBB.out
        simp; omega
      have hk0 : (0 : Int) ≤ (k : Int) := by omega
      have hk1 : (k : Int) < (m : Int) := by omega
      have hpi : (a : Int) + (k : Int) = (p : Int) := by omega
      have hqi : (b : Int) + (k : Int) = (q : Int) := by omega
      have hpn : (p : Int) < (n : Int) := by omega
      have hqn : (q : Int) < (n : Int) := by omega
      have hp0 : (0 : Int) ≤ (p : Int) := by omega
      have hq0 : (0 : Int) ≤ (q : Int) := by omega
      have hwp : IntKind.i64.wrap (p : Int) = (p : Int) := IntWalk.i64_in _ (by omega)
      have hwq : IntKind.i64.wrap (q : Int) = (q : Int) := IntWalk.i64_in _ (by omega)
      have hpq : p ≠ q := by omega
      have hqp : q ≠ p := by omega
      have c0 := hr.at (get_mid' hl1)
      have c1 := hr.at (i := q) (x := z) (by
        have e : (P ++ Z.take k) ++ x :: ((X.drop (k + 1) ++ (Y ++ X.take k)) ++ z :: (Z.drop (k + 1) ++ R)) = ((P ++ Z.take k) ++ x :: (X.drop (k + 1) ++ (Y ++ X.take k))) ++ z :: (Z.drop (k + 1) ++ R) := by simp
        rw [e]
        exact get_mid' (by rw [hl2]; simp; omega))
      have hsw := hr.drew.swap hl1 hl2
      rw [← e2] at hsw
      obtain ⟨WD, hWD⟩ : ∃ W, wr.drew = W := ⟨_, rfl⟩
      rw [hWD] at hsw
      simp only [put4] at hsw
      have dw0 : At4 WD g p (val x) := by rw [← hWD]; exact ⟨c0.a, c0.b, c0.c, c0.d⟩
      have dw1 : At4 WD g q (val z) := by rw [← hWD]; exact ⟨c1.a, c1.b, c1.c, c1.d⟩
      obtain ⟨d0, d1, d2, d3⟩ := dw0
      obtain ⟨d4, d5, d6, d7⟩ := dw1
      have f0 : WD.frozen? ⟨g, p * 4, none⟩ = false := by rw [← hWD]; exact hr.fz _
      have f1 : WD.frozen? ⟨g, p * 4 + 1, none⟩ = false := by rw [← hWD]; exact hr.fz _
      have f2 : WD.frozen? ⟨g, p * 4 + 2, none⟩ = false := by rw [← hWD]; exact hr.fz _
      have f3 : WD.frozen? ⟨g, p * 4 + 3, none⟩ = false := by rw [← hWD]; exact hr.fz _
      have f4 : WD.frozen? ⟨g, q * 4, none⟩ = false := by rw [← hWD]; exact hr.fz _
      have f5 : WD.frozen? ⟨g, q * 4 + 1, none⟩ = false := by rw [← hWD]; exact hr.fz _
      have f6 : WD.frozen? ⟨g, q * 4 + 2, none⟩ = false := by rw [← hWD]; exact hr.fz _
      have f7 : WD.frozen? ⟨g, q * 4 + 3, none⟩ = false := by rw [← hWD]; exact hr.fz _
      have HSW := hide hsw
      have hE0 : (fun W : World => W.cell? ⟨g, p * 4, none⟩ = some (.int .i64 (val x).f) ∧ W.cell? ⟨g, p * 4 + 1, none⟩ = some (.int .i64 (val x).b) ∧ W.cell? ⟨g, p * 4 + 2, none⟩ = some (.int .i64 (val x).k) ∧ W.cell? ⟨g, p * 4 + 3, none⟩ = some (.int .i64 (val x).m) ∧ W.cell? ⟨g, q * 4, none⟩ = some (.int .i64 (val z).f) ∧ W.cell? ⟨g, q * 4 + 1, none⟩ = some (.int .i64 (val z).b) ∧ W.cell? ⟨g, q * 4 + 2, none⟩ = some (.int .i64 (val z).k) ∧ W.cell? ⟨g, q * 4 + 3, none⟩ = some (.int .i64 (val z).m)) WD := ⟨d0, d1, d2, d3, d4, d5, d6, d7⟩
      simp only at hE0
      have HWD := hide hWD
      clear hr hx hz e1 e2 hp hq hl1 hl2 hsw hWD c0 c1
      go_wp2_with fail
      refine wp_region_T (fun W : World => W.cell? ⟨g, p * 4, none⟩ = some (.int .i64 (val x).f) ∧ W.cell? ⟨g, p * 4 + 1, none⟩ = some (.int .i64 (val x).b) ∧ W.cell? ⟨g, p * 4 + 2, none⟩ = some (.int .i64 (val x).k) ∧ W.cell? ⟨g, p * 4 + 3, none⟩ = some (.int .i64 (val x).m) ∧ W.cell? ⟨g, q * 4, none⟩ = some (.int .i64 (val z).f) ∧ W.cell? ⟨g, q * 4 + 1, none⟩ = some (.int .i64 (val z).b) ∧ W.cell? ⟨g, q * 4 + 2, none⟩ = some (.int .i64 (val z).k) ∧ W.cell? ⟨g, q * 4 + 3, none⟩ = some (.int .i64 (val z).m)) [0, 1, 2, 3, 4, 5, 6, 7, 8, 9, 10, 11, 12, 14, 15, 16, 17, 18, 20, 21, 22, 23] rfl (by kernel_rfl) ?_
      rw [HWD.out]
      refine wpAnyT_take0 (i := 0) (v := ?_) rfl (by kernel_rfl) (by kernel_rfl) (by kernel_rfl) (by kernel_rfl) (fun _ _ _ h => h) (Or.inl ⟨by rfl, ?_⟩) ?_
      rotate_left
      · intro W hSW
        go_simp
        try with_reducible rfl
      simp only [Act.put, List.setIfInBounds_toArray, List.set_cons_zero, List.set_cons_succ]
      refine wpAnyT_take0 (i := 1) (v := ?_) rfl (by kernel_rfl) (by kernel_rfl) (by kernel_rfl) (by kernel_rfl) (fun _ _ _ h => h) (Or.inl ⟨by rfl, ?_⟩) ?_
      rotate_left
      · intro W hSW
        go_simp
        try with_reducible rfl
      simp only [Act.put, List.setIfInBounds_toArray, List.set_cons_zero, List.set_cons_succ]
      refine wpAnyT_take0 (i := 2) (v := ?_) rfl (by kernel_rfl) (by kernel_rfl) (by kernel_rfl) (by kernel_rfl) (fun _ _ _ h => h) (Or.inl ⟨by rfl, ?_⟩) ?_
      rotate_left
      · intro W hSW
        go_simp
        try with_reducible rfl
      simp only [Act.put, List.setIfInBounds_toArray, List.set_cons_zero, List.set_cons_succ]
      refine wpAnyT_take0 (i := 4) (v := ?_) rfl (by kernel_rfl) (by kernel_rfl) (by kernel_rfl) (by kernel_rfl) (fun _ _ _ h => h) (Or.inl ⟨by rfl, ?_⟩) ?_
      rotate_left
      · intro W hSW
        go_simp
        try with_reducible rfl
      simp only [Act.put, List.setIfInBounds_toArray, List.set_cons_zero, List.set_cons_succ]
      refine wpAnyT_take0 (i := 5) (v := ?_) rfl (by kernel_rfl) (by kernel_rfl) (by kernel_rfl) (by kernel_rfl) (fun _ _ _ h => h) (Or.inl ⟨by rfl, ?_⟩) ?_
      rotate_left
      · intro W hSW
        go_simp
        try with_reducible rfl
      simp only [Act.put, List.setIfInBounds_toArray, List.set_cons_zero, List.set_cons_succ]
      refine wpAnyT_take0 (i := 6) (v := ?_) rfl (by kernel_rfl) (by kernel_rfl) (by kernel_rfl) (by kernel_rfl) (fun _ _ _ h => h) (Or.inl ⟨by rfl, ?_⟩) ?_
      rotate_left
      · intro W hSW
        go_simp
        try with_reducible rfl
      simp only [Act.put, List.setIfInBounds_toArray, List.set_cons_zero, List.set_cons_succ]
      refine wpAnyT_take0 (i := 8) (v := ?_) rfl (by kernel_rfl) (by kernel_rfl) (by kernel_rfl) (by kernel_rfl) (fun _ _ _ h => h) (Or.inl ⟨by rfl, ?_⟩) ?_
      rotate_left
      · intro W hSW
        go_simp
        try with_reducible rfl
      simp only [Act.put, List.setIfInBounds_toArray, List.set_cons_zero, List.set_cons_succ]
      refine wpAnyT_take0 (i := 9) (v := ?_) rfl (by kernel_rfl) (by kernel_rfl) (by kernel_rfl) (by kernel_rfl) (fun _ _ _ h => h) (Or.inl ⟨by rfl, ?_⟩) ?_
      rotate_left
      · intro W hSW
        go_simp
        try with_reducible rfl
      simp only [Act.put, List.setIfInBounds_toArray, List.set_cons_zero, List.set_cons_succ]
      refine wpAnyT_take0 (i := 10) (v := ?_) rfl (by kernel_rfl) (by kernel_rfl) (by kernel_rfl) (by kernel_rfl) (fun _ _ _ h => h) (Or.inl ⟨by rfl, ?_⟩) ?_
      rotate_left
      · intro W hSW
        go_simp
        try with_reducible rfl
      simp only [Act.put, List.setIfInBounds_toArray, List.set_cons_zero, List.set_cons_succ]
      refine wpAnyT_take0 (i := 14) (v := ?_) rfl (by kernel_rfl) (by kernel_rfl) (by kernel_rfl) (by kernel_rfl) (fun _ _ _ h => h) (Or.inl ⟨by rfl, ?_⟩) ?_
      rotate_left
      · intro W hSW
        go_simp
        try with_reducible rfl
      simp only [Act.put, List.setIfInBounds_toArray, List.set_cons_zero, List.set_cons_succ]
      refine wpAnyT_take0 (i := 15) (v := ?_) rfl (by kernel_rfl) (by kernel_rfl) (by kernel_rfl) (by kernel_rfl) (fun _ _ _ h => h) (Or.inl ⟨by rfl, ?_⟩) ?_
      rotate_left
      · intro W hSW
        go_simp
        try with_reducible rfl
      simp only [Act.put, List.setIfInBounds_toArray, List.set_cons_zero, List.set_cons_succ]
      refine wpAnyT_take0 (i := 16) (v := ?_) rfl (by kernel_rfl) (by kernel_rfl) (by kernel_rfl) (by kernel_rfl) (fun _ _ _ h => h) (Or.inl ⟨by rfl, ?_⟩) ?_
      rotate_left
      · intro W hSW
        go_simp
        try with_reducible rfl
      simp only [Act.put, List.setIfInBounds_toArray, List.set_cons_zero, List.set_cons_succ]
      refine wpAnyT_take0 (i := 3) (v := ?_) rfl (by kernel_rfl) (by kernel_rfl) (by kernel_rfl) (by kernel_rfl) (fun _ _ _ h => h) (Or.inl ⟨by rfl, ?_⟩) ?_
      rotate_left
      · intro W hSW
        go_simp
        try with_reducible rfl
      simp only [Act.put, List.setIfInBounds_toArray, List.set_cons_zero, List.set_cons_succ]
      refine wpAnyT_take0 (i := 7) (v := ?_) rfl (by kernel_rfl) (by kernel_rfl) (by kernel_rfl) (by kernel_rfl) (fun _ _ _ h => h) (Or.inl ⟨by rfl, ?_⟩) ?_
      rotate_left
      · intro W hSW
        go_simp
        try with_reducible rfl
      simp only [Act.put, List.setIfInBounds_toArray, List.set_cons_zero, List.set_cons_succ]
      refine wpAnyT_take0 (i := 11) (v := ?_) rfl (by kernel_rfl) (by kernel_rfl) (by kernel_rfl) (by kernel_rfl) (fun _ _ _ h => h) (Or.inl ⟨by rfl, ?_⟩) ?_
      rotate_left
      · intro W hSW
        go_simp
        try with_reducible rfl
      simp only [Act.put, List.setIfInBounds_toArray, List.set_cons_zero, List.set_cons_succ]
      refine wpAnyT_take0 (i := 17) (v := ?_) rfl (by kernel_rfl) (by kernel_rfl) (by kernel_rfl) (by kernel_rfl) (fun _ _ _ h => h) (Or.inl ⟨by rfl, ?_⟩) ?_
      rotate_left
      · intro W hSW
        go_simp
        try with_reducible rfl
      simp only [Act.put, List.setIfInBounds_toArray, List.set_cons_zero, List.set_cons_succ]
      refine wpAnyT_take0 (i := 12) (v := ?_) rfl (by kernel_rfl) (by kernel_rfl) (by kernel_rfl) (by kernel_rfl) (fun _ _ _ h => h) (Or.inl ⟨by rfl, ?_⟩) ?_
      rotate_left
      · intro W hSW
        go_simp
        try with_reducible rfl
      simp only [Act.put, List.setIfInBounds_toArray, List.set_cons_zero, List.set_cons_succ]
      refine wpAnyT_take0 (i := 18) (v := ?_) rfl (by kernel_rfl) (by kernel_rfl) (by kernel_rfl) (by kernel_rfl) (fun _ _ _ h => h) (Or.inl ⟨by rfl, ?_⟩) ?_
      rotate_left
      · intro W hSW
        go_simp
        try with_reducible rfl
      simp only [Act.put, List.setIfInBounds_toArray, List.set_cons_zero, List.set_cons_succ]
      refine wpAnyT_take (i := 13) (v := ?_) rfl (by kernel_rfl) (by kernel_rfl) (by kernel_rfl) (by kernel_rfl) (fun _ _ _ h => h) (Or.inl ⟨by rfl, ?_⟩) hE0 ?_
      rotate_left
      · intro W hSW
        obtain ⟨hs0, hs1, hs2, hs3, hs4, hs5, hs6, hs7⟩ := hSW
        go_simp
        try with_reducible rfl
      simp only [Act.put, List.setIfInBounds_toArray, List.set_cons_zero, List.set_cons_succ]
      refine wpAnyT_take (i := 19) (v := ?_) rfl (by kernel_rfl) (by kernel_rfl) (by kernel_rfl) (by kernel_rfl) (fun _ _ _ h => h) (Or.inl ⟨by rfl, ?_⟩) hE0 ?_
      rotate_left
      · intro W hSW
        obtain ⟨hs0, hs1, hs2, hs3, hs4, hs5, hs6, hs7⟩ := hSW
        go_simp
        try with_reducible rfl
      simp only [Act.put, List.setIfInBounds_toArray, List.set_cons_zero, List.set_cons_succ]
      refine wpAnyT_take0 (i := 20) (v := ?_) rfl (by kernel_rfl) (by kernel_rfl) (by kernel_rfl) (by kernel_rfl) (fun _ _ _ h => h) (Or.inl ⟨by rfl, ?_⟩) ?_
      rotate_left
      · intro W hSW
        go_simp
        try with_reducible rfl
      simp only [Act.put, List.setIfInBounds_toArray, List.set_cons_zero, List.set_cons_succ]
      refine wpAnyT_ready (rs := [21]) (by kernel_rfl) (by simp) ?_
      refine AllReadyT.cons rfl (fun K hK => ?_) ?_
      · go_simp
        refine hK.out _ _ (fun h => by cases h) ?_
        try simp only [Act.put, List.setIfInBounds_toArray, List.set_cons_zero, List.set_cons_succ]
        clear hK K
        refine wpAnyT_take0 (i := 22) (v := ?_) rfl (by kernel_rfl) (by kernel_rfl) (by kernel_rfl) (by kernel_rfl) (fun _ _ _ h => h) (Or.inl ⟨by rfl, ?_⟩) ?_
        rotate_left
        · intro W hSW
          go_simp
          try with_reducible rfl
        simp only [Act.put, List.setIfInBounds_toArray, List.set_cons_zero, List.set_cons_succ]
        refine wpAnyT_ready (rs := [23]) (by kernel_rfl) (by simp) ?_
        refine AllReadyT.cons rfl (fun K hK => ?_) ?_
        · go_simp
          refine hK.out _ _ (fun h => by cases h) ?_
          try simp only [Act.put, List.setIfInBounds_toArray, List.set_cons_zero, List.set_cons_succ]
          clear hK K
          refine wpAnyT_done (by kernel_rfl) ?_ _
          clear hE0 d0 d1 d2 d3 d4 d5 d6 d7 f0 f1 f2 f3 f4 f5 f6 f7
          go_wp2_with fail
          go_roundw
          case rel => exact ⟨k + 1, by omega, by go_num, HSW.out⟩
          case measure => simp [RowKit.intOf]; omega
        exact AllReadyT.nil
      exact AllReadyT.nil
    · obtain rfl : m = k := by omega
      clear hr
      go_wp2_with fail
      go_end0
      have := HR.out
      rw [HM.out, mixS_end HL.out] at this
      exact ⟨rfl, this⟩

set_option maxRecDepth 100000 in
set_option maxHeartbeats 4000000 in
theorem rotS_any (P A C R : List α) (a m b : Nat) (ha : a = P.length) (hm : m = a + A.length) (hb : b = m + C.length) (hA : 1 ≤ A.length) (hC : 1 ≤ C.length) (f : Value) (w : World) (hs : SrtS val w0 B g n cap (P ++ (A ++ (C ++ R))) w) (hn : n ≤ 1000000) :
    Calls Tryz.prog 200 #[.slice (some ⟨g, 0, none⟩) n cap, .int .i64 a, .int .i64 m, .int .i64 b, f] w fun e w' => e = .returned (.tuple #[]) ∧ SrtS val w0 B g n cap (P ++ (C ++ (A ++ R))) w' := by
  have hlen := hs.len
  simp only [List.length_append] at hlen
  have HS := hide hs
  have HH := hide (show a = P.length ∧ m = a + A.length ∧ b = m + C.length from ⟨ha, hm, hb⟩)
  have HHA := hide hA
  have HHC := hide hC
  have hmi : (m : Int) - (a : Int) = (A.length : Int) := by omega
  have hbi : (b : Int) - (m : Int) = (C.length : Int) := by omega
  have hmn : m ≤ n := by omega
  obtain ⟨i0, hi0⟩ : ∃ i, A.length = i := ⟨_, rfl⟩
  obtain ⟨j0, hj0⟩ : ∃ j, C.length = j := ⟨_, rfl⟩
  rw [hi0] at hmi
  rw [hj0] at hbi
  have hb63 : b ≤ 1000000 := by omega
  have HI0 := hide hi0
  have HJ0 := hide hj0
  have hi01 : 1 ≤ i0 := by omega
  have hj01 : 1 ≤ j0 := by omega
  clear hs ha hm hb hA hC hlen hi0 hj0
  go_enter Tryz.func200, Tryz.ntmps200
  go_wp2_with fail
  go_loopw [10, 11] (fun p q wr => ∃ (i j : Nat) (P' A' C' R' : List α), 1 ≤ i ∧ 1 ≤ j ∧ p = .int .i64 i ∧ q = .int .i64 j ∧ Hid (A'.length = i ∧ C'.length = j ∧ m = P'.length + i) ∧ Hid (P' ++ (C' ++ (A' ++ R')) = P ++ (C ++ (A ++ R))) ∧ SrtS val w0 B g n cap (P' ++ (A' ++ (C' ++ R'))) wr) (fun p q _ => (RowKit.intOf p + RowKit.intOf q).toNat)
  case atStart => exact ⟨i0, j0, P, A, C, R, hi01, hj01, rfl, rfl, hide ⟨HI0.out, HJ0.out, by have := HH.out; have := HI0.out; omega⟩, hide rfl, HS.out⟩
  case round =>
    obtain ⟨i, j, P', A', C', R', hi1, hj1, rfl, rfl, hL, hT, hr⟩ := hrel
    have HR := hide hr
    have hlen := hr.len
    simp only [List.length_append] at hlen
    obtain ⟨pa, hpa⟩ : ∃ pa, P'.length = pa := ⟨_, rfl⟩
    have HPA := hide hpa
    have hml : m = pa + i := by have := hL.out; omega
    have hjn : m + j ≤ n := by have := hL.out; omega
    have hpi : (m : Int) - (i : Int) = (pa : Int) := by omega
    clear hr hlen hpa hml
    rcases (show i = j ∨ (i ≠ j ∧ j < i) ∨ (i ≠ j ∧ i < j) by omega) with hij | ⟨hij, hlt⟩ | ⟨hij, hlt⟩
    · subst hij
      have hbn : ((i : Int) != (i : Int)) = false := by simp
      have hsw := swrS_any (val := val) (w0 := w0) (B := B) (g := g) (n := n) (cap := cap) P' A' [] C' R' (by have := hL.out; omega) pa m i (by have := HPA.out; omega) (by have := hL.out; simp; omega) (by have := hL.out; omega) f
      simp only [List.nil_append] at hsw
      have HSW := hide hsw
      clear hsw
      go_wp2_with fail
      refine (HSW.out _ HR.out hi1).mono ?_
      rintro e w' ⟨rfl, hr2⟩
      rw [hT.out] at hr2
      have HR2 := hide hr2
      clear hr2
      go_wp2_with fail
      go_end0
      exact ⟨rfl, HR2.out⟩
    · have hbn : ((i : Int) != (j : Int)) = true := by simp; omega
      have hji : (j : Int) < (i : Int) := by omega
      have hsw := swrS_any (val := val) (w0 := w0) (B := B) (g := g) (n := n) (cap := cap) P' (A'.take j) (A'.drop j) C' R' (by have := hL.out; simp; omega) pa m j (by have := HPA.out; omega) (by have := hL.out; simp; omega) (by have := hL.out; simp; omega) f
      have HSW := hide hsw
      have hr2 := HR.out
      have hsp : P' ++ (A' ++ (C' ++ R')) = P' ++ (A'.take j ++ (A'.drop j ++ (C' ++ R'))) := by rw [← List.append_assoc (A'.take j), List.take_append_drop]
      rw [hsp] at hr2
      have HR2 := hide hr2
      clear hsw hr2 hsp
      go_wp2_with fail
      refine (HSW.out _ HR2.out hj1).mono ?_
      rintro e w' ⟨rfl, hr3⟩
      have HR3 := hide hr3
      clear hr3
      go_wp2_with fail
      go_roundw
      case rel => exact ⟨i - j, j, P' ++ C', A'.drop j, A'.take j, R', by omega, hj1, by go_num, rfl, hide ⟨by have := hL.out; simp; omega, by have := hL.out; simp; omega, by have := hL.out; have := HPA.out; simp; omega⟩,
        hide (by rw [← hT.out, List.append_assoc, ← List.append_assoc (A'.take j), List.take_append_drop]), by rw [List.append_assoc]; exact HR3.out⟩
      case measure => simp [RowKit.intOf]; omega
    · have hbn : ((i : Int) != (j : Int)) = true := by simp; omega
      have hji : ¬ (j : Int) < (i : Int) := by omega
      obtain ⟨pb, hpb⟩ : ∃ pb, m + j - i = pb := ⟨_, rfl⟩
      have hpbi : (m : Int) + (j : Int) - (i : Int) = (pb : Int) := by omega
      have hsw := swrS_any (val := val) (w0 := w0) (B := B) (g := g) (n := n) (cap := cap) P' A' (C'.take (j - i)) (C'.drop (j - i)) R' (by have := hL.out; simp; omega) pa pb i (by have := HPA.out; omega) (by have := hL.out; simp; omega) (by have := hL.out; omega) f
      have HSW := hide hsw
      have hr2 := HR.out
      have hsp : P' ++ (A' ++ (C' ++ R')) = P' ++ (A' ++ (C'.take (j - i) ++ (C'.drop (j - i) ++ R'))) := by rw [← List.append_assoc (C'.take (j - i)), List.take_append_drop]
      rw [hsp] at hr2
      have HR2 := hide hr2
      clear hsw hr2 hsp hpb
      go_wp2_with fail
      refine (HSW.out _ HR2.out hi1).mono ?_
      rintro e w' ⟨rfl, hr3⟩
      have HR3 := hide hr3
      clear hr3
      go_wp2_with fail
      go_roundw
      case rel => exact ⟨i, j - i, P', C'.drop (j - i), C'.take (j - i), A' ++ R', hi1, by omega, rfl, by go_num, hide ⟨by have := hL.out; simp; omega, by have := hL.out; simp; omega, by have := hL.out; have := HPA.out; omega⟩,
        hide (by rw [← hT.out, ← List.append_assoc (C'.take (j - i)), List.take_append_drop]), HR3.out⟩
      case measure => simp [RowKit.intOf]; omega
end
end Go.Proofs.YtmfohnchnbgbaaaGreat

/- Sorting: an insertion sort of a part, by the days of changes. -/
namespace Go.Proofs.YtmfohnchnbgbaaaGreat
open Go.RowKit
section
variable {α : Type}
/-- An order of elements that have places. -/
structure OrdL (lt : α → α → Prop) (pos : α → Nat) : Prop where
  trans : ∀ x y z, lt x y → lt y z → lt x z
  total : ∀ x y, pos x ≠ pos y → ¬ lt x y → lt y x
theorem ins_done {lt : α → α → Prop} {S1 S2 : List α} {x : α} (ht : ∀ x y z, lt x y → lt y z → lt x z) (hS : (S1 ++ S2).Pairwise lt) (h2 : ∀ z ∈ S2, lt x z) (h1 : ∀ y, S1.getLast? = some y → lt y x) : (S1 ++ x :: S2).Pairwise lt := by
  rw [List.pairwise_append] at hS ⊢
  obtain ⟨a, b, c⟩ := hS
  refine ⟨a, List.pairwise_cons.2 ⟨h2, b⟩, fun y hy z hz => ?_⟩
  have hyx : lt y x := by
    rcases nil_or_snoc S1 with rfl | ⟨T, l, rfl⟩
    · simp at hy
    · have hl := h1 l (by simp)
      rcases List.mem_append.1 hy with h | h
      · rw [List.pairwise_append] at a
        exact ht _ _ _ (a.2.2 y h l (by simp)) hl
      · simp at h; subst h; exact hl
  rcases List.mem_cons.1 hz with rfl | hz
  · exact hyx
  · exact c y hy z hz
variable {val : α → Int} {w0 : World} {B g n cap : Nat}
/-- What is asked of the comparison: it tells of a later one and an earlier one whether the later one is less. -/
structure CmpZ (val : α → Int) (lt : α → α → Prop) (pos : α → Nat) (U : α → Prop) (w0 : World) (g H : Nat) (cf : α → α → Int) : Prop where
  calls : ∀ W, w0.grownBy W (some g) → ∀ x y, U x → U y → Calls Tryz.prog 150 #[.int .i64 (val x), .int .i64 (val y), .pointer (some ⟨H, 0, none⟩)] W fun e w' => e = .returned (.int .i64 (cf x y)) ∧ Below W.heap.size W w'
  less : ∀ x y, U x → U y → pos y < pos x → (cf x y < 0 ↔ lt x y)
  bd : ∀ x y, -1 ≤ cf x y ∧ cf x y ≤ 1
  ord : OrdL lt pos
end
end Go.Proofs.YtmfohnchnbgbaaaGreat
