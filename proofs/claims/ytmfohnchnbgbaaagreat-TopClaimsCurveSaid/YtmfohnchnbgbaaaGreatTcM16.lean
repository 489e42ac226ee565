/- Part 16 of the proof. -/
import Derived.Test.YtmfohnchnbgbaaaGreatTcM15
/- Sorting: an insertion sort of a part, by the days of changes. -/
namespace Go.Proofs.YtmfohnchnbgbaaaGreat
open Go.RowKit
section
variable {α : Type}
variable {val : α → Stp} {w0 : World} {B g n cap : Nat}
/-- What is asked of the comparison: it tells of a later one and an earlier one whether the later one is less. -/
structure CmpS (val : α → Stp) (lt : α → α → Prop) (pos : α → Nat) (U : α → Prop) (cf : α → α → Int) : Prop where
  calls : ∀ (W : World) (x y : α), U x → U y → Calls Tryz.prog 63 #[.agg #[.int .i64 (val x).f, .int .i64 (val x).b, .int .i64 (val x).k, .int .i64 (val x).m], .agg #[.int .i64 (val y).f, .int .i64 (val y).b, .int .i64 (val y).k, .int .i64 (val y).m]] W fun e w' => e = .returned (.int .i64 (cf x y)) ∧ Below W.heap.size W w'
  less : ∀ x y, U x → U y → pos y < pos x → (cf x y < 0 ↔ lt x y)
  bd : ∀ x y, -1 ≤ cf x y ∧ cf x y ≤ 1
  ord : OrdL lt pos

set_option linter.unusedSimpArgs false in
set_option maxRecDepth 100000 in
set_option maxHeartbeats 4000000 in
theorem insS_any {lt : α → α → Prop} {pos : α → Nat} {U : α → Prop} {cf : α → α → Int} (hc : CmpS val lt pos U cf) (P D R : List α) (a b : Nat) (ha : a = P.length) (hb : b = a + D.length) (hD : D.Pairwise fun x y => pos x < pos y) (hU : ∀ x ∈ D, U x) (hD1 : 1 ≤ D.length) (w : World) (hs : SrtS val w0 B g n cap (P ++ (D ++ R)) w) :
    Calls Tryz.prog 174 #[.slice (some ⟨g, 0, none⟩) n cap, .int .i64 a, .int .i64 b, .func (.func 63) #[] #[]] w fun e w' => e = .returned (.tuple #[]) ∧ ∃ S : List α, S.Perm D ∧ S.Pairwise lt ∧ SrtS val w0 B g n cap (P ++ (S ++ R)) w' := by
  have hlen := hs.len
  simp only [List.length_append] at hlen
  have hcap := hs.own.cap_le
  have hmx : cap ≤ 9223372036854775807 := by have := hcap.2; simp [maxLen] at this; exact this
  have HS := hide hs
  have HA := hide ha
  have HB := hide hb
  have HC := hide hc
  have HD := hide hD
  have HU := hide hU
  have hbn : b ≤ n := by omega
  have hab : a + 1 ≤ b := by omega
  obtain ⟨d0, hd0⟩ := get_of (l := D) (k := 0) hD1
  have HD0 := hide hd0
  clear hs ha hb hc hD hU hlen hd0
  go_enter Tryz.func174, Tryz.ntmps174
  go_wp2_with fail
  go_loopw [8] (fun q wr => ∃ (c : Nat) (S : List α), q = .int .i64 c ∧ a + 1 ≤ c ∧ c ≤ b ∧ Hid (c = a + S.length ∧ S.Perm (D.take S.length) ∧ S.Pairwise lt) ∧ SrtS val w0 B g n cap (P ++ (S ++ (D.drop S.length ++ R))) wr) (fun q _ => b - (RowKit.intOf q).toNat)
  case atStart =>
    refine ⟨a + 1, [d0], by go_num, Nat.le_refl _, hab, hide ⟨by simp, by show [d0].Perm (D.take (0 + 1)); rw [take_of HD0.out]; simp, by simp⟩, ?_⟩
    have e : [d0] ++ (D.drop [d0].length ++ R) = D ++ R := by
      rw [← List.append_assoc]; congr 1
      have := drop_of (l := D) (k := 0) HD0.out
      simpa using this.symm
    rw [e]; exact HS.out
  case round =>
    obtain ⟨c, S, rfl, hc1, hc2, hL, hr⟩ := hrel
    rename World => W0
    have HR := hide hr
    have HL := hL
    by_cases hlt : c < b
    · obtain ⟨x, hx⟩ := get_of (l := D) (k := S.length) (by have := hL.out; have := HB.out; omega)
      have hk0 : (0 : Int) ≤ (c : Int) := by omega
      have hk1 : (c : Int) < (b : Int) := by omega
      have HX := hide hx
      have HP0 := hide (show SrtS val w0 B g n cap (P ++ (S ++ x :: ([] ++ (D.drop (S.length + 1) ++ R)))) W0 by
        rw [drop_of hx] at hr
        exact hr)
      have hpx : ∀ y ∈ S, U y ∧ pos y < pos x := fun y hy => by
        have h1 : y ∈ D.take S.length := hL.out.2.1.mem_iff.1 hy
        have h2 := HD.out
        rw [← List.take_append_drop S.length D, List.pairwise_append] at h2
        refine ⟨HU.out y (List.mem_of_mem_take h1), h2.2.2 y h1 x ?_⟩
        rw [drop_of hx]; exact List.mem_cons_self
      have HPX := hide hpx
      have hux : U x := HU.out x (List.mem_of_getElem? hx)
      clear hr hx hpx
      go_wp2_with fail
      go_loopw [9] (fun q ws => ∃ (j : Nat) (S1 S2 : List α), q = .int .i64 j ∧ a ≤ j ∧ j ≤ c ∧ Hid (j = a + S1.length ∧ S = S1 ++ S2 ∧ ∀ z ∈ S2, lt x z) ∧ SrtS val w0 B g n cap (P ++ (S1 ++ x :: (S2 ++ (D.drop (S.length + 1) ++ R)))) ws) (fun q _ => (RowKit.intOf q).toNat)
      case atStart => exact ⟨c, S, [], rfl, by omega, Nat.le_refl _, hide ⟨hL.out.1, by simp, by simp⟩, HP0.out⟩
      case round =>
        obtain ⟨j, S1, S2, rfl, hj1, hj2, hLj, hrj⟩ := hrel
        have HRJ := hide hrj
        have hout : (∀ y, S1.getLast? = some y → lt y x) → Hid (c + 1 = a + (S1 ++ x :: S2).length ∧ (S1 ++ x :: S2).Perm (D.take (S1 ++ x :: S2).length) ∧ (S1 ++ x :: S2).Pairwise lt) ∧ ∀ ws', SrtS val w0 B g n cap (P ++ (S1 ++ x :: (S2 ++ (D.drop (S.length + 1) ++ R)))) ws' → SrtS val w0 B g n cap (P ++ ((S1 ++ x :: S2) ++ (D.drop (S1 ++ x :: S2).length ++ R))) ws' := fun h1 => by
          obtain ⟨l1, l2, l3⟩ := hLj.out
          obtain ⟨m1, m2, m3⟩ := HL.out
          have hl : (S1 ++ x :: S2).length = S.length + 1 := by rw [l2]; simp; omega
          refine ⟨hide ⟨by omega, ?_, ins_done HC.out.ord.trans (by rw [← l2]; exact m3) l3 h1⟩, fun ws' hw => ?_⟩
          · rw [hl, take_of HX.out]
            refine (perm_mid S1 x S2).trans ?_
            rw [← l2]
            exact ((List.Perm.cons x m2)).trans (List.perm_append_singleton x _).symm
          · rw [hl]; simpa using hw
        have HOUT := hide hout
        clear hout
        by_cases hja : j = a
        · have hs1 : S1 = [] := List.eq_nil_of_length_eq_zero (by have := hLj.out.1; omega)
          have hga : ¬ (a : Int) < (j : Int) := by omega
          have HS1 := hide hs1
          have HJA := hide hja
          have hgd : decide (a < j) = false := by simp; omega
          clear hrj hs1 hja
          go_wp2_with fail
          refine wp_region_class (fun W => Below wr.heap.size wr W) (by kernel_rfl) (by kernel_rfl) (Below.refl _ _).drew ?_
          repeat (first
            | go_big_quiet_skip
            | (go_big_quiet_want
               first
                 | (go_big_quiet_op
                    go_big_quiet_on)
                 | (refine quiet_yield (v := ?_) ?_ ?_
                    rotate_left
                    · intro W hW
                      clear hW
                      go_simp
                      try with_reducible rfl
                    simp only [Act.put, List.setIfInBounds_toArray, List.set_cons_zero, List.set_cons_succ]
                    go_big_quiet_on)))
          refine wpQuiet_nil ?_
          intro W hW
          have HW := hide hW
          clear hW
          go_wp2_with fail
          go_roundw
          case rel =>
            obtain ⟨o1, o2⟩ := HOUT.out (fun y hy => by rw [HS1.out] at hy; simp at hy)
            exact ⟨c + 1, S1 ++ x :: S2, by go_num, by omega, by omega, o1, o2 _ (HRJ.out.below HW.out)⟩
          case measure => simp [RowKit.intOf]; omega
        · have hga : (a : Int) < (j : Int) := by omega
          obtain ⟨T, y, hS1⟩ : ∃ (T : List α) (y : α), S1 = T ++ [y] := by
            rcases nil_or_snoc S1 with h | h
            · have := hLj.out.1; rw [h] at this; simp at this; omega
            · exact h
          have hl1 : j - 1 = (P ++ T).length := by
            have h1 := hLj.out.1; have h2 := HA.out
            rw [hS1] at h1; simp at h1 ⊢; omega
          have hrj2 : SrtS val w0 B g n cap ((P ++ T) ++ y :: ([] ++ x :: (S2 ++ (D.drop (S.length + 1) ++ R)))) wr := by
            rw [hS1] at hrj
            simpa using hrj
          obtain ⟨p, hp⟩ : ∃ p, j - 1 = p := ⟨_, rfl⟩
          rw [hp] at hl1
          have hjp : j = p + 1 := by omega
          have c0 := hrj2.at (get_mid' hl1)
          have c1 := hrj2.at (i := p + 1) (x := x) (by
            have e : (P ++ T) ++ y :: ([] ++ x :: (S2 ++ (D.drop (S.length + 1) ++ R))) = ((P ++ T) ++ [y]) ++ x :: (S2 ++ (D.drop (S.length + 1) ++ R)) := by simp
            rw [e]
            exact get_mid' (by rw [hl1]; simp; try omega))
          have hyS : y ∈ S := by rw [hLj.out.2.1, hS1]; simp
          obtain ⟨huy, hpy⟩ := HPX.out y hyS
          have hcl : ∀ W, Below wr.heap.size wr W → Calls Tryz.prog 63 #[.agg #[.int .i64 (val x).f, .int .i64 (val x).b, .int .i64 (val x).k, .int .i64 (val x).m], .agg #[.int .i64 (val y).f, .int .i64 (val y).b, .int .i64 (val y).k, .int .i64 (val y).m]] W fun e w' => e = .returned (.int .i64 (cf x y)) ∧ Below wr.heap.size wr w' := fun W hW =>
            (HC.out.calls W x y hux huy).mono fun e w' h => ⟨h.1, chain hW h.2⟩
          have HCL := hide hcl
          have hls := HC.out.less x y hux huy hpy
          have HLS := hide hls
          have hbd := HC.out.bd x y
          have hsw := hrj2.drew
          have hp0 : (0 : Int) ≤ (p : Int) := by omega
          have hp1 : (p : Int) < (n : Int) := by omega
          have hj0 : (0 : Int) ≤ (p : Int) + 1 := by omega
          have hj3 : (p : Int) + 1 < (n : Int) := by omega
          have hga2 : (a : Int) < (p : Int) + 1 := by omega
          have HR2 := hide hrj2
          have HL1 := hide hl1
          have HS1 := hide hS1
          obtain ⟨v, hv⟩ : ∃ v, cf x y = v := ⟨_, rfl⟩
          rw [hv] at hbd HCL HLS
          subst hjp
          have hgd : decide ((a : Int) < (p : Int) + 1) = true := by simpa using hga2
          have hwp : IntKind.i64.wrap (p : Int) = (p : Int) := IntWalk.i64_in _ (by have := hcap.1; omega)
          have hgd2 : decide (a < p + 1) = true := by simp; omega
          clear hrj hrj2 hcl hls hsw hl1 hS1 hp hga hv hja
          obtain ⟨c00, c01, c02, c03⟩ := c0
          obtain ⟨c10, c11, c12, c13⟩ := c1
          go_wp2_with fail
          refine wp_region_class (fun W => Below wr.heap.size wr W) (by kernel_rfl) (by kernel_rfl) (Below.refl _ _).drew ?_
          repeat (first
            | go_big_quiet_skip
            | (go_big_quiet_want
               first
                 | (go_big_quiet_op
                    go_big_quiet_on)
                 | (refine quiet_call (v := .int .i64 v) (f := 63) (args := #[.agg #[.int .i64 (val x).f, .int .i64 (val x).b, .int .i64 (val x).k, .int .i64 (val x).m], .agg #[.int .i64 (val y).f, .int .i64 (val y).b, .int .i64 (val y).k, .int .i64 (val y).m]]) ?_ ?_ ?_
                    · intro W hW
                      have c00 := kept hW c00
                      have c01 := kept hW c01
                      have c02 := kept hW c02
                      have c03 := kept hW c03
                      have c10 := kept hW c10
                      have c11 := kept hW c11
                      have c12 := kept hW c12
                      have c13 := kept hW c13
                      clear hW
                      go_simp
                      done
                    · intro W hW
                      exact HCL.out W hW
                    simp only [Act.put, List.setIfInBounds_toArray, List.set_cons_zero, List.set_cons_succ]
                    go_big_quiet_on)
                 | (refine quiet_yield (v := ?_) ?_ ?_
                    rotate_left
                    · intro W hW
                      have c00 := kept hW c00
                      have c01 := kept hW c01
                      have c02 := kept hW c02
                      have c03 := kept hW c03
                      have c10 := kept hW c10
                      have c11 := kept hW c11
                      have c12 := kept hW c12
                      have c13 := kept hW c13
                      clear hW
                      go_simp
                      try with_reducible rfl
                    simp only [Act.put, List.setIfInBounds_toArray, List.set_cons_zero, List.set_cons_succ]
                    go_big_quiet_on)))
          refine wpQuiet_nil ?_
          intro W hW
          have HW := hide hW
          have kw0 : At4 W g p (val y) := ⟨kept hW c00, kept hW c01, kept hW c02, kept hW c03⟩
          have kw1 : At4 W g (p + 1) (val x) := ⟨kept hW c10, kept hW c11, kept hW c12, kept hW c13⟩
          clear hW c00 c01 c02 c03 c10 c11 c12 c13
          by_cases hv0 : v < 0
          · have hvd : decide (v < 0) = true := by simpa using hv0
            have hrW := (HR2.out.below HW.out).drew
            have hsw := hrW.swap2 (i := p) (j := p + 1) HL1.out (by rw [HL1.out]; simp)
            obtain ⟨WD, hWD⟩ : ∃ X, W.drew = X := ⟨_, rfl⟩
            rw [hWD] at hsw
            simp only [put4] at hsw
            have dw0 : At4 WD g p (val y) := by rw [← hWD]; exact ⟨kw0.a, kw0.b, kw0.c, kw0.d⟩
            have dw1 : At4 WD g (p + 1) (val x) := by rw [← hWD]; exact ⟨kw1.a, kw1.b, kw1.c, kw1.d⟩
            obtain ⟨d0, d1, d2, d3⟩ := dw0
            obtain ⟨d4, d5, d6, d7⟩ := dw1
            have f0 : WD.frozen? ⟨g, p * 4, none⟩ = false := by rw [← hWD]; exact hrW.fz _
            have f1 : WD.frozen? ⟨g, p * 4 + 1, none⟩ = false := by rw [← hWD]; exact hrW.fz _
            have f2 : WD.frozen? ⟨g, p * 4 + 2, none⟩ = false := by rw [← hWD]; exact hrW.fz _
            have f3 : WD.frozen? ⟨g, p * 4 + 3, none⟩ = false := by rw [← hWD]; exact hrW.fz _
            have f4 : WD.frozen? ⟨g, (p + 1) * 4, none⟩ = false := by rw [← hWD]; exact hrW.fz _
            have f5 : WD.frozen? ⟨g, (p + 1) * 4 + 1, none⟩ = false := by rw [← hWD]; exact hrW.fz _
            have f6 : WD.frozen? ⟨g, (p + 1) * 4 + 2, none⟩ = false := by rw [← hWD]; exact hrW.fz _
            have f7 : WD.frozen? ⟨g, (p + 1) * 4 + 3, none⟩ = false := by rw [← hWD]; exact hrW.fz _
            have HSW := hide hsw
            have hE0 : (fun X : World => X.cell? ⟨g, p * 4, none⟩ = some (.int .i64 (val y).f) ∧ X.cell? ⟨g, p * 4 + 1, none⟩ = some (.int .i64 (val y).b) ∧ X.cell? ⟨g, p * 4 + 2, none⟩ = some (.int .i64 (val y).k) ∧ X.cell? ⟨g, p * 4 + 3, none⟩ = some (.int .i64 (val y).m) ∧ X.cell? ⟨g, (p + 1) * 4, none⟩ = some (.int .i64 (val x).f) ∧ X.cell? ⟨g, (p + 1) * 4 + 1, none⟩ = some (.int .i64 (val x).b) ∧ X.cell? ⟨g, (p + 1) * 4 + 2, none⟩ = some (.int .i64 (val x).k) ∧ X.cell? ⟨g, (p + 1) * 4 + 3, none⟩ = some (.int .i64 (val x).m)) WD := ⟨d0, d1, d2, d3, d4, d5, d6, d7⟩
            simp only at hE0
            have HWD := hide hWD
            clear hrW hsw hWD kw0 kw1
            go_wp2_with fail
            refine wp_region_T (fun X : World => X.cell? ⟨g, p * 4, none⟩ = some (.int .i64 (val y).f) ∧ X.cell? ⟨g, p * 4 + 1, none⟩ = some (.int .i64 (val y).b) ∧ X.cell? ⟨g, p * 4 + 2, none⟩ = some (.int .i64 (val y).k) ∧ X.cell? ⟨g, p * 4 + 3, none⟩ = some (.int .i64 (val y).m) ∧ X.cell? ⟨g, (p + 1) * 4, none⟩ = some (.int .i64 (val x).f) ∧ X.cell? ⟨g, (p + 1) * 4 + 1, none⟩ = some (.int .i64 (val x).b) ∧ X.cell? ⟨g, (p + 1) * 4 + 2, none⟩ = some (.int .i64 (val x).k) ∧ X.cell? ⟨g, (p + 1) * 4 + 3, none⟩ = some (.int .i64 (val x).m)) [0, 1, 2, 3, 4, 5, 6, 7, 8, 10, 11, 12, 14, 15, 16, 17] rfl (by kernel_rfl) ?_
            rw [HWD.out]
            refine wpAnyT_take0 (i := 0) (v := ?_) rfl (by kernel_rfl) (by kernel_rfl) (by kernel_rfl) (by kernel_rfl) (fun _ _ _ h => h) (Or.inl ⟨by rfl, ?_⟩) ?_
            rotate_left
            · intro W hSW
              go_simp
              try with_reducible rfl
            simp only [Act.put, List.setIfInBounds_toArray, List.set_cons_zero, List.set_cons_succ]
            refine wpAnyT_take0 (i := 1) (v := ?_) rfl (by kernel_rfl) (by kernel_rfl) (by kernel_rfl) (by kernel_rfl) (fun _ _ _ h => h) (Or.inl ⟨by rfl, ?_⟩) ?_
            rotate_left
            · intro W hSW
              go_simp
              try with_reducible rfl
            simp only [Act.put, List.setIfInBounds_toArray, List.set_cons_zero, List.set_cons_succ]
            refine wpAnyT_take0 (i := 2) (v := ?_) rfl (by kernel_rfl) (by kernel_rfl) (by kernel_rfl) (by kernel_rfl) (fun _ _ _ h => h) (Or.inl ⟨by rfl, ?_⟩) ?_
            rotate_left
            · intro W hSW
              go_simp
              try with_reducible rfl
            simp only [Act.put, List.setIfInBounds_toArray, List.set_cons_zero, List.set_cons_succ]
            refine wpAnyT_take0 (i := 3) (v := ?_) rfl (by kernel_rfl) (by kernel_rfl) (by kernel_rfl) (by kernel_rfl) (fun _ _ _ h => h) (Or.inl ⟨by rfl, ?_⟩) ?_
            rotate_left
            · intro W hSW
              go_simp
              try with_reducible rfl
            simp only [Act.put, List.setIfInBounds_toArray, List.set_cons_zero, List.set_cons_succ]
            refine wpAnyT_take0 (i := 5) (v := ?_) rfl (by kernel_rfl) (by kernel_rfl) (by kernel_rfl) (by kernel_rfl) (fun _ _ _ h => h) (Or.inl ⟨by rfl, ?_⟩) ?_
            rotate_left
            · intro W hSW
              go_simp
              try with_reducible rfl
            simp only [Act.put, List.setIfInBounds_toArray, List.set_cons_zero, List.set_cons_succ]
            refine wpAnyT_take0 (i := 6) (v := ?_) rfl (by kernel_rfl) (by kernel_rfl) (by kernel_rfl) (by kernel_rfl) (fun _ _ _ h => h) (Or.inl ⟨by rfl, ?_⟩) ?_
            rotate_left
            · intro W hSW
              go_simp
              try with_reducible rfl
            simp only [Act.put, List.setIfInBounds_toArray, List.set_cons_zero, List.set_cons_succ]
            refine wpAnyT_take0 (i := 10) (v := ?_) rfl (by kernel_rfl) (by kernel_rfl) (by kernel_rfl) (by kernel_rfl) (fun _ _ _ h => h) (Or.inl ⟨by rfl, ?_⟩) ?_
            rotate_left
            · intro W hSW
              go_simp
              try with_reducible rfl
            simp only [Act.put, List.setIfInBounds_toArray, List.set_cons_zero, List.set_cons_succ]
            refine wpAnyT_take0 (i := 11) (v := ?_) rfl (by kernel_rfl) (by kernel_rfl) (by kernel_rfl) (by kernel_rfl) (fun _ _ _ h => h) (Or.inl ⟨by rfl, ?_⟩) ?_
            rotate_left
            · intro W hSW
              go_simp
              try with_reducible rfl
            simp only [Act.put, List.setIfInBounds_toArray, List.set_cons_zero, List.set_cons_succ]
            refine wpAnyT_take0 (i := 4) (v := ?_) rfl (by kernel_rfl) (by kernel_rfl) (by kernel_rfl) (by kernel_rfl) (fun _ _ _ h => h) (Or.inl ⟨by rfl, ?_⟩) ?_
            rotate_left
            · intro W hSW
              go_simp
              try with_reducible rfl
            simp only [Act.put, List.setIfInBounds_toArray, List.set_cons_zero, List.set_cons_succ]
            refine wpAnyT_take0 (i := 7) (v := ?_) rfl (by kernel_rfl) (by kernel_rfl) (by kernel_rfl) (by kernel_rfl) (fun _ _ _ h => h) (Or.inl ⟨by rfl, ?_⟩) ?_
            rotate_left
            · intro W hSW
              go_simp
              try with_reducible rfl
            simp only [Act.put, List.setIfInBounds_toArray, List.set_cons_zero, List.set_cons_succ]
            refine wpAnyT_take0 (i := 8) (v := ?_) rfl (by kernel_rfl) (by kernel_rfl) (by kernel_rfl) (by kernel_rfl) (fun _ _ _ h => h) (Or.inl ⟨by rfl, ?_⟩) ?_
            rotate_left
            · intro W hSW
              go_simp
              try with_reducible rfl
            simp only [Act.put, List.setIfInBounds_toArray, List.set_cons_zero, List.set_cons_succ]
            refine wpAnyT_take0 (i := 12) (v := ?_) rfl (by kernel_rfl) (by kernel_rfl) (by kernel_rfl) (by kernel_rfl) (fun _ _ _ h => h) (Or.inl ⟨by rfl, ?_⟩) ?_
            rotate_left
            · intro W hSW
              go_simp
              try with_reducible rfl
            simp only [Act.put, List.setIfInBounds_toArray, List.set_cons_zero, List.set_cons_succ]
            refine wpAnyT_take (i := 9) (v := ?_) rfl (by kernel_rfl) (by kernel_rfl) (by kernel_rfl) (by kernel_rfl) (fun _ _ _ h => h) (Or.inl ⟨by rfl, ?_⟩) hE0 ?_
            rotate_left
            · intro W hSW
              obtain ⟨hs0, hs1, hs2, hs3, hs4, hs5, hs6, hs7⟩ := hSW
              go_simp
              try with_reducible rfl
            simp only [Act.put, List.setIfInBounds_toArray, List.set_cons_zero, List.set_cons_succ]
            refine wpAnyT_take (i := 13) (v := ?_) rfl (by kernel_rfl) (by kernel_rfl) (by kernel_rfl) (by kernel_rfl) (fun _ _ _ h => h) (Or.inl ⟨by rfl, ?_⟩) hE0 ?_
            rotate_left
            · intro W hSW
              obtain ⟨hs0, hs1, hs2, hs3, hs4, hs5, hs6, hs7⟩ := hSW
              go_simp
              try with_reducible rfl
            simp only [Act.put, List.setIfInBounds_toArray, List.set_cons_zero, List.set_cons_succ]
            refine wpAnyT_take0 (i := 14) (v := ?_) rfl (by kernel_rfl) (by kernel_rfl) (by kernel_rfl) (by kernel_rfl) (fun _ _ _ h => h) (Or.inl ⟨by rfl, ?_⟩) ?_
            rotate_left
            · intro W hSW
              go_simp
              try with_reducible rfl
            simp only [Act.put, List.setIfInBounds_toArray, List.set_cons_zero, List.set_cons_succ]
            refine wpAnyT_ready (rs := [15]) (by kernel_rfl) (by simp) ?_
            refine AllReadyT.cons rfl (fun K hK => ?_) ?_
            · go_simp
              refine hK.out _ _ (fun h => by cases h) ?_
              try simp only [Act.put, List.setIfInBounds_toArray, List.set_cons_zero, List.set_cons_succ]
              clear hK K
              refine wpAnyT_take0 (i := 16) (v := ?_) rfl (by kernel_rfl) (by kernel_rfl) (by kernel_rfl) (by kernel_rfl) (fun _ _ _ h => h) (Or.inl ⟨by rfl, ?_⟩) ?_
              rotate_left
              · intro W hSW
                go_simp
                try with_reducible rfl
              simp only [Act.put, List.setIfInBounds_toArray, List.set_cons_zero, List.set_cons_succ]
              refine wpAnyT_ready (rs := [17]) (by kernel_rfl) (by simp) ?_
              refine AllReadyT.cons rfl (fun K hK => ?_) ?_
              · go_simp
                refine hK.out _ _ (fun h => by cases h) ?_
                try simp only [Act.put, List.setIfInBounds_toArray, List.set_cons_zero, List.set_cons_succ]
                clear hK K
                refine wpAnyT_done (by kernel_rfl) ?_ _
                clear hE0 d0 d1 d2 d3 d4 d5 d6 d7 f0 f1 f2 f3 f4 f5 f6 f7
                go_wp2_with fail
                go_roundw
                case rel =>
                  have hlt := HLS.out.1 hv0
                  obtain ⟨l1, l2, l3⟩ := hLj.out
                  refine ⟨p, T, y :: S2, by go_num, by omega, by omega, hide ⟨?_, ?_, ?_⟩, ?_⟩
                  · rw [HS1.out] at l1; simp at l1; omega
                  · rw [l2, HS1.out]; simp
                  · intro z hz
                    rcases List.mem_cons.1 hz with rfl | hz
                    · exact hlt
                    · exact l3 z hz
                  · have := HSW.out
                    simpa using this
                case measure => simp [RowKit.intOf]
              exact AllReadyT.nil
            exact AllReadyT.nil
          · have hvd : decide (v < 0) = false := by simpa using hv0
            clear kw0 kw1
            go_wp2_with fail
            go_roundw
            case rel =>
              have hyx : lt y x := HC.out.ord.total x y (by omega) (fun h => hv0 (HLS.out.2 h))
              obtain ⟨o1, o2⟩ := HOUT.out (fun z hz => by rw [HS1.out] at hz; simp at hz; subst hz; exact hyx)
              exact ⟨c + 1, S1 ++ x :: S2, by go_num, by omega, by omega, o1, o2 _ (HRJ.out.below HW.out)⟩
            case measure => simp [RowKit.intOf]; omega
    · obtain rfl : b = c := by omega
      clear hr
      go_wp2_with fail
      go_end0
      have h := HR.out
      have hlD : S.length = D.length := by have := hL.out.1; have := HB.out; omega
      rw [hlD, List.drop_eq_nil_of_le (Nat.le_refl _), List.nil_append] at h
      have hp := hL.out.2.1
      rw [hlD, List.take_of_length_le (Nat.le_refl _)] at hp
      exact ⟨rfl, S, hp, hL.out.2.2, h⟩
end
end Go.Proofs.YtmfohnchnbgbaaaGreat

/- Sorting: two sorted parts become one, where one of them has one element. -/
namespace Go.Proofs.YtmfohnchnbgbaaaGreat
open Go.RowKit
section
variable {α : Type} {val : α → Int} {w0 : World} {B g n cap : Nat} {lt : α → α → Prop} {pos : α → Nat} {U : α → Prop} {H : Nat} {cf : α → α → Int}
theorem CmpZ.cls (hc : CmpZ val lt pos U w0 g H cf) {l : List α} {wr : World} (hr : Srt val w0 B g n cap l wr) {x y : α} (hx : U x) (hy : U y) (W : World) (hW : Below wr.heap.size wr W) :
    Calls Tryz.prog 150 #[.int .i64 (val x), .int .i64 (val y), .pointer (some ⟨H, 0, none⟩)] W fun e w' => e = .returned (.int .i64 (cf x y)) ∧ Below wr.heap.size wr w' :=
  (hc.calls W (grown_below hr.gr hW) x y hx hy).mono fun _ _ h => ⟨h.1, chain hW h.2⟩
/-- One element put into its place. -/
theorem put_sorted {S1 S2 : List α} {x : α} (hS : (S1 ++ S2).Pairwise lt) (h1 : ∀ y ∈ S1, lt y x) (h2 : ∀ y ∈ S2, lt x y) : (S1 ++ x :: S2).Pairwise lt := by
  rw [List.pairwise_append] at hS ⊢
  refine ⟨hS.1, List.pairwise_cons.2 ⟨h2, hS.2.1⟩, fun y hy z hz => ?_⟩
  rcases List.mem_cons.1 hz with rfl | hz
  · exact h1 y hy
  · exact hS.2.2 y hy z hz
theorem mem_take_at {l : List α} {t : Nat} {y : α} (h : y ∈ l.take t) : ∃ i, i < t ∧ l[i]? = some y := by
  obtain ⟨i, hi⟩ := List.mem_iff_getElem?.1 h
  rw [List.getElem?_take] at hi
  split at hi
  · exact ⟨i, by assumption, hi⟩
  · cases hi
theorem mem_drop_at {l : List α} {t : Nat} {y : α} (h : y ∈ l.drop t) : ∃ i, t ≤ i ∧ l[i]? = some y := by
  obtain ⟨i, hi⟩ := List.mem_iff_getElem?.1 h
  rw [List.getElem?_drop] at hi
  exact ⟨t + i, by omega, hi⟩
end
end Go.Proofs.YtmfohnchnbgbaaaGreat
