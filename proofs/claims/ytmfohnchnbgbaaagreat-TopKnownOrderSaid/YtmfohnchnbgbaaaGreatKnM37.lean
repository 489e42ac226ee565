/- Part 37 of the proof. -/
import Derived.Test.YtmfohnchnbgbaaaGreatKnM03
import Derived.Test.YtmfohnchnbgbaaaGreatKnM36
/- Sorting: an insertion sort of a part, by the days of changes. -/
namespace Go.Proofs.YtmfohnchnbgbaaaGreat
open Go.RowKit
section
variable {α : Type}
/-- An order of elements that have places. -/
structure OrdL (lt : α → α → Prop) (pos : α → Nat) : Prop where
  trans : ∀ x y z, lt x y → lt y z → lt x z
  total : ∀ x y, pos x ≠ pos y → ¬ lt x y → lt y x
theorem ins_done {lt : α → α → Prop} {S1 S2 : List α} {x : α} (ht : ∀ x y z, lt x y → lt y z → lt x z) (hS : (S1 ++ S2).Pairwise lt) (h2 : ∀ z ∈ S2, lt x z) (h1 : ∀ y, S1.getLast? = some y → lt y x) : (S1 ++ x :: S2).Pairwise lt := by
  rw [List.pairwise_append] at hS ⊢
  obtain ⟨a, b, c⟩ := hS
  refine ⟨a, List.pairwise_cons.2 ⟨h2, b⟩, fun y hy z hz => ?_⟩
  have hyx : lt y x := by
    rcases nil_or_snoc S1 with rfl | ⟨T, l, rfl⟩
    · simp at hy
    · have hl := h1 l (by simp)
      rcases List.mem_append.1 hy with h | h
      · rw [List.pairwise_append] at a
        exact ht _ _ _ (a.2.2 y h l (by simp)) hl
      · simp at h; subst h; exact hl
  rcases List.mem_cons.1 hz with rfl | hz
  · exact hyx
  · exact c y hy z hz
variable {val : α → Int} {w0 : World} {B g n cap : Nat}
/-- What is asked of the comparison: it tells of a later one and an earlier one whether the later one is less. -/
structure CmpZ (val : α → Int) (lt : α → α → Prop) (pos : α → Nat) (U : α → Prop) (w0 : World) (g H : Nat) (cf : α → α → Int) : Prop where
  calls : ∀ W, w0.grownBy W (some g) → ∀ x y, U x → U y → Calls Tryz.prog 150 #[.int .i64 (val x), .int .i64 (val y), .pointer (some ⟨H, 0, none⟩)] W fun e w' => e = .returned (.int .i64 (cf x y)) ∧ Below W.heap.size W w'
  less : ∀ x y, U x → U y → pos y < pos x → (cf x y < 0 ↔ lt x y)
  bd : ∀ x y, -1 ≤ cf x y ∧ cf x y ≤ 1
  ord : OrdL lt pos
def fnC (H : Nat) : Value := .func (.func 150) #[] #[.pointer (some ⟨H, 0, none⟩)]

set_option linter.unusedSimpArgs false in
set_option maxRecDepth 100000 in
set_option maxHeartbeats 4000000 in
theorem ins_any {lt : α → α → Prop} {pos : α → Nat} {U : α → Prop} {H : Nat} {cf : α → α → Int} (hc : CmpZ val lt pos U w0 g H cf) (P D R : List α) (a b : Nat) (ha : a = P.length) (hb : b = a + D.length) (hD : D.Pairwise fun x y => pos x < pos y) (hU : ∀ x ∈ D, U x) (hD1 : 1 ≤ D.length) (w : World) (hs : Srt val w0 B g n cap (P ++ (D ++ R)) w) :
    Calls Tryz.prog 204 #[.slice (some ⟨g, 0, none⟩) n cap, .int .i64 a, .int .i64 b, .func (.func 150) #[] #[.pointer (some ⟨H, 0, none⟩)]] w fun e w' => e = .returned (.tuple #[]) ∧ ∃ S : List α, S.Perm D ∧ S.Pairwise lt ∧ Srt val w0 B g n cap (P ++ (S ++ R)) w' := by
  have hlen := hs.len
  simp only [List.length_append] at hlen
  have hcap := hs.own.cap_le
  have hmx : cap ≤ 9223372036854775807 := by have := hcap.2; simp [maxLen] at this; exact this
  have HS := hide hs
  have HA := hide ha
  have HB := hide hb
  have HC := hide hc
  have HD := hide hD
  have HU := hide hU
  have hbn : b ≤ n := by omega
  have hab : a + 1 ≤ b := by omega
  obtain ⟨d0, hd0⟩ := get_of (l := D) (k := 0) hD1
  have HD0 := hide hd0
  clear hs ha hb hc hD hU hlen hd0
  go_enter Tryz.func204, Tryz.ntmps204
  go_wp2_with fail
  go_loopw [8] (fun q wr => ∃ (c : Nat) (S : List α), q = .int .i64 c ∧ a + 1 ≤ c ∧ c ≤ b ∧ Hid (c = a + S.length ∧ S.Perm (D.take S.length) ∧ S.Pairwise lt) ∧ Srt val w0 B g n cap (P ++ (S ++ (D.drop S.length ++ R))) wr) (fun q _ => b - (RowKit.intOf q).toNat)
  case atStart =>
    refine ⟨a + 1, [d0], by go_num, Nat.le_refl _, hab, hide ⟨by simp, by show [d0].Perm (D.take (0 + 1)); rw [take_of HD0.out]; simp, by simp⟩, ?_⟩
    have e : [d0] ++ (D.drop [d0].length ++ R) = D ++ R := by
      rw [← List.append_assoc]; congr 1
      have := drop_of (l := D) (k := 0) HD0.out
      simpa using this.symm
    rw [e]; exact HS.out
  case round =>
    obtain ⟨c, S, rfl, hc1, hc2, hL, hr⟩ := hrel
    rename World => W0
    have HR := hide hr
    have HL := hL
    by_cases hlt : c < b
    · obtain ⟨x, hx⟩ := get_of (l := D) (k := S.length) (by have := hL.out; have := HB.out; omega)
      have hk0 : (0 : Int) ≤ (c : Int) := by omega
      have hk1 : (c : Int) < (b : Int) := by omega
      have HX := hide hx
      have HP0 := hide (show Srt val w0 B g n cap (P ++ (S ++ x :: ([] ++ (D.drop (S.length + 1) ++ R)))) W0 by
        rw [drop_of hx] at hr
        exact hr)
      have hpx : ∀ y ∈ S, U y ∧ pos y < pos x := fun y hy => by
        have h1 : y ∈ D.take S.length := hL.out.2.1.mem_iff.1 hy
        have h2 := HD.out
        rw [← List.take_append_drop S.length D, List.pairwise_append] at h2
        refine ⟨HU.out y (List.mem_of_mem_take h1), h2.2.2 y h1 x ?_⟩
        rw [drop_of hx]; exact List.mem_cons_self
      have HPX := hide hpx
      have hux : U x := HU.out x (List.mem_of_getElem? hx)
      clear hr hx hpx
      go_wp2_with fail
      go_loopw [9] (fun q ws => ∃ (j : Nat) (S1 S2 : List α), q = .int .i64 j ∧ a ≤ j ∧ j ≤ c ∧ Hid (j = a + S1.length ∧ S = S1 ++ S2 ∧ ∀ z ∈ S2, lt x z) ∧ Srt val w0 B g n cap (P ++ (S1 ++ x :: (S2 ++ (D.drop (S.length + 1) ++ R)))) ws) (fun q _ => (RowKit.intOf q).toNat)
      case atStart => exact ⟨c, S, [], rfl, by omega, Nat.le_refl _, hide ⟨hL.out.1, by simp, by simp⟩, HP0.out⟩
      case round =>
        obtain ⟨j, S1, S2, rfl, hj1, hj2, hLj, hrj⟩ := hrel
        have HRJ := hide hrj
        have hout : (∀ y, S1.getLast? = some y → lt y x) → Hid (c + 1 = a + (S1 ++ x :: S2).length ∧ (S1 ++ x :: S2).Perm (D.take (S1 ++ x :: S2).length) ∧ (S1 ++ x :: S2).Pairwise lt) ∧ ∀ ws', Srt val w0 B g n cap (P ++ (S1 ++ x :: (S2 ++ (D.drop (S.length + 1) ++ R)))) ws' → Srt val w0 B g n cap (P ++ ((S1 ++ x :: S2) ++ (D.drop (S1 ++ x :: S2).length ++ R))) ws' := fun h1 => by
          obtain ⟨l1, l2, l3⟩ := hLj.out
          obtain ⟨m1, m2, m3⟩ := HL.out
          have hl : (S1 ++ x :: S2).length = S.length + 1 := by rw [l2]; simp; omega
          refine ⟨hide ⟨by omega, ?_, ins_done HC.out.ord.trans (by rw [← l2]; exact m3) l3 h1⟩, fun ws' hw => ?_⟩
          · rw [hl, take_of HX.out]
            refine (perm_mid S1 x S2).trans ?_
            rw [← l2]
            exact ((List.Perm.cons x m2)).trans (List.perm_append_singleton x _).symm
          · rw [hl]; simpa using hw
        have HOUT := hide hout
        clear hout
        by_cases hja : j = a
        · have hs1 : S1 = [] := List.eq_nil_of_length_eq_zero (by have := hLj.out.1; omega)
          have hga : ¬ (a : Int) < (j : Int) := by omega
          have HS1 := hide hs1
          have HJA := hide hja
          have hgd : decide (a < j) = false := by simp; omega
          clear hrj hs1 hja
          go_wp2_with fail
          refine wp_region_class (fun W => Below wr.heap.size wr W) (by kernel_rfl) (by kernel_rfl) (Below.refl _ _).drew ?_
          repeat (first
            | go_big_quiet_skip
            | (go_big_quiet_want
               first
                 | (go_big_quiet_op
                    go_big_quiet_on)
                 | (refine quiet_yield (v := ?_) ?_ ?_
                    rotate_left
                    · intro W hW
                      clear hW
                      go_simp
                      try with_reducible rfl
                    simp only [Act.put, List.setIfInBounds_toArray, List.set_cons_zero, List.set_cons_succ]
                    go_big_quiet_on)))
          refine wpQuiet_nil ?_
          intro W hW
          have HW := hide hW
          clear hW
          go_wp2_with fail
          go_roundw
          case rel =>
            obtain ⟨o1, o2⟩ := HOUT.out (fun y hy => by rw [HS1.out] at hy; simp at hy)
            exact ⟨c + 1, S1 ++ x :: S2, by go_num, by omega, by omega, o1, o2 _ (HRJ.out.below HW.out)⟩
          case measure => simp [RowKit.intOf]; omega
        · have hga : (a : Int) < (j : Int) := by omega
          obtain ⟨T, y, hS1⟩ : ∃ (T : List α) (y : α), S1 = T ++ [y] := by
            rcases nil_or_snoc S1 with h | h
            · have := hLj.out.1; rw [h] at this; simp at this; omega
            · exact h
          have hl1 : j - 1 = (P ++ T).length := by
            have h1 := hLj.out.1; have h2 := HA.out
            rw [hS1] at h1; simp at h1 ⊢; omega
          have hrj2 : Srt val w0 B g n cap ((P ++ T) ++ y :: ([] ++ x :: (S2 ++ (D.drop (S.length + 1) ++ R)))) wr := by
            rw [hS1] at hrj
            simpa using hrj
          obtain ⟨p, hp⟩ : ∃ p, j - 1 = p := ⟨_, rfl⟩
          rw [hp] at hl1
          have hjp : j = p + 1 := by omega
          have c0 := hrj2.at (get_mid' hl1)
          have c1 := hrj2.at (i := p + 1) (x := x) (by
            have e : (P ++ T) ++ y :: ([] ++ x :: (S2 ++ (D.drop (S.length + 1) ++ R))) = ((P ++ T) ++ [y]) ++ x :: (S2 ++ (D.drop (S.length + 1) ++ R)) := by simp
            rw [e]
            exact get_mid' (by rw [hl1]; simp; try omega))
          have hyS : y ∈ S := by rw [hLj.out.2.1, hS1]; simp
          obtain ⟨huy, hpy⟩ := HPX.out y hyS
          have hcl : ∀ W, Below wr.heap.size wr W → Calls Tryz.prog 150 #[.int .i64 (val x), .int .i64 (val y), .pointer (some ⟨H, 0, none⟩)] W fun e w' => e = .returned (.int .i64 (cf x y)) ∧ Below wr.heap.size wr w' := fun W hW =>
            (HC.out.calls W (grown_below hrj2.gr hW) x y hux huy).mono fun e w' h => ⟨h.1, chain hW h.2⟩
          have HCL := hide hcl
          have hls := HC.out.less x y hux huy hpy
          have HLS := hide hls
          have hbd := HC.out.bd x y
          have hsw := hrj2.drew
          have hp0 : (0 : Int) ≤ (p : Int) := by omega
          have hp1 : (p : Int) < (n : Int) := by omega
          have hj0 : (0 : Int) ≤ (p : Int) + 1 := by omega
          have hj3 : (p : Int) + 1 < (n : Int) := by omega
          have hga2 : (a : Int) < (p : Int) + 1 := by omega
          have HR2 := hide hrj2
          have HL1 := hide hl1
          have HS1 := hide hS1
          obtain ⟨v, hv⟩ : ∃ v, cf x y = v := ⟨_, rfl⟩
          rw [hv] at hbd HCL HLS
          subst hjp
          have hgd : decide ((a : Int) < (p : Int) + 1) = true := by simpa using hga2
          have hwp : IntKind.i64.wrap (p : Int) = (p : Int) := IntWalk.i64_in _ (by have := hcap.1; omega)
          have hgd2 : decide (a < p + 1) = true := by simp; omega
          clear hrj hrj2 hcl hls hsw hl1 hS1 hp hga hv hja
          go_wp2_with fail
          refine wp_region_class (fun W => Below wr.heap.size wr W) (by kernel_rfl) (by kernel_rfl) (Below.refl _ _).drew ?_
          repeat (first
            | go_big_quiet_skip
            | (go_big_quiet_want
               first
                 | (go_big_quiet_op
                    go_big_quiet_on)
                 | (refine quiet_call (v := .int .i64 v) (f := 150) (args := #[.int .i64 (val x), .int .i64 (val y), .pointer (some ⟨H, 0, none⟩)]) ?_ ?_ ?_
                    · intro W hW
                      have c0 := kept hW c0
                      have c1 := kept hW c1
                      clear hW
                      go_simp
                      done
                    · intro W hW
                      exact HCL.out W hW
                    simp only [Act.put, List.setIfInBounds_toArray, List.set_cons_zero, List.set_cons_succ]
                    go_big_quiet_on)
                 | (refine quiet_yield (v := ?_) ?_ ?_
                    rotate_left
                    · intro W hW
                      have c0 := kept hW c0
                      have c1 := kept hW c1
                      clear hW
                      go_simp
                      try with_reducible rfl
                    simp only [Act.put, List.setIfInBounds_toArray, List.set_cons_zero, List.set_cons_succ]
                    go_big_quiet_on)))
          refine wpQuiet_nil ?_
          intro W hW
          have HW := hide hW
          have k0 := kept hW c0
          have k1 := kept hW c1
          clear hW c0 c1
          by_cases hv0 : v < 0
          · have hvd : decide (v < 0) = true := by simpa using hv0
            have hrW := (HR2.out.below HW.out).drew
            have hsw := hrW.swap2 (i := p) (j := p + 1) HL1.out (by rw [HL1.out]; simp)
            obtain ⟨WD, hWD⟩ : ∃ X, W.drew = X := ⟨_, rfl⟩
            rw [hWD] at hsw
            have d0 : WD.cell? ⟨g, p, none⟩ = some (.int .i64 (val y)) := by rw [← hWD]; exact k0
            have d1 : WD.cell? ⟨g, p + 1, none⟩ = some (.int .i64 (val x)) := by rw [← hWD]; exact k1
            have f0 : WD.frozen? ⟨g, p, none⟩ = false := by rw [← hWD]; exact hrW.fz p
            have f1 : WD.frozen? ⟨g, p + 1, none⟩ = false := by rw [← hWD]; exact hrW.fz (p + 1)
            have HSW := hide hsw
            have hS0 : (fun X : World => X.cell? ⟨g, p, none⟩ = some (.int .i64 (val y)) ∧ X.cell? ⟨g, p + 1, none⟩ = some (.int .i64 (val x))) WD := ⟨d0, d1⟩
            simp only at hS0
            have HWD := hide hWD
            clear hrW hsw hWD k0 k1
            go_wp2_with fail
            refine wp_region_T (fun X => X.cell? ⟨g, p, none⟩ = some (.int .i64 (val y)) ∧ X.cell? ⟨g, p + 1, none⟩ = some (.int .i64 (val x))) [0, 1, 2, 3, 4, 5, 6, 7, 8, 10, 11, 12, 14, 15, 16, 17] rfl (by kernel_rfl) ?_
            rw [HWD.out]
            refine wpAnyT_take0 (i := 0) (v := ?_) rfl (by kernel_rfl) (by kernel_rfl) (by kernel_rfl) (by kernel_rfl) (fun _ _ _ h => h) (Or.inl ⟨by rfl, ?_⟩) ?_
            rotate_left
            · intro W hSW
              go_simp
              try with_reducible rfl
            simp only [Act.put, List.setIfInBounds_toArray, List.set_cons_zero, List.set_cons_succ]
            refine wpAnyT_take0 (i := 1) (v := ?_) rfl (by kernel_rfl) (by kernel_rfl) (by kernel_rfl) (by kernel_rfl) (fun _ _ _ h => h) (Or.inl ⟨by rfl, ?_⟩) ?_
            rotate_left
            · intro W hSW
              go_simp
              try with_reducible rfl
            simp only [Act.put, List.setIfInBounds_toArray, List.set_cons_zero, List.set_cons_succ]
            refine wpAnyT_take0 (i := 2) (v := ?_) rfl (by kernel_rfl) (by kernel_rfl) (by kernel_rfl) (by kernel_rfl) (fun _ _ _ h => h) (Or.inl ⟨by rfl, ?_⟩) ?_
            rotate_left
            · intro W hSW
              go_simp
              try with_reducible rfl
            simp only [Act.put, List.setIfInBounds_toArray, List.set_cons_zero, List.set_cons_succ]
            refine wpAnyT_take0 (i := 3) (v := ?_) rfl (by kernel_rfl) (by kernel_rfl) (by kernel_rfl) (by kernel_rfl) (fun _ _ _ h => h) (Or.inl ⟨by rfl, ?_⟩) ?_
            rotate_left
            · intro W hSW
              go_simp
              try with_reducible rfl
            simp only [Act.put, List.setIfInBounds_toArray, List.set_cons_zero, List.set_cons_succ]
            refine wpAnyT_take0 (i := 5) (v := ?_) rfl (by kernel_rfl) (by kernel_rfl) (by kernel_rfl) (by kernel_rfl) (fun _ _ _ h => h) (Or.inl ⟨by rfl, ?_⟩) ?_
            rotate_left
            · intro W hSW
              go_simp
              try with_reducible rfl
            simp only [Act.put, List.setIfInBounds_toArray, List.set_cons_zero, List.set_cons_succ]
            refine wpAnyT_take0 (i := 6) (v := ?_) rfl (by kernel_rfl) (by kernel_rfl) (by kernel_rfl) (by kernel_rfl) (fun _ _ _ h => h) (Or.inl ⟨by rfl, ?_⟩) ?_
            rotate_left
            · intro W hSW
              go_simp
              try with_reducible rfl
            simp only [Act.put, List.setIfInBounds_toArray, List.set_cons_zero, List.set_cons_succ]
            refine wpAnyT_take0 (i := 10) (v := ?_) rfl (by kernel_rfl) (by kernel_rfl) (by kernel_rfl) (by kernel_rfl) (fun _ _ _ h => h) (Or.inl ⟨by rfl, ?_⟩) ?_
            rotate_left
            · intro W hSW
              go_simp
              try with_reducible rfl
            simp only [Act.put, List.setIfInBounds_toArray, List.set_cons_zero, List.set_cons_succ]
            refine wpAnyT_take0 (i := 11) (v := ?_) rfl (by kernel_rfl) (by kernel_rfl) (by kernel_rfl) (by kernel_rfl) (fun _ _ _ h => h) (Or.inl ⟨by rfl, ?_⟩) ?_
            rotate_left
            · intro W hSW
              go_simp
              try with_reducible rfl
            simp only [Act.put, List.setIfInBounds_toArray, List.set_cons_zero, List.set_cons_succ]
            refine wpAnyT_take0 (i := 4) (v := ?_) rfl (by kernel_rfl) (by kernel_rfl) (by kernel_rfl) (by kernel_rfl) (fun _ _ _ h => h) (Or.inl ⟨by rfl, ?_⟩) ?_
            rotate_left
            · intro W hSW
              go_simp
              try with_reducible rfl
            simp only [Act.put, List.setIfInBounds_toArray, List.set_cons_zero, List.set_cons_succ]
            refine wpAnyT_take0 (i := 7) (v := ?_) rfl (by kernel_rfl) (by kernel_rfl) (by kernel_rfl) (by kernel_rfl) (fun _ _ _ h => h) (Or.inl ⟨by rfl, ?_⟩) ?_
            rotate_left
            · intro W hSW
              go_simp
              try with_reducible rfl
            simp only [Act.put, List.setIfInBounds_toArray, List.set_cons_zero, List.set_cons_succ]
            refine wpAnyT_take0 (i := 8) (v := ?_) rfl (by kernel_rfl) (by kernel_rfl) (by kernel_rfl) (by kernel_rfl) (fun _ _ _ h => h) (Or.inl ⟨by rfl, ?_⟩) ?_
            rotate_left
            · intro W hSW
              go_simp
              try with_reducible rfl
            simp only [Act.put, List.setIfInBounds_toArray, List.set_cons_zero, List.set_cons_succ]
            refine wpAnyT_take0 (i := 12) (v := ?_) rfl (by kernel_rfl) (by kernel_rfl) (by kernel_rfl) (by kernel_rfl) (fun _ _ _ h => h) (Or.inl ⟨by rfl, ?_⟩) ?_
            rotate_left
            · intro W hSW
              go_simp
              try with_reducible rfl
            simp only [Act.put, List.setIfInBounds_toArray, List.set_cons_zero, List.set_cons_succ]
            refine wpAnyT_take (i := 9) (v := ?_) rfl (by kernel_rfl) (by kernel_rfl) (by kernel_rfl) (by kernel_rfl) (fun _ _ _ h => h) (Or.inl ⟨by rfl, ?_⟩) hS0 ?_
            rotate_left
            · intro W hSW
              obtain ⟨hs0, hs1⟩ := hSW
              go_simp
              try with_reducible rfl
            simp only [Act.put, List.setIfInBounds_toArray, List.set_cons_zero, List.set_cons_succ]
            refine wpAnyT_take (i := 13) (v := ?_) rfl (by kernel_rfl) (by kernel_rfl) (by kernel_rfl) (by kernel_rfl) (fun _ _ _ h => h) (Or.inl ⟨by rfl, ?_⟩) hS0 ?_
            rotate_left
            · intro W hSW
              obtain ⟨hs0, hs1⟩ := hSW
              go_simp
              try with_reducible rfl
            simp only [Act.put, List.setIfInBounds_toArray, List.set_cons_zero, List.set_cons_succ]
            refine wpAnyT_take0 (i := 14) (v := ?_) rfl (by kernel_rfl) (by kernel_rfl) (by kernel_rfl) (by kernel_rfl) (fun _ _ _ h => h) (Or.inl ⟨by rfl, ?_⟩) ?_
            rotate_left
            · intro W hSW
              go_simp
              try with_reducible rfl
            simp only [Act.put, List.setIfInBounds_toArray, List.set_cons_zero, List.set_cons_succ]
            refine wpAnyT_ready (rs := [15]) (by kernel_rfl) (by simp) ?_
            refine AllReadyT.cons rfl (fun K hK => ?_) ?_
            · go_simp
              refine hK.out _ _ (fun h => by cases h) ?_
              try simp only [Act.put, List.setIfInBounds_toArray, List.set_cons_zero, List.set_cons_succ]
              clear hK K
              refine wpAnyT_take0 (i := 16) (v := ?_) rfl (by kernel_rfl) (by kernel_rfl) (by kernel_rfl) (by kernel_rfl) (fun _ _ _ h => h) (Or.inl ⟨by rfl, ?_⟩) ?_
              rotate_left
              · intro W hSW
                go_simp
                try with_reducible rfl
              simp only [Act.put, List.setIfInBounds_toArray, List.set_cons_zero, List.set_cons_succ]
              refine wpAnyT_ready (rs := [17]) (by kernel_rfl) (by simp) ?_
              refine AllReadyT.cons rfl (fun K hK => ?_) ?_
              · go_simp
                refine hK.out _ _ (fun h => by cases h) ?_
                try simp only [Act.put, List.setIfInBounds_toArray, List.set_cons_zero, List.set_cons_succ]
                clear hK K
                refine wpAnyT_done (by kernel_rfl) ?_ _
                clear hS0 d0 d1 f0 f1
                go_wp2_with fail
                go_roundw
                case rel =>
                  have hlt := HLS.out.1 hv0
                  obtain ⟨l1, l2, l3⟩ := hLj.out
                  refine ⟨p, T, y :: S2, by go_num, by omega, by omega, hide ⟨?_, ?_, ?_⟩, ?_⟩
                  · rw [HS1.out] at l1; simp at l1; omega
                  · rw [l2, HS1.out]; simp
                  · intro z hz
                    rcases List.mem_cons.1 hz with rfl | hz
                    · exact hlt
                    · exact l3 z hz
                  · have := HSW.out
                    simpa using this
                case measure => simp [RowKit.intOf]
              exact AllReadyT.nil
            exact AllReadyT.nil
          · have hvd : decide (v < 0) = false := by simpa using hv0
            clear k0 k1
            go_wp2_with fail
            go_roundw
            case rel =>
              have hyx : lt y x := HC.out.ord.total x y (by omega) (fun h => hv0 (HLS.out.2 h))
              obtain ⟨o1, o2⟩ := HOUT.out (fun z hz => by rw [HS1.out] at hz; simp at hz; subst hz; exact hyx)
              exact ⟨c + 1, S1 ++ x :: S2, by go_num, by omega, by omega, o1, o2 _ (HRJ.out.below HW.out)⟩
            case measure => simp [RowKit.intOf]; omega
    · obtain rfl : b = c := by omega
      clear hr
      go_wp2_with fail
      go_end0
      have h := HR.out
      have hlD : S.length = D.length := by have := hL.out.1; have := HB.out; omega
      rw [hlD, List.drop_eq_nil_of_le (Nat.le_refl _), List.nil_append] at h
      have hp := hL.out.2.1
      rw [hlD, List.take_of_length_le (Nat.le_refl _)] at hp
      exact ⟨rfl, S, hp, hL.out.2.2, h⟩
end
end Go.Proofs.YtmfohnchnbgbaaaGreat
