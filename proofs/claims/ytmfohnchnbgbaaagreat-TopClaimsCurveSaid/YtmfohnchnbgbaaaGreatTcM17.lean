/- Part 17 of the proof. -/
import Derived.Test.YtmfohnchnbgbaaaGreatTcM16
/- Sorting: two sorted parts become one, where one of them has one element. -/
namespace Go.Proofs.YtmfohnchnbgbaaaGreat
open Go.RowKit
section
variable {α : Type} {val : α → Stp} {w0 : World} {B g n cap : Nat} {lt : α → α → Prop} {pos : α → Nat} {U : α → Prop} {cf : α → α → Int}
theorem CmpS.cls (hc : CmpS val lt pos U cf) {l : List α} {wr : World} (_hr : SrtS val w0 B g n cap l wr) {x y : α} (hx : U x) (hy : U y) (W : World) (hW : Below wr.heap.size wr W) :
    Calls Tryz.prog 63 #[.agg #[.int .i64 (val x).f, .int .i64 (val x).b, .int .i64 (val x).k, .int .i64 (val x).m], .agg #[.int .i64 (val y).f, .int .i64 (val y).b, .int .i64 (val y).k, .int .i64 (val y).m]] W fun e w' => e = .returned (.int .i64 (cf x y)) ∧ Below wr.heap.size wr w' :=
  (hc.calls W x y hx hy).mono fun _ _ h => ⟨h.1, chain hW h.2⟩
def SymS (val : α → Stp) (lt : α → α → Prop) (w0 : World) (B g n cap : Nat) (P L R : List α) (e : Ending) (w' : World) : Prop := e = .returned (.tuple #[]) ∧ ∃ S : List α, S.Perm L ∧ S.Pairwise lt ∧ SrtS val w0 B g n cap (P ++ (S ++ R)) w'

set_option linter.unusedSimpArgs false in
set_option maxRecDepth 100000 in
set_option maxHeartbeats 8000000 in
theorem sym1S_any (hc : CmpS val lt pos U cf) (P C R : List α) (x : α) (a m b : Nat) (ha : a = P.length) (hm : m = a + 1) (hb : b = m + C.length) (hC : C.Pairwise lt) (hxC : ∀ y ∈ C, pos x < pos y) (hUx : U x) (hUC : ∀ y ∈ C, U y) (hn : n ≤ 1000000) (w : World) (hs : SrtS val w0 B g n cap (P ++ (x :: (C ++ R))) w) :
    Calls Tryz.prog 175 #[.slice (some ⟨g, 0, none⟩) n cap, .int .i64 a, .int .i64 m, .int .i64 b, .func (.func 63) #[] #[]] w (SymS val lt w0 B g n cap P (x :: C) R) := by
  have hlen := hs.len
  simp only [List.length_append, List.length_cons] at hlen
  have hcap := hs.own.cap_le
  have hmx : cap ≤ 9223372036854775807 := by have := hcap.2; simp [maxLen] at this; exact this
  have HS := hide hs
  have HA := hide ha
  have HB := hide hb
  have HM := hide hm
  have HC := hide hc
  have HSC := hide hC
  have HXC := hide hxC
  have HUC := hide hUC
  have hbn : b ≤ n := by omega
  have hmb : m ≤ b := by omega
  have hma : (m : Int) - (a : Int) = 1 := by omega
  have hab : a < b ∨ a < n := by omega
  have han : a < n := by omega
  have ham : a < m := by omega
  clear hs ha hb hm hc hC hxC hUC hlen hab
  go_enter Tryz.func175, Tryz.ntmps175
  go_wp2_with fail
  go_loopw [10, 11] (fun p q wr => ∃ i j : Nat, p = .int .i64 i ∧ q = .int .i64 j ∧ m ≤ i ∧ i ≤ j ∧ j ≤ b ∧ Hid ((∀ t y, C[t]? = some y → m + t < i → lt y x) ∧ (∀ t y, C[t]? = some y → j ≤ m + t → lt x y)) ∧ SrtS val w0 B g n cap (P ++ (x :: (C ++ R))) wr) (fun p q _ => (RowKit.intOf q - RowKit.intOf p).toNat)
  case atStart => exact ⟨m, b, rfl, rfl, Nat.le_refl _, hmb, Nat.le_refl _, hide ⟨fun t y _ h => by omega, fun t y h1 h2 => by have := lt_of_get h1; have := HB.out; omega⟩, HS.out⟩
  case round =>
    obtain ⟨i, j, rfl, rfl, hi, hij, hjb, hL, hr⟩ := hrel
    have HR := hide hr
    by_cases hlt : i < j
    · obtain ⟨h, hh⟩ : ∃ h, (i + j) / 2 = h := ⟨_, rfl⟩
      have hh1 : i ≤ h := by omega
      have hh2 : h < j := by omega
      have hhz : ((i : Int) + (j : Int)) / 2 = (h : Int) := by omega
      obtain ⟨y, hy⟩ := get_of (l := C) (k := h - m) (by have := HB.out; omega)
      have hyC := List.mem_of_getElem? hy
      have c0 := hr.at (i := h) (x := y) (by
        have e : P ++ (x :: (C ++ R)) = (P ++ [x]) ++ (C ++ R) := by simp
        rw [e, List.getElem?_append_right (by have := HA.out; have := HM.out; simp; omega), List.getElem?_append_left (by have := HB.out; have := HA.out; have := HM.out; simp; omega)]
        rw [← hy]; congr 1; have := HA.out; have := HM.out; simp; omega)
      have c1 := hr.at (i := a) (x := x) (get_mid' HA.out)
      have hcl := HC.out.cls hr (HUC.out y hyC) hUx
      have hls := HC.out.less y x (HUC.out y hyC) hUx (HXC.out y hyC)
      have hbd := HC.out.bd y x
      obtain ⟨v, hv⟩ : ∃ v, cf y x = v := ⟨_, rfl⟩
      rw [hv] at hcl hls hbd
      have HCL := hide hcl
      have HLS := hide hls
      have HY := hide hy
      have h63 : (i : Int) + (j : Int) ≤ 2000000 := by omega
      have hhi : (0 : Int) ≤ (h : Int) := by omega
      have hhn : (h : Int) < (n : Int) := by omega
      have hai : (0 : Int) ≤ (a : Int) := by omega
      have hani : (a : Int) < (n : Int) := by omega
      clear hr hcl hls hy hyC hv hh
      obtain ⟨c00, c01, c02, c03⟩ := c0
      obtain ⟨c10, c11, c12, c13⟩ := c1
      go_wp2_with fail
      refine wp_region_class (fun W => Below wr.heap.size wr W) (by kernel_rfl) (by kernel_rfl) (Below.refl _ _).drew ?_
      repeat (first
        | go_big_quiet_skip
        | (go_big_quiet_want
           first
             | (go_big_quiet_op
                go_big_quiet_on)
             | (refine quiet_call (v := .int .i64 v) (f := 63) (args := #[.agg #[.int .i64 (val y).f, .int .i64 (val y).b, .int .i64 (val y).k, .int .i64 (val y).m], .agg #[.int .i64 (val x).f, .int .i64 (val x).b, .int .i64 (val x).k, .int .i64 (val x).m]]) ?_ ?_ ?_
                · intro W hW
                  have c00 := kept hW c00
                  have c01 := kept hW c01
                  have c02 := kept hW c02
                  have c03 := kept hW c03
                  have c10 := kept hW c10
                  have c11 := kept hW c11
                  have c12 := kept hW c12
                  have c13 := kept hW c13
                  clear hW
                  go_simp
                  done
                · intro W hW
                  exact HCL.out W hW
                simp only [Act.put, List.setIfInBounds_toArray, List.set_cons_zero, List.set_cons_succ]
                go_big_quiet_on)
             | (refine quiet_yield (v := ?_) ?_ ?_
                rotate_left
                · intro W hW
                  have c00 := kept hW c00
                  have c01 := kept hW c01
                  have c02 := kept hW c02
                  have c03 := kept hW c03
                  have c10 := kept hW c10
                  have c11 := kept hW c11
                  have c12 := kept hW c12
                  have c13 := kept hW c13
                  clear hW
                  go_simp
                  try with_reducible rfl
                simp only [Act.put, List.setIfInBounds_toArray, List.set_cons_zero, List.set_cons_succ]
                go_big_quiet_on)))
      refine wpQuiet_nil ?_
      intro W hW
      have HW := hide hW
      clear hW c00 c01 c02 c03 c10 c11 c12 c13
      by_cases hv0 : v < 0
      · have hvd : decide (v < 0) = true := by simpa using hv0
        go_wp2_with fail
        go_roundw
        case rel =>
          exact ⟨h + 1, j, by go_num, rfl, by omega, by omega, hjb, hide ⟨fun t z hz hlt => by
            have hyx := HLS.out.1 hv0
            rcases Nat.lt_or_ge t (h - m) with h5 | h5
            · have h6 := List.pairwise_iff_getElem.1 HSC.out t (h - m) (lt_of_get hz) (lt_of_get HY.out) h5
              have e1 := (List.getElem?_eq_some_iff.1 hz).2
              have e2 := (List.getElem?_eq_some_iff.1 HY.out).2
              rw [e1, e2] at h6
              exact HC.out.ord.trans _ _ _ h6 hyx
            · have : t = h - m := by omega
              subst this
              rw [HY.out] at hz; cases hz; exact hyx, hL.out.2⟩, HR.out.below HW.out⟩
        case measure => simp [RowKit.intOf]; omega
      · have hvd : decide (v < 0) = false := by simpa using hv0
        go_wp2_with fail
        go_roundw
        case rel =>
          exact ⟨i, h, rfl, by go_num, hi, hh1, by omega, hide ⟨hL.out.1, fun t z hz hlt => by
            have hxy : lt x y := HC.out.ord.total y x (by have := HXC.out y (List.mem_of_getElem? HY.out); omega) (fun h => hv0 (HLS.out.2 h))
            rcases Nat.lt_or_ge (h - m) t with h5 | h5
            · have h6 := List.pairwise_iff_getElem.1 HSC.out (h - m) t (lt_of_get HY.out) (lt_of_get hz) h5
              have e1 := (List.getElem?_eq_some_iff.1 hz).2
              have e2 := (List.getElem?_eq_some_iff.1 HY.out).2
              rw [e1, e2] at h6
              exact HC.out.ord.trans _ _ _ hxy h6
            · have : t = h - m := by omega
              subst this
              rw [HY.out] at hz; cases hz; exact hxy⟩, HR.out.below HW.out⟩
        case measure => simp [RowKit.intOf]; omega
    · obtain rfl : i = j := by omega
      have hij2 : ¬ (i : Int) < (i : Int) := by omega
      obtain ⟨i', hi'⟩ : ∃ i', i = i' + 1 := ⟨i - 1, by omega⟩
      have hi1 : (i : Int) - 1 = (i' : Int) := by omega
      have hi1n : (i' : Int) ≤ 1000000 := by omega
      have HI := hide hi'
      clear hr hlt hi'
      go_wp2_with fail
      go_loopw [13] (fun q ws => ∃ k t : Nat, q = .int .i64 k ∧ t ≤ i - m ∧ Hid (k = a + t) ∧ SrtS val w0 B g n cap (P ++ (C.take t ++ x :: (C.drop t ++ R))) ws) (fun q _ => n - (RowKit.intOf q).toNat)
      case atStart => exact ⟨a, 0, rfl, Nat.zero_le _, hide rfl, by simpa using HR.out⟩
      case round =>
        obtain ⟨k, t, rfl, ht, hk, hr⟩ := hrel
        have HR2 := hide hr
        by_cases hlt : k < i'
        · have hki : (k : Int) < (i' : Int) := by omega
          obtain ⟨y, hy⟩ := get_of (l := C) (k := t) (by have := hk.out; have := HI.out; have := HB.out; have := HM.out; omega)
          have HL := hide (show k = (P ++ C.take t).length by have := lt_of_get hy; have := hk.out; have := HA.out; simp; omega)
          have HRx := hide (show SrtS val w0 B g n cap ((P ++ C.take t) ++ x :: ([] ++ y :: (C.drop (t + 1) ++ R))) wr by
            have h := hr
            rw [drop_of hy] at h
            simpa using h)
          have HT := hide (take_of hy)
          have hk0 : (0 : Int) ≤ (k : Int) := by omega
          have hk1 : (k : Int) < (n : Int) := by omega
          have hk2 : (0 : Int) ≤ (k : Int) + 1 := by omega
          have hk3 : (k : Int) + 1 < (n : Int) := by omega
          have hwk : IntKind.i64.wrap ((k : Int) + 1) = (k : Int) + 1 := IntWalk.i64_in _ (by omega)
          have hwk0 : IntKind.i64.wrap (k : Int) = (k : Int) := IntWalk.i64_in _ (by omega)
          have hkn : ((k : Int) + 1).toNat = k + 1 := by omega
          clear hr hy
          have hrW := HRx.out.drew
          have hsw := hrW.swap (i := k) (j := k + 1) HL.out (by rw [HL.out]; simp)
          have dz0 := HRx.out.at (get_mid' HL.out)
          have dz1 := HRx.out.at (i := k + 1) (x := y) (by
            rw [List.nil_append, ← List.singleton_append, ← List.append_assoc]
            exact get_mid' (by rw [HL.out]; simp <;> omega))
          obtain ⟨WD, hWD⟩ : ∃ X, (wr).drew = X := ⟨_, rfl⟩
          rw [hWD] at hsw
          simp only [put4] at hsw
          have dw0 : At4 WD g k (val x) := by rw [← hWD]; exact ⟨dz0.a, dz0.b, dz0.c, dz0.d⟩
          have dw1 : At4 WD g (k + 1) (val y) := by rw [← hWD]; exact ⟨dz1.a, dz1.b, dz1.c, dz1.d⟩
          obtain ⟨d0, d1, d2, d3⟩ := dw0
          obtain ⟨d4, d5, d6, d7⟩ := dw1
          have f0 : WD.frozen? ⟨g, (k) * 4, none⟩ = false := by rw [← hWD]; exact hrW.fz _
          have f1 : WD.frozen? ⟨g, (k) * 4 + 1, none⟩ = false := by rw [← hWD]; exact hrW.fz _
          have f2 : WD.frozen? ⟨g, (k) * 4 + 2, none⟩ = false := by rw [← hWD]; exact hrW.fz _
          have f3 : WD.frozen? ⟨g, (k) * 4 + 3, none⟩ = false := by rw [← hWD]; exact hrW.fz _
          have f4 : WD.frozen? ⟨g, (k + 1) * 4, none⟩ = false := by rw [← hWD]; exact hrW.fz _
          have f5 : WD.frozen? ⟨g, (k + 1) * 4 + 1, none⟩ = false := by rw [← hWD]; exact hrW.fz _
          have f6 : WD.frozen? ⟨g, (k + 1) * 4 + 2, none⟩ = false := by rw [← hWD]; exact hrW.fz _
          have f7 : WD.frozen? ⟨g, (k + 1) * 4 + 3, none⟩ = false := by rw [← hWD]; exact hrW.fz _
          have HSW := hide hsw
          have hE0 : (fun X : World => X.cell? ⟨g, (k) * 4, none⟩ = some (.int .i64 (val x).f) ∧ X.cell? ⟨g, (k) * 4 + 1, none⟩ = some (.int .i64 (val x).b) ∧ X.cell? ⟨g, (k) * 4 + 2, none⟩ = some (.int .i64 (val x).k) ∧ X.cell? ⟨g, (k) * 4 + 3, none⟩ = some (.int .i64 (val x).m) ∧ X.cell? ⟨g, (k + 1) * 4, none⟩ = some (.int .i64 (val y).f) ∧ X.cell? ⟨g, (k + 1) * 4 + 1, none⟩ = some (.int .i64 (val y).b) ∧ X.cell? ⟨g, (k + 1) * 4 + 2, none⟩ = some (.int .i64 (val y).k) ∧ X.cell? ⟨g, (k + 1) * 4 + 3, none⟩ = some (.int .i64 (val y).m)) WD := ⟨d0, d1, d2, d3, d4, d5, d6, d7⟩
          simp only at hE0
          have HWD := hide hWD
          clear hrW hsw hWD dz0 dz1
          go_wp2_with fail
          refine wp_region_T (fun X : World => X.cell? ⟨g, (k) * 4, none⟩ = some (.int .i64 (val x).f) ∧ X.cell? ⟨g, (k) * 4 + 1, none⟩ = some (.int .i64 (val x).b) ∧ X.cell? ⟨g, (k) * 4 + 2, none⟩ = some (.int .i64 (val x).k) ∧ X.cell? ⟨g, (k) * 4 + 3, none⟩ = some (.int .i64 (val x).m) ∧ X.cell? ⟨g, (k + 1) * 4, none⟩ = some (.int .i64 (val y).f) ∧ X.cell? ⟨g, (k + 1) * 4 + 1, none⟩ = some (.int .i64 (val y).b) ∧ X.cell? ⟨g, (k + 1) * 4 + 2, none⟩ = some (.int .i64 (val y).k) ∧ X.cell? ⟨g, (k + 1) * 4 + 3, none⟩ = some (.int .i64 (val y).m)) [0, 1, 2, 3, 4, 5, 6, 7, 8, 10, 11, 12, 14, 15, 16, 17] rfl (by kernel_rfl) ?_
          rw [HWD.out]
          refine wpAnyT_take0 (i := 0) (v := ?_) rfl (by kernel_rfl) (by kernel_rfl) (by kernel_rfl) (by kernel_rfl) (fun _ _ _ h => h) (Or.inl ⟨by rfl, ?_⟩) ?_
          rotate_left
          · intro W hSW
            go_simp
            try with_reducible rfl
          simp only [Act.put, List.setIfInBounds_toArray, List.set_cons_zero, List.set_cons_succ]
          refine wpAnyT_take0 (i := 1) (v := ?_) rfl (by kernel_rfl) (by kernel_rfl) (by kernel_rfl) (by kernel_rfl) (fun _ _ _ h => h) (Or.inl ⟨by rfl, ?_⟩) ?_
          rotate_left
          · intro W hSW
            go_simp
            try with_reducible rfl
          simp only [Act.put, List.setIfInBounds_toArray, List.set_cons_zero, List.set_cons_succ]
          refine wpAnyT_take0 (i := 2) (v := ?_) rfl (by kernel_rfl) (by kernel_rfl) (by kernel_rfl) (by kernel_rfl) (fun _ _ _ h => h) (Or.inl ⟨by rfl, ?_⟩) ?_
          rotate_left
          · intro W hSW
            go_simp
            try with_reducible rfl
          simp only [Act.put, List.setIfInBounds_toArray, List.set_cons_zero, List.set_cons_succ]
          refine wpAnyT_take0 (i := 3) (v := ?_) rfl (by kernel_rfl) (by kernel_rfl) (by kernel_rfl) (by kernel_rfl) (fun _ _ _ h => h) (Or.inl ⟨by rfl, ?_⟩) ?_
          rotate_left
          · intro W hSW
            go_simp
            try with_reducible rfl
          simp only [Act.put, List.setIfInBounds_toArray, List.set_cons_zero, List.set_cons_succ]
          refine wpAnyT_take0 (i := 5) (v := ?_) rfl (by kernel_rfl) (by kernel_rfl) (by kernel_rfl) (by kernel_rfl) (fun _ _ _ h => h) (Or.inl ⟨by rfl, ?_⟩) ?_
          rotate_left
          · intro W hSW
            go_simp
            try with_reducible rfl
          simp only [Act.put, List.setIfInBounds_toArray, List.set_cons_zero, List.set_cons_succ]
          refine wpAnyT_take0 (i := 6) (v := ?_) rfl (by kernel_rfl) (by kernel_rfl) (by kernel_rfl) (by kernel_rfl) (fun _ _ _ h => h) (Or.inl ⟨by rfl, ?_⟩) ?_
          rotate_left
          · intro W hSW
            go_simp
            try with_reducible rfl
          simp only [Act.put, List.setIfInBounds_toArray, List.set_cons_zero, List.set_cons_succ]
          refine wpAnyT_take0 (i := 10) (v := ?_) rfl (by kernel_rfl) (by kernel_rfl) (by kernel_rfl) (by kernel_rfl) (fun _ _ _ h => h) (Or.inl ⟨by rfl, ?_⟩) ?_
          rotate_left
          · intro W hSW
            go_simp
            try with_reducible rfl
          simp only [Act.put, List.setIfInBounds_toArray, List.set_cons_zero, List.set_cons_succ]
          refine wpAnyT_take0 (i := 11) (v := ?_) rfl (by kernel_rfl) (by kernel_rfl) (by kernel_rfl) (by kernel_rfl) (fun _ _ _ h => h) (Or.inl ⟨by rfl, ?_⟩) ?_
          rotate_left
          · intro W hSW
            go_simp
            try with_reducible rfl
          simp only [Act.put, List.setIfInBounds_toArray, List.set_cons_zero, List.set_cons_succ]
          refine wpAnyT_take0 (i := 4) (v := ?_) rfl (by kernel_rfl) (by kernel_rfl) (by kernel_rfl) (by kernel_rfl) (fun _ _ _ h => h) (Or.inl ⟨by rfl, ?_⟩) ?_
          rotate_left
          · intro W hSW
            go_simp
            try with_reducible rfl
          simp only [Act.put, List.setIfInBounds_toArray, List.set_cons_zero, List.set_cons_succ]
          refine wpAnyT_take0 (i := 7) (v := ?_) rfl (by kernel_rfl) (by kernel_rfl) (by kernel_rfl) (by kernel_rfl) (fun _ _ _ h => h) (Or.inl ⟨by rfl, ?_⟩) ?_
          rotate_left
          · intro W hSW
            go_simp
            try with_reducible rfl
          simp only [Act.put, List.setIfInBounds_toArray, List.set_cons_zero, List.set_cons_succ]
          refine wpAnyT_take0 (i := 8) (v := ?_) rfl (by kernel_rfl) (by kernel_rfl) (by kernel_rfl) (by kernel_rfl) (fun _ _ _ h => h) (Or.inl ⟨by rfl, ?_⟩) ?_
          rotate_left
          · intro W hSW
            go_simp
            try with_reducible rfl
          simp only [Act.put, List.setIfInBounds_toArray, List.set_cons_zero, List.set_cons_succ]
          refine wpAnyT_take0 (i := 12) (v := ?_) rfl (by kernel_rfl) (by kernel_rfl) (by kernel_rfl) (by kernel_rfl) (fun _ _ _ h => h) (Or.inl ⟨by rfl, ?_⟩) ?_
          rotate_left
          · intro W hSW
            go_simp
            try with_reducible rfl
          simp only [Act.put, List.setIfInBounds_toArray, List.set_cons_zero, List.set_cons_succ]
          refine wpAnyT_take (i := 9) (v := ?_) rfl (by kernel_rfl) (by kernel_rfl) (by kernel_rfl) (by kernel_rfl) (fun _ _ _ h => h) (Or.inl ⟨by rfl, ?_⟩) hE0 ?_
          rotate_left
          · intro W hSW
            obtain ⟨hs0, hs1, hs2, hs3, hs4, hs5, hs6, hs7⟩ := hSW
            go_simp
            try with_reducible rfl
          simp only [Act.put, List.setIfInBounds_toArray, List.set_cons_zero, List.set_cons_succ]
          refine wpAnyT_take (i := 13) (v := ?_) rfl (by kernel_rfl) (by kernel_rfl) (by kernel_rfl) (by kernel_rfl) (fun _ _ _ h => h) (Or.inl ⟨by rfl, ?_⟩) hE0 ?_
          rotate_left
          · intro W hSW
            obtain ⟨hs0, hs1, hs2, hs3, hs4, hs5, hs6, hs7⟩ := hSW
            go_simp
            try with_reducible rfl
          simp only [Act.put, List.setIfInBounds_toArray, List.set_cons_zero, List.set_cons_succ]
          refine wpAnyT_take0 (i := 14) (v := ?_) rfl (by kernel_rfl) (by kernel_rfl) (by kernel_rfl) (by kernel_rfl) (fun _ _ _ h => h) (Or.inl ⟨by rfl, ?_⟩) ?_
          rotate_left
          · intro W hSW
            go_simp
            try with_reducible rfl
          simp only [Act.put, List.setIfInBounds_toArray, List.set_cons_zero, List.set_cons_succ]
          refine wpAnyT_ready (rs := [15]) (by kernel_rfl) (by simp) ?_
          refine AllReadyT.cons rfl (fun K hK => ?_) ?_
          · go_simp
            refine hK.out _ _ (fun h => by cases h) ?_
            try simp only [Act.put, List.setIfInBounds_toArray, List.set_cons_zero, List.set_cons_succ]
            clear hK K
            refine wpAnyT_take0 (i := 16) (v := ?_) rfl (by kernel_rfl) (by kernel_rfl) (by kernel_rfl) (by kernel_rfl) (fun _ _ _ h => h) (Or.inl ⟨by rfl, ?_⟩) ?_
            rotate_left
            · intro W hSW
              go_simp
              try with_reducible rfl
            simp only [Act.put, List.setIfInBounds_toArray, List.set_cons_zero, List.set_cons_succ]
            refine wpAnyT_ready (rs := [17]) (by kernel_rfl) (by simp) ?_
            refine AllReadyT.cons rfl (fun K hK => ?_) ?_
            · go_simp
              refine hK.out _ _ (fun h => by cases h) ?_
              try simp only [Act.put, List.setIfInBounds_toArray, List.set_cons_zero, List.set_cons_succ]
              clear hK K
              refine wpAnyT_done (by kernel_rfl) ?_ _
              clear hE0 d0 d1 d2 d3 d4 d5 d6 d7 f0 f1 f2 f3 f4 f5 f6 f7
              clear hwk hwk0 hkn
              go_wp2_with fail
              go_roundw
              case rel => exact ⟨k + 1, t + 1, by go_num, by have := hk.out; have := HI.out; have := HM.out; omega, hide (by have := hk.out; omega), by
                have h := HSW.out
                rw [HT.out]
                simpa using h⟩
              case measure => simp [RowKit.intOf]; omega
            exact AllReadyT.nil
          exact AllReadyT.nil
        · have hki : ¬ (k : Int) < (i' : Int) := by omega
          clear hr
          go_wp2_with fail
          go_end0
          have htt : t = i - m := by have := hk.out; have := HI.out; have := HM.out; omega
          have hsplit : C.take t ++ C.drop t = C := List.take_append_drop t C
          refine ⟨rfl, C.take t ++ x :: C.drop t, ?_, put_sorted (by rw [hsplit]; exact HSC.out) (fun y hy => ?_) (fun y hy => ?_), by simpa using HR2.out⟩
          · exact (perm_mid _ _ _).trans (by rw [hsplit])
          · obtain ⟨q, hq, hq2⟩ := mem_take_at hy
            exact hL.out.1 q y hq2 (by omega)
          · obtain ⟨q, hq, hq2⟩ := mem_drop_at hy
            exact hL.out.2 q y hq2 (by omega)

set_option linter.unusedSimpArgs false in
set_option maxRecDepth 100000 in
set_option maxHeartbeats 8000000 in
theorem sym2S_any (hc : CmpS val lt pos U cf) (P A R : List α) (y : α) (a m b : Nat) (ha : a = P.length) (hm : m = a + A.length) (hb : b = m + 1) (hA2 : 2 ≤ A.length) (hA : A.Pairwise lt) (hxA : ∀ x ∈ A, pos x < pos y) (hUy : U y) (hUA : ∀ x ∈ A, U x) (hn : n ≤ 1000000) (w : World) (hs : SrtS val w0 B g n cap (P ++ (A ++ y :: R)) w) :
    Calls Tryz.prog 175 #[.slice (some ⟨g, 0, none⟩) n cap, .int .i64 a, .int .i64 m, .int .i64 b, .func (.func 63) #[] #[]] w (SymS val lt w0 B g n cap P (A ++ [y]) R) := by
  have hlen := hs.len
  simp only [List.length_append, List.length_cons] at hlen
  have hcap := hs.own.cap_le
  have hmx : cap ≤ 9223372036854775807 := by have := hcap.2; simp [maxLen] at this; exact this
  have HS := hide hs
  have HA := hide ha
  have HB := hide hb
  have HM := hide hm
  have HC := hide hc
  have HSA := hide hA
  have HXA := hide hxA
  have HUA := hide hUA
  have hbn : b ≤ n := by omega
  have hmn : m < n := by omega
  have ham : a < m := by omega
  have hma : (m : Int) - (a : Int) = ((m - a : Nat) : Int) := by omega
  have hma1 : (((m - a : Nat) : Int) == 1) = false := by simp; omega
  have hbm : (b : Int) - (m : Int) = 1 := by omega
  obtain ⟨ma, hma0⟩ : ∃ q, m - a = q := ⟨_, rfl⟩
  rw [hma0] at hma hma1
  have hma2 : ma ≤ 1000000 := by omega
  clear hs ha hb hm hc hA hxA hUA hlen hma0 hA2
  go_enter Tryz.func175, Tryz.ntmps175
  go_wp2_with fail
  go_loopw [14, 15] (fun p q wr => ∃ i j : Nat, p = .int .i64 i ∧ q = .int .i64 j ∧ a ≤ i ∧ i ≤ j ∧ j ≤ m ∧ Hid ((∀ t x, A[t]? = some x → a + t < i → lt x y) ∧ (∀ t x, A[t]? = some x → j ≤ a + t → lt y x)) ∧ SrtS val w0 B g n cap (P ++ (A ++ y :: R)) wr) (fun p q _ => (RowKit.intOf q - RowKit.intOf p).toNat)
  case atStart => exact ⟨a, m, rfl, rfl, Nat.le_refl _, by omega, Nat.le_refl _, hide ⟨fun t y _ h => by omega, fun t y h1 h2 => by have := lt_of_get h1; have := HM.out; omega⟩, HS.out⟩
  case round =>
    obtain ⟨i, j, rfl, rfl, hi, hij, hjb, hL, hr⟩ := hrel
    have HR := hide hr
    by_cases hlt : i < j
    · obtain ⟨h, hh⟩ : ∃ h, (i + j) / 2 = h := ⟨_, rfl⟩
      have hh1 : i ≤ h := by omega
      have hh2 : h < j := by omega
      have hhz : ((i : Int) + (j : Int)) / 2 = (h : Int) := by omega
      obtain ⟨x, hx⟩ := get_of (l := A) (k := h - a) (by have := HM.out; omega)
      have hxA := List.mem_of_getElem? hx
      have c0 := hr.at (i := h) (x := x) (by
        rw [List.getElem?_append_right (by have := HA.out; omega), List.getElem?_append_left (by have := HM.out; have := HA.out; omega)]
        rw [← hx]; congr 1; have := HA.out; omega)
      have c1 := hr.at (i := m) (x := y) (by
        rw [← List.append_assoc]
        exact get_mid' (by have := HA.out; have := HM.out; simp; omega))
      have hcl := HC.out.cls hr hUy (HUA.out x hxA)
      have hls := HC.out.less y x hUy (HUA.out x hxA) (HXA.out x hxA)
      have hbd := HC.out.bd y x
      obtain ⟨v, hv⟩ : ∃ v, cf y x = v := ⟨_, rfl⟩
      rw [hv] at hcl hls hbd
      have HCL := hide hcl
      have HLS := hide hls
      have HY := hide hx
      have h63 : (i : Int) + (j : Int) ≤ 2000000 := by omega
      have hhi : (0 : Int) ≤ (h : Int) := by omega
      have hhn : (h : Int) < (n : Int) := by omega
      have hai : (0 : Int) ≤ (m : Int) := by omega
      have hani : (m : Int) < (n : Int) := by omega
      clear hr hcl hls hx hxA hv hh
      rcases (show v = -1 ∨ v = 0 ∨ v = 1 by omega) with rfl | rfl | rfl
      · obtain ⟨c00, c01, c02, c03⟩ := c0
        obtain ⟨c10, c11, c12, c13⟩ := c1
        go_wp2_with fail
        refine wp_region_class (fun W => Below wr.heap.size wr W) (by kernel_rfl) (by kernel_rfl) (Below.refl _ _).drew ?_
        repeat (first
          | go_big_quiet_skip
          | (go_big_quiet_want
             first
               | (go_big_quiet_op
                  go_big_quiet_on)
               | (refine quiet_call (v := .int .i64 (-1)) (f := 63) (args := #[.agg #[.int .i64 (val y).f, .int .i64 (val y).b, .int .i64 (val y).k, .int .i64 (val y).m], .agg #[.int .i64 (val x).f, .int .i64 (val x).b, .int .i64 (val x).k, .int .i64 (val x).m]]) ?_ ?_ ?_
                  · intro W hW
                    have c00 := kept hW c00
                    have c01 := kept hW c01
                    have c02 := kept hW c02
                    have c03 := kept hW c03
                    have c10 := kept hW c10
                    have c11 := kept hW c11
                    have c12 := kept hW c12
                    have c13 := kept hW c13
                    clear hW
                    go_simp
                    done
                  · intro W hW
                    exact HCL.out W hW
                  simp only [Act.put, List.setIfInBounds_toArray, List.set_cons_zero, List.set_cons_succ]
                  go_big_quiet_on)
               | (refine quiet_yield (v := ?_) ?_ ?_
                  rotate_left
                  · intro W hW
                    have c00 := kept hW c00
                    have c01 := kept hW c01
                    have c02 := kept hW c02
                    have c03 := kept hW c03
                    have c10 := kept hW c10
                    have c11 := kept hW c11
                    have c12 := kept hW c12
                    have c13 := kept hW c13
                    clear hW
                    go_simp
                    try with_reducible rfl
                  simp only [Act.put, List.setIfInBounds_toArray, List.set_cons_zero, List.set_cons_succ]
                  go_big_quiet_on)))
        refine wpQuiet_nil ?_
        intro W hW
        have HW := hide hW
        clear hW c00 c01 c02 c03 c10 c11 c12 c13
        go_wp2_with fail
        go_roundw
        case rel =>
          exact ⟨i, h, rfl, by go_num, hi, hh1, by omega, hide ⟨hL.out.1, fun t z hz hlt => by
            have hyx := HLS.out.1 (by omega)
            rcases Nat.lt_or_ge (h - a) t with h5 | h5
            · have h6 := List.pairwise_iff_getElem.1 HSA.out (h - a) t (lt_of_get HY.out) (lt_of_get hz) h5
              have e1 := (List.getElem?_eq_some_iff.1 hz).2
              have e2 := (List.getElem?_eq_some_iff.1 HY.out).2
              rw [e1, e2] at h6
              exact HC.out.ord.trans _ _ _ hyx h6
            · have : t = h - a := by omega
              subst this
              rw [HY.out] at hz; cases hz; exact hyx⟩, HR.out.below HW.out⟩
        case measure => simp [RowKit.intOf]; omega
      · obtain ⟨c00, c01, c02, c03⟩ := c0
        obtain ⟨c10, c11, c12, c13⟩ := c1
        go_wp2_with fail
        refine wp_region_class (fun W => Below wr.heap.size wr W) (by kernel_rfl) (by kernel_rfl) (Below.refl _ _).drew ?_
        repeat (first
          | go_big_quiet_skip
          | (go_big_quiet_want
             first
               | (go_big_quiet_op
                  go_big_quiet_on)
               | (refine quiet_call (v := .int .i64 0) (f := 63) (args := #[.agg #[.int .i64 (val y).f, .int .i64 (val y).b, .int .i64 (val y).k, .int .i64 (val y).m], .agg #[.int .i64 (val x).f, .int .i64 (val x).b, .int .i64 (val x).k, .int .i64 (val x).m]]) ?_ ?_ ?_
                  · intro W hW
                    have c00 := kept hW c00
                    have c01 := kept hW c01
                    have c02 := kept hW c02
                    have c03 := kept hW c03
                    have c10 := kept hW c10
                    have c11 := kept hW c11
                    have c12 := kept hW c12
                    have c13 := kept hW c13
                    clear hW
                    go_simp
                    done
                  · intro W hW
                    exact HCL.out W hW
                  simp only [Act.put, List.setIfInBounds_toArray, List.set_cons_zero, List.set_cons_succ]
                  go_big_quiet_on)
               | (refine quiet_yield (v := ?_) ?_ ?_
                  rotate_left
                  · intro W hW
                    have c00 := kept hW c00
                    have c01 := kept hW c01
                    have c02 := kept hW c02
                    have c03 := kept hW c03
                    have c10 := kept hW c10
                    have c11 := kept hW c11
                    have c12 := kept hW c12
                    have c13 := kept hW c13
                    clear hW
                    go_simp
                    try with_reducible rfl
                  simp only [Act.put, List.setIfInBounds_toArray, List.set_cons_zero, List.set_cons_succ]
                  go_big_quiet_on)))
        refine wpQuiet_nil ?_
        intro W hW
        have HW := hide hW
        clear hW c00 c01 c02 c03 c10 c11 c12 c13
        go_wp2_with fail
        go_roundw
        case rel =>
          exact ⟨h + 1, j, by go_num, rfl, by omega, by omega, hjb, hide ⟨fun t z hz hlt => by
            have hxy : lt x y := HC.out.ord.total y x (by have := HXA.out x (List.mem_of_getElem? HY.out); omega) (fun h => absurd (HLS.out.2 h) (by omega))
            rcases Nat.lt_or_ge t (h - a) with h5 | h5
            · have h6 := List.pairwise_iff_getElem.1 HSA.out t (h - a) (lt_of_get hz) (lt_of_get HY.out) h5
              have e1 := (List.getElem?_eq_some_iff.1 hz).2
              have e2 := (List.getElem?_eq_some_iff.1 HY.out).2
              rw [e1, e2] at h6
              exact HC.out.ord.trans _ _ _ h6 hxy
            · have : t = h - a := by omega
              subst this
              rw [HY.out] at hz; cases hz; exact hxy, hL.out.2⟩, HR.out.below HW.out⟩
        case measure => simp [RowKit.intOf]; omega
      · obtain ⟨c00, c01, c02, c03⟩ := c0
        obtain ⟨c10, c11, c12, c13⟩ := c1
        go_wp2_with fail
        refine wp_region_class (fun W => Below wr.heap.size wr W) (by kernel_rfl) (by kernel_rfl) (Below.refl _ _).drew ?_
        repeat (first
          | go_big_quiet_skip
          | (go_big_quiet_want
             first
               | (go_big_quiet_op
                  go_big_quiet_on)
               | (refine quiet_call (v := .int .i64 1) (f := 63) (args := #[.agg #[.int .i64 (val y).f, .int .i64 (val y).b, .int .i64 (val y).k, .int .i64 (val y).m], .agg #[.int .i64 (val x).f, .int .i64 (val x).b, .int .i64 (val x).k, .int .i64 (val x).m]]) ?_ ?_ ?_
                  · intro W hW
                    have c00 := kept hW c00
                    have c01 := kept hW c01
                    have c02 := kept hW c02
                    have c03 := kept hW c03
                    have c10 := kept hW c10
                    have c11 := kept hW c11
                    have c12 := kept hW c12
                    have c13 := kept hW c13
                    clear hW
                    go_simp
                    done
                  · intro W hW
                    exact HCL.out W hW
                  simp only [Act.put, List.setIfInBounds_toArray, List.set_cons_zero, List.set_cons_succ]
                  go_big_quiet_on)
               | (refine quiet_yield (v := ?_) ?_ ?_
                  rotate_left
                  · intro W hW
                    have c00 := kept hW c00
                    have c01 := kept hW c01
                    have c02 := kept hW c02
                    have c03 := kept hW c03
                    have c10 := kept hW c10
                    have c11 := kept hW c11
                    have c12 := kept hW c12
                    have c13 := kept hW c13
                    clear hW
                    go_simp
                    try with_reducible rfl
                  simp only [Act.put, List.setIfInBounds_toArray, List.set_cons_zero, List.set_cons_succ]
                  go_big_quiet_on)))
        refine wpQuiet_nil ?_
        intro W hW
        have HW := hide hW
        clear hW c00 c01 c02 c03 c10 c11 c12 c13
        go_wp2_with fail
        go_roundw
        case rel =>
          exact ⟨h + 1, j, by go_num, rfl, by omega, by omega, hjb, hide ⟨fun t z hz hlt => by
            have hxy : lt x y := HC.out.ord.total y x (by have := HXA.out x (List.mem_of_getElem? HY.out); omega) (fun h => absurd (HLS.out.2 h) (by omega))
            rcases Nat.lt_or_ge t (h - a) with h5 | h5
            · have h6 := List.pairwise_iff_getElem.1 HSA.out t (h - a) (lt_of_get hz) (lt_of_get HY.out) h5
              have e1 := (List.getElem?_eq_some_iff.1 hz).2
              have e2 := (List.getElem?_eq_some_iff.1 HY.out).2
              rw [e1, e2] at h6
              exact HC.out.ord.trans _ _ _ h6 hxy
            · have : t = h - a := by omega
              subst this
              rw [HY.out] at hz; cases hz; exact hxy, hL.out.2⟩, HR.out.below HW.out⟩
        case measure => simp [RowKit.intOf]; omega
    · obtain rfl : i = j := by omega
      have hij2 : ¬ (i : Int) < (i : Int) := by omega
      clear hr hlt
      go_wp2_with fail
      go_loopw [17] (fun q ws => ∃ k t : Nat, q = .int .i64 k ∧ i ≤ k ∧ k ≤ m ∧ Hid (k = a + t) ∧ SrtS val w0 B g n cap (P ++ (A.take t ++ y :: (A.drop t ++ R))) ws) (fun q _ => (RowKit.intOf q).toNat)
      case atStart => exact ⟨m, A.length, rfl, hjb, Nat.le_refl _, hide HM.out, by simpa using HR.out⟩
      case round =>
        obtain ⟨k, t, rfl, hk1, hk2, hk, hr⟩ := hrel
        have HR2 := hide hr
        by_cases hlt : i < k
        · obtain ⟨t', ht'⟩ : ∃ t', t = t' + 1 := ⟨t - 1, by have := hk.out; omega⟩
          obtain ⟨p, hp⟩ : ∃ p, a + t' = p := ⟨_, rfl⟩
          have hkp : k = p + 1 := by have := hk.out; omega
          obtain ⟨x, hx⟩ := get_of (l := A) (k := t') (by have := hk.out; have := HM.out; omega)
          have HL := hide (show p = (P ++ A.take t').length by have := lt_of_get hx; have := HA.out; simp; omega)
          have HRx := hide (show SrtS val w0 B g n cap ((P ++ A.take t') ++ x :: ([] ++ y :: (A.drop t ++ R))) wr by
            have h := hr
            rw [ht', take_of hx] at h
            rw [ht']
            simpa using h)
          have HT := hide (show A.drop t' = x :: A.drop t by rw [ht']; exact drop_of hx)
          have HTT := hide ht'
          have HPP := hide hp
          subst hkp
          have hki : (i : Int) < (p : Int) + 1 := by omega
          have hkd : decide (i < p + 1) = true := by simp; omega
          have hk0 : (0 : Int) ≤ (p : Int) := by omega
          have hk1 : (p : Int) < (n : Int) := by omega
          have hk2 : (0 : Int) ≤ (p : Int) + 1 := by omega
          have hk3 : (p : Int) + 1 < (n : Int) := by omega
          have hwk : IntKind.i64.wrap ((p : Int) + 1) = (p : Int) + 1 := IntWalk.i64_in _ (by omega)
          have hwk0 : IntKind.i64.wrap (p : Int) = (p : Int) := IntWalk.i64_in _ (by omega)
          have hkn : ((p : Int) + 1).toNat = p + 1 := by omega
          clear hr hx ht' hp
          have hrW := HRx.out.drew
          have hsw := hrW.swap2 (i := p) (j := p + 1) HL.out (by rw [HL.out]; simp)
          have dz0 := HRx.out.at (get_mid' HL.out)
          have dz1 := HRx.out.at (i := p + 1) (x := y) (by
            rw [List.nil_append, ← List.singleton_append, ← List.append_assoc]
            exact get_mid' (by rw [HL.out]; simp <;> omega))
          obtain ⟨WD, hWD⟩ : ∃ X, (wr).drew = X := ⟨_, rfl⟩
          rw [hWD] at hsw
          simp only [put4] at hsw
          have dw0 : At4 WD g p (val x) := by rw [← hWD]; exact ⟨dz0.a, dz0.b, dz0.c, dz0.d⟩
          have dw1 : At4 WD g (p + 1) (val y) := by rw [← hWD]; exact ⟨dz1.a, dz1.b, dz1.c, dz1.d⟩
          obtain ⟨d0, d1, d2, d3⟩ := dw0
          obtain ⟨d4, d5, d6, d7⟩ := dw1
          have f0 : WD.frozen? ⟨g, (p) * 4, none⟩ = false := by rw [← hWD]; exact hrW.fz _
          have f1 : WD.frozen? ⟨g, (p) * 4 + 1, none⟩ = false := by rw [← hWD]; exact hrW.fz _
          have f2 : WD.frozen? ⟨g, (p) * 4 + 2, none⟩ = false := by rw [← hWD]; exact hrW.fz _
          have f3 : WD.frozen? ⟨g, (p) * 4 + 3, none⟩ = false := by rw [← hWD]; exact hrW.fz _
          have f4 : WD.frozen? ⟨g, (p + 1) * 4, none⟩ = false := by rw [← hWD]; exact hrW.fz _
          have f5 : WD.frozen? ⟨g, (p + 1) * 4 + 1, none⟩ = false := by rw [← hWD]; exact hrW.fz _
          have f6 : WD.frozen? ⟨g, (p + 1) * 4 + 2, none⟩ = false := by rw [← hWD]; exact hrW.fz _
          have f7 : WD.frozen? ⟨g, (p + 1) * 4 + 3, none⟩ = false := by rw [← hWD]; exact hrW.fz _
          have HSW := hide hsw
          have hE0 : (fun X : World => X.cell? ⟨g, (p) * 4, none⟩ = some (.int .i64 (val x).f) ∧ X.cell? ⟨g, (p) * 4 + 1, none⟩ = some (.int .i64 (val x).b) ∧ X.cell? ⟨g, (p) * 4 + 2, none⟩ = some (.int .i64 (val x).k) ∧ X.cell? ⟨g, (p) * 4 + 3, none⟩ = some (.int .i64 (val x).m) ∧ X.cell? ⟨g, (p + 1) * 4, none⟩ = some (.int .i64 (val y).f) ∧ X.cell? ⟨g, (p + 1) * 4 + 1, none⟩ = some (.int .i64 (val y).b) ∧ X.cell? ⟨g, (p + 1) * 4 + 2, none⟩ = some (.int .i64 (val y).k) ∧ X.cell? ⟨g, (p + 1) * 4 + 3, none⟩ = some (.int .i64 (val y).m)) WD := ⟨d0, d1, d2, d3, d4, d5, d6, d7⟩
          simp only at hE0
          have HWD := hide hWD
          clear hrW hsw hWD dz0 dz1
          go_wp2_with fail
          refine wp_region_T (fun X : World => X.cell? ⟨g, (p) * 4, none⟩ = some (.int .i64 (val x).f) ∧ X.cell? ⟨g, (p) * 4 + 1, none⟩ = some (.int .i64 (val x).b) ∧ X.cell? ⟨g, (p) * 4 + 2, none⟩ = some (.int .i64 (val x).k) ∧ X.cell? ⟨g, (p) * 4 + 3, none⟩ = some (.int .i64 (val x).m) ∧ X.cell? ⟨g, (p + 1) * 4, none⟩ = some (.int .i64 (val y).f) ∧ X.cell? ⟨g, (p + 1) * 4 + 1, none⟩ = some (.int .i64 (val y).b) ∧ X.cell? ⟨g, (p + 1) * 4 + 2, none⟩ = some (.int .i64 (val y).k) ∧ X.cell? ⟨g, (p + 1) * 4 + 3, none⟩ = some (.int .i64 (val y).m)) [0, 1, 2, 3, 4, 5, 6, 7, 8, 10, 11, 12, 14, 15, 16, 17] rfl (by kernel_rfl) ?_
          rw [HWD.out]
          refine wpAnyT_take0 (i := 0) (v := ?_) rfl (by kernel_rfl) (by kernel_rfl) (by kernel_rfl) (by kernel_rfl) (fun _ _ _ h => h) (Or.inl ⟨by rfl, ?_⟩) ?_
          rotate_left
          · intro W hSW
            go_simp
            try with_reducible rfl
          simp only [Act.put, List.setIfInBounds_toArray, List.set_cons_zero, List.set_cons_succ]
          refine wpAnyT_take0 (i := 1) (v := ?_) rfl (by kernel_rfl) (by kernel_rfl) (by kernel_rfl) (by kernel_rfl) (fun _ _ _ h => h) (Or.inl ⟨by rfl, ?_⟩) ?_
          rotate_left
          · intro W hSW
            go_simp
            try with_reducible rfl
          simp only [Act.put, List.setIfInBounds_toArray, List.set_cons_zero, List.set_cons_succ]
          refine wpAnyT_take0 (i := 2) (v := ?_) rfl (by kernel_rfl) (by kernel_rfl) (by kernel_rfl) (by kernel_rfl) (fun _ _ _ h => h) (Or.inl ⟨by rfl, ?_⟩) ?_
          rotate_left
          · intro W hSW
            go_simp
            try with_reducible rfl
          simp only [Act.put, List.setIfInBounds_toArray, List.set_cons_zero, List.set_cons_succ]
          refine wpAnyT_take0 (i := 3) (v := ?_) rfl (by kernel_rfl) (by kernel_rfl) (by kernel_rfl) (by kernel_rfl) (fun _ _ _ h => h) (Or.inl ⟨by rfl, ?_⟩) ?_
          rotate_left
          · intro W hSW
            go_simp
            try with_reducible rfl
          simp only [Act.put, List.setIfInBounds_toArray, List.set_cons_zero, List.set_cons_succ]
          refine wpAnyT_take0 (i := 5) (v := ?_) rfl (by kernel_rfl) (by kernel_rfl) (by kernel_rfl) (by kernel_rfl) (fun _ _ _ h => h) (Or.inl ⟨by rfl, ?_⟩) ?_
          rotate_left
          · intro W hSW
            go_simp
            try with_reducible rfl
          simp only [Act.put, List.setIfInBounds_toArray, List.set_cons_zero, List.set_cons_succ]
          refine wpAnyT_take0 (i := 6) (v := ?_) rfl (by kernel_rfl) (by kernel_rfl) (by kernel_rfl) (by kernel_rfl) (fun _ _ _ h => h) (Or.inl ⟨by rfl, ?_⟩) ?_
          rotate_left
          · intro W hSW
            go_simp
            try with_reducible rfl
          simp only [Act.put, List.setIfInBounds_toArray, List.set_cons_zero, List.set_cons_succ]
          refine wpAnyT_take0 (i := 10) (v := ?_) rfl (by kernel_rfl) (by kernel_rfl) (by kernel_rfl) (by kernel_rfl) (fun _ _ _ h => h) (Or.inl ⟨by rfl, ?_⟩) ?_
          rotate_left
          · intro W hSW
            go_simp
            try with_reducible rfl
          simp only [Act.put, List.setIfInBounds_toArray, List.set_cons_zero, List.set_cons_succ]
          refine wpAnyT_take0 (i := 11) (v := ?_) rfl (by kernel_rfl) (by kernel_rfl) (by kernel_rfl) (by kernel_rfl) (fun _ _ _ h => h) (Or.inl ⟨by rfl, ?_⟩) ?_
          rotate_left
          · intro W hSW
            go_simp
            try with_reducible rfl
          simp only [Act.put, List.setIfInBounds_toArray, List.set_cons_zero, List.set_cons_succ]
          refine wpAnyT_take0 (i := 4) (v := ?_) rfl (by kernel_rfl) (by kernel_rfl) (by kernel_rfl) (by kernel_rfl) (fun _ _ _ h => h) (Or.inl ⟨by rfl, ?_⟩) ?_
          rotate_left
          · intro W hSW
            go_simp
            try with_reducible rfl
          simp only [Act.put, List.setIfInBounds_toArray, List.set_cons_zero, List.set_cons_succ]
          refine wpAnyT_take0 (i := 7) (v := ?_) rfl (by kernel_rfl) (by kernel_rfl) (by kernel_rfl) (by kernel_rfl) (fun _ _ _ h => h) (Or.inl ⟨by rfl, ?_⟩) ?_
          rotate_left
          · intro W hSW
            go_simp
            try with_reducible rfl
          simp only [Act.put, List.setIfInBounds_toArray, List.set_cons_zero, List.set_cons_succ]
          refine wpAnyT_take0 (i := 8) (v := ?_) rfl (by kernel_rfl) (by kernel_rfl) (by kernel_rfl) (by kernel_rfl) (fun _ _ _ h => h) (Or.inl ⟨by rfl, ?_⟩) ?_
          rotate_left
          · intro W hSW
            go_simp
            try with_reducible rfl
          simp only [Act.put, List.setIfInBounds_toArray, List.set_cons_zero, List.set_cons_succ]
          refine wpAnyT_take0 (i := 12) (v := ?_) rfl (by kernel_rfl) (by kernel_rfl) (by kernel_rfl) (by kernel_rfl) (fun _ _ _ h => h) (Or.inl ⟨by rfl, ?_⟩) ?_
          rotate_left
          · intro W hSW
            go_simp
            try with_reducible rfl
          simp only [Act.put, List.setIfInBounds_toArray, List.set_cons_zero, List.set_cons_succ]
          refine wpAnyT_take (i := 9) (v := ?_) rfl (by kernel_rfl) (by kernel_rfl) (by kernel_rfl) (by kernel_rfl) (fun _ _ _ h => h) (Or.inl ⟨by rfl, ?_⟩) hE0 ?_
          rotate_left
          · intro W hSW
            obtain ⟨hs0, hs1, hs2, hs3, hs4, hs5, hs6, hs7⟩ := hSW
            go_simp
            try with_reducible rfl
          simp only [Act.put, List.setIfInBounds_toArray, List.set_cons_zero, List.set_cons_succ]
          refine wpAnyT_take (i := 13) (v := ?_) rfl (by kernel_rfl) (by kernel_rfl) (by kernel_rfl) (by kernel_rfl) (fun _ _ _ h => h) (Or.inl ⟨by rfl, ?_⟩) hE0 ?_
          rotate_left
          · intro W hSW
            obtain ⟨hs0, hs1, hs2, hs3, hs4, hs5, hs6, hs7⟩ := hSW
            go_simp
            try with_reducible rfl
          simp only [Act.put, List.setIfInBounds_toArray, List.set_cons_zero, List.set_cons_succ]
          refine wpAnyT_take0 (i := 14) (v := ?_) rfl (by kernel_rfl) (by kernel_rfl) (by kernel_rfl) (by kernel_rfl) (fun _ _ _ h => h) (Or.inl ⟨by rfl, ?_⟩) ?_
          rotate_left
          · intro W hSW
            go_simp
            try with_reducible rfl
          simp only [Act.put, List.setIfInBounds_toArray, List.set_cons_zero, List.set_cons_succ]
          refine wpAnyT_ready (rs := [15]) (by kernel_rfl) (by simp) ?_
          refine AllReadyT.cons rfl (fun K hK => ?_) ?_
          · go_simp
            refine hK.out _ _ (fun h => by cases h) ?_
            try simp only [Act.put, List.setIfInBounds_toArray, List.set_cons_zero, List.set_cons_succ]
            clear hK K
            refine wpAnyT_take0 (i := 16) (v := ?_) rfl (by kernel_rfl) (by kernel_rfl) (by kernel_rfl) (by kernel_rfl) (fun _ _ _ h => h) (Or.inl ⟨by rfl, ?_⟩) ?_
            rotate_left
            · intro W hSW
              go_simp
              try with_reducible rfl
            simp only [Act.put, List.setIfInBounds_toArray, List.set_cons_zero, List.set_cons_succ]
            refine wpAnyT_ready (rs := [17]) (by kernel_rfl) (by simp) ?_
            refine AllReadyT.cons rfl (fun K hK => ?_) ?_
            · go_simp
              refine hK.out _ _ (fun h => by cases h) ?_
              try simp only [Act.put, List.setIfInBounds_toArray, List.set_cons_zero, List.set_cons_succ]
              clear hK K
              refine wpAnyT_done (by kernel_rfl) ?_ _
              clear hE0 d0 d1 d2 d3 d4 d5 d6 d7 f0 f1 f2 f3 f4 f5 f6 f7
              clear hwk hwk0 hkn
              go_wp2_with fail
              go_roundw
              case rel => exact ⟨p, t', by go_num, by omega, by omega, hide HPP.out.symm, by
                have h := HSW.out
                rw [HT.out]
                simpa using h⟩
              case measure => simp [RowKit.intOf]
            exact AllReadyT.nil
          exact AllReadyT.nil
        · have hki : ¬ (i : Int) < (k : Int) := by omega
          have hkd : decide (i < k) = false := by simp; omega
          clear hr
          go_wp2_with fail
          go_end0
          have htt : a + t = i := by have := hk.out; omega
          have hsplit : A.take t ++ A.drop t = A := List.take_append_drop t A
          refine ⟨rfl, A.take t ++ y :: A.drop t, ?_, put_sorted (by rw [hsplit]; exact HSA.out) (fun x hx => ?_) (fun x hx => ?_), by simpa using HR2.out⟩
          · refine (perm_mid _ _ _).trans ?_
            rw [hsplit]
            exact (List.perm_append_singleton y A).symm
          · obtain ⟨q, hq, hq2⟩ := mem_take_at hx
            exact hL.out.1 q x hq2 (by omega)
          · obtain ⟨q, hq, hq2⟩ := mem_drop_at hx
            exact hL.out.2 q x hq2 (by omega)
end
end Go.Proofs.YtmfohnchnbgbaaaGreat
