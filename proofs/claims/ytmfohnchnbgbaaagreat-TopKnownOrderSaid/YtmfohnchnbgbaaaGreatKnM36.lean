/- Part 36 of the proof. -/
import Derived.Test.YtmfohnchnbgbaaaGreatKnM28
/- Sorting: lists that are turned in place, and how they lie. -/
namespace Go.Proofs.YtmfohnchnbgbaaaGreat
open Go.RowKit

theorem set_mid {α : Type} (Q : List α) (x z : α) (R : List α) : (Q ++ x :: R).set Q.length z = Q ++ z :: R := by
  rw [List.set_append_right _ _ (Nat.le_refl _), Nat.sub_self, List.set_cons_zero]
theorem get_mid {α : Type} (Q : List α) (x : α) (R : List α) : (Q ++ x :: R)[Q.length]? = some x := by
  rw [List.getElem?_append_right (Nat.le_refl _), Nat.sub_self]; rfl
theorem set_mid' {α : Type} {Q : List α} {x z : α} {R : List α} {i : Nat} (hi : i = Q.length) : (Q ++ x :: R).set i z = Q ++ z :: R := by subst hi; exact set_mid Q x z R
theorem get_mid' {α : Type} {Q : List α} {x : α} {R : List α} {i : Nat} (hi : i = Q.length) : (Q ++ x :: R)[i]? = some x := by subst hi; exact get_mid Q x R
/-- Two elements change places. -/
theorem swap_far {α : Type} {Q1 Q2 Q3 : List α} {x z : α} {i j : Nat} (hi : i = Q1.length) (hj : j = Q1.length + 1 + Q2.length) : ((Q1 ++ x :: (Q2 ++ z :: Q3)).set i z).set j x = Q1 ++ z :: (Q2 ++ x :: Q3) := by
  rw [set_mid' hi]
  have e : Q1 ++ z :: (Q2 ++ z :: Q3) = (Q1 ++ z :: Q2) ++ z :: Q3 := by simp
  rw [e, set_mid' (by rw [hj]; simp; omega)]
  simp
theorem swap_far2 {α : Type} {Q1 Q2 Q3 : List α} {x z : α} {i j : Nat} (hi : i = Q1.length) (hj : j = Q1.length + 1 + Q2.length) : ((Q1 ++ x :: (Q2 ++ z :: Q3)).set j x).set i z = Q1 ++ z :: (Q2 ++ x :: Q3) := by
  have e : Q1 ++ x :: (Q2 ++ z :: Q3) = (Q1 ++ x :: Q2) ++ z :: Q3 := by simp
  rw [e, set_mid' (by rw [hj]; simp; omega)]
  have e2 : (Q1 ++ x :: Q2) ++ x :: Q3 = Q1 ++ x :: (Q2 ++ x :: Q3) := by simp
  rw [e2, set_mid' hi]
/-- Two parts of one length change places, cell by cell. -/
def mixS {α : Type} (P X Y Z R : List α) (k : Nat) : List α := (P ++ Z.take k) ++ (X.drop k ++ (Y ++ (X.take k ++ (Z.drop k ++ R))))
theorem mixS_zero {α : Type} (P X Y Z R : List α) : mixS P X Y Z R 0 = P ++ (X ++ (Y ++ (Z ++ R))) := by simp [mixS]
theorem mixS_end {α : Type} {P X Y Z R : List α} (h : X.length = Z.length) : mixS P X Y Z R X.length = P ++ (Z ++ (Y ++ (X ++ R))) := by
  rw [mixS, List.take_of_length_le (Nat.le_of_eq h.symm), List.drop_eq_nil_of_le (Nat.le_refl _), List.take_of_length_le (Nat.le_refl _), List.drop_eq_nil_of_le (Nat.le_of_eq h.symm)]
  simp
theorem mixS_at {α : Type} {P X Y Z R : List α} {k : Nat} {x z : α} (hx : X[k]? = some x) (hz : Z[k]? = some z) :
    mixS P X Y Z R k = (P ++ Z.take k) ++ x :: ((X.drop (k + 1) ++ (Y ++ X.take k)) ++ z :: (Z.drop (k + 1) ++ R)) ∧
      mixS P X Y Z R (k + 1) = (P ++ Z.take k) ++ z :: ((X.drop (k + 1) ++ (Y ++ X.take k)) ++ x :: (Z.drop (k + 1) ++ R)) := by
  constructor
  · rw [mixS, drop_of hx, drop_of hz]; simp
  · rw [mixS, take_of hx, take_of hz]; simp
theorem perm_mid {α : Type} (A : List α) (x : α) (B : List α) : (A ++ x :: B).Perm (x :: (A ++ B)) := List.perm_middle

section
variable {α : Type} (val : α → Int)
def encZ (x : α) : List Value := [.int .i64 (val x)]
theorem okZ (l : List α) : RowsOk 1 (l.map (encZ val)) := by
  intro r hr
  obtain ⟨x, _, rfl⟩ := List.mem_map.1 hr
  exact ⟨rfl, fun u hu => by simp [encZ] at hu; subst hu; rfl⟩
/-- A slice of numbers that is being sorted: what it holds; all else is as it was at w0. -/
structure Srt (w0 : World) (B g n cap : Nat) (l : List α) (w : World) : Prop where
  own : OwnS w B 3 1 (some ⟨g, 0, none⟩) n cap (l.map (encZ val))
  gr : w0.grownBy w (some g)
variable {val} {w0 w w' : World} {B g n cap : Nat} {l : List α}
theorem grown_below {w0 w w' : World} {row : Option Nat} (h : w0.grownBy w row) (hb : Below w.heap.size w w') : w0.grownBy w' row := ⟨hb.os.trans h.os, hb.tape.trans h.tape, hb.output.trans h.output, Nat.le_trans h.size hb.size, fun i hi hne => (hb.block i (Nat.lt_of_lt_of_le hi h.size)).trans (h.block i hi hne)⟩
theorem Srt.below (h : Srt val w0 B g n cap l w) (hb : Below w.heap.size w w') : Srt val w0 B g n cap l w' := ⟨h.own.below hb, grown_below h.gr hb⟩
theorem Srt.drew (h : Srt val w0 B g n cap l w) : Srt val w0 B g n cap l w.drew := h.below (Below.refl _ _).drew
theorem Srt.len (h : Srt val w0 B g n cap l w) : l.length = n := by have := h.own.len; simpa using this
theorem Srt.lt (h : Srt val w0 B g n cap l w) : g < w.heap.size := (h.own.lt g rfl).2
theorem Srt.at (h : Srt val w0 B g n cap l w) {i : Nat} {x : α} (hx : l[i]? = some x) : w.cell? ⟨g, i, none⟩ = some (.int .i64 (val x)) := by
  obtain ⟨b, off, hA, _, hc⟩ := h.own.sl i (encZ val x) (by simp [hx])
  have h1 := hc 0 _ rfl
  cases hA
  simpa using h1
theorem Srt.fz (h : Srt val w0 B g n cap l w) (i : Nat) : w.frozen? ⟨g, i, none⟩ = false := h.own.frozen i
theorem Srt.set_ (h : Srt val w0 B g n cap l w) {i : Nat} {x : α} (hi : i < l.length) : Srt val w0 B g n cap (l.set i x) (w.setCell ⟨g, i, none⟩ (.int .i64 (val x))) := by
  obtain ⟨y, hy⟩ := get_of hi
  refine ⟨?_, ?_⟩
  · have h2 := h.own.set_ (i := i) (j := 0) (row := encZ val y) (by simp [hy]) (by omega) (u := .int .i64 (val x)) rfl
    rw [Nat.mul_one, Nat.add_zero] at h2
    rw [List.map_set]
    exact h2
  · exact ⟨h.gr.os, h.gr.tape, h.gr.output, by simpa using h.gr.size, fun k hk hne => (heap_setCell_other w ⟨g, i, none⟩ k _ (fun e => hne (by rw [e]))).trans (h.gr.block k hk hne)⟩
theorem Srt.swap {Q1 Q2 Q3 : List α} {x z : α} {i j : Nat} (h : Srt val w0 B g n cap (Q1 ++ x :: (Q2 ++ z :: Q3)) w) (hi : i = Q1.length) (hj : j = Q1.length + 1 + Q2.length) :
    Srt val w0 B g n cap (Q1 ++ z :: (Q2 ++ x :: Q3)) ((w.setCell ⟨g, i, none⟩ (.int .i64 (val z))).setCell ⟨g, j, none⟩ (.int .i64 (val x))) := by
  have h2 := (h.set_ (i := i) (x := z) (by simp; omega)).set_ (i := j) (x := x) (by simp; omega)
  rwa [swap_far hi hj] at h2
theorem Srt.swap2 {Q1 Q2 Q3 : List α} {x z : α} {i j : Nat} (h : Srt val w0 B g n cap (Q1 ++ x :: (Q2 ++ z :: Q3)) w) (hi : i = Q1.length) (hj : j = Q1.length + 1 + Q2.length) :
    Srt val w0 B g n cap (Q1 ++ z :: (Q2 ++ x :: Q3)) ((w.setCell ⟨g, j, none⟩ (.int .i64 (val x))).setCell ⟨g, i, none⟩ (.int .i64 (val z))) := by
  have h2 := (h.set_ (i := j) (x := x) (by simp; omega)).set_ (i := i) (x := z) (by simp; omega)
  rwa [swap_far2 hi hj] at h2
end
end Go.Proofs.YtmfohnchnbgbaaaGreat

/- Sorting: two parts of one length change places; a part is turned round another. -/
namespace Go.Proofs.YtmfohnchnbgbaaaGreat
open Go.RowKit
section
variable {α : Type} {val : α → Int} {w0 : World} {B g n cap : Nat}

set_option linter.unusedSimpArgs false in
set_option maxRecDepth 100000 in
set_option maxHeartbeats 4000000 in
theorem swr_any (P X Y Z R : List α) (hl : X.length = Z.length) (a b m : Nat) (ha : a = P.length) (hb : b = a + X.length + Y.length) (hm : m = X.length) (f : Value) (w : World) (hs : Srt val w0 B g n cap (P ++ (X ++ (Y ++ (Z ++ R)))) w) (hm1 : 1 ≤ m) :
    Calls Tryz.prog 214 #[.slice (some ⟨g, 0, none⟩) n cap, .int .i64 a, .int .i64 b, .int .i64 m, f] w fun e w' => e = .returned (.tuple #[]) ∧ Srt val w0 B g n cap (P ++ (Z ++ (Y ++ (X ++ R)))) w' := by
  have hlen := hs.len
  simp only [List.length_append] at hlen
  have hcap := hs.own.cap_le
  have hmx : cap ≤ 9223372036854775807 := by have := hcap.2; simp [maxLen] at this; exact this
  have HS := hide hs
  have HA := hide ha
  have HM := hide hm
  have HBB := hide hb
  have HL := hide hl
  have hbn : b + m ≤ n := by omega
  have hab : a + m ≤ b := by omega
  clear hs ha hm hb hl hlen
  go_enter Tryz.func214, Tryz.ntmps214
  go_wp2_with fail
  go_loopw [10] (fun i wr => ∃ k : Nat, k ≤ m ∧ i = .int .i64 k ∧ Srt val w0 B g n cap (mixS P X Y Z R k) wr) (fun i _ => m - (RowKit.intOf i).toNat)
  case atStart => exact ⟨0, Nat.zero_le _, rfl, by rw [mixS_zero]; exact HS.out⟩
  case round =>
    obtain ⟨k, hk, rfl, hr⟩ := hrel
    have HR := hide hr
    by_cases hlt : k < m
    · obtain ⟨x, hx⟩ := get_of (l := X) (k := k) (by rw [← HM.out]; exact hlt)
      obtain ⟨z, hz⟩ := get_of (l := Z) (k := k) (by rw [← HL.out, ← HM.out]; exact hlt)
      obtain ⟨e1, e2⟩ := mixS_at (P := P) (Y := Y) (R := R) hx hz
      rw [e1] at hr
      have E2 := hide e2
      obtain ⟨p, hp⟩ : ∃ p, a + k = p := ⟨_, rfl⟩
      obtain ⟨q, hq⟩ : ∃ q, b + k = q := ⟨_, rfl⟩
      have hl1 : p = (P ++ Z.take k).length := by
        have h1 := HL.out; have h2 := HM.out; have h3 := HA.out
        simp; omega
      have hl2 : q = (P ++ Z.take k).length + 1 + (X.drop (k + 1) ++ (Y ++ X.take k)).length := by
        have h1 := HL.out; have h2 := HM.out; have h3 := HA.out; have h4 := HBB.out
        simp; omega
      have hk0 : (0 : Int) ≤ (k : Int) := by omega
      have hk1 : (k : Int) < (m : Int) := by omega
      have hpi : (a : Int) + (k : Int) = (p : Int) := by omega
      have hqi : (b : Int) + (k : Int) = (q : Int) := by omega
      have hpn : (p : Int) < (n : Int) := by omega
      have hqn : (q : Int) < (n : Int) := by omega
      have hp0 : (0 : Int) ≤ (p : Int) := by omega
      have hq0 : (0 : Int) ≤ (q : Int) := by omega
      have hwp : IntKind.i64.wrap (p : Int) = (p : Int) := IntWalk.i64_in _ (by omega)
      have hwq : IntKind.i64.wrap (q : Int) = (q : Int) := IntWalk.i64_in _ (by omega)
      have hpq : p ≠ q := by omega
      have hqp : q ≠ p := by omega
      have c0 := hr.at (get_mid' hl1)
      have c1 := hr.at (i := q) (x := z) (by
        have e : (P ++ Z.take k) ++ x :: ((X.drop (k + 1) ++ (Y ++ X.take k)) ++ z :: (Z.drop (k + 1) ++ R)) = ((P ++ Z.take k) ++ x :: (X.drop (k + 1) ++ (Y ++ X.take k))) ++ z :: (Z.drop (k + 1) ++ R) := by simp
        rw [e]
        exact get_mid' (by rw [hl2]; simp; omega))
      have hsw := hr.drew.swap hl1 hl2
      rw [← e2] at hsw
      obtain ⟨WD, hWD⟩ : ∃ W, wr.drew = W := ⟨_, rfl⟩
      rw [hWD] at hsw
      have c0 : WD.cell? ⟨g, p, none⟩ = some (.int .i64 (val x)) := by rw [← hWD]; exact c0
      have c1 : WD.cell? ⟨g, q, none⟩ = some (.int .i64 (val z)) := by rw [← hWD]; exact c1
      have f0 : WD.frozen? ⟨g, p, none⟩ = false := by rw [← hWD]; exact hr.fz p
      have f1 : WD.frozen? ⟨g, q, none⟩ = false := by rw [← hWD]; exact hr.fz q
      have HSW := hide hsw
      have hS0 : (fun W : World => W.cell? ⟨g, p, none⟩ = some (.int .i64 (val x)) ∧ W.cell? ⟨g, q, none⟩ = some (.int .i64 (val z))) WD := ⟨c0, c1⟩
      simp only at hS0
      have HWD := hide hWD
      clear hr hx hz e1 e2 hp hq hl1 hl2 hsw hWD
      go_wp2_with fail
      refine wp_region_T (fun W => W.cell? ⟨g, p, none⟩ = some (.int .i64 (val x)) ∧ W.cell? ⟨g, q, none⟩ = some (.int .i64 (val z))) [0, 1, 2, 3, 4, 5, 6, 7, 8, 9, 10, 11, 12, 14, 15, 16, 17, 18, 20, 21, 22, 23] rfl (by kernel_rfl) ?_
      rw [HWD.out]
      refine wpAnyT_take0 (i := 0) (v := ?_) rfl (by kernel_rfl) (by kernel_rfl) (by kernel_rfl) (by kernel_rfl) (fun _ _ _ h => h) (Or.inl ⟨by rfl, ?_⟩) ?_
      rotate_left
      · intro W hSW
        go_simp
        try with_reducible rfl
      simp only [Act.put, List.setIfInBounds_toArray, List.set_cons_zero, List.set_cons_succ]
      refine wpAnyT_take0 (i := 1) (v := ?_) rfl (by kernel_rfl) (by kernel_rfl) (by kernel_rfl) (by kernel_rfl) (fun _ _ _ h => h) (Or.inl ⟨by rfl, ?_⟩) ?_
      rotate_left
      · intro W hSW
        go_simp
        try with_reducible rfl
      simp only [Act.put, List.setIfInBounds_toArray, List.set_cons_zero, List.set_cons_succ]
      refine wpAnyT_take0 (i := 2) (v := ?_) rfl (by kernel_rfl) (by kernel_rfl) (by kernel_rfl) (by kernel_rfl) (fun _ _ _ h => h) (Or.inl ⟨by rfl, ?_⟩) ?_
      rotate_left
      · intro W hSW
        go_simp
        try with_reducible rfl
      simp only [Act.put, List.setIfInBounds_toArray, List.set_cons_zero, List.set_cons_succ]
      refine wpAnyT_take0 (i := 4) (v := ?_) rfl (by kernel_rfl) (by kernel_rfl) (by kernel_rfl) (by kernel_rfl) (fun _ _ _ h => h) (Or.inl ⟨by rfl, ?_⟩) ?_
      rotate_left
      · intro W hSW
        go_simp
        try with_reducible rfl
      simp only [Act.put, List.setIfInBounds_toArray, List.set_cons_zero, List.set_cons_succ]
      refine wpAnyT_take0 (i := 5) (v := ?_) rfl (by kernel_rfl) (by kernel_rfl) (by kernel_rfl) (by kernel_rfl) (fun _ _ _ h => h) (Or.inl ⟨by rfl, ?_⟩) ?_
      rotate_left
      · intro W hSW
        go_simp
        try with_reducible rfl
      simp only [Act.put, List.setIfInBounds_toArray, List.set_cons_zero, List.set_cons_succ]
      refine wpAnyT_take0 (i := 6) (v := ?_) rfl (by kernel_rfl) (by kernel_rfl) (by kernel_rfl) (by kernel_rfl) (fun _ _ _ h => h) (Or.inl ⟨by rfl, ?_⟩) ?_
      rotate_left
      · intro W hSW
        go_simp
        try with_reducible rfl
      simp only [Act.put, List.setIfInBounds_toArray, List.set_cons_zero, List.set_cons_succ]
      refine wpAnyT_take0 (i := 8) (v := ?_) rfl (by kernel_rfl) (by kernel_rfl) (by kernel_rfl) (by kernel_rfl) (fun _ _ _ h => h) (Or.inl ⟨by rfl, ?_⟩) ?_
      rotate_left
      · intro W hSW
        go_simp
        try with_reducible rfl
      simp only [Act.put, List.setIfInBounds_toArray, List.set_cons_zero, List.set_cons_succ]
      refine wpAnyT_take0 (i := 9) (v := ?_) rfl (by kernel_rfl) (by kernel_rfl) (by kernel_rfl) (by kernel_rfl) (fun _ _ _ h => h) (Or.inl ⟨by rfl, ?_⟩) ?_
      rotate_left
      · intro W hSW
        go_simp
        try with_reducible rfl
      simp only [Act.put, List.setIfInBounds_toArray, List.set_cons_zero, List.set_cons_succ]
      refine wpAnyT_take0 (i := 10) (v := ?_) rfl (by kernel_rfl) (by kernel_rfl) (by kernel_rfl) (by kernel_rfl) (fun _ _ _ h => h) (Or.inl ⟨by rfl, ?_⟩) ?_
      rotate_left
      · intro W hSW
        go_simp
        try with_reducible rfl
      simp only [Act.put, List.setIfInBounds_toArray, List.set_cons_zero, List.set_cons_succ]
      refine wpAnyT_take0 (i := 14) (v := ?_) rfl (by kernel_rfl) (by kernel_rfl) (by kernel_rfl) (by kernel_rfl) (fun _ _ _ h => h) (Or.inl ⟨by rfl, ?_⟩) ?_
      rotate_left
      · intro W hSW
        go_simp
        try with_reducible rfl
      simp only [Act.put, List.setIfInBounds_toArray, List.set_cons_zero, List.set_cons_succ]
      refine wpAnyT_take0 (i := 15) (v := ?_) rfl (by kernel_rfl) (by kernel_rfl) (by kernel_rfl) (by kernel_rfl) (fun _ _ _ h => h) (Or.inl ⟨by rfl, ?_⟩) ?_
      rotate_left
      · intro W hSW
        go_simp
        try with_reducible rfl
      simp only [Act.put, List.setIfInBounds_toArray, List.set_cons_zero, List.set_cons_succ]
      refine wpAnyT_take0 (i := 16) (v := ?_) rfl (by kernel_rfl) (by kernel_rfl) (by kernel_rfl) (by kernel_rfl) (fun _ _ _ h => h) (Or.inl ⟨by rfl, ?_⟩) ?_
      rotate_left
      · intro W hSW
        go_simp
        try with_reducible rfl
      simp only [Act.put, List.setIfInBounds_toArray, List.set_cons_zero, List.set_cons_succ]
      refine wpAnyT_take0 (i := 3) (v := ?_) rfl (by kernel_rfl) (by kernel_rfl) (by kernel_rfl) (by kernel_rfl) (fun _ _ _ h => h) (Or.inl ⟨by rfl, ?_⟩) ?_
      rotate_left
      · intro W hSW
        go_simp
        try with_reducible rfl
      simp only [Act.put, List.setIfInBounds_toArray, List.set_cons_zero, List.set_cons_succ]
      refine wpAnyT_take0 (i := 7) (v := ?_) rfl (by kernel_rfl) (by kernel_rfl) (by kernel_rfl) (by kernel_rfl) (fun _ _ _ h => h) (Or.inl ⟨by rfl, ?_⟩) ?_
      rotate_left
      · intro W hSW
        go_simp
        try with_reducible rfl
      simp only [Act.put, List.setIfInBounds_toArray, List.set_cons_zero, List.set_cons_succ]
      refine wpAnyT_take0 (i := 11) (v := ?_) rfl (by kernel_rfl) (by kernel_rfl) (by kernel_rfl) (by kernel_rfl) (fun _ _ _ h => h) (Or.inl ⟨by rfl, ?_⟩) ?_
      rotate_left
      · intro W hSW
        go_simp
        try with_reducible rfl
      simp only [Act.put, List.setIfInBounds_toArray, List.set_cons_zero, List.set_cons_succ]
      refine wpAnyT_take0 (i := 17) (v := ?_) rfl (by kernel_rfl) (by kernel_rfl) (by kernel_rfl) (by kernel_rfl) (fun _ _ _ h => h) (Or.inl ⟨by rfl, ?_⟩) ?_
      rotate_left
      · intro W hSW
        go_simp
        try with_reducible rfl
      simp only [Act.put, List.setIfInBounds_toArray, List.set_cons_zero, List.set_cons_succ]
      refine wpAnyT_take0 (i := 12) (v := ?_) rfl (by kernel_rfl) (by kernel_rfl) (by kernel_rfl) (by kernel_rfl) (fun _ _ _ h => h) (Or.inl ⟨by rfl, ?_⟩) ?_
      rotate_left
      · intro W hSW
        go_simp
        try with_reducible rfl
      simp only [Act.put, List.setIfInBounds_toArray, List.set_cons_zero, List.set_cons_succ]
      refine wpAnyT_take0 (i := 18) (v := ?_) rfl (by kernel_rfl) (by kernel_rfl) (by kernel_rfl) (by kernel_rfl) (fun _ _ _ h => h) (Or.inl ⟨by rfl, ?_⟩) ?_
      rotate_left
      · intro W hSW
        go_simp
        try with_reducible rfl
      simp only [Act.put, List.setIfInBounds_toArray, List.set_cons_zero, List.set_cons_succ]
      refine wpAnyT_take (i := 13) (v := ?_) rfl (by kernel_rfl) (by kernel_rfl) (by kernel_rfl) (by kernel_rfl) (fun _ _ _ h => h) (Or.inl ⟨by rfl, ?_⟩) hS0 ?_
      rotate_left
      · intro W hSW
        obtain ⟨hs0, hs1⟩ := hSW
        go_simp
        try with_reducible rfl
      simp only [Act.put, List.setIfInBounds_toArray, List.set_cons_zero, List.set_cons_succ]
      refine wpAnyT_take (i := 19) (v := ?_) rfl (by kernel_rfl) (by kernel_rfl) (by kernel_rfl) (by kernel_rfl) (fun _ _ _ h => h) (Or.inl ⟨by rfl, ?_⟩) hS0 ?_
      rotate_left
      · intro W hSW
        obtain ⟨hs0, hs1⟩ := hSW
        go_simp
        try with_reducible rfl
      simp only [Act.put, List.setIfInBounds_toArray, List.set_cons_zero, List.set_cons_succ]
      refine wpAnyT_take0 (i := 20) (v := ?_) rfl (by kernel_rfl) (by kernel_rfl) (by kernel_rfl) (by kernel_rfl) (fun _ _ _ h => h) (Or.inl ⟨by rfl, ?_⟩) ?_
      rotate_left
      · intro W hSW
        go_simp
        try with_reducible rfl
      simp only [Act.put, List.setIfInBounds_toArray, List.set_cons_zero, List.set_cons_succ]
      refine wpAnyT_ready (rs := [21]) (by kernel_rfl) (by simp) ?_
      refine AllReadyT.cons rfl (fun K hK => ?_) ?_
      · go_simp
        refine hK.out _ _ (fun h => by cases h) ?_
        try simp only [Act.put, List.setIfInBounds_toArray, List.set_cons_zero, List.set_cons_succ]
        clear hK K
        refine wpAnyT_take0 (i := 22) (v := ?_) rfl (by kernel_rfl) (by kernel_rfl) (by kernel_rfl) (by kernel_rfl) (fun _ _ _ h => h) (Or.inl ⟨by rfl, ?_⟩) ?_
        rotate_left
        · intro W hSW
          go_simp
          try with_reducible rfl
        simp only [Act.put, List.setIfInBounds_toArray, List.set_cons_zero, List.set_cons_succ]
        refine wpAnyT_ready (rs := [23]) (by kernel_rfl) (by simp) ?_
        refine AllReadyT.cons rfl (fun K hK => ?_) ?_
        · go_simp
          refine hK.out _ _ (fun h => by cases h) ?_
          try simp only [Act.put, List.setIfInBounds_toArray, List.set_cons_zero, List.set_cons_succ]
          clear hK K
          refine wpAnyT_done (by kernel_rfl) ?_ _
          clear hS0 c0 c1 f0 f1
          go_wp2_with fail
          go_roundw
          case rel => exact ⟨k + 1, by omega, by go_num, HSW.out⟩
          case measure => simp [RowKit.intOf]; omega
        exact AllReadyT.nil
      exact AllReadyT.nil
    · obtain rfl : m = k := by omega
      clear hr
      go_wp2_with fail
      go_end0
      have := HR.out
      rw [HM.out, mixS_end HL.out] at this
      exact ⟨rfl, this⟩

set_option maxRecDepth 100000 in
set_option maxHeartbeats 4000000 in
theorem rot_any (P A C R : List α) (a m b : Nat) (ha : a = P.length) (hm : m = a + A.length) (hb : b = m + C.length) (hA : 1 ≤ A.length) (hC : 1 ≤ C.length) (f : Value) (w : World) (hs : Srt val w0 B g n cap (P ++ (A ++ (C ++ R))) w) (hn : n ≤ 1000000) :
    Calls Tryz.prog 212 #[.slice (some ⟨g, 0, none⟩) n cap, .int .i64 a, .int .i64 m, .int .i64 b, f] w fun e w' => e = .returned (.tuple #[]) ∧ Srt val w0 B g n cap (P ++ (C ++ (A ++ R))) w' := by
  have hlen := hs.len
  simp only [List.length_append] at hlen
  have HS := hide hs
  have HH := hide (show a = P.length ∧ m = a + A.length ∧ b = m + C.length from ⟨ha, hm, hb⟩)
  have HHA := hide hA
  have HHC := hide hC
  have hmi : (m : Int) - (a : Int) = (A.length : Int) := by omega
  have hbi : (b : Int) - (m : Int) = (C.length : Int) := by omega
  have hmn : m ≤ n := by omega
  obtain ⟨i0, hi0⟩ : ∃ i, A.length = i := ⟨_, rfl⟩
  obtain ⟨j0, hj0⟩ : ∃ j, C.length = j := ⟨_, rfl⟩
  rw [hi0] at hmi
  rw [hj0] at hbi
  have hb63 : b ≤ 1000000 := by omega
  have HI0 := hide hi0
  have HJ0 := hide hj0
  have hi01 : 1 ≤ i0 := by omega
  have hj01 : 1 ≤ j0 := by omega
  clear hs ha hm hb hA hC hlen hi0 hj0
  go_enter Tryz.func212, Tryz.ntmps212
  go_wp2_with fail
  go_loopw [10, 11] (fun p q wr => ∃ (i j : Nat) (P' A' C' R' : List α), 1 ≤ i ∧ 1 ≤ j ∧ p = .int .i64 i ∧ q = .int .i64 j ∧ Hid (A'.length = i ∧ C'.length = j ∧ m = P'.length + i) ∧ Hid (P' ++ (C' ++ (A' ++ R')) = P ++ (C ++ (A ++ R))) ∧ Srt val w0 B g n cap (P' ++ (A' ++ (C' ++ R'))) wr) (fun p q _ => (RowKit.intOf p + RowKit.intOf q).toNat)
  case atStart => exact ⟨i0, j0, P, A, C, R, hi01, hj01, rfl, rfl, hide ⟨HI0.out, HJ0.out, by have := HH.out; have := HI0.out; omega⟩, hide rfl, HS.out⟩
  case round =>
    obtain ⟨i, j, P', A', C', R', hi1, hj1, rfl, rfl, hL, hT, hr⟩ := hrel
    have HR := hide hr
    have hlen := hr.len
    simp only [List.length_append] at hlen
    obtain ⟨pa, hpa⟩ : ∃ pa, P'.length = pa := ⟨_, rfl⟩
    have HPA := hide hpa
    have hml : m = pa + i := by have := hL.out; omega
    have hjn : m + j ≤ n := by have := hL.out; omega
    have hpi : (m : Int) - (i : Int) = (pa : Int) := by omega
    clear hr hlen hpa hml
    rcases (show i = j ∨ (i ≠ j ∧ j < i) ∨ (i ≠ j ∧ i < j) by omega) with hij | ⟨hij, hlt⟩ | ⟨hij, hlt⟩
    · subst hij
      have hbn : ((i : Int) != (i : Int)) = false := by simp
      have hsw := swr_any (val := val) (w0 := w0) (B := B) (g := g) (n := n) (cap := cap) P' A' [] C' R' (by have := hL.out; omega) pa m i (by have := HPA.out; omega) (by have := hL.out; simp; omega) (by have := hL.out; omega) f
      simp only [List.nil_append] at hsw
      have HSW := hide hsw
      clear hsw
      go_wp2_with fail
      refine (HSW.out _ HR.out hi1).mono ?_
      rintro e w' ⟨rfl, hr2⟩
      rw [hT.out] at hr2
      have HR2 := hide hr2
      clear hr2
      go_wp2_with fail
      go_end0
      exact ⟨rfl, HR2.out⟩
    · have hbn : ((i : Int) != (j : Int)) = true := by simp; omega
      have hji : (j : Int) < (i : Int) := by omega
      have hsw := swr_any (val := val) (w0 := w0) (B := B) (g := g) (n := n) (cap := cap) P' (A'.take j) (A'.drop j) C' R' (by have := hL.out; simp; omega) pa m j (by have := HPA.out; omega) (by have := hL.out; simp; omega) (by have := hL.out; simp; omega) f
      have HSW := hide hsw
      have hr2 := HR.out
      have hsp : P' ++ (A' ++ (C' ++ R')) = P' ++ (A'.take j ++ (A'.drop j ++ (C' ++ R'))) := by rw [← List.append_assoc (A'.take j), List.take_append_drop]
      rw [hsp] at hr2
      have HR2 := hide hr2
      clear hsw hr2 hsp
      go_wp2_with fail
      refine (HSW.out _ HR2.out hj1).mono ?_
      rintro e w' ⟨rfl, hr3⟩
      have HR3 := hide hr3
      clear hr3
      go_wp2_with fail
      go_roundw
      case rel => exact ⟨i - j, j, P' ++ C', A'.drop j, A'.take j, R', by omega, hj1, by go_num, rfl, hide ⟨by have := hL.out; simp; omega, by have := hL.out; simp; omega, by have := hL.out; have := HPA.out; simp; omega⟩,
        hide (by rw [← hT.out, List.append_assoc, ← List.append_assoc (A'.take j), List.take_append_drop]), by rw [List.append_assoc]; exact HR3.out⟩
      case measure => simp [RowKit.intOf]; omega
    · have hbn : ((i : Int) != (j : Int)) = true := by simp; omega
      have hji : ¬ (j : Int) < (i : Int) := by omega
      obtain ⟨pb, hpb⟩ : ∃ pb, m + j - i = pb := ⟨_, rfl⟩
      have hpbi : (m : Int) + (j : Int) - (i : Int) = (pb : Int) := by omega
      have hsw := swr_any (val := val) (w0 := w0) (B := B) (g := g) (n := n) (cap := cap) P' A' (C'.take (j - i)) (C'.drop (j - i)) R' (by have := hL.out; simp; omega) pa pb i (by have := HPA.out; omega) (by have := hL.out; simp; omega) (by have := hL.out; omega) f
      have HSW := hide hsw
      have hr2 := HR.out
      have hsp : P' ++ (A' ++ (C' ++ R')) = P' ++ (A' ++ (C'.take (j - i) ++ (C'.drop (j - i) ++ R'))) := by rw [← List.append_assoc (C'.take (j - i)), List.take_append_drop]
      rw [hsp] at hr2
      have HR2 := hide hr2
      clear hsw hr2 hsp hpb
      go_wp2_with fail
      refine (HSW.out _ HR2.out hi1).mono ?_
      rintro e w' ⟨rfl, hr3⟩
      have HR3 := hide hr3
      clear hr3
      go_wp2_with fail
      go_roundw
      case rel => exact ⟨i, j - i, P', C'.drop (j - i), C'.take (j - i), A' ++ R', hi1, by omega, rfl, by go_num, hide ⟨by have := hL.out; simp; omega, by have := hL.out; simp; omega, by have := hL.out; have := HPA.out; omega⟩,
        hide (by rw [← hT.out, ← List.append_assoc (C'.take (j - i)), List.take_append_drop]), HR3.out⟩
      case measure => simp [RowKit.intOf]; omega
end
end Go.Proofs.YtmfohnchnbgbaaaGreat
