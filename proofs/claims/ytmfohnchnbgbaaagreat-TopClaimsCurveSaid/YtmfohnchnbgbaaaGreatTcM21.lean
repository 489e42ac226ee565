/- Part 21 of the proof. -/
import Derived.Test.YtmfohnchnbgbaaaGreatTcM14
import Derived.Test.YtmfohnchnbgbaaaGreatTcM20
/- Steps in order: adjust.step.ahead, and the sort by it. -/
namespace Go.Proofs.YtmfohnchnbgbaaaGreat
open Go.RowKit Go.Lib
set_option linter.unusedSimpArgs false

def orI (a b : Int) : Int := if a = 0 then b else a
set_option maxRecDepth 100000 in
theorem or_any (g : Nat) (a b : Int) (w : World) (hB : Blk w g 3 #[.int .i64 a, .int .i64 b]) : Calls Tryz.prog 119 #[.slice (some ⟨g, 0, none⟩) 2 2] w fun e w' => e = .returned (.int .i64 (orI a b)) ∧ w' = w := by
  have c0 : w.cell? ⟨g, 0, none⟩ = some (.int .i64 a) := hB.cell 0
  have c1 : w.cell? ⟨g, 1, none⟩ = some (.int .i64 b) := hB.cell 1
  obtain ⟨R, hR⟩ : ∃ R, orI a b = R := ⟨_, rfl⟩
  rw [hR]
  have HR := hide hR
  clear hR hB
  go_enter Tryz.func119, Tryz.ntmps119
  go_wp2_with fail
  go_loop [8] (fun q => q = .int .i64 0 ∨ (q = .int .i64 1 ∧ a = 0) ∨ (q = .int .i64 2 ∧ a = 0 ∧ b = 0)) (fun q => 2 - (RowKit.intOf q).toNat)
  case atStart => exact .inl rfl
  case round =>
    rcases hrel with rfl | ⟨rfl, ha⟩ | ⟨rfl, ha, hb⟩
    · by_cases ha : a = 0
      · have HA := hide ha
        have hz : (a != 0) = false := by simpa using ha
        clear ha
        go_wp2_with fail
        go_round
        case rel => exact .inr (.inl ⟨rfl, HA.out⟩)
        case measure => simp [RowKit.intOf]
      · have hz : (a != 0) = true := by simpa using ha
        have hr : a = R := by rw [← HR.out, orI, if_neg ha]
        have HRR := hide hr
        clear ha hr
        go_wp2_with fail
        go_ret
        exact ⟨ret_int HRR.out, rfl⟩
    · by_cases hb : b = 0
      · have HA := hide ha
        have HB := hide hb
        have hz : (b != 0) = false := by simpa using hb
        clear ha hb
        go_wp2_with fail
        go_round
        case rel => exact .inr (.inr ⟨rfl, HA.out, HB.out⟩)
        case measure => simp [RowKit.intOf]
      · have hz : (b != 0) = true := by simpa using hb
        have hr : b = R := by rw [← HR.out, orI, if_pos ha]
        have HRR := hide hr
        clear ha hb hr
        go_wp2_with fail
        go_ret
        exact ⟨ret_int HRR.out, rfl⟩
    · have hr : 0 = R := by rw [← HR.out, orI, if_pos ha, hb]
      have HRR := hide hr
      clear ha hb hr
      go_wp2_with fail
      go_ret
      exact ⟨ret_int HRR.out, rfl⟩

def cmpS (x y : Stp) : Int := orI (cmpI x.b y.b) (cmpI x.f y.f)
def tC (x : Stp) : Array Value := #[.int .i64 x.f, .int .i64 x.b, .int .i64 x.k, .int .i64 x.m]
set_option maxRecDepth 100000 in
set_option maxHeartbeats 2000000 in
theorem aheadS_any (x y : Stp) (w : World) : Calls Tryz.prog 63 #[.agg #[.int .i64 (x).f, .int .i64 (x).b, .int .i64 (x).k, .int .i64 (x).m], .agg #[.int .i64 (y).f, .int .i64 (y).b, .int .i64 (y).k, .int .i64 (y).m]] w fun e w' => e = .returned (.int .i64 (cmpS x y)) ∧ Below w.heap.size w w' := by
  obtain ⟨w1, hw1⟩ : ∃ W, (w.alloc (.cells (tC x) 158)).alloc (.cells (tC y) 158) = W := ⟨_, rfl⟩
  have H1 := hide (show Below w.heap.size w w1 by rw [← hw1]; exact ((Below.refl _ _).alloc (Nat.le_refl _) _).alloc (by simp) _)
  have HX := hide (show Blk w1 w.heap.size 158 (tC x) by rw [← hw1]; exact (Blk.new _ _ _).alloc _)
  have HY := hide (show Blk w1 (w.heap.size + 1) 158 (tC y) by rw [← hw1]; exact Blk.new' (by simp))
  have HW1 := hide hw1
  obtain ⟨c1, hc1⟩ : ∃ c, cmpI x.b y.b = c := ⟨_, rfl⟩
  obtain ⟨c2, hc2⟩ : ∃ c, cmpI x.f y.f = c := ⟨_, rfl⟩
  have HC1 := hide (show ∀ W, Calls Tryz.prog 120 #[.int .i64 x.b, .int .i64 y.b] W fun e w' => e = .returned (.int .i64 c1) ∧ w' = W from fun W => by rw [← hc1]; exact cmp_any _ _ W)
  have HC2 := hide (show ∀ W, Calls Tryz.prog 120 #[.int .i64 x.f, .int .i64 y.f] W fun e w' => e = .returned (.int .i64 c2) ∧ w' = W from fun W => by rw [← hc2]; exact cmp_any _ _ W)
  rw [cmpS, hc1, hc2]
  clear hw1 hc1 hc2
  go_enter Tryz.func63, Tryz.ntmps63
  go_upto_region 1 with fail
  rw [show (w.alloc (.cells #[.int .i64 x.f, .int .i64 x.b, .int .i64 x.k, .int .i64 x.m] 158)).alloc (.cells #[.int .i64 y.f, .int .i64 y.b, .int .i64 y.k, .int .i64 y.m] 158) = w1 from HW1.out]
  have hE0 : (fun X : World => X.cell? ⟨w.heap.size, 0, none⟩ = some (.int .i64 x.f) ∧ X.cell? ⟨w.heap.size, 1, none⟩ = some (.int .i64 x.b) ∧ X.cell? ⟨w.heap.size, 2, none⟩ = some (.int .i64 x.k) ∧ X.cell? ⟨w.heap.size, 3, none⟩ = some (.int .i64 x.m) ∧ X.cell? ⟨w.heap.size + 1, 0, none⟩ = some (.int .i64 y.f) ∧ X.cell? ⟨w.heap.size + 1, 1, none⟩ = some (.int .i64 y.b) ∧ X.cell? ⟨w.heap.size + 1, 2, none⟩ = some (.int .i64 y.k) ∧ X.cell? ⟨w.heap.size + 1, 3, none⟩ = some (.int .i64 y.m)) w1.drew :=
    ⟨HX.out.cell 0, HX.out.cell 1, HX.out.cell 2, HX.out.cell 3, HY.out.cell 0, HY.out.cell 1, HY.out.cell 2, HY.out.cell 3⟩
  simp only at hE0
  refine wp_region_T (fun X : World => X.cell? ⟨w.heap.size, 0, none⟩ = some (.int .i64 x.f) ∧ X.cell? ⟨w.heap.size, 1, none⟩ = some (.int .i64 x.b) ∧ X.cell? ⟨w.heap.size, 2, none⟩ = some (.int .i64 x.k) ∧ X.cell? ⟨w.heap.size, 3, none⟩ = some (.int .i64 x.m) ∧ X.cell? ⟨w.heap.size + 1, 0, none⟩ = some (.int .i64 y.f) ∧ X.cell? ⟨w.heap.size + 1, 1, none⟩ = some (.int .i64 y.b) ∧ X.cell? ⟨w.heap.size + 1, 2, none⟩ = some (.int .i64 y.k) ∧ X.cell? ⟨w.heap.size + 1, 3, none⟩ = some (.int .i64 y.m)) [14] rfl (by kernel_rfl) ?_
  refine wpAnyT_take (i := 0) (v := ?_) rfl (by kernel_rfl) (by kernel_rfl) (by kernel_rfl) (by kernel_rfl) (fun _ _ _ h => h) (Or.inl ⟨by rfl, ?_⟩) hE0 ?_
  rotate_left
  · intro W hSW
    obtain ⟨hs0, hs1, hs2, hs3, hs4, hs5, hs6, hs7⟩ := hSW
    go_simp
    try with_reducible rfl
  simp only [Act.put, List.setIfInBounds_toArray, List.set_cons_zero, List.set_cons_succ]
  refine wpAnyT_take (i := 1) (v := ?_) rfl (by kernel_rfl) (by kernel_rfl) (by kernel_rfl) (by kernel_rfl) (fun _ _ _ h => h) (Or.inl ⟨by rfl, ?_⟩) hE0 ?_
  rotate_left
  · intro W hSW
    obtain ⟨hs0, hs1, hs2, hs3, hs4, hs5, hs6, hs7⟩ := hSW
    go_simp
    try with_reducible rfl
  simp only [Act.put, List.setIfInBounds_toArray, List.set_cons_zero, List.set_cons_succ]
  refine wpAnyT_take (i := 2) (v := ?_) rfl (by kernel_rfl) (by kernel_rfl) (by kernel_rfl) (by kernel_rfl) (fun _ _ _ h => h) (Or.inl ⟨by rfl, ?_⟩) hE0 ?_
  rotate_left
  · intro W hSW
    obtain ⟨hs0, hs1, hs2, hs3, hs4, hs5, hs6, hs7⟩ := hSW
    go_simp
    try with_reducible rfl
  simp only [Act.put, List.setIfInBounds_toArray, List.set_cons_zero, List.set_cons_succ]
  refine wpAnyT_take (i := 3) (v := ?_) rfl (by kernel_rfl) (by kernel_rfl) (by kernel_rfl) (by kernel_rfl) (fun _ _ _ h => h) (Or.inl ⟨by rfl, ?_⟩) hE0 ?_
  rotate_left
  · intro W hSW
    obtain ⟨hs0, hs1, hs2, hs3, hs4, hs5, hs6, hs7⟩ := hSW
    go_simp
    try with_reducible rfl
  simp only [Act.put, List.setIfInBounds_toArray, List.set_cons_zero, List.set_cons_succ]
  refine wpAnyT_take (i := 4) (v := ?_) rfl (by kernel_rfl) (by kernel_rfl) (by kernel_rfl) (by kernel_rfl) (fun _ _ _ h => h) (Or.inl ⟨by rfl, ?_⟩) hE0 ?_
  rotate_left
  · intro W hSW
    obtain ⟨hs0, hs1, hs2, hs3, hs4, hs5, hs6, hs7⟩ := hSW
    go_simp
    try with_reducible rfl
  simp only [Act.put, List.setIfInBounds_toArray, List.set_cons_zero, List.set_cons_succ]
  refine wpAnyT_take (i := 5) (v := ?_) rfl (by kernel_rfl) (by kernel_rfl) (by kernel_rfl) (by kernel_rfl) (fun _ _ _ h => h) (Or.inl ⟨by rfl, ?_⟩) hE0 ?_
  rotate_left
  · intro W hSW
    obtain ⟨hs0, hs1, hs2, hs3, hs4, hs5, hs6, hs7⟩ := hSW
    go_simp
    try with_reducible rfl
  simp only [Act.put, List.setIfInBounds_toArray, List.set_cons_zero, List.set_cons_succ]
  refine wpAnyT_take (i := 7) (v := ?_) rfl (by kernel_rfl) (by kernel_rfl) (by kernel_rfl) (by kernel_rfl) (fun _ _ _ h => h) (Or.inl ⟨by rfl, ?_⟩) hE0 ?_
  rotate_left
  · intro W hSW
    obtain ⟨hs0, hs1, hs2, hs3, hs4, hs5, hs6, hs7⟩ := hSW
    go_simp
    try with_reducible rfl
  simp only [Act.put, List.setIfInBounds_toArray, List.set_cons_zero, List.set_cons_succ]
  refine wpAnyT_take (i := 8) (v := ?_) rfl (by kernel_rfl) (by kernel_rfl) (by kernel_rfl) (by kernel_rfl) (fun _ _ _ h => h) (Or.inl ⟨by rfl, ?_⟩) hE0 ?_
  rotate_left
  · intro W hSW
    obtain ⟨hs0, hs1, hs2, hs3, hs4, hs5, hs6, hs7⟩ := hSW
    go_simp
    try with_reducible rfl
  simp only [Act.put, List.setIfInBounds_toArray, List.set_cons_zero, List.set_cons_succ]
  refine wpAnyT_take (i := 9) (v := ?_) rfl (by kernel_rfl) (by kernel_rfl) (by kernel_rfl) (by kernel_rfl) (fun _ _ _ h => h) (Or.inl ⟨by rfl, ?_⟩) hE0 ?_
  rotate_left
  · intro W hSW
    obtain ⟨hs0, hs1, hs2, hs3, hs4, hs5, hs6, hs7⟩ := hSW
    go_simp
    try with_reducible rfl
  simp only [Act.put, List.setIfInBounds_toArray, List.set_cons_zero, List.set_cons_succ]
  refine wpAnyT_take (i := 10) (v := ?_) rfl (by kernel_rfl) (by kernel_rfl) (by kernel_rfl) (by kernel_rfl) (fun _ _ _ h => h) (Or.inl ⟨by rfl, ?_⟩) hE0 ?_
  rotate_left
  · intro W hSW
    obtain ⟨hs0, hs1, hs2, hs3, hs4, hs5, hs6, hs7⟩ := hSW
    go_simp
    try with_reducible rfl
  simp only [Act.put, List.setIfInBounds_toArray, List.set_cons_zero, List.set_cons_succ]
  refine wpAnyT_ready (rs := [6]) (by kernel_rfl) (by simp) ?_
  refine AllReadyT.cons rfl (fun K hK => ?_) AllReadyT.nil
  go_simp
  refine (HC1.out _).mono ?_
  rintro e w2 ⟨rfl, rfl⟩
  refine hK.out _ _ (fun _ => hE0) ?_
  clear hK K
  try simp only [Act.put, List.setIfInBounds_toArray, List.set_cons_zero, List.set_cons_succ]
  refine wpAnyT_ready (rs := [11]) (by kernel_rfl) (by simp) ?_
  refine AllReadyT.cons rfl (fun K hK => ?_) AllReadyT.nil
  go_simp
  refine (HC2.out _).mono ?_
  rintro e w2 ⟨rfl, rfl⟩
  refine hK.out _ _ (fun _ => hE0) ?_
  clear hK K
  try simp only [Act.put, List.setIfInBounds_toArray, List.set_cons_zero, List.set_cons_succ]
  refine wpAnyT_ready (rs := [12]) (by kernel_rfl) (by simp) ?_
  refine AllReadyT.cons rfl (fun K hK => ?_) AllReadyT.nil
  go_simp
  have hal := (Below.refl w1.drew.heap.size w1.drew).alloc (Nat.le_refl _) (.cells #[.int .i64 c1, .int .i64 c2] 3)
  have hb2 : Blk (w1.drew.alloc (.cells #[.int .i64 c1, .int .i64 c2] 3)) w1.drew.heap.size 3 #[.int .i64 c1, .int .i64 c2] := Blk.new _ _ _
  have HOR := hide (or_any _ c1 c2 _ hb2)
  have H2 := hide ((H1.out.drew).alloc (by have := H1.out.size; simpa using this) (.cells #[.int .i64 c1, .int .i64 c2] 3))
  obtain ⟨a0, a1, a2, a3, a4, a5, a6, a7⟩ := hE0
  have hE1 : (fun X : World => X.cell? ⟨w.heap.size, 0, none⟩ = some (.int .i64 x.f) ∧ X.cell? ⟨w.heap.size, 1, none⟩ = some (.int .i64 x.b) ∧ X.cell? ⟨w.heap.size, 2, none⟩ = some (.int .i64 x.k) ∧ X.cell? ⟨w.heap.size, 3, none⟩ = some (.int .i64 x.m) ∧ X.cell? ⟨w.heap.size + 1, 0, none⟩ = some (.int .i64 y.f) ∧ X.cell? ⟨w.heap.size + 1, 1, none⟩ = some (.int .i64 y.b) ∧ X.cell? ⟨w.heap.size + 1, 2, none⟩ = some (.int .i64 y.k) ∧ X.cell? ⟨w.heap.size + 1, 3, none⟩ = some (.int .i64 y.m)) (w1.drew.alloc (.cells #[.int .i64 c1, .int .i64 c2] 3)) :=
    ⟨kept hal a0, kept hal a1, kept hal a2, kept hal a3, kept hal a4, kept hal a5, kept hal a6, kept hal a7⟩
  clear hal hb2 a0 a1 a2 a3 a4 a5 a6 a7
  refine hK.out _ _ (fun _ => hE1) ?_
  clear hK K
  try simp only [Act.put, List.setIfInBounds_toArray, List.set_cons_zero, List.set_cons_succ]
  refine wpAnyT_ready (rs := [13]) (by kernel_rfl) (by simp) ?_
  refine AllReadyT.cons rfl (fun K hK => ?_) AllReadyT.nil
  go_simp
  refine HOR.out.mono ?_
  rintro e w2 ⟨rfl, rfl⟩
  refine hK.out _ _ (fun _ => hE1) ?_
  clear hK K
  try simp only [Act.put, List.setIfInBounds_toArray, List.set_cons_zero, List.set_cons_succ]
  refine wpAnyT_ready (rs := [14]) (by kernel_rfl) (by simp) ?_
  refine AllReadyT.cons rfl (fun K hK => ?_) AllReadyT.nil
  go_simp
  refine hK.out _ _ (fun h => by cases h) ?_
  clear hK K
  try simp only [Act.put, List.setIfInBounds_toArray, List.set_cons_zero, List.set_cons_succ]
  refine wpAnyT_done (by kernel_rfl) ?_ _
  clear hE1
  go_wp2_with fail
  go_ret
  exact ⟨rfl, H2.out⟩

/-- Which of two steps, with their places, comes first. -/
def ltS (x y : Stp × Nat) : Prop := x.1.b < y.1.b ∨ (x.1.b = y.1.b ∧ (x.1.f < y.1.f ∨ (x.1.f = y.1.f ∧ x.2 < y.2)))
theorem cmpS_neg (x y : Stp) : (cmpS x y < 0 ↔ (x.b < y.b ∨ (x.b = y.b ∧ x.f < y.f))) ∧ -1 ≤ cmpS x y ∧ cmpS x y ≤ 1 := by
  unfold cmpS orI cmpI
  split
  · split at * <;> (try split at *) <;> omega
  · split at * <;> (try split at *) <;> omega
theorem cmpS_ok : CmpS (α := Stp × Nat) Prod.fst ltS Prod.snd (fun _ => True) (fun x y => cmpS x.1 y.1) := by
  refine ⟨fun W x y _ _ => aheadS_any x.1 y.1 W, fun x y _ _ hxy => ?_, fun x y => (cmpS_neg x.1 y.1).2, ⟨fun x y z h1 h2 => ?_, fun x y h1 h2 => ?_⟩⟩
  · rw [(cmpS_neg x.1 y.1).1]
    unfold ltS
    omega
  · unfold ltS at *; omega
  · unfold ltS at *; omega
def leS (x y : Stp × Nat) : Bool := decide (x.1.b < y.1.b ∨ (x.1.b = y.1.b ∧ (x.1.f < y.1.f ∨ (x.1.f = y.1.f ∧ x.2 ≤ y.2))))
theorem zip_nodup {α : Type} (l : List α) : (l.zipIdx.map Prod.snd).Nodup := by
  rw [List.zipIdx_map_snd]
  exact List.nodup_range'
theorem srt_ex (l : List Stp) : ∃ S : List (Stp × Nat), S.Perm l.zipIdx ∧ S.Pairwise ltS := by
  refine ⟨l.zipIdx.mergeSort leS, List.mergeSort_perm _ _, ?_⟩
  have h := List.pairwise_mergeSort (le := leS) (by
    intro a b c h1 h2
    simp only [leS, decide_eq_true_eq] at *
    omega) (by
    intro a b
    simp only [leS, Bool.or_eq_true, decide_eq_true_eq]
    omega) l.zipIdx
  have hnd : ((l.zipIdx.mergeSort leS).map Prod.snd).Nodup := ((List.mergeSort_perm _ _).map _).nodup_iff.2 (zip_nodup l)
  unfold List.Nodup at hnd
  rw [List.pairwise_map] at hnd
  refine (h.and hnd).imp ?_
  intro a b hab
  simp only [leS, decide_eq_true_eq] at hab
  unfold ltS
  omega
noncomputable def srtS (l : List Stp) : List (Stp × Nat) := Classical.choose (srt_ex l)
theorem srtS_perm (l : List Stp) : (srtS l).Perm l.zipIdx := (Classical.choose_spec (srt_ex l)).1
theorem srtS_sorted (l : List Stp) : (srtS l).Pairwise ltS := (Classical.choose_spec (srt_ex l)).2
theorem srtS_uniq {l : List Stp} {S : List (Stp × Nat)} (h1 : S.Perm l.zipIdx) (h2 : S.Pairwise ltS) : S = srtS l :=
  sorted_unique (fun x y a b => by unfold ltS at a b; omega) (h1.trans (srtS_perm l).symm) h2 (srtS_sorted l)
/-- The steps in order. -/
noncomputable def sortS (l : List Stp) : List Stp := (srtS l).map Prod.fst
theorem sortS_perm (l : List Stp) : (sortS l).Perm l := by
  have := (srtS_perm l).map Prod.fst
  rwa [List.zipIdx_map_fst] at this
theorem sortS_len (l : List Stp) : (sortS l).length = l.length := (sortS_perm l).length_eq

theorem insS_small (A : Option Addr) (n cap : Nat) (f : Value) (w : World) (hn : n ≤ 1) :
    Calls Tryz.prog 174 #[.slice A n cap, .int .i64 0, .int .i64 n, f] w fun e w' => e = .returned (.tuple #[]) ∧ w' = w := by
  go_enter Tryz.func174, Tryz.ntmps174
  go_wp2_with fail
  go_loop [8] (fun i => i = .int .i64 1) (fun _ => 0)
  case atStart => rfl
  case round =>
    subst hrel
    go_wp2_with fail
    go_end0
    exact ⟨rfl, rfl⟩
theorem stableS_small (A : Option Addr) (n cap : Nat) (f : Value) (w : World) (hn : n ≤ 1) :
    Calls Tryz.prog 62 #[.slice A n cap, f] w fun e w' => e = .returned (.tuple #[]) ∧ w' = w := by
  have key : Calls Tryz.prog 118 #[.slice A n cap, .int .i64 n, f] w fun e w' => e = .returned (.tuple #[]) ∧ w' = w := by
    go_enter Tryz.func118, Tryz.ntmps118
    go_wp2_with fail
    go_loop [7, 8] (fun a b => a = .int .i64 0 ∧ b = .int .i64 20) (fun _ _ => 0)
    case atStart => exact ⟨rfl, rfl⟩
    case round =>
      obtain ⟨rfl, rfl⟩ := hrel
      go_wp2_with fail
      refine (insS_small A n cap f w hn).mono ?_
      rintro e w' ⟨rfl, rfl⟩
      go_wp2_with fail
      go_loop [6] (fun b => b = .int .i64 20) (fun _ => 0)
      case atStart => rfl
      case round =>
        subst hrel
        go_wp2_with fail
        go_end0
        exact ⟨rfl, rfl⟩
  go_enter Tryz.func62, Tryz.ntmps62
  go_wp2_with fail
  refine key.mono ?_
  rintro e w' ⟨rfl, rfl⟩
  go_wp2_with fail
  go_end0
  exact ⟨rfl, rfl⟩
set_option maxRecDepth 100000 in
set_option maxHeartbeats 1000000 in
theorem sortS_any (l : List Stp) (A : Option Addr) (B n cap : Nat) (w : World) (hs : OwnS w B 158 4 A n cap (l.map encT)) (hm : n ≤ 1000000) :
    Calls Tryz.prog 62 #[.slice A n cap, .func (.func 63) #[] #[]] w fun e w' => e = .returned (.tuple #[]) ∧ OwnS w' B 158 4 A n cap ((sortS l).map encT) ∧ w.grownBy w' (blk A) := by
  have hln : l.length = n := by have := hs.len; simpa using this
  by_cases hn1 : n ≤ 1
  · refine (stableS_small A n cap _ w hn1).mono ?_
    rintro e w' ⟨rfl, rfl⟩
    have he : sortS l = l := by
      have hp := sortS_perm l
      rcases (show l.length = 0 ∨ l.length = 1 by omega) with h | h
      · have := List.eq_nil_of_length_eq_zero h
        rw [this] at hp ⊢
        exact List.perm_nil.1 hp
      · obtain ⟨x, hx⟩ := List.length_eq_one_iff.1 h
        rw [hx] at hp ⊢
        exact List.perm_singleton.1 hp
    rw [he]
    exact ⟨rfl, hs, World.grownBy.refl _ _⟩
  obtain ⟨g, hA, hg1, hg2⟩ : ∃ g, A = some ⟨g, 0, none⟩ ∧ B ≤ g ∧ g < w.heap.size := by
    rcases hs.addr with ⟨-, h0, -⟩ | ⟨g, h1, h2, h3⟩
    · omega
    · exact ⟨g, h1, h2, h3⟩
  subst hA
  have hrow : l.zipIdx.map (encSt (α := Stp × Nat) Prod.fst) = l.map encT := by
    have : (encSt (α := Stp × Nat) Prod.fst) = encT ∘ Prod.fst := rfl
    rw [this, ← List.map_map, List.zipIdx_map_fst]
  have hst := stableCS_any cmpS_ok l.zipIdx (w0 := w) (B := B) (g := g) (n := n) (cap := cap) (by
    have h := List.pairwise_lt_range' (s := 0) (n := l.length)
    rw [← List.zipIdx_map_snd, List.pairwise_map] at h
    exact h) (fun _ _ => trivial) (by simpa using hln) hm w ⟨by rw [hrow]; exact hs, World.grownBy.refl _ _⟩
  have HST := hide hst
  clear hst hs hrow hln hn1
  go_enter Tryz.func62, Tryz.ntmps62
  go_wp2_with fail
  refine HST.out.mono ?_
  rintro e w' ⟨rfl, S, hp, hso, hr⟩
  rw [srtS_uniq hp hso] at hr
  have hr2 := hr.own
  rw [List.nil_append, List.append_nil] at hr2
  have HR := hide (show OwnS w' B 158 4 (some ⟨g, 0, none⟩) n cap ((sortS l).map encT) by
    have : (encSt (α := Stp × Nat) Prod.fst) = encT ∘ Prod.fst := rfl
    rw [this, ← List.map_map] at hr2
    exact hr2)
  have HG := hide hr.gr
  clear hp hso hr hr2
  go_wp2_with fail
  go_end0
  exact ⟨rfl, HR.out, HG.out⟩
end Go.Proofs.YtmfohnchnbgbaaaGreat

/- adjust.check; what files that may be are; their steps. -/
namespace Go.Proofs.YtmfohnchnbgbaaaGreat
open Go.RowKit Go.Lib
set_option linter.unusedSimpArgs false

theorem made_len {bkd : Int} {l : List Ac} (h : madeB bkd l = true) : l.length ≤ 2000 := by
  rcases Nat.lt_or_ge 2000 l.length with h2 | h2
  · obtain ⟨a, ha⟩ := get_of (l := l) (k := 2000) h2
    have := (putC_zero (madeB_at h ha)).2.1
    rw [List.length_take] at this
    omega
  · exact h2
theorem right_file {c : Cv} {L : List Fl} (h : rightF c L = true) : coverB c = true ∧ ∀ x ∈ L, formedB x.c = true ∧ x.c.per = c.p ∧ madeB x.c.bkd x.l = true := by
  unfold rightF at h
  rw [Bool.and_eq_true, Bool.not_eq_true', List.any_eq_false] at h
  refine ⟨h.1, fun x hx => ?_⟩
  have := h.2 x hx
  unfold badF at this
  simp at this
  exact this
theorem acts_le {L : List Fl} (h : ∀ x ∈ L, x.l.length ≤ 2000) : ∀ k, actsN (L.take k) ≤ 2000 * k
  | 0 => by simp [actsN]
  | k + 1 => by
    rcases Nat.lt_or_ge k L.length with hk | hk
    · obtain ⟨x, hx⟩ := get_of hk
      have h1 := acts_le h k
      have h2 := h x (List.mem_of_getElem? hx)
      rw [acts_take hx]; omega
    · have h1 := acts_le h k
      rw [List.take_of_length_le hk] at h1
      rw [List.take_of_length_le (by omega)]; omega
set_option maxRecDepth 100000 in
set_option maxHeartbeats 2000000 in
theorem checkF_any (c : Cv) (A : Option Addr) (n cap : Nat) (L : List Fl) (w : World) (ho : okCv c) (hv : FV w A n cap L) (hn1 : n ≤ 1000000) :
    Calls Tryz.prog 61 #[.agg #[.int .i64 c.p, .int .i64 c.lim, .int .i64 c.agg, .int .i64 c.ded, .int .i64 c.sh], .slice A n cap] w fun e w' => e = .returned (.int .i64 (checkQ c L)) ∧ Below w.heap.size w w' := by
  have hn := hv.len
  have hle := hv.sv.le
  have hmo := hv.sv.most
  unfold maxLen at hmo
  obtain ⟨w1, hw1⟩ : ∃ W, w.alloc (.cells (cvC c) 23) = W := ⟨_, rfl⟩
  have h01 : Below w.heap.size w w1 := by rw [← hw1]; exact (Below.refl _ _).alloc (Nat.le_refl _) _
  have HB := hide (show Blk w1 w.heap.size 23 (cvC c) by rw [← hw1]; exact Blk.new _ _ _)
  obtain ⟨x0, x1, x2, x3, x4⟩ := cv_cells HB.out
  have HV := hide (hv.below h01)
  have H1 := hide h01
  have HW := hide hw1
  have HN := hide hn
  obtain ⟨b, hb⟩ : ∃ b, rightF c L = b := ⟨_, rfl⟩
  have HRF := hide hb
  have HR := hide (show Calls Tryz.prog 117 #[.agg #[.int .i64 c.p, .int .i64 c.lim, .int .i64 c.agg, .int .i64 c.ded, .int .i64 c.sh], .slice A n cap] w1 fun e w' => e = .returned (.bool b) ∧ Below w1.heap.size w1 w' by rw [← hb]; exact rightF_any c A n cap L w1 ho (hv.below h01))
  obtain ⟨Q, hQ⟩ : ∃ Q, checkQ c L = Q := ⟨_, rfl⟩
  have HQ := hide hQ
  rw [hQ]
  clear hw1 h01 hb hv ho hn hQ
  go_enter Tryz.func61, Tryz.ntmps61
  go_upto_region 1 with fail
  rw [show w.alloc (.cells #[.int .i64 c.p, .int .i64 c.lim, .int .i64 c.agg, .int .i64 c.ded, .int .i64 c.sh] 23) = w1 from HW.out]
  go_wp2_with fail
  refine HR.out.mono ?_
  rintro e w2 ⟨rfl, h2⟩
  have H12 := hide h2
  have H2 := hide (chain H1.out h2)
  have HV2 := hide (HV.out.below h2)
  clear h2 x0 x1 x2 x3 x4
  cases b
  · have hQ : Q = 1 := by rw [← HQ.out, checkQ, if_neg (by rw [HRF.out]; simp)]
    subst hQ
    go_wp2_with fail
    go_ret
    exact ⟨rfl, H2.out⟩
  have HAL := hide (acts_le (L := L) (fun x hx => made_len ((right_file HRF.out).2 x hx).2.2))
  have HQ2 := hide (show (if 2000 < n ∨ 2000 < actsN L then (2 : Int) else 0) = Q by rw [← HQ.out, checkQ, if_pos HRF.out, HN.out])
  go_wp2_with fail
  go_loopw [5, 14] (fun q5 q14 wr => ∃ k : Nat, k ≤ n ∧ q14 = .int .i64 k ∧ q5 = .int .i64 (actsN (L.take k)) ∧ Below w2.heap.size w2 wr) (fun _ q _ => n - (RowKit.intOf q).toNat)
  case atStart => exact ⟨0, Nat.zero_le _, rfl, by simp [actsN], Below.refl _ _⟩
  case round =>
    obtain ⟨k, hk, rfl, rfl, hb⟩ := hrel
    have HBE := hide hb
    have hal := HAL.out k
    by_cases hlt : k < n
    · obtain ⟨x, hx⟩ := get_of (l := L) (k := k) (by rw [HN.out]; exact hlt)
      obtain ⟨bb, off, hA, hbl, c0, c1, c2, c3, c4, c5, c6⟩ := (HV2.out.below hb).sv.sl.fl hx
      have hk0 : (0 : Int) ≤ (k : Int) := by omega
      have hk1 : (k : Int) < (n : Int) := by omega
      have hal1 := HAL.out (k + 1)
      have hat := acts_take hx
      obtain ⟨a0, ha0⟩ : ∃ a, actsN (L.take k) = a := ⟨_, rfl⟩
      obtain ⟨a1, ha1⟩ : ∃ a, x.l.length = a := ⟨_, rfl⟩
      rw [ha0, ha1] at hat
      rw [hat] at hal1
      rw [ha0] at hal ⊢
      rw [ha1] at c6
      have HAT := hide hat
      subst hA
      clear hx hb ha0 ha1 hat
      have hal2 : a0 + a1 ≤ 2000000000 + 2000 := by omega
      go_wp2_with fail
      go_roundw
      case rel => exact ⟨k + 1, by omega, by go_num, by rw [HAT.out]; go_num, HBE.out.alloc HBE.out.size _⟩
      case measure => simp [RowKit.intOf]; omega
    · obtain rfl : k = n := by omega
      have hq := HQ2.out
      rw [List.take_of_length_le (by rw [HN.out]; exact Nat.le_refl _)] at hal ⊢
      obtain ⟨a0, ha0⟩ : ∃ a, actsN L = a := ⟨_, rfl⟩
      rw [ha0] at hq hal ⊢
      clear ha0 hb
      by_cases h1 : 2000 < k
      · have hz : decide (2000 < k) = true := by simpa using h1
        rw [if_pos (.inl h1)] at hq
        subst hq
        go_wp2_with fail
        go_ret
        exact ⟨rfl, chain H2.out HBE.out⟩
      · have hz : decide (2000 < k) = false := by simpa using h1
        by_cases h2 : 2000 < a0
        · have hz2 : decide (2000 < a0) = true := by simpa using h2
          rw [if_pos (.inr h2)] at hq
          subst hq
          go_wp2_with fail
          go_ret
          exact ⟨rfl, chain H2.out HBE.out⟩
        · have hz2 : decide (2000 < a0) = false := by simpa using h2
          rw [if_neg (by omega)] at hq
          subst hq
          go_wp2_with fail
          go_ret
          exact ⟨rfl, chain H2.out HBE.out⟩
/-- The steps of files, in their places. -/
def stepsF (i : Nat) (x : Fl) : List Stp := x.l.map fun a => ⟨i, a.b, a.k, a.m⟩
def stepsL : Nat → List Fl → List Stp
  | _, [] => []
  | i, x :: r => stepsF i x ++ stepsL (i + 1) r
theorem stepsL_app : ∀ (l r : List Fl) (i : Nat), stepsL i (l ++ r) = stepsL i l ++ stepsL (i + l.length) r
  | [], r, i => by simp [stepsL]
  | x :: l, r, i => by rw [List.cons_append, stepsL, stepsL_app l r (i + 1), stepsL, List.append_assoc, List.length_cons, show i + 1 + l.length = i + (l.length + 1) by omega]
theorem stepsL_take {L : List Fl} {k : Nat} {x : Fl} (h : L[k]? = some x) : stepsL 0 (L.take (k + 1)) = stepsL 0 (L.take k) ++ stepsF k x := by
  have hk := lt_of_get h
  rw [take_of h, stepsL_app]
  simp [stepsL, Nat.min_eq_left (Nat.le_of_lt hk)]
theorem stepsL_len : ∀ (L : List Fl) (i : Nat), (stepsL i L).length = actsN L
  | [], _ => rfl
  | x :: r, i => by simp [stepsL, stepsF, stepsL_len r, actsN]
theorem stepsL_mem : ∀ {L : List Fl} {i : Nat} {s : Stp}, s ∈ stepsL i L → ∃ (k : Nat) (x : Fl) (a : Ac), L[k]? = some x ∧ a ∈ x.l ∧ s = ⟨((i + k : Nat) : Int), a.b, a.k, a.m⟩
  | [], _, _, h => by simp [stepsL] at h
  | x :: r, i, s, h => by
    rw [stepsL, List.mem_append] at h
    rcases h with h | h
    · obtain ⟨a, ha, rfl⟩ := List.mem_map.1 h
      exact ⟨0, x, a, rfl, ha, rfl⟩
    · obtain ⟨k, y, a, h1, h2, rfl⟩ := stepsL_mem h
      exact ⟨k + 1, y, a, by simpa using h1, h2, by rw [show i + (k + 1) = i + 1 + k by omega]⟩
end Go.Proofs.YtmfohnchnbgbaaaGreat
