/- Part 35 of the proof. -/
import Derived.Test.YtmfohnchnbgbaaaGreatKnM32
import Derived.Test.YtmfohnchnbgbaaaGreatKnM34
/- accrue.Between. -/
namespace Go.Proofs.YtmfohnchnbgbaaaGreat
open Go.RowKit Go.Lib
set_option linter.unusedSimpArgs false

def betQ (l : List Sc) (f t : Int) : Int × Int :=
  if curK l = 0 then (if spanB f t = true then (if (uptoQ (curF l).1 (curF l).2 t).2 ≠ 0 then (0, (uptoQ (curF l).1 (curF l).2 t).2) else if (uptoQ (curF l).1 (curF l).2 f).2 ≠ 0 then (0, (uptoQ (curF l).1 (curF l).2 f).2) else ((uptoQ (curF l).1 (curF l).2 t).1 - (uptoQ (curF l).1 (curF l).2 f).1, 0)) else (0, 1)) else (0, 1)

section
variable {P : Program} {fn : Func} {R : Ending → World → Prop}
theorem leaves_eq {tmps tmps' : Array Value} (h : results fn tmps = results fn tmps') : ∀ (ds : List Deferred) (u : FrameMode) (w : World), Leaves P fn tmps R ds u w = Leaves P fn tmps' R ds u w
  | [], u, w => by cases u <;> simp only [Leaves, h]
  | d :: ds, u, w => by simp only [Leaves, leaves_eq h ds]
theorem results_put {p c d : Nat} {ty : TypeId} {v : Value} (hr : fn.results = #[.tmp p, .cell c ty]) (h1 : p ≠ d) (h2 : c ≠ d) (tmps : Array Value) : results fn (tmps.setIfInBounds d v) = results fn tmps := by
  have e1 : (tmps.setIfInBounds d v)[p]?.getD undef = tmps[p]?.getD undef := by rw [Array.getElem?_setIfInBounds_ne (Ne.symm h1)]
  have e2 : (tmps.setIfInBounds d v)[c]?.getD undef = tmps[c]?.getD undef := by rw [Array.getElem?_setIfInBounds_ne (Ne.symm h2)]
  simp [results, hr, Array.getD_eq_getD_getElem?, e1, e2]
/-- What a region writes into a slot that no result lies in does not matter to a panic. -/
theorem put_panic {K : Act → World → Prop} {p c d : Nat} {ty : TypeId} {v : Value} (hr : fn.results = #[.tmp p, .cell c ty]) (h1 : p ≠ d) (h2 : c ≠ d) (x : List PanicEntry) (a : Act) (w : World)
    (h : Exit.then K (bodyPostD P fn R) (.panic x) (a.put (some d) v) w) : Exit.then K (bodyPostD P fn R) (.panic x) a w := by
  change Leaves P fn (a.tmps.setIfInBounds d v) R a.defers (.panicking x) w at h
  change Leaves P fn a.tmps R a.defers (.panicking x) w
  rwa [leaves_eq (results_put hr h1 h2 a.tmps)] at h
end

set_option maxRecDepth 100000 in
set_option maxHeartbeats 4000000 in
theorem between_any (A : Option Addr) (cap n : Nat) (l : List Sc) (f t : Int) (w : World) (hs : SV w 9 A n cap (l.map encSc)) :
    Calls Tryz.prog 84 #[.slice A n cap, .agg #[.int .i64 f, .int .i64 t]] w fun e w' => e = .returned (.tuple #[.int .i64 (betQ l f t).1, .int .i64 (betQ l f t).2]) ∧ Below w.heap.size w w' := by
  obtain ⟨w1, hw1⟩ : ∃ W, (w.alloc (.cells #[.int .i64 f, .int .i64 t] 57)).alloc (.cells #[.int .i64 0] 31) = W := ⟨_, rfl⟩
  have H1 := hide (show Below w.heap.size w w1 by rw [← hw1]; exact ((Below.refl _ _).alloc (Nat.le_refl _) _).alloc (by simp) _)
  have HS1 := hide (show Blk w1 w.heap.size 57 #[.int .i64 f, .int .i64 t] by rw [← hw1]; exact (Blk.new _ _ _).alloc _)
  have HB1 := hide (show Blk w1 (w.heap.size + 1) 31 #[.int .i64 0] by rw [← hw1]; exact Blk.new' (by simp))
  have hz1 : w.heap.size + 1 < w1.heap.size := HB1.out.lt
  have HCU := hide (curve_any addc_all A cap n l w1 (hs.below H1.out))
  have HW1 := hide hw1
  have HMU := hide (must_no 1 (by decide))
  clear hw1 hs
  go_enter_defers Tryz.func84, Tryz.ntmps84
  go_upto_region 1 with fail
  rw [show (w.alloc (.cells #[.int .i64 f, .int .i64 t] 57)).alloc (.cells #[.int .i64 0] 31) = w1 from HW1.out]
  go_wp2_with fail
  refine HCU.out.mono ?_
  rintro e w2 ⟨h2, hr⟩
  have HB2 := hide (HB1.out.below h2 hz1)
  have HS2 := hide (HS1.out.below h2 HS1.out.lt)
  have H2 := hide (chain H1.out h2)
  have hz2 := HB2.out.lt
  clear h2
  rcases hr with ⟨hk, rfl⟩ | ⟨hk, A1, A2, c1, c2, rfl, hs1, hs2⟩
  · have HQ := hide (show betQ l f t = (0, 1) by rw [betQ, if_neg (by omega)])
    clear hk
    simp only [pan]
    go_wp2_with fail
    refine leaves_cons (f := 46) (args := #[.pointer (some ⟨w.heap.size + 1, 0, none⟩)]) (by simp) (by simp [go_sem]) ?_
    refine (told_box _ 0 1 [] _ HB2.out).mono ?_
    rintro e u' w'' ⟨rfl, rfl, rfl⟩
    have ob := (HB2.out.set_ 0 (.int .i64 1)).cell 0
    simp at ob
    simp only [settle, List.dropWhile]
    simp only [Leaves, results, Tryz.results84, go_sem]
    simp [ob]
    exact ⟨by rw [HQ.out]; exact ⟨rfl, rfl⟩, H2.out.setCell (by simp) _⟩
  · have hnn := curF_nn hk
    obtain ⟨w3, hw3⟩ : ∃ W, w2.alloc (.cells #[.slice A1 (curF l).1.length c1, .slice A2 (curF l).2.length c2] 132) = W := ⟨_, rfl⟩
    have hb3 : Below w2.heap.size w2 w3 := by rw [← hw3]; exact (Below.refl _ _).alloc (Nat.le_refl _) _
    have hS3 : Blk w3 w2.heap.size 132 #[.slice A1 (curF l).1.length c1, .slice A2 (curF l).2.length c2] := by rw [← hw3]; exact Blk.new _ _ _
    have HS3 := hide (HS2.out.below hb3 HS2.out.lt)
    have x0 : w3.cell? ⟨w.heap.size, 0, none⟩ = some (.int .i64 f) := HS3.out.cell 0
    have x1 : w3.cell? ⟨w.heap.size, 1, none⟩ = some (.int .i64 t) := HS3.out.cell 1
    obtain ⟨b, hb⟩ : ∃ b, spanB f t = b := ⟨_, rfl⟩
    have HSR := hide (span_is hb w3)
    go_upto_region 3 with fail
    go_wp2_with fail
    refine HSR.out.mono ?_
    rintro e w4 ⟨rfl, h4⟩
    have H4 := hide (chain (chain H2.out hb3) h4)
    have h34 := chain hb3 h4
    have HB4 := hide (HB2.out.below h34 hz2)
    have HX4 := hide (HS2.out.below h34 HS2.out.lt)
    have HF4 := hide (hS3.below h4 hS3.lt)
    have HSA := hide (hs1.below h34)
    have HSB := hide (hs2.below h34)
    have HSP := hide hb
    have hlt2 : w2.heap.size < w4.heap.size := HF4.out.lt
    clear hb h4 h34 hb3 hS3 hs1 hs2 x0 x1 hw3 HSR HS3 HB2 HS2 H2
    cases b
    · have HQ := hide (show betQ l f t = (0, 1) by rw [betQ, if_pos hk, if_neg (by rw [HSP.out]; simp)])
      clear hk
      go_wp2_with fail
      refine (HMU.out _).mono ?_
      rintro e w' ⟨rfl, rfl⟩
      go_wp2_with fail
      refine leaves_cons (f := 46) (args := #[.pointer (some ⟨w.heap.size + 1, 0, none⟩)]) (by simp) (by simp [go_sem]) ?_
      refine (told_box _ 0 1 [] _ HB4.out).mono ?_
      rintro e u' w'' ⟨rfl, rfl, rfl⟩
      have ob := (HB4.out.set_ 0 (.int .i64 1)).cell 0
      simp at ob
      simp only [settle, List.dropWhile]
      simp only [Leaves, results, Tryz.results84, go_sem]
      simp [ob]
      exact ⟨by rw [HQ.out]; exact ⟨rfl, rfl⟩, H4.out.setCell (by simp) _⟩
    · have HQ := hide (show betQ l f t = (if (uptoQ (curF l).1 (curF l).2 t).2 ≠ 0 then (0, (uptoQ (curF l).1 (curF l).2 t).2) else if (uptoQ (curF l).1 (curF l).2 f).2 ≠ 0 then (0, (uptoQ (curF l).1 (curF l).2 f).2) else ((uptoQ (curF l).1 (curF l).2 t).1 - (uptoQ (curF l).1 (curF l).2 f).1, 0)) by rw [betQ, if_pos hk, if_pos HSP.out])
      have HUP := hide (fun (d : Int) (W : World) (hW : Below w4.heap.size w4 W) => upto_any A1 A2 _ _ c1 c2 (curF l).1 (curF l).2 d W (HSA.out.below hW) (HSB.out.below hW) (by omega) hnn.1)
      have HCK := hide hk
      clear hk hnn
      go_upto_region 5 with fail
      have hwd : Below w4.heap.size w4 w4.drew := (Below.refl _ _).drew
      have hS0 : (fun X : World => X.cell? ⟨w2.heap.size, 0, none⟩ = some (.slice A1 (curF l).1.length c1) ∧ X.cell? ⟨w2.heap.size, 1, none⟩ = some (.slice A2 (curF l).2.length c2) ∧ X.cell? ⟨w.heap.size, 0, none⟩ = some (.int .i64 f) ∧ X.cell? ⟨w.heap.size, 1, none⟩ = some (.int .i64 t)) w4.drew :=
        ⟨kept hwd (HF4.out.cell 0), kept hwd (HF4.out.cell 1), kept hwd (HX4.out.cell 0), kept hwd (HX4.out.cell 1)⟩
      refine wp_region_T (fun X => X.cell? ⟨w2.heap.size, 0, none⟩ = some (.slice A1 (curF l).1.length c1) ∧ X.cell? ⟨w2.heap.size, 1, none⟩ = some (.slice A2 (curF l).2.length c2) ∧ X.cell? ⟨w.heap.size, 0, none⟩ = some (.int .i64 f) ∧ X.cell? ⟨w.heap.size, 1, none⟩ = some (.int .i64 t)) [10] rfl (by kernel_rfl) ?_
      refine wpAnyT_take (i := 0) (v := ?_) rfl (by kernel_rfl) (by kernel_rfl) (by kernel_rfl) (by kernel_rfl) (put_panic Tryz.results84 (by decide) (by decide)) (Or.inl ⟨by rfl, ?_⟩) hS0 ?_
      rotate_left
      · intro W hSW
        obtain ⟨hs0, hs1, hs2, hs3⟩ := hSW
        go_simp
        try with_reducible rfl
      simp only [Act.put, List.setIfInBounds_toArray, List.set_cons_zero, List.set_cons_succ]
      refine wpAnyT_take (i := 1) (v := ?_) rfl (by kernel_rfl) (by kernel_rfl) (by kernel_rfl) (by kernel_rfl) (put_panic Tryz.results84 (by decide) (by decide)) (Or.inl ⟨by rfl, ?_⟩) hS0 ?_
      rotate_left
      · intro W hSW
        obtain ⟨hs0, hs1, hs2, hs3⟩ := hSW
        go_simp
        try with_reducible rfl
      simp only [Act.put, List.setIfInBounds_toArray, List.set_cons_zero, List.set_cons_succ]
      refine wpAnyT_take (i := 2) (v := ?_) rfl (by kernel_rfl) (by kernel_rfl) (by kernel_rfl) (by kernel_rfl) (put_panic Tryz.results84 (by decide) (by decide)) (Or.inl ⟨by rfl, ?_⟩) hS0 ?_
      rotate_left
      · intro W hSW
        obtain ⟨hs0, hs1, hs2, hs3⟩ := hSW
        go_simp
        try with_reducible rfl
      simp only [Act.put, List.setIfInBounds_toArray, List.set_cons_zero, List.set_cons_succ]
      refine wpAnyT_take (i := 4) (v := ?_) rfl (by kernel_rfl) (by kernel_rfl) (by kernel_rfl) (by kernel_rfl) (put_panic Tryz.results84 (by decide) (by decide)) (Or.inl ⟨by rfl, ?_⟩) hS0 ?_
      rotate_left
      · intro W hSW
        obtain ⟨hs0, hs1, hs2, hs3⟩ := hSW
        go_simp
        try with_reducible rfl
      simp only [Act.put, List.setIfInBounds_toArray, List.set_cons_zero, List.set_cons_succ]
      refine wpAnyT_take (i := 5) (v := ?_) rfl (by kernel_rfl) (by kernel_rfl) (by kernel_rfl) (by kernel_rfl) (put_panic Tryz.results84 (by decide) (by decide)) (Or.inl ⟨by rfl, ?_⟩) hS0 ?_
      rotate_left
      · intro W hSW
        obtain ⟨hs0, hs1, hs2, hs3⟩ := hSW
        go_simp
        try with_reducible rfl
      simp only [Act.put, List.setIfInBounds_toArray, List.set_cons_zero, List.set_cons_succ]
      refine wpAnyT_take (i := 6) (v := ?_) rfl (by kernel_rfl) (by kernel_rfl) (by kernel_rfl) (by kernel_rfl) (put_panic Tryz.results84 (by decide) (by decide)) (Or.inl ⟨by rfl, ?_⟩) hS0 ?_
      rotate_left
      · intro W hSW
        obtain ⟨hs0, hs1, hs2, hs3⟩ := hSW
        go_simp
        try with_reducible rfl
      simp only [Act.put, List.setIfInBounds_toArray, List.set_cons_zero, List.set_cons_succ]
      refine wpAnyT_ready (rs := [3]) (by kernel_rfl) (by simp) ?_
      refine AllReadyT.cons rfl (fun K hK => ?_) AllReadyT.nil
      go_simp
      obtain ⟨qt, hqt⟩ : ∃ q, uptoQ (curF l).1 (curF l).2 t = q := ⟨_, rfl⟩
      obtain ⟨qf, hqf⟩ : ∃ q, uptoQ (curF l).1 (curF l).2 f = q := ⟨_, rfl⟩
      have hbt : 0 ≤ qt.1 ∧ qt.1 ≤ 4000000000000000000 := by rw [← hqt]; have := UptoQ_bd l t; rwa [UptoQ, if_pos HCK.out] at this
      have hbf : 0 ≤ qf.1 ∧ qf.1 ≤ 4000000000000000000 := by rw [← hqf]; have := UptoQ_bd l f; rwa [UptoQ, if_pos HCK.out] at this
      have hu1 := HUP.out t
      have hu2 := HUP.out f
      rw [hqt] at hu1 HQ
      rw [hqf] at hu2 HQ
      obtain ⟨vt, kt⟩ := qt
      obtain ⟨vf, kf⟩ := qf
      simp only at hu1 hu2 HQ hbt hbf
      have HU2 := hide hu2
      clear hqt hqf HUP hu2
      refine (hu1 w4.drew hwd).mono ?_
      rintro e w5 ⟨he, h5⟩
      have h45 := chain hwd h5
      have HB5 := hide (HB4.out.below h45 HB4.out.lt)
      have H5 := hide (chain H4.out h45)
      have H45 := hide h45
      have q0 := kept h5 hS0.1
      have q1 := kept h5 hS0.2.1
      have q2 := kept h5 hS0.2.2.1
      have q3 := kept h5 hS0.2.2.2
      clear h5 h45 hu1
      rcases he with ⟨hk, rfl⟩ | ⟨hk, hk0, rfl⟩
      · simp only at hk
        subst hk
        refine hK.out _ _ (fun _ => ⟨q0, q1, q2, q3⟩) ?_
        clear hK K
        simp only [Act.put, List.setIfInBounds_toArray, List.set_cons_succ]
        refine wpAnyT_ready (rs := [7]) (by kernel_rfl) (by simp) ?_
        refine AllReadyT.cons rfl (fun K hK => ?_) AllReadyT.nil
        go_simp
        refine (HU2.out w5 H45.out).mono ?_
        rintro e w6 ⟨he, h6⟩
        have HB6 := hide (HB5.out.below h6 HB5.out.lt)
        have H6 := hide (chain H5.out h6)
        have r0 := kept h6 q0
        have r1 := kept h6 q1
        have r2 := kept h6 q2
        have r3 := kept h6 q3
        clear h6
        rcases he with ⟨hk, rfl⟩ | ⟨hk, hk0, rfl⟩
        · simp only at hk
          subst hk
          refine hK.out _ _ (fun _ => ⟨r0, r1, r2, r3⟩) ?_
          clear hK K
          have f0 := HB6.out.frozen 0
          have y0 := HB6.out.cell 0
          simp at y0
          have hwr2 : wrap64 (vt - vf) = vt - vf := IntWalk.wrap64_in _ (by omega)
          try simp only [Act.put, List.setIfInBounds_toArray, List.set_cons_zero, List.set_cons_succ]
          refine wpAnyT_ready (rs := [8]) (by kernel_rfl) (by simp) ?_
          refine AllReadyT.cons rfl (fun K hK => ?_) AllReadyT.nil
          go_simp
          refine hK.out _ _ (fun _ => ⟨r0, r1, r2, r3⟩) ?_
          clear hK K
          try simp only [Act.put, List.setIfInBounds_toArray, List.set_cons_zero, List.set_cons_succ]
          refine wpAnyT_ready (rs := [9]) (by kernel_rfl) (by simp) ?_
          refine AllReadyT.cons rfl (fun K hK => ?_) AllReadyT.nil
          go_simp
          refine hK.out _ _ (fun _ => ⟨r0, r1, r2, r3⟩) ?_
          clear hK K
          try simp only [Act.put, List.setIfInBounds_toArray, List.set_cons_zero, List.set_cons_succ]
          refine wpAnyT_ready (rs := [10]) (by kernel_rfl) (by simp) ?_
          refine AllReadyT.cons rfl (fun K hK => ?_) AllReadyT.nil
          go_simp
          refine hK.out _ _ (fun h => by cases h) ?_
          clear hK K
          try simp only [Act.put, List.setIfInBounds_toArray, List.set_cons_zero, List.set_cons_succ]
          refine wpAnyT_done (by kernel_rfl) ?_ _
          clear r0 r1 r2 r3 q0 q1 q2 q3 hS0
          go_wp2_with fail
          refine leaves_cons (f := 46) (args := #[.pointer (some ⟨w.heap.size + 1, 0, none⟩)]) (by simp) (by simp [go_sem]) ?_
          refine (told_ok _ _).mono ?_
          rintro e u' w'' ⟨rfl, rfl, rfl⟩
          have ob := (HB6.out.set_ 0 (.int .i64 0)).cell 0
          simp at ob
          simp only [settle]
          simp only [Leaves, results, Tryz.results84, go_sem]
          simp [ob]
          have hq2 : betQ l f t = (vt - vf, 0) := by rw [HQ.out]; simp
          have hwr : IntKind.i64.wrap (vt - vf) = vt - vf := by first | exact hwr2 | (simp [IntKind.wrap, IntKind.bits, IntKind.signed]; omega)
          exact ⟨by rw [hq2, hwr]; exact ⟨rfl, rfl⟩, H6.out.setCell (by simp) _⟩
        · simp only at hk hk0
          simp only [pan]
          have HBX := hide (HB6.out)
          refine leaves_cons (f := 46) (args := #[.pointer (some ⟨w.heap.size + 1, 0, none⟩)]) (by simp) (by simp [go_sem]) ?_
          refine (told_box _ 0 kf [] _ HBX.out).mono ?_
          rintro e u' w'' ⟨rfl, rfl, rfl⟩
          have ob := (HBX.out.set_ 0 (.int .i64 kf)).cell 0
          simp at ob
          simp only [settle, List.dropWhile]
          simp only [Leaves, results, Tryz.results84, go_sem]
          simp [ob]
          have hq2 : betQ l f t = (0, kf) := by rw [HQ.out]; simp only [ne_eq, not_true_eq_false, if_false]; exact if_pos hk
          exact ⟨by rw [hq2]; exact ⟨rfl, rfl⟩, H6.out.setCell (by simp) _⟩
      · simp only at hk hk0
        simp only [pan]
        have HBX := hide (HB5.out)
        refine leaves_cons (f := 46) (args := #[.pointer (some ⟨w.heap.size + 1, 0, none⟩)]) (by simp) (by simp [go_sem]) ?_
        refine (told_box _ 0 kt [] _ HBX.out).mono ?_
        rintro e u' w'' ⟨rfl, rfl, rfl⟩
        have ob := (HBX.out.set_ 0 (.int .i64 kt)).cell 0
        simp at ob
        simp only [settle, List.dropWhile]
        simp only [Leaves, results, Tryz.results84, go_sem]
        simp [ob]
        have hq2 : betQ l f t = (0, kt) := by rw [HQ.out]; exact if_pos hk
        exact ⟨by rw [hq2]; exact ⟨rfl, rfl⟩, H5.out.setCell (by simp) _⟩
end Go.Proofs.YtmfohnchnbgbaaaGreat

/- What is earned between two days is not below 0. -/
namespace Go.Proofs.YtmfohnchnbgbaaaGreat
open Go.RowKit

/-- Where the sum of the pieces is told it is the days' sum. -/
theorem sumG_val {a v : List Int} (hv : ∀ x ∈ v, 0 ≤ x) {t : Int} : ∀ {r : List Int} {f s : Int}, Ris r → (∀ x ∈ a, f < x → x < t → x ∈ r) → f < t → 0 ≤ s → s ≤ 4000000000000000000 → (sumG (pcL a v t f r) s s).2 = 0 →
    (sumG (pcL a v t f r) s s).1 = s + sumD (fun q => valI q 0 a v) f (t - f).toNat ∧ (sumG (pcL a v t f r) s s).1 ≤ 4000000000000000000
  | [], f, s, _, hr, hft, hs, hs2, he => by
    have hc : sumD (fun q => valI q 0 a v) f (t - f).toNat = ((t - f).toNat : Int) * valI f 0 a v := sumD_const fun i hi => valI_same (fun x hx => by
      rcases Int.lt_or_le f x with h | h
      · rcases Int.lt_or_le x t with h2 | h2
        · have := hr x hx h h2; simp at this
        · right; omega
      · exact .inl h) (by omega)
    have hn := valI_nn (t := f) (a := a) (v := v) (acc := 0) hv (Int.le_refl _)
    have hm : max (valI f 0 a v) (-valI f 0 a v) = valI f 0 a v := by omega
    rw [hc, show ((t - f).toNat : Int) = t - f by omega]
    rw [pcL, sumG, hm] at he ⊢
    by_cases hq : (4000000000000000000 - s) / (t - f) < valI f 0 a v
    · rw [if_pos hq] at he; cases he
    · rw [if_neg hq, sumG]
      have h1 := (Int.le_ediv_iff_mul_le (c := t - f) (by omega)).1 (Int.not_lt.1 hq)
      rw [Int.mul_comm] at h1
      exact ⟨rfl, by show s + (t - f) * valI f 0 a v ≤ _; omega⟩
  | d :: r, f, s, hris, hr, hft, hs, hs2, he => by
    rw [pcL] at he ⊢
    by_cases hc : d ≤ f ∨ t ≤ d
    · rw [if_pos hc] at he ⊢
      exact sumG_val hv hris.tail (fun x hx h1 h2 => by
        rcases List.mem_cons.1 (hr x hx h1 h2) with rfl | h3
        · omega
        · exact h3) hft hs hs2 he
    · rw [if_neg hc] at he ⊢
      have hsplit : sumD (fun q => valI q 0 a v) f (t - f).toNat = sumD (fun q => valI q 0 a v) f (d - f).toNat + sumD (fun q => valI q 0 a v) d (t - d).toNat := by
        have h1 := sumD_add (fun q => valI q 0 a v) f (d - f).toNat (t - d).toNat
        rw [show (d - f).toNat + (t - d).toNat = (t - f).toNat by omega, show f + (((d - f).toNat : Nat) : Int) = d by omega] at h1
        exact h1
      have hcst : sumD (fun q => valI q 0 a v) f (d - f).toNat = ((d - f).toNat : Int) * valI f 0 a v := sumD_const fun i hi => valI_same (fun x hx => by
        rcases Int.lt_or_le f x with h | h
        · rcases Int.lt_or_le x t with h2 | h2
          · rcases List.mem_cons.1 (hr x hx h h2) with rfl | h3
            · right; omega
            · right
              have := hris.lt_all x h3
              omega
          · right; omega
        · exact .inl h) (by omega)
      have hn := valI_nn (t := f) (a := a) (v := v) (acc := 0) hv (Int.le_refl _)
      have hm : max (valI f 0 a v) (-valI f 0 a v) = valI f 0 a v := by omega
      rw [hsplit, hcst, show ((d - f).toNat : Int) = d - f by omega]
      rw [sumG, hm] at he ⊢
      by_cases hq : (4000000000000000000 - s) / (d - f) < valI f 0 a v
      · rw [if_pos hq] at he; cases he
      · rw [if_neg hq] at he ⊢
        have h1 := (Int.le_ediv_iff_mul_le (c := d - f) (by omega)).1 (Int.not_lt.1 hq)
        rw [Int.mul_comm] at h1
        have hmn : 0 ≤ (d - f) * valI f 0 a v := Int.mul_nonneg (by omega) hn
        obtain ⟨k1, k2⟩ := sumG_val hv hris.tail (fun x hx h1 h2 => by
          rcases List.mem_cons.1 (hr x hx (by omega) h2) with rfl | h3
          · omega
          · exact h3) (by omega) (by omega) (by omega) he
        exact ⟨by rw [k1, Int.add_assoc], k2⟩
theorem evN_mono {a b : Nat} (h : a ≤ b) : evN a 1 365 ≤ evN b 1 365 := by
  unfold evN upN
  split <;> split <;> omega
theorem evN_bd {a : Nat} (h : a ≤ 4000000000000000000) : evN a 1 365 ≤ 4000000000000000000 := by
  have := upN_ge (a * 1 / 365) (a * 1 % 365) 365
  unfold evN; omega
/-- WHAT IS EARNED BY A LATER DAY IS NO LESS. -/
theorem upto_mono {l : List Sc} {f t : Int} (hk : curK l = 0) (hft : f ≤ t) (h1 : (uptoQ (curF l).1 (curF l).2 f).2 = 0) (h2 : (uptoQ (curF l).1 (curF l).2 t).2 = 0) : (uptoQ (curF l).1 (curF l).2 f).1 ≤ (uptoQ (curF l).1 (curF l).2 t).1 := by
  have hnn := (curF_nn hk).1
  have hu : 1 ≤ uptD f ∧ uptD f ≤ uptD t ∧ uptD t ≤ 292195 := by unfold uptD; omega
  have hb := UptoQ_bd l t
  rw [UptoQ, if_pos hk] at hb
  unfold uptoQ at h1 h2 hb ⊢
  by_cases hf : uptD f = 1
  · rw [if_pos hf]; exact hb.1
  rw [if_neg hf] at h1 ⊢
  have ht : ¬ uptD t = 1 := by omega
  rw [if_neg ht] at h2 ⊢
  have key : ∀ d, 1 < d → d ≤ 292195 → (sumQ (curF l).1 (curF l).2 1 d).2 = 0 → (sumQ (curF l).1 (curF l).2 1 d).1 = sumD (fun q => valI q 0 (curF l).1 (curF l).2) 1 (d - 1).toNat ∧ (sumQ (curF l).1 (curF l).2 1 d).1 ≤ 4000000000000000000 := by
    intro d hd1 hd2 he
    unfold sumQ at he ⊢
    by_cases hst : stepRB (curF l).1 (curF l).2 = true
    · rw [if_pos hst, if_pos (by rw [daysB, decide_eq_true_eq]; omega)] at he ⊢
      have := sumG_val hnn (t := d) (r := (curF l).1) (f := 1) (s := 0) (rsG_ris hst).tail (fun x hx _ _ => hx) (by omega) (Int.le_refl _) (by omega) he
      rw [Int.zero_add] at this
      exact this
    · rw [if_neg hst] at he; cases he
  by_cases e1 : (sumQ (curF l).1 (curF l).2 1 (uptD f)).2 = 0
  · by_cases e2 : (sumQ (curF l).1 (curF l).2 1 (uptD t)).2 = 0
    · rw [if_pos e1, if_pos e2]
      obtain ⟨a1, a2⟩ := key _ (by omega) (by omega) e1
      obtain ⟨b1, b2⟩ := key _ (by omega) (by omega) e2
      have hsp := sumD_add (fun q => valI q 0 (curF l).1 (curF l).2) 1 (uptD f - 1).toNat (uptD t - uptD f).toNat
      rw [show (uptD f - 1).toNat + (uptD t - uptD f).toNat = (uptD t - 1).toNat by omega] at hsp
      have hnn2 : 0 ≤ sumD (fun q => valI q 0 (curF l).1 (curF l).2) (1 + (((uptD f - 1).toNat : Nat) : Int)) (uptD t - uptD f).toNat := sumD_nn fun i _ => valI_nn hnn (Int.le_refl _)
      rw [a1] at a2 ⊢
      rw [b1] at b2 ⊢
      have hle : (sumD (fun q => valI q 0 (curF l).1 (curF l).2) 1 (uptD f - 1).toNat).toNat ≤ (sumD (fun q => valI q 0 (curF l).1 (curF l).2) 1 (uptD t - 1).toNat).toNat := by omega
      have m1 := evN_mono hle
      have m2 := evN_bd (a := (sumD (fun q => valI q 0 (curF l).1 (curF l).2) 1 (uptD f - 1).toNat).toNat) (by omega)
      have m3 := evN_bd (a := (sumD (fun q => valI q 0 (curF l).1 (curF l).2) 1 (uptD t - 1).toNat).toNat) (by omega)
      simp only [evQ, if_pos m2, if_pos m3]
      omega
    · rw [if_neg e2] at h2; exact absurd h2 e2
  · rw [if_neg e1] at h1; exact absurd h1 e1
/-- What is earned between two days: not below 0, not too much; it hangs on what the slices hold. -/
theorem betQ_bd (l : List Sc) (f t : Int) : 0 ≤ (betQ l f t).1 ∧ (betQ l f t).1 ≤ 4000000000000000000 := by
  unfold betQ
  split
  · rename_i hk
    split
    · rename_i hs
      have hft : f ≤ t := by unfold spanB at hs; have := of_decide_eq_true hs; omega
      split
      · exact ⟨Int.le_refl _, by simp⟩
      · split
        · exact ⟨Int.le_refl _, by simp⟩
        · rename_i e1 e2
          have hm := upto_mono hk hft (Decidable.not_not.1 e2) (Decidable.not_not.1 e1)
          have h1 := UptoQ_bd l t
          have h2 := UptoQ_bd l f
          rw [UptoQ, if_pos hk] at h1 h2
          exact ⟨by simp only; omega, by simp only; omega⟩
    · exact ⟨Int.le_refl _, by simp⟩
  · exact ⟨Int.le_refl _, by simp⟩
theorem betQ_v {l l' : List Sc} (h : l.map Sc.v = l'.map Sc.v) (f t : Int) : betQ l f t = betQ l' f t := by
  have hl : l.length = l'.length := by have := congrArg List.length h; simpa using this
  rw [betQ, betQ, curK, curK, chainS_v h, hl, curF, curF, fold_v h]
end Go.Proofs.YtmfohnchnbgbaaaGreat
