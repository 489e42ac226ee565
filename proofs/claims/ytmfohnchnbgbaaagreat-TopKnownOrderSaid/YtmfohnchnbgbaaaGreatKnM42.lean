/- Part 42 of the proof. -/
import Derived.Test.YtmfohnchnbgbaaaGreatKnM34
import Derived.Test.YtmfohnchnbgbaaaGreatKnM35
import Derived.Test.YtmfohnchnbgbaaaGreatKnM41
/- refund.Kept in general. -/
namespace Go.Proofs.YtmfohnchnbgbaaaGreat
open Go.RowKit Go.Lib
set_option linter.unusedSimpArgs false

/-- The place of the last cancel or revival, and it. -/
def turnO (cs : List Ch) : List Nat → Option (Nat × Ch)
  | [] => none
  | o :: r => match cs[o]? with
    | some c => if c.k = 3 ∨ c.k = 4 then some (o, c) else turnO cs r
    | none => turnO cs r
theorem turn_o (cs : List Ch) : ∀ (O : List Nat), (turnO cs O = none ∧ turnR cs O = (0, false)) ∨ ∃ o c, turnO cs O = some (o, c) ∧ turnR cs O = ((o : Int), true) ∧ cs[o]? = some c
  | [] => .inl ⟨rfl, rfl⟩
  | o :: r => by
    rw [turnO, turnR]
    cases hc : cs[o]? with
    | none => exact turn_o cs r
    | some c =>
      simp only
      by_cases hk : c.k = 3 ∨ c.k = 4
      · rw [if_pos hk, if_pos hk]; exact .inr ⟨o, c, rfl, rfl, hc⟩
      · rw [if_neg hk, if_neg hk]; exact turn_o cs r
def lessC (h : Hi) (o : Nat) : Hi := { h with cs := h.cs.eraseIdx o }
/-- What is kept behind a short cancel. -/
noncomputable def shortQ (h : Hi) (o : Nat) (c : Ch) (M : List Ver) : Int × Int :=
  if slE (lessC h o) (chL (lessC h o)) M ≠ 0 then (0, slE (lessC h o) (chL (lessC h o)) M) else
  if (betQ ((slL (lessC h o) (chL (lessC h o)) M).map Sp.sc) c.d h.tm.t).2 ≠ 0 then (0, (betQ ((slL (lessC h o) (chL (lessC h o)) M).map Sp.sc) c.d h.tm.t).2) else
  (((evQ (betQ ((slL (lessC h o) (chL (lessC h o)) M).map Sp.sc) c.d h.tm.t).1.toNat 1000 10000 : Nat) : Int), evE (betQ ((slL (lessC h o) (chL (lessC h o)) M).map Sp.sc) c.d h.tm.t).1.toNat 1000 10000)
noncomputable def keptQ (h : Hi) (M : List Ver) : Int × Int :=
  if slE h (chL h) M ≠ 0 then (0, slE h (chL h) M) else
  match turnO h.cs (ordL h.cs).reverse with
  | none => (0, 0)
  | some (o, c) => if c.k = 3 ∧ c.way = 1 then shortQ h o c M else (0, 0)

theorem Sl.first {w : World} {B sz : Nat} {A : Option Addr} {xs : List (List Value)} (h : Sl w B sz A xs) (k : Nat) : Sl w B sz A (xs.take k) := by
  intro i row hr
  rw [List.getElem?_take] at hr
  split at hr
  · exact h i row hr
  · cases hr
theorem betQ_of {out : List Sc} {V : List Sp} (h : out.map Sc.v = V) (f t : Int) : betQ out f t = betQ (V.map Sp.sc) f t := by
  subst h
  refine betQ_v ?_ f t
  rw [List.map_map, List.map_map]
  exact List.map_congr_left fun x _ => rfl
/-- A history with a change less, the others in new memory. -/
def lessA (h : Hi) (o : Nat) (A : Option Addr) (cap : Nat) : Hi := { lessC h o with A := A, cap := cap }

set_option maxRecDepth 100000 in
set_option maxHeartbeats 8000000 in
theorem kept_all (h : Hi) (A : Option Addr) (cap n : Nat) (M : List Vw) (w : World) (hv : HV w h) (hT : TV w A n cap M) (hm : ∀ x ∈ M, LenV x) (h60 : h.cs.length ≤ 2000) :
    Calls Tryz.prog 44 #[.agg #[.int .i64 h.id, .int .i64 h.bk, .int .i64 h.tm.f, .int .i64 h.tm.t, .int .i64 h.tm.k, .int .i64 h.tm.v, .int .i64 h.tm.a, .int .i64 h.tm.z, .slice h.tm.A h.tm.l.length h.tm.cap, .slice h.A h.cs.length h.cap], .agg #[.slice A n cap]] w fun e w' => e = .returned (.tuple #[.int .i64 (keptQ h (allV M)).1, .int .i64 (keptQ h (allV M)).2]) ∧ Below w.heap.size w w' := by
  obtain rfl : M.length = n := hT.len
  obtain ⟨w1, hw1⟩ : ∃ W, (w.alloc (.cells (hiC h) 65)).alloc (.cells #[.slice A M.length cap] 68) = W := ⟨_, rfl⟩
  have hB : Blk w1 w.heap.size 65 (hiC h) := by rw [← hw1]; exact (Blk.new _ _ _).alloc _
  have hS : Blk w1 (w.heap.size + 1) 68 #[.slice A M.length cap] := by rw [← hw1]; exact Blk.new' (by simp)
  have hb1 : Below w.heap.size w w1 := by rw [← hw1]; exact ((Below.refl _ _).alloc (Nat.le_refl _) _).alloc (by simp) _
  obtain ⟨x0, x1, x2, x3, x4, x5, x6, x7, x8, x9⟩ := hi_cells hB
  have z0 := hS.cell 0
  simp at z0
  have H1 := hide hb1
  have HB := hide hB
  have HS := hide hS
  have HW := hide hw1
  have HV1 := hide (hv.below hb1)
  have HT1 := hide (hT.below hb1)
  have HM := hide hm
  have HV0 := hide hv
  have HT0 := hide hT
  have HSL := hide (slc_any h (chL h) A cap M w1 (hv.below hb1) (hT.below hb1) hm (fun _ => ordd_any h w1 (hv.below hb1) h60))
  obtain ⟨E, hE⟩ : ∃ E, slE h (chL h) (allV M) = E := ⟨_, rfl⟩
  rw [hE] at HSL
  have HE := hide hE
  have hsz : w.heap.size < w1.heap.size := hB.lt
  obtain ⟨R, hR⟩ : ∃ R, keptQ h (allV M) = R := ⟨_, rfl⟩
  rw [hR]
  have HR := hide hR
  clear hB hS hb1 hw1 hv hT hm hE hR
  go_enter Tryz.func44, Tryz.ntmps44
  go_upto_region 1 with fail
  rw [show (w.alloc (.cells #[.int .i64 h.id, .int .i64 h.bk, .int .i64 h.tm.f, .int .i64 h.tm.t, .int .i64 h.tm.k, .int .i64 h.tm.v, .int .i64 h.tm.a, .int .i64 h.tm.z, .slice h.tm.A h.tm.l.length h.tm.cap, .slice h.A h.cs.length h.cap] 65)).alloc (.cells #[.slice A M.length cap] 68) = w1 from HW.out]
  go_wp2_with fail
  refine HSL.out.mono ?_
  rintro e w2 ⟨h2, hr⟩
  have H2 := hide (chain H1.out h2)
  have HB2 := hide (HB.out.below h2 hsz)
  have HS2 := hide (HS.out.below h2 HS.out.lt)
  have HT2 := hide (HT1.out.below h2)
  rcases hr with ⟨hne, rfl⟩ | ⟨rfl, A5, cap5, out, rfl, -, -⟩
  · have hR : R = (0, E) := by rw [← HR.out, keptQ, HE.out, if_pos hne]
    subst hR
    have hq : (E != 0) = true := by simpa using hne
    clear hne h2 x0 x1 x2 x3 x4 x5 x6 x7 x8 x9 z0
    go_wp2_with fail
    go_ret2
    exact ⟨rfl, H2.out⟩
  · have HR2 := hide (show (match turnO h.cs (ordL h.cs).reverse with | none => (0, 0) | some (o, c) => if c.k = 3 ∧ c.way = 1 then shortQ h o c (allV M) else (0, 0)) = R by rw [← HR.out, keptQ, HE.out, if_neg (by simp)])
    have HTU := hide (turn_any h (ordL h.cs) w2 (HV1.out.below h2) (fun j o ho => by
      have := List.mem_range.1 ((ordL_perm h.cs).mem_iff.1 (List.mem_of_getElem? ho))
      exact get_of this) (fun W hW => order_any h W ((HV1.out.below h2).cs.below hW) (by omega)))
    have HTC := hide (turn_o h.cs (ordL h.cs).reverse)
    have HV2 := hide (HV1.out.below h2)
    clear h2 x0 x1 x2 x3 x4 x5 x6 x7 x8 x9 z0
    obtain ⟨x0, x1, x2, x3, x4, x5, x6, x7, x8, x9⟩ := hi_cells HB2.out
    go_wp2_with fail
    refine HTU.out.mono ?_
    rintro e w3 ⟨rfl, h3⟩
    have H3 := hide (chain H2.out h3)
    have HB3 := hide (HB2.out.below h3 HB2.out.lt)
    have HS3 := hide (HS2.out.below h3 HS2.out.lt)
    have HV3 := hide (HV2.out.below h3)
    have HT3 := hide (HT2.out.below h3)
    clear x0 x1 x2 x3 x4 x5 x6 x7 x8 x9 h3
    rcases HTC.out with ⟨hc, ht⟩ | ⟨o, c, hc, ht, hco⟩
    · have hR : R = (0, 0) := by rw [← HR2.out, hc]
      subst hR
      rw [ht]
      clear ht hc
      go_wp2_with fail
      go_ret2
      exact ⟨rfl, H3.out⟩
    · rw [ht]
      have hR3 := HR2.out
      rw [hc] at hR3
      simp only at hR3
      obtain ⟨x0, x1, x2, x3, x4, x5, x6, x7, x8, x9⟩ := hi_cells HB3.out
      obtain ⟨bc, co, hAc, hbc, a0, a1, a2, a3, a4, a5, a6, a7, a8⟩ := HV3.out.cs.sl.ch hco
      have HAC := hide hAc
      rw [hAc] at x9
      have hon := lt_of_get hco
      have hle := HV3.out.cs.le
      have HCO := hide hco
      have ho0 : (0 : Int) ≤ (o : Int) := by omega
      have ho1 : (o : Int) < (h.cs.length : Int) := by omega
      clear ht hc hAc hco
      by_cases h3 : c.k = 3
      · by_cases hw1 : c.way = 1
        · rw [if_pos ⟨h3, hw1⟩] at hR3
          have HR3 := hide hR3
          rw [h3] at a2
          rw [hw1] at a8
          clear h3 hR3 hw1
          go_upto_region 8 with fail
          have hS0 : (fun X => X.cell? ⟨w.heap.size, 9, none⟩ = some (.slice (some ⟨bc, co, none⟩) h.cs.length h.cap)) w3.drew := x9
          have hoc0 : (o : Int) ≤ (h.cap : Int) := by omega
          have hwo : IntKind.i64.wrap ((o : Int) + 1) = ((o + 1 : Nat) : Int) := by rw [IntWalk.i64_in _ (by omega)]; omega
          have hcnd : (0 : Int) ≤ ((o + 1 : Nat) : Int) ∧ ((o + 1 : Nat) : Int) ≤ (h.cs.length : Int) := by omega
          have HWO := hide hwo
          have hcz : (0 : Int) ≤ (o : Int) + 1 := by omega
          have hoc1 : (o : Int) + 1 ≤ (h.cs.length : Int) := by omega
          have hoc2 : (h.cs.length : Int) ≤ (h.cap : Int) := by omega
          refine wp_region_T (fun X => X.cell? ⟨w.heap.size, 9, none⟩ = some (.slice (some ⟨bc, co, none⟩) h.cs.length h.cap)) [12] rfl (by kernel_rfl) ?_
          refine wpAnyT_take (i := 0) (v := ?_) rfl (by decide +kernel) (by decide +kernel) (by decide +kernel) (by decide +kernel) (fun _ _ _ h => h) (Or.inl ⟨by rfl, ?_⟩) hS0 ?_
          rotate_left
          · intro W hSW
            have hs0 : W.cell? ⟨w.heap.size, 9, none⟩ = some (.slice (some ⟨bc, co, none⟩) h.cs.length h.cap) := hSW
            clear hSW
            go_simp
            try with_reducible rfl
          simp only [Act.put, List.setIfInBounds_toArray, List.set_cons_zero, List.set_cons_succ]
          refine wpAnyT_take (i := 1) (v := ?_) rfl (by decide +kernel) (by decide +kernel) (by decide +kernel) (by decide +kernel) (fun _ _ _ h => h) (Or.inl ⟨by rfl, ?_⟩) hS0 ?_
          rotate_left
          · intro W hSW
            have hs0 : W.cell? ⟨w.heap.size, 9, none⟩ = some (.slice (some ⟨bc, co, none⟩) h.cs.length h.cap) := hSW
            clear hSW
            go_simp
            try with_reducible rfl
          simp only [Act.put, List.setIfInBounds_toArray, List.set_cons_zero, List.set_cons_succ]
          refine wpAnyT_take (i := 2) (v := ?_) rfl (by decide +kernel) (by decide +kernel) (by decide +kernel) (by decide +kernel) (fun _ _ _ h => h) (Or.inl ⟨by rfl, ?_⟩) hS0 ?_
          rotate_left
          · intro W hSW
            have hs0 : W.cell? ⟨w.heap.size, 9, none⟩ = some (.slice (some ⟨bc, co, none⟩) h.cs.length h.cap) := hSW
            clear hSW
            go_simp
            try with_reducible rfl
          simp only [Act.put, List.setIfInBounds_toArray, List.set_cons_zero, List.set_cons_succ]
          refine wpAnyT_take (i := 3) (v := ?_) rfl (by decide +kernel) (by decide +kernel) (by decide +kernel) (by decide +kernel) (fun _ _ _ h => h) (Or.inl ⟨by rfl, ?_⟩) hS0 ?_
          rotate_left
          · intro W hSW
            have hs0 : W.cell? ⟨w.heap.size, 9, none⟩ = some (.slice (some ⟨bc, co, none⟩) h.cs.length h.cap) := hSW
            clear hSW
            go_simp
            try with_reducible rfl
          simp only [Act.put, List.setIfInBounds_toArray, List.set_cons_zero, List.set_cons_succ]
          refine wpAnyT_take (i := 4) (v := ?_) rfl (by decide +kernel) (by decide +kernel) (by decide +kernel) (by decide +kernel) (fun _ _ _ h => h) (Or.inl ⟨by rfl, ?_⟩) hS0 ?_
          rotate_left
          · intro W hSW
            have hs0 : W.cell? ⟨w.heap.size, 9, none⟩ = some (.slice (some ⟨bc, co, none⟩) h.cs.length h.cap) := hSW
            clear hSW
            go_simp
            try with_reducible rfl
          simp only [Act.put, List.setIfInBounds_toArray, List.set_cons_zero, List.set_cons_succ]
          refine wpAnyT_take (i := 5) (v := ?_) rfl (by decide +kernel) (by decide +kernel) (by decide +kernel) (by decide +kernel) (fun _ _ _ h => h) (Or.inl ⟨by rfl, ?_⟩) hS0 ?_
          rotate_left
          · intro W hSW
            have hs0 : W.cell? ⟨w.heap.size, 9, none⟩ = some (.slice (some ⟨bc, co, none⟩) h.cs.length h.cap) := hSW
            clear hSW
            go_simp
            try with_reducible rfl
          simp only [Act.put, List.setIfInBounds_toArray, List.set_cons_zero, List.set_cons_succ]
          refine wpAnyT_take (i := 6) (v := ?_) rfl (by decide +kernel) (by decide +kernel) (by decide +kernel) (by decide +kernel) (fun _ _ _ h => h) (Or.inl ⟨by rfl, ?_⟩) hS0 ?_
          rotate_left
          · intro W hSW
            have hs0 : W.cell? ⟨w.heap.size, 9, none⟩ = some (.slice (some ⟨bc, co, none⟩) h.cs.length h.cap) := hSW
            clear hSW
            go_simp
            try with_reducible rfl
          simp only [Act.put, List.setIfInBounds_toArray, List.set_cons_zero, List.set_cons_succ]
          refine wpAnyT_take (i := 7) (v := ?_) rfl (by decide +kernel) (by decide +kernel) (by decide +kernel) (by decide +kernel) (fun _ _ _ h => h) (Or.inl ⟨by rfl, ?_⟩) hS0 ?_
          rotate_left
          · intro W hSW
            have hs0 : W.cell? ⟨w.heap.size, 9, none⟩ = some (.slice (some ⟨bc, co, none⟩) h.cs.length h.cap) := hSW
            clear hSW
            go_simp
            try with_reducible rfl
          simp only [Act.put, List.setIfInBounds_toArray, List.set_cons_zero, List.set_cons_succ]
          refine wpAnyT_take (i := 8) (v := ?_) rfl (by decide +kernel) (by decide +kernel) (by decide +kernel) (by decide +kernel) (fun _ _ _ h => h) (Or.inl ⟨by rfl, ?_⟩) hS0 ?_
          rotate_left
          · intro W hSW
            have hs0 : W.cell? ⟨w.heap.size, 9, none⟩ = some (.slice (some ⟨bc, co, none⟩) h.cs.length h.cap) := hSW
            clear hSW
            go_simp
            with_reducible rfl
          simp only [Act.put, List.setIfInBounds_toArray, List.set_cons_zero, List.set_cons_succ]
          obtain ⟨A2, hA2⟩ : ∃ A2, (if h.cap = o + 1 then some (⟨bc, co, none⟩ : Addr) else some ⟨bc, co + (o + 1) * 9, none⟩) = A2 := ⟨_, rfl⟩
          rw [hA2]
          obtain ⟨w4, hw4⟩ : ∃ W, (w3.alloc (.cells #[.slice (some ⟨bc, co, none⟩) o h.cap, .slice A2 (h.cs.length - (o + 1)) (h.cap - (o + 1))] 63)).drew = W := ⟨_, rfl⟩
          have h34 : Below w3.heap.size w3 w4 := by rw [← hw4]; exact ((Below.refl _ _).alloc (Nat.le_refl _) _).drew
          have hX4 : Blk w4 w3.heap.size 63 #[.slice (some ⟨bc, co, none⟩) o h.cap, .slice A2 (h.cs.length - (o + 1)) (h.cap - (o + 1))] := by rw [← hw4]; exact (Blk.new _ _ _).drew
          have hcs4 := (HV3.out.cs.below h34).sl
          rw [HAC.out] at hcs4
          have hsl1 : Sl w4 w4.heap.size 9 (some ⟨bc, co, none⟩) ((h.cs.take o).map encCh) := by rw [List.map_take]; exact hcs4.first o
          have hsl2 : Sl w4 w4.heap.size 9 A2 ((h.cs.drop (o + 1)).map encCh) := by
            have hq := hcs4.cut (k := o + 1) (cap := h.cap) (by simpa using HV3.out.cs.le)
            rw [List.map_drop, ← hA2]
            simpa [Addr.add] using hq
          have HCON := hide (show Calls Tryz.prog 83 #[.slice (some ⟨w3.heap.size, 0, none⟩) 2 2] w4 (ConcP (h.cs.take o ++ h.cs.drop (o + 1)) w4) from
            concat_any w3.heap.size (some ⟨bc, co, none⟩) A2 h.cap (h.cap - (o + 1)) (h.cs.take o) (h.cs.drop (o + 1)) w4 (by
              rw [List.length_take, List.length_drop, Nat.min_eq_left (by omega)]; exact hX4) hsl1 hsl2 (by simp; omega))
          have hcat : h.cs.take o ++ h.cs.drop (o + 1) = (lessC h o).cs := (List.eraseIdx_eq_take_drop_succ h.cs o).symm
          rw [hcat] at HCON
          have HB4 := hide (HB3.out.below h34 HB3.out.lt)
          have HS4 := hide (HS3.out.below h34 HS3.out.lt)
          have HV4 := hide (HV3.out.below h34)
          have HT4 := hide (HT3.out.below h34)
          have H4 := hide (chain H3.out h34)
          have HW4 := hide hw4
          have hS4 : w4.cell? ⟨w.heap.size, 9, none⟩ = some (.slice (some ⟨bc, co, none⟩) h.cs.length h.cap) := kept h34 x9
          clear hw4 h34 hX4 hcs4 hsl1 hsl2 hcat hA2 hwo hcnd hoc0 hoc1 hoc2 hcz x0 x1 x2 x3 x4 x5 x6 x7 x8 x9 a0 a1 a2 a3 a4 a5 a6 a7 a8
          refine wpAnyT_ready (rs := [9]) (by decide +kernel) (by simp) ?_
          refine AllReadyT.cons rfl (fun K hK => ?_) AllReadyT.nil
          go_simp
          rw [HW4.out]
          refine hK.out _ _ (fun _ => hS4) ?_
          clear hK K hS0
          try simp only [Act.put, List.setIfInBounds_toArray, List.set_cons_zero, List.set_cons_succ]
          refine wpAnyT_ready (rs := [10]) (by decide +kernel) (by simp) ?_
          refine AllReadyT.cons rfl (fun K hK => ?_) AllReadyT.nil
          go_simp
          refine HCON.out.mono ?_
          rintro e w5 ⟨A5, c5, rfl, ho5, h5⟩
          have HB5 := hide (HB4.out.below h5 HB4.out.lt)
          have HS5 := hide (HS4.out.below h5 HS4.out.lt)
          have HV5 := hide (HV4.out.below h5)
          have HT5 := hide (HT4.out.below h5)
          have H5 := hide (chain H4.out h5)
          have HO5 := hide ho5
          have hS5 := kept h5 hS4
          have hz4 : w.heap.size + 1 < w4.heap.size := HS4.out.lt
          clear ho5 h5 hS4
          refine hK.out _ _ (fun _ => hS5) ?_
          clear hK K
          try simp only [Act.put, List.setIfInBounds_toArray, List.set_cons_zero, List.set_cons_succ]
          refine wpAnyT_take (i := 11) (v := ?_) rfl (by decide +kernel) (by decide +kernel) (by decide +kernel) (by decide +kernel) (fun _ _ _ h => h) (Or.inl ⟨by rfl, ?_⟩) hS5 ?_
          rotate_left
          · intro W hSW
            have hs0 : W.cell? ⟨w.heap.size, 9, none⟩ = some (.slice (some ⟨bc, co, none⟩) h.cs.length h.cap) := hSW
            clear hSW
            go_simp
            try with_reducible rfl
          simp only [Act.put, List.setIfInBounds_toArray, List.set_cons_zero, List.set_cons_succ]
          refine wpAnyT_ready (rs := [12]) (by decide +kernel) (by simp) ?_
          refine AllReadyT.cons rfl (fun K hK => ?_) AllReadyT.nil
          have f9 := HB5.out.frozen 9
          go_simp
          refine hK.out _ _ (fun h => by cases h) ?_
          clear hK K
          try simp only [Act.put, List.setIfInBounds_toArray, List.set_cons_zero, List.set_cons_succ]
          refine wpAnyT_done (by decide +kernel) ?_ _
          clear f9 hS5
          obtain ⟨N, hN⟩ : ∃ N, (lessC h o).cs.length = N := ⟨_, rfl⟩
          rw [hN] at HO5 ⊢
          obtain ⟨w6, hw6⟩ : ∃ W, w5.setCell ⟨w.heap.size, 9, none⟩ (.slice A5 N c5) = W := ⟨_, rfl⟩
          have hfar : ∀ b, blk A5 = some b → b ≠ w.heap.size := fun b hb => by have := (HO5.out.lt b hb).1; omega
          have HB6 := hide (show Blk w6 w.heap.size 65 (hiC (lessA h o A5 c5)) by
            rw [← hw6]
            have := HB5.out.set_ 9 (.slice A5 N c5)
            simpa [hiC, lessA, lessC, ← hN] using this)
          have HS6 := hide (show Blk w6 (w.heap.size + 1) 68 #[.slice A M.length cap] by rw [← hw6]; exact HS5.out.far (p := ⟨w.heap.size, 9, none⟩) (by simp) _)
          have H6 := hide (show Below w.heap.size w w6 by rw [← hw6]; exact H5.out.setCell (by simp) _)
          have HV6 := hide (show HV w6 (lessA h o A5 c5) by
            have h0 := HV0.out.below H6.out
            refine ⟨h0.tm, h0.ot, ?_, fun x hx => h0.cv x ((List.eraseIdx_sublist _ _).mem hx), fun x hx => h0.oc x ((List.eraseIdx_sublist _ _).mem hx)⟩
            have hq := HO5.out.far (p := ⟨w.heap.size, 9, none⟩) hfar (.slice A5 N c5)
            rw [hw6] at hq
            show SV w6 9 A5 (lessC h o).cs.length c5 ((lessC h o).cs.map encCh)
            rw [hN]
            exact hq.sv)
          have HT6 := hide (HT0.out.below H6.out)
          have hn6 : (lessA h o A5 c5).cs.length ≤ 2000 := by
            have := (List.eraseIdx_sublist h.cs o).length_le
            show (h.cs.eraseIdx o).length ≤ 2000
            omega
          have hsl6 := slc_any (lessA h o A5 c5) (chL (lessA h o A5 c5)) A cap M w6 HV6.out HT6.out HM.out (fun _ => ordd_any (lessA h o A5 c5) w6 HV6.out hn6)
          have eE : slE (lessA h o A5 c5) (chL (lessA h o A5 c5)) (allV M) = slE (lessC h o) (chL (lessC h o)) (allV M) := rfl
          have eL : slL (lessA h o A5 c5) (chL (lessA h o A5 c5)) (allV M) = slL (lessC h o) (chL (lessC h o)) (allV M) := rfl
          rw [eE, eL] at hsl6
          obtain ⟨E, hEE⟩ : ∃ E, slE (lessC h o) (chL (lessC h o)) (allV M) = E := ⟨_, rfl⟩
          obtain ⟨V, hVV⟩ : ∃ V, slL (lessC h o) (chL (lessC h o)) (allV M) = V := ⟨_, rfl⟩
          have hR4 := HR3.out
          unfold shortQ at hR4
          rw [hEE, hVV] at hR4
          rw [hEE, hVV] at hsl6
          have hcsl : (lessA h o A5 c5).cs.length = N := hN
          have HSL6 := hide (show Calls Tryz.prog 18 #[.agg #[.int .i64 h.id, .int .i64 h.bk, .int .i64 h.tm.f, .int .i64 h.tm.t, .int .i64 h.tm.k, .int .i64 h.tm.v, .int .i64 h.tm.a, .int .i64 h.tm.z, .slice h.tm.A h.tm.l.length h.tm.cap, .slice A5 N c5], .agg #[.slice A M.length cap]] w6 (SlcP E V w6) by
            rw [hcsl] at hsl6; exact hsl6)
          have HR4 := hide hR4
          have HHI := hide (show w6.cell? ⟨w.heap.size, 0, none⟩ = some (.int .i64 h.id) ∧ w6.cell? ⟨w.heap.size, 1, none⟩ = some (.int .i64 h.bk) ∧ w6.cell? ⟨w.heap.size, 2, none⟩ = some (.int .i64 h.tm.f) ∧ w6.cell? ⟨w.heap.size, 3, none⟩ = some (.int .i64 h.tm.t) ∧ w6.cell? ⟨w.heap.size, 4, none⟩ = some (.int .i64 h.tm.k) ∧ w6.cell? ⟨w.heap.size, 5, none⟩ = some (.int .i64 h.tm.v) ∧ w6.cell? ⟨w.heap.size, 6, none⟩ = some (.int .i64 h.tm.a) ∧ w6.cell? ⟨w.heap.size, 7, none⟩ = some (.int .i64 h.tm.z) ∧ w6.cell? ⟨w.heap.size, 8, none⟩ = some (.slice h.tm.A h.tm.l.length h.tm.cap) ∧ w6.cell? ⟨w.heap.size, 9, none⟩ = some (.slice A5 N c5) by
            have := hi_cells HB6.out
            rw [hcsl] at this
            exact this)
          have z0 : w6.cell? ⟨w.heap.size + 1, 0, none⟩ = some (.slice A M.length cap) := HS6.out.cell 0
          obtain ⟨x0, x1, x2, x3, x4, x5, x6, x7, x8, x9⟩ := HHI.out
          have HW6 := hide hw6
          clear hw6 hfar hsl6 eE eL hEE hVV hR4 hcsl hn6 hN
          go_upto_region 9 with fail
          rw [HW6.out]
          go_wp2_with fail
          refine HSL6.out.mono ?_
          rintro e w7 ⟨h7, hr⟩
          have H7 := hide (chain H6.out h7)
          have x3' := kept h7 x3
          clear h7 x0 x1 x2 x3 x4 x5 x6 x7 x8 x9 z0
          rcases hr with ⟨hne, rfl⟩ | ⟨rfl, A7, cap7, out7, rfl, hov, hmd⟩
          · have hR : R = (0, E) := by rw [← HR4.out, if_pos hne]
            subst hR
            have hq : (E != 0) = true := by simpa using hne
            clear hne x3'
            go_wp2_with fail
            go_ret2
            exact ⟨rfl, H7.out⟩
          · have hR5 := HR4.out
            rw [if_neg (by simp), ← betQ_of hov] at hR5
            have hbt := between_any A7 cap7 out7.length out7 c.d h.tm.t w7 hmd.own.sv
            have hbd := betQ_bd out7 c.d h.tm.t
            obtain ⟨Q, hQ⟩ : ∃ Q, betQ out7 c.d h.tm.t = Q := ⟨_, rfl⟩
            rw [hQ] at hR5 hbt hbd
            obtain ⟨q1, q2⟩ := Q
            simp only at hR5 hbt hbd
            have HBT := hide hbt
            have HR5 := hide hR5
            clear hbt hR5 hQ hov hmd
            go_wp2_with fail
            refine HBT.out.mono ?_
            rintro e w8 ⟨rfl, h8⟩
            have H8 := hide (chain H7.out h8)
            clear h8 x3'
            by_cases hq2 : q2 = 0
            · subst hq2
              have hR6 := HR5.out
              rw [if_neg (by simp)] at hR6
              obtain ⟨q, rfl⟩ : ∃ q : Nat, q1 = q := ⟨q1.toNat, by omega⟩
              rw [Int.toNat_natCast] at hR6
              have HBP := hide (bp_any q 1000 (by omega) (by omega) w8)
              subst hR6
              go_wp2_with fail
              refine HBP.out.mono ?_
              rintro e w9 ⟨rfl, h9⟩
              have H9 := hide (chain H8.out h9)
              clear h9
              go_wp2_with fail
              go_ret2
              exact ⟨rfl, H9.out⟩
            · have hR : R = (0, q2) := by rw [← HR5.out, if_pos hq2]
              subst hR
              have hq : (q2 != 0) = true := by simpa using hq2
              clear hq2
              go_wp2_with fail
              go_ret2
              exact ⟨rfl, H8.out⟩
        · rw [if_neg (fun e => hw1 e.2)] at hR3
          subst hR3
          have hw1 : (c.way != 1) = true := by simpa using hw1
          rw [h3] at a2
          clear h3
          go_wp2_with fail
          go_ret2
          exact ⟨rfl, H3.out⟩
      · rw [if_neg (fun e => h3 e.1)] at hR3
        subst hR3
        have hk3 : (c.k != 3) = true := by simpa using h3
        clear h3
        go_wp2_with fail
        go_ret2
        exact ⟨rfl, H3.out⟩
end Go.Proofs.YtmfohnchnbgbaaaGreat
