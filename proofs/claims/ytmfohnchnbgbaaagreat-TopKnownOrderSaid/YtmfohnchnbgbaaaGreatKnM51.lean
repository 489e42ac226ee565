/- Part 51 of the proof. -/
import Derived.Test.YtmfohnchnbgbaaaGreatKnM43
import Derived.Test.YtmfohnchnbgbaaaGreatKnM44
import Derived.Test.YtmfohnchnbgbaaaGreatKnM50
/- TopKnownOrder: what is due in general; the walk. -/
namespace Go.Proofs.YtmfohnchnbgbaaaGreat
open Go.RowKit Go.Lib
set_option linter.unusedSimpArgs false

theorem ev_bd (a : Nat) : (0 : Int) ≤ ((evQ a 1000 10000 : Nat) : Int) ∧ ((evQ a 1000 10000 : Nat) : Int) ≤ 4000000000000000000 := by
  have := evQ_le a 1000 10000
  omega
theorem keptQ_bd (h : Hi) (M : List Ver) : 0 ≤ (keptQ h M).1 ∧ (keptQ h M).1 ≤ 4000000000000000000 := by
  unfold keptQ shortQ
  split
  · exact ⟨Int.le_refl _, by simp⟩
  · split
    · exact ⟨Int.le_refl _, by simp⟩
    · split
      · split
        · exact ⟨Int.le_refl _, by simp⟩
        · split
          · exact ⟨Int.le_refl _, by simp⟩
          · exact ev_bd _
      · exact ⟨Int.le_refl _, by simp⟩
theorem keptQ_e (h : Hi) (M : List Ver) (hk : (keptQ h M).2 = 0) : slE h (chL h) M = 0 := by
  unfold keptQ at hk
  by_cases he : slE h (chL h) M = 0
  · exact he
  · rw [if_pos he] at hk; exact absurd hk he
noncomputable def dueT (h : Hi) (M : List Ver) : Int × Int := dueQ (keptQ h M) (slL h (chL h) M)
theorem due_all (h : Hi) (A : Option Addr) (cap n : Nat) (M : List Vw) (w : World) (hv : HV w h) (hT : TV w A n cap M) (hm : ∀ x ∈ M, LenV x) (h60 : h.cs.length ≤ 2000) :
    Calls Tryz.prog 19 #[.agg #[.int .i64 h.id, .int .i64 h.bk, .int .i64 h.tm.f, .int .i64 h.tm.t, .int .i64 h.tm.k, .int .i64 h.tm.v, .int .i64 h.tm.a, .int .i64 h.tm.z, .slice h.tm.A h.tm.l.length h.tm.cap, .slice h.A h.cs.length h.cap], .agg #[.slice A n cap]] w fun e w' => e = .returned (.tuple #[.int .i64 (dueT h (allV M)).1, .int .i64 (dueT h (allV M)).2]) ∧ Below w.heap.size w w' :=
  due_any h (chL h) A cap n M (keptQ h (allV M)) w hv hT hm (fun _ => ordd_any h w hv h60) (fun W hW => kept_all h A cap n M W (hv.below hW) (hT.below hW) hm h60) (keptQ_bd _ _) (keptQ_e _ _)

def ch00 : Ch := ⟨0, 0, 0, 0, 0, 0, 0, none, [], 0, 0⟩
theorem pfew00 (h : Hi) (A : Option Addr) (cap : Nat) (M : List Vw) (w : World) (hv : HV w h) (hT : TV w A M.length cap M) :
    Calls Tryz.prog 17 #[.agg #[.int .i64 h.id, .int .i64 h.bk, .int .i64 h.tm.f, .int .i64 h.tm.t, .int .i64 h.tm.k, .int .i64 h.tm.v, .int .i64 h.tm.a, .int .i64 h.tm.z, .slice h.tm.A h.tm.l.length h.tm.cap, .slice h.A h.cs.length h.cap], .agg #[.slice A M.length cap], .agg #[.int .i64 0, .int .i64 0, .int .i64 0, .int .i64 0, .int .i64 0, .int .i64 0, .int .i64 0, .slice none 0 0, .int .i64 0]] w (FewP h M w) := pfew_any h A cap M ch00 w hv hT
/-- The history that is being made: so many changes are turned. -/
def trnH (h : Hi) (j : Nat) (A : Option Addr) (cap : Nat) : Hi := { h with A := A, cs := (trnL h.cs).take j, cap := cap }
theorem trn_mem {cs : List Ch} {c : Ch} (h : c ∈ trnL cs) : ∃ c0 ∈ cs, unb c0 = unb c := by
  have h1 : unb c ∈ (trnL cs).map unb := List.mem_map_of_mem h
  have h2 := ((trn_perm cs).1.mem_iff).1 h1
  obtain ⟨c0, h3, h4⟩ := List.mem_map.1 h2
  exact ⟨c0, h3, h4⟩
theorem trn_hv {w : World} {h : Hi} {A : Option Addr} {cap : Nat} (hv : HV w h) (hs : SV w 9 A h.cs.length cap ((trnL h.cs).map encCh)) : HV w (trnH h h.cs.length A cap) := by
  have he : (trnL h.cs).take h.cs.length = trnL h.cs := List.take_of_length_le (by rw [trn_len]; exact Nat.le_refl _)
  refine ⟨hv.tm, hv.ot, ?_, fun c hc => ?_, fun c hc => ?_⟩
  · show SV w 9 A ((trnL h.cs).take h.cs.length).length cap (((trnL h.cs).take h.cs.length).map encCh)
    rw [he, trn_len]; exact hs
  · obtain ⟨c0, h0, hu⟩ := trn_mem (List.mem_of_mem_take hc)
    have e1 : c0.A = c.A := (congrArg Ch.A hu : (unb c0).A = (unb c).A)
    have e2 : c0.l = c.l := (congrArg Ch.l hu : (unb c0).l = (unb c).l)
    have e3 : c0.cap = c.cap := (congrArg Ch.cap hu : (unb c0).cap = (unb c).cap)
    rw [← e1, ← e2, ← e3]
    exact hv.cv c0 h0
  · obtain ⟨c0, h0, hu⟩ := trn_mem (List.mem_of_mem_take hc)
    have e1 : c0.k = c.k := (congrArg Ch.k hu : (unb c0).k = (unb c).k)
    have e2 : c0.l = c.l := (congrArg Ch.l hu : (unb c0).l = (unb c).l)
    have := hv.oc c0 h0
    unfold okCh at this ⊢
    rw [← e1, ← e2]
    exact this

theorem keep10 {w W : World} {g : Nat} {v0 v1 v2 v3 v4 v5 v6 v7 v8 v9 : Value} (hb : Below w.heap.size w W) (h : w.cell? ⟨g, 0, none⟩ = some v0 ∧ w.cell? ⟨g, 1, none⟩ = some v1 ∧ w.cell? ⟨g, 2, none⟩ = some v2 ∧ w.cell? ⟨g, 3, none⟩ = some v3 ∧ w.cell? ⟨g, 4, none⟩ = some v4 ∧ w.cell? ⟨g, 5, none⟩ = some v5 ∧ w.cell? ⟨g, 6, none⟩ = some v6 ∧ w.cell? ⟨g, 7, none⟩ = some v7 ∧ w.cell? ⟨g, 8, none⟩ = some v8 ∧ w.cell? ⟨g, 9, none⟩ = some v9) :
    W.cell? ⟨g, 0, none⟩ = some v0 ∧ W.cell? ⟨g, 1, none⟩ = some v1 ∧ W.cell? ⟨g, 2, none⟩ = some v2 ∧ W.cell? ⟨g, 3, none⟩ = some v3 ∧ W.cell? ⟨g, 4, none⟩ = some v4 ∧ W.cell? ⟨g, 5, none⟩ = some v5 ∧ W.cell? ⟨g, 6, none⟩ = some v6 ∧ W.cell? ⟨g, 7, none⟩ = some v7 ∧ W.cell? ⟨g, 8, none⟩ = some v8 ∧ W.cell? ⟨g, 9, none⟩ = some v9 := by
  obtain ⟨a0, a1, a2, a3, a4, a5, a6, a7, a8, a9⟩ := h
  exact ⟨kept hb a0, kept hb a1, kept hb a2, kept hb a3, kept hb a4, kept hb a5, kept hb a6, kept hb a7, kept hb a8, kept hb a9⟩

set_option maxRecDepth 100000 in
set_option maxHeartbeats 16000000 in
theorem topKnownOrder_w (w : World) (h : Hi) (V : Option Addr) (cap : Nat) (M : List Vw) (u : Int) (hv : HV w h) (hT : TV w V M.length cap M) :
    Calls Tryz.prog 5 #[.agg #[.int .i64 h.id, .int .i64 h.bk, .int .i64 h.tm.f, .int .i64 h.tm.t, .int .i64 h.tm.k, .int .i64 h.tm.v, .int .i64 h.tm.a, .int .i64 h.tm.z, .slice h.tm.A h.tm.l.length h.tm.cap, .slice h.A h.cs.length h.cap], .agg #[.slice V M.length cap], .int .i64 u] w fun e w' => e = .returned (.bool true) ∧ Below w.heap.size w w' := by
  obtain ⟨w1, hw1⟩ : ∃ W, (w.alloc (.cells (hiC h) 65)).alloc (.cells #[.slice V M.length cap] 68) = W := ⟨_, rfl⟩
  have hB : Blk w1 w.heap.size 65 (hiC h) := by rw [← hw1]; exact (Blk.new _ _ _).alloc _
  have hS : Blk w1 (w.heap.size + 1) 68 #[.slice V M.length cap] := by rw [← hw1]; exact Blk.new' (by simp)
  have hb1 : Below w.heap.size w w1 := by rw [← hw1]; exact ((Below.refl _ _).alloc (Nat.le_refl _) _).alloc (by simp) _
  have H1 := hide hb1
  have HW := hide hw1
  have HB := hide hB
  have HS := hide hS
  have HV := hide (hv.below hb1)
  have HT := hide (hT.below hb1)
  clear hB hS hb1 hw1 hv hT
  go_enter Tryz.func5, Tryz.ntmps5
  go_upto_region 1 with fail
  change Code.wp _ _ _ _ ((w.alloc (.cells (hiC h) 65)).alloc (.cells #[.slice V M.length cap] 68))
  rw [HW.out]
  clear HW
  go_wp2_with fail
  refine (palive_any w1).mono ?_
  rintro e w2 ⟨rfl, h2⟩
  have HB2 := hide (HB.out.below h2 HB.out.lt)
  have HS2 := hide (HS.out.below h2 HS.out.lt)
  have HV2 := hide (HV.out.below h2)
  have HT2 := hide (HT.out.below h2)
  have H2 := hide (chain H1.out h2)
  clear h2 HB HS HV HT H1
  obtain ⟨z0, z1, z2, z3, z4, z5, z6, z7, z8, z9⟩ := hi_cells HB2.out
  have s0 : w2.cell? ⟨w.heap.size + 1, 0, none⟩ = some (.slice V M.length cap) := HS2.out.cell 0
  have HF := hide (pfew00 h V cap M w2 HV2.out HT2.out)
  go_wp2_with fail
  refine HF.out.mono ?_
  rintro e w3 ⟨b, rfl, hq, h3⟩
  have HB3 := hide (HB2.out.below h3 HB2.out.lt)
  have HS3 := hide (HS2.out.below h3 HS2.out.lt)
  have HV3 := hide (HV2.out.below h3)
  have HT3 := hide (HT2.out.below h3)
  have H3 := hide (chain H2.out h3)
  have HQ := hide hq
  clear h3 hq z0 z1 z2 z3 z4 z5 z6 z7 z8 z9 s0 HF HB2 HS2 HV2 HT2 H2
  cases b
  · go_wp2_with fail
    go_ret
    exact ⟨rfl, H3.out⟩
  obtain ⟨hn60, hfew⟩ := HQ.out rfl
  have hlen : ∀ x ∈ M, LenV x := fun x hx => by obtain ⟨a, b, c⟩ := hfew x hx; exact ⟨by omega, by omega, by omega⟩
  obtain ⟨z0, z1, z2, z3, z4, z5, z6, z7, z8, z9⟩ := hi_cells HB3.out
  have s0 : w3.cell? ⟨w.heap.size + 1, 0, none⟩ = some (.slice V M.length cap) := HS3.out.cell 0
  have HLEN := hide hlen
  obtain ⟨n, hn⟩ : ∃ n, h.cs.length = n := ⟨_, rfl⟩
  rw [hn] at hn60 z9
  have HN := hide hn
  clear hfew hlen HQ hn
  go_upto_region 7 with fail
  obtain ⟨w4, hw4⟩ : ∃ W, w3.alloc (.cells (hiC (trnH h 0 none 0)) 65) = W := ⟨_, rfl⟩
  have hb4 : Below w3.heap.size w3 w4 := by rw [← hw4]; exact (Below.refl _ _).alloc (Nat.le_refl _) _
  have HX4 := hide (show Blk w4 w3.heap.size 65 (hiC (trnH h 0 none 0)) by rw [← hw4]; exact Blk.new _ _ _)
  have HB4 := hide hb4
  have HW4 := hide hw4
  have z9 := kept hb4 z9
  clear hb4 hw4 z0 z1 z2 z3 z4 z5 z6 z7 z8 s0
  rw [show w3.alloc (.cells #[.int .i64 h.id, .int .i64 h.bk, .int .i64 h.tm.f, .int .i64 h.tm.t, .int .i64 h.tm.k, .int .i64 h.tm.v, .int .i64 h.tm.a, .int .i64 h.tm.z, .slice h.tm.A h.tm.l.length h.tm.cap, .slice none 0 0] 65) = w4 from HW4.out]
  obtain ⟨G, hG⟩ : ∃ G, w3.heap.size = G := ⟨_, rfl⟩
  have hltG : w.heap.size + 1 < G := by rw [← hG]; exact HS3.out.lt
  rw [hG] at HX4 ⊢
  have HG := hide hG
  clear hG HW4
  go_wp2_with fail
  clear z9
  go_loopw [10] (fun q10 wr => ∃ (j : Nat) (q : Int) (A' : Option Addr) (cap' : Nat), q + j + 1 = n ∧ j ≤ n ∧ q10 = .int .i64 q ∧ Hid (∀ (i k : Nat) (c e : Ch), n ≤ i + j → k < i → h.cs[i]? = some c → h.cs[k]? = some e → e.d ≠ c.d) ∧ Blk wr G 65 (hiC (trnH h j A' cap')) ∧ OwnS wr (G + 1) 71 9 A' j cap' (((trnL h.cs).take j).map encCh) ∧ Below w3.heap.size w3 wr) (fun q _ => (RowKit.intOf q + 1).toNat)
  case atStart => exact ⟨0, (n : Int) - 1, none, 0, by omega, Nat.zero_le _, rfl, hide (fun i k c e h1 _ hc _ => by have := lt_of_get hc; rw [HN.out] at this; omega), HX4.out, OwnS.nil_ _ _ _ _, HB4.out⟩
  case round =>
    rename World => wo
    obtain ⟨j, q, A', cap', hqj, hjn, rfl, hdays, hX, ho, hb⟩ := hrel
    have HX := hide hX
    have HO := hide ho
    have HBW := hide hb
    have HBr := hide (HB3.out.below hb HB3.out.lt)
    have HSr := hide (HS3.out.below hb HS3.out.lt)
    have HVr := hide (HV3.out.below hb)
    have hGr := hX.lt
    have z9 := (hi_cells HBr.out).2.2.2.2.2.2.2.2.2
    rw [HN.out] at z9
    clear hX ho hb
    by_cases hlt : j < n
    · obtain ⟨i, rfl⟩ : ∃ i : Nat, q = (i : Int) := ⟨q.toNat, by omega⟩
      have hij : i + j + 1 = n := by omega
      have HIJ := hide hij
      have hin : i < n := by omega
      obtain ⟨c, hc⟩ := get_of (l := h.cs) (k := i) (by rw [HN.out]; exact hin)
      obtain ⟨e, he⟩ := get_of (l := h.cs) (k := j) (by rw [HN.out]; exact hlt)
      have HCI := hide hc
      have HEJ := hide he
      obtain ⟨b, off, hA, hbl, c0, c1, c2, c3, c4, c5, c6, c7, c8⟩ := HVr.out.cs.sl.ch hc
      obtain ⟨b', off', hA', -, e0, -⟩ := HVr.out.cs.sl.ch he
      rw [hA] at hA'
      obtain ⟨rfl, rfl⟩ : b = b' ∧ off = off' := by cases hA'; exact ⟨rfl, rfl⟩
      rw [hA] at z9
      have HAA := hide hA
      have hi0 : (0 : Int) ≤ (i : Int) := by omega
      have hi1 : (i : Int) < (n : Int) := by omega
      have hnc := HVr.out.cs.le
      rw [HN.out] at hnc
      obtain ⟨wc, hwc⟩ : ∃ W, wo.alloc (.cells (chC c) 71) = W := ⟨_, rfl⟩
      have hbc : Below wo.heap.size wo wc := by rw [← hwc]; exact (Below.refl _ _).alloc (Nat.le_refl _) _
      have HC := hide (show Blk wc wo.heap.size 71 (chC c) by rw [← hwc]; exact Blk.new _ _ _)
      have HBC := hide hbc
      have HWC := hide hwc
      have z9c := kept hbc z9
      have e0c := kept hbc e0
      have d1c : wc.cell? ⟨wo.heap.size, 1, none⟩ = some (.int .i64 c.d) := HC.out.cell 1
      have hXlt := HC.out.lt
      clear hc he hA hA' hbc hwc hqj hij e0
      go_upto_region 11 with fail
      rw [show wo.alloc (.cells #[.int .i64 c.b, .int .i64 c.d, .int .i64 c.k, .int .i64 c.rk, .int .i64 c.rv, .int .i64 c.ra, .int .i64 c.rz, .slice c.A c.l.length c.cap, .int .i64 c.way] 71) = wc from HWC.out]
      clear HWC c0 c1 c2 c3 c4 c5 c6 c7 c8 z9
      go_wp2_with fail
      go_loopw [12] (fun q12 ws => ∃ k : Nat, k ≤ i ∧ q12 = .int .i64 k ∧ Hid (∀ (k' : Nat) (e' : Ch), k' < k → h.cs[k']? = some e' → e'.d ≠ c.d) ∧ Below wc.heap.size wc ws) (fun q _ => i - (RowKit.intOf q).toNat)
      case atStart => exact ⟨0, Nat.zero_le _, rfl, hide (fun k' e' h1 => by omega), Below.refl _ _⟩
      case round =>
        obtain ⟨k, hk, rfl, hdk, hbs⟩ := hrel
        have HBS := hide hbs
        have z9s := kept hbs z9c
        have d1s := kept hbs d1c
        have e0s := kept hbs e0c
        by_cases hki : k < i
        · obtain ⟨f, hf⟩ := get_of (l := h.cs) (k := k) (by rw [HN.out]; omega)
          obtain ⟨b', off', hA', -, -, f1, -⟩ := (HVr.out.below (chain HBC.out hbs)).cs.sl.ch hf
          rw [HAA.out] at hA'
          obtain ⟨rfl, rfl⟩ : b = b' ∧ off = off' := by cases hA'; exact ⟨rfl, rfl⟩
          have HF := hide hf
          have hk0 : (0 : Int) ≤ (k : Int) := by omega
          have hk1 : (k : Int) < (n : Int) := by omega
          have hk2 : (k : Int) < (i : Int) := by omega
          clear hf hA' hbs e0s
          go_wp2_with fail
          refine wp_region_class (fun W => Below wr.heap.size wr W) (by kernel_rfl) (by kernel_rfl) (Below.refl _ _).drew ?_
          repeat (first
            | go_big_quiet_skip
            | (go_big_quiet_want
               first
                 | (go_big_quiet_op
                    go_big_quiet_on)
                 | (refine quiet_yield (v := ?_) ?_ ?_
                    rotate_left
                    · intro W hW
                      have z9s := kept hW z9s
                      have d1s := kept hW d1s
                      have f1 := kept hW f1
                      clear hW
                      go_simp
                      try with_reducible rfl
                    simp only [Act.put, List.setIfInBounds_toArray, List.set_cons_zero, List.set_cons_succ]
                    go_big_quiet_on)))
          refine wpQuiet_nil ?_
          intro W hW
          have HW := hide hW
          clear hW z9s d1s f1
          by_cases hde : f.d = c.d
          · have hz : (f.d == c.d) = true := by simpa using hde
            clear hde
            go_wp2_with fail
            go_ret
            exact ⟨rfl, chain H3.out (chain HBW.out (chain HBC.out (chain HBS.out HW.out)))⟩
          · have hz : (f.d == c.d) = false := by simpa using hde
            have HDE := hide hde
            clear hde
            go_wp2_with fail
            go_roundw
            case rel => exact ⟨k + 1, by omega, by go_num, hide (fun k' e' h1 he' => by
              rcases Nat.lt_or_ge k' k with h2 | h2
              · exact hdk.out k' e' h2 he'
              · obtain rfl : k' = k := by omega
                rw [HF.out] at he'; cases he'; exact HDE.out), chain HBS.out HW.out⟩
            case measure => simp [RowKit.intOf]; omega
        · obtain rfl : k = i := by omega
          have hkk : ¬ (k : Int) < (k : Int) := by omega
          have HCr := hide (HC.out.below hbs HC.out.lt)
          have HXr := hide (HX.out.below (chain HBC.out hbs) HX.out.lt)
          have HOr := hide (HO.out.below (chain HBC.out hbs))
          have HBWr := hide (chain HBW.out (chain HBC.out hbs))
          have hnj : (n : Int) - 1 - (k : Int) = (j : Int) := by have := HIJ.out; omega
          have hj0 : (0 : Int) ≤ (j : Int) := by omega
          have hj1 : (j : Int) < (n : Int) := by omega
          have fX := HCr.out.frozen 0
          have x0 : wr.cell? ⟨wo.heap.size, 0, none⟩ = some (.int .i64 c.b) := HCr.out.cell 0
          have hXr : wo.heap.size < wr.heap.size := HCr.out.lt
          clear hbs d1s hki
          go_upto_region 17 with fail
          obtain ⟨w6, hw6⟩ : ∃ W, wr.setCell ⟨wo.heap.size, 0, none⟩ (.int .i64 e.b) = W := ⟨_, rfl⟩
          rw [hw6]
          have HC6 := hide (show Blk w6 wo.heap.size 71 (chC { c with b := e.b }) by rw [← hw6]; exact HCr.out.set_ 0 _)
          have HX6 := hide (show Blk w6 G 65 (hiC (trnH h j A' cap')) by rw [← hw6]; exact HXr.out.far (p := ⟨wo.heap.size, 0, none⟩) (by simp; omega) _)
          have HO6 := hide (show OwnS w6 (G + 1) 71 9 A' j cap' (((trnL h.cs).take j).map encCh) by rw [← hw6]; exact HOr.out.far (p := ⟨wo.heap.size, 0, none⟩) (fun b hb => by have := (HO.out.lt b hb).2; simp; omega) _)
          have HB6 := hide (show Below w3.heap.size w3 w6 by rw [← hw6]; exact HBWr.out.setCell (by have := HBW.out.size; simpa using this) _)
          obtain ⟨c0, c1, c2, c3, c4, c5, c6, c7, c8⟩ := chA_cells (c := { c with b := e.b }) (A := c.A) (k := c.cap) HC6.out
          have x9 : w6.cell? ⟨G, 9, none⟩ = some (.slice A' j cap') := by
            have := HX6.out.cell 9
            simp [hiC, trnH, List.length_take, trn_len, HN.out, Nat.min_eq_left hjn] at this
            exact this
          clear hw6 z9s e0s fX x0 hnj
          simp only at c0 c1 c2 c3 c4 c5 c6 c7 c8
          have hG6 : G < w6.heap.size := HX6.out.lt
          have HN61 := hide hn60
          go_wp2_with (at_builtin
                       refine wpList_app rfl (.tmp 76) (.tmp 78) 63 rfl elCh (B := G + 1) (A2 := some ⟨_, 0, none⟩) (news := [{ c with b := e.b }].map encCh) rfl (HO6.out.alloc _) rfl rfl ?_ (okChs [{ c with b := e.b }]) ?_ ?_ ?_ ?_
                       · exact sl_of_blk (cs := chC { c with b := e.b }) (Blk.new _ _ _)
                       · simp only [maxLen]; omega
                       · omega
                       · simp; omega
                       intro A3 cap3 wa ho1 hg1 ha1
                       have HBa := hide ((HB6.out.alloc (by have := HB6.out.size; omega) (.cells (chC { c with b := e.b }) 71)).grown hg1 (by have := HB6.out.size; simp; omega) (fun kk hk => by have := (HO6.out.lt kk hk).1; have := HG.out; omega))
                       have HXa := hide (Blk.grown (HX6.out.alloc (.cells (chC { c with b := e.b }) 71)) hg1 (fun hk => by have := (HO6.out.lt _ hk.symm).1; omega))
                       have HOa := hide ho1
                       have xa9 : wa.cell? ⟨G, 9, none⟩ = some (.slice A' j cap') := by
                         have := HXa.out.cell 9
                         simp [hiC, trnH, List.length_take, trn_len, HN.out, Nat.min_eq_left hjn] at this
                         exact this
                       have fa9 := HXa.out.frozen 9
                       clear hg1 ha1 ho1 c0 c1 c2 c3 c4 c5 c6 c7 c8 x9)
          go_roundw
          case rel =>
            have hat := trn_at HCI.out HEJ.out (by rw [HN.out]; exact HIJ.out)
            refine ⟨j + 1, (k : Int) - 1, A3, cap3, by have := HIJ.out; omega, by omega, rfl, hide (fun i' k' c' e' h1 h2 hc' he' => ?_), ?_, ?_, ?_⟩
            · rcases Nat.lt_or_ge (i' + j) n with h3 | h3
              · obtain rfl : i' = k := by have := HIJ.out; omega
                rw [HCI.out] at hc'; cases hc'
                exact hdk.out k' e' h2 he'
              · exact hdays.out i' k' c' e' h3 h2 hc' he'
            · have := HXa.out.set_ 9 (.slice A3 (j + 1) cap3)
              simpa [hiC, trnH, List.length_take, trn_len, HN.out, Nat.min_eq_left (show j + 1 ≤ n by omega)] using this
            · have h1 := HOa.out.far (p := ⟨G, 9, none⟩) (fun b hb => by have := (HOa.out.lt b hb).1; simp; omega) (.slice A3 (j + 1) cap3)
              rw [take_of hat, List.map_append]
              exact h1
            · exact HBa.out.setCell (by have := HG.out; simp; omega) _
          case measure => simp [RowKit.intOf] <;> omega
    · obtain rfl : j = n := by omega
      have hq : q = -1 := by omega
      subst hq
      obtain ⟨x, hx⟩ : ∃ x, trnH h j A' cap' = x := ⟨_, rfl⟩
      have hxl : x.cs.length = j := by rw [← hx]; simp [trnH, trn_len, HN.out]
      have hxc : x.cs = trnL h.cs := by rw [← hx]; exact List.take_of_length_le (by rw [trn_len, HN.out]; exact Nat.le_refl _)
      have hxt : x.tm = h.tm := by rw [← hx]; rfl
      have hxA : x.A = A' ∧ x.cap = cap' ∧ x.id = h.id ∧ x.bk = h.bk := by rw [← hx]; exact ⟨rfl, rfl, rfl, rfl⟩
      have HVx := hide (show HV wo x by
        have h1 := trn_hv (A := A') (cap := cap') HVr.out (by
          have h2 := HO.out.sv
          rw [List.take_of_length_le (by rw [trn_len, HN.out]; exact Nat.le_refl _)] at h2
          rw [HN.out]; exact h2)
        rw [HN.out, hx] at h1
        exact h1)
      have hK := known_order (h := h) (h' := x) (allV M) hxt (by rw [hxc]; exact (trn_perm h.cs).1) (by rw [hxc]; exact (trn_perm h.cs).2) (nodup_days fun i' k' c' e' h1 hc' he' => hdays.out i' k' c' e' (by omega) h1 hc' he')
      obtain ⟨k1, k2, k3⟩ := hK
      rw [hx] at HX
      obtain ⟨E, hE⟩ : ∃ E, slE h (chL h) (allV M) = E := ⟨_, rfl⟩
      obtain ⟨L, hL⟩ : ∃ L, slL h (chL h) (allV M) = L := ⟨_, rfl⟩
      have kd : dueT x (allV M) = dueT h (allV M) := by unfold dueT; rw [k2, k3]
      rw [hE] at k1
      rw [hL] at k2
      have hbx : HV wo x := HVx.out
      obtain ⟨xA, xc, xi, xb⟩ := hxA
      have hxe : ∀ W : World, ∀ (f : Nat) (Q : World → Ending → World → Prop), Calls Tryz.prog f #[.agg #[.int .i64 x.id, .int .i64 x.bk, .int .i64 x.tm.f, .int .i64 x.tm.t, .int .i64 x.tm.k, .int .i64 x.tm.v, .int .i64 x.tm.a, .int .i64 x.tm.z, .slice x.tm.A x.tm.l.length x.tm.cap, .slice x.A x.cs.length x.cap], .agg #[.slice V M.length cap]] W (Q W) → Calls Tryz.prog f #[.agg #[.int .i64 h.id, .int .i64 h.bk, .int .i64 h.tm.f, .int .i64 h.tm.t, .int .i64 h.tm.k, .int .i64 h.tm.v, .int .i64 h.tm.a, .int .i64 h.tm.z, .slice h.tm.A h.tm.l.length h.tm.cap, .slice A' j cap'], .agg #[.slice V M.length cap]] W (Q W) := fun W f Q hq => by
        rw [xA, xc, xi, xb, hxt, hxl] at hq; exact hq
      have hhe : ∀ W : World, ∀ (f : Nat) (Q : World → Ending → World → Prop), Calls Tryz.prog f #[.agg #[.int .i64 h.id, .int .i64 h.bk, .int .i64 h.tm.f, .int .i64 h.tm.t, .int .i64 h.tm.k, .int .i64 h.tm.v, .int .i64 h.tm.a, .int .i64 h.tm.z, .slice h.tm.A h.tm.l.length h.tm.cap, .slice h.A h.cs.length h.cap], .agg #[.slice V M.length cap]] W (Q W) → Calls Tryz.prog f #[.agg #[.int .i64 h.id, .int .i64 h.bk, .int .i64 h.tm.f, .int .i64 h.tm.t, .int .i64 h.tm.k, .int .i64 h.tm.v, .int .i64 h.tm.a, .int .i64 h.tm.z, .slice h.tm.A h.tm.l.length h.tm.cap, .slice h.A j h.cap], .agg #[.slice V M.length cap]] W (Q W) := fun W f Q hq => by
        rw [HN.out] at hq; exact hq
      have HSLH := hide (fun W (hW : Below wo.heap.size wo W) => hhe W _ (fun W => SlcP (slE h (chL h) (allV M)) (slL h (chL h) (allV M)) W) (slc_any h (chL h) V cap M W (HVr.out.below hW) ((HT3.out.below HBW.out).below hW) HLEN.out (fun _ => ordd_any h W (HVr.out.below hW) (by rw [HN.out]; omega))))
      have HSLX := hide (fun W (hW : Below wo.heap.size wo W) => hxe W _ (fun W => SlcP (slE x (chL x) (allV M)) (slL x (chL x) (allV M)) W) (slc_any x (chL x) V cap M W (hbx.below hW) ((HT3.out.below HBW.out).below hW) HLEN.out (fun _ => ordd_any x W (hbx.below hW) (by rw [hxl]; omega))))
      have HDUH := hide (fun W (hW : Below wo.heap.size wo W) => hhe W _ (fun W => fun e w' => e = .returned (.tuple #[.int .i64 (dueT h (allV M)).1, .int .i64 (dueT h (allV M)).2]) ∧ Below W.heap.size W w') (due_all h V cap M.length M W (HVr.out.below hW) ((HT3.out.below HBW.out).below hW) HLEN.out (by rw [HN.out]; omega)))
      have HDUX := hide (fun W (hW : Below wo.heap.size wo W) => hxe W _ (fun W => fun e w' => e = .returned (.tuple #[.int .i64 (dueT x (allV M)).1, .int .i64 (dueT x (allV M)).2]) ∧ Below W.heap.size W w') (due_all x V cap M.length M W (hbx.below hW) ((HT3.out.below HBW.out).below hW) HLEN.out (by rw [hxl]; omega)))
      rw [hE, hL] at HSLH
      rw [k1, k2] at HSLX
      rw [kd] at HDUX
      obtain ⟨⟨d1, d2⟩, hD⟩ : ∃ D, dueT h (allV M) = D := ⟨_, rfl⟩
      rw [hD] at HDUH HDUX
      have HBX := hide (show wo.cell? ⟨G, 0, none⟩ = some (.int .i64 h.id) ∧ wo.cell? ⟨G, 1, none⟩ = some (.int .i64 h.bk) ∧ wo.cell? ⟨G, 2, none⟩ = some (.int .i64 h.tm.f) ∧ wo.cell? ⟨G, 3, none⟩ = some (.int .i64 h.tm.t) ∧ wo.cell? ⟨G, 4, none⟩ = some (.int .i64 h.tm.k) ∧ wo.cell? ⟨G, 5, none⟩ = some (.int .i64 h.tm.v) ∧ wo.cell? ⟨G, 6, none⟩ = some (.int .i64 h.tm.a) ∧ wo.cell? ⟨G, 7, none⟩ = some (.int .i64 h.tm.z) ∧ wo.cell? ⟨G, 8, none⟩ = some (.slice h.tm.A h.tm.l.length h.tm.cap) ∧ wo.cell? ⟨G, 9, none⟩ = some (.slice A' j cap') by
        have h1 := hi_cells HX.out
        rw [xA, xc, xi, xb, hxt, hxl] at h1
        exact h1)
      have HBH := hide (show wo.cell? ⟨w.heap.size, 0, none⟩ = some (.int .i64 h.id) ∧ wo.cell? ⟨w.heap.size, 1, none⟩ = some (.int .i64 h.bk) ∧ wo.cell? ⟨w.heap.size, 2, none⟩ = some (.int .i64 h.tm.f) ∧ wo.cell? ⟨w.heap.size, 3, none⟩ = some (.int .i64 h.tm.t) ∧ wo.cell? ⟨w.heap.size, 4, none⟩ = some (.int .i64 h.tm.k) ∧ wo.cell? ⟨w.heap.size, 5, none⟩ = some (.int .i64 h.tm.v) ∧ wo.cell? ⟨w.heap.size, 6, none⟩ = some (.int .i64 h.tm.a) ∧ wo.cell? ⟨w.heap.size, 7, none⟩ = some (.int .i64 h.tm.z) ∧ wo.cell? ⟨w.heap.size, 8, none⟩ = some (.slice h.tm.A h.tm.l.length h.tm.cap) ∧ wo.cell? ⟨w.heap.size, 9, none⟩ = some (.slice h.A j h.cap) by
        have h1 := hi_cells HBr.out
        rw [HN.out] at h1
        exact h1)
      have s0 : wo.cell? ⟨w.heap.size + 1, 0, none⟩ = some (.slice V M.length cap) := HSr.out.cell 0
      have HS0 := hide s0
      have HWW := hide (chain H3.out HBW.out)
      clear k1 k2 k3 kd hE hL hxl hxc hxt xA xc xi xb hbx hxe hhe hD hdays hqj hx HX
      obtain ⟨z0, z1, z2, z3, z4, z5, z6, z7, z8, z9⟩ := HBH.out
      go_wp2_with fail
      refine (HSLH.out wo (Below.refl _ _)).mono ?_
      rintro e5 w5 ⟨h5, hr5⟩
      have H5 := hide h5
      clear z0 z1 z2 z3 z4 z5 z6 z7 z8 z9 s0
      obtain ⟨y0, y1, y2, y3, y4, y5, y6, y7, y8, y9⟩ := keep10 h5 HBX.out
      have s0 := kept h5 HS0.out
      clear h5
      rcases hr5 with ⟨hne, rfl⟩ | ⟨he0, A5, cap5, out5, rfl, hov5, hmd5⟩
      · have HNE := hide hne
        clear hne
        go_wp2_with fail
        refine (HSLX.out w5 H5.out).mono ?_
        rintro e6 w6 ⟨h6, hr6⟩
        have H6 := hide (chain HWW.out (chain H5.out h6))
        clear h6 y0 y1 y2 y3 y4 y5 y6 y7 y8 y9 s0
        rcases hr6 with ⟨-, rfl⟩ | ⟨he0, -⟩
        · have hq : (E != 0) = true := by simpa using HNE.out
          go_wp2_with fail
          go_ret
          exact ⟨by simp, H6.out⟩
        · exact absurd he0 HNE.out
      · subst he0
        have HM5 := hide hmd5
        have HV5 := hide hov5
        clear hmd5 hov5
        go_wp2_with fail
        refine (HSLX.out w5 H5.out).mono ?_
        rintro e6 w6 ⟨h6, hr6⟩
        have H56 := hide h6
        have H6 := hide (chain H5.out h6)
        clear h6 y0 y1 y2 y3 y4 y5 y6 y7 y8 y9 s0
        rcases hr6 with ⟨hne, -⟩ | ⟨-, A6, cap6, out6, rfl, hov6, hmd6⟩
        · exact absurd rfl hne
        have HM6 := hide hmd6
        have HV6 := hide (show out6.map Sc.v = out5.map Sc.v by rw [hov6, HV5.out])
        have hl6 : out6.length = out5.length := by have := congrArg List.length HV6.out; simpa using this
        have HL6 := hide hl6
        rw [hl6]
        have HV6' := hide hov6
        obtain ⟨⟨u1, u2⟩, hU⟩ : ∃ U, UptoS L u = U := ⟨_, rfl⟩
        have HUU := hide hU
        clear hl6 hmd6 hov6 hU
        obtain ⟨z0, z1, z2, z3, z4, z5, z6, z7, z8, z9⟩ := keep10 H6.out HBH.out
        have s0 := kept H6.out HS0.out
        go_wp2_with fail
        refine (HDUH.out w6 H6.out).mono ?_
        rintro e7 w7 ⟨rfl, h7⟩
        have H7 := hide (chain H6.out h7)
        have H67 := hide h7
        clear h7 z0 z1 z2 z3 z4 z5 z6 z7 z8 z9 s0
        obtain ⟨y0, y1, y2, y3, y4, y5, y6, y7, y8, y9⟩ := keep10 H7.out HBX.out
        have s0 := kept H7.out HS0.out
        go_wp2_with fail
        refine (HDUX.out w7 H7.out).mono ?_
        rintro e8 w8 ⟨rfl, h8⟩
        have H8 := hide (chain H7.out h8)
        have H68 := hide (chain H67.out h8)
        clear h8 y0 y1 y2 y3 y4 y5 y6 y7 y8 y9 s0
        have HUP5 := hide (show Calls Tryz.prog 20 #[.slice A5 out5.length cap5, .int .i64 u] w8 (fun e w' => e = .returned (.tuple #[.int .i64 u1, .int .i64 u2]) ∧ Below w8.heap.size w8 w') by
          have := Upto_any addc_all A5 cap5 out5.length out5 u w8 (HM5.out.own.sv.below (chain H56.out H68.out))
          rw [uptoS_of HV5.out, HUU.out] at this
          exact this)
        go_wp2_with fail
        refine HUP5.out.mono ?_
        rintro e9 w9 ⟨rfl, h9⟩
        have H9 := hide (chain H8.out h9)
        have H69 := hide (chain H68.out h9)
        clear h9
        have HUP6 := hide (show Calls Tryz.prog 20 #[.slice A6 out5.length cap6, .int .i64 u] w9 (fun e w' => e = .returned (.tuple #[.int .i64 u1, .int .i64 u2]) ∧ Below w9.heap.size w9 w') by
          have hs6 := HM6.out.own.sv.below H69.out
          rw [HL6.out] at hs6
          have := Upto_any addc_all A6 cap6 out5.length out6 u w9 hs6
          rw [uptoS_of HV6'.out, HUU.out] at this
          exact this)
        go_wp2_with fail
        refine HUP6.out.mono ?_
        rintro e10 w10 ⟨rfl, h10⟩
        have H10 := hide (chain H9.out h10)
        have H610 := hide (chain H69.out h10)
        clear h10
        have HALL := hide (show Calls Tryz.prog 21 #[.slice A5 out5.length cap5, .slice A6 out5.length cap6] w10 (fun e w' => e = .returned (.bool true) ∧ Below w10.heap.size w10 w') by
          have hs5 := HM5.out.below (chain H56.out H610.out)
          have hs6 := HM6.out.below H610.out
          have h6 := hs6.own.sv
          rw [HL6.out] at h6
          exact all12_any A5 A6 out5.length cap5 cap6 out5 out6 w10 hs5.own.sv h6 HV6.out hs5.sv hs6.sv)
        go_wp2_with fail
        refine HALL.out.mono ?_
        rintro e11 w11 ⟨rfl, h11⟩
        have H11 := hide (chain HWW.out (chain H10.out h11))
        clear h11
        go_wp2_with fail
        go_ret
        exact ⟨by simp, H11.out⟩
end Go.Proofs.YtmfohnchnbgbaaaGreat
