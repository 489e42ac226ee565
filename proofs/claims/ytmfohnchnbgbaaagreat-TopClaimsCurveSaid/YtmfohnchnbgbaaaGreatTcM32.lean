/- Part 32 of the proof. -/
import Derived.Test.YtmfohnchnbgbaaaGreatTcM13
import Derived.Test.YtmfohnchnbgbaaaGreatTcM28
import Derived.Test.YtmfohnchnbgbaaaGreatTcM31
/- claimsAlive says true. -/
namespace Go.Proofs.YtmfohnchnbgbaaaGreat
open Go.RowKit Go.Lib
set_option linter.unusedSimpArgs false

def actC : Array Value := #[.int .i64 10, .int .i64 1, .int .i64 900, .int .i64 11, .int .i64 2, .int .i64 700]
def filC (b : Nat) : Array Value := #[.int .i64 3, .int .i64 1, .int .i64 1, .int .i64 8, .int .i64 9, .int .i64 0, .slice (some ⟨b, 0, none⟩) 2 2]
theorem okFl1 (b : Nat) : RowsOk 7 [encFl (fl0 b)] := by
  intro r hr
  obtain rfl := List.mem_singleton.1 hr
  exact ⟨rfl, fun u hu => by simp [encFl, fl0] at hu; rcases hu with rfl | rfl | rfl | rfl | rfl | rfl <;> rfl⟩
theorem sv_int {w : World} {g : Nat} {t : TypeId} {v : Int} (h : Blk w g t #[.int .i64 v]) : SV w 1 (some ⟨g, 0, none⟩) 1 1 ([v].map encI) :=
  ⟨sl_of_blk (cs := #[.int .i64 v]) h, rfl, Nat.le_refl _, by simp [maxLen], fun h => by cases h⟩
theorem sv_row {w : World} {g : Nat} {t : TypeId} {a b c : Int} (h : Blk w g t #[.int .i64 a, .int .i64 b, .int .i64 c]) : SV w 3 (some ⟨g, 0, none⟩) 1 1 ([(⟨a, b, c⟩ : R3)].map enc3) :=
  ⟨sl_of_blk (cs := #[.int .i64 a, .int .i64 b, .int .i64 c]) h, rfl, Nat.le_refl _, by simp [maxLen], fun h => by cases h⟩
set_option maxRecDepth 100000 in
set_option maxHeartbeats 8000000 in
theorem alive29_any (w : World) : Calls Tryz.prog 8 #[] w fun e w' => e = .returned (.bool true) ∧ Below w.heap.size w w' := by
  obtain ⟨w1, hw1⟩ : ∃ W, w.alloc (.cells (cvC cv0) 23) = W := ⟨_, rfl⟩
  obtain ⟨b, hbq⟩ : ∃ b, w1.heap.size = b := ⟨_, rfl⟩
  obtain ⟨w2, hw2⟩ : ∃ W, w1.alloc (.cells actC 95) = W := ⟨_, rfl⟩
  obtain ⟨w3, hw3⟩ : ∃ W, w2.alloc (.cells (filC b) 49) = W := ⟨_, rfl⟩
  have h1 : Below w.heap.size w w1 := by rw [← hw1]; exact (Below.refl _ _).alloc (Nat.le_refl _) _
  have h12 : Below w1.heap.size w1 w2 := by rw [← hw2]; exact (Below.refl _ _).alloc (Nat.le_refl _) _
  have h23 : Below w2.heap.size w2 w3 := by rw [← hw3]; exact (Below.refl _ _).alloc (Nat.le_refl _) _
  have hoa : OwnS w2 b 95 3 (some ⟨b, 0, none⟩) 2 2 (acts0.map encAc) := by
    rw [← hw2, ← hbq]
    exact OwnS.lit w1 (B := w1.heap.size) (Nat.le_refl _) 95 (acts0.map encAc) (okAc acts0) (by simp [acts0, maxLen]) actC rfl
  have HC3 := hide (show Blk w3 w.heap.size 23 (cvC cv0) from by
    have : Blk w1 w.heap.size 23 (cvC cv0) := by rw [← hw1]; exact Blk.new _ _ _
    exact (this.below h12 this.lt).below h23 (this.below h12 this.lt).lt)
  have hsz2 : w2.heap.size = b + 1 := by rw [← hw2, ← hbq]; simp
  have HF3 := hide (show Blk w3 (b + 1) 49 (filC b) by rw [← hw3, ← hsz2]; exact Blk.new _ _ _)
  have HA3 := hide (hoa.below h23)
  have H3 := hide (chain h1 (chain h12 h23))
  have HW1 := hide hw1
  have HW2 := hide hw2
  have HW3 := hide hw3
  have HBQ := hide hbq
  clear hw1 hw2 hw3 hbq h1 h12 h23 hoa hsz2
  go_enter Tryz.func8, Tryz.ntmps8
  go_upto_region 2 with fail
  rw [show w.alloc (.cells #[.int .i64 1, .int .i64 1000, .int .i64 1500, .int .i64 100, .int .i64 10000] 23) = w1 from HW1.out]
  go_upto_region 3 with fail
  rw [show w1.alloc (.cells #[.int .i64 10, .int .i64 1, .int .i64 900, .int .i64 11, .int .i64 2, .int .i64 700] 95) = w2 from HW2.out]
  rw [HBQ.out]
  rw [show w2.alloc (.cells #[.int .i64 3, .int .i64 1, .int .i64 1, .int .i64 8, .int .i64 9, .int .i64 0, .slice (some ⟨b, 0, none⟩) 2 2] 49) = w3 from HW3.out]
  obtain ⟨x0, x1, x2, x3, x4⟩ := cv_cells HC3.out
  have y0 : w3.cell? ⟨b + 1, 0, none⟩ = some (.int .i64 3) := HF3.out.cell 0
  have y1 : w3.cell? ⟨b + 1, 1, none⟩ = some (.int .i64 1) := HF3.out.cell 1
  have y2 : w3.cell? ⟨b + 1, 2, none⟩ = some (.int .i64 1) := HF3.out.cell 2
  have y3 : w3.cell? ⟨b + 1, 3, none⟩ = some (.int .i64 8) := HF3.out.cell 3
  have y4 : w3.cell? ⟨b + 1, 4, none⟩ = some (.int .i64 9) := HF3.out.cell 4
  have y5 : w3.cell? ⟨b + 1, 5, none⟩ = some (.int .i64 0) := HF3.out.cell 5
  have y6 : w3.cell? ⟨b + 1, 6, none⟩ = some (.slice (some ⟨b, 0, none⟩) 2 2) := HF3.out.cell 6
  simp only [cv0] at x0 x1 x2 x3 x4
  obtain ⟨w4, hw4⟩ : ∃ W, w3.alloc (.cells (filC b) 49) = W := ⟨_, rfl⟩
  have hfv : FV w4 (some ⟨w3.heap.size, 0, none⟩) 1 1 [fl0 b] := by
    refine ⟨?_, fun x hx => ?_⟩
    · rw [← hw4]
      exact (OwnS.lit w3 (B := w3.heap.size) (Nat.le_refl _) 49 [encFl (fl0 b)] (okFl1 b) (by simp [maxLen]) (filC b) rfl).sv
    · obtain rfl := List.mem_singleton.1 hx
      rw [← hw4]
      exact (HA3.out.alloc _).sv
  have HOF := hide (ofF_any cv0 (some ⟨w3.heap.size, 0, none⟩) 1 1 [fl0 b] w4 (by simp [okCv, ok64, cv0]) hfv (by omega))
  have H4 := hide (show Below w.heap.size w w4 by rw [← hw4]; exact H3.out.alloc H3.out.size _)
  have HW4 := hide hw4
  clear hw4 hfv
  go_wp2_with fail
  rw [show w3.alloc (.cells #[.int .i64 3, .int .i64 1, .int .i64 1, .int .i64 8, .int .i64 9, .int .i64 0, .slice (some ⟨b, 0, none⟩) 2 2] 49) = w4 from HW4.out]
  refine HOF.out.mono ?_
  rintro e w5 ⟨h5, ⟨hne, -⟩ | ⟨-, AP, capP, P, rfl, hsp, -, P0, hP0, hP⟩⟩
  · exact absurd (check0 b) hne
  obtain ⟨y, rfl, hyp, hyr⟩ := pos0 hP0 hP
  have HSP := hide (show SV w5 6 AP 1 capP ([y].map encPs) from hsp)
  have H5 := hide (chain H4.out h5)
  have HYP := hide hyp
  have HYR := hide hyr
  rw [show [fl0 b].length = 1 from rfl]
  clear h5 hsp hP0 hP hyp hyr x0 x1 x2 x3 x4 y0 y1 y2 y3 y4 y5 y6
  obtain ⟨w6, hw6⟩ : ∃ W, w5.alloc (.cells #[.int .i64 8, .int .i64 11, .int .i64 600] 54) = W := ⟨_, rfl⟩
  have hb6 : Blk w6 w5.heap.size 54 #[.int .i64 8, .int .i64 11, .int .i64 600] := by rw [← hw6]; exact Blk.new _ _ _
  have h6 : Below w5.heap.size w5 w6 := by rw [← hw6]; exact (Below.refl _ _).alloc (Nat.le_refl _) _
  have HTO := hide (of_yes (w0 := w6) (w := w6) (l := l0) (sv_row hb6) (Below.refl _ _) of0 rfl rfl rfl)
  have HSP6 := hide (HSP.out.below h6)
  have H6 := hide (chain H5.out h6)
  have HW6 := hide hw6
  clear hw6 hb6 h6
  go_wp2_with fail
  rw [show w5.alloc (.cells #[.int .i64 8, .int .i64 11, .int .i64 600] 54) = w6 from HW6.out]
  refine HTO.out.mono ?_
  rintro e w7 ⟨A7, c7, R, rfl, hmv, hR, -, h7, -⟩
  obtain ⟨F, hF⟩ : ∃ F, fromL l0 = F := ⟨_, rfl⟩
  obtain ⟨m, hm⟩ : ∃ m, (ofC l0).length = m := ⟨_, rfl⟩
  have hfb := made of0
  have hfo : ok64 F := by rw [← hF]; have h8 := hfb.2.2.2.2.2.2.2.1; have h9 := hfb.2.2.2.2.2.2.2.2.1; unfold ok64; omega
  have HDG := hide (show diagL F (allM R) = [600] by rw [hR, ← hF]; exact diag0)
  rw [hF, hm]
  rw [hm] at hmv
  obtain ⟨w8, hw8⟩ : ∃ W, w7.alloc (.cells #[.int .i64 F, .slice A7 m c7] 36) = W := ⟨_, rfl⟩
  have h8 : Below w7.heap.size w7 w8 := by rw [← hw8]; exact (Below.refl _ _).alloc (Nat.le_refl _) _
  have HB8 := hide (show Blk w8 w7.heap.size 36 #[.int .i64 F, .slice A7 m c7] by rw [← hw8]; exact Blk.new _ _ _)
  have HMV8 := hide (hmv.below h8)
  have HSP8 := hide ((HSP6.out.below h7).below h8)
  have H8 := hide (chain (chain H6.out h7) h8)
  have HW8 := hide hw8
  clear hw8 h8 hmv hR h7 hF hm hfb
  go_upto_region 5 with fail
  rw [show w7.alloc (.cells #[.int .i64 F, .slice A7 m c7] 36) = w8 from HW8.out]
  obtain ⟨X, hX⟩ : ∃ X, w7.heap.size = X := ⟨_, rfl⟩
  rw [hX] at HB8 ⊢
  clear hX HW8
  obtain ⟨w9, hw9⟩ : ∃ W, w8.alloc (.cells trC 97) = W := ⟨_, rfl⟩
  have h9 : Below w8.heap.size w8 w9 := by rw [← hw9]; exact (Below.refl _ _).alloc (Nat.le_refl _) _
  have HT9 := hide (show Blk w9 w8.heap.size 97 trC by rw [← hw9]; exact Blk.new _ _ _)
  have HW9 := hide hw9
  obtain ⟨w10, hw10⟩ : ∃ W, (w9.alloc (.cells trC 97)).alloc (.cells loC 103) = W := ⟨_, rfl⟩
  have h10 : Below w9.heap.size w9 w10 := by rw [← hw10]; exact ((Below.refl _ _).alloc (Nat.le_refl _) _).alloc (by simp) _
  have HTW := hide (towerOf_any w9.heap.size (w9.heap.size + 1) w10 (by rw [← hw10]; exact (Blk.new _ _ _).alloc _) (by rw [← hw10]; exact Blk.new' (by simp)))
  have HB10 := hide ((HB8.out.below h9 HB8.out.lt).below h10 (HB8.out.below h9 HB8.out.lt).lt)
  have HMV10 := hide ((HMV8.out.below h9).below h10)
  have HSP10 := hide ((HSP8.out.below h9).below h10)
  have H10 := hide (chain (chain H8.out h9) h10)
  have HW10 := hide hw10
  clear hw9 hw10 h9 h10
  go_upto_region 6 with fail
  rw [show w8.alloc (.cells #[.int .i64 2, .int .i64 1, .int .i64 1, .int .i64 101, .int .i64 5000, .int .i64 0, .int .i64 0, .int .i64 0, .int .i64 255] 97) = w9 from HW9.out]
  obtain ⟨x0, x1, x2, x3, x4, x5, x6, x7, x8⟩ := tr_cells HT9.out
  go_wp2_with fail
  rw [show (w9.alloc (.cells #[.int .i64 2, .int .i64 1, .int .i64 1, .int .i64 101, .int .i64 5000, .int .i64 0, .int .i64 0, .int .i64 0, .int .i64 255] 97)).alloc (.cells #[.int .i64 3, .int .i64 0, .int .i64 8, .int .i64 1, .int .i64 600] 103) = w10 from HW10.out]
  refine HTW.out.mono ?_
  rintro e w11 ⟨⟨AC, nC, cC, XN, rfl, hXN⟩, h11⟩
  have HN11 := hide hXN
  have HB11 := hide (HB10.out.below h11 HB10.out.lt)
  have HMV11 := hide (HMV10.out.below h11)
  have HSP11 := hide (HSP10.out.below h11)
  have H11 := hide (chain H10.out h11)
  clear h11 hXN x0 x1 x2 x3 x4 x5 x6 x7 x8
  have x0 : w11.cell? ⟨X, 0, none⟩ = some (.int .i64 F) := HB11.out.cell 0
  have x1 : w11.cell? ⟨X, 1, none⟩ = some (.slice A7 m c7) := HB11.out.cell 1
  obtain ⟨pb, po, rfl, hpl, p0, p1, p2, p3, p4, p5⟩ := HSP11.out.sl.ps (x := y) (k := 0) rfl
  rw [HYP.out] at p2
  rw [HYR.out] at p4
  simp only [Nat.zero_mul, Nat.add_zero] at p2 p4
  clear p0 p1 p3 p5
  go_wp2_with fail
  refine (diag_b HMV11.out (Below.refl _ _) hfo HDG.out rfl).mono ?_
  rintro e w12 ⟨A12, c12, rfl, hs12, h12, -⟩
  have HS12 := hide hs12
  have HN12 := hide (HN11.out.below h12 HN11.out.lt)
  have H12 := hide (chain H11.out h12)
  clear h12 hs12 x0 x1 p2 p4 hpl
  go_wp2_with fail
  refine (sameI_b (w0 := w12) HS12.out ((Below.refl _ _).alloc (Nat.le_refl _) _) (sv_int (Blk.new _ _ _)) (Below.refl _ _) ((Below.refl _ _).alloc (Nat.le_refl _) _) (by decide)).mono ?_
  rintro e w13 ⟨rfl, h13, -⟩
  have HN13 := hide (HN12.out.below h13 HN12.out.lt)
  have H13 := hide (chain H12.out h13)
  clear h13
  go_wp2_with fail
  refine (sameI_b (w0 := w13) (sv_int HN13.out) ((Below.refl _ _).alloc (Nat.le_refl _) _) (sv_int (Blk.new _ _ _)) (Below.refl _ _) ((Below.refl _ _).alloc (Nat.le_refl _) _) (by omega)).mono ?_
  rintro e w14 ⟨rfl, h14, -⟩
  have H14 := hide (chain H13.out h14)
  clear h14
  go_wp2_with fail
  go_ret
  exact ⟨rfl, H14.out⟩
end Go.Proofs.YtmfohnchnbgbaaaGreat

/- Are there few files: ref19.Few, one way. -/
namespace Go.Proofs.YtmfohnchnbgbaaaGreat
open Go.RowKit Go.Lib
set_option linter.unusedSimpArgs false

set_option maxRecDepth 100000 in
set_option maxHeartbeats 8000000 in
theorem acts19_any (A : Option Addr) (n cap : Nat) (L : List Fl) (w : World) (hv : FV w A n cap L) (hn1 : n ≤ 30) :
    Calls Tryz.prog 26 #[.slice A n cap] w fun e w' => (∃ z : Int, e = .returned (.int .i64 z)) ∧ Below w.heap.size w w' := by
  have HN := hide hv.len
  have HV := hide hv
  clear hv
  go_enter Tryz.func26, Tryz.ntmps26
  go_wp2_with fail
  go_loopw [3, 4] (fun q3 q4 wr => ∃ (k : Nat) (z : Int), k ≤ n ∧ q4 = .int .i64 k ∧ q3 = .int .i64 z ∧ Below w.heap.size w wr) (fun _ q _ => n - (RowKit.intOf q).toNat)
  case atStart => exact ⟨0, 0, Nat.zero_le _, rfl, rfl, Below.refl _ _⟩
  case round =>
    rename World => wp
    obtain ⟨k, z, hk, rfl, rfl, hb⟩ := hrel
    have HB := hide hb
    by_cases hlt : k < n
    · obtain ⟨x, hx⟩ := get_of (l := L) (k := k) (by rw [HN.out]; exact hlt)
      obtain ⟨bb, off2, hA2, hbl2, c0, c1, c2, c3, c4, c5, c6⟩ := (HV.out.below hb).sv.sl.fl hx
      have hi0 : (0 : Int) ≤ (k : Int) := by omega
      have hi1 : (k : Int) < (n : Int) := by omega
      subst hA2
      clear hb hx c0 c1 c2 c3 c4 c5
      go_wp2_with fail
      go_roundw
      case rel => exact ⟨k + 1, _, by omega, by go_num, rfl, HB.out⟩
      case measure => simp [RowKit.intOf]; omega
    · obtain rfl : k = n := by omega
      clear hb
      go_wp2_with fail
      go_ret
      exact ⟨⟨z, rfl⟩, HB.out⟩
set_option maxRecDepth 100000 in
set_option maxHeartbeats 8000000 in
theorem few19_any (A : Option Addr) (n cap : Nat) (L : List Fl) (w : World) (hv : FV w A n cap L) :
    Calls Tryz.prog 7 #[.slice A n cap] w fun e w' => (∃ b : Bool, e = .returned (.bool b) ∧ (b = true → n ≤ 30)) ∧ Below w.heap.size w w' := by
  have HP := hide (fun (h : n ≤ 30) => acts19_any A n cap L w hv h)
  clear hv
  go_enter Tryz.func7, Tryz.ntmps7
  by_cases hlt : n ≤ 30
  · have h1 : (n : Int) ≤ 30 := by omega
    have HQ := hide (HP.out hlt)
    go_wp2_with fail
    refine HQ.out.mono ?_
    rintro e w2 ⟨⟨z, rfl⟩, h2⟩
    have H2 := hide h2
    clear h2
    go_wp2_with fail
    go_ret
    exact ⟨⟨_, rfl, fun _ => hlt⟩, H2.out⟩
  · have h1 : ¬ (n : Int) ≤ 30 := by omega
    go_wp2_with fail
    go_ret
    first
      | exact ⟨⟨false, rfl, fun h => absurd h (by simp)⟩, Below.refl _ _⟩
      | (refine ⟨?_, Below.refl _ _⟩; simp)
      | (refine ⟨?_, Below.refl _ _⟩; rfl)
      | rfl
end Go.Proofs.YtmfohnchnbgbaaaGreat

/- TopClaimsCurve: the walk. -/
namespace Go.Proofs.YtmfohnchnbgbaaaGreat
open Go.RowKit Go.Lib
set_option linter.unusedSimpArgs false

/-- The rows booked by a day. -/
def thenL (d : Int) (T : List R3) : List R3 := T.filter fun r => decide (r.b ≤ d)
theorem then_yes {d : Int} {T : List R3} {k : Nat} {x : R3} (h : T[k]? = some x) (hb : x.b ≤ d) : thenL d (T.take (k + 1)) = thenL d (T.take k) ++ [x] := by
  unfold thenL
  rw [take_of h, List.filter_append, List.filter_cons_of_pos (by simpa using hb)]
  rfl
theorem then_no {d : Int} {T : List R3} {k : Nat} {x : R3} (h : T[k]? = some x) (hb : ¬ x.b ≤ d) : thenL d (T.take (k + 1)) = thenL d (T.take k) := by
  unfold thenL
  rw [take_of h, List.filter_append, List.filter_cons_of_neg (by simpa using hb)]
  simp
theorem sumI_list : ∀ l : List Int, sumI l = l.sum
  | [] => rfl
  | x :: r => by rw [sumI, sumI_list r, List.sum_cons]
theorem then_paid {c : Cv} {d : Int} {L L' : List Fl} (h : KnI d L L') (hq : checkQ c L = 0) : sumM (thenL d (crL c L)) = (paidS c L').all := by
  rw [← known_paid h hq, sumM, sumI_list, crL, if_pos hq]
  unfold thenL
  rw [List.filter_map, List.map_map]
  rfl
theorem of_none {T : List R3} (h : ofE T = 7) : T = [] := by
  unfold ofE at h
  split at h
  · assumption
  · split at h
    · split at h
      · omega
      · split at h <;> omega
    · rcases chkL_range T with e | e | e <;> omega
set_option maxRecDepth 100000 in
set_option maxHeartbeats 8000000 in
theorem topClaimsCurve_w (w : World) (c : Cv) (A : Option Addr) (n cap : Nat) (L : List Fl) (d : Int) (ho : okCv c) (hv : FV w A n cap L) :
    Calls Tryz.prog 4 #[.agg #[.int .i64 c.p, .int .i64 c.lim, .int .i64 c.agg, .int .i64 c.ded, .int .i64 c.sh], .slice A n cap, .int .i64 d] w fun e w' => e = .returned (.bool true) ∧ Below w.heap.size w w' := by
  obtain ⟨w1, hw1⟩ : ∃ W, w.alloc (.cells (cvC c) 23) = W := ⟨_, rfl⟩
  have h01 : Below w.heap.size w w1 := by rw [← hw1]; exact (Below.refl _ _).alloc (Nat.le_refl _) _
  have HB := hide (show Blk w1 w.heap.size 23 (cvC c) by rw [← hw1]; exact Blk.new _ _ _)
  have HV := hide (hv.below h01)
  have H1 := hide h01
  have HW := hide hw1
  have HN := hide hv.len
  have HOK := hide ho
  have hle := hv.sv.le
  have hmo := hv.sv.most
  unfold maxLen at hmo
  clear hw1 h01 hv ho
  go_enter Tryz.func4, Tryz.ntmps4
  go_upto_region 1 with fail
  rw [show w.alloc (.cells #[.int .i64 c.p, .int .i64 c.lim, .int .i64 c.agg, .int .i64 c.ded, .int .i64 c.sh] 23) = w1 from HW.out]
  by_cases hn20 : n ≤ 20
  case neg =>
    have hg : (n : Int) > 20 := by omega
    go_wp2_with fail
    refine (alive29_any w1).mono ?_
    rintro e w3 ⟨rfl, h3⟩
    have H3 := hide (chain H1.out h3)
    clear h3
    go_wp2_with fail
    go_ret
    exact ⟨rfl, H3.out⟩
  have hg : ¬ (n : Int) > 20 := by omega
  go_wp2_with fail
  refine (few19_any A n cap L w1 HV.out).mono ?_
  rintro e w2 ⟨⟨b, rfl, -⟩, h2⟩
  have HB2 := hide (HB.out.below h2 HB.out.lt)
  have HV2 := hide (HV.out.below h2)
  have H2 := hide (chain H1.out h2)
  clear h2
  cases b
  · go_wp2_with fail
    refine (alive29_any w2).mono ?_
    rintro e w3 ⟨rfl, h3⟩
    have H3 := hide (chain H2.out h3)
    clear h3
    go_wp2_with fail
    go_ret
    exact ⟨rfl, H3.out⟩
  obtain ⟨x0, x1, x2, x3, x4⟩ := cv_cells HB2.out
  have HCR := hide (crows_any c A n cap L w2 HOK.out HV2.out (by omega))
  go_wp2_with fail
  refine HCR.out.mono ?_
  rintro e w3 ⟨h3, A3, cap3, rfl, hs3⟩
  have HB3 := hide (HB2.out.below h3 HB2.out.lt)
  have HV3 := hide (HV2.out.below h3)
  have H3 := hide (chain H2.out h3)
  have HS3 := hide hs3
  have HAT := hide (atR_any c A n cap L d w3 HOK.out HV3.out (by omega))
  clear h3 hs3 x0 x1 x2 x3 x4 HCR
  obtain ⟨x0, x1, x2, x3, x4⟩ := cv_cells HB3.out
  by_cases hE : checkQ c L = 0
  case neg =>
    obtain ⟨E, hEe⟩ : ∃ E, checkQ c L = E := ⟨_, rfl⟩
    have hcl : crL c L = [] := by rw [crL, if_neg hE]
    rw [hEe] at hE ⊢
    rw [hcl]
    have hq1 : (E == 0) = false := by simpa using hE
    have hq2 : (E != 0) = true := by simpa using hE
    rw [hq1]
    have HE := hide hEe
    clear hEe hE hcl
    go_wp2_with fail
    refine HAT.out.mono ?_
    rintro e w5 ⟨h5, ⟨-, rfl⟩ | ⟨h0, -⟩⟩
    · rw [HE.out]
      have H5 := hide ((chain H3.out h5).alloc (chain H3.out h5).size (.cells (psC 0 0 0 0 0 false) 42))
      clear h5 x0 x1 x2 x3 x4
      obtain ⟨w6, hw6⟩ : ∃ W, w5.alloc (.cells (psC 0 0 0 0 0 false) 42) = W := ⟨_, rfl⟩
      have HW6 := hide hw6
      rw [hw6] at H5
      clear hw6
      go_upto_region 5 with fail
      rw [show w5.alloc (.cells #[.int .i64 0, .int .i64 0, .int .i64 0, .int .i64 0, .int .i64 0, .bool false] 42) = w6 from HW6.out]
      go_wp2_with fail
      refine (alive29_any w6).mono ?_
      rintro e w9 ⟨rfl, h9⟩
      have H9 := hide (chain H5.out h9)
      clear h9
      go_wp2_with fail
      go_ret
      exact ⟨rfl, H9.out⟩
    · rw [HE.out] at h0
      subst h0
      simp at hq2
  obtain ⟨T, hT⟩ : ∃ T, crL c L = T := ⟨_, rfl⟩
  obtain ⟨m, hm⟩ : ∃ m, T.length = m := ⟨_, rfl⟩
  have HTP := hide (fun (L' : List Fl) (h : KnI d L L') => then_paid (c := c) h hE)
  have hm2 : m ≤ 2000 := by
    have h1 := (paid_inv (check_zero hE).1).ol
    have h2 := (check_zero hE).2.2
    rw [← hm, ← hT, crL, if_pos hE, List.length_map]
    omega
  have HE := hide hE
  rw [hT] at HS3 HTP ⊢
  rw [hm] at HS3 ⊢
  rw [show (checkQ c L == 0) = true by rw [hE]; rfl]
  have HM := hide hm
  clear hE hT hm
  go_wp2_with fail
  refine HAT.out.mono ?_
  rintro e w5 ⟨h5, ⟨hne, -⟩ | ⟨-, L', pg, ps, pb, pr, po, hkn, rfl⟩⟩
  · exact absurd HE.out hne
  have htp := HTP.out L' hkn
  obtain ⟨p, hp⟩ : ∃ p, (paidS c L').all = p := ⟨_, rfl⟩
  rw [hp] at htp ⊢
  obtain ⟨w6, hw6⟩ : ∃ W, w5.alloc (.cells (psC pg ps p pb pr po) 42) = W := ⟨_, rfl⟩
  have h6 : Below w5.heap.size w5 w6 := by rw [← hw6]; exact (Below.refl _ _).alloc (Nat.le_refl _) _
  obtain ⟨G, hG⟩ : ∃ G, w5.heap.size = G := ⟨_, rfl⟩
  have HG6 := hide (show Blk w6 G 42 (psC pg ps p pb pr po) by rw [← hw6, ← hG]; exact Blk.new _ _ _)
  have HS6 := hide ((HS3.out.below h5).below h6)
  have H6 := hide (chain (chain H3.out h5) h6)
  have HP := hide htp
  have HW6 := hide hw6
  clear h5 hkn htp hp hw6 h6 x0 x1 x2 x3 x4 HAT HB HB2 HB3
  go_upto_region 5 with fail
  rw [show w5.alloc (.cells #[.int .i64 pg, .int .i64 ps, .int .i64 p, .int .i64 pb, .int .i64 pr, .bool po] 42) = w6 from HW6.out]
  clear hG
  go_wp2_with fail
  go_loopw [11, 56] (fun q11 q56 wr => ∃ (k t : Nat) (A5 : Option Addr) (cap5 : Nat), k ≤ m ∧ t ≤ k ∧ (thenL d (T.take k)).length = t ∧ q56 = .int .i64 k ∧ q11 = .slice A5 t cap5 ∧ OwnS wr w6.heap.size 54 3 A5 t cap5 ((thenL d (T.take k)).map enc3) ∧ Below w6.heap.size w6 wr) (fun _ q _ => m - (RowKit.intOf q).toNat)
  case atStart => exact ⟨0, 0, none, 0, Nat.zero_le _, Nat.le_refl _, rfl, rfl, rfl, OwnS.nil_ _ _ _ _, Below.refl _ _⟩
  case round =>
    rename World => wo
    obtain ⟨k, t, A5, cap5, hk, htk, ht, rfl, rfl, ho, hb⟩ := hrel
    have HOW := hide ho
    have HBE := hide hb
    have HT := hide ht
    have hsz : w6.heap.size ≤ wo.heap.size := hb.size
    by_cases hlt : k < m
    · obtain ⟨x, hx⟩ := get_of (l := T) (k := k) (by rw [HM.out]; exact hlt)
      obtain ⟨b, off, hA, hbl, d0, d1, d2⟩ := (HS6.out.below hb).sl.r3 hx
      have hk0 : (0 : Int) ≤ (k : Int) := by omega
      have hk1 : (k : Int) < (m : Int) := by omega
      have HX := hide hx
      obtain ⟨wx, hwx⟩ : ∃ W, wo.alloc (.cells #[.int .i64 x.a, .int .i64 x.b, .int .i64 x.m] 54) = W := ⟨_, rfl⟩
      have hbx : Below wo.heap.size wo wx := by rw [← hwx]; exact (Below.refl _ _).alloc (Nat.le_refl _) _
      obtain ⟨Z, hZ⟩ : ∃ Z, wo.heap.size = Z := ⟨_, rfl⟩
      have HXB := hide (show Blk wx Z 54 #[.int .i64 x.a, .int .i64 x.b, .int .i64 x.m] by rw [← hwx, ← hZ]; exact Blk.new _ _ _)
      have HOX := hide (ho.below hbx)
      have HBX := hide (chain hb hbx)
      have hszx : w6.heap.size ≤ wx.heap.size := HBX.out.size
      have HWX := hide hwx
      subst hA
      clear hx ho hb ht hwx hbx
      go_upto_region 11 with fail
      rw [show wo.alloc (.cells #[.int .i64 x.a, .int .i64 x.b, .int .i64 x.m] 54) = wx from HWX.out]
      clear hZ d0 d1 d2
      have y0 : wx.cell? ⟨Z, 0, none⟩ = some (.int .i64 x.a) := HXB.out.cell 0
      have y1 : wx.cell? ⟨Z, 1, none⟩ = some (.int .i64 x.b) := HXB.out.cell 1
      have y2 : wx.cell? ⟨Z, 2, none⟩ = some (.int .i64 x.m) := HXB.out.cell 2
      by_cases hd : x.b ≤ d
      · have HTY := hide (then_yes HX.out hd)
        go_wp2_with (at_builtin
                     refine wpList_app rfl (.tmp 64) (.tmp 66) 27 rfl elRow3 (B := w6.heap.size) (A2 := some ⟨_, 0, none⟩) (news := [x].map enc3) rfl (HOX.out.alloc _) rfl rfl ?_ (okRow3 [x]) ?_ ?_ ?_ ?_
                     · exact sl_of_blk (cs := #[.int .i64 x.a, .int .i64 x.b, .int .i64 x.m]) (Blk.new' (by simp))
                     · simp only [maxLen]; omega
                     · omega
                     · simp; omega
                     intro A7 cap7 wa ho1 hg1 ha1
                     have HBa := hide ((HBX.out.alloc HBX.out.size (.cells #[.int .i64 x.a, .int .i64 x.b, .int .i64 x.m] 54)).grown hg1 (by simp; omega) (fun kk hk => (HOX.out.lt kk hk).1))
                     have HOa := hide ho1
                     clear hg1 ha1 ho1)
        go_roundw
        case rel => exact ⟨k + 1, t + 1, A7, cap7, by omega, by omega, by rw [HTY.out, List.length_append, HT.out]; rfl, by go_num, rfl, by rw [HTY.out, List.map_append]; exact HOa.out, HBa.out⟩
        case measure => simp [RowKit.intOf]; omega
      · have HTN := hide (then_no HX.out hd)
        go_wp2_with fail
        go_roundw
        case rel => exact ⟨k + 1, t, A5, cap5, by omega, by omega, by rw [HTN.out, HT.out], by go_num, rfl, by rw [HTN.out]; exact HOX.out, HBX.out⟩
        case measure => simp [RowKit.intOf]; omega
    · obtain rfl : k = m := by omega
      rw [List.take_of_length_le (by rw [HM.out]; exact Nat.le_refl _)] at ho ht
      obtain ⟨U, hU⟩ : ∃ U, thenL d T = U := ⟨_, rfl⟩
      rw [hU] at HP ho ht
      have HSU := hide ho.sv
      have HG := hide (HG6.out.below hb HG6.out.lt)
      have HB7 := hide (chain H6.out hb)
      subst ht
      clear ho hb hU HOW HT
      go_wp2_with fail
      by_cases hE : ofE U = 0
      case neg =>
        obtain ⟨E, hEe⟩ : ∃ E, ofE U = E := ⟨_, rfl⟩
        have hE0 : (E != 0) = true := by rw [← hEe]; simp; exact hE
        refine (of_no HSU.out (Below.refl _ _) hEe (by rw [← hEe]; exact hE)).mono ?_
        rintro e w7 ⟨rfl, h7, -⟩
        have H7 := hide ((chain HB7.out h7).alloc (chain HB7.out h7).size (.cells #[.int .i64 0, .slice none 0 0] 36))
        have HG7 := hide ((HG.out.below h7 HG.out.lt).alloc (.cells #[.int .i64 0, .slice none 0 0] 36))
        obtain ⟨w8, hw8⟩ : ∃ W, w7.alloc (.cells #[.int .i64 0, .slice none 0 0] 36) = W := ⟨_, rfl⟩
        rw [hw8] at H7 HG7
        have HW8 := hide hw8
        clear h7 hE hw8
        go_upto_region 15 with fail
        rw [show w7.alloc (.cells #[.int .i64 0, .slice none 0 0] 36) = w8 from HW8.out]
        go_wp2_with fail
        refine (alive29_any w8).mono ?_
        rintro e w9 ⟨rfl, h9⟩
        have H9 := hide (chain H7.out h9)
        have HG9 := hide (HG7.out.below h9 HG7.out.lt)
        have z2 : w9.cell? ⟨G, 2, none⟩ = some (.int .i64 p) := HG9.out.cell 2
        clear h9
        by_cases h7 : E = 7
        · have hU := of_none (hEe.trans h7)
          have hp0 : p = 0 := by rw [← HP.out, hU]; rfl
          have hb1 : (E != 7) = false := by simpa using h7
          have hb2 : (p == 0) = true := by simpa using hp0
          clear hEe h7 hU hp0
          go_wp2_with fail
          go_ret
          exact ⟨rfl, H9.out⟩
        · have hb1 : (E != 7) = true := by simpa using h7
          clear hEe h7
          go_wp2_with fail
          go_ret
          exact ⟨rfl, H9.out⟩
      obtain ⟨F, hF⟩ : ∃ F, fromL U = F := ⟨_, rfl⟩
      obtain ⟨C, hC⟩ : ∃ C, ofC U = C := ⟨_, rfl⟩
      obtain ⟨q, hq⟩ : ∃ q, C.length = q := ⟨_, rfl⟩
      refine (of_yes HSU.out (Below.refl _ _) hE hF hC hq).mono ?_
      rintro e w7 ⟨A7, c7, R, rfl, hmv, hR, -, h7, -⟩
      obtain ⟨-, -, -, -, -, -, -, hf0, hf1, -⟩ := made hE
      have hds := diag_sum hE
      rw [hF] at hf0 hf1 hds
      rw [hC] at hds
      have hfo : ok64 F := by unfold ok64; omega
      obtain ⟨D, hD⟩ : ∃ D, diagL F C = D := ⟨_, rfl⟩
      obtain ⟨e', he'⟩ : ∃ z, D.length = z := ⟨_, rfl⟩
      have hd20 : e' ≤ 20 := by rw [← he', ← hD]; exact diag_len
      have HDB := hide (fun v (hv : v ∈ D) => diag_bd (f := F) (c := C) (by rw [hD]; exact hv))
      have HSM := hide (show sumI D = p by rw [← hD, hds, HP.out])
      obtain ⟨w8, hw8⟩ : ∃ W, w7.alloc (.cells #[.int .i64 F, .slice A7 q c7] 36) = W := ⟨_, rfl⟩
      have h8 : Below w7.heap.size w7 w8 := by rw [← hw8]; exact (Below.refl _ _).alloc (Nat.le_refl _) _
      have HB8 := hide (show Blk w8 w7.heap.size 36 #[.int .i64 F, .slice A7 q c7] by rw [← hw8]; exact Blk.new _ _ _)
      have HDA := hide (diag_b (w0 := w8) (w := w8) (hmv.below h8) (Below.refl _ _) hfo (by rw [hR]; exact hD) he')
      have HG8 := hide ((HG.out.below h7 HG.out.lt).below h8 (HG.out.below h7 HG.out.lt).lt)
      have H8 := hide (chain (chain HB7.out h7) h8)
      have HW8 := hide hw8
      have HDL := hide he'
      clear hw8 h8 h7 hmv hR hE hF hC hq hD he' hfo hf0 hf1 hds HSU
      go_upto_region 15 with fail
      rw [show w7.alloc (.cells #[.int .i64 F, .slice A7 q c7] 36) = w8 from HW8.out]
      obtain ⟨X, hX⟩ : ∃ X, w7.heap.size = X := ⟨_, rfl⟩
      rw [hX] at HB8 ⊢
      clear hX HW8
      have x0 : w8.cell? ⟨X, 0, none⟩ = some (.int .i64 F) := HB8.out.cell 0
      have x1 : w8.cell? ⟨X, 1, none⟩ = some (.slice A7 q c7) := HB8.out.cell 1
      go_wp2_with fail
      refine HDA.out.mono ?_
      rintro e w9 ⟨A9, c9, rfl, hs9, h9, -⟩
      have HS9 := hide hs9
      have HG9 := hide (HG8.out.below h9 HG8.out.lt)
      have H9 := hide (chain H8.out h9)
      clear h9 hs9 x0 x1
      go_wp2_with fail
      go_loopw [16, 89] (fun s i wr => ∃ (t : Nat) (S' : Int), t ≤ e' ∧ i = .int .i64 t ∧ s = .int .i64 S' ∧ S' = sumI (D.take t) ∧ w9 = wr) (fun _ i _ => e' - (RowKit.intOf i).toNat)
      case atStart => exact ⟨0, 0, Nat.zero_le _, rfl, rfl, rfl, rfl⟩
      case round =>
        obtain ⟨t, S', ht, rfl, rfl, hS', rfl⟩ := hrel
        have hbd := sumI_bd (B := 100000000000000000) (l := D.take t) (fun v hv => HDB.out v (List.mem_of_mem_take hv))
        rw [List.length_take, HDL.out] at hbd
        have hS0 : 0 ≤ S' ∧ S' ≤ 2000000000000000000 := by rw [hS']; omega
        obtain ⟨hS1', hS2'⟩ := hS0
        clear hbd
        by_cases hlt2 : t < e'
        · obtain ⟨v, hv⟩ := get_of (l := D) (k := t) (by rw [HDL.out]; exact hlt2)
          obtain ⟨bb, off, rfl, hbl, cv⟩ := HS9.out.sl.i hv
          obtain ⟨v0, v1⟩ := HDB.out v (List.mem_of_getElem? hv)
          have hk0 : (0 : Int) ≤ (t : Int) := by omega
          have hk1 : (t : Int) < (e' : Int) := by omega
          have HT := hide (show sumI (D.take (t + 1)) = S' + v by rw [sumI_take hv, hS'])
          clear hv hS'
          go_wp2_with fail
          go_roundw
          case rel => exact ⟨t + 1, S' + v, by omega, by go_num, rfl, by rw [HT.out], by first | rfl | trivial⟩
          case measure => simp [RowKit.intOf]; omega
        · obtain rfl : t = e' := by omega
          rw [List.take_of_length_le (by rw [HDL.out]; exact Nat.le_refl _), HSM.out] at hS'
          subst hS'
          go_wp2_with fail
          refine (alive29_any _).mono ?_
          rintro e w14 ⟨rfl, h14⟩
          have HG14 := hide (HG9.out.below h14 HG9.out.lt)
          have H14 := hide (chain H9.out h14)
          have z2 := HG14.out.cell 2
          simp only [psC, List.getElem?_toArray, List.getElem?_cons_zero, List.getElem?_cons_succ] at z2
          have hb1 : (S' == S') = true := by simp
          clear h14
          go_wp2_with fail
          go_ret
          exact ⟨rfl, H14.out⟩
end Go.Proofs.YtmfohnchnbgbaaaGreat
