/- Proved: whatever the cover and the files, TopClaimsTriangle returns true, and its arguments read behind the call as they did ahead of it. Conditions: none beyond those that the given row states. -/
import Derived.Deep.RegionWith
import Derived.Laws.EntriesVeiled
import Derived.Test.YtmfohnchnbgbaaaGreatTtM02
import Derived.Test.YtmfohnchnbgbaaaGreatTtM04
import Derived.Test.YtmfohnchnbgbaaaGreatTtM13
import Derived.Test.YtmfohnchnbgbaaaGreatTtM26
import Derived.Test.YtmfohnchnbgbaaaGreatTtM29
/- TopClaimsTriangle: the walk. -/
namespace Go.Proofs.YtmfohnchnbgbaaaGreat
open Go.RowKit Go.Lib
set_option linter.unusedSimpArgs false

theorem sv_intsY {w : World} {g : Nat} {L : List Int} (h : Blk w g 3 (cellsI L)) (hm : L.length ≤ 1000) : SV w 1 (some ⟨g, 0, none⟩) L.length L.length (L.map encI) :=
  RowB.sv (r := ⟨some ⟨g, 0, none⟩, L, L.length⟩) ⟨g, rfl, rfl, hm, h⟩
theorem make_n (d : Nat) (h : d ≤ 1000) (W : World) : (Instr.makeSlice 39 (.int .i64 (d : Int)) (.int .i64 (d : Int))).run Tryz.prog W = .ok (.slice (some ⟨W.heap.size, 0, none⟩) d d) (W.alloc (.cells (cellsI (List.replicate d 0)) 3)) := by
  have := make_ints (d : Int) (List.replicate d 0) (by simp) (by simp; omega) (by simp) W
  rwa [List.length_replicate] at this
theorem qsum_take {Q : List (Nat × Int)} {k : Nat} {q : Nat × Int} (h : Q[k]? = some q) : ((Q.take (k + 1)).map Prod.snd).sum = ((Q.take k).map Prod.snd).sum + q.2 := by
  rw [take_of h, List.map_append, List.sum_append]; simp
theorem qfold_take {Q : List (Nat × Int)} {k : Nat} {q : Nat × Int} {Y : List Int} (h : Q[k]? = some q) : (Q.take (k + 1)).foldl addAt Y = addAt ((Q.take k).foldl addAt Y) q := by
  rw [take_of h, List.foldl_append]; rfl
theorem qsum_bd {Q : List (Nat × Int)} {B : Int} (hB : 0 ≤ B) (h : ∀ q ∈ Q, 0 ≤ q.2 ∧ q.2 ≤ B) (k : Nat) : 0 ≤ ((Q.take k).map Prod.snd).sum ∧ ((Q.take k).map Prod.snd).sum ≤ k * B := by
  induction k with
  | zero => simp
  | succ k ih =>
    have e : ((k + 1 : Nat) : Int) * B = k * B + B := by rw [Int.natCast_add, Int.add_mul]; simp
    by_cases hk : k < Q.length
    · obtain ⟨q, hq⟩ := get_of hk
      have := h q (List.mem_of_getElem? hq)
      rw [qsum_take hq, e]; omega
    · rw [List.take_of_length_le (by omega)] at ih ⊢
      rw [e]; omega
set_option maxRecDepth 100000 in
set_option maxHeartbeats 8000000 in
theorem topClaimsTriangle_w (w : World) (c : Cv) (A : Option Addr) (n cap : Nat) (L : List Fl) (ho : okCv c) (hv : FV w A n cap L) :
    Calls Tryz.prog 3 #[.agg #[.int .i64 c.p, .int .i64 c.lim, .int .i64 c.agg, .int .i64 c.ded, .int .i64 c.sh], .slice A n cap] w fun e w' => e = .returned (.bool true) ∧ Below w.heap.size w w' := by
  obtain ⟨w1, hw1⟩ : ∃ W, w.alloc (.cells (cvC c) 23) = W := ⟨_, rfl⟩
  have h01 : Below w.heap.size w w1 := by rw [← hw1]; exact (Below.refl _ _).alloc (Nat.le_refl _) _
  have HB := hide (show Blk w1 w.heap.size 23 (cvC c) by rw [← hw1]; exact Blk.new _ _ _)
  have HV := hide (hv.below h01)
  have H1 := hide h01
  have HW := hide hw1
  have HN := hide hv.len
  have HOK := hide ho
  clear hw1 h01 hv ho
  go_enter Tryz.func3, Tryz.ntmps3
  go_upto_region 1 with fail
  rw [show w.alloc (.cells #[.int .i64 c.p, .int .i64 c.lim, .int .i64 c.agg, .int .i64 c.ded, .int .i64 c.sh] 23) = w1 from HW.out]
  go_wp2_with fail
  refine (few19_any A n cap L w1 HV.out).mono ?_
  rintro e w2 ⟨⟨b, rfl, hq⟩, h2⟩
  have HB2 := hide (HB.out.below h2 HB.out.lt)
  have HV2 := hide (HV.out.below h2)
  have H2 := hide (chain H1.out h2)
  clear h2
  cases b
  · go_wp2_with fail
    refine (alive29_any w2).mono ?_
    rintro e w3 ⟨rfl, h3⟩
    have H3 := hide (chain H2.out h3)
    clear h3
    go_wp2_with fail
    go_ret
    exact ⟨rfl, H3.out⟩
  have hn30 : n ≤ 30 := hq rfl
  clear hq
  obtain ⟨x0, x1, x2, x3, x4⟩ := cv_cells HB2.out
  have HCR := hide (crows_any c A n cap L w2 HOK.out HV2.out (by omega))
  go_wp2_with fail
  refine HCR.out.mono ?_
  rintro e w3 ⟨h3, A3, cap3, rfl, hs3⟩
  have HB3 := hide (HB2.out.below h3 HB2.out.lt)
  have HV3 := hide (HV2.out.below h3)
  have H3 := hide (chain H2.out h3)
  have HS3 := hide hs3
  have HOF := hide (ofF_any c A n cap L w3 HOK.out HV3.out (by omega))
  clear h3 hs3 x0 x1 x2 x3 x4 HCR
  obtain ⟨x0, x1, x2, x3, x4⟩ := cv_cells HB3.out
  by_cases hE : checkQ c L = 0
  case neg =>
    obtain ⟨E, hEe⟩ : ∃ E, checkQ c L = E := ⟨_, rfl⟩
    have hcl : crL c L = [] := by rw [crL, if_neg hE]
    rw [hEe] at hE ⊢
    rw [hcl] at HS3 ⊢
    have hq1 : (E == 0) = false := by simpa using hE
    have hq2 : (E != 0) = true := by simpa using hE
    rw [hq1]
    have HE := hide hEe
    clear hEe hE hcl
    go_wp2_with fail
    refine HOF.out.mono ?_
    rintro e w5 ⟨h5, ⟨-, rfl⟩ | ⟨h0, -⟩⟩
    · have H5 := hide (chain H3.out h5)
      have HS5 := hide (HS3.out.below h5)
      rw [HE.out]
      clear h5 x0 x1 x2 x3 x4
      go_wp2_with fail
      refine (of_no (w0 := w5) (l := []) HS5.out (Below.refl _ _) ofE_nil (by omega)).mono ?_
      rintro e w7 ⟨rfl, h7, -⟩
      have H7 := hide ((chain H5.out h7).alloc (chain H5.out h7).size (.cells #[.int .i64 0, .slice none 0 0] 36))
      clear h7
      go_upto_region 6 with fail
      obtain ⟨w8, hw8⟩ : ∃ W, w7.alloc (.cells #[.int .i64 0, .slice none 0 0] 36) = W := ⟨_, rfl⟩
      rw [hw8] at H7 ⊢
      clear hw8
      go_wp2_with fail
      refine (alive29_any w8).mono ?_
      rintro e w9 ⟨rfl, h9⟩
      have H9 := hide (chain H7.out h9)
      clear h9
      go_wp2_with fail
      go_ret
      exact ⟨rfl, H9.out⟩
    · rw [HE.out] at h0
      subst h0
      simp at hq2
  obtain ⟨T, hT⟩ : ∃ T, crL c L = T := ⟨_, rfl⟩
  obtain ⟨m, hm⟩ : ∃ m, T.length = m := ⟨_, rfl⟩
  have HTQ := hide (fun h => tri_files (c := c) (L := L) hE h)
  have HIN := hide (paid_inv (check_zero hE).1)
  have HE := hide hE
  rw [hT] at HS3 HTQ ⊢
  rw [hm] at HS3 ⊢
  rw [show (checkQ c L == 0) = true by rw [hE]; rfl]
  clear hE hT
  go_wp2_with fail
  refine HOF.out.mono ?_
  rintro e w5 ⟨h5, ⟨hne, -⟩ | ⟨-, AP, capP, P, rfl, hsp, hofi, -⟩⟩
  · exact absurd HE.out hne
  have HV5 := hide (HV3.out.below h5)
  have H5 := hide (chain H3.out h5)
  have HS5 := hide (HS3.out.below h5)
  have HSP := hide hsp
  have HPD := hide hofi.pd
  have HPL := hide hofi.len
  rw [HN.out] at HSP ⊢
  clear h5 hsp hofi x0 x1 x2 x3 x4 HOF HB HB2 HB3
  go_wp2_with fail
  by_cases hE : ofE T = 0
  case neg =>
    obtain ⟨E, hEe⟩ : ∃ E, ofE T = E := ⟨_, rfl⟩
    have hE0 : (E != 0) = true := by rw [← hEe]; simp; exact hE
    refine (of_no HS5.out (Below.refl _ _) hEe (by rw [← hEe]; exact hE)).mono ?_
    rintro e w7 ⟨rfl, h7, -⟩
    have H7 := hide ((chain H5.out h7).alloc (chain H5.out h7).size (.cells #[.int .i64 0, .slice none 0 0] 36))
    clear h7 hE hEe
    go_upto_region 6 with fail
    obtain ⟨w8, hw8⟩ : ∃ W, w7.alloc (.cells #[.int .i64 0, .slice none 0 0] 36) = W := ⟨_, rfl⟩
    rw [hw8] at H7 ⊢
    clear hw8
    go_wp2_with fail
    refine (alive29_any w8).mono ?_
    rintro e w9 ⟨rfl, h9⟩
    have H9 := hide (chain H7.out h9)
    clear h9
    go_wp2_with fail
    go_ret
    exact ⟨rfl, H9.out⟩
  obtain ⟨F, hF⟩ : ∃ F, fromL T = F := ⟨_, rfl⟩
  obtain ⟨C, hC⟩ : ∃ C, ofC T = C := ⟨_, rfl⟩
  obtain ⟨q, hq⟩ : ∃ q, C.length = q := ⟨_, rfl⟩
  obtain ⟨d, hd⟩ : ∃ d, yearsN T = d := ⟨_, rfl⟩
  obtain ⟨O, hO⟩ : ∃ O, (paidS c L).out = O := ⟨_, rfl⟩
  refine (of_yes HS5.out (Below.refl _ _) hE hF hC hq).mono ?_
  rintro e w7 ⟨A7, c7, R, rfl, hmv, hR, -, h7, -⟩
  have htq := HTQ.out hE
  rw [hF, hC, hd, hO] at htq
  obtain ⟨D, hD⟩ : ∃ D, diagL F C = D := ⟨_, rfl⟩
  rw [hD] at htq
  have hdl := htq.len
  have hn0 := htq.n0
  have hn1 := htq.n1
  have hf0 := htq.f0
  have hf1 := htq.f1
  have hfo : ok64 F := by unfold ok64; omega
  obtain ⟨Q, hQ⟩ : ∃ Q, filesQ F L O = Q := ⟨_, rfl⟩
  have hqq := htq.q
  rw [hQ] at hqq
  have HQ := hide hqq
  have HYR := hide htq.yr
  have HQG := hide (fun (k : Nat) (x : Fl) (hx : L[k]? = some x) => (show Q[k]? = some ((yrV x.c.loss - F).toNat, byF k O) by rw [← hQ]; exact filesQ_get hx))
  have HTOT := hide (show (Q.map Prod.snd).sum = sumI D by rw [← hQ, ← hO, filesQ_sum HIN.out, htq.tot, ← hO, HIN.out.tot])
  have HQL := hide (show Q.length = n by rw [← hQ, ← HN.out]; simp [filesQ])
  have HBF := hide (show ∀ k : Nat, 0 ≤ byF k O ∧ byF k O ≤ 1000000000000000 from fun k => by
    have h2 := byF_le (l := (paidS c L).out) (fun r hr => (HIN.out.ro r hr).2) k
    have h3 := HIN.out.tot
    have h4 := HIN.out.al
    rw [hO] at h2 h3
    omega)
  have HQB := hide (show ∀ z ∈ Q, 0 ≤ z.2 ∧ z.2 ≤ 1000000000000000 from fun z hz => by
    rw [← hQ] at hz
    obtain ⟨k, _, rfl⟩ := List.mem_map.1 hz
    exact HBF.out k)
  rw [hO] at HPD
  have HDB := hide (fun v (hv : v ∈ D) => diag_bd (f := F) (c := C) (by rw [hD]; exact hv))
  have HSP7 := hide (HSP.out.below h7)
  have HV7 := hide (HV5.out.below h7)
  have H7 := hide (chain H5.out h7)
  obtain ⟨w8, hw8⟩ : ∃ W, w7.alloc (.cells #[.int .i64 F, .slice A7 q c7] 36) = W := ⟨_, rfl⟩
  have h8 : Below w7.heap.size w7 w8 := by rw [← hw8]; exact (Below.refl _ _).alloc (Nat.le_refl _) _
  have HB8 := hide (show Blk w8 w7.heap.size 36 #[.int .i64 F, .slice A7 q c7] by rw [← hw8]; exact Blk.new _ _ _)
  have HDA := hide (diag_b (w0 := w8) (w := w8) (hmv.below h8) (Below.refl _ _) hfo (by rw [hR]; exact hD) hdl)
  have HSP8 := hide (HSP7.out.below h8)
  have HV8 := hide (HV7.out.below h8)
  have H8 := hide (chain H7.out h8)
  have HW8 := hide hw8
  have HDL := hide hdl
  clear hw8 h8 h7 hmv hR hE hF hC hq hd hO hD hdl hfo hQ hqq htq HS3 HS5
  go_upto_region 6 with fail
  rw [show w7.alloc (.cells #[.int .i64 F, .slice A7 q c7] 36) = w8 from HW8.out]
  obtain ⟨X, hX⟩ : ∃ X, w7.heap.size = X := ⟨_, rfl⟩
  rw [hX] at HB8 ⊢
  clear hX HW8
  have x0 : w8.cell? ⟨X, 0, none⟩ = some (.int .i64 F) := HB8.out.cell 0
  have x1 : w8.cell? ⟨X, 1, none⟩ = some (.slice A7 q c7) := HB8.out.cell 1
  go_wp2_with fail
  refine HDA.out.mono ?_
  rintro e w9 ⟨A9, c9, rfl, hs9, h9, -⟩
  have HB9 := hide (HB8.out.below h9 HB8.out.lt)
  have HS9 := hide hs9
  have H9 := hide (chain H8.out h9)
  have HSP9 := hide (HSP8.out.below h9)
  have HV9 := hide (HV8.out.below h9)
  clear h9 hs9 x0 x1
  have hmk := make_n d (by omega)
  obtain ⟨YB, hYB⟩ : ∃ Y, w9.heap.size = Y := ⟨_, rfl⟩
  obtain ⟨w10, hw10⟩ : ∃ W, w9.alloc (.cells (cellsI (List.replicate d 0)) 3) = W := ⟨_, rfl⟩
  have h10 : Below w9.heap.size w9 w10 := by rw [← hw10]; exact (Below.refl _ _).alloc (Nat.le_refl _) _
  have HY10 := hide (show Blk w10 YB 3 (cellsI (List.replicate d 0)) by rw [← hw10, ← hYB]; exact Blk.new _ _ _)
  have HW10 := hide hw10
  have HYB := hide hYB
  have H910 := hide h10
  have hXY : X < YB := by rw [← hYB]; exact HB9.out.lt
  clear hw10 h10
  go_upto_region 10 with fail
  rw [show w9.alloc (.cells (cellsI (List.replicate d 0)) 3) = w10 from HW10.out]
  clear hmk hYB
  go_wp2_with fail
  go_loopw [13, 66] (fun s i wr => ∃ (k : Nat) (S : Int), k ≤ n ∧ i = .int .i64 k ∧ s = .int .i64 S ∧ ((Q.take k).map Prod.snd).sum = S ∧ Blk wr YB 3 (cellsI ((Q.take k).foldl addAt (List.replicate d 0))) ∧ Below w9.heap.size w9 wr) (fun _ i _ => n - (RowKit.intOf i).toNat)
  case atStart => exact ⟨0, 0, Nat.zero_le _, rfl, rfl, rfl, HY10.out, H910.out⟩
  case round =>
    rename World => wo
    obtain ⟨k, S, hk, rfl, rfl, hS, hY, hb⟩ := hrel
    have hSb := qsum_bd (by omega) HQB.out k
    rw [hS] at hSb
    have hkb : (k : Int) * 1000000000000000 ≤ 30000000000000000 := by omega
    have hS0 : 0 ≤ S ∧ S ≤ 30000000000000000 := by omega
    have HY := hide hY
    have HBE := hide hb
    have hYs : YB < wo.heap.size := hY.lt
    by_cases hlt : k < n
    · obtain ⟨x, hx⟩ := get_of (l := L) (k := k) (by rw [HN.out]; exact hlt)
      obtain ⟨y, hy⟩ := get_of (l := P) (k := k) (by rw [HPL.out, HN.out]; exact hlt)
      have hyp := HPD.out k y hy
      have hqk := HQG.out k x hx
      have hbf := HBF.out k
      have hyr := HYR.out k x hx
      rw [← hyp] at hqk hbf hyr
      obtain ⟨yb, yo, hAP, -, e0, e1, e2, e3, e4, e5⟩ := (HSP9.out.below hb).sl.ps hy
      obtain ⟨bb, off, hA, hbl, c0, c1, c2, c3, c4, c5, c6⟩ := (HV9.out.below hb).sv.sl.fl hx
      have HQS := hide (qsum_take hqk)
      have HQF := hide (qfold_take (Y := List.replicate d 0) hqk)
      have hk0 : (0 : Int) ≤ (k : Int) := by omega
      have hk1 : (k : Int) < (n : Int) := by omega
      obtain ⟨lo, hlo⟩ : ∃ z, x.c.loss = z := ⟨_, rfl⟩
      rw [hlo] at c3 hyr HQS HQF
      obtain ⟨wx, hwx⟩ : ∃ W, wo.alloc (.cells #[.int .i64 y.g, .int .i64 y.s, .int .i64 y.p, .int .i64 y.b, .int .i64 y.r, .bool y.o] 42) = W := ⟨_, rfl⟩
      have hbx : Below wo.heap.size wo wx := by rw [← hwx]; exact (Below.refl _ _).alloc (Nat.le_refl _) _
      have HXB := hide (show Blk wx wo.heap.size 42 #[.int .i64 y.g, .int .i64 y.s, .int .i64 y.p, .int .i64 y.b, .int .i64 y.r, .bool y.o] by rw [← hwx]; exact Blk.new _ _ _)
      have HYX := hide (HY.out.below hbx hYs)
      have HBX := hide (chain hb hbx)
      have HWX := hide hwx
      have c3x := kept hbx c3
      have HS := hide hS
      subst hA hAP
      clear hx hy hyp hqk hlo hwx hbx hS hY hb hSb c0 c1 c2 c3 c4 c5 c6 hbl
      go_upto_region 14 with fail
      rw [HWX.out]
      obtain ⟨Z, hZ⟩ : ∃ Z, wo.heap.size = Z := ⟨_, rfl⟩
      rw [hZ] at HXB hYs ⊢
      clear hZ HWX e0 e1 e2 e3 e4 e5
      obtain ⟨p, hp⟩ : ∃ p, y.p = p := ⟨_, rfl⟩
      rw [hp] at HXB HQS HQF hbf hyr
      have p2 : wx.cell? ⟨Z, 2, none⟩ = some (.int .i64 p) := HXB.out.cell 2
      clear hp
      go_wp2_with fail
      refine (year_v lo wx).mono ?_
      rintro e w12 ⟨rfl, rfl⟩
      by_cases hp0 : p = 0
      · have hz : (p == 0) = true := by simpa using hp0
        have HP0 := hide hp0
        clear hp0 hyr c3x
        go_wp2_with fail
        go_roundw
        case rel => exact ⟨k + 1, S, by omega, by go_num, rfl, by rw [HQS.out, HS.out, HP0.out]; simp, by rw [HQF.out, HP0.out, addAt_zero]; exact HYX.out, HBX.out⟩
        case measure => simp [RowKit.intOf]; omega
      · have hz : (p == 0) = false := by simpa using hp0
        obtain ⟨l1, l2, l3, l4⟩ := hyr hp0
        have hye : yrE lo = 0 := by rw [yrE, if_pos ⟨l1, l2⟩]
        rw [hye]
        obtain ⟨j, hj⟩ : ∃ j : Nat, yrV lo = F + (j : Int) := ⟨(yrV lo - F).toNat, by omega⟩
        rw [hj] at l3 l4 HQF ⊢
        have hjd : j < d := by omega
        have hjj : (F + (j : Int) - F).toNat = j := by omega
        rw [hjj] at HQF
        obtain ⟨Y, hYY⟩ : ∃ Y, (Q.take k).foldl addAt (List.replicate d 0) = Y := ⟨_, rfl⟩
        have hYl : Y.length = d := by rw [← hYY, fold_len, List.length_replicate]
        have hYbd := fold_bd (B := 1000000000000000) (by omega) (Q.take k) (Y := List.replicate d 0) (t := 0) (fun z hz => HQB.out z (List.mem_of_mem_take hz)) (fun v hv => by have := (List.mem_replicate.1 hv).2; omega) (by omega)
        rw [hYY] at HYX HQF hYbd
        obtain ⟨v, hv⟩ := get_of (l := Y) (k := j) (by rw [hYl]; exact hjd)
        have hvb := hYbd v (List.mem_of_getElem? hv)
        have htk : ((Q.take k).length : Int) ≤ 30 := by rw [List.length_take]; omega
        have hvb2 : 0 ≤ v ∧ v ≤ 30000000000000000 := by omega
        have yv : wx.cell? ⟨YB, j, none⟩ = some (.int .i64 v) := by rw [HYX.out.cell]; exact cI_at hv
        have fz := HYX.out.frozen j
        have hb9 := HB9.out.below HBX.out HB9.out.lt
        have f0 : wx.cell? ⟨X, 0, none⟩ = some (.int .i64 F) := hb9.cell 0
        have hg1 : ¬ F + (j : Int) < F := by omega
        have hg3 : decide (F + (j : Int) < F) = false := decide_eq_false hg1
        have hg4 : decide (d ≤ j) = false := decide_eq_false (by omega)
        have hg2 : ¬ F + (j : Int) ≥ F + (d : Int) := by omega
        have hj0 : (0 : Int) ≤ (j : Int) := by omega
        have hj1 : (j : Int) < (d : Int) := by omega
        have hwF : IntKind.i64.wrap (F + (d : Int)) = F + (d : Int) := IntWalk.i64_in _ (by omega)
        have hws : IntKind.i64.wrap (F + (j : Int) - F) = (j : Int) := by rw [show F + (j : Int) - F = (j : Int) by omega]; exact IntWalk.i64_in _ (by omega)
        have hwv : IntKind.i64.wrap (v + p) = v + p := IntWalk.i64_in _ (by omega)
        have HADD := hide (show addAt Y (j, p) = Y.set j (v + p) by unfold addAt; rw [List.getD_eq_getElem?_getD, hv]; rfl)
        clear hj hYY hv hYbd hvb hp0 hye hb9 c3x l1 l2
        go_upto_region 18 with fail
        go_cut [101] from 101 to 111 (fun _ W => W = (wx.setCell ⟨YB, j, none⟩ (.int .i64 (v + p))).drew)
        case first =>
          go_region_law (fail)
          all_goals
            go_wp2_with fail
            go_meet
            rfl
        case rest =>
        subst hcut
        have HY9 := hide (show Blk ((wx.setCell ⟨YB, j, none⟩ (.int .i64 (v + p))).drew) YB 3 (cellsI (Y.set j (v + p))) by have := (HYX.out.set_ j (.int .i64 (v + p))).drew; rwa [cI_set] at this)
        have HBX9 := hide ((HBX.out.setCell (p := ⟨YB, j, none⟩) (by rw [← HYB.out]; exact Nat.le_refl _) (.int .i64 (v + p))).drew)
        have HXB9 := hide ((HXB.out.far (p := ⟨YB, j, none⟩) (by simp; omega) (.int .i64 (v + p))).drew)
        obtain ⟨w13, hw13⟩ : ∃ W, (wx.setCell ⟨YB, j, none⟩ (.int .i64 (v + p))).drew = W := ⟨_, rfl⟩
        rw [hw13] at HY9 HBX9 HXB9 ⊢
        have p2 : w13.cell? ⟨Z, 2, none⟩ = some (.int .i64 p) := HXB9.out.cell 2
        have hwS : wrap64 (S + p) = S + p := IntWalk.wrap64_in _ (by omega)
        clear hw13 yv fz f0 hwF hws hwv
        go_wp2_with fail
        go_roundw
        case rel => exact ⟨k + 1, S + p, by omega, by go_num, rfl, by rw [HQS.out, HS.out], by rw [HQF.out, HADD.out]; exact HY9.out, HBX9.out⟩
        case measure => simp [RowKit.intOf]; omega
    · obtain rfl : k = n := by omega
      have htk : Q.take k = Q := List.take_of_length_le (by rw [HQL.out]; exact Nat.le_refl _)
      rw [htk, HTOT.out] at hS
      rw [htk, ← HQ.out] at HY
      have HS := hide hS
      clear hS hY hb htk hSb hkb hS0
      go_wp2_with fail
      go_loopw [14, 119] (fun s i wr => ∃ (t : Nat) (S' : Int), t ≤ d ∧ i = .int .i64 t ∧ s = .int .i64 S' ∧ S' = sumI (D.take t) ∧ wo = wr) (fun _ i _ => d - (RowKit.intOf i).toNat)
      case atStart => exact ⟨0, 0, Nat.zero_le _, rfl, rfl, rfl, rfl⟩
      case round =>
        obtain ⟨t, S', ht, rfl, rfl, hS', rfl⟩ := hrel
        have hbd := sumI_bd (B := 100000000000000000) (l := D.take t) (fun v hv => HDB.out v (List.mem_of_mem_take hv))
        rw [List.length_take, HDL.out] at hbd
        have hS0 : 0 ≤ S' ∧ S' ≤ 2000000000000000000 := by rw [hS']; omega
        obtain ⟨hS1', hS2'⟩ := hS0
        clear hbd
        by_cases hlt2 : t < d
        · obtain ⟨v, hv⟩ := get_of (l := D) (k := t) (by rw [HDL.out]; exact hlt2)
          obtain ⟨bb, off, rfl, hbl, cv⟩ := (HS9.out.below HBE.out).sl.i hv
          obtain ⟨v0, v1⟩ := HDB.out v (List.mem_of_getElem? hv)
          have hk0 : (0 : Int) ≤ (t : Int) := by omega
          have hk1 : (t : Int) < (d : Int) := by omega
          have HT := hide (show sumI (D.take (t + 1)) = S' + v by rw [sumI_take hv, hS'])
          clear hv hS'
          go_wp2_with fail
          go_roundw
          case rel => exact ⟨t + 1, S' + v, by omega, by go_num, rfl, by rw [HT.out], by first | rfl | trivial⟩
          case measure => simp [RowKit.intOf]; omega
        · obtain rfl : t = d := by omega
          rw [List.take_of_length_le (by rw [HDL.out]; exact Nat.le_refl _)] at hS'
          have hSS : S = S' := by rw [← HS.out, hS']
          have HDS := hide (HS9.out.below HBE.out)
          clear hS'
          go_wp2_with fail
          refine (alive29_any _).mono ?_
          rintro e w14 ⟨rfl, h14⟩
          have HD14 := hide (HDS.out.below h14)
          have HY14 := hide (show SV w14 1 (some ⟨YB, 0, none⟩) t t (D.map encI) by
            have := sv_intsY (HY.out.below h14 hYs) (by rw [HDL.out]; omega)
            rwa [HDL.out] at this)
          have H14 := hide (chain H9.out (chain HBE.out h14))
          clear h14
          go_wp2_with fail
          refine (sameI_b (w0 := w14) HD14.out (Below.refl _ _) HY14.out (Below.refl _ _) (Below.refl _ _) (by omega)).mono ?_
          rintro e w15 ⟨rfl, h15, -⟩
          have H15 := hide (chain H14.out h15)
          have hb1 : (S' == S') = true := by simp
          subst hSS
          clear h15
          go_wp2_with fail
          go_ret
          exact ⟨rfl, H15.out⟩
end Go.Proofs.YtmfohnchnbgbaaaGreat

/- Covers and files as they are given. -/
namespace Go.Proofs.YtmfohnchnbgbaaaGreat
open Go.ChangeShapes Go.WideShapes Go.ChangeAt Go.RowKit
set_option linter.unusedVariables false
set_option maxRecDepth 1000000

theorem cells_covZ : Tryz.prog.cellsOf 23 = 5 := by kernel_rfl
theorem leaves_covZ : leaves Tryz.prog 2 23 = some [.int .i64, .int .i64, .int .i64, .int .i64, .int .i64] := by kernel_rfl
section
variable {H : Type} {enc : TypeId × Value → H} {W : World} {r : Reach} {b0 : Nat} {v : Value} {d : DataW H} {p : List MemPlace}
theorem open_coverZ (hv : Value.okWide Tryz.prog W r b0 23 v) (h : DataW.Trod enc Tryz.prog W 0 (fun _ => true) true 23 v d p) :
    ∃ c : Cv, v = .agg #[.int .i64 c.p, .int .i64 c.lim, .int .i64 c.agg, .int .i64 c.ded, .int .i64 c.sh] ∧ okCv c := by
  obtain ⟨l, rfl, hl⟩ := top_agg enc Tryz.prog W 2 Tryz.underlying23 leaves_covZ cells_covZ hv h
  obtain ⟨n1, l1, rfl, w1, h1⟩ := leaf_int enc _ _ hl
  obtain ⟨n2, l2, rfl, w2, h2⟩ := leaf_int enc _ _ h1
  obtain ⟨n3, l3, rfl, w3, h3⟩ := leaf_int enc _ _ h2
  obtain ⟨n4, l4, rfl, w4, h4⟩ := leaf_int enc _ _ h3
  obtain ⟨n5, l5, rfl, w5, h5⟩ := leaf_int enc _ _ h4
  obtain rfl := allLeaf_nil enc _ _ h5
  exact ⟨⟨n1, n2, n3, n4, n5⟩, rfl, wf64 w1, wf64 w2, wf64 w3, wf64 w4, wf64 w5⟩
theorem open_files (hv : Value.okWide Tryz.prog W r b0 24 v) (h : DataW.Trod enc Tryz.prog W 0 (fun _ => true) true 24 v d p) :
    ∃ (A : Option Addr) (L : List Fl) (cap : Nat), v = .slice A L.length cap ∧ FV W A L.length cap L := by
  obtain ⟨A, L, cap, rfl, g1, g2, g3, g4, g5⟩ := rows_of enc Tryz.prog W (α := Fl) 3 7 encFl (fun x => SV W 3 x.A x.l.length x.cap (x.l.map encAc)) leaves_file cells_file rfl (by omega) (fun cs hl => by
    obtain ⟨n1, l1, rfl, _, h1⟩ := leaf_int enc _ _ hl
    obtain ⟨n2, l2, rfl, _, h2⟩ := leaf_int enc _ _ h1
    obtain ⟨n3, l3, rfl, _, h3⟩ := leaf_int enc _ _ h2
    obtain ⟨n4, l4, rfl, _, h4⟩ := leaf_int enc _ _ h3
    obtain ⟨n5, l5, rfl, _, h5⟩ := leaf_int enc _ _ h4
    obtain ⟨n6, l6, rfl, _, h6⟩ := leaf_int enc _ _ h5
    obtain ⟨v7, l7, rfl, h7, h8⟩ := allLeaf_cons enc _ _ h6
    obtain rfl := allLeaf_nil enc _ _ h8
    obtain ⟨A, l, cap, rfl, hs⟩ := rows_acts h7
    exact ⟨⟨⟨n1, n2, n3, n4, n5, n6⟩, A, l, cap⟩, rfl, hs⟩) (top_slice enc _ _ Tryz.underlying24 hv h)
  exact ⟨A, L, cap, rfl, ⟨⟨g3, List.length_map _, g1, g2, g5⟩, g4⟩⟩
end
end Go.Proofs.YtmfohnchnbgbaaaGreat

/- TopClaimsTriangle: a triangle's last diagonal is all that was paid, and each year's end what was paid for losses of that year. The statement. -/
namespace Go.Proofs.YtmfohnchnbgbaaaGreat
open Go.ChangeShapes Go.WideShapes Go.ChangeAt Go.RowKit
set_option linter.unusedVariables false
set_option maxRecDepth 100000

theorem topClaimsTriangle_walk (w : World) (c : Cv) (oc : okCv c) (A : Option Addr) (L : List Fl) (cap : Nat) (fv : FV w A L.length cap L) :
    Calls Tryz.prog 3 #[.agg #[.int .i64 c.p, .int .i64 c.lim, .int .i64 c.agg, .int .i64 c.ded, .int .i64 c.sh], .slice A L.length cap] w fun e w' => e = .returned (.bool true) ∧ Below w.heap.size w w' :=
  topClaimsTriangle_w w c A L.length cap L oc fv

theorem topClaimsTriangle_lifted (os : Os) (started : os.Started) (H : Type) (enc : TypeId × Value → H) :
    ReturnsInHanded {} Tryz.checked os 3 .any (Rows.topClaimsTriangleSpec.pre6 enc Tryz.prog Tryz.f3 Rows.topClaimsTriangleRow.domain false) (Rows.topClaimsTriangleSpec.post enc Tryz.prog Tryz.f3 false true false false) := by
  refine returnsInHanded_of_change (C := Tryz.checked) own started (by kernel_rfl) Tryz.func3
    (ChangeSpec.witness6 (enc := enc) (C := Tryz.checked) false ⟨#[], #[.agg #[.int .i64 0, .int .i64 0, .int .i64 0, .int .i64 0, .int .i64 0], .slice none 0 0], []⟩ 8 (by kernel_rfl) (by kernel_rfl) (by kernel_rfl) (by kernel_rfl)) ?_
  intro W base args ds gs before hval0 hW hcnd _
  have hval : ∀ (j : Nat) t v, Tryz.f3.params[j]? = some t → args[j]? = some v → Value.okWide Tryz.prog W .any base t v := hval0
  have hW' := hW
  obtain ⟨p, q, hA0, hV, rfl, hfz, hnd⟩ := hW
  have hA : DataW.TrodAll enc Tryz.prog W 0 (fun _ => true) true Tryz.f3.params.toList args.toList ds p := hA0
  rw [Tryz.params3] at hA hval
  obtain ⟨v0, vs0, d0, ds0, p0, q0, hargs, rfl, rfl, h0, r0⟩ := trodAll_cons hA
  obtain ⟨v1, vs1, d1, ds1, p1, q1, rfl, rfl, rfl, h1, r1⟩ := trodAll_cons r0
  obtain ⟨rfl, rfl, rfl⟩ := trodAll_nil r1
  obtain rfl : args = #[v0, v1] := by cases args; simp_all
  obtain ⟨rfl, rfl⟩ := trodVars_none hV
  obtain ⟨c0, rfl, oc0⟩ := open_coverZ (hval 0 23 v0 rfl rfl) h0
  obtain ⟨A1, L1, cap1, rfl, fv1⟩ := open_files (hval 1 24 v1 rfl rfl) h1
  refine (topClaimsTriangle_walk W c0 oc0 A1 L1 cap1 fv1).mono fun e W' ⟨he, hb⟩ => ?_
  subst he
  exact ⟨_, rfl, law_post laidOut (by kernel_rfl) rfl Tryz.underlying4 rfl rfl hW' hb⟩

/-- THE STATEMENT. -/
theorem topClaimsTriangle_holds : Rows.TopClaimsTriangleSaid :=
  OpenClaim.holds_of_wide 3 Tryz.f3 rfl rfl rfl rfl rfl rfl rfl ⟨rfl, rfl, rfl, rfl, rfl⟩ rfl rfl rfl rfl rfl (by kernel_rfl) Tryz.func3 (by kernel_rfl)
    (of_decide_eq_true (by kernel_rfl)) (by unfold Func.isWrapper; first | (rw [if_pos (by decide +kernel)]; kernel_rfl) | (rw [if_neg (by decide +kernel)]; exact ⟨rfl, rfl⟩))
    (fun os started H enc _ => topClaimsTriangle_lifted os started H enc)

end Go.Proofs.YtmfohnchnbgbaaaGreat
