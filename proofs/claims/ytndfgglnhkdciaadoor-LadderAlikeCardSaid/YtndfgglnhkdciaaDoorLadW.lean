/- The chapter's example; and whether a triangle is of a size that is looked at. -/
import Derived.Test.YtndfgglnhkdciaaDoorLadV
import Derived.Test.YtndfgglnhkdciaaDoorLadC
namespace Go.Proofs.YtndfgglnhkdciaaDoor
open Go.RowKit

set_option maxRecDepth 100000 in
set_option maxHeartbeats 2000000 in
theorem few22_any (f : Int) (A : Option Addr) (cap : Nat) (M : List Rw) (w : World) (hs : MV w A M.length cap M) :
    Calls Tryd.prog 10 #[.agg #[.int .i64 f, .slice A M.length cap]] w fun e w' => (∃ b, e = .returned (.bool b) ∧ (b = true → M.length ≤ 30)) ∧ Below w.heap.size w w' := by
  have hmx := hs.sv.le
  have hmy := hs.sv.most
  unfold maxLen at hmy
  have HS := hide hs
  clear hs
  go_enter Tryd.func10, Tryd.ntmps10
  by_cases hn : M.length ≤ 30
  case neg =>
    have h30 : (30 : Int) < (M.length : Int) := by omega
    go_wp2_with fail
    go_ret
    exact ⟨⟨false, rfl, fun h => by cases h⟩, (Below.refl _ _).alloc (Nat.le_refl _) _⟩
  have h30 : ¬ (30 : Int) < (M.length : Int) := by omega
  go_wp2_with fail
  obtain ⟨w1, hw1⟩ : ∃ W, w.alloc (.cells #[.int .i64 f, .slice A M.length cap] 24) = W := ⟨_, rfl⟩
  have h1 : Below w.heap.size w w1 := by rw [← hw1]; exact (Below.refl _ _).alloc (Nat.le_refl _) _
  have hB : Blk w1 w.heap.size 24 #[.int .i64 f, .slice A M.length cap] := by rw [← hw1]; exact Blk.new _ _ _
  rw [hw1]
  have H1 := hide h1
  have HB := hide hB
  clear hw1 h1 hB
  go_loopw [3] (fun q wr => ∃ j : Nat, j ≤ M.length ∧ q = .int .i64 j ∧ Below w1.heap.size w1 wr) (fun q _ => M.length - (RowKit.intOf q).toNat)
  case atStart => exact ⟨0, Nat.zero_le _, rfl, Below.refl _ _⟩
  case round =>
    obtain ⟨j, hj, rfl, hb⟩ := hrel
    have hB2 := HB.out.below hb HB.out.lt
    have x0 := hB2.cell 0
    have x1 := hB2.cell 1
    simp only [List.getElem?_toArray, List.getElem?_cons_zero, List.getElem?_cons_succ] at x0 x1
    have H2 := hide (chain H1.out hb)
    by_cases hlt : j < M.length
    · obtain ⟨r, hrr⟩ := get_of hlt
      obtain ⟨bb, off, rfl, hbl, c0⟩ := (HS.out.sv.sl.below H2.out).rw hrr
      have hk0 : (0 : Int) ≤ (j : Int) := by omega
      have hk1 : (j : Int) < (M.length : Int) := by omega
      have HBB := hide hb
      have hrow := (HS.out.rows r (List.mem_of_getElem? hrr))
      have hro := hrow.le
      have hro2 := hrow.most
      unfold maxLen at hro2
      clear hrow hrr hB2 hb
      by_cases hl : r.l.length ≤ 30
      · have hl30 : ¬ (30 : Int) < (r.l.length : Int) := by omega
        go_wp2_with fail
        go_roundw
        case rel => exact ⟨j + 1, by omega, by go_num, HBB.out⟩
        case measure => simp [RowKit.intOf]; omega
      · have hl30 : (30 : Int) < (r.l.length : Int) := by omega
        go_wp2_with fail
        go_ret
        exact ⟨⟨false, rfl, fun h => by cases h⟩, H2.out⟩
    · obtain rfl : j = M.length := by omega
      go_wp2_with fail
      go_ret
      exact ⟨⟨true, rfl, fun _ => hn⟩, H2.out⟩

theorem sv_lit {w : World} {g : Nat} {l : List Int} (hB : Blk w g 3 (l.map fun n => Value.int .i64 n).toArray) (hm : l.length ≤ maxLen) : SV w 1 (some ⟨g, 0, none⟩) l.length l.length (l.map encI) :=
  ⟨fun i row hr => by
    rw [List.getElem?_map] at hr
    obtain ⟨x, hx, rfl⟩ := Option.map_eq_some_iff.1 hr
    refine ⟨g, 0, rfl, hB.lt, fun j u hu => ?_⟩
    match j, hu with
    | 0, hu =>
      simp [encI] at hu
      subst hu
      rw [Nat.zero_add, Nat.mul_one, Nat.add_zero, hB.cell i, List.getElem?_toArray, List.getElem?_map, hx]
      rfl, by rw [List.length_map], Nat.le_refl _, hm, fun h => by cases h⟩
theorem same22_b {w0 w : World} {A A' : Option Addr} {n cap cap' : Nat} {l : List Int} (hs : SV w 1 A n cap (l.map encI)) (hs' : SV w 1 A' n cap' (l.map encI)) (hm : n ≤ 9223372036854775806) (hb : Below w0.heap.size w0 w) :
    Calls Tryd.prog 17 #[.slice A n cap, .slice A' n cap'] w fun e w' => e = .returned (.bool true) ∧ Below w0.heap.size w0 w' ∧ Below w.heap.size w w' :=
  (sameI_any A A' n cap cap' l w hs hs' hm).mono fun _ _ ⟨h, h2⟩ => ⟨h, chain hb h2, h2⟩

def exC : List (List Int) := [[100, 150], [200]]
theorem ex_right : rightC 2000 exC = true := by decide +kernel
theorem ex_fac : facL exC = [(150, 100)] := by decide +kernel
theorem ex_ult : ultC 2000 exC = ([150, 300], 0) := by decide +kernel
theorem ex_left : lefts (castL [150, 300]) (diagL 2000 exC) = [0, 100] := by decide +kernel
theorem ex_facB {w0 w : World} {A : Option Addr} {M : List Rw} (hs : MV w A 2 2 M) (hM : allM M = exC) (hb : Below w0.heap.size w0 w) :
    Calls Tryd.prog 11 #[.agg #[.int .i64 2000, .slice A 2 2]] w fun e w' => ∃ g c', e = .returned (.tuple #[.slice (some ⟨g, 0, none⟩) 1 c', .int .i64 0]) ∧ 1 ≤ c' ∧ w'.cell? ⟨g, 0, none⟩ = some (.int .i64 150) ∧ w'.cell? ⟨g, 1, none⟩ = some (.int .i64 100) ∧ g < w'.heap.size ∧ Below w0.heap.size w0 w' ∧ Below w.heap.size w w' := by
  have hl : M.length = 2 := hs.len
  have h := factors_any 2000 A 2 M w (by rw [hl]; exact hs) (by unfold ok64; omega)
  rw [hM, ex_right, ex_fac, hl] at h
  refine h.mono ?_
  rintro e w' ⟨-, hy, h1, -⟩
  obtain ⟨A', c', rfl, ho⟩ := hy rfl
  have hc := ho.cap_le
  rcases ho.addr with ⟨_, h0, _⟩ | ⟨g, rfl, _, hg⟩
  · cases h0
  obtain ⟨b, off, hA, -, h2⟩ := ho.sl 0 (encRt (150, 100)) rfl
  obtain ⟨rfl, rfl⟩ : g = b ∧ 0 = off := by simpa using hA
  exact ⟨g, c', rfl, hc.1, h2 0 (.int .i64 150) rfl, h2 1 (.int .i64 100) rfl, hg, chain hb h1, h1⟩
theorem ex_ultB {w0 w : World} {A : Option Addr} {M : List Rw} (hs : MV w A 2 2 M) (hM : allM M = exC) (hg : Hdl w) (hb : Below w0.heap.size w0 w) :
    Calls Tryd.prog 13 #[.agg #[.int .i64 2000, .slice A 2 2]] w fun e w' => ∃ A' c', e = .returned (.tuple #[.slice A' 2 c', .int .i64 0]) ∧ SV w' 1 A' 2 c' ([150, 300].map encI) ∧ Below w0.heap.size w0 w' ∧ Below w.heap.size w w' := by
  have hl : M.length = 2 := hs.len
  have h := ult_any 2000 A 2 M w (by rw [hl]; exact hs) (by unfold ok64; omega) hg
  rw [hM, ex_ult, hl] at h
  refine h.mono ?_
  rintro e w' ⟨A', c', rfl, ho, h1, -⟩
  exact ⟨A', c', rfl, ho.sv, chain hb h1, h1⟩
theorem ex_leftB {w0 w : World} {A : Option Addr} {M : List Rw} (hs : MV w A 2 2 M) (hM : allM M = exC) (hg : Hdl w) (hb : Below w0.heap.size w0 w) :
    Calls Tryd.prog 15 #[.agg #[.int .i64 2000, .slice A 2 2]] w fun e w' => ∃ A' c', e = .returned (.tuple #[.slice A' 2 c', .int .i64 0]) ∧ SV w' 1 A' 2 c' ([0, 100].map encI) ∧ Below w0.heap.size w0 w' ∧ Below w.heap.size w w' := by
  have hl : M.length = 2 := hs.len
  have h := left_any 2000 A 2 M w (by rw [hl]; exact hs) (by unfold ok64; omega) hg
  rw [hM, ex_ult] at h
  simp only at h
  rw [ex_left, hl] at h
  refine h.mono ?_
  rintro e w' ⟨A', c', rfl, ho, h1, -⟩
  exact ⟨A', c', rfl, ho.sv, chain hb h1, h1⟩

set_option maxRecDepth 100000 in
set_option maxHeartbeats 4000000 in
theorem awake22_any (w : World) (hg : Hdl w) : Calls Tryd.prog 9 #[] w fun e w' => e = .returned (.bool true) ∧ Below w.heap.size w w' := by
  have HG := hide hg
  clear hg
  go_enter Tryd.func9, Tryd.ntmps9
  go_wp2_with fail
  obtain ⟨wa, hwa⟩ : ∃ W, w.alloc (.cells #[.int .i64 100, .int .i64 150] 3) = W := ⟨_, rfl⟩
  have sa : wa.heap.size = w.heap.size + 1 := by rw [← hwa]; simp
  have ba : Below w.heap.size w wa := by rw [← hwa]; exact (Below.refl _ _).alloc (Nat.le_refl _) _
  have ka : Blk wa w.heap.size 3 #[.int .i64 100, .int .i64 150] := by rw [← hwa]; exact Blk.new _ _ _
  rw [hwa]
  clear hwa
  obtain ⟨wb, hwb⟩ : ∃ W, wa.alloc (.cells #[.int .i64 200] 3) = W := ⟨_, rfl⟩
  have sb : wb.heap.size = w.heap.size + 1 + 1 := by rw [← hwb, ← sa]; simp
  have bb : Below wa.heap.size wa wb := by rw [← hwb]; exact (Below.refl _ _).alloc (Nat.le_refl _) _
  have kb : Blk wb (w.heap.size + 1) 3 #[.int .i64 200] := by rw [← hwb]; exact Blk.new' sa.symm
  rw [hwb]
  clear hwb
  obtain ⟨wc, hwc⟩ : ∃ W, wb.alloc (.cells #[.slice (some ⟨w.heap.size, 0, none⟩) 2 2, .slice (some ⟨w.heap.size + 1, 0, none⟩) 1 1] 33) = W := ⟨_, rfl⟩
  have sc : wc.heap.size = w.heap.size + 1 + 1 + 1 := by rw [← hwc, ← sb]; simp
  have bc : Below wb.heap.size wb wc := by rw [← hwc]; exact (Below.refl _ _).alloc (Nat.le_refl _) _
  have kc : Blk wc (w.heap.size + 1 + 1) 33 #[.slice (some ⟨w.heap.size, 0, none⟩) 2 2, .slice (some ⟨w.heap.size + 1, 0, none⟩) 1 1] := by rw [← hwc]; exact Blk.new' sb.symm
  rw [hwc]
  clear hwc
  have hmv : MV wc (some ⟨w.heap.size + 1 + 1, 0, none⟩) 2 2 [⟨some ⟨w.heap.size, 0, none⟩, [100, 150], 2⟩, ⟨some ⟨w.heap.size + 1, 0, none⟩, [200], 1⟩] := by
    constructor
    · refine ⟨fun i row hr => ?_, rfl, Nat.le_refl _, by simp [maxLen], fun h => by cases h⟩
      refine ⟨w.heap.size + 1 + 1, 0, rfl, kc.lt, fun j u hu => ?_⟩
      match i, hr with
      | 0, hr =>
        simp [encRw] at hr
        subst hr
        match j, hu with
        | 0, hu => simp at hu; subst hu; exact kc.cell 0
      | 1, hr =>
        simp [encRw] at hr
        subst hr
        match j, hu with
        | 0, hu => simp at hu; subst hu; exact kc.cell 1
    · intro r hr
      rcases List.mem_cons.1 hr with rfl | hr
      · exact sv_lit (l := [100, 150]) (((ka.below bb (by omega))).below bc (by omega)) (by simp [maxLen])
      · obtain rfl := List.mem_singleton.1 hr
        exact sv_lit (l := [200]) (kb.below bc (by omega)) (by simp [maxLen])
  have hbc : Below w.heap.size w wc := (ba.trans (bb.mono (by omega))).trans (bc.mono (by omega))
  obtain ⟨M, hM⟩ : ∃ M : List Rw, M = [⟨some ⟨w.heap.size, 0, none⟩, [100, 150], 2⟩, ⟨some ⟨w.heap.size + 1, 0, none⟩, [200], 1⟩] := ⟨_, rfl⟩
  have hMa : allM M = exC := by rw [hM]; rfl
  rw [← hM] at hmv
  obtain ⟨wd, hwd⟩ : ∃ W, wc.alloc (.cells #[.int .i64 2000, .slice (some ⟨w.heap.size + 1 + 1, 0, none⟩) 2 2] 24) = W := ⟨_, rfl⟩
  have kd : Blk wd (w.heap.size + 1 + 1 + 1) 24 #[.int .i64 2000, .slice (some ⟨w.heap.size + 1 + 1, 0, none⟩) 2 2] := by rw [← hwd]; exact Blk.new' sc.symm
  have bd : Below wc.heap.size wc wd := by rw [← hwd]; exact (Below.refl _ _).alloc (Nat.le_refl _) _
  rw [hwd]
  have HMV := hide (hmv.below bd)
  have HB := hide (chain hbc bd)
  have HK := hide kd
  have HM := hide hMa
  obtain ⟨X, hX⟩ : ∃ X, w.heap.size + 1 + 1 + 1 = X := ⟨_, rfl⟩
  obtain ⟨Y, hY⟩ : ∃ Y, w.heap.size + 1 + 1 = Y := ⟨_, rfl⟩
  rw [hX, hY] at HK
  rw [hY] at HMV
  rw [hX, hY]
  clear sa ba ka sb bb kb sc bc kc hmv hbc hM hMa hwd kd bd hX hY
  refine (ex_facB HMV.out HM.out HB.out).mono ?_
  rintro e w1 ⟨g, c1, rfl, hc1, y0, y1, hg1, h1, hb1⟩
  have H1 := hide h1
  have HM1 := hide (HMV.out.below hb1)
  have HK1 := hide (HK.out.below hb1 HK.out.lt)
  have Y0 := hide y0
  have Y1 := hide y1
  have x0 := HK1.out.cell 0
  have x1 := HK1.out.cell 1
  simp only [List.getElem?_toArray, List.getElem?_cons_zero, List.getElem?_cons_succ] at x0 x1
  clear h1 hb1 y0 y1
  go_wp2_with fail
  refine (ex_ultB HM1.out HM.out (HG.out.below H1.out) H1.out).mono ?_
  rintro e w2 ⟨A2, c2, rfl, hs2, h2, hb2⟩
  have H2 := hide h2
  have HM2 := hide (HM1.out.below hb2)
  have HK2 := hide (HK1.out.below hb2 HK1.out.lt)
  have Z0 := hide (kept hb2 Y0.out)
  have Z1 := hide (kept hb2 Y1.out)
  have HS2 := hide hs2
  have x0 := HK2.out.cell 0
  have x1 := HK2.out.cell 1
  simp only [List.getElem?_toArray, List.getElem?_cons_zero, List.getElem?_cons_succ] at x0 x1
  clear h2 hb2 hs2
  go_wp2_with fail
  refine (ex_leftB HM2.out HM.out (HG.out.below H2.out) H2.out).mono ?_
  rintro e w3 ⟨A3, c3, rfl, hs3, h3, hb3⟩
  have H3 := hide h3
  have y0 := kept hb3 Z0.out
  have y1 := kept hb3 Z1.out
  have HS3 := hide hs3
  have HS2b := hide (HS2.out.below hb3)
  have hq2 := HS2.out.le
  have hq3 := HS3.out.le
  clear h3 hb3 hs3 x0 x1
  go_wp2_with fail
  have bq : Below w3.heap.size w3 (w3.alloc (.cells #[.int .i64 150, .int .i64 300] 3)) := (Below.refl _ _).alloc (Nat.le_refl _) _
  refine (same22_b (HS2b.out.below bq) (sv_lit (l := [150, 300]) (Blk.new _ _ _) (by simp [maxLen])) (by omega) (chain H3.out bq)).mono ?_
  rintro e w4 ⟨rfl, h4, hb4⟩
  have H4 := hide h4
  have HS4 := hide ((HS3.out.below bq).below hb4)
  clear h4 hb4 bq y0 y1 HS2b HS3
  go_wp2_with fail
  have bq : Below w4.heap.size w4 (w4.alloc (.cells #[.int .i64 0, .int .i64 100] 3)) := (Below.refl _ _).alloc (Nat.le_refl _) _
  refine (same22_b (HS4.out.below bq) (sv_lit (l := [0, 100]) (Blk.new _ _ _) (by simp [maxLen])) (by omega) (chain H4.out bq)).mono ?_
  rintro e w5 ⟨rfl, h5, hb5⟩
  clear hb5 bq
  go_wp2_with fail
  go_ret
  exact ⟨rfl, h5⟩
theorem awake22_b {w0 w : World} (hg : Hdl w0) (hb : Below w0.heap.size w0 w) : Calls Tryd.prog 9 #[] w fun e w' => e = .returned (.bool true) ∧ Below w0.heap.size w0 w' ∧ Below w.heap.size w w' :=
  (awake22_any w (hg.below hb)).mono fun _ _ ⟨h, h2⟩ => ⟨h, chain hb h2, h2⟩
end Go.Proofs.YtndfgglnhkdciaaDoor
