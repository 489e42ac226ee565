/- The triangle of rows: the document's walk. -/
import Derived.Test.YtclcjonogjinfaaTriV
import Derived.Deep.CutRange
namespace Go.Proofs.Ytclcjonogjinfaa
open Go.RowKit

def fromR (l : List R3) : Int := l.foldl (fun a x => min a (yrV x.a)) 3000
theorem fromR_take {l : List R3} {k : Nat} {x : R3} (h : l[k]? = some x) : fromR (l.take (k + 1)) = min (fromR (l.take k)) (yrV x.a) := by rw [take_of h]; simp [fromR]
theorem fromR_eq {l : List R3} (hn : l ≠ []) (hc : chkL l = 0) : fromR l = fromL l := by
  obtain ⟨x, t, rfl⟩ := List.exists_cons_of_ne_nil hn
  have := chk_yr (chkL_ok.1 hc x (by simp))
  simp only [fromR, fromL, List.foldl_cons]
  congr 1
  omega
section
variable {w0 w : World} {A : Option Addr} {n cap : Nat} {M : List Rw}
theorem yr_b (v : Int) (hb : Below w0.heap.size w0 w) : Calls Try.prog 24 #[.int .i64 v] w fun e w' => e = .returned (.int .i64 (yrV v)) ∧ Below w0.heap.size w0 w' ∧ Below w.heap.size w w' :=
  (yr_any v w).mono fun _ _ ⟨he, h⟩ => ⟨he, from_base hb h⟩
theorem yr_c {v Y : Int} (hy : yrV v = Y) (hb : Below w0.heap.size w0 w) : Calls Try.prog 24 #[.int .i64 v] w fun e w' => e = .returned (.int .i64 Y) ∧ Below w0.heap.size w0 w' ∧ Below w.heap.size w w' := by
  subst hy; exact yr_b v hb
def PutR (w0 w : World) (M : List Rw) (f : Int) (C : List (List Int)) (m : Nat) (E : Int) (e : Ending) (w' : World) : Prop :=
  ∃ A' c' R, e = .returned (.tuple #[.agg #[.int .i64 f, .slice A' m c'], .int .i64 E]) ∧ MV w' A' m c' R ∧ allM R = C ∧ (∀ kk, blk A' = some kk → w.heap.size ≤ kk) ∧ (∀ r ∈ R, ∀ kk, blk r.A = some kk → SrcP w M kk) ∧ Below w0.heap.size w0 w' ∧ Below w.heap.size w w'
theorem putR_b {f y dev amt E f' : Int} {C : List (List Int)} {m : Nat} (hs : MV w0 A n cap M) (hb : Below w0.heap.size w0 w) (hf : ok64 f) (hE : putE f (allM M) y dev amt = E) (hf' : (if E = 0 then f else 0) = f') (hC : (if E = 0 then putR f (allM M) y dev amt else []) = C) (hm : C.length = m) :
    Calls Try.prog 26 #[.agg #[.int .i64 f, .slice A n cap], .int .i64 y, .int .i64 dev, .int .i64 amt] w (PutR w0 w M f' C m E) := by
  obtain rfl := hs.len
  subst hf' hC hm
  refine (putT_any f A cap M y dev amt w (hs.below hb) hf).mono fun e w' h => ?_
  rw [hE] at h
  obtain ⟨h1, ⟨h2, he⟩ | ⟨h2, A', c', R, he, hmv, hr, ha, hrw⟩⟩ := h
  · rw [if_neg h2, if_neg h2]
    exact ⟨none, 0, [], he, mv_nil w', rfl, fun kk hk => (by cases hk), fun r hr => (by simp at hr), from_base hb h1⟩
  · rw [if_pos h2, if_pos h2]
    have hl : R.length = (putR f (allM M) y dev amt).length := by rw [← hr, allM_len]
    rw [hl] at he hmv
    rw [h2]
    exact ⟨A', c', R, he, hmv, hr, ha, hrw, from_base hb h1⟩
end
theorem cell_far2 {w : World} {b o Y : Nat} {u x z : Value} (h : w.cell? ⟨b, o, none⟩ = some u) (hne : b ≠ Y) : ((w.setCell ⟨Y, 0, none⟩ x).setCell ⟨Y, 1, none⟩ z).cell? ⟨b, o, none⟩ = some u := by
  have h1 : ((w.setCell ⟨Y, 0, none⟩ x).setCell ⟨Y, 1, none⟩ z).heap[b]? = w.heap[b]? := (heap_setCell_other _ _ b z hne).trans (heap_setCell_other w _ b x hne)
  rw [World.cell?_of_block (w := w) h1]; exact h
/-- What stands behind one Put of the document's. -/
def CutO (wr : World) (P : Nat → Prop) (f : Int) (C : List (List Int)) (m : Nat) (E : Int) (t u : Value) (wx : World) : Prop :=
  ∃ Y A' c' R, t = .pointer (some ⟨Y, 0, none⟩) ∧ u = .int .i64 E ∧ Blk wx Y 24 #[.int .i64 f, .slice A' m c'] ∧ MV wx A' m c' R ∧ allM R = C ∧ (∀ kk, blk A' = some kk → P kk) ∧ (∀ r ∈ R, ∀ kk, blk r.A = some kk → P kk) ∧ Below wr.heap.size wr wx
theorem putE_fits {f : Int} {n : Nat} {c : List (List Int)} {x : R3} (hr : rightC f c = true) (hs : Shape n c) (hf : Fits f n x) : putE f c (yrV x.a) (devO x) x.m = if capB (rowO f c x) = false then 5 else 0 := by
  obtain ⟨h1, h2, h3, h4, h5, h6⟩ := hf
  have hl := hs.1
  unfold idxO at h2 h4
  rw [putE, if_neg]
  · rfl
  · rw [hr]; simp; omega

set_option maxRecDepth 100000 in
set_option maxHeartbeats 8000000 in
theorem ofR_any (A : Option Addr) (cap : Nat) (l : List R3) (w : World) (hs : SV w 3 A l.length cap (l.map enc3)) :
    Calls Try.prog 18 #[.slice A l.length cap] w (OfG w w (ofF l) (ofM l) (ofM l).length (ofE l)) := by
  have HS := hide hs
  have hmx := hs.le
  have hmy := hs.most
  unfold maxLen at hmy
  clear hs
  by_cases hnil : l.length = 0
  · have HE := hide (show ofE l = 7 by obtain rfl := List.eq_nil_of_length_eq_zero hnil; rfl)
    go_enter Try.func18, Try.ntmps18
    go_wp2_with fail
    refine ret_row2 (cs := zeroT) (g := w.heap.size) (x := .int .i64 7) rfl rfl rfl rfl (Blk.new _ _ _) Try.underlying24 rfl (by kernel_rfl) ?_
    have h0 : ofE l ≠ 0 := by rw [HE.out]; decide
    refine ⟨none, 0, [], by rw [ofF, ofM, if_neg h0, if_neg h0, HE.out]; rfl, by rw [ofM, if_neg h0]; exact mv_nil _, by rw [ofM, if_neg h0]; rfl, ⟨fun kk hk => (by cases hk), fun r hr => (by simp at hr)⟩, (Below.refl _ _).alloc (Nat.le_refl _) _, (Below.refl _ _).alloc (Nat.le_refl _) _⟩
  have HN := hide (show l ≠ [] by intro h; subst h; exact hnil rfl)
  have hni : ((l.length : Int) == 0) = false := by simp; exact HN.out
  go_enter Try.func18, Try.ntmps18
  go_wp2_with fail
  obtain ⟨w1, hw1⟩ : ∃ W, w.alloc (.cells #[.int .i64 0, .slice none 0 0] 24) = W := ⟨_, rfl⟩
  have hz : Blk w1 w.heap.size 24 zeroT := by rw [← hw1]; exact Blk.new _ _ _
  have hb1 : Below w.heap.size w w1 := by rw [← hw1]; exact (Below.refl _ _).alloc (Nat.le_refl _) _
  rw [hw1]
  clear hw1
  have HZ := hide hz
  have HB1 := hide hb1
  have hlt1 := hz.lt
  go_loopw [4, 5, 6] (fun a b i wr => ∃ (k : Nat) (F T : Int), k ≤ l.length ∧ i = .int .i64 k ∧ a = .int .i64 F ∧ b = .int .i64 T ∧ fromR (l.take k) = F ∧ toL (l.take k) = T ∧ chkL (l.take k) = 0 ∧ Below w1.heap.size w1 wr) (fun _ _ i _ => l.length - (intOf i).toNat)
  case atStart => exact ⟨0, 3000, 0, Nat.zero_le _, rfl, rfl, rfl, rfl, rfl, rfl, Below.refl _ _⟩
  case round =>
    clear hz hb1
    obtain ⟨k, F, T, hk, rfl, rfl, rfl, hF, hT, hok, hb⟩ := hrel
    by_cases hlt : k < l.length
    · obtain ⟨⟨xa, xb, xm⟩, hx⟩ := get_of hlt
      obtain ⟨bb, off, rfl, hbl, ca, cb, cm⟩ := (HS.out.below HB1.out |>.below hb).sl.r3 hx
      simp only at ca cb cm
      have hk0 : (0 : Int) ≤ (k : Int) := by omega
      have hk1 : (k : Int) < (l.length : Int) := by omega
      have HX := hide hx
      have HOK := hide hok
      have HF := hide hF
      have HT := hide hT
      have HBW := hide hb
      clear hx hok hF hT hb
      go_wp2_with fail
      refine (checkR_any xa xb xm _).mono ?_
      rintro e w2 ⟨rfl, hb2⟩
      have ca := kept hb2 ca
      have cb := kept hb2 cb
      have hb3 : Below w1.heap.size w1 w2 := chain HBW.out hb2
      clear hb2 cm
      by_cases hc : chk ⟨xa, xb, xm⟩ = 0
      · have HC := hide hc
        have hyr := chk_yr hc
        obtain ⟨Y1, hY1⟩ : ∃ Y, yrV xa = Y := ⟨_, rfl⟩
        obtain ⟨Y2, hY2⟩ : ∃ Y, yrV xb = Y := ⟨_, rfl⟩
        simp only [hY1, hY2] at hyr
        have HF2 := hide (show fromR (l.take (k + 1)) = min F Y1 by rw [fromR_take HX.out, HF.out, ← hY1])
        have HT2 := hide (show toL (l.take (k + 1)) = max T Y2 by rw [toL_take HX.out, HT.out, ← hY2])
        have HY1 := hide hY1
        have HY2 := hide hY2
        rw [hc]
        clear hc hY1 hY2
        go_wp2_with fail
        refine (yr_any xa _).mono ?_
        rintro e w3 ⟨rfl, hb⟩
        rw [HY1.out]
        have ca := kept hb ca
        have cb := kept hb cb
        have hb3 := chain hb3 hb
        clear hb
        rcases Int.lt_or_le Y1 F with hm1 | hm1
        · go_wp2_with fail
          refine (yr_any xa _).mono ?_
          rintro e w4 ⟨rfl, hb⟩
          rw [HY1.out]
          have ca := kept hb ca
          have cb := kept hb cb
          have hb3 := chain hb3 hb
          clear hb
          go_wp2_with fail
          refine (yr_any xb _).mono ?_
          rintro e w5 ⟨rfl, hb⟩
          rw [HY2.out]
          have ca := kept hb ca
          have cb := kept hb cb
          have hb3 := chain hb3 hb
          clear hb
          rcases Int.lt_or_le T Y2 with hm2 | hm2
          · go_wp2_with fail
            refine (yr_any xb _).mono ?_
            rintro e w6 ⟨rfl, hb⟩
            rw [HY2.out]
            have hb3 := chain hb3 hb
            go_wp2_with fail
            go_roundw
            case rel => exact ⟨k + 1, _, _, by omega, by go_num, rfl, rfl, by rw [HF2.out]; omega, by rw [HT2.out]; omega, chkL_take HX.out HOK.out HC.out, hb3⟩
            case measure => simp [intOf]; omega
          · go_wp2_with fail
            go_roundw
            case rel => exact ⟨k + 1, _, _, by omega, by go_num, rfl, rfl, by rw [HF2.out]; omega, by rw [HT2.out]; omega, chkL_take HX.out HOK.out HC.out, hb3⟩
            case measure => simp [intOf]; omega
        · go_wp2_with fail
          refine (yr_any xb _).mono ?_
          rintro e w5 ⟨rfl, hb⟩
          rw [HY2.out]
          have ca := kept hb ca
          have cb := kept hb cb
          have hb3 := chain hb3 hb
          clear hb
          rcases Int.lt_or_le T Y2 with hm2 | hm2
          · go_wp2_with fail
            refine (yr_any xb _).mono ?_
            rintro e w6 ⟨rfl, hb⟩
            rw [HY2.out]
            have hb3 := chain hb3 hb
            go_wp2_with fail
            go_roundw
            case rel => exact ⟨k + 1, _, _, by omega, by go_num, rfl, rfl, by rw [HF2.out]; omega, by rw [HT2.out]; omega, chkL_take HX.out HOK.out HC.out, hb3⟩
            case measure => simp [intOf]; omega
          · go_wp2_with fail
            go_roundw
            case rel => exact ⟨k + 1, _, _, by omega, by go_num, rfl, rfl, by rw [HF2.out]; omega, by rw [HT2.out]; omega, chkL_take HX.out HOK.out HC.out, hb3⟩
            case measure => simp [intOf]; omega
      · have hcr : chk ⟨xa, xb, xm⟩ = 1 ∨ chk ⟨xa, xb, xm⟩ = 4 := by have := chk_range ⟨xa, xb, xm⟩; omega
        have HE := hide (ofE_chk HN.out (by rw [chkL_at HX.out HOK.out hc]; exact hc) |>.trans (chkL_at HX.out HOK.out hc))
        have hz3 := HZ.out.below hb3 hlt1
        have z0 := hz3.cell 0
        have z1 := hz3.cell 1
        have t0 := hz3.frozen 0
        have t1 := hz3.frozen 1
        simp [zeroT] at z0 z1
        rcases hcr with e | e
        · have HE := hide (HE.out.trans e)
          rw [e]
          clear hc e
          go_wp2_with fail
          rw [HE.out]
          refine ret_row2 (cs := zeroT) (g := w.heap.size) (x := .int .i64 1) rfl rfl rfl rfl (by
            have := (hz3.set_ 0 (.int .i64 0)).set_ 1 (.slice none 0 0)
            simpa [zeroT] using this) Try.underlying24 rfl (by kernel_rfl) ?_
          have h0 : ofE l ≠ 0 := by rw [HE.out]; decide
          have hB := ((chain HB1.out hb3).setCell (p := ⟨w.heap.size, 0, none⟩) (Nat.le_refl _) (.int .i64 0)).setCell (p := ⟨w.heap.size, 1, none⟩) (Nat.le_refl _) (.slice none 0 0)
          exact ⟨none, 0, [], by rw [ofF, ofM, if_neg h0, if_neg h0]; rfl, by rw [ofM, if_neg h0]; exact mv_nil _, by rw [ofM, if_neg h0]; rfl, ⟨fun kk hk => (by cases hk), fun r hr => (by simp at hr)⟩, hB, hB⟩
        · have HE := hide (HE.out.trans e)
          rw [e]
          clear hc e
          go_wp2_with fail
          rw [HE.out]
          refine ret_row2 (cs := zeroT) (g := w.heap.size) (x := .int .i64 4) rfl rfl rfl rfl (by
            have := (hz3.set_ 0 (.int .i64 0)).set_ 1 (.slice none 0 0)
            simpa [zeroT] using this) Try.underlying24 rfl (by kernel_rfl) ?_
          have h0 : ofE l ≠ 0 := by rw [HE.out]; decide
          have hB := ((chain HB1.out hb3).setCell (p := ⟨w.heap.size, 0, none⟩) (Nat.le_refl _) (.int .i64 0)).setCell (p := ⟨w.heap.size, 1, none⟩) (Nat.le_refl _) (.slice none 0 0)
          exact ⟨none, 0, [], by rw [ofF, ofM, if_neg h0, if_neg h0]; rfl, by rw [ofM, if_neg h0]; exact mv_nil _, by rw [ofM, if_neg h0]; rfl, ⟨fun kk hk => (by cases hk), fun r hr => (by simp at hr)⟩, hB, hB⟩
    · obtain rfl : k = l.length := by omega
      rw [List.take_length] at hF hT hok
      rw [fromR_eq HN.out hok] at hF
      have HOK := hide hok
      have HF := hide hF
      have HT := hide hT
      have HBW := hide hb
      have hz3 := HZ.out.below hb hlt1
      have hsz := hb.size
      have fb := from_bd hok
      have tb := to_bd hok
      have ft := from_to hok HN.out
      rw [hF] at fb ft
      rw [hT] at tb ft
      obtain ⟨fb1, fb2⟩ := fb
      obtain ⟨tb1, tb2⟩ := tb
      by_cases hbig : 2000 < l.length ∨ 20 < T - F + 1
      · have HE := hide (ofE_bound HN.out hok (by rw [hF, hT]; exact hbig))
        have z0 := hz3.cell 0
        have z1 := hz3.cell 1
        have t0 := hz3.frozen 0
        have t1 := hz3.frozen 1
        simp [zeroT] at z0 z1
        clear hF hT hok hb
        rcases (show 2000 < l.length ∨ (l.length ≤ 2000 ∧ 20 < T - F + 1) by omega) with g | ⟨g, g'⟩
        · clear hbig
          go_wp2_with fail
          rw [HE.out]
          refine ret_row2 (cs := zeroT) (g := w.heap.size) (x := .int .i64 2) rfl rfl rfl rfl (by
            have := (hz3.set_ 0 (.int .i64 0)).set_ 1 (.slice none 0 0)
            simpa [zeroT] using this) Try.underlying24 rfl (by kernel_rfl) ?_
          have h0 : ofE l ≠ 0 := by rw [HE.out]; decide
          have hB := ((chain HB1.out HBW.out).setCell (p := ⟨w.heap.size, 0, none⟩) (Nat.le_refl _) (.int .i64 0)).setCell (p := ⟨w.heap.size, 1, none⟩) (Nat.le_refl _) (.slice none 0 0)
          exact ⟨none, 0, [], by rw [ofF, ofM, if_neg h0, if_neg h0]; rfl, by rw [ofM, if_neg h0]; exact mv_nil _, by rw [ofM, if_neg h0]; rfl, ⟨fun kk hk => (by cases hk), fun r hr => (by simp at hr)⟩, hB, hB⟩
        · clear hbig
          go_wp2_with fail
          rw [HE.out]
          refine ret_row2 (cs := zeroT) (g := w.heap.size) (x := .int .i64 2) rfl rfl rfl rfl (by
            have := (hz3.set_ 0 (.int .i64 0)).set_ 1 (.slice none 0 0)
            simpa [zeroT] using this) Try.underlying24 rfl (by kernel_rfl) ?_
          have h0 : ofE l ≠ 0 := by rw [HE.out]; decide
          have hB := ((chain HB1.out HBW.out).setCell (p := ⟨w.heap.size, 0, none⟩) (Nat.le_refl _) (.int .i64 0)).setCell (p := ⟨w.heap.size, 1, none⟩) (Nat.le_refl _) (.slice none 0 0)
          exact ⟨none, 0, [], by rw [ofF, ofM, if_neg h0, if_neg h0]; rfl, by rw [ofM, if_neg h0]; exact mv_nil _, by rw [ofM, if_neg h0]; rfl, ⟨fun kk hk => (by cases hk), fun r hr => (by simp at hr)⟩, hB, hB⟩
      · obtain ⟨n, hn⟩ : ∃ n : Nat, T - F + 1 = (n : Int) := ⟨(T - F + 1).toNat, by omega⟩
        have HNB := hide (show ¬(2000 < l.length ∨ 20 < toL l - fromL l + 1) by rw [hF, hT]; exact hbig)
        have HYN := hide (show yearsN l = n by rw [yearsN, hF, hT, hn]; simp)
        have g1 : l.length ≤ 2000 := by omega
        have g2 : n ≤ 20 := by omega
        have g3 : 1 ≤ n := by omega
        have hn20 : T - F + 1 ≤ 20 := by omega
        have hfn : F ≤ 2401 - (n : Int) := by omega
        clear hbig hF hT hok hb
        go_wp2_with fail
        refine (emptyR_any F n g2 wr).mono ?_
        rintro e w3 ⟨A0, c0, R0, rfl, hmv0, hR0, hfr0, hb0⟩
        have HB3 := hide (chain HBW.out hb0)
        have HMV0 := hide hmv0
        have HR0 := hide hR0
        clear hb0 hmv0 hR0 hz3
        go_wp2_with fail
        obtain ⟨w4, hw4⟩ : ∃ W, w3.alloc (.cells #[.int .i64 F, .slice A0 n c0] 24) = W := ⟨_, rfl⟩
        have hB : Blk w4 w3.heap.size 24 (triC F A0 n c0) := by rw [← hw4]; exact Blk.new _ _ _
        have h4 : Below w3.heap.size w3 w4 := by rw [← hw4]; exact (Below.refl _ _).alloc (Nat.le_refl _) _
        rw [hw4]
        have hG1 : w1.heap.size ≤ w3.heap.size := HB3.out.size
        have hap0 : (∀ kk, blk A0 = some kk → kk ≠ w3.heap.size ∧ w1.heap.size ≤ kk) ∧ ∀ r ∈ R0, ∀ kk, blk r.A = some kk → kk ≠ w3.heap.size ∧ w1.heap.size ≤ kk := by
          refine ⟨fun kk hk => by have := HMV0.out.sv.lt (by omega) hk; have := hfr0.1 kk hk; omega, fun r hr kk hk => ?_⟩
          obtain ⟨i, hi⟩ := List.mem_iff_getElem?.1 hr
          have h9 := ((shape_zeros n).2 i r.l (by rw [← HR0.out]; exact allM_get hi)).1
          have h8 := lt_of_get hi
          rw [HMV0.out.len] at h8
          have := (HMV0.out.rows r hr).lt (by omega) hk
          have := hfr0.2 r hr kk hk
          omega
        obtain ⟨G, hG⟩ : ∃ G, w3.heap.size = G := ⟨_, rfl⟩
        rw [hG] at hB hG1 hap0 ⊢
        have HB := hide hB
        have HM4 := hide (HMV0.out.below h4)
        have H4 := hide (chain HB3.out h4)
        have HAP0 := hide hap0
        clear hw4 hB h4 hG hap0 HMV0 HB3
        go_loopw [9] (fun i wr => ∃ (k : Nat) (R : List Rw) (A' : Option Addr) (cap' : Nat), k ≤ l.length ∧ i = .int .i64 k ∧ putAll F (zerosT n) (l.take k) = some (allM R) ∧ MV wr A' n cap' R ∧ ((∀ kk, blk A' = some kk → kk ≠ G ∧ w1.heap.size ≤ kk) ∧ ∀ r ∈ R, ∀ kk, blk r.A = some kk → kk ≠ G ∧ w1.heap.size ≤ kk) ∧ Blk wr G 24 (triC F A' n cap') ∧ Below w1.heap.size w1 wr) (fun i _ => l.length - (intOf i).toNat)
        case atStart => exact ⟨0, R0, A0, c0, Nat.zero_le _, rfl, by rw [HR0.out]; rfl, HM4.out, HAP0.out, HB.out, H4.out⟩
        case round =>
          clear HB HM4 H4 HAP0 HR0
          obtain ⟨k, R, A', cap', hk, rfl, hPA, hmv, hap, hB, hb⟩ := hrel
          have HMV := hide hmv
          have HAP := hide hap
          have HB := hide hB
          have HBK := hide hb
          clear hmv hap hB hb
          have hGl := HB.out.lt
          by_cases hlt : k < l.length
          · obtain ⟨⟨xa, xb, xm⟩, hx⟩ := get_of hlt
            obtain ⟨bb, off, rfl, hbl, ca, cb, cm⟩ := (HS.out.below (chain HB1.out HBK.out)).sl.r3 hx
            simp only at ca cb cm
            have hk0 : (0 : Int) ≤ (k : Int) := by omega
            have hk1 : (k : Int) < (l.length : Int) := by omega
            have hxm := List.mem_of_getElem? hx
            have hc := chkL_ok.1 HOK.out _ hxm
            have hyr := chk_yr hc
            have hfit := fits_all HOK.out HN.out hxm
            rw [HF.out, HYN.out] at hfit
            have hsh := shape_all (shape_zeros n) (fun y hy => (chk_ok (chkL_ok.1 HOK.out y (List.mem_of_mem_take hy))).2.2.2.1) hPA
            have hrt := right_shape hsh g3 g2 fb1 hfn
            have hpe := putE_fits hrt hsh hfit
            have hsn := putAll_snoc (f := F) (x := ⟨xa, xb, xm⟩) (l := l.take k) (c := zerosT n)
            rw [hPA, ← take_of hx, Option.bind_some] at hsn
            obtain ⟨Y1, hY1⟩ : ∃ Y, yrV xa = Y := ⟨_, rfl⟩
            obtain ⟨Y2, hY2⟩ : ∃ Y, yrV xb = Y := ⟨_, rfl⟩
            simp only [hY1, hY2] at hyr
            have hdv : devO ⟨xa, xb, xm⟩ = Y2 - Y1 := by simp only [devO, hY1, hY2]
            rw [hdv] at hpe
            simp only [hY1] at hpe
            have hlen2 : ∀ r ∈ R, 0 < r.l.length := fun r hr => by
              obtain ⟨i, hi⟩ := List.mem_iff_getElem?.1 hr
              have h9 := (hsh.2 i r.l (allM_get hi)).1
              have h8 := lt_of_get (allM_get hi)
              have := hsh.1
              omega
            have HLE := hide hlen2
            obtain ⟨E3, hE3⟩ : ∃ E, putE F (allM R) Y1 (Y2 - Y1) xm = E := ⟨_, rfl⟩
            obtain ⟨f3, hf3⟩ : ∃ f, (if E3 = 0 then F else 0) = f := ⟨_, rfl⟩
            obtain ⟨C3, hC3⟩ : ∃ C, (if E3 = 0 then putR F (allM R) Y1 (Y2 - Y1) xm else []) = C := ⟨_, rfl⟩
            obtain ⟨m3, hm3⟩ : ∃ m, C3.length = m := ⟨_, rfl⟩
            have HPE := hide (hE3.symm.trans hpe)
            have HSN := hide hsn
            have HY1 := hide hY1
            have HY2 := hide hY2
            have HX := hide hx
            have HE3 := hide hE3
            have Hf3 := hide hf3
            have HC3 := hide hC3
            have Hm3 := hide hm3
            have HPR := hide (show putR F (allM R) Y1 (Y2 - Y1) xm = (allM R).set (idxO F ⟨xa, xb, xm⟩) (rowO F (allM R) ⟨xa, xb, xm⟩) by rw [putR, rowO, idxO, hdv, hY1])
            have HSHL := hide hsh.1
            clear hsn hx hxm hc hPA hsh hrt hpe hfit hdv hY1 hY2 hE3 hf3 hC3 hm3 hlen2
            have hwr : IntKind.i64.wrap (Y2 - Y1) = Y2 - Y1 := IntWalk.i64_in _ (by omega)
            have q0 := HB.out.cell 0
            have q1 := HB.out.cell 1
            simp [triC] at q0 q1
            have KQ0 := hide q0
            have KQ1 := hide q1
            have KA := hide ca
            have KB := hide cb
            have KM := hide cm
            have hcur : Below wr.heap.size wr wr := Below.refl _ _
            have hbks := HBK.out.size
            have hok64 : ok64 F := by unfold ok64; omega
            go_upto_region 21 with fail
            go_cut [10, 11] from 76 to 115 (fun t u wx => CutO wr (fun kk => kk ≠ G ∧ w1.heap.size ≤ kk) f3 C3 m3 E3 t u wx)
            case first =>
              go_region_held3 (fun w' => w'.cell? ⟨G, 0, none⟩ = some (.int .i64 F) ∧ w'.cell? ⟨G, 1, none⟩ = some (.slice A' n cap') ∧ w'.cell? ⟨bb, off + k * 3, none⟩ = some (.int .i64 xa) ∧ w'.cell? ⟨bb, off + k * 3 + 1, none⟩ = some (.int .i64 xb) ∧ w'.cell? ⟨bb, off + k * 3 + 2, none⟩ = some (.int .i64 xm)) (first | with_reducible exact ⟨q0, q1, ca, cb, cm⟩ | with_reducible exact ⟨cell_far2 q0 (by omega), cell_far2 q1 (by omega), cell_far2 ca (by omega), cell_far2 cb (by omega), cell_far2 cm (by omega)⟩ | go_keep)
                (first
                  | (go_at_call 24
                     have hs0 := hcur.size
                     with_reducible refine (yr_c (w0 := wr) HY1.out ?_).mono ?_
                     · repeat (first | with_reducible exact hcur | refine Below.drew ?_ | refine Below.alloc ?_ (by have := hcur.size; simp; try omega) _)
                     rintro e w' ⟨rfl, hcur, hbb⟩
                     first
                       | (have hyo := hy.lt
                          have hy := Blk.below hy hbb hyo)
                       | have hy := Blk.below (Blk.new _ 24 #[.int .i64 0, .slice none 0 0]) hbb (by simp)
                       | have hy := Blk.below (Blk.drew (Blk.new _ 24 #[.int .i64 0, .slice none 0 0])) hbb (by simp)
                       | skip
                     have q0 := kept hcur KQ0.out
                     have q1 := kept hcur KQ1.out
                     have ca := kept hcur KA.out
                     have cb := kept hcur KB.out
                     have cm := kept hcur KM.out)
                  | (go_at_call 24
                     have hs0 := hcur.size
                     with_reducible refine (yr_c (w0 := wr) HY2.out ?_).mono ?_
                     · repeat (first | with_reducible exact hcur | refine Below.drew ?_ | refine Below.alloc ?_ (by have := hcur.size; simp; try omega) _)
                     rintro e w' ⟨rfl, hcur, hbb⟩
                     first
                       | (have hyo := hy.lt
                          have hy := Blk.below hy hbb hyo)
                       | have hy := Blk.below (Blk.new _ 24 #[.int .i64 0, .slice none 0 0]) hbb (by simp)
                       | have hy := Blk.below (Blk.drew (Blk.new _ 24 #[.int .i64 0, .slice none 0 0])) hbb (by simp)
                       | skip
                     have q0 := kept hcur KQ0.out
                     have q1 := kept hcur KQ1.out
                     have ca := kept hcur KA.out
                     have cb := kept hcur KB.out
                     have cm := kept hcur KM.out)
                  | (go_at_call 26
                     have hs0 := hcur.size
                     with_reducible refine (putR_b (w0 := wr) HMV.out ?_ hok64 HE3.out Hf3.out HC3.out Hm3.out).mono ?_
                     · repeat (first | with_reducible exact hcur | refine Below.drew ?_ | refine Below.alloc ?_ (by have := hcur.size; simp; try omega) _)
                     rintro e w' ⟨A4, c4, R4, rfl, hmv4, hR4, ha4, hr4, hcur, hbb⟩
                     first
                       | (have hyo := hy.lt
                          have hy := Blk.below hy hbb hyo)
                       | have hy := Blk.below (Blk.new _ 24 #[.int .i64 0, .slice none 0 0]) hbb (by simp)
                       | have hy := Blk.below (Blk.drew (Blk.new _ 24 #[.int .i64 0, .slice none 0 0])) hbb (by simp)
                       | skip
                     first
                       | (have d0 := hy.cell 0
                          have d1 := hy.cell 1
                          have v0 := hy.frozen 0
                          have v1 := hy.frozen 1
                          have hyl := hy.lt
                          simp at d0 d1 v0 v1 hyl)
                       | skip
                     have q0 := kept hcur KQ0.out
                     have q1 := kept hcur KQ1.out
                     have ca := kept hcur KA.out
                     have cb := kept hcur KB.out
                     have cm := kept hcur KM.out))
              all_goals
                have HFA := hide ha4
                have HFR := hide hr4
                have HMV4 := hide hmv4
                have HCUR := hide hcur
                clear hmv4 hcur hbb ha4 hr4
                go_wp2_with fail
                go_meet
                have AP1 : ∀ kk, blk A4 = some kk → kk ≠ G ∧ w1.heap.size ≤ kk := fun kk hk => by
                  have h9 := HFA.out kk hk
                  try simp at h9
                  omega
                have AP2 : ∀ r ∈ R4, ∀ kk, blk r.A = some kk → kk ≠ G ∧ w1.heap.size ≤ kk := fun r hr kk hk => by
                  rcases HFR.out r hr kk hk with h9 | ⟨r0, h0, h1⟩
                  · try simp at h9
                    omega
                  · exact HAP.out.2 r0 h0 kk h1
                first
                  | exact ⟨_, A4, c4, R4, rfl, rfl, Blk.new _ _ _, HMV4.out.below ((Below.refl _ _).alloc (Nat.le_refl _) _), hR4, AP1, AP2, HCUR.out.alloc HCUR.out.size _⟩
                  | exact ⟨_, A4, c4, R4, rfl, rfl, (Blk.drew (Blk.new _ _ _)), HMV4.out.below ((Below.refl _ _).alloc (Nat.le_refl _) _).drew, hR4, AP1, AP2, (HCUR.out.alloc HCUR.out.size _).drew⟩
                  | (refine ⟨_, A4, c4, R4, rfl, rfl, ?_, ?_, hR4, AP1, AP2, ?_⟩
                     · have := (hy.set_ 0 (.int .i64 f3)).set_ 1 (.slice A4 m3 c4)
                       simpa using this
                     · refine (HMV4.out.far (fun kk hk he => ?_) (fun r hr kk hk he => ?_) _).far (fun kk hk he => ?_) (fun r hr kk hk he => ?_) _
                       · have h9 := HFA.out kk hk
                         simp at he
                         try simp at h9
                         omega
                       · simp at he
                         rcases HFR.out r hr kk hk with h9 | ⟨r0, h0, h1⟩
                         · try simp at h9
                           omega
                         · have := (HMV.out.rows r0 h0).lt (HLE.out r0 h0) h1
                           omega
                       · have h9 := HFA.out kk hk
                         simp at he
                         try simp at h9
                         omega
                       · simp at he
                         rcases HFR.out r hr kk hk with h9 | ⟨r0, h0, h1⟩
                         · try simp at h9
                           omega
                         · have := (HMV.out.rows r0 h0).lt (HLE.out r0 h0) h1
                           omega
                     · refine (HCUR.out.setCell ?_ _).setCell ?_ _
                       · simp only
                         omega
                       · simp only
                         omega)
            case rest =>
              obtain ⟨Y, A4, c4, R4, rfl, rfl, hY, hmv4, hR4, ha4, hr4, hb4⟩ := hcut
              have HB4 := hide (chain HBK.out hb4)
              have hz3 := HZ.out.below HB4.out hlt1
              cases hcap : capB (rowO F (allM R) ⟨xa, xb, xm⟩)
              · obtain rfl : E3 = 5 := by rw [HPE.out, hcap]; rfl
                have hno : ofO l = none := by
                  have h1 := HSN.out
                  rw [hcap] at h1
                  have h2 := putAll_none (l' := l.drop (k + 1)) h1
                  rw [List.take_append_drop] at h2
                  rw [ofO, HF.out, HYN.out]; exact h2
                have HE := hide (ofE_over HN.out HOK.out HNB.out hno)
                have z0 := hz3.cell 0
                have z1 := hz3.cell 1
                have t0 := hz3.frozen 0
                have t1 := hz3.frozen 1
                simp [zeroT] at z0 z1
                clear hno hcap hY hmv4 hR4 ha4 hr4 hb4 q0 q1 ca cb cm
                go_wp2_with fail
                rw [HE.out]
                refine ret_row2 (cs := zeroT) (g := w.heap.size) (x := .int .i64 5) rfl rfl rfl rfl (by
                  have := (hz3.set_ 0 (.int .i64 0)).set_ 1 (.slice none 0 0)
                  simpa [zeroT] using this) Try.underlying24 rfl (by kernel_rfl) ?_
                have h0 : ofE l ≠ 0 := by rw [HE.out]; decide
                have hB := ((chain HB1.out HB4.out).setCell (p := ⟨w.heap.size, 0, none⟩) (Nat.le_refl _) (.int .i64 0)).setCell (p := ⟨w.heap.size, 1, none⟩) (Nat.le_refl _) (.slice none 0 0)
                exact ⟨none, 0, [], by rw [ofF, ofM, if_neg h0, if_neg h0]; rfl, by rw [ofM, if_neg h0]; exact mv_nil _, by rw [ofM, if_neg h0]; rfl, ⟨fun kk hk => (by cases hk), fun r hr => (by simp at hr)⟩, hB, hB⟩
              · obtain rfl : E3 = 0 := by rw [HPE.out, hcap]; rfl
                obtain rfl : F = f3 := by have := Hf3.out; rwa [if_pos rfl] at this
                have hC := HC3.out
                rw [if_pos rfl, HPR.out] at hC
                have hm := Hm3.out
                rw [← hC, List.length_set, HSHL.out] at hm
                subst hm
                have hsn := HSN.out
                rw [hcap, if_pos rfl, hC, ← hR4] at hsn
                have HS2 := hide hsn
                have hBw := HB.out.below hb4 hGl
                have q0 := hBw.cell 0
                have q1 := hBw.cell 1
                have p0 := hBw.frozen 0
                have p1 := hBw.frozen 1
                simp [triC] at q0 q1
                have y0 := hY.cell 0
                have y1 := hY.cell 1
                simp at y0 y1
                have HBW4 := hide hBw
                have HMV4 := hide hmv4
                have HA4 := hide ha4
                have HR4 := hide hr4
                clear hC hsn hcap hY hmv4 hR4 ha4 hr4 hb4 hBw hz3 ca cb cm
                go_wp2_with fail
                go_roundw
                case rel =>
                  have hm9 := (HMV4.out.far (p := ⟨G, 0, none⟩) (fun kk hk => (HA4.out kk hk).1) (fun r hr kk hk => (HR4.out r hr kk hk).1) (.int .i64 F)).far (p := ⟨G, 1, none⟩) (fun kk hk => (HA4.out kk hk).1) (fun r hr kk hk => (HR4.out r hr kk hk).1) (.slice A4 n c4)
                  have hB9 : Blk ((wc.setCell ⟨G, 0, none⟩ (.int .i64 F)).setCell ⟨G, 1, none⟩ (.slice A4 n c4)) G 24 (triC F A4 n c4) := by
                    have := (HBW4.out.set_ 0 (.int .i64 F)).set_ 1 (.slice A4 n c4)
                    simpa [triC] using this
                  have hb9 := (HB4.out.setCell (p := ⟨G, 0, none⟩) hG1 (.int .i64 F)).setCell (p := ⟨G, 1, none⟩) hG1 (.slice A4 n c4)
                  exact ⟨k + 1, R4, A4, c4, by omega, by go_num, HS2.out, hm9, ⟨HA4.out, HR4.out⟩, hB9, hb9⟩
                case measure => simp [intOf]; omega
          · obtain rfl : k = l.length := by omega
            rw [List.take_length] at hPA
            have hO : ofO l = some (allM R) := by rw [ofO, HF.out, HYN.out]; exact hPA
            have HE := hide (ofE_ok HN.out HOK.out HNB.out hO)
            have HC := hide (show allM R = ofC l by rw [ofC, hO]; rfl)
            have hz3 := HZ.out.below HBK.out hlt1
            have z0 := hz3.cell 0
            have z1 := hz3.cell 1
            have t0 := hz3.frozen 0
            have t1 := hz3.frozen 1
            simp [zeroT] at z0 z1
            have q0 := HB.out.cell 0
            have q1 := HB.out.cell 1
            simp [triC] at q0 q1
            clear hPA hO
            go_wp2_with fail
            rw [HE.out]
            have e1 : ofF l = F := by rw [ofF, if_pos HE.out, HF.out]
            have e2 : ofM l = allM R := by rw [ofM, if_pos HE.out, HC.out]
            have e3 : (allM R).length = n := by rw [allM_len]; exact HMV.out.len
            rw [e1, e2, e3]
            have h9 := HBK.out.size
            have NA : ∀ kk, blk A' = some kk → kk ≠ w.heap.size := fun kk hk => by have := (HAP.out.1 kk hk).2; omega
            have NR : ∀ r ∈ R, ∀ kk, blk r.A = some kk → kk ≠ w.heap.size := fun r hr kk hk => by have := (HAP.out.2 r hr kk hk).2; omega
            refine ret_row2 (cs := triC F A' n cap') (g := w.heap.size) (x := .int .i64 0) rfl rfl rfl rfl (by
              have := (hz3.set_ 0 (.int .i64 F)).set_ 1 (.slice A' n cap')
              simpa [zeroT, triC] using this) Try.underlying24 rfl (by kernel_rfl) ?_
            have hB := ((chain HB1.out HBK.out).setCell (p := ⟨w.heap.size, 0, none⟩) (Nat.le_refl _) (.int .i64 F)).setCell (p := ⟨w.heap.size, 1, none⟩) (Nat.le_refl _) (.slice A' n cap')
            exact ⟨A', cap', R, rfl, (HMV.out.far (p := ⟨w.heap.size, 0, none⟩) NA NR _).far (p := ⟨w.heap.size, 1, none⟩) NA NR _, rfl, ⟨fun kk hk => by have := (HAP.out.1 kk hk).2; omega, fun r hr kk hk => by have := (HAP.out.2 r hr kk hk).2; omega⟩, hB, hB⟩
theorem ofR_g {w0 w : World} {A : Option Addr} {n cap : Nat} {l : List R3} {f E : Int} {C : List (List Int)} {m : Nat} (hs : SV w0 3 A n cap (l.map enc3)) (hb : Below w0.heap.size w0 w) (hE : ofE l = E) (hf : ofF l = f) (hC : ofM l = C) (hm : C.length = m) :
    Calls Try.prog 18 #[.slice A n cap] w (OfG w0 w f C m E) := by
  have hn : l.length = n := by have := hs.len; simpa using this
  subst hn hE hf hC hm
  exact (ofR_any A cap l w (hs.below hb)).mono fun _ _ ⟨A', c', R, he, h1, h2, h3, h4, _⟩ => ⟨A', c', R, he, h1, h2, h3, from_base hb h4⟩
theorem right_of (l : List R3) : rightC (ofF l) (ofM l) = (ofE l == 0) := by
  unfold ofF ofM
  by_cases h : ofE l = 0
  · rw [if_pos h, if_pos h, (made h).2.2.2.2.1, h]; rfl
  · rw [if_neg h, if_neg h, litR0]
    symm; simp; exact h
end Go.Proofs.Ytclcjonogjinfaa
