/- Part 10 of the proof. -/
import Derived.Deep.RegionHeld3
import Derived.Deep.CutRange
import Derived.Test.YtmfohnchnbgbaaaGreatTcM09
/- The triangle of rows: the program's walk. -/
namespace Go.Proofs.YtmfohnchnbgbaaaGreat
open Go.RowKit

/-- The blocks of a triangle are new. -/
def FreshT (w : World) (A : Option Addr) (R : List Rw) : Prop := (∀ kk, blk A = some kk → w.heap.size ≤ kk) ∧ ∀ r ∈ R, ∀ kk, blk r.A = some kk → w.heap.size ≤ kk
/-- What Put and Of leave. -/
def PutN (w : World) (f : Int) (c : List (List Int)) (code : Int) (e : Ending) (w' : World) : Prop :=
  Below w.heap.size w w' ∧ ((code ≠ 0 ∧ e = .returned (.tuple #[.agg #[.int .i64 0, .slice none 0 0], .int .i64 code])) ∨
    (code = 0 ∧ ∃ A' c' R, e = .returned (.tuple #[.agg #[.int .i64 f, .slice A' R.length c'], .int .i64 0]) ∧ MV w' A' R.length c' R ∧ allM R = c ∧ FreshT w A' R))
theorem noT_at {w wx : World} {f : Int} {c : List (List Int)} {fn : Func} {a : Act} {code : Int} {g : Nat} {p tr : Tmp} (hz : Blk wx g 36 zeroT) (hg : w.heap.size ≤ g) (hb : Below w.heap.size w wx) (hc : code ≠ 0)
    (hr : fn.results = #[.cell p 36, .tmp tr]) (hd : a.defers = []) (hp : a.tmps.getD p undef = .pointer (some ⟨g, 0, none⟩)) (hx : a.tmps.getD tr undef = .int .i64 code) :
    bodyPost Tryz.prog fn (PutN w f c code) .ret a ((wx.setCell ⟨g, 0, none⟩ (.int .i64 0)).setCell ⟨g, 1, none⟩ (.slice none 0 0)) := by
  have h2 : Blk ((wx.setCell ⟨g, 0, none⟩ (.int .i64 0)).setCell ⟨g, 1, none⟩ (.slice none 0 0)) g 36 zeroT := by
    have := (hz.set_ 0 (.int .i64 0)).set_ 1 (.slice none 0 0)
    simpa [zeroT] using this
  exact ret_row2 hr hd hp hx h2 Tryz.underlying36 rfl (by kernel_rfl) ⟨(hb.setCell (p := ⟨g, 0, none⟩) hg _).setCell (p := ⟨g, 1, none⟩) hg _, .inl ⟨hc, rfl⟩⟩
theorem noT_is {w wx : World} {f : Int} {c : List (List Int)} {fn : Func} {a : Act} {code : Int} {g : Nat} {p tr : Tmp} (hz : Blk wx g 36 zeroT) (hb : Below w.heap.size w wx) (hc : code ≠ 0)
    (hr : fn.results = #[.cell p 36, .tmp tr]) (hd : a.defers = []) (hp : a.tmps.getD p undef = .pointer (some ⟨g, 0, none⟩)) (hx : a.tmps.getD tr undef = .int .i64 code) :
    bodyPost Tryz.prog fn (PutN w f c code) .ret a wx :=
  ret_row2 hr hd hp hx hz Tryz.underlying36 rfl (by kernel_rfl) ⟨hb, .inl ⟨hc, rfl⟩⟩
theorem yesT_at {w w0 wx : World} {f : Int} {c : List (List Int)} {fn : Func} {a : Act} {G g : Nat} {p tr : Tmp} {R : List Rw} {A : Option Addr} {cap : Nat} (h : TS w0 G f R [] A cap wx) {n : Nat} (hn : R.length = n) (hb : Below w.heap.size w w0) (hz : Blk w0 g 36 zeroT) (hg : w.heap.size ≤ g) (hc : allM R = c)
    (hr : fn.results = #[.cell p 36, .tmp tr]) (hd : a.defers = []) (hp : a.tmps.getD p undef = .pointer (some ⟨g, 0, none⟩)) (hx : a.tmps.getD tr undef = .int .i64 0) :
    bodyPost Tryz.prog fn (PutN w f c 0) .ret a ((wx.setCell ⟨g, 0, none⟩ (.int .i64 f)).setCell ⟨g, 1, none⟩ (.slice A n cap)) := by
  subst hn
  have hzl := hz.lt
  have hz' := hz.below h.bel hzl
  have h2 : Blk ((wx.setCell ⟨g, 0, none⟩ (.int .i64 f)).setCell ⟨g, 1, none⟩ (.slice A R.length cap)) g 36 (triC f A R.length cap) := by
    have := (hz'.set_ 0 (.int .i64 f)).set_ 1 (.slice A R.length cap)
    simpa [zeroT, triC] using this
  have hw : Below w.heap.size w wx := chain hb h.bel
  exact ret_row2 hr hd hp hx h2 Tryz.underlying36 rfl (by kernel_rfl) ⟨(hw.setCell (p := ⟨g, 0, none⟩) hg _).setCell (p := ⟨g, 1, none⟩) hg _, .inr ⟨rfl, A, cap, R, rfl, h.mvfar (p := ⟨g, 0, none⟩) (q := ⟨g, 1, none⟩) hzl hzl _ _, hc, fun kk hk => Nat.le_trans hb.size (h.own.lt kk hk).1, fun r hr kk hk => Nat.le_trans hb.size (h.ap r hr kk hk).1⟩⟩

theorem make_ints (v : Int) (L : List Int) (hv : v = L.length) (hm : L.length ≤ 1000) (hz : L = List.replicate L.length 0) (W : World) :
    (Instr.makeSlice 39 (.int .i64 v) (.int .i64 v)).run Tryz.prog W = .ok (.slice (some ⟨W.heap.size, 0, none⟩) L.length L.length) (W.alloc (.cells (cellsI L) 3)) := by
  have h := run_make_row' (P := Tryz.prog) 39 3 (.int .i64 0) 8 Tryz.underlying39 (by kernel_rfl) rfl .i64 .i64 L.length (by omega) (by omega) W
  have e : madeCells #[Value.int .i64 0] L.length = cellsI L := by
    apply Array.ext'
    rw [toList_madeCells_one]
    conv => rhs; rw [hz]
    simp [cellsI]
  rw [hv, h, e]

set_option maxRecDepth 100000 in
set_option maxHeartbeats 8000000 in
theorem of_any (A : Option Addr) (cap : Nat) (l : List R3) (w : World) (hs : SV w 3 A l.length cap (l.map enc3)) :
    Calls Tryz.prog 11 #[.slice A l.length cap] w (PutN w (fromL l) (ofC l) (ofE l)) := by
  have HS := hide hs
  have hmx := hs.le
  have hmy := hs.most
  unfold maxLen at hmy
  clear hs
  by_cases hnil : l.length = 0
  · have HE := hide (show ofE l = 7 by obtain rfl := List.eq_nil_of_length_eq_zero hnil; rfl)
    go_enter Tryz.func11, Tryz.ntmps11
    go_wp2_with fail
    rw [HE.out]
    exact noT_is (code := 7) (Blk.new _ _ zeroT) ((Below.refl _ _).alloc (Nat.le_refl _) _) (by decide) rfl rfl rfl rfl
  have HN := hide (show l ≠ [] by intro h; subst h; exact hnil rfl)
  have hni : ((l.length : Int) == 0) = false := by simp; exact HN.out
  go_enter Tryz.func11, Tryz.ntmps11
  go_wp2_with fail
  obtain ⟨w1, hw1⟩ : ∃ W, w.alloc (.cells #[.int .i64 0, .slice none 0 0] 36) = W := ⟨_, rfl⟩
  have hz : Blk w1 w.heap.size 36 zeroT := by rw [← hw1]; exact Blk.new _ _ _
  have hb1 : Below w.heap.size w w1 := by rw [← hw1]; exact (Below.refl _ _).alloc (Nat.le_refl _) _
  rw [hw1]
  clear hw1
  have HZ := hide hz
  have HB1 := hide hb1
  have hlt1 := hz.lt
  go_loopw [4, 5, 30] (fun a b i wr => ∃ (k : Nat) (F T : Int), k ≤ l.length ∧ i = .int .i64 k ∧ a = .int .i64 F ∧ b = .int .i64 T ∧ fromL (l.take k) = F ∧ toL (l.take k) = T ∧ chkL (l.take k) = 0 ∧ Below w1.heap.size w1 wr) (fun _ _ i _ => l.length - (intOf i).toNat)
  case atStart => exact ⟨0, 2401, 0, Nat.zero_le _, rfl, rfl, rfl, rfl, rfl, rfl, Below.refl _ _⟩
  case round =>
    clear hz hb1
    obtain ⟨k, F, T, hk, rfl, rfl, rfl, hF, hT, hok, hb⟩ := hrel
    by_cases hlt : k < l.length
    · obtain ⟨⟨xa, xb, xm⟩, hx⟩ := get_of hlt
      obtain ⟨bb, off, rfl, hbl, ca, cb, cm⟩ := (HS.out.below HB1.out |>.below hb).sl.r3 hx
      simp only at ca cb cm
      have hk0 : (0 : Int) ≤ (k : Int) := by omega
      have hk1 : (k : Int) < (l.length : Int) := by omega
      have HX := hide hx
      have HOK := hide hok
      have HF := hide hF
      have HT := hide hT
      have HBW := hide hb
      have hsz := hb.size
      have z0 := (HZ.out.below hb hlt1).cell 0
      have z1 := (HZ.out.below hb hlt1).cell 1
      have t0 := (HZ.out.below hb hlt1).frozen 0
      have t1 := (HZ.out.below hb hlt1).frozen 1
      simp [zeroT] at z0 z1
      clear hx hok hF hT hb
      go_wp2_with fail
      refine (check_any xa xb xm _).mono ?_
      rintro e w2 ⟨rfl, hb2⟩
      have x0 := kept hb2 (b := wr.heap.size) (o := 0) (u := .int .i64 xa) (by simp)
      have x1 := kept hb2 (b := wr.heap.size) (o := 1) (u := .int .i64 xb) (by simp)
      have hbx : Below wr.heap.size wr w2 := chain1 hb2
      have hb3 : Below w1.heap.size w1 w2 := chain HBW.out hbx
      have hz3 := HZ.out.below hb3 hlt1
      have hsz3 := hb3.size
      clear hb2 z0 z1 t0 t1 ca cb cm
      by_cases hc : chk ⟨xa, xb, xm⟩ = 0
      · have HC := hide hc
        have hyr := chk_yr hc
        obtain ⟨Y1, hY1⟩ : ∃ Y, yrV xa = Y := ⟨_, rfl⟩
        obtain ⟨Y2, hY2⟩ : ∃ Y, yrV xb = Y := ⟨_, rfl⟩
        simp only [hY1, hY2] at hyr
        have HF2 := hide (show fromL (l.take (k + 1)) = min F Y1 by rw [fromL_take HX.out, HF.out, ← hY1])
        have HT2 := hide (show toL (l.take (k + 1)) = max T Y2 by rw [toL_take HX.out, HT.out, ← hY2])
        have HY1 := hide hY1
        have HY2 := hide hY2
        rw [hc]
        clear hc hY1 hY2
        go_wp2_with fail
        refine (year_v xa _).mono ?_
        rintro e w4 ⟨rfl, rfl⟩
        rw [HY1.out]
        go_wp2_with fail
        refine (year_v xb _).mono ?_
        rintro e w4 ⟨rfl, rfl⟩
        rw [HY2.out]
        rcases Int.lt_or_le Y1 F with hm1 | hm1 <;> rcases Int.lt_or_le T Y2 with hm2 | hm2
        all_goals
          go_wp2_with fail
          go_roundw
          case rel => exact ⟨k + 1, _, _, by omega, by go_num, rfl, rfl, by rw [HF2.out] <;> omega, by rw [HT2.out] <;> omega, chkL_take HX.out HOK.out HC.out, hb3⟩
          case measure => simp [intOf]; omega
      · have hcr : chk ⟨xa, xb, xm⟩ = 1 ∨ chk ⟨xa, xb, xm⟩ = 4 := by have := chk_range ⟨xa, xb, xm⟩; omega
        have HE := hide (ofE_chk HN.out (by rw [chkL_at HX.out HOK.out hc]; exact hc) |>.trans (chkL_at HX.out HOK.out hc))
        have z0 := hz3.cell 0
        have z1 := hz3.cell 1
        have t0 := hz3.frozen 0
        have t1 := hz3.frozen 1
        simp [zeroT] at z0 z1
        rcases hcr with e | e
        all_goals
          have HE2 := hide (HE.out.trans e)
          rw [e]
          clear hc e HE
          go_wp2_with fail
          rw [HE2.out]
          exact noT_at hz3 (Nat.le_refl _) (chain HB1.out hb3) (by decide) rfl rfl rfl rfl
    · obtain rfl : k = l.length := by omega
      rw [List.take_length] at hF hT hok
      have HOK := hide hok
      have HF := hide hF
      have HT := hide hT
      have HBW := hide hb
      have hz3 := HZ.out.below hb hlt1
      have hsz := hb.size
      have fb := from_bd hok
      have tb := to_bd hok
      have ft := from_to hok HN.out
      rw [hF] at fb ft
      rw [hT] at tb ft
      obtain ⟨fb1, fb2⟩ := fb
      obtain ⟨tb1, tb2⟩ := tb
      by_cases hbig : 2000 < l.length ∨ 20 < T - F + 1
      · have HE := hide (ofE_bound HN.out hok (by rw [hF, hT]; exact hbig))
        have z0 := hz3.cell 0
        have z1 := hz3.cell 1
        have t0 := hz3.frozen 0
        have t1 := hz3.frozen 1
        simp [zeroT] at z0 z1
        clear hF hT hok hb
        rcases (show 2000 < l.length ∨ (l.length ≤ 2000 ∧ 20 < T - F + 1) by omega) with g | ⟨g, g'⟩
        all_goals
          clear hbig
          go_wp2_with fail
          rw [HE.out]
          exact noT_at hz3 (Nat.le_refl _) (chain HB1.out HBW.out) (by decide) rfl rfl rfl rfl
      · obtain ⟨n, hn⟩ : ∃ n : Nat, T - F + 1 = (n : Int) := ⟨(T - F + 1).toNat, by omega⟩
        have HNB := hide (show ¬(2000 < l.length ∨ 20 < toL l - fromL l + 1) by rw [hF, hT]; exact hbig)
        have HYN := hide (show yearsN l = n by rw [yearsN, hF, hT, hn]; simp)
        have g1 : l.length ≤ 2000 := by omega
        have g2 : n ≤ 20 := by omega
        have g3 : 1 ≤ n := by omega
        have hn20 : T - F + 1 ≤ 20 := by omega
        clear hbig hF hT hok hb
        obtain ⟨w3, hw3⟩ : ∃ W, wr = W := ⟨_, rfl⟩
        rw [hw3] at HBW hz3 hsz ⊢
        have HZ3 := hide hz3
        clear hz3 hw3 wr
        go_wp2_with fail
        obtain ⟨w4, hw4⟩ : ∃ W, w3.alloc (.cells #[.int .i64 F, .slice none 0 0] 36) = W := ⟨_, rfl⟩
        have hT0 : TS w3 w3.heap.size F [] [] none 0 w4 := by
          rw [← hw4]
          exact ⟨Blk.new _ _ _, OwnS.nil_ _ _ _ _, (fun r hr => by simp at hr), (fun r hr => by simp at hr), (fun i j r s hr => by simp at hr), by simp [blk], Nat.le_refl _, (Below.refl _ _).alloc (Nat.le_refl _) _⟩
        rw [hw4]
        obtain ⟨G, hG⟩ : ∃ G, w3.heap.size = G := ⟨_, rfl⟩
        rw [hG] at hT0 ⊢
        have HT0 := hide hT0
        have HG := hide hG
        clear hw4 hT0 hG
        go_loopw [74] (fun i wr => ∃ (k : Nat) (R : List Rw) (A' : Option Addr) (cap' : Nat), k ≤ n ∧ i = .int .i64 k ∧ R.length = k ∧ allM R = (zerosT n).take k ∧ TS w3 G F R [] A' cap' wr) (fun i _ => n - (intOf i).toNat)
        case atStart => exact ⟨0, [], none, 0, Nat.zero_le _, rfl, rfl, rfl, HT0.out⟩
        case round =>
          clear HT0
          obtain ⟨k, R, A', cap', hk, rfl, rfl, hRM, hTS⟩ := hrel
          have o0 := hTS.o0.cell 0
          have o1 := hTS.o0.cell 1
          have u1 := hTS.o0.frozen 1
          simp [triC] at o0 o1
          have hGl := hTS.o0.lt
          have hbs := hTS.bel.size
          have HTS := hide hTS
          have HRM := hide hRM
          clear hTS hRM
          by_cases hlt : R.length < n
          · obtain ⟨L, hL⟩ : ∃ L : List Int, L = List.replicate (n - R.length) 0 := ⟨_, rfl⟩
            have hLl : L.length = n - R.length := by rw [hL, List.length_replicate]
            have hLI : (n : Int) - (R.length : Int) = L.length := by omega
            have hmk := make_ints (IntKind.i64.wrap ((n : Int) - (R.length : Int))) L (by rw [IntWalk.i64_in _ (by omega)]; exact hLI) (by omega) (by rw [hLl]; exact hL)
            have hL20 : L.length ≤ 20 := by omega
            have HL := hide hL
            have hR20 : R.length ≤ 20 := by omega
            have hkn : (R.length : Int) < (n : Int) := by omega
            clear hLl hL hLI
            go_upto_region 21 with fail
            go_region_law (first
              | (refine step_app rfl (.tmp 78) (.tmp 83) 34 rfl elRow (B := w3.heap.size) (rows := R.map encRw) (A2 := some ⟨_, 0, none⟩) (news := [(⟨some ⟨wr.heap.size, 0, none⟩, L, L.length⟩ : Rw)].map encRw) rfl ?_ rfl rfl ?_ (okRw [⟨some ⟨wr.heap.size, 0, none⟩, L, L.length⟩]) ?_ ?_ ?_ ?_
                 · first | exact ((HTS.out.own0.alloc _).alloc _).drew
                 · first | exact sl_of_blk (cs := #[.slice (some ⟨wr.heap.size, 0, none⟩) L.length L.length]) (Blk.drew (Blk.new' (by simp)))
                 · (simp only [maxLen]; omega)
                 · omega
                 · (simp; try omega)
                 intro A2 c2 wb ho2 hg2 ha2
                 have hwo : Below wr.heap.size wr (((wr.alloc (.cells (cellsI L) 3)).alloc (.cells #[.slice (some ⟨wr.heap.size, 0, none⟩) L.length L.length] 39)).drew) := (((Below.refl _ _).alloc (Nat.le_refl _) _).alloc (by simp) _).drew
                 have hP2 := HTS.out.add (r := ⟨some ⟨wr.heap.size, 0, none⟩, L, L.length⟩) hwo ⟨wr.heap.size, rfl, rfl, by simp only; omega, ((Blk.new wr 3 (cellsI L)).alloc _).drew⟩ (fun kk hk => by simp only [blk] at hk; cases hk; exact Nat.le_refl _) ho2 hg2 ha2
                 have HP2 := hide hP2
                 have hgo := Blk.grown (HTS.out.below hwo).o0 hg2 (fun he => HTS.out.ne he.symm)
                 have d6 := hgo.cell 1
                 have v6 := hgo.frozen 1
                 simp [triC] at d6
                 clear hP2 hgo hwo))
            all_goals
              go_wp2_with fail
              go_roundw
              case rel => exact ⟨R.length + 1, R ++ [⟨some ⟨wr.heap.size, 0, none⟩, L, L.length⟩], A2, c2, by omega, by go_num, by simp, by rw [allM, List.map_append, take_of (zerosT_get hlt), ← HL.out]; exact congrArg (· ++ [L]) HRM.out, HP2.out⟩
              case measure => simp [intOf]; omega
          · have e : R.length = n := by omega
            have hRM := HRM.out
            rw [e, List.take_of_length_le (by rw [zerosT_len]; exact Nat.le_refl _)] at hRM
            rw [e]
            have HTS0 := hide HTS.out
            have HRM0 := hide hRM
            clear hRM HRM HTS e hk hlt o0 o1 u1 hGl hbs
            go_wp2_with fail
            go_loopw [89] (fun i wr => ∃ (k : Nat) (R : List Rw) (A' : Option Addr) (cap' : Nat), k ≤ l.length ∧ i = .int .i64 k ∧ putAll F (zerosT n) (l.take k) = some (allM R) ∧ TS w3 G F R [] A' cap' wr) (fun i _ => l.length - (intOf i).toNat)
            case atStart => exact ⟨0, R, A', cap', Nat.zero_le _, rfl, by rw [HRM0.out]; rfl, HTS0.out⟩
            case round =>
              clear HRM0 HTS0
              clear R A' cap'
              obtain ⟨k, R, A', cap', hk, rfl, hPA, hTS⟩ := hrel
              by_cases hlt : k < l.length
              · obtain ⟨⟨xa, xb, xm⟩, hx⟩ := get_of hlt
                have hbw := chain HBW.out hTS.bel
                obtain ⟨bb, off, rfl, hbl, ca, cb, cm⟩ := (HS.out.below (chain HB1.out hbw)).sl.r3 hx
                simp only at ca cb cm
                have hk0 : (0 : Int) ≤ (k : Int) := by omega
                have hk1 : (k : Int) < (l.length : Int) := by omega
                have hxm := List.mem_of_getElem? hx
                have hc := chkL_ok.1 HOK.out _ hxm
                have hyr := chk_yr hc
                have hck := chk_ok hc
                have hfl := from_le hxm
                have htl := le_to hxm
                rw [HF.out] at hfl
                rw [HT.out] at htl
                obtain ⟨Y1, hY1⟩ : ∃ Y, yrV xa = Y := ⟨_, rfl⟩
                obtain ⟨Y2, hY2⟩ : ∃ Y, yrV xb = Y := ⟨_, rfl⟩
                simp only [hY1, hY2] at hyr hfl htl
                obtain ⟨_, _, _, hxm0, hxm1⟩ := hck
                simp only at hxm0 hxm1
                obtain ⟨D, hD⟩ : ∃ D : Nat, Y2 - Y1 = (D : Int) := ⟨(Y2 - Y1).toNat, by omega⟩
                have hidx : idxO F ⟨xa, xb, xm⟩ = (Y1 - F).toNat := by simp only [idxO, hY1]
                have hdev : devO ⟨xa, xb, xm⟩ = (D : Int) := by simp only [devO, hY1, hY2, hD]
                have hsh := shape_all (shape_zeros n) (fun y hy => (chk_ok (chkL_ok.1 HOK.out y (List.mem_of_mem_take hy))).2.2.2.1) hPA
                obtain ⟨hsl, hsr⟩ := hsh
                rw [allM_len] at hsl
                obtain ⟨⟨rA, rl, rc⟩, hr⟩ := get_of (l := R) (k := (Y1 - F).toNat) (by omega)
                obtain ⟨hrl, hrv⟩ := hsr _ _ (allM_get hr)
                have hrB := hTS.rows _ (List.mem_of_getElem? hr)
                obtain ⟨b, hbA, hbc, hbm, hbk⟩ := hrB
                simp only at hbA hbc hbm hbk hrl hrv
                subst hbA hbc
                obtain ⟨bb2, off2, rfl, hbl2, hc2⟩ := hTS.mv.sv.sl.rw hr
                simp only at hc2
                have o0 := hTS.o0.cell 0
                have o1 := hTS.o0.cell 1
                simp [triC] at o0 o1
                have hGl := hTS.o0.lt
                have hbs := hTS.bel.size
                have hq0 : (0 : Int) ≤ Y1 - F := by omega
                have hq1 : Y1 - F < (R.length : Int) := by omega
                have hrow : rowO F (allM R) ⟨xa, xb, xm⟩ = moreL (D : Int) xm rl := by
                  rw [rowO, hidx, hdev, List.getD_eq_getElem?_getD, allM_get hr]; rfl
                have hsn := putAll_snoc (f := F) (x := ⟨xa, xb, xm⟩) (l := l.take k) (c := zerosT n)
                rw [hPA, ← take_of hx, Option.bind_some, hrow, hidx] at hsn
                have HSN := hide hsn
                have HTS := hide hTS
                have HR := hide hr
                have HRV := hide hrv
                have HRL := hide hrl
                have HY1 := hide hY1
                have HY2 := hide hY2
                have HX := hide hx
                have hDl : D < rl.length := by omega
                have hrl20 : rl.length ≤ 20 := by omega
                clear hsn hTS hr hrv hrl hY1 hY2 hx hxm hc hPA hsr hidx hdev hrow hbk hsl hbw
                go_wp2_with fail
                refine (year_v xa _).mono ?_
                rintro e w5 ⟨rfl, rfl⟩
                rw [HY1.out]
                go_wp2_with fail
                refine (year_v xb _).mono ?_
                rintro e w5 ⟨rfl, rfl⟩
                rw [HY2.out]
                go_wp2_with fail
                obtain ⟨w6, hw6⟩ : ∃ W, wr.alloc (.cells #[.int .i64 xa, .int .i64 xb, .int .i64 xm] 54) = W := ⟨_, rfl⟩
                have hB6 : Blk w6 wr.heap.size 54 #[.int .i64 xa, .int .i64 xb, .int .i64 xm] := by rw [← hw6]; exact Blk.new _ _ _
                have hT6 : TS w3 G F R [] (some ⟨bb2, off2, none⟩) cap' w6 := by rw [← hw6]; exact HTS.out.below ((Below.refl _ _).alloc (Nat.le_refl _) _)
                have hbX : b < wr.heap.size := (HTS.out.rows _ (List.mem_of_getElem? HR.out)).lt rfl
                have hb3 : w3.heap.size ≤ b := (HTS.out.ap _ (List.mem_of_getElem? HR.out) b rfl).1
                rw [hw6]
                obtain ⟨X, hX⟩ : ∃ X, wr.heap.size = X := ⟨_, rfl⟩
                rw [hX] at hB6 hbX ⊢
                have HB6 := hide hB6
                have HT6 := hide hT6
                clear hw6 hB6 hT6 HTS hX ca cb cm o0 o1 hc2 hGl hbs hbl hbl2 wr
                go_loopw [23] (fun i wr => ∃ q : Nat, D ≤ q ∧ q ≤ rl.length ∧ i = .int .i64 q ∧ (∀ (j : Nat) (v : Int), D ≤ j → j < q → rl[j]? = some v → v + xm ≤ 100000000000000000) ∧ TS w3 G F (R.set (Y1 - F).toNat ⟨some ⟨b, 0, none⟩, moreP D xm rl q, rl.length⟩) [] (some ⟨bb2, off2, none⟩) cap' wr ∧ Blk wr X 54 #[.int .i64 xa, .int .i64 xb, .int .i64 xm]) (fun i _ => rl.length - (intOf i).toNat)
                case atStart => exact ⟨D, Nat.le_refl _, by omega, rfl, fun j v h1 h2 => by omega, by rw [moreP_start, set_same HR.out]; exact HT6.out, HB6.out⟩
                case round =>
                  clear HB6 HT6
                  obtain ⟨q, hq1, hq2, rfl, hok, hTS, hBX⟩ := hrel
                  have HOKQ := hide hok
                  clear hok
                  by_cases hql : q < rl.length
                  · obtain ⟨v, hv⟩ := get_of hql
                    obtain ⟨v0, v1⟩ := HRV.out v (List.mem_of_getElem? hv)
                    have hri := lt_of_get HR.out
                    have hr2 : (R.set (Y1 - F).toNat ⟨some ⟨b, 0, none⟩, moreP D xm rl q, rl.length⟩)[(Y1 - F).toNat]? = some ⟨some ⟨b, 0, none⟩, moreP D xm rl q, rl.length⟩ := by rw [List.getElem?_set, if_pos rfl, if_pos hri]
                    have hrB := hTS.rows _ (List.mem_of_getElem? hr2)
                    obtain ⟨b', hbA, _, _, hbk⟩ := hrB
                    simp only at hbA hbk
                    cases hbA
                    have cv := hbk.cell q
                    have fv := hbk.frozen q
                    have hb4 := hbk.lt
                    rw [cellsI, List.getElem?_toArray, List.getElem?_map, moreP_get hv] at cv
                    simp only [Option.map_some] at cv
                    have x2 := hBX.cell 2
                    simp at x2
                    have hq0' : (0 : Int) ≤ (q : Int) := by omega
                    have hq1' : (q : Int) < (rl.length : Int) := by omega
                    have HTS := hide hTS
                    have HBX := hide hBX
                    have HV := hide hv
                    have HR2 := hide hr2
                    have HBK := hide hbk
                    clear hTS hBX hv hr2 hbk
                    go_upto_region 32 with fail
                    have hwr : IntKind.i64.wrap (v + xm) = v + xm := IntWalk.i64_in _ (by omega)
                    go_region_law (fail)
                    all_goals
                      obtain ⟨W, hW⟩ : ∃ W, (wr.setCell ⟨b, q, none⟩ (.int .i64 (v + xm))).drew = W := ⟨_, rfl⟩
                      have hTW : TS w3 G F (R.set (Y1 - F).toNat ⟨some ⟨b, 0, none⟩, moreP D xm rl (q + 1), rl.length⟩) [] (some ⟨bb2, off2, none⟩) cap' W := by
                        rw [← hW]
                        have h1 := (HTS.out.put HR2.out rfl (k := q) (v + xm)).drew
                        rw [List.set_set] at h1
                        simp only [moreP_set hq1 HV.out] at h1
                        exact h1
                      have hBW : Blk W X 54 #[.int .i64 xa, .int .i64 xb, .int .i64 xm] := by rw [← hW]; exact (HBX.out.far (p := ⟨b, q, none⟩) (by simp only; omega) _).drew
                      have cW : W.cell? ⟨b, q, none⟩ = some (.int .i64 (v + xm)) := by
                        rw [← hW, ((HBK.out.set_ q (.int .i64 (v + xm))).drew).cell q]
                        simp [cellsI, moreP_len, hql]
                      have hzW := HZ3.out.below hTW.bel (Nat.lt_of_lt_of_le hlt1 hsz)
                      have z0 := hzW.cell 0
                      have z1 := hzW.cell 1
                      have t0 := hzW.frozen 0
                      have t1 := hzW.frozen 1
                      simp [zeroT] at z0 z1
                      rw [hW]
                      clear hW cv fv x2 hb4 hbX
                      have HTW := hide hTW
                      have HBW2 := hide hBW
                      clear hTW hBW HTS HBX HR2 HBK wr
                      by_cases hov : 100000000000000000 < v + xm
                      · have hno : ofO l = none := by
                          have h1 := HSN.out
                          rw [capB_no HV.out (by omega) hov] at h1
                          have h2 := putAll_none (l' := l.drop (k + 1)) h1
                          rw [List.take_append_drop] at h2
                          rw [ofO, HF.out, HYN.out]; exact h2
                        have HE := hide (ofE_over HN.out HOK.out HNB.out hno)
                        clear hno
                        go_wp2_with fail
                        rw [HE.out]
                        exact noT_at hzW (Nat.le_refl _) (chain HB1.out (chain HBW.out HTW.out.bel)) (by decide) rfl rfl rfl rfl
                      · clear hzW z0 z1 t0 t1
                        go_wp2_with fail
                        go_roundw
                        case rel => exact ⟨q + 1, by omega, by omega, by go_num, fun j u h1 h2 h3 => by
                            by_cases hj : j < q
                            · exact HOKQ.out j u h1 hj h3
                            · obtain rfl : j = q := by omega
                              rw [HV.out] at h3; cases h3; omega, HTW.out, HBW2.out⟩
                        case measure => simp [intOf]; omega
                  · obtain rfl : q = rl.length := by omega
                    have hcap : capB (moreL (D : Int) xm rl) = true := capB_yes (fun u hu => (HRV.out u hu).2) (fun j u h1 h2 => HOKQ.out j u (by omega) (lt_of_get h2) h2)
                    rw [moreP_end rfl] at hTS
                    have hsn := HSN.out
                    rw [hcap, if_pos rfl] at hsn
                    have HS2 := hide hsn
                    have HTS := hide hTS
                    clear hsn hTS hBX hcap hq1 hq2
                    go_wp2_with fail
                    go_roundw
                    case rel => exact ⟨k + 1, _, _, _, by omega, by go_num, by rw [HS2.out, allM, allM, List.map_set], HTS.out⟩
                    case measure => simp [intOf]; omega
              · obtain rfl : k = l.length := by omega
                rw [List.take_length] at hPA
                have hO : ofO l = some (allM R) := by rw [ofO, HF.out, HYN.out]; exact hPA
                have HE := hide (ofE_ok HN.out HOK.out HNB.out hO)
                have HC := hide (show allM R = ofC l by rw [ofC, hO]; rfl)
                have o0 := hTS.o0.cell 0
                have o1 := hTS.o0.cell 1
                simp [triC] at o0 o1
                have hzW := HZ3.out.below hTS.bel (Nat.lt_of_lt_of_le hlt1 hsz)
                have z0 := hzW.cell 0
                have z1 := hzW.cell 1
                have t0 := hzW.frozen 0
                have t1 := hzW.frozen 1
                simp [zeroT] at z0 z1
                have HTS := hide hTS
                clear hTS hPA hO hzW
                go_wp2_with fail
                rw [HE.out, HF.out]
                exact yesT_at HTS.out rfl (chain HB1.out HBW.out) HZ3.out (Nat.le_refl _) HC.out rfl rfl rfl rfl
end Go.Proofs.YtmfohnchnbgbaaaGreat

/- The program lives: three rows, of two years. -/
namespace Go.Proofs.YtmfohnchnbgbaaaGreat
open Go.RowKit

theorem PutN.yes {w w' : World} {f : Int} {c : List (List Int)} {e : Ending} (h : PutN w f c 0 e w') : Below w.heap.size w w' ∧ ∃ A' c' R, e = .returned (.tuple #[.agg #[.int .i64 f, .slice A' R.length c'], .int .i64 0]) ∧ MV w' A' R.length c' R ∧ allM R = c ∧ FreshT w A' R := by
  obtain ⟨h1, ⟨h2, _⟩ | ⟨_, h2⟩⟩ := h
  · exact absurd rfl h2
  · exact ⟨h1, h2⟩
theorem PutN.no {w w' : World} {f code : Int} {c : List (List Int)} {e : Ending} (h : PutN w f c code e w') (hc : code ≠ 0) : Below w.heap.size w w' ∧ e = .returned (.tuple #[.agg #[.int .i64 0, .slice none 0 0], .int .i64 code]) := by
  obtain ⟨h1, ⟨_, h2⟩ | ⟨h3, _⟩⟩ := h
  · exact ⟨h1, h2⟩
  · exact absurd h3 hc
/-- What lies there while the program is tried. -/
structure Liv (w : World) (X Y : Nat) (A Ad Au A1 A2 U1 U2 : Option Addr) (c cd cu c1 c2 e1 e2 : Nat) (wx : World) : Prop where
  x : Blk wx X 36 #[.int .i64 2000, .slice A 2 c]
  y : Blk wx Y 36 #[.int .i64 2000, .slice Au 2 cu]
  m : MV wx A 2 c [⟨A1, [5, 8], c1⟩, ⟨A2, [7], c2⟩]
  u : MV wx Au 2 cu [⟨U1, [15, 18], e1⟩, ⟨U2, [7], e2⟩]
  d : SV wx 1 Ad 2 cd ([8, 7].map encI)
  bel : Below w.heap.size w wx
theorem Liv.below {w : World} {X Y : Nat} {A Ad Au A1 A2 U1 U2 : Option Addr} {c cd cu c1 c2 e1 e2 : Nat} {wx wy : World} (h : Liv w X Y A Ad Au A1 A2 U1 U2 c cd cu c1 c2 e1 e2 wx) (hb : Below wx.heap.size wx wy) : Liv w X Y A Ad Au A1 A2 U1 U2 c cd cu c1 c2 e1 e2 wy :=
  ⟨h.x.below hb h.x.lt, h.y.below hb h.y.lt, h.m.below hb, h.u.below hb, h.d.below hb, chain h.bel hb⟩

end Go.Proofs.YtmfohnchnbgbaaaGreat

/- The contracts of layer 21, from a world in which the arguments were read. -/
namespace Go.Proofs.YtmfohnchnbgbaaaGreat
open Go.RowKit

/-- A contract's Below, from the base on. -/
theorem from_base {w0 w w' : World} (hb : Below w0.heap.size w0 w) (h : Below w.heap.size w w') : Below w0.heap.size w0 w' ∧ Below w.heap.size w w' := ⟨chain hb h, h⟩
section
variable {w0 w : World} {f : Int} {A : Option Addr} {n cap : Nat} {M : List Rw}
def DiagB (w0 w : World) (D : List Int) (m : Nat) (e : Ending) (w' : World) : Prop := ∃ A' c', e = .returned (.slice A' m c') ∧ SV w' 1 A' m c' (D.map encI) ∧ Below w0.heap.size w0 w' ∧ Below w.heap.size w w'
theorem diag_b {D : List Int} {m : Nat} (hs : MV w0 A n cap M) (hb : Below w0.heap.size w0 w) (hf : ok64 f) (hD : diagL f (allM M) = D) (hm : D.length = m) : Calls Tryz.prog 12 #[.agg #[.int .i64 f, .slice A n cap]] w (DiagB w0 w D m) := by
  obtain rfl := hs.len
  subst hD hm
  exact (diag_any f A cap M w (hs.below hb) hf).mono fun _ _ ⟨A', c', he, h1, h⟩ => ⟨A', c', he, h1, from_base hb h⟩
theorem sameI_b {w1 w2 : World} {A A' : Option Addr} {c c' : Nat} {l : List Int} (hs : SV w1 1 A n c (l.map encI)) (hb1 : Below w1.heap.size w1 w) (hs' : SV w2 1 A' n c' (l.map encI)) (hb2 : Below w2.heap.size w2 w) (hb : Below w0.heap.size w0 w) (hm : n ≤ 9223372036854775806) :
    Calls Tryz.prog 14 #[.slice A n c, .slice A' n c'] w fun e w' => e = .returned (.bool true) ∧ Below w0.heap.size w0 w' ∧ Below w.heap.size w w' :=
  (sameI_any A A' n c c' l w (hs.below hb1) (hs'.below hb2) hm).mono fun _ _ ⟨he, h⟩ => ⟨he, from_base hb h⟩
end
theorem diag_len {f : Int} {c : List (List Int)} : (diagL f c).length ≤ 20 := by
  unfold diagL
  split
  · rename_i h
    rw [List.length_map]
    rw [rightC, Bool.and_eq_true] at h
    have := h.1
    simp only [boundsB, decide_eq_true_eq] at this
    omega
  · simp
end Go.Proofs.YtmfohnchnbgbaaaGreat
