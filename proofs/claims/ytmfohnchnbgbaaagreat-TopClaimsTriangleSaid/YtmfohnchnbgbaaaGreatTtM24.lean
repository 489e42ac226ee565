/- Part 24 of the proof. -/
import Derived.Test.YtmfohnchnbgbaaaGreatTtM23
/- The rows of a cover's files: the walk of claimsRows. -/
namespace Go.Proofs.YtmfohnchnbgbaaaGreat
open Go.RowKit Go.Lib
set_option linter.unusedSimpArgs false

/-- The day of loss of the file with this number. -/
def lossAt (L : List Fl) (a : Int) : Int := (L[a.toNat]?).elim 0 (fun x => x.c.loss)
def crow (L : List Fl) (r : R3) : R3 := ⟨lossAt L r.a, r.b, r.m⟩
noncomputable def crL (c : Cv) (L : List Fl) : List R3 := if checkQ c L = 0 then (paidS c L).out.map (crow L) else []
def CrP (c : Cv) (L : List Fl) (w : World) (e : Ending) (w' : World) : Prop :=
  Below w.heap.size w w' ∧ ∃ (A : Option Addr) (cap : Nat), e = .returned (.tuple #[.slice A (crL c L).length cap, .bool (checkQ c L == 0)]) ∧ SV w' 3 A (crL c L).length cap ((crL c L).map enc3)
theorem crow_eq {L : List Fl} {r : R3} {f : Nat} {x : Fl} (hf : r.a = (f : Int)) (hx : L[f]? = some x) : crow L r = ⟨x.c.loss, r.b, r.m⟩ := by
  unfold crow lossAt
  rw [hf, Int.toNat_natCast, hx]; rfl
set_option maxRecDepth 100000 in
set_option maxHeartbeats 8000000 in
theorem crows_any (c : Cv) (A : Option Addr) (n cap : Nat) (L : List Fl) (w : World) (ho : okCv c) (hv : FV w A n cap L) (hn1 : n ≤ 1000) :
    Calls Tryz.prog 9 #[.agg #[.int .i64 c.p, .int .i64 c.lim, .int .i64 c.agg, .int .i64 c.ded, .int .i64 c.sh], .slice A n cap] w (CrP c L w) := by
  have hn := hv.len
  have hle := hv.sv.le
  have hmo := hv.sv.most
  unfold maxLen at hmo
  obtain ⟨w1, hw1⟩ : ∃ W, w.alloc (.cells (cvC c) 23) = W := ⟨_, rfl⟩
  have h01 : Below w.heap.size w w1 := by rw [← hw1]; exact (Below.refl _ _).alloc (Nat.le_refl _) _
  have HB := hide (show Blk w1 w.heap.size 23 (cvC c) by rw [← hw1]; exact Blk.new _ _ _)
  obtain ⟨x0, x1, x2, x3, x4⟩ := cv_cells HB.out
  have HV := hide (hv.below h01)
  have H1 := hide h01
  have HW := hide hw1
  have HN := hide hn
  have HP := hide (paid_any c A n cap L w1 ho (hv.below h01) hn1)
  clear hw1 h01 hv ho hn
  go_enter Tryz.func9, Tryz.ntmps9
  go_upto_region 1 with fail
  rw [show w.alloc (.cells #[.int .i64 c.p, .int .i64 c.lim, .int .i64 c.agg, .int .i64 c.ded, .int .i64 c.sh] 23) = w1 from HW.out]
  go_wp2_with fail
  refine HP.out.mono ?_
  rintro e w2 ⟨h2, hr⟩
  have H2 := hide (chain H1.out h2)
  have HV2 := hide (HV.out.below h2)
  clear h2 x0 x1 x2 x3 x4
  obtain ⟨O, m, AR, capR, E, hO, hE, rfl, hsr, hm, hro, hm2⟩ : ∃ (O : List R3) (m : Nat) (AR : Option Addr) (capR : Nat) (E : Int), crL c L = O.map (crow L) ∧ (checkQ c L = E) ∧ e = .returned (.tuple #[.slice AR m capR, .int .i64 E]) ∧ SV w2 3 AR m capR (O.map enc3) ∧ O.length = m ∧ (∀ r ∈ O, ∃ f : Nat, r.a = f ∧ f < n) ∧ m ≤ 2000 := by
    rcases hr with ⟨hne, rfl⟩ | ⟨hE, AR, capR, rfl, hsr⟩
    · exact ⟨[], 0, none, 0, _, by rw [crL, if_neg hne]; rfl, rfl, rfl, (OwnS.nil_ w2 0 0 3).sv, rfl, by simp, by omega⟩
    · have hinv := paid_inv (check_zero hE).1
      refine ⟨(paidS c L).out, _, AR, capR, 0, by rw [crL, if_pos hE], hE, rfl, hsr, rfl, fun r hr => ?_, ?_⟩
      · rw [← HN.out]; exact (hinv.ro r hr).1
      · have h1 := hinv.ol
        have h2 := (check_zero hE).2.2
        omega
  have HSR := hide hsr
  have HRO := hide hro
  have HM := hide hm
  have HO := hide hO
  have HE := hide hE
  clear hsr hro hm hO hE hr
  go_wp2_with fail
  go_loopw [8, 19] (fun q8 q19 wr => ∃ (i : Nat) (A5 : Option Addr) (cap5 : Nat), i ≤ m ∧ q19 = .int .i64 i ∧ q8 = .slice A5 i cap5 ∧ OwnS wr w2.heap.size 54 3 A5 i cap5 (((O.take i).map (crow L)).map enc3) ∧ Below w2.heap.size w2 wr) (fun _ q _ => m - (RowKit.intOf q).toNat)
  case atStart => exact ⟨0, none, 0, Nat.zero_le _, rfl, rfl, OwnS.nil_ _ _ _ _, Below.refl _ _⟩
  case round =>
    rename World => wp
    obtain ⟨i, A5, cap5, hi, rfl, rfl, ho, hb⟩ := hrel
    have HOW := hide ho
    have HBE := hide hb
    by_cases hlt : i < m
    · obtain ⟨r, hr⟩ := get_of (l := O) (k := i) (by rw [HM.out]; exact hlt)
      obtain ⟨f, hf, hfn⟩ := HRO.out r (List.mem_of_getElem? hr)
      obtain ⟨x, hx⟩ := get_of (l := L) (k := f) (by rw [HN.out]; exact hfn)
      obtain ⟨b, off, hA, hbl, d0, d1, d2⟩ := (HSR.out.below hb).sl.r3 hr
      obtain ⟨bb, off2, hA2, hbl2, c0, c1, c2, c3, c4, c5, c6⟩ := (HV2.out.below hb).sv.sl.fl hx
      have hi0 : (0 : Int) ≤ (i : Int) := by omega
      have hi1 : (i : Int) < (m : Int) := by omega
      have hf0 : (0 : Int) ≤ (f : Int) := by omega
      have hf1 : (f : Int) < (n : Int) := by omega
      have hfl : ¬ (f : Int) < 0 := by omega
      have hfg : ¬ (f : Int) ≥ (n : Int) := by omega
      rw [hf] at d0
      have HCR := hide (crow_eq hf hx)
      have HR := hide hr
      obtain ⟨wx, hwx⟩ : ∃ W, wp.alloc (.cells #[.int .i64 f, .int .i64 r.b, .int .i64 r.m] 54) = W := ⟨_, rfl⟩
      have hbx : Below wp.heap.size wp wx := by rw [← hwx]; exact (Below.refl _ _).alloc (Nat.le_refl _) _
      have HXB := hide (show Blk wx wp.heap.size 54 #[.int .i64 f, .int .i64 r.b, .int .i64 r.m] by rw [← hwx]; exact Blk.new _ _ _)
      have HOX := hide (ho.below hbx)
      have HBX := hide (chain hb hbx)
      have hszx : w2.heap.size ≤ wx.heap.size := HBX.out.size
      have HWX := hide hwx
      have c3x := kept hbx c3
      subst hA hA2
      clear ho hb hr hx hf hwx hbx c0 c1 c2 c3 c4 c5 c6
      go_upto_region 6 with fail
      rw [HWX.out]
      obtain ⟨X, hX⟩ : ∃ X, wp.heap.size = X := ⟨_, rfl⟩
      rw [hX] at HXB ⊢
      clear hX HWX d0 d1 d2
      have y0 : wx.cell? ⟨X, 0, none⟩ = some (.int .i64 f) := HXB.out.cell 0
      have y1 : wx.cell? ⟨X, 1, none⟩ = some (.int .i64 r.b) := HXB.out.cell 1
      have y2 : wx.cell? ⟨X, 2, none⟩ = some (.int .i64 r.m) := HXB.out.cell 2
      obtain ⟨lo, hlo⟩ : ∃ z, x.c.loss = z := ⟨_, rfl⟩
      rw [hlo] at c3x HCR
      clear hlo
      go_wp2_with fail
      go_region_law (first
          | (refine step_app rfl (.tmp 33) (.tmp 46) 27 rfl elRow3 (B := w2.heap.size) (rows := ((O.take i).map (crow L)).map enc3) (A2 := some ⟨_, 0, none⟩) (news := [(⟨lo, r.b, r.m⟩ : R3)].map enc3) rfl ?_ rfl rfl ?_ (okRow3 [(⟨lo, r.b, r.m⟩ : R3)]) ?_ ?_ ?_ ?_
             · first | exact (HOX.out.alloc _).drew | exact HOX.out.alloc _
             · first | exact sl_of_blk (cs := #[.int .i64 lo, .int .i64 r.b, .int .i64 r.m]) (Blk.drew (Blk.new' (by simp))) | exact sl_of_blk (cs := #[.int .i64 lo, .int .i64 r.b, .int .i64 r.m]) (Blk.new' (by simp))
             · (simp only [maxLen]; omega)
             · omega
             · (simp; try omega)
             intro A3 cp3 wb ho2 hg2 ha2
             have HO2 := hide ho2
             have H3 := hide (((HBX.out.alloc HBX.out.size _).drew).grown hg2 (by simp; omega) (fun kk hk => (HOX.out.lt kk hk).1))
             clear ho2 hg2 ha2))
      all_goals
        go_wp2_with fail
        go_roundw
        case rel => exact ⟨i + 1, A3, cp3, by omega, by go_num, rfl, by rw [take_of HR.out, List.map_append, List.map_append, List.map_cons, List.map_nil, HCR.out]; exact HO2.out, H3.out⟩
        case measure => simp [RowKit.intOf]; omega
    · obtain rfl : i = m := by omega
      have htm : O.take i = O := List.take_of_length_le (by rw [HM.out]; exact Nat.le_refl _)
      rw [htm, ← HO.out] at HOW
      have hlm : (crL c L).length = i := by rw [HO.out, List.length_map, HM.out]
      have HR := hide (show CrP c L w (.returned (.tuple #[.slice A5 i cap5, .bool (E == 0)])) wp from ⟨chain H2.out HBE.out, A5, cap5, by rw [hlm, HE.out], by rw [hlm]; exact HOW.out.sv⟩)
      clear ho hb htm hlm
      go_wp2_with fail
      go_ret2
      exact HR.out
end Go.Proofs.YtmfohnchnbgbaaaGreat
