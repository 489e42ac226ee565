/- What is still to come: the document's. -/
import Derived.Test.YtndfgglnhkdciaaDoorLadY
import Derived.BigRegion
namespace Go.Proofs.YtndfgglnhkdciaaDoor
open Go.RowKit

theorem ultC_full {f : Int} {c : List (List Int)} (h : 0 < (ultC f c).1.length) : rightC f c = true ∧ (ultC f c).1.length = c.length ∧ diagL f c = c.map lastI := by
  have hr : rightC f c = true := by
    cases hr : rightC f c with
    | true => rfl
    | false => rw [ultC, if_neg (by rw [hr]; decide)] at h; simp at h
  refine ⟨hr, ?_, by rw [diagL, if_pos hr]⟩
  rw [ultC, if_pos hr] at h ⊢
  rcases allN_code (facL c) c with h1 | ⟨_, h1⟩
  · exact allN_len h1
  · rw [h1] at h; simp at h

set_option maxRecDepth 100000 in
set_option maxHeartbeats 4000000 in
theorem leftR_any (f : Int) (A : Option Addr) (cap : Nat) (M : List Rw) (w : World) (hs : MV w A M.length cap M) (hf : ok64 f) :
    Calls Tryd.prog 16 #[.agg #[.int .i64 f, .slice A M.length cap]] w (LeftP w w (lefts (castL (ultC f (allM M)).1) (diagL f (allM M))) (ultC f (allM M)).2 (ultC f (allM M)).1.length) := by
  have HS := hide hs
  clear hs
  have hul := ultC_len f (allM M)
  have hue := ultC_le f (allM M)
  have hde := diagL_mem f (allM M)
  have hdl := diagL_len f (allM M)
  have HUA := hide (fun w hs => ultR_any f A cap M w hs hf)
  obtain ⟨D, hD⟩ : ∃ D, diagL f (allM M) = D := ⟨_, rfl⟩
  obtain ⟨s, hs⟩ : ∃ s, ultC f (allM M) = s := ⟨_, rfl⟩
  obtain ⟨L, k⟩ := s
  have hrr : 0 < L.length → rightC f (allM M) = true ∧ L.length = M.length ∧ D = (allM M).map lastI := fun h => by
    have h1 := ultC_full (f := f) (c := allM M) (by rw [hs]; exact h)
    rw [hs, hD, allM_len] at h1
    exact h1
  rw [hD, hs] at hul
  rw [hs] at hue HUA
  rw [hD] at hde hdl
  rw [hs, hD]
  clear hs hD
  simp only at hul hue HUA ⊢
  obtain ⟨n, hn⟩ : ∃ n, L.length = n := ⟨_, rfl⟩
  rw [hn] at hul HUA hrr ⊢
  have HUE := hide hue
  have HDE := hide hde
  have HRR := hide hrr
  have hn20 : n ≤ 20 := by omega
  have HN := hide hn
  have HZ := hide (show (lefts (castL L) D).length = n by rw [lefts, List.length_zipWith, castL_len, hn]; omega)
  clear hue hde hn hrr hul hdl
  go_enter Tryd.func16, Tryd.ntmps16
  go_wp2_with fail
  obtain ⟨wa, hwa⟩ : ∃ W, w.alloc (.cells #[.int .i64 f, .slice A M.length cap] 24) = W := ⟨_, rfl⟩
  have ka : Blk wa w.heap.size 24 #[.int .i64 f, .slice A M.length cap] := by rw [← hwa]; exact Blk.new _ _ _
  have ba : Below w.heap.size w wa := by rw [← hwa]; exact (Below.refl _ _).alloc (Nat.le_refl _) _
  rw [hwa]
  obtain ⟨X, hX⟩ : ∃ X, w.heap.size = X := ⟨_, rfl⟩
  rw [hX] at ka ⊢
  refine (HUA.out _ (HS.out.below ba)).mono ?_
  rintro e w1 ⟨A1, c1, rfl, ho, hb, -⟩
  have H1 := hide (chain ba hb)
  have HK := hide (ka.below hb ka.lt)
  have HO1 := hide ho.sv
  have hnc := ho.cap_le
  clear hwa ka ba hX hb ho
  go_wp2_with fail
  go_loopw [6, 7] (fun o q wr => ∃ (j : Nat) (A' : Option Addr) (c2 : Nat), j ≤ n ∧ q = .int .i64 j ∧ o = .slice A' j c2 ∧ OwnS wr w1.heap.size 3 1 A' j c2 (((lefts (castL L) D).take j).map encI) ∧ Below w1.heap.size w1 wr) (fun _ q _ => n - (RowKit.intOf q).toNat)
  case atStart => exact ⟨0, none, 0, Nat.zero_le _, rfl, rfl, OwnS.nil_ _ _ _ _, Below.refl _ _⟩
  case round =>
    obtain ⟨j, A', c2, hj, rfl, rfl, hown, hb⟩ := hrel
    have HB := hide hb
    have HO := hide hown
    have HKR := hide (HK.out.below hb HK.out.lt)
    have x0 := HKR.out.cell 0
    have x1 := HKR.out.cell 1
    simp only [List.getElem?_toArray, List.getElem?_cons_zero, List.getElem?_cons_succ] at x0 x1
    clear hown
    by_cases hlt : j < n
    · obtain ⟨hr, hML, hDe⟩ := HRR.out (by omega)
      obtain ⟨r, hrr⟩ := get_of (l := M) (k := j) (by omega)
      obtain ⟨u, hu⟩ := get_of (l := L) (k := j) (by rw [HN.out]; exact hlt)
      have hu2 := HUE.out u (List.mem_of_getElem? hu)
      have hcu : (castL L)[j]? = some (u : Int) := by rw [castL, List.getElem?_map, hu]; rfl
      have hbr := chain H1.out hb
      obtain ⟨bb, off, rfl, hbl, c0⟩ := (HS.out.sv.sl.below hbr).rw hrr
      have hrl := (right_row hr (allM_get hrr)).1
      rw [allM_len] at hrl
      have hrow := (HS.out.rows r (List.mem_of_getElem? hrr)).below hbr
      obtain ⟨p, hp⟩ : ∃ p, r.l.length = p + 1 := ⟨r.l.length - 1, by omega⟩
      obtain ⟨v, hv⟩ := get_of (l := r.l) (k := p) (by omega)
      obtain ⟨b1, o1, hA1, hb1, y0⟩ := hrow.sl.i hv
      obtain ⟨b2, o2, rfl, hb2, z0⟩ := (HO1.out.below hb).sl.i hcu
      have hlv : lastI r.l = v := by rw [lastI, List.getLast?_eq_getElem?, hp, Nat.add_sub_cancel, hv]; rfl
      have hdv : D[j]? = some v := by rw [hDe, List.getElem?_map, allM_get hrr, ← hlv]; rfl
      have hv2 := HDE.out v (List.mem_of_getElem? hdv)
      have hzj : (lefts (castL L) D)[j]? = some ((u : Int) - v) := by rw [lefts, List.getElem?_zipWith, hcu, hdv]
      have HT := hide (take_of hzj)
      have hk0 : (0 : Int) ≤ (j : Int) := by omega
      have hk1 : (j : Int) < (M.length : Int) := by omega
      have hk2 : (j : Int) < (n : Int) := by omega
      have hpj : (M.length : Int) - 1 - (j : Int) = (p : Int) := by omega
      have hp0 : (0 : Int) ≤ (p : Int) := by omega
      have hp1 : (p : Int) < (p : Int) + 1 := by omega
      have hM20 : M.length ≤ 20 := by omega
      rw [hA1, hp] at c0
      have hown2 := HO.out.alloc (.cells #[.int .i64 ((u : Int) - v)] 3)
      have hsz9 := hb.size
      have hw1 : IntKind.i64.wrap ((M.length : Int) - 1) = (M.length : Int) - 1 := IntWalk.i64_in _ (by omega)
      have hw2 : IntKind.i64.wrap ((M.length : Int) - 1 - (j : Int)) = (p : Int) := by rw [hpj]; exact IntWalk.i64_in _ (by omega)
      have hw3 : IntKind.i64.wrap ((u : Int) - v) = (u : Int) - v := IntWalk.i64_in _ (by omega)
      have hp20 : p ≤ 20 := by omega
      clear hpj
      clear hrr hu hcu hbr hrl hrow hp hv hlv hdv hzj hA1 hDe hML hb hr
      go_wp2_with fail
      go_region_law (first
          | (refine step_app rfl (.tmp 19) (.tmp 38) 33 rfl elInt (B := w1.heap.size) (rows := ((lefts (castL L) D).take j).map encI) (A2 := some ⟨_, 0, none⟩) (news := [(u : Int) - v].map encI) rfl ?_ rfl rfl ?_ (okI [(u : Int) - v]) ?_ ?_ ?_ ?_
             · first | exact (HO.out.alloc _).drew | exact HO.out.alloc _
             · first | exact sl_of_blk (cs := #[.int .i64 ((u : Int) - v)]) (Blk.drew (Blk.new _ _ _)) | exact sl_of_blk (cs := #[.int .i64 ((u : Int) - v)]) (Blk.new _ _ _)
             · (simp only [maxLen]; omega)
             · omega
             · (simp; try omega)
             intro A3 c3 wb ho2 hg2 ha2
             have HO2 := hide ho2
             have H3 := hide (((HB.out.alloc HB.out.size _).drew).grown hg2 (by simp; omega) (fun kk hk => (HO.out.lt kk hk).1))
             clear ho2 hg2 ha2))
      all_goals
        clear hw1 hw2 hw3
        go_wp2_with fail
        go_roundw
        case rel => exact ⟨j + 1, A3, c3, by omega, by go_num, rfl, by rw [HT.out, List.map_append]; exact HO2.out, H3.out⟩
        case measure => simp [RowKit.intOf]; omega
    · obtain rfl : j = n := by omega
      rw [List.take_of_length_le (by rw [HZ.out]; exact Nat.le_refl _)] at HO
      have hk1 : ¬ (j : Int) < (j : Int) := by omega
      have h9 := chain H1.out HB.out
      go_wp2_with fail
      go_ret2
      exact ⟨A', c2, rfl, HO.out.mono H1.out.size, h9, h9⟩
end Go.Proofs.YtndfgglnhkdciaaDoor
