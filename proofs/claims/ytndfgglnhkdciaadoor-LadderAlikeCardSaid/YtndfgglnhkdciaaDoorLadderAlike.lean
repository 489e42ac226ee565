/- LadderAlike: years that are each so many times the first become so many times as much. -/
import Derived.Test.YtndfgglnhkdciaaDoorLadAk
import Derived.Test.YtndfgglnhkdciaaDoorTie
import Derived.Test.YtndfgglnhkdciaaDoorCards
import Derived.SevenTiedAt
namespace Go.Proofs.YtndfgglnhkdciaaDoor
open Go.ChangeShapes Go.WideShapes Go.ChangeAt Go.RowKit
set_option linter.unusedVariables false

def upI (l : List Int) : List Int := l.map (fun x => 1 + x)
theorem castL_toNat {L : List Int} (h : ∀ x ∈ L, 0 ≤ x) : castL (L.map Int.toNat) = L := by
  rw [castL, List.map_map]
  refine (List.map_congr_left (fun x hx => ?_)).trans (List.map_id L)
  have := h x hx
  simp only [Function.comp]
  show ((x.toNat : Nat) : Int) = x
  omega
theorem toNat_mem {L : List Int} {b : Int} (h : ∀ x ∈ L, 1 ≤ x ∧ x ≤ b) : ∀ n ∈ L.map Int.toNat, 1 ≤ n ∧ (n : Int) ≤ b := fun n hn => by
  obtain ⟨x, hx, rfl⟩ := List.mem_map.1 hn
  have := h x hx
  omega
theorem upI_mem {l : List Int} {b : Int} (h : ∀ x ∈ l, 0 ≤ x ∧ x ≤ b) : ∀ x ∈ upI l, 1 ≤ x ∧ x ≤ 1 + b := fun x hx => by
  obtain ⟨y, hy, rfl⟩ := List.mem_map.1 hx
  have := h y hy
  omega

set_option maxRecDepth 100000 in
set_option maxHeartbeats 4000000 in
theorem ladderAlike_walk (w : World) (A0 : Option Addr) (l : List Int) (cap0 : Nat) (hs : SV w 1 A0 l.length cap0 (l.map encU)) (ho : ∀ n ∈ l, okU n) (B0 : Option Addr) (t : List Int) (cap1 : Nat) (ht : SV w 1 B0 t.length cap1 (t.map encS)) (ho' : ∀ n ∈ t, okS n) (hg : Hdl w) :
    Calls Tryd.prog 6 #[.slice A0 l.length cap0, .slice B0 t.length cap1] w fun e w' => e = .returned (.bool true) ∧ Below w.heap.size w w' := by
  have HS := hide hs
  have HT := hide ht
  have HG := hide hg
  have HU := hide ho
  have HU2 := hide ho'
  have hmo := hs.most
  have hle := hs.le
  have hmo1 := ht.most
  have hle1 := ht.le
  unfold maxLen at hmo hmo1
  clear hs hg ho ht ho'
  go_enter Tryd.func6, Tryd.ntmps6
  go_wp2_with fail
  refine (awake22_b HG.out (Below.refl _ _)).mono ?_
  rintro e w1 ⟨rfl, h1, -⟩
  obtain ⟨n, hn⟩ : ∃ n, l.length = n := ⟨_, rfl⟩
  obtain ⟨nt, hnt⟩ : ∃ n, t.length = n := ⟨_, rfl⟩
  rw [hn] at hle HS ⊢
  rw [hnt] at hle1 HT ⊢
  have HN := hide hn
  have HNT := hide hnt
  have H1 := hide h1
  clear h1 hn hnt
  rcases (show n < 1 ∨ (1 ≤ n ∧ 20 < n) ∨ (1 ≤ n ∧ n ≤ 20 ∧ nt < n) ∨ (1 ≤ n ∧ n ≤ 20 ∧ n ≤ nt) by omega) with h | ⟨h, h'⟩ | ⟨h, h', h''⟩ | ⟨hn1, hn20, hnt⟩
  · have hq : (n : Int) < 1 := by omega
    go_wp2_with fail
    go_ret
    exact ⟨rfl, H1.out⟩
  · have hq : ¬ (n : Int) < 1 := by omega
    have hq2 : (20 : Int) < (n : Int) := by omega
    go_wp2_with fail
    go_ret
    exact ⟨rfl, H1.out⟩
  · have hq : ¬ (n : Int) < 1 := by omega
    have hq2 : ¬ (20 : Int) < (n : Int) := by omega
    have hq3 : (nt : Int) < (n : Int) := by omega
    go_wp2_with fail
    go_ret
    exact ⟨rfl, H1.out⟩
  have hq : ¬ (n : Int) < 1 := by omega
  have hq2 : ¬ (20 : Int) < (n : Int) := by omega
  have hq3 : ¬ (nt : Int) < (n : Int) := by omega
  go_wp2_with fail
  have e1 : decide ((n : Int) < 1) = false := decide_eq_false (by omega)
  have e2 : decide ((20 : Int) < (n : Int)) = false := decide_eq_false (by omega)
  have e4 : decide (nt < n) = false := decide_eq_false (by omega)
  simp only [e1, e2, e4, Bool.or_false]
  clear hq hq2 hq3 e1 e2 e4
  go_loopw [6, 7, 8] (fun o p q wr => ∃ (j : Nat) (A6 A7 : Option Addr) (c6 c7 : Nat), j ≤ n ∧ q = .int .i64 j ∧ o = .slice A6 j c6 ∧ p = .slice A7 j c7 ∧ OwnS wr w1.heap.size 3 1 A6 j c6 ((upI (l.take j)).map encI) ∧ OwnS wr w1.heap.size 3 1 A7 j c7 ((upI (t.take j)).map encI) ∧ (∀ kk, blk A6 = some kk → blk A7 ≠ some kk) ∧ Below w1.heap.size w1 wr) (fun _ _ q _ => n - (RowKit.intOf q).toNat)
  case atStart => exact ⟨0, none, none, 0, 0, Nat.zero_le _, rfl, rfl, rfl, OwnS.nil_ _ _ _ _, OwnS.nil_ _ _ _ _, fun kk h => by simp [blk] at h, Below.refl _ _⟩
  case round =>
    obtain ⟨j, A6, A7, c6, c7, hj, rfl, rfl, rfl, ho6, ho7, hap, hb⟩ := hrel
    have HO6 := hide ho6
    have HO7 := hide ho7
    have HAP := hide hap
    have HB := hide hb
    have hsz := hb.size
    by_cases hlt : j < n
    · obtain ⟨v, hv⟩ := get_of (l := l) (k := j) (by rw [HN.out]; exact hlt)
      obtain ⟨x, hx⟩ := get_of (l := t) (k := j) (by rw [HNT.out]; omega)
      obtain ⟨hv0, hv1⟩ := HU.out v (List.mem_of_getElem? hv)
      obtain ⟨hx0, hx1⟩ := HU2.out x (List.mem_of_getElem? hx)
      have hbw := chain H1.out hb
      obtain ⟨b0, o0, rfl, hb0, y0⟩ := (HS.out.below hbw).sl.u hv
      have HTR := hide ((HT.out.below hbw).sl)
      have HX := hide hx
      have hk0 : (0 : Int) ≤ (j : Int) := by omega
      have hk1 : (j : Int) < (n : Int) := by omega
      have hk2 : (j : Int) < (nt : Int) := by omega
      have HT6 := hide (show upI (l.take (j + 1)) = upI (l.take j) ++ [1 + v] by rw [take_of hv, upI, List.map_append]; rfl)
      have HT7 := hide (show upI (t.take (j + 1)) = upI (t.take j) ++ [1 + x] by rw [take_of hx, upI, List.map_append]; rfl)
      obtain ⟨b1, o1, rfl, hb1, z0⟩ := (HT.out.below hbw).sl.s hx
      clear ho6 ho7 hap hb hv hx hbw
      go_wp2_with (first
        | (at_builtin
           refine wpList_app rfl (.tmp 36) (.tmp 43) 33 rfl elInt (B := w1.heap.size) (A2 := some ⟨_, 0, none⟩) (news := [1 + v].map encI) rfl (HO6.out.alloc _) rfl rfl ?_ (okI [1 + v]) ?_ ?_ ?_ ?_
           · exact sl_of_blk (cs := #[.int .i64 (1 + v)]) (Blk.new _ _ _)
           · (simp only [maxLen]; omega)
           · omega
           · (simp; try omega)
           intro A8 c8 wb ho8 hg8 ha8
           have HO8 := hide ho8
           have HB8 := hide ((HB.out.alloc hsz _).grown hg8 (by simp; omega) (fun kk e => (HO6.out.lt kk e).1))
           have HO9 := hide ((HO7.out.alloc (.cells #[.int .i64 (1 + v)] 3)).kept hg8 (by cases h : blk A7 with | none => exact .inl rfl | some kk => exact .inr (fun e => HAP.out kk e.symm h)))
           have HA8 := hide (show ∀ kk, blk A8 = some kk → blk A7 ≠ some kk from fun kk h e => by
             rcases ha8 with h8 | h8
             · exact HAP.out kk (h8.symm.trans h) e
             · rw [h] at h8; have := (HO7.out.lt kk e).2; simp at h8; omega)
           have hszb := HB8.out.size
           have z1 : wb.cell? ⟨b1, o1 + j, none⟩ = some (.int .u16 x) := by
             obtain ⟨b2, o2, he, _, z⟩ := (HT.out.below (chain H1.out HB8.out)).sl.s HX.out
             cases he
             exact z
           clear ho8 hg8 ha8)
        | (at_builtin
           refine wpList_app rfl (.tmp 45) (.tmp 52) 33 rfl elInt (B := w1.heap.size) (A2 := some ⟨_, 0, none⟩) (news := [1 + x].map encI) rfl (HO9.out.alloc _) rfl rfl ?_ (okI [1 + x]) ?_ ?_ ?_ ?_
           · exact sl_of_blk (cs := #[.int .i64 (1 + x)]) (Blk.new _ _ _)
           · (simp only [maxLen]; omega)
           · omega
           · (simp; try omega)
           intro A9 c9 wc ho9 hg9 ha9
           have HO10 := hide ho9
           have HB9 := hide ((HB8.out.alloc hszb _).grown hg9 (by simp; omega) (fun kk e => (HO9.out.lt kk e).1))
           have HO11 := hide ((HO8.out.alloc (.cells #[.int .i64 (1 + x)] 3)).kept hg9 (by cases h : blk A8 with | none => exact .inl rfl | some kk => exact .inr (fun e => HA8.out kk h e.symm)))
           have HA9 := hide (show ∀ kk, blk A8 = some kk → blk A9 ≠ some kk from fun kk h e => by
             rcases ha9 with h8 | h8
             · exact HA8.out kk h (h8.symm.trans e)
             · rw [e] at h8; have := (HO8.out.lt kk h).2; simp at h8; omega)
           clear ho9 hg9 ha9))
      go_roundw
      case rel =>
        exact ⟨j + 1, A8, A9, c8, c9, by omega, by go_num, rfl, rfl, by rw [HT6.out, List.map_append]; exact HO11.out, by rw [HT7.out, List.map_append]; exact HO10.out, HA9.out, HB9.out⟩
      case measure => simp [RowKit.intOf]; omega
    · obtain rfl : j = n := by omega
      have hk1 : ¬ (j : Int) < (j : Int) := by omega
      clear ho6 ho7 hap hb
      obtain ⟨g7, hA7, hg7, hg7b⟩ : ∃ g, A7 = some ⟨g, 0, none⟩ ∧ w1.heap.size ≤ g ∧ g < wr.heap.size := by
        rcases HO7.out.addr with ⟨_, h, _⟩ | h
        · omega
        · exact h
      subst hA7
      obtain ⟨x, hx⟩ := get_of (l := t) (k := 0) (by rw [HNT.out]; omega)
      have hx7 : (upI (t.take j))[0]? = some (1 + x) := by rw [upI, List.getElem?_map, List.getElem?_take, if_pos (by omega), hx]; rfl
      obtain ⟨b7, o7, hA7, hb7, y0⟩ := HO7.out.sl.i hx7
      obtain ⟨rfl, rfl⟩ : g7 = b7 ∧ 0 = o7 := by simpa using hA7
      have y1 := HO7.out.frozen 0
      have hset := HO7.out.set_ (i := 0) (j := 0) (row := encI (1 + x)) (by rw [List.getElem?_map, hx7]; rfl) (by omega) (u := .int .i64 1) rfl
      have HSET := hide hset
      have hc7 := HO7.out.cap_le
      have hk2 : (0 : Int) < (j : Int) := by omega
      clear hx hx7 hA7 hset
      go_wp2_with fail
      obtain ⟨Lr, hLr⟩ : ∃ L, upI (l.take j) = L := ⟨_, rfl⟩
      obtain ⟨Lm, hLm⟩ : ∃ L, (upI (t.take j)).set 0 1 = L := ⟨_, rfl⟩
      have hr1 : ∀ x ∈ Lr, 1 ≤ x ∧ x ≤ 4294967296 := fun x hx => by
        rw [← hLr] at hx
        have := upI_mem (b := 4294967295) (fun y hy => HU.out y (List.mem_of_mem_take hy)) x hx
        omega
      have hm1 : ∀ x ∈ Lm, 1 ≤ x ∧ x ≤ 65536 := fun x hx => by
        rw [← hLm] at hx
        rcases List.mem_or_eq_of_mem_set hx with h | h
        · have := upI_mem (b := 65535) (fun y hy => HU2.out y (List.mem_of_mem_take hy)) x h
          omega
        · omega
      have hlr : Lr.length = j := by rw [← hLr, upI, List.length_map, List.length_take, HN.out]; omega
      have hlm : Lm.length = j := by rw [← hLm, List.length_set, upI, List.length_map, List.length_take, HNT.out]; omega
      have hR0 := HO6.out
      rw [hLr] at hR0
      have hM0 := HSET.out
      rw [Nat.zero_mul, Nat.zero_add, show ((upI (t.take j)).map encI).set 0 ((encI (1 + x)).set 0 (Value.int .i64 1)) = (((upI (t.take j)).set 0 1).map encI) by rw [List.map_set]; rfl, hLm] at hM0
      have hR1 := hR0.far (p := ⟨g7, 0, none⟩) (fun kk hk e => HAP.out kk hk (by rw [e]; rfl)) (.int .i64 1)
      obtain ⟨rs, hrs⟩ : ∃ r, Lr.map Int.toNat = r := ⟨_, rfl⟩
      obtain ⟨ms, hms⟩ : ∃ r, Lm.map Int.toNat = r := ⟨_, rfl⟩
      have hcr : castL rs = Lr := by rw [← hrs]; exact castL_toNat (fun x hx => by have := hr1 x hx; omega)
      have hcm : castL ms = Lm := by rw [← hms]; exact castL_toNat (fun x hx => by have := hm1 x hx; omega)
      have hrb : ∀ x ∈ rs, 1 ≤ x ∧ x ≤ 4294967296 := fun x hx => by rw [← hrs] at hx; have := toNat_mem hr1 x hx; omega
      have hmb : ∀ x ∈ ms, 1 ≤ x ∧ x ≤ 65536 := fun x hx => by rw [← hms] at hx; have := toNat_mem hm1 x hx; omega
      have hrl : rs.length = j := by rw [← hrs, List.length_map, hlr]
      have hml : ms.length = j := by rw [← hms, List.length_map, hlm]
      rw [← hcr] at hR1
      rw [← hcm] at hM0
      have hbel := (chain H1.out HB.out).setCell (p := ⟨g7, 0, none⟩) (Nat.le_trans H1.out.size hg7) (.int .i64 1)
      obtain ⟨wx, hwx⟩ : ∃ W, wr.setCell ⟨g7, 0, none⟩ (.int .i64 1) = W := ⟨_, rfl⟩
      rw [hwx] at hR1 hM0 hbel ⊢
      have hu := ult_alike (r := rs) (ms := ms) (f := 2000) (by omega) (by omega) (by omega) (by omega)
        (fun m hm x hx => Nat.le_trans (Nat.mul_le_mul (hmb m hm).2 (hrb x hx).2) (by decide))
        (.inl ⟨fun m hm => (hmb m hm).1, fun k hk => by
          obtain ⟨z, hz⟩ := get_of hk
          rw [nthN_of hz]
          exact (hrb z (List.mem_of_getElem? hz)).1⟩)
      rw [hrl] at hu
      have HUL := hide hu
      have HRB := hide hrb
      have HMB := hide hmb
      have HRL := hide hrl
      have HML := hide hml
      have HBE := hide hbel
      have HSR := hide hR1.sv
      have HSM := hide hM0.sv
      have HOR := hide hR1
      have HOM := hide hM0
      clear hLr hLm hr1 hm1 hlr hlm hR0 hM0 hR1 hrs hms hcr hcm hrb hmb hrl hml hbel hwx hu y0 y1 HSET
      refine (alike22_any A6 (some ⟨g7, 0, none⟩) j c6 c7 rs ms wx HSR.out HSM.out (by omega) (by omega) (fun x hx => (HRB.out x hx).2) (fun x hx => (HMB.out x hx).2)).mono ?_
      rintro e w3 ⟨⟨A', R, c', rfl, hmv, hall⟩, hb3⟩
      have hRl : R.length = j := hmv.len
      have H3 := hide (chain HBE.out hb3)
      have HSR3 := hide (HSR.out.below hb3)
      have HSM3 := hide (HSM.out.below hb3)
      have HMV := hide hmv
      have HALL := hide hall
      have HRLEN := hide hRl
      clear hmv hall hRl hb3
      go_wp2_with fail
      obtain ⟨w3b, hw3b⟩ : ∃ W, w3.alloc (.cells #[.int .i64 2000, .slice A' j c'] 24) = W := ⟨_, rfl⟩
      have hbb : Below w3.heap.size w3 w3b := by rw [← hw3b]; exact (Below.refl _ _).alloc (Nat.le_refl _) _
      rw [hw3b]
      clear hw3b
      have hUA := ult_any 2000 A' c' R w3b (by rw [HRLEN.out]; exact HMV.out.below hbb) (by unfold ok64; omega) (HG.out.below (chain H3.out hbb))
      rw [HALL.out, HUL.out, HRLEN.out] at hUA
      simp only [List.length_map] at hUA
      rw [HML.out] at hUA
      refine hUA.mono ?_
      rintro e w4 ⟨A4, c4, rfl, ho4, hb4, -⟩
      have hb34 := chain hbb hb4
      have H4 := hide (chain H3.out hb34)
      have HO4 := hide ho4.sv
      have HSR4 := hide (HSR3.out.below hb34)
      have HSM4 := hide (HSM3.out.below hb34)
      clear hUA hb4 ho4 hbb hb34
      go_wp2_with fail
      go_loopw [12] (fun q ws => ∃ i : Nat, i ≤ j ∧ q = .int .i64 i ∧ Below w4.heap.size w4 ws) (fun q _ => j - (RowKit.intOf q).toNat)
      case atStart => exact ⟨0, Nat.zero_le _, rfl, Below.refl _ _⟩
      case round =>
        obtain ⟨i, hi, rfl, hb⟩ := hrel
        have hq3 := HSR4.out.le
        have hq4 := HO4.out.le
        have hq5 := HSM4.out.le
        have HB2 := hide hb
        by_cases hlt2 : i < j
        · obtain ⟨m, hm⟩ := get_of (l := ms) (k := i) (by rw [HML.out]; exact hlt2)
          obtain ⟨z, hz⟩ := get_of (l := rs) (k := j - 1) (by rw [HRL.out]; omega)
          have hmb := (HMB.out m (List.mem_of_getElem? hm)).2
          have hzb := (HRB.out z (List.mem_of_getElem? hz)).2
          have hu : (castL (ms.map (fun m => m * nthN rs (j - 1))))[i]? = some ((m * z : Nat) : Int) := by
            rw [castL, List.getElem?_map, List.getElem?_map, hm, nthN_of hz]; rfl
          have hm' : (castL ms)[i]? = some ((m : Nat) : Int) := by rw [castL, List.getElem?_map, hm]; rfl
          have hz' : (castL rs)[j - 1]? = some ((z : Nat) : Int) := by rw [castL, List.getElem?_map, hz]; rfl
          have hpb : m * z ≤ 65536 * 4294967296 := Nat.mul_le_mul hmb hzb
          obtain ⟨P, hP⟩ : ∃ P, m * z = P := ⟨_, rfl⟩
          have hPi : (m : Int) * (z : Int) = (P : Int) := by rw [← hP]; simp
          rw [hP] at hu hpb
          obtain ⟨b4, o4, rfl, hb4, y0⟩ := (HO4.out.below hb).sl.i hu
          obtain ⟨b3, o3, hA7, hb3, y1⟩ := (HSM4.out.below hb).sl.i hm'
          obtain ⟨rfl, rfl⟩ : g7 = b3 ∧ 0 = o3 := by simpa using hA7
          obtain ⟨b5, o5, rfl, hb5, y2⟩ := (HSR4.out.below hb).sl.i hz'
          have hk0 : (0 : Int) ≤ (i : Int) := by omega
          have hk2 : (i : Int) < (j : Int) := by omega
          have hk3 : (0 : Int) ≤ ((j - 1 : Nat) : Int) := by omega
          have hk4 : ((j - 1 : Nat) : Int) < (j : Int) := by omega
          have hw : IntKind.i64.wrap ((j : Int) - 1) = ((j - 1 : Nat) : Int) := by rw [IntWalk.i64_in _ (by omega)]; omega
          have hw2 : IntKind.i64.wrap ((m : Int) * (z : Int)) = (P : Int) := by rw [hPi]; exact IntWalk.i64_in _ (by omega)
          clear hb hu hm hz hm' hz' hP hPi hA7 hpb
          go_upto_region 19 with fail
          rw [Nat.zero_add] at y1
          refine wp_region_class (fun W => Below wr.heap.size wr W) (by kernel_rfl) (by kernel_rfl) (Below.refl _ _).drew ?_
          repeat (first
            | go_big_quiet_skip
            | (go_big_quiet_want
               first
                 | (go_big_quiet_op
                    go_big_quiet_on)
                 | (refine quiet_yield (v := ?_) ?_ ?_
                    rotate_left
                    · intro W hW
                      have y0 := kept hW y0
                      have y1 := kept hW y1
                      have y2 := kept hW y2
                      clear hW
                      go_simp
                      try with_reducible rfl
                    simp only [Act.put, List.setIfInBounds_toArray, List.set_cons_zero, List.set_cons_succ]
                    go_big_quiet_on)))
          refine wpQuiet_nil ?_
          intro W hW
          have HW := hide (chain HB2.out hW)
          clear hW y0 y1 y2 hw hw2
          go_wp2_with fail
          go_roundw
          case rel => exact ⟨i + 1, by omega, by go_num, HW.out⟩
          case measure => simp [RowKit.intOf]; omega
        · obtain rfl : i = j := by omega
          have hk3 : ¬ (i : Int) < (i : Int) := by omega
          have H9 := hide (chain H4.out hb)
          clear hb
          go_wp2_with fail
          go_ret
          exact ⟨rfl, H9.out⟩

set_option maxRecDepth 100000 in
theorem ladderAlike_lifted (os : Os) (started : os.Started) (H : Type) (enc : TypeId × Value → H) :
    ReturnsInHanded {} Tryd.checked os 6 .any (fun w args => (Rows.ladderAlikeSpec.pre enc Tryd.prog Tryd.f6 Rows.ladderAlikeRow.domain false w args ∧ laidMetH Tryd.prog [("errors.errorType", Rows.laid_errors_errorType)] w) ∧ sizedMet enc Tryd.prog Tryd.f6 (OpenSpec.ofChange Rows.ladderAlikeSpec) false w args) (Rows.ladderAlikeSpec.post enc Tryd.prog Tryd.f6 false true false false) := by
  refine returnsInHanded_of_change_and (C := Tryd.checked) (X := fun w _ => laidMetH Tryd.prog [("errors.errorType", Rows.laid_errors_errorType)] w) (fun _ _ _ hh h => h.of_heap hh) own started (by kernel_rfl) Tryd.func6
    (ChangeSpec.witness_at (enc := enc) (C := Tryd.checked) (os := os) (X := fun w _ => laidMetH Tryd.prog [("errors.errorType", Rows.laid_errors_errorType)] w) false (laidWorld os) #[.slice none 0 0, .slice none 0 0] 8 rfl (by kernel_rfl) (by kernel_rfl) (by kernel_rfl) (by kernel_rfl) (by kernel_rfl) (laidWorld_met os _)) ?_
  intro W base args ds gs before hval0 hW hcnd hz0 hL _
  have hval : ∀ (j : Nat) t v, Tryd.f6.params[j]? = some t → args[j]? = some v → Value.okWide Tryd.prog W .any base t v := hval0
  have hg := handle_of_laid hL
  have hW' := hW
  obtain ⟨p, q, hA0, hV, rfl, hfz, hnd⟩ := hW
  have hA : DataW.TrodAll enc Tryd.prog W 0 (fun _ => true) true Tryd.f6.params.toList args.toList ds p := hA0
  rw [Tryd.params6] at hA hval
  obtain ⟨v0, vs0, d0, ds0, p0, q0, hargs, rfl, rfl, h0, r0⟩ := trodAll_cons hA
  obtain ⟨v1, vs1, d1, ds1, p1, q1, rfl, rfl, rfl, h1, r1⟩ := trodAll_cons r0
  obtain ⟨rfl, rfl, rfl⟩ := trodAll_nil r1
  obtain rfl : args = #[v0, v1] := by cases args; simp_all
  obtain ⟨rfl, rfl⟩ := trodVars_none hV
  obtain ⟨A0, l0, p0, rfl, hs0, ho0⟩ := open_u32s (hval 0 38 v0 rfl rfl) h0
  obtain ⟨A1, l1, p1, rfl, hs1, ho1⟩ := open_u16s (hval 1 39 v1 rfl rfl) h1
  refine (ladderAlike_walk W A0 l0 p0 hs0 ho0 A1 l1 p1 hs1 ho1 hg).mono fun e W' ⟨he, hb⟩ => ?_
  subst he
  exact ⟨_, rfl, law_post laidOut (by kernel_rfl) rfl Tryd.underlying4 rfl rfl hW' hb⟩

/-- THE STATEMENT. -/
theorem ladderAlike_holds : Rows.LadderAlikeSaid :=
  OpenClaim.holds_of_wide 6 Tryd.f6 rfl rfl rfl rfl rfl rfl rfl ⟨rfl, rfl, rfl, rfl, rfl⟩ rfl rfl rfl rfl rfl (by kernel_rfl) Tryd.func6 (by kernel_rfl)
    (of_decide_eq_true (by kernel_rfl)) (by unfold Func.isWrapper; first | (rw [if_pos (by decide +kernel)]; kernel_rfl) | (rw [if_neg (by decide +kernel)]; exact ⟨rfl, rfl⟩))
    (fun os started H enc _ => ladderAlike_lifted os started H enc)

/-- THE CARD. -/
theorem ladderAlike_card : Rows.LadderAlikeCardSaid :=
  Claim7.holds_tied_plain_at .later [] [.handle] true (true, "bdcda131af11127666d7c96b4cf135cd643b2f670ab3ee630936f5b9de6127d0") true
    ladderAlike_holds (fun _ h => by cases h) (by kernel_rfl) (fun _ h => by cases h) ladderAlike_row_tie rfl ⟨rfl, rfl⟩ (by kernel_rfl) rfl
    (fun f fn hf hfn => by
      obtain rfl : f = 6 := Option.some.inj ((show Tryd.prog.funcNamed "bordereau/bordereaulaw22.LadderAlike" = some 6 by kernel_rfl).symm.trans hf) |>.symm
      obtain rfl : fn = Tryd.f6 := (Option.some.inj (Tryd.func6.symm.trans hfn)).symm
      exact ⟨by kernel_rfl, fun j t ht => by
        rw [Tryd.params6] at ht
        have h3 : t = 38 ∨ t = 39 := by
          rcases j with _ | _ | j
          · exact .inl (by simpa using ht.symm)
          · exact .inr (by simpa using ht.symm)
          · simp at ht
        rcases h3 with rfl | rfl
        · exact (show Tryd.prog.wantsStandIn 38 = false by kernel_rfl)
        · exact (show Tryd.prog.wantsStandIn 39 = false by kernel_rfl)⟩)
    (by kernel_rfl)
end Go.Proofs.YtndfgglnhkdciaaDoor
