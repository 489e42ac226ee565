/- Part 23 of the proof. -/
import Derived.Test.YtmfohnchnbgbaaaGreatTcM05
import Derived.Test.YtmfohnchnbgbaaaGreatTcM10
import Derived.Test.YtmfohnchnbgbaaaGreatTcM22
/- What is paid: the walk of adjust.Paid. -/
namespace Go.Proofs.YtmfohnchnbgbaaaGreat
open Go.RowKit Go.Lib
set_option linter.unusedSimpArgs false

section
variable {P : Program} {w : World}
variable {ops : Array Oper} {Q : Exit → Act → World → Prop} {md : Region.Mode} {S : World → Prop} {ks : List Nat}
end
theorem elStp : ElT Tryz.prog 156 158 4 32 := ElT.mk' (z := .agg #[.int .i64 0, .int .i64 0, .int .i64 0, .int .i64 0]) Tryz.underlying156 (by kernel_rfl) rfl (by omega)
theorem elRow3 : ElT Tryz.prog 27 54 3 24 := ElT.mk' (z := .agg #[.int .i64 0, .int .i64 0, .int .i64 0]) Tryz.underlying27 (by kernel_rfl) rfl (by omega)
theorem okStp4 (l : List Stp) : RowsOk 4 (l.map encT) := by
  intro r hr
  obtain ⟨x, _, rfl⟩ := List.mem_map.1 hr
  exact ⟨rfl, fun u hu => by simp [encT] at hu; rcases hu with rfl | rfl | rfl | rfl <;> rfl⟩
theorem okRow3 (l : List R3) : RowsOk 3 (l.map enc3) := by
  intro r hr
  obtain ⟨x, _, rfl⟩ := List.mem_map.1 hr
  exact ⟨rfl, fun u hu => by simp [enc3] at hu; rcases hu with rfl | rfl | rfl <;> rfl⟩
theorem cI_at {l : List Int} {f : Nat} {v : Int} (h : l[f]? = some v) : (cellsI l)[f]? = some (.int .i64 v) := by simp [cellsI, h]
theorem cI_set (l : List Int) (f : Nat) (u : Int) : (cellsI l).setIfInBounds f (.int .i64 u) = cellsI (l.set f u) := by
  apply Array.ext'
  simp [cellsI, List.map_set]
theorem Sl.stp {w : World} {B k : Nat} {A : Option Addr} {M : List Stp} {x : Stp} (h : Sl w B 4 A (M.map encT)) (hx : M[k]? = some x) :
    ∃ b off, A = some ⟨b, off, none⟩ ∧ b < B ∧ w.cell? ⟨b, off + k * 4, none⟩ = some (.int .i64 x.f) ∧ w.cell? ⟨b, off + k * 4 + 1, none⟩ = some (.int .i64 x.b) ∧ w.cell? ⟨b, off + k * 4 + 2, none⟩ = some (.int .i64 x.k) ∧ w.cell? ⟨b, off + k * 4 + 3, none⟩ = some (.int .i64 x.m) := by
  obtain ⟨b, off, hA, hb, hc⟩ := h k (encT x) (by simp [hx])
  exact ⟨b, off, hA, hb, by simpa using hc 0 _ rfl, hc 1 _ rfl, hc 2 _ rfl, hc 3 _ rfl⟩
def PaidP (c : Cv) (L : List Fl) (w : World) (e : Ending) (w' : World) : Prop :=
  Below w.heap.size w w' ∧ ((checkQ c L ≠ 0 ∧ e = .returned (.tuple #[.slice none 0 0, .int .i64 (checkQ c L)])) ∨ (checkQ c L = 0 ∧ ∃ (A : Option Addr) (cap : Nat), e = .returned (.tuple #[.slice A (paidS c L).out.length cap, .int .i64 0]) ∧ SV w' 3 A (paidS c L).out.length cap ((paidS c L).out.map enc3)))
theorem check_zero {c : Cv} {L : List Fl} (h : checkQ c L = 0) : rightF c L = true ∧ L.length ≤ 2000 ∧ actsN L ≤ 2000 := by
  unfold checkQ at h
  by_cases hr : rightF c L = true
  · rw [if_pos hr] at h
    by_cases h2 : 2000 < L.length ∨ 2000 < actsN L
    · rw [if_pos h2] at h; cases h
    · exact ⟨hr, by omega, by omega⟩
  · rw [if_neg hr] at h; cases h
/-- Two new rows of noughts. -/
structure MkI (w4 : World) (k SH PD : Nat) (wx : World) : Prop where
  ne : SH ≠ PD
  s : w4.heap.size ≤ SH
  p : w4.heap.size ≤ PD
  bs : Blk wx SH 3 (cellsI (List.replicate k 0))
  bp : Blk wx PD 3 (cellsI (List.replicate k 0))
  be : Below w4.heap.size w4 wx
def MkP (w4 : World) (k : Nat) (a b q : Value) (wx : World) : Prop := ∃ SH PD : Nat, a = .slice (some ⟨SH, 0, none⟩) k k ∧ b = .slice (some ⟨PD, 0, none⟩) k k ∧ q = .int .i64 0 ∧ MkI w4 k SH PD wx
/-- The state of the third loop. -/
structure LpW (s : PS) (w4 : World) (SH PD B : Nat) (A5 : Option Addr) (cap5 : Nat) (wr : World) : Prop where
  bs : Blk wr SH 3 (cellsI s.sh)
  bp : Blk wr PD 3 (cellsI s.pd)
  ow : OwnS wr B 54 3 A5 s.out.length cap5 (s.out.map enc3)
  be : Below w4.heap.size w4 wr
  sz : B ≤ wr.heap.size
theorem LpW.below {s : PS} {w4 wr wx : World} {SH PD B cap5 : Nat} {A5 : Option Addr} (h : LpW s w4 SH PD B A5 cap5 wr) (hb : Below wr.heap.size wr wx) : LpW s w4 SH PD B A5 cap5 wx :=
  ⟨h.bs.below hb h.bs.lt, h.bp.below hb h.bp.lt, h.ow.below hb, chain h.be hb, Nat.le_trans h.sz hb.size⟩
theorem LpW.drew {s : PS} {w4 wr : World} {SH PD B cap5 : Nat} {A5 : Option Addr} (h : LpW s w4 SH PD B A5 cap5 wr) : LpW s w4 SH PD B A5 cap5 wr.drew := h.below (Below.refl _ _).drew
theorem LpW.setSh {s : PS} {w4 wr : World} {SH PD B cap5 : Nat} {A5 : Option Addr} (h : LpW s w4 SH PD B A5 cap5 wr) (hne : SH ≠ PD) (h4 : w4.heap.size ≤ SH) (hB : SH < B) (f : Nat) (u : Int) :
    LpW { s with sh := s.sh.set f u } w4 SH PD B A5 cap5 (wr.setCell ⟨SH, f, none⟩ (.int .i64 u)) :=
  ⟨by have := h.bs.set_ f (.int .i64 u); rwa [cI_set] at this, h.bp.far (p := ⟨SH, f, none⟩) (Ne.symm hne) _, h.ow.far (p := ⟨SH, f, none⟩) (fun b hb => by have := (h.ow.lt b hb).1; simp; omega) _, h.be.setCell h4 _, by simpa using h.sz⟩
theorem LpW.setPd {s : PS} {w4 wr : World} {SH PD B cap5 : Nat} {A5 : Option Addr} (h : LpW s w4 SH PD B A5 cap5 wr) (hne : SH ≠ PD) (h4 : w4.heap.size ≤ PD) (hB : PD < B) (f : Nat) (u a : Int) :
    LpW { s with pd := s.pd.set f u, all := a } w4 SH PD B A5 cap5 (wr.setCell ⟨PD, f, none⟩ (.int .i64 u)) :=
  ⟨h.bs.far (p := ⟨PD, f, none⟩) hne _, by have := h.bp.set_ f (.int .i64 u); rwa [cI_set] at this, h.ow.far (p := ⟨PD, f, none⟩) (fun b hb => by have := (h.ow.lt b hb).1; simp; omega) _, h.be.setCell h4 _, by simpa using h.sz⟩
theorem acts_mono {L : List Fl} : ∀ k, actsN (L.take k) ≤ actsN L := fun k => by
  have : actsN L = actsN (L.take k) + actsN (L.drop k) := by
    unfold actsN
    rw [← List.sum_append, ← List.map_append, List.take_append_drop]
  omega

set_option maxRecDepth 100000 in
set_option maxHeartbeats 8000000 in
theorem paid_any (c : Cv) (A : Option Addr) (n cap : Nat) (L : List Fl) (w : World) (ho : okCv c) (hv : FV w A n cap L) (hn1 : n ≤ 1000) :
    Calls Tryz.prog 28 #[.agg #[.int .i64 c.p, .int .i64 c.lim, .int .i64 c.agg, .int .i64 c.ded, .int .i64 c.sh], .slice A n cap] w (PaidP c L w) := by
  have hn := hv.len
  have hle := hv.sv.le
  have hmo := hv.sv.most
  unfold maxLen at hmo
  obtain ⟨w1, hw1⟩ : ∃ W, w.alloc (.cells (cvC c) 23) = W := ⟨_, rfl⟩
  have h01 : Below w.heap.size w w1 := by rw [← hw1]; exact (Below.refl _ _).alloc (Nat.le_refl _) _
  have HB := hide (show Blk w1 w.heap.size 23 (cvC c) by rw [← hw1]; exact Blk.new _ _ _)
  obtain ⟨x0, x1, x2, x3, x4⟩ := cv_cells HB.out
  have HV := hide (hv.below h01)
  have H1 := hide h01
  have HW := hide hw1
  have HN := hide hn
  have HOK := hide ho
  obtain ⟨E, hE⟩ : ∃ E, checkQ c L = E := ⟨_, rfl⟩
  have HE := hide hE
  have HR := hide (show Calls Tryz.prog 61 #[.agg #[.int .i64 c.p, .int .i64 c.lim, .int .i64 c.agg, .int .i64 c.ded, .int .i64 c.sh], .slice A n cap] w1 fun e w' => e = .returned (.int .i64 E) ∧ Below w1.heap.size w1 w' by rw [← hE]; exact checkF_any c A n cap L w1 ho (hv.below h01) (by omega))
  clear hw1 h01 hv ho hn hE
  go_enter Tryz.func28, Tryz.ntmps28
  go_upto_region 1 with fail
  rw [show w.alloc (.cells #[.int .i64 c.p, .int .i64 c.lim, .int .i64 c.agg, .int .i64 c.ded, .int .i64 c.sh] 23) = w1 from HW.out]
  go_wp2_with fail
  refine HR.out.mono ?_
  rintro e w2 ⟨rfl, h2⟩
  have H2 := hide (chain H1.out h2)
  have HV2 := hide (HV.out.below h2)
  have HB2 := hide (HB.out.below h2 HB.out.lt)
  clear h2 x0 x1 x2 x3 x4
  by_cases hE0 : E = 0
  case neg =>
    have hq : (E != 0) = true := by simpa using hE0
    have HP := hide (show PaidP c L w (.returned (.tuple #[.slice none 0 0, .int .i64 E])) w2 from ⟨H2.out, .inl ⟨by rw [HE.out]; exact hE0, by rw [HE.out]⟩⟩)
    clear hE0
    go_wp2_with fail
    go_ret2
    exact HP.out
  subst hE0
  obtain ⟨hrf, hn20, hac⟩ := check_zero HE.out
  have HRF := hide hrf
  have HAC := hide hac
  clear hrf hn20 hac
  go_wp2_with fail
  go_loopw [7, 27] (fun q7 q27 wr => ∃ (k m : Nat) (A' : Option Addr) (cap' : Nat), k ≤ n ∧ q27 = .int .i64 k ∧ q7 = .slice A' m cap' ∧ Hid (m = actsN (L.take k)) ∧ OwnS wr w2.heap.size 158 4 A' m cap' ((stepsL 0 (L.take k)).map encT) ∧ Below w2.heap.size w2 wr) (fun _ q _ => n - (RowKit.intOf q).toNat)
  case atStart => exact ⟨0, 0, none, 0, Nat.zero_le _, rfl, rfl, hide (by simp [actsN]), OwnS.nil_ _ _ _ _, Below.refl _ _⟩
  case round =>
    rename World => wo
    obtain ⟨k, m, A', cap', hk, rfl, rfl, hm, ho, hb⟩ := hrel
    have HO := hide ho
    have HBE := hide hb
    by_cases hlt : k < n
    · obtain ⟨x, hx⟩ := get_of (l := L) (k := k) (by rw [HN.out]; exact hlt)
      obtain ⟨bb, off, hA, hbl, c0, c1, c2, c3, c4, c5, c6⟩ := (HV2.out.below hb).sv.sl.fl hx
      have hk0 : (0 : Int) ≤ (k : Int) := by omega
      have hk1 : (k : Int) < (n : Int) := by omega
      have HX := hide hx
      have hsx := HV2.out.ac x (List.mem_of_getElem? hx)
      have hxl := hsx.le
      have hxm := hsx.most
      unfold maxLen at hxm
      have HSX := hide hsx
      obtain ⟨p, hp⟩ : ∃ p, x.l.length = p := ⟨_, rfl⟩
      have HP := hide hp
      have htot : m + p ≤ 2000 := by
        have h1 := acts_take hx
        have h2 := acts_mono (L := L) (k + 1)
        have h3 := hm.out
        have h4 := HAC.out
        omega
      rw [hp] at c6 hxl
      subst hA
      clear ho hb hx hsx hp
      go_wp2_with fail
      go_loopw [7, 35] (fun q7 q35 wr => ∃ (j : Nat) (A2 : Option Addr) (cap2 : Nat), j ≤ p ∧ q35 = .int .i64 j ∧ q7 = .slice A2 ((m + j : Nat)) cap2 ∧ OwnS wr w2.heap.size 158 4 A2 (m + j) cap2 ((stepsL 0 (L.take k) ++ (stepsF k x).take j).map encT) ∧ Below w2.heap.size w2 wr) (fun _ q _ => p - (RowKit.intOf q).toNat)
      case atStart => exact ⟨0, A', cap', Nat.zero_le _, rfl, rfl, by simpa using HO.out.alloc _, HBE.out.alloc HBE.out.size _⟩
      case round =>
        obtain ⟨j, A2, cap2, hj, rfl, rfl, ho2, hb2⟩ := hrel
        have HO2 := hide ho2
        have HB3 := hide hb2
        by_cases hlt2 : j < p
        · obtain ⟨a, ha⟩ := get_of (l := x.l) (k := j) (by rw [HP.out]; exact hlt2)
          obtain ⟨ab, ao, hA2, hab, a0, a1, a2⟩ := (HSX.out.below hb2).sl.ac ha
          have hj0 : (0 : Int) ≤ (j : Int) := by omega
          have hj1 : (j : Int) < (p : Int) := by omega
          have HA := hide ha
          have hsz2 : w2.heap.size ≤ wr.heap.size := hb2.size
          rw [hA2]
          clear ho2 hb2 ha hA2
          go_wp2_with (at_builtin
                       refine wpList_app rfl (.tmp 39) (.tmp 43) 156 rfl elStp (B := w2.heap.size) (A2 := some ⟨_, 0, none⟩) (news := [(⟨k, a.b, a.k, a.m⟩ : Stp)].map encT) rfl ((HO2.out.alloc _).alloc _) rfl rfl ?_ (okStp4 [(⟨k, a.b, a.k, a.m⟩ : Stp)]) ?_ ?_ ?_ ?_
                       · exact sl_of_blk (cs := #[.int .i64 k, .int .i64 a.b, .int .i64 a.k, .int .i64 a.m]) (Blk.new' (by simp))
                       · simp only [maxLen]; omega
                       · omega
                       · simp; omega
                       intro A3 cap3 wa ho1 hg1 ha1
                       have HBa := hide (((HB3.out.alloc HB3.out.size (.cells #[.int .i64 a.b, .int .i64 a.k, .int .i64 a.m] 95)).alloc (by simp; omega) (.cells #[.int .i64 k, .int .i64 a.b, .int .i64 a.k, .int .i64 a.m] 158)).grown hg1 (by simp; omega) (fun kk hk => (HO2.out.lt kk hk).1))
                       have HOa := hide ho1
                       clear hg1 ha1 ho1)
          go_roundw
          case rel =>
            refine ⟨j + 1, A3, cap3, by omega, by go_num, rfl, ?_, HBa.out⟩
            have h1 := HOa.out
            have h2 : (stepsF k x)[j]? = some ⟨k, a.b, a.k, a.m⟩ := by simp [stepsF, HA.out]
            rw [take_of h2, ← List.append_assoc, List.map_append]
            exact h1
          case measure => simp [RowKit.intOf]; omega
        · obtain rfl : j = p := by omega
          clear ho2 hb2
          go_wp2_with fail
          go_roundw
          case rel =>
            refine ⟨k + 1, m + j, A2, cap2, by omega, by go_num, rfl, hide (by have h1 := acts_take HX.out; have h2 := hm.out; have h3 := HP.out; omega), ?_, HB3.out⟩
            rw [stepsL_take HX.out]
            have h1 := HO2.out
            rw [show (stepsF k x).take j = stepsF k x from List.take_of_length_le (by simp [stepsF, HP.out])] at h1
            exact h1
          case measure => simp [RowKit.intOf]; omega
    · obtain rfl : k = n := by omega
      have htk : L.take k = L := List.take_of_length_le (by rw [HN.out]; exact Nat.le_refl _)
      rw [htk] at ho hm HO
      clear htk
      have hma : m ≤ 2000 := by have := hm.out; have := HAC.out; omega
      have HSO := hide (sortS_any (stepsL 0 L) A' w2.heap.size m cap' wo ho (by omega))
      clear ho hb
      go_wp2_with fail
      refine HSO.out.mono ?_
      rintro e w4 ⟨rfl, ho4, hg4⟩
      have H4 := hide (HBE.out.grown hg4 HBE.out.size (fun kk hk => (HO.out.lt kk hk).1))
      have HO4 := hide ho4
      clear ho4 hg4
      have hmk : ∀ W : World, (Instr.makeSlice 39 (.int .i64 (k : Int)) (.int .i64 (k : Int))).run Tryz.prog W = .ok (.slice (some ⟨W.heap.size, 0, none⟩) k k) (W.alloc (.cells (cellsI (List.replicate k 0)) 3)) := fun W => by
        have := make_ints (k : Int) (List.replicate k 0) (by simp) (by simp; omega) (by simp) W
        rwa [List.length_replicate] at this
      go_upto_region 15 with fail
      go_cut [12, 13, 14] (fun a b q wx => MkP w4 k a b q wx)
      case first =>
        refine wp_region_T (fun _ => True) [0, 1, 2, 3, 4, 5, 6, 7, 8] rfl (by kernel_rfl) ?_
        refine wpAnyT_take0 (i := 0) (v := ?_) rfl (by kernel_rfl) (by kernel_rfl) (by kernel_rfl) (by kernel_rfl) (fun _ _ _ h => h) (Or.inl ⟨by rfl, ?_⟩) ?_
        rotate_left
        · intro W hSW
          go_simp
          try with_reducible rfl
        simp only [Act.put, List.setIfInBounds_toArray, List.set_cons_zero, List.set_cons_succ]
        refine wpAnyT_take0 (i := 1) (v := ?_) rfl (by kernel_rfl) (by kernel_rfl) (by kernel_rfl) (by kernel_rfl) (fun _ _ _ h => h) (Or.inl ⟨by rfl, ?_⟩) ?_
        rotate_left
        · intro W hSW
          go_simp
          try with_reducible rfl
        simp only [Act.put, List.setIfInBounds_toArray, List.set_cons_zero, List.set_cons_succ]
        refine wpAnyT_take0 (i := 3) (v := ?_) rfl (by kernel_rfl) (by kernel_rfl) (by kernel_rfl) (by kernel_rfl) (fun _ _ _ h => h) (Or.inl ⟨by rfl, ?_⟩) ?_
        rotate_left
        · intro W hSW
          go_simp
          try with_reducible rfl
        simp only [Act.put, List.setIfInBounds_toArray, List.set_cons_zero, List.set_cons_succ]
        refine wpAnyT_take0 (i := 4) (v := ?_) rfl (by kernel_rfl) (by kernel_rfl) (by kernel_rfl) (by kernel_rfl) (fun _ _ _ h => h) (Or.inl ⟨by rfl, ?_⟩) ?_
        rotate_left
        · intro W hSW
          go_simp
          try with_reducible rfl
        simp only [Act.put, List.setIfInBounds_toArray, List.set_cons_zero, List.set_cons_succ]
        refine wpAnyT_ready (rs := [2, 5]) (by decide +kernel) (by simp) ?_
        refine AllReadyT.cons rfl (fun K hK => ?_) (AllReadyT.cons rfl (fun K hK => ?_) AllReadyT.nil)
        · go_simp
          refine hK.out _ _ (fun h => by cases h) ?_
          clear hK K
          try simp only [Act.put, List.setIfInBounds_toArray, List.set_cons_zero, List.set_cons_succ]
          refine wpAnyT_take0 (i := 6) (v := ?_) rfl (by kernel_rfl) (by kernel_rfl) (by kernel_rfl) (by kernel_rfl) (fun _ _ _ h => h) (Or.inl ⟨by rfl, ?_⟩) ?_
          rotate_left
          · intro W hSW
            go_simp
            try with_reducible rfl
          simp only [Act.put, List.setIfInBounds_toArray, List.set_cons_zero, List.set_cons_succ]
          refine wpAnyT_ready (rs := [5]) (by decide +kernel) (by simp) ?_
          refine AllReadyT.cons rfl (fun K hK => ?_) AllReadyT.nil
          go_simp
          refine hK.out _ _ (fun h => by cases h) ?_
          clear hK K
          try simp only [Act.put, List.setIfInBounds_toArray, List.set_cons_zero, List.set_cons_succ]
          refine wpAnyT_ready (rs := [7]) (by decide +kernel) (by simp) ?_
          refine AllReadyT.cons rfl (fun K hK => ?_) AllReadyT.nil
          go_simp
          refine hK.out _ _ (fun h => by cases h) ?_
          clear hK K
          try simp only [Act.put, List.setIfInBounds_toArray, List.set_cons_zero, List.set_cons_succ]
          refine wpAnyT_ready (rs := [8]) (by decide +kernel) (by simp) ?_
          refine AllReadyT.cons rfl (fun K hK => ?_) AllReadyT.nil
          go_simp
          refine hK.out _ _ (fun h => by cases h) ?_
          clear hK K
          try simp only [Act.put, List.setIfInBounds_toArray, List.set_cons_zero, List.set_cons_succ]
          refine wpAnyT_done (by decide +kernel) ?_ _
          clear hmk
          go_wp2_with fail
          go_meet
          exact ⟨w4.heap.size, w4.heap.size + 1, rfl, rfl, rfl, by omega, by omega, by omega, ((Blk.new _ _ _).alloc _).drew, (Blk.new' (by simp)).drew, (((Below.refl _ _).alloc (Nat.le_refl _) _).alloc (by simp) _).drew⟩
        · go_simp
          refine hK.out _ _ (fun h => by cases h) ?_
          clear hK K
          try simp only [Act.put, List.setIfInBounds_toArray, List.set_cons_zero, List.set_cons_succ]
          refine wpAnyT_ready (rs := [2]) (by decide +kernel) (by simp) ?_
          refine AllReadyT.cons rfl (fun K hK => ?_) AllReadyT.nil
          go_simp
          refine hK.out _ _ (fun h => by cases h) ?_
          clear hK K
          try simp only [Act.put, List.setIfInBounds_toArray, List.set_cons_zero, List.set_cons_succ]
          refine wpAnyT_ready (rs := [6]) (by decide +kernel) (by simp) ?_
          refine AllReadyT.cons rfl (fun K hK => ?_) AllReadyT.nil
          go_simp
          refine hK.out _ _ (fun h => by cases h) ?_
          clear hK K
          try simp only [Act.put, List.setIfInBounds_toArray, List.set_cons_zero, List.set_cons_succ]
          refine wpAnyT_ready (rs := [7]) (by decide +kernel) (by simp) ?_
          refine AllReadyT.cons rfl (fun K hK => ?_) AllReadyT.nil
          go_simp
          refine hK.out _ _ (fun h => by cases h) ?_
          clear hK K
          try simp only [Act.put, List.setIfInBounds_toArray, List.set_cons_zero, List.set_cons_succ]
          refine wpAnyT_ready (rs := [8]) (by decide +kernel) (by simp) ?_
          refine AllReadyT.cons rfl (fun K hK => ?_) AllReadyT.nil
          go_simp
          refine hK.out _ _ (fun h => by cases h) ?_
          clear hK K
          try simp only [Act.put, List.setIfInBounds_toArray, List.set_cons_zero, List.set_cons_succ]
          refine wpAnyT_done (by decide +kernel) ?_ _
          clear hmk
          go_wp2_with fail
          go_meet
          exact ⟨w4.heap.size + 1, w4.heap.size, rfl, rfl, rfl, by omega, by omega, by omega, (Blk.new' (by simp)).drew, ((Blk.new _ _ _).alloc _).drew, (((Below.refl _ _).alloc (Nat.le_refl _) _).alloc (by simp) _).drew⟩
      clear hmk
      case rest =>
      obtain ⟨SH, PD, rfl, rfl, rfl, hmk⟩ := hcut
      have HMK := hide hmk
      obtain ⟨S, hS⟩ : ∃ S, sortS (stepsL 0 L) = S := ⟨_, rfl⟩
      rw [hS] at HO4
      have hSl : S.length = m := by have := HO4.out.len; simpa using this
      have HSS := hide hS
      have HSL := hide hSl
      have HOKS := hide (show ∀ x ∈ S, okStp k x by rw [← hS, ← HN.out]; exact sort_ok HRF.out)
      have HCB := hide (right_file HRF.out).1
      have HB4 := hide (HB2.out.below H4.out HB2.out.lt)
      have hne : SH ≠ PD := hmk.ne
      have hsh4 : w4.heap.size ≤ SH := hmk.s
      have hpd4 : w4.heap.size ≤ PD := hmk.p
      have hcb4 : w.heap.size < w4.heap.size := HB4.out.lt
      obtain ⟨B, hB⟩ : ∃ B, wc.heap.size = B := ⟨_, rfl⟩
      have hshB : SH < B := by rw [← hB]; exact hmk.bs.lt
      have hpdB : PD < B := by rw [← hB]; exact hmk.bp.lt
      have HBB := hide hB
      clear hmk hS hSl hB
      go_wp2_with fail
      go_loopw [14, 15, 57] (fun q14 q15 q57 wr => ∃ (i : Nat) (A5 : Option Addr) (cap5 : Nat), i ≤ m ∧ q57 = .int .i64 i ∧ q14 = .int .i64 (pRun c k (S.take i)).all ∧ q15 = .slice A5 (pRun c k (S.take i)).out.length cap5 ∧ LpW (pRun c k (S.take i)) w4 SH PD B A5 cap5 wr) (fun _ _ q _ => m - (RowKit.intOf q).toNat)
      case atStart => exact ⟨0, none, 0, Nat.zero_le _, rfl, rfl, rfl, ⟨HMK.out.bs, HMK.out.bp, OwnS.nil_ _ _ _ _, HMK.out.be, by have := HBB.out; omega⟩⟩
      case round =>
        rename World => wp
        obtain ⟨i, A5, cap5, hi, rfl, rfl, rfl, hl⟩ := hrel
        have hinv := pRun_inv HCB.out HOKS.out i (by rw [HSL.out]; exact hi)
        obtain ⟨s, hs⟩ : ∃ s, pRun c k (S.take i) = s := ⟨_, rfl⟩
        rw [hs] at hl hinv ⊢
        have HSR := hide hs
        have HL := hide hl
        have HIN := hide hinv
        clear hs
        by_cases hlt : i < m
        · obtain ⟨x, hx⟩ := get_of (l := S) (k := i) (by rw [HSL.out]; exact hlt)
          have hst := HOKS.out x (List.mem_of_getElem? hx)
          have HST := hide hst
          have HPB := hide (pay_bd HCB.out hinv hst)
          have HRT := hide (pRun_take (c := c) (n := k) hx)
          obtain ⟨⟨f, hf, hfk⟩, hm0, hm1⟩ := hst
          obtain ⟨b, off, hA, hbl, d0, d1, d2, d3⟩ := (HO4.out.sv.below hl.be).sl.stp hx
          have hi0 : (0 : Int) ≤ (i : Int) := by omega
          have hi1 : (i : Int) < (m : Int) := by omega
          rw [hf] at d0
          obtain ⟨wx, hwx⟩ : ∃ W, wp.alloc (.cells #[.int .i64 f, .int .i64 x.b, .int .i64 x.k, .int .i64 x.m] 158) = W := ⟨_, rfl⟩
          have hbx : Below wp.heap.size wp wx := by rw [← hwx]; exact (Below.refl _ _).alloc (Nat.le_refl _) _
          have HX := hide (show Blk wx wp.heap.size 158 #[.int .i64 f, .int .i64 x.b, .int .i64 x.k, .int .i64 x.m] by rw [← hwx]; exact Blk.new _ _ _)
          have HLX := hide (hl.below hbx)
          have HWX := hide hwx
          have HF := hide hf
          have hszp : w4.heap.size ≤ wp.heap.size := hl.be.size
          rw [hA]
          clear hl hinv hx hwx hbx hA hf
          go_upto_region 20 with fail
          rw [HWX.out]
          obtain ⟨X, hX⟩ : ∃ X, wp.heap.size = X := ⟨_, rfl⟩
          have hXS : SH < X := by have := HL.out.sz; omega
          have hXP : PD < X := by have := HL.out.sz; omega
          have hXB : B ≤ X := by have := HL.out.sz; omega
          rw [hX] at HX hszp ⊢
          have HXX := hide hX
          clear hX HWX d0 d1 d2 d3
          have y0 : wx.cell? ⟨X, 0, none⟩ = some (.int .i64 f) := HX.out.cell 0
          have y1 : wx.cell? ⟨X, 1, none⟩ = some (.int .i64 x.b) := HX.out.cell 1
          have y2 : wx.cell? ⟨X, 2, none⟩ = some (.int .i64 x.k) := HX.out.cell 2
          have y3 : wx.cell? ⟨X, 3, none⟩ = some (.int .i64 x.m) := HX.out.cell 3
          by_cases hk2 : x.k = 2
          · have hz : (x.k != 2) = false := by simpa using hk2
            have HK2 := hide hk2
            clear hk2
            obtain ⟨v, hv⟩ := get_of (l := s.sh) (k := f) (by rw [HIN.out.ls]; exact hfk)
            obtain ⟨p, hp⟩ := get_of (l := s.pd) (k := f) (by rw [HIN.out.lp]; exact hfk)
            have hft : x.f.toNat = f := by rw [HF.out]; exact Int.toNat_natCast f
            have e1 : geI s.sh x.f.toNat = v := by rw [hft]; exact geI_of hv
            have e2 : geI s.pd x.f.toNat = p := by rw [hft]; exact geI_of hp
            obtain ⟨q, hq⟩ : ∃ q, paysQ c (v + x.m) (s.all - p) = q := ⟨_, rfl⟩
            have hmq : morQ c s x = q - p := by rw [morQ, e1, e2, hq]
            have hpb := HPB.out
            rw [e1, e2, hmq] at hpb
            have hqb := (paysQ_bd c (v + x.m) (s.all - p)).1
            rw [hq] at hqb
            have HPS := hide (show pStep c s x = if q - p ≤ 0 then { s with sh := s.sh.set f (v + x.m) } else ⟨s.sh.set f (v + x.m), s.pd.set f (p + (q - p)), s.all + (q - p), s.out ++ [⟨x.f, x.b, q - p⟩]⟩ by
              unfold pStep
              rw [if_pos HK2.out, hmq, e1, e2, hft])
            obtain ⟨al, hal⟩ : ∃ a, s.all = a := ⟨_, rfl⟩
            rw [hal] at hpb hq ⊢
            have HALL := hide hal
            obtain ⟨pb1, pb2, pb3, pb4, pb5, pb6, pb7⟩ := hpb
            have hvb : v ≤ 2000000000000000000 := by omega
            have HPY := hide (fun (W0 W : World) (hW : Below W0.heap.size W0 W) => (show Calls Tryz.prog 30 #[.agg #[.int .i64 c.p, .int .i64 c.lim, .int .i64 c.agg, .int .i64 c.ded, .int .i64 c.sh], .int .i64 (v + x.m), .int .i64 (al - p)] W fun e w' => e = .returned (.int .i64 q) ∧ Below W0.heap.size W0 w' by
              rw [← hq]; exact (pays_any c (v + x.m) (al - p) (by omega) (by omega) W HOK.out).mono fun e w'' h => ⟨h.1, chain hW h.2⟩))
            have v0 : wx.cell? ⟨SH, f, none⟩ = some (.int .i64 v) := by rw [HLX.out.bs.cell]; exact cI_at hv
            have HVV := hide hv
            have HPP := hide hp
            have hf0 : (0 : Int) ≤ (f : Int) := by omega
            have hf1 : (f : Int) < (k : Int) := by omega
            have hwv : IntKind.i64.wrap (v + x.m) = v + x.m := IntWalk.i64_in _ (by omega)
            have hfz : wx.frozen? ⟨SH, f, none⟩ = false := HLX.out.bs.frozen f
            clear hv hp hft e1 e2 hq hmq hal
            go_upto_region 21 with fail
            clear y1 y2
            go_cut [57] from 57 to 121 (fun q57 W => q57 = .int .i64 i ∧ W = (wx.setCell ⟨SH, f, none⟩ (.int .i64 (v + x.m))).drew)
            case first =>
              go_region_law (fail)
              all_goals
                go_wp2_with fail
                go_meet
                exact ⟨rfl, rfl⟩
            case rest =>
            obtain ⟨rfl, hcut⟩ := hcut
            subst hcut
            clear hwv hfz y0 y3 v0
            have HL6 := hide ((HLX.out.setSh hne hsh4 hshB f (v + x.m)).drew)
            have HX6 := hide (((HX.out).far (p := ⟨SH, f, none⟩) (by simp; omega) (.int .i64 (v + x.m))).drew)
            obtain ⟨w6, hw6⟩ : ∃ W, (wx.setCell ⟨SH, f, none⟩ (.int .i64 (v + x.m))).drew = W := ⟨_, rfl⟩
            rw [hw6] at HL6 HX6 ⊢
            clear hw6
            obtain ⟨b0, b1, b2, b3, b4⟩ := cv_cells (HB4.out.below HL6.out.be hcb4)
            have t0 : w6.cell? ⟨X, 0, none⟩ = some (.int .i64 f) := HX6.out.cell 0
            have sv6 : w6.cell? ⟨SH, f, none⟩ = some (.int .i64 (v + x.m)) := by
              rw [HL6.out.bs.cell]
              exact cI_at (List.getElem?_set_self (by have := lt_of_get HVV.out; exact this))
            have pv6 : w6.cell? ⟨PD, f, none⟩ = some (.int .i64 p) := by rw [HL6.out.bp.cell]; exact cI_at HPP.out
            have hqm : q ≤ 4000000000000000000 := by omega
            have hwp : IntKind.i64.wrap (al - p) = al - p := IntWalk.i64_in _ (by omega)
            have hwq : IntKind.i64.wrap (q - p) = q - p := IntWalk.i64_in _ (by omega)
            go_wp2_with fail
            refine wp_region_class (fun W => Below w6.heap.size w6 W) (by kernel_rfl) (by kernel_rfl) (Below.refl _ _).drew ?_
            repeat (first
              | go_big_quiet_skip
              | (go_big_quiet_want
                 first
                   | (go_big_quiet_op
                      go_big_quiet_on)
                   | (refine quiet_call (v := .int .i64 q) (f := 30) (args := #[.agg #[.int .i64 c.p, .int .i64 c.lim, .int .i64 c.agg, .int .i64 c.ded, .int .i64 c.sh], .int .i64 (v + x.m), .int .i64 (al - p)]) ?_ ?_ ?_
                      · intro W hW
                        have b0 := kept hW b0
                        have b1 := kept hW b1
                        have b2 := kept hW b2
                        have b3 := kept hW b3
                        have b4 := kept hW b4
                        have t0 := kept hW t0
                        have sv6 := kept hW sv6
                        have pv6 := kept hW pv6
                        clear hW
                        go_simp
                        done
                      · intro W hW
                        exact HPY.out w6 W hW
                      simp only [Act.put, List.setIfInBounds_toArray, List.set_cons_zero, List.set_cons_succ]
                      go_big_quiet_on)
                   | (refine quiet_yield (v := ?_) ?_ ?_
                      rotate_left
                      · intro W hW
                        have b0 := kept hW b0
                        have b1 := kept hW b1
                        have b2 := kept hW b2
                        have b3 := kept hW b3
                        have b4 := kept hW b4
                        have t0 := kept hW t0
                        have sv6 := kept hW sv6
                        have pv6 := kept hW pv6
                        clear hW
                        go_simp
                        try with_reducible rfl
                      simp only [Act.put, List.setIfInBounds_toArray, List.set_cons_zero, List.set_cons_succ]
                      go_big_quiet_on)))
            refine wpQuiet_nil ?_
            intro W hW
            have HW6 := hide hW
            have HLW := hide (HL6.out.below hW)
            have HXW := hide (HX6.out.below hW HX6.out.lt)
            have t0 : W.cell? ⟨X, 0, none⟩ = some (.int .i64 f) := kept hW t0
            have t1 : W.cell? ⟨X, 1, none⟩ = some (.int .i64 x.b) := HXW.out.cell 1
            have pvW : W.cell? ⟨PD, f, none⟩ = some (.int .i64 p) := kept hW pv6
            clear hW b0 b1 b2 b3 b4 sv6 pv6 hwp hwq
            by_cases hmore : q - p ≤ 0
            · have HMO := hide hmore
              have hmz : q ≤ p := by omega
              have hmd : decide (q - p ≤ 0) = true := decide_eq_true HMO.out
              clear hmore
              go_wp2_with fail
              go_roundw
              case rel =>
                refine ⟨i + 1, A5, cap5, by omega, by go_num, ?_, ?_, ?_⟩
                · rw [HRT.out, HSR.out, HPS.out, if_pos HMO.out]; show Value.int .i64 al = .int .i64 s.all; rw [HALL.out]
                · rw [HRT.out, HSR.out, HPS.out, if_pos HMO.out]
                · rw [HRT.out, HSR.out, HPS.out, if_pos HMO.out]; exact HLW.out
              case measure => simp [RowKit.intOf]; omega
            · have HMO := hide hmore
              have hmz : ¬ q ≤ p := by omega
              have hmd : decide (q - p ≤ 0) = false := by simp; omega
              have hml : ¬ q - p ≤ 0 := hmore
              clear hmore
              have hwn : IntKind.i64.wrap (p + (q - p)) = p + (q - p) := IntWalk.i64_in _ (by omega)
              have hwa : IntKind.i64.wrap (al + (q - p)) = al + (q - p) := IntWalk.i64_in _ (by omega)
              have hfp : W.frozen? ⟨PD, f, none⟩ = false := HLW.out.bp.frozen f
              go_upto_region 24 with fail
              clear t1
              go_cut [14, 57] from 57 to 121 (fun q14 q57 W2 => q14 = .int .i64 (al + (q - p)) ∧ q57 = .int .i64 i ∧ W2 = (W.setCell ⟨PD, f, none⟩ (.int .i64 (p + (q - p)))).drew)
              case first =>
                go_region_law (fail)
                all_goals
                  go_wp2_with fail
                  go_meet
                  exact ⟨rfl, rfl, rfl⟩
              case rest =>
              obtain ⟨rfl, rfl, hcut⟩ := hcut
              subst hcut
              have HL7 := hide ((HLW.out.setPd hne hpd4 hpdB f (p + (q - p)) (al + (q - p))).drew)
              have HX7 := hide (((HXW.out).far (p := ⟨PD, f, none⟩) (by simp; omega) (.int .i64 (p + (q - p)))).drew)
              obtain ⟨w7, hw7⟩ : ∃ W2, (W.setCell ⟨PD, f, none⟩ (.int .i64 (p + (q - p)))).drew = W2 := ⟨_, rfl⟩
              rw [hw7] at HL7 HX7 ⊢
              have hout : s.out.length ≤ 2000 := by have := HIN.out.ol; omega
              obtain ⟨ol, hol⟩ : ∃ o, s.out.length = o := ⟨_, rfl⟩
              rw [hol] at hout
              have HOW := hide HL7.out.ow
              have HOL := hide hol
              simp only at HOW
              rw [hol] at HOW ⊢
              have t0 : w7.cell? ⟨X, 0, none⟩ = some (.int .i64 f) := HX7.out.cell 0
              have t1 : w7.cell? ⟨X, 1, none⟩ = some (.int .i64 x.b) := HX7.out.cell 1
              have hz7 : B ≤ w7.heap.size := HL7.out.sz
              clear hw7 hwn hwa hfp pvW hol
              go_wp2_with (at_builtin
                           refine wpList_app rfl (.tmp 111) (.tmp 119) 27 rfl elRow3 (B := B) (A2 := some ⟨_, 0, none⟩) (news := [(⟨f, x.b, q - p⟩ : R3)].map enc3) rfl (HOW.out.alloc _) rfl rfl ?_ (okRow3 [(⟨f, x.b, q - p⟩ : R3)]) ?_ ?_ ?_ ?_
                           · exact sl_of_blk (cs := #[.int .i64 f, .int .i64 x.b, .int .i64 (q - p)]) (Blk.new' (by simp))
                           · simp only [maxLen]; omega
                           · omega
                           · simp; omega
                           intro A7 cap7 wa ho1 hg1 ha1
                           have HLA := hide (show LpW ⟨s.sh.set f (v + x.m), s.pd.set f (p + (q - p)), al + (q - p), s.out ++ [⟨f, x.b, q - p⟩]⟩ w4 SH PD B A7 cap7 wa from
                             ⟨Blk.grown (HL7.out.bs.alloc _) hg1 (fun e => by have := (HOW.out.lt _ e.symm).1; omega), Blk.grown (HL7.out.bp.alloc _) hg1 (fun e => by have := (HOW.out.lt _ e.symm).1; omega), by
                               have := ho1
                               simp only [List.length_append, List.length_singleton, List.map_append, HOL.out]
                               exact this, (HL7.out.be.alloc HL7.out.be.size _).grown hg1 (by have := HL7.out.be.size; simp; omega) (fun kk hk => by have := (HOW.out.lt kk hk).1; omega), by have := hg1.size; simp at this; omega⟩)
                           clear hg1 ha1 ho1)
              go_roundw
              case rel =>
                have hps : pRun c k (S.take (i + 1)) = ⟨s.sh.set f (v + x.m), s.pd.set f (p + (q - p)), al + (q - p), s.out ++ [⟨f, x.b, q - p⟩]⟩ := by
                  rw [HRT.out, HSR.out, HPS.out, if_neg HMO.out, HALL.out, HF.out]
                refine ⟨i + 1, A7, cap7, by omega, by go_num, by rw [hps], ?_, by rw [hps]; exact HLA.out⟩
                rw [hps]
                simp only [List.length_append, List.length_singleton, HOL.out]
              case measure => simp [RowKit.intOf]; omega
          · have hz : (x.k != 2) = true := by simpa using hk2
            have HPS := hide (show pStep c s x = s by rw [pStep, if_neg hk2])
            clear hk2
            go_wp2_with fail
            go_roundw
            case rel => exact ⟨i + 1, A5, cap5, by omega, by go_num, by rw [HRT.out, HSR.out, HPS.out], by rw [HRT.out, HSR.out, HPS.out], by rw [HRT.out, HSR.out, HPS.out]; exact HLX.out⟩
            case measure => simp [RowKit.intOf]; omega
        · obtain rfl : i = m := by omega
          have hps : s = paidS c L := by
            rw [← HSR.out, List.take_of_length_le (by rw [HSL.out]; exact Nat.le_refl _), ← HSS.out, paidS, HN.out]
          subst hps
          have HP := hide (show PaidP c L w (.returned (.tuple #[.slice A5 (paidS c L).out.length cap5, .int .i64 0])) wp from ⟨chain H2.out (chain H4.out hl.be), .inr ⟨HE.out, A5, cap5, rfl, hl.ow.sv⟩⟩)
          clear hl hinv
          go_wp2_with fail
          go_ret2
          exact HP.out
end Go.Proofs.YtmfohnchnbgbaaaGreat
