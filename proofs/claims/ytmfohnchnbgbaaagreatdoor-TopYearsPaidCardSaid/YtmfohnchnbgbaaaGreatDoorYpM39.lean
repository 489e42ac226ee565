/- Part 39 of the proof. -/
import Derived.ChangeSame
import Derived.ChangeVars
import Derived.JoinedOf
import Derived.LaidLaws
import Derived.LaidHandle
import Derived.Stop.Joined
import Derived.BigRegion
import Derived.BigQuiet
import Derived.Deep.QuietTactic
import Derived.Test.YtmfohnchnbgbaaaGreatDoorYpM04
import Derived.Test.YtmfohnchnbgbaaaGreatDoorYpM14
import Derived.Test.YtmfohnchnbgbaaaGreatDoorYpM36
import Derived.Test.YtmfohnchnbgbaaaGreatDoorYpM37
import Derived.Test.YtmfohnchnbgbaaaGreatDoorYpM38
/- What is still to come: the program's. -/
namespace Go.Proofs.YtmfohnchnbgbaaaGreatDoor
open Go.RowKit

def DiagO (w : World) (D : List Int) (e : Ending) (w' : World) : Prop := ∃ A' c', e = .returned (.slice A' D.length c') ∧ OwnS w' w.heap.size 3 1 A' D.length c' (D.map encI) ∧ Below w.heap.size w w'

set_option maxRecDepth 100000 in
set_option maxHeartbeats 2000000 in
theorem diagO_any (f : Int) (A : Option Addr) (cap : Nat) (M : List Rw) (w : World) (hs : MV w A M.length cap M) (hf : ok64 f) :
    Calls Tryz.prog 14 #[.agg #[.int .i64 f, .slice A M.length cap]] w (DiagO w (diagL f (allM M))) := by
  have HS := hide hs
  clear hs
  go_enter Tryz.func14, Tryz.ntmps14
  go_wp2_with fail
  refine (right_any f A cap M _ (HS.out.below ((Below.refl _ _).alloc (Nat.le_refl _) _)) hf).mono ?_
  rintro e w1 ⟨rfl, hb1⟩
  have k1 := kept hb1 (b := w.heap.size) (o := 1) (u := .slice A M.length cap) (by simp)
  have h1 : Below w.heap.size w w1 := chain1 hb1
  clear hb1
  cases hr : rightC f (allM M)
  · have HD := hide (show diagL f (allM M) = [] by rw [diagL, if_neg (by simp [hr])])
    go_wp2_with fail
    go_ret
    rw [HD.out]
    exact ⟨none, 0, rfl, OwnS.nil_ _ _ _ _, h1⟩
  have HD := hide (show diagL f (allM M) = (allM M).map lastI by rw [diagL, if_pos hr])
  have HRR := hide (fun (i : Nat) (l : List Int) (h : (allM M)[i]? = some l) => (right_row hr h).1)
  have hM20 : M.length ≤ 20 := by rw [rightC, Bool.and_eq_true, allM_len] at hr; have := hr.1; simp only [boundsB, decide_eq_true_eq] at this; omega
  go_wp2_with fail
  go_loopw [3, 12] (fun t i wr => ∃ (k : Nat) (A' : Option Addr) (cap' : Nat), k ≤ M.length ∧ i = .int .i64 k ∧ t = .slice A' k cap' ∧ OwnS wr w.heap.size 3 1 A' k cap' ((((allM M).take k).map lastI).map encI) ∧ Below w.heap.size w wr) (fun _ i _ => M.length - (intOf i).toNat)
  case atStart => exact ⟨0, none, 0, Nat.zero_le _, rfl, rfl, OwnS.nil_ _ _ _ _, h1⟩
  case round =>
    clear h1 k1
    obtain ⟨k, A', cap', hk, rfl, rfl, ho, hb⟩ := hrel
    by_cases hlt : k < M.length
    · obtain ⟨⟨B, l, bc⟩, hx⟩ := get_of hlt
      have hbs := HS.out.below hb
      obtain ⟨bb, off, rfl, hbl, hc⟩ := hbs.sv.sl.rw hx
      have hrow := hbs.rows _ (List.mem_of_getElem? hx)
      have hlen := HRR.out k l (allM_get hx)
      rw [allM_len] at hlen
      simp only at hc hrow
      obtain ⟨v, hv⟩ := get_of (l := l) (k := l.length - 1) (by omega)
      obtain ⟨b2, off2, rfl, hbl2, hcv⟩ := hrow.sl.i hv
      have hlv : lastI l = v := by rw [lastI, List.getLast?_eq_getElem?, hv]; rfl
      have hk0 : (0 : Int) ≤ (k : Int) := by omega
      have hk1 : (k : Int) < (M.length : Int) := by omega
      have hl1 : (1 : Int) ≤ (l.length : Int) := by omega
      have hl2 : l.length ≤ 20 := by omega
      have hsz := hb.size
      have HT := hide (show ((allM M).take (k + 1)).map lastI = ((allM M).take k).map lastI ++ [v] by rw [take_of (allM_get hx), List.map_append]; simp [hlv])
      have HO := hide ho
      clear hx ho hrow hlen hv hlv hbs
      go_wp2_with (at_builtin
                   refine wpList_app rfl (.tmp 16) (.tmp 23) 36 rfl elInt (B := w.heap.size) (A2 := some ⟨_, 0, none⟩) (news := [v].map encI) rfl (HO.out.alloc _) rfl rfl ?_ (okI [v]) ?_ ?_ ?_ ?_
                   · exact sl_of_blk (cs := #[.int .i64 v]) (Blk.new _ _ _)
                   · simp only [maxLen]; omega
                   · omega
                   · simp; omega
                   intro A1 c1 wa ho1 hg1 ha1
                   have hba : Below w.heap.size w wa := (hb.alloc hb.size _).grown hg1 (by simp; omega) (fun kk hk => (HO.out.lt kk hk).1)
                   clear hg1 ha1)
      go_roundw
      case rel => exact ⟨k + 1, A1, c1, by omega, by go_num, rfl, by rw [HT.out, List.map_append]; exact ho1, hba⟩
      case measure => simp [intOf]; omega
    · obtain rfl : k = M.length := by omega
      rw [List.take_of_length_le (by rw [allM_len]; exact Nat.le_refl _)] at ho
      have HO := hide ho
      clear ho
      go_wp2_with fail
      go_ret
      rw [HD.out]
      have hl : ((allM M).map lastI).length = M.length := by rw [List.length_map, allM_len]
      exact ⟨A', cap', by rw [hl]; rfl, by rw [hl]; exact HO.out, hb⟩

/-! ### What is left -/
theorem mix_set {α : Type} {a b : List α} {j : Nat} {x : α} (hl : a.length = b.length) (hx : a[j]? = some x) : (a.take j ++ b.drop j).set j x = a.take (j + 1) ++ b.drop (j + 1) := by
  have hj : j < a.length := lt_of_get hx
  obtain ⟨y, hy⟩ := get_of (l := b) (k := j) (by omega)
  rw [drop_of hy, take_of hx, List.set_append_right _ _ (by rw [List.length_take]; omega), List.length_take, Nat.min_eq_left (by omega), Nat.sub_self, List.set_cons_zero, List.append_assoc]
  rfl
theorem mix_get {α : Type} {a b : List α} {j : Nat} {y : α} (hl : a.length = b.length) (hy : b[j]? = some y) : (a.take j ++ b.drop j)[j]? = some y := by
  have hj : j < b.length := lt_of_get hy
  rw [drop_of hy, List.getElem?_append_right (by rw [List.length_take]; omega), List.length_take, Nat.min_eq_left (by omega), Nat.sub_self]
  rfl
/-- What is left, year by year. -/
def lefts (U D : List Int) : List Int := List.zipWith (fun u d => u - d) U D
def LeftP (w0 w : World) (X : List Int) (k : Int) (n : Nat) (e : Ending) (w' : World) : Prop :=
  ∃ A' c', e = .returned (.tuple #[.slice A' n c', .int .i64 k]) ∧ OwnS w' w0.heap.size 3 1 A' n c' (X.map encI) ∧ Below w0.heap.size w0 w' ∧ Below w.heap.size w w'
theorem allN_le {F : List (Nat × Nat)} : ∀ {c : List (List Int)}, (∀ l ∈ c, ∀ v ∈ l, 0 ≤ v ∧ v ≤ 100000000000000000) → ∀ n ∈ (allN F c).1, n ≤ 4000000000000000000
  | [], _, n, h => by simp [allN] at h
  | l :: r, hc, n, h => by
    simp only [allN] at h
    split at h
    · split at h
      · rcases List.mem_cons.1 h with rfl | h
        · exact grow_le _ _ (by have := celN_le (hc l (by simp)) (l.length - 1); omega)
        · exact allN_le (fun l hl => hc l (by simp [hl])) n h
      · simp at h
    · simp at h
theorem allN_len {F : List (Nat × Nat)} : ∀ {c : List (List Int)}, (allN F c).2 = 0 → (allN F c).1.length = c.length
  | [], _ => by simp [allN]
  | l :: r, h => by
    simp only [allN] at h ⊢
    split at h
    · rename_i h1
      rw [if_pos h1]
      split at h
      · rename_i h2
        rw [if_pos h2]
        simp [allN_len h2]
      · rename_i h2
        exact absurd h h2
    · rename_i h1
      exact absurd h h1
theorem ultC_len (f : Int) (c : List (List Int)) : (ultC f c).1.length ≤ (diagL f c).length := by
  unfold ultC diagL
  split
  · rcases allN_code (facL c) c with h | ⟨_, h⟩
    · rw [allN_len h, List.length_map]; exact Nat.le_refl _
    · rw [h]; exact Nat.zero_le _
  · exact Nat.zero_le _
theorem ultC_le (f : Int) (c : List (List Int)) : ∀ n ∈ (ultC f c).1, n ≤ 4000000000000000000 := by
  unfold ultC
  split
  · rename_i h
    exact allN_le (right_okC h).2
  · intro n hn; simp at hn
theorem diagL_mem (f : Int) (c : List (List Int)) : ∀ v ∈ diagL f c, 0 ≤ v ∧ v ≤ 100000000000000000 := by
  unfold diagL
  split
  · rename_i h
    intro v hv
    obtain ⟨l, hl, rfl⟩ := List.mem_map.1 hv
    unfold lastI
    cases hg : l.getLast? with
    | none => simp
    | some x => exact (right_okC h).2 l hl x (List.mem_of_getLast? hg)
  · intro v hv; simp at hv
theorem diagL_len (f : Int) (c : List (List Int)) : (diagL f c).length ≤ 20 := by
  unfold diagL
  split
  · rename_i h
    rw [List.length_map]; exact (right_okC h).1
  · exact Nat.zero_le _

set_option maxRecDepth 100000 in
set_option maxHeartbeats 2000000 in
theorem left_any (f : Int) (A : Option Addr) (cap : Nat) (M : List Rw) (w : World) (hs : MV w A M.length cap M) (hf : ok64 f) (hg : Hdl w) :
    Calls Tryz.prog 9 #[.agg #[.int .i64 f, .slice A M.length cap]] w (LeftP w w (lefts (castL (ultC f (allM M)).1) (diagL f (allM M))) (ultC f (allM M)).2 (ultC f (allM M)).1.length) := by
  have HS := hide hs
  have HG := hide hg
  clear hs hg
  have hul := ultC_len f (allM M)
  have hue := ultC_le f (allM M)
  have hde := diagL_mem f (allM M)
  have hdl := diagL_len f (allM M)
  have HUA := hide (fun w hs hg => ult_any f A cap M w hs hf hg)
  have HDA := hide (fun w hs => diagO_any f A cap M w hs hf)
  obtain ⟨D, hD⟩ : ∃ D, diagL f (allM M) = D := ⟨_, rfl⟩
  obtain ⟨s, hs⟩ : ∃ s, ultC f (allM M) = s := ⟨_, rfl⟩
  obtain ⟨L, k⟩ := s
  rw [hD, hs] at hul
  rw [hs] at hue HUA
  rw [hD] at hde hdl HDA
  rw [hs, hD]
  clear hs hD
  simp only at hul hue HUA ⊢
  obtain ⟨n, hn⟩ : ∃ n, L.length = n := ⟨_, rfl⟩
  obtain ⟨m, hm⟩ : ∃ m, D.length = m := ⟨_, rfl⟩
  rw [hn] at hul HUA ⊢
  rw [hm] at hul hdl
  have HUE := hide hue
  have HDE := hide hde
  have HN := hide (show (castL L).length = n by rw [castL_len, hn])
  have HM := hide hm
  have HZ := hide (show (lefts (castL L) D).length = n by rw [lefts, List.length_zipWith, castL_len, hn, hm]; omega)
  clear hue hde hn hm
  go_enter Tryz.func9, Tryz.ntmps9
  go_wp2_with fail
  refine (HUA.out _ (HS.out.below ((Below.refl _ _).alloc (Nat.le_refl _) _)) (HG.out.below ((Below.refl _ _).alloc (Nat.le_refl _) _))).mono ?_
  rintro e w1 ⟨A', c', rfl, ho, hb, -⟩
  have t0 := kept hb (b := w.heap.size) (o := 0) (u := .int .i64 f) (by simp)
  have t1 := kept hb (b := w.heap.size) (o := 1) (u := .slice A M.length cap) (by simp)
  have H1 := hide (chain1 hb)
  have HO := hide (ho.mono (B' := w.heap.size) (by simp))
  have hA := ho.addr
  have hnc := ho.cap_le
  clear hb ho
  go_wp2_with fail
  refine (HDA.out _ (HS.out.below H1.out)).mono ?_
  rintro e w2 ⟨A2, c2, rfl, ho2, hb2⟩
  have H2 := hide (chain H1.out hb2)
  have HO1 := hide (HO.out.below hb2)
  have HO2 := hide ho2
  have HSZ := hide hb2.size
  rw [HM.out] at HO2
  rw [HM.out]
  clear hb2 ho2 t0 t1
  go_wp2_with fail
  go_loopw [16] (fun q wr => ∃ (j : Nat), j ≤ m ∧ q = .int .i64 j ∧ OwnS wr w.heap.size 3 1 A' n c' (((lefts (castL L) D).take j ++ (castL L).drop j).map encI) ∧ OwnS wr w1.heap.size 3 1 A2 m c2 (D.map encI) ∧ Below w.heap.size w wr) (fun q _ => m - (RowKit.intOf q).toNat)
  case atStart => exact ⟨0, Nat.zero_le _, rfl, by simpa using HO1.out, HO2.out, H2.out⟩
  case round =>
    obtain ⟨j, hj, rfl, hoU, hoD, hb⟩ := hrel
    by_cases hlt : j < m
    · obtain ⟨d, hd⟩ := get_of (l := D) (k := j) (by rw [HM.out]; exact hlt)
      obtain ⟨g2, hA2, hg2, hg3⟩ : ∃ g, A2 = some ⟨g, 0, none⟩ ∧ w1.heap.size ≤ g ∧ g < wr.heap.size := by
        rcases hoD.addr with ⟨_, h, _⟩ | h
        · omega
        · exact h
      subst hA2
      obtain ⟨b2, o2, hA2, -, x0⟩ := hoD.sl.i hd
      obtain ⟨rfl, rfl⟩ : g2 = b2 ∧ 0 = o2 := by simpa using hA2
      rw [Nat.zero_add] at x0
      have hd2 := HDE.out d (List.mem_of_getElem? hd)
      have hk0 : (0 : Int) ≤ (j : Int) := by omega
      have hk1 : (j : Int) < (m : Int) := by omega
      have hmc := hoD.cap_le
      have HD := hide hd
      have HJ := hide hoU
      have HK := hide hoD
      have HB := hide hb
      clear hd hoU hoD hb hA2
      by_cases hjn : j < n
      · have hk2 : (j : Int) < (n : Int) := by omega
        obtain ⟨u, hu⟩ := get_of (l := L) (k := j) (by have := HN.out; rw [castL_len] at this; omega)
        have hu2 := HUE.out u (List.mem_of_getElem? hu)
        have hcu : (castL L)[j]? = some (u : Int) := by rw [castL, List.getElem?_map, hu]; rfl
        have hz : (lefts (castL L) D)[j]? = some ((u : Int) - d) := by rw [lefts, List.getElem?_zipWith, hcu, HD.out]
        have hmg := mix_get (a := lefts (castL L) D) (by rw [HZ.out, HN.out]) hcu
        obtain ⟨g1, hA1, hg1⟩ : ∃ g, A' = some ⟨g, 0, none⟩ ∧ g < w1.heap.size := by
          rcases hA with ⟨_, h, _⟩ | ⟨g, h1, _, h2⟩
          · omega
          · exact ⟨g, h1, h2⟩
        subst hA1
        obtain ⟨b1, o1, hA1, hb1, y0⟩ := HJ.out.sl.i hmg
        obtain ⟨rfl, rfl⟩ : g1 = b1 ∧ 0 = o1 := by simpa using hA1
        rw [Nat.zero_add] at y0
        have y1 := HJ.out.frozen j
        have hset := HJ.out.set_ (i := j) (j := 0) (row := encI (u : Int)) (by rw [List.getElem?_map, hmg]; rfl) (by omega) (u := .int .i64 ((u : Int) - d)) rfl
        have HSET := hide hset
        have HMG := hide hmg
        have HZJ := hide hz
        clear hset hmg hz hcu hu hA1
        go_wp2_with fail
        have hgl : w.heap.size ≤ g1 := (HJ.out.lt g1 rfl).1
        have hfar : ∀ kk, blk (some (⟨g2, 0, none⟩ : Addr)) = some kk → kk ≠ (⟨g1, j, none⟩ : Addr).block := by
          intro kk hk
          obtain rfl : g2 = kk := by simpa [blk] using hk
          show g2 ≠ g1
          omega
        refine ⟨⟨j + 1, by omega, by go_num, ?_, HK.out.far hfar _, HB.out.setCell (p := ⟨g1, j, none⟩) hgl _⟩, by simp [RowKit.intOf]; omega⟩
        have h9 := HSET.out
        rw [Nat.mul_one, Nat.add_zero] at h9
        rw [← mix_set (by rw [HZ.out, HN.out]) HZJ.out, List.map_set]
        exact h9
      · have hk2 : ¬ (j : Int) < (n : Int) := by omega
        go_wp2_with fail
        go_roundw
        case rel => exact ⟨j + 1, by omega, by go_num, by rw [List.take_of_length_le (by rw [HZ.out]; omega), List.drop_of_length_le (by rw [HN.out]; omega)]; have := HJ.out; rw [List.take_of_length_le (by rw [HZ.out]; omega), List.drop_of_length_le (by rw [HN.out]; omega)] at this; exact this, HK.out, HB.out⟩
        case measure => simp [RowKit.intOf]; omega
    · obtain rfl : j = m := by omega
      have hlt' : ¬ (j : Int) < (j : Int) := by omega
      rw [List.take_of_length_le (by rw [HZ.out]; omega), List.drop_of_length_le (by rw [HN.out]; omega), List.append_nil] at hoU
      have HJ := hide hoU
      clear hoU hoD
      go_wp2_with fail
      go_ret2
      exact ⟨A', c', rfl, HJ.out, hb, hb⟩
end Go.Proofs.YtmfohnchnbgbaaaGreatDoor

/- Openers at the claims of this chapter: the premise on reflectlite's own variable, opened; a world that meets it. -/
namespace Go.Proofs.YtmfohnchnbgbaaaGreatDoor
open Go.ChangeShapes Go.WideShapes Go.RowKit

theorem et : Tryz.prog.globalNamed "errors.errorType" = some 0 := by kernel_rfl
theorem rt : (Tryz.prog.cutTypes.find? (·.1 == "internal/reflectlite.rtype")).map (·.2) = some 249 := by kernel_rfl
theorem tsize : ∃ n, Tryz.prog.types.size = n ∧ ((List.range n).filter fun t => Tryz.prog.rowNamed t [101, 114, 114, 111, 114]) = [90] := ⟨_, rfl, by kernel_rfl⟩
theorem handle_of_laid {W : World} (h : laidMetH Tryz.prog [("errors.errorType", Rows.laid_errors_errorType)] W) : Hdl W := by
  have h' : laidMet Tryz.prog [] W ∧ handlesMet Tryz.prog [("errors.errorType", Rows.laid_errors_errorType)] W := h
  obtain ⟨name, u, ty, e1, e2, e3, e4, e5⟩ := h'.2 _ (List.mem_singleton.2 rfl)
  have en : name = [101, 114, 114, 111, 114] := (Option.some.inj e1).symm
  subst en
  obtain rfl := Option.some.inj (rt.symm.trans e2)
  obtain ⟨n, hn, hone⟩ := tsize
  have hm : ty ∈ (List.range n).filter fun t => Tryz.prog.rowNamed t [101, 114, 114, 111, 114] := List.mem_filter.2 ⟨List.mem_range.2 (by rw [← hn]; exact e3), e4⟩
  rw [hone] at hm
  obtain rfl := List.mem_singleton.1 hm
  have hh : typeHandle Tryz.prog 90 = .pointer (some ⟨3, 90, none⟩) := by kernel_rfl
  rw [hh] at e5
  unfold Hdl
  simpa using World.var?_cell et e5 0
noncomputable def laidWorld (os : Os) : World :=
  let w0 := World.holding Tryz.prog os ⟨#[], #[], []⟩
  { w0 with heap := w0.heap.modify 0 fun
      | .cells _ t frozen => .cells #[.iface 249 (.agg #[.pointer (some ⟨3, 90, none⟩)])] t frozen
      | o => o }
theorem laidWorld_met (os : Os) (args : Array Value) : laidMetH Tryz.prog [("errors.errorType", Rows.laid_errors_errorType)] ((laidWorld os).forCall (fun _ _ => 0) ⟨#[], args, []⟩).memory :=
  laidMetH_of_parts (laidMet_nil _ _) (by kernel_rfl)
end Go.Proofs.YtmfohnchnbgbaaaGreatDoor

/- Where no row falls: each factor is one at least, and nothing that is left is below 0. -/
namespace Go.Proofs.YtmfohnchnbgbaaaGreatDoor
open Go.RowKit

theorem ultC_code (f : Int) (c : List (List Int)) (hr : rightC f c = true) : ((ultC f c).2 = 0 ∧ (ultC f c).1.length = c.length) ∨ ((ultC f c).2 = 5 ∧ (ultC f c).1 = []) := by
  rw [ultC, if_pos hr]
  rcases allN_code (facL c) c with h | h
  · exact .inl ⟨h, allN_len h⟩
  · exact .inr h
/-- A row does not fall. -/
def Mono (l : List Int) : Prop := ∀ (k : Nat) (v u : Int), l[k]? = some v → l[k + 1]? = some u → v ≤ u
theorem celN_mono {l : List Int} (hm : Mono l) (h : ∀ v ∈ l, 0 ≤ v ∧ v ≤ 100000000000000000) {k : Nat} (hk : k + 1 < l.length) : celN l k ≤ celN l (k + 1) := by
  obtain ⟨v, hv⟩ := get_of (l := l) (k := k) (by omega)
  obtain ⟨u, hu⟩ := get_of (l := l) (k := k + 1) hk
  have h1 := celN_eq h hv
  have h2 := celN_eq h hu
  have h3 := hm k v u hv hu
  omega
theorem colS_mono (k : Nat) : ∀ {c : List (List Int)}, (∀ l ∈ c, Mono l) → (∀ l ∈ c, ∀ v ∈ l, 0 ≤ v ∧ v ≤ 100000000000000000) → (colS k c).2 ≤ (colS k c).1
  | [], _, _ => by simp [colS]
  | l :: r, hm, h => by
    have ih := colS_mono k (c := r) (fun l hl => hm l (by simp [hl])) (fun l hl => h l (by simp [hl]))
    simp only [colS]
    split
    · rename_i hk
      have := celN_mono (hm l (by simp)) (h l (by simp)) hk
      simp only
      omega
    · exact ih
def Up (F : List (Nat × Nat)) : Prop := ∀ x ∈ F, 1 ≤ x.2 ∧ x.2 ≤ x.1
theorem facL_up {c : List (List Int)} (hm : ∀ l ∈ c, Mono l) (h : ∀ l ∈ c, ∀ v ∈ l, 0 ≤ v ∧ v ≤ 100000000000000000) : Up (facL c) := fun x hx => by
  obtain ⟨k, _, rfl⟩ := List.mem_map.1 hx
  rw [facK]
  have := colS_mono k hm h
  split
  · exact ⟨Nat.le_refl _, Nat.le_refl _⟩
  · rename_i h0
    exact ⟨by omega, this⟩
theorem evQ_up {a n d : Nat} (h1 : 1 ≤ d) (h2 : d ≤ n) (h0 : evE a n d = 0) : a ≤ evQ a n d := by
  unfold evE at h0
  unfold evQ
  split at h0
  · rename_i h
    rw [if_pos h, evN]
    have hq : a ≤ a * n / d := by
      rw [Nat.le_div_iff_mul_le (by omega)]
      exact Nat.mul_le_mul_left a h2
    exact Nat.le_trans hq (upN_ge _ _ _).1
  · cases h0
theorem grow_up : ∀ {F : List (Nat × Nat)} {a : Nat}, Up F → (growN a F).2 = 0 → a ≤ (growN a F).1
  | [], a, _, _ => Nat.le_refl _
  | x :: r, a, hF, h => by
    rw [growN] at h ⊢
    split at h
    · rename_i h0
      rw [if_pos h0]
      obtain ⟨g1, g2⟩ := hF x (by simp)
      exact Nat.le_trans (evQ_up g1 g2 h0) (grow_up (fun y hy => hF y (by simp [hy])) h)
    · rename_i h0
      exact absurd h h0
theorem all_up {F : List (Nat × Nat)} (hF : Up F) : ∀ {c : List (List Int)}, (∀ l ∈ c, 1 ≤ l.length) → (∀ l ∈ c, ∀ v ∈ l, 0 ≤ v ∧ v ≤ 100000000000000000) → ∀ z ∈ lefts (castL (allN F c).1) (c.map lastI), 0 ≤ z
  | [], _, _, z, hz => by simp [allN, castL, lefts] at hz
  | l :: r, hl, h, z, hz => by
    simp only [allN] at hz
    split at hz
    · rename_i h1
      split at hz
      · simp only [lefts, castL, List.map_cons, List.zipWith_cons_cons] at hz
        rcases List.mem_cons.1 hz with rfl | hz
        · have hlen := hl l (by simp)
          obtain ⟨v, hv⟩ := get_of (l := l) (k := l.length - 1) (by omega)
          have h2 := celN_eq (h l (by simp)) hv
          have h3 := grow_up (fun x hx => hF x (List.mem_of_mem_drop hx)) h1
          have h4 : lastI l = v := by rw [lastI, List.getLast?_eq_getElem?, hv]; rfl
          rw [h4]
          omega
        · exact all_up hF (fun l hl' => hl l (by simp [hl'])) (fun l hl' => h l (by simp [hl'])) z hz
      · simp [lefts, castL] at hz
    · simp [lefts, castL] at hz
theorem left_up {f : Int} {c : List (List Int)} (hr : rightC f c = true) (hm : ∀ l ∈ c, Mono l) : ∀ z ∈ lefts (castL (ultC f c).1) (diagL f c), 0 ≤ z := by
  rw [ultC, if_pos hr, diagL, if_pos hr]
  have h := (right_okC hr).2
  refine all_up (facL_up hm h) (fun l hl => ?_) h
  obtain ⟨i, hi⟩ := List.getElem?_of_mem hl
  have := (right_row hr hi).1
  have := lt_of_get hi
  omega
end Go.Proofs.YtmfohnchnbgbaaaGreatDoor

/- TopYearsPaid: the plain law. -/
namespace Go.Proofs.YtmfohnchnbgbaaaGreatDoor
open Go.RowKit

/-- The first year has nothing left. -/
theorem first_zero {f : Int} {c : List (List Int)} (hr : rightC f c = true) (h0 : (ultC f c).2 = 0) : (lefts (castL (ultC f c).1) (diagL f c))[0]? = some 0 := by
  have hbd := right_bounds hr
  obtain ⟨l, hl⟩ := get_of (l := c) (k := 0) (by omega)
  have hll := (right_row hr hl).1
  cases c with
  | nil => simp at hl
  | cons l' r =>
    simp at hl
    subst hl
    have hok := (right_okC hr).2 l' (by simp)
    simp only [List.length_cons, Nat.sub_zero] at hll
    rw [ultC, if_pos hr] at h0 ⊢
    rw [diagL, if_pos hr]
    simp only [allN] at h0 ⊢
    have hd : (facL (l' :: r)).drop (l'.length - 1) = [] := List.drop_of_length_le (by rw [facL_len, List.length_cons]; omega)
    rw [hd] at h0 ⊢
    simp only [growN, if_pos] at h0 ⊢
    have hs : (allN (facL (l' :: r)) r).2 = 0 := by
      rcases allN_code (facL (l' :: r)) r with h | ⟨h, _⟩
      · exact h
      · rw [h] at h0; simp at h0
    rw [if_pos hs]
    obtain ⟨v, hv⟩ := get_of (l := l') (k := l'.length - 1) (by omega)
    have h1 := celN_eq hok hv
    simp only [lefts, castL, List.map_cons, List.zipWith_cons_cons, List.getElem?_cons_zero]
    rw [lastI, List.getLast?_eq_getElem?, hv, ← h1]
    simp
theorem sumI_sum : ∀ l : List Int, sumI l = l.sum
  | [] => rfl
  | x :: r => by rw [sumI, sumI_sum r, List.sum_cons]
theorem crow_m (L : List Fl) (O : List R3) : (O.map (crow L)).map (fun r => r.m) = O.map (fun r => r.m) := by
  rw [List.map_map]; rfl
/-- What the files were paid together is what the rows are together. -/
theorem pos_paid {L : List Fl} {P : List Ps} {K : Nat} {s : PS} (h : OfI L P (fun k => byF k s.out)) (hi : PInv L.length K s) : (P.map (fun y => y.p)).sum = s.all := by
  have e : P.map (fun y => y.p) = s.pd := by
    apply List.ext_getElem?
    intro k
    rw [List.getElem?_map]
    by_cases hk : k < L.length
    · obtain ⟨y, hy⟩ := get_of (l := P) (k := k) (by rw [h.len]; exact hk)
      obtain ⟨v, hv⟩ := get_of (l := s.pd) (k := k) (by rw [hi.lp]; exact hk)
      rw [hy, hv, Option.map_some, h.pd k y hy, hi.bf k v hv]
    · rw [List.getElem?_eq_none (by rw [h.len]; omega), List.getElem?_eq_none (by rw [hi.lp]; omega)]; rfl
  rw [e, hi.su]
theorem paid_diag {c : Cv} {L : List Fl} (hE : checkQ c L = 0) (hO : ofE ((paidS c L).out.map (crow L)) = 0) :
    sumI (diagL (fromL ((paidS c L).out.map (crow L))) (ofC ((paidS c L).out.map (crow L)))) = (paidS c L).all := by
  rw [diag_sum hO, sumM, crow_m, sumI_sum]
  exact (paid_inv (check_zero hE).1).tot
/-- All that is asked of what is left. -/
theorem left_made {l : List R3} (h : ofE l = 0) : (∀ z ∈ lefts (castL (ultC (fromL l) (ofC l)).1) (diagL (fromL l) (ofC l)), 0 ≤ z) ∧
    (∀ z, (lefts (castL (ultC (fromL l) (ofC l)).1) (diagL (fromL l) (ofC l)))[0]? = some z → z = 0) ∧
    (((ultC (fromL l) (ofC l)).2 = 0 ∧ (ultC (fromL l) (ofC l)).1.length = (diagL (fromL l) (ofC l)).length) ∨ ((ultC (fromL l) (ofC l)).2 = 5 ∧ (ultC (fromL l) (ofC l)).1 = [])) := by
  obtain ⟨hn, hc, ho, hs, hr, _⟩ := made h
  refine ⟨left_up hr (fun r hr' => rising_made h r hr'), fun z hz => ?_, ?_⟩
  · rcases ultC_code (fromL l) (ofC l) hr with ⟨h0, _⟩ | ⟨_, h1⟩
    · rw [first_zero hr h0] at hz
      exact (Option.some.inj hz).symm
    · rw [h1] at hz
      simp [castL, lefts] at hz
  · rcases ultC_code (fromL l) (ofC l) hr with ⟨h0, h1⟩ | h1
    · refine .inl ⟨h0, ?_⟩
      rw [h1, diagL, if_pos hr, List.length_map]
    · exact .inr h1
end Go.Proofs.YtmfohnchnbgbaaaGreatDoor
