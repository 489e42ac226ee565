/- Which triangles may be: the document's walk; the last cells. -/
import Derived.Test.YtndfgglnhkdciaaDoorTriA
import Derived.Deep.DeepMust
namespace Go.Proofs.YtndfgglnhkdciaaDoor
open Go.RowKit

set_option maxRecDepth 100000 in
set_option maxHeartbeats 2000000 in
theorem rightR_any (f : Int) (A : Option Addr) (cap : Nat) (M : List Rw) (w : World) (hs : MV w A M.length cap M) (hf : ok64 f) :
    Calls Tryd.prog 22 #[.agg #[.int .i64 f, .slice A M.length cap]] w fun e w' => e = .returned (.bool (rightC f (allM M))) ∧ Below w.heap.size w w' := by
  have HS := hide hs
  clear hs
  obtain ⟨hf0, hf1⟩ := hf
  have hmx := HS.out.sv.le
  have hmy := HS.out.sv.most
  unfold maxLen at hmy
  cases hbd : boundsB f M.length
  · have HR := hide (show rightC f (allM M) = false by rw [rightC, allM_len, hbd]; rfl)
    simp only [boundsB, decide_eq_false_iff_not] at hbd
    rcases (show M.length < 1 ∨ (1 ≤ M.length ∧ 20 < M.length) ∨ (1 ≤ M.length ∧ M.length ≤ 20 ∧ f < 1601) ∨ (1 ≤ M.length ∧ M.length ≤ 20 ∧ 1601 ≤ f ∧ 2401 - (M.length : Int) < f) by omega) with h | ⟨h, h'⟩ | ⟨h, h', h2⟩ | ⟨h, h', h2, h3⟩
    all_goals
      clear hbd
      go_enter Tryd.func22, Tryd.ntmps22
      go_wp2_with fail
      go_ret
      exact ⟨ret_bool HR.out.symm, (Below.refl _ _).alloc (Nat.le_refl _) _⟩
  have HB := hide hbd
  simp only [boundsB, decide_eq_true_eq] at hbd
  obtain ⟨h1, h2, h3, h4⟩ := hbd
  go_enter Tryd.func22, Tryd.ntmps22
  go_wp2_with fail
  go_loop [4] (fun i => ∃ k : Nat, k ≤ M.length ∧ i = .int .i64 k ∧ ∀ j r, j < k → M[j]? = some r → goodRow (M.length - j) r.l = true) (fun i => M.length - (intOf i).toNat)
  case atStart => exact ⟨0, Nat.zero_le _, rfl, fun j r hj => absurd hj (by omega)⟩
  case round =>
    obtain ⟨k, hk, rfl, hall⟩ := hrel
    have HA := hide hall
    clear hall
    by_cases hlt : k < M.length
    · obtain ⟨⟨B, l, bc⟩, hx⟩ := get_of hlt
      obtain ⟨bb, off, rfl, hbl, hc⟩ := HS.out.sv.sl.rw hx
      have hrow := HS.out.rows _ (List.mem_of_getElem? hx)
      simp only at hc hrow
      have hle := hrow.le
      have hmo := hrow.most
      unfold maxLen at hmo
      have hk0 : (0 : Int) ≤ (k : Int) := by omega
      have hk1 : (k : Int) < (M.length : Int) := by omega
      have HX := hide hx
      have HR := hide hrow
      clear hx hrow
      by_cases hlen : l.length = M.length - k
      · have hlenI : (l.length : Int) = (M.length : Int) - (k : Int) := by omega
        have hne : ((l.length : Int) != (M.length : Int) - (k : Int)) = false := by simp [hlenI]
        have HLE := hide hlen
        have HLI := hide hlenI
        clear hlen hlenI
        go_wp2_with fail
        go_loop [5] (fun i => ∃ q : Nat, q ≤ l.length ∧ i = .int .i64 q ∧ (l.take q).all okV = true) (fun i => l.length - (intOf i).toNat)
        case atStart => exact ⟨0, Nat.zero_le _, rfl, rfl⟩
        case round =>
          obtain ⟨q, hq, rfl, hqa⟩ := hrel
          have HQ := hide hqa
          clear hqa
          by_cases hql : q < l.length
          · obtain ⟨v, hv⟩ := get_of hql
            obtain ⟨b2, off2, rfl, hbl2, hcv⟩ := HR.out.sl.i hv
            have hq0 : (0 : Int) ≤ (q : Int) := by omega
            have hq1 : (q : Int) < (l.length : Int) := by omega
            have hq2 : (q : Int) < (M.length : Int) - (k : Int) := by have := HLI.out; omega
            have HT := hide (okV_all hv)
            have HV := hide hv
            clear hv
            rcases (show v < 0 ∨ (0 ≤ v ∧ 100000000000000000 < v) ∨ (0 ≤ v ∧ v ≤ 100000000000000000) by omega) with h0 | ⟨h0, h5⟩ | ⟨h0, h5⟩
            · have HNO := hide (rightC_no (f := f) (allM_get HX.out) (okV_no HV.out (by simp [okV]; omega)))
              go_wp2_with fail
              go_ret
              exact ⟨ret_bool HNO.out.symm, (Below.refl _ _).alloc (Nat.le_refl _) _⟩
            · have HNO := hide (rightC_no (f := f) (allM_get HX.out) (okV_no HV.out (by simp [okV]; omega)))
              go_wp2_with fail
              go_ret
              exact ⟨ret_bool HNO.out.symm, (Below.refl _ _).alloc (Nat.le_refl _) _⟩
            · go_wp2_with fail
              go_round
              case rel => exact ⟨q + 1, by omega, by go_num, by rw [HT.out, HQ.out]; simp [okV]; omega⟩
              case measure => simp [intOf]; omega
          · obtain rfl : q = l.length := by omega
            rw [List.take_length] at HQ
            have hq2 : ¬(l.length : Int) < (M.length : Int) - (k : Int) := by have := HLI.out; omega
            have hgood : ∀ j r, j < k + 1 → M[j]? = some r → goodRow (M.length - j) r.l = true := by
              intro j r hj hr
              by_cases hjk : j < k
              · exact HA.out j r hjk hr
              · obtain rfl : j = k := by omega
                rw [HX.out] at hr
                cases hr
                simp only [goodRow, HQ.out, Bool.and_true, decide_eq_true_eq]
                exact HLE.out
            have HG := hide hgood
            clear hgood
            go_wp2_with fail
            go_round
            case rel => exact ⟨k + 1, by omega, by go_num, HG.out⟩
            case measure => simp [intOf]; omega
      · have hne : ((l.length : Int) != (M.length : Int) - (k : Int)) = true := by simp; omega
        have hno := rightC_no (f := f) (allM_get HX.out) (by rw [allM_len, goodRow]; simp [hlen])
        have HNO := hide hno
        clear hno hlen
        go_wp2_with fail
        go_ret
        exact ⟨ret_bool HNO.out.symm, (Below.refl _ _).alloc (Nat.le_refl _) _⟩
    · obtain rfl : k = M.length := by omega
      have hyes : rightC f (allM M) = true := by
        rw [rightC, allM_len, HB.out, Bool.true_and, rowsB_iff]
        intro i l hl
        rw [allM, List.getElem?_map] at hl
        obtain ⟨r, hr, rfl⟩ := Option.map_eq_some_iff.1 hl
        exact HA.out i r (lt_of_get hr) hr
      have HY := hide hyes
      clear hyes
      go_wp2_with fail
      go_ret
      exact ⟨ret_bool HY.out.symm, (Below.refl _ _).alloc (Nat.le_refl _) _⟩

theorem elInt : ElT Tryd.prog 33 3 1 8 := ElT.mk' (z := .int .i64 0) Tryd.underlying33 (by kernel_rfl) rfl (by omega)
theorem okI (l : List Int) : RowsOk 1 (l.map encI) := by
  intro r hr
  obtain ⟨x, _, rfl⟩ := List.mem_map.1 hr
  refine ⟨rfl, fun u hu => ?_⟩
  simp [encI] at hu
  subst hu; rfl

/-- The last cells, row by row. -/
def lastI (l : List Int) : Int := l.getLast?.getD 0
def diagL (f : Int) (c : List (List Int)) : List Int := if rightC f c = true then c.map lastI else []
theorem right_row {f : Int} {c : List (List Int)} (h : rightC f c = true) {i : Nat} {l : List Int} (hx : c[i]? = some l) : l.length = c.length - i ∧ ∀ v ∈ l, 0 ≤ v ∧ v ≤ 100000000000000000 := by
  rw [rightC, Bool.and_eq_true] at h
  have := (rowsB_iff c c.length).1 h.2 i l hx
  simp only [goodRow, Bool.and_eq_true, decide_eq_true_eq, List.all_eq_true, okV] at this
  exact this
def DiagPost (w : World) (D : List Int) (e : Ending) (w' : World) : Prop := ∃ A' c', e = .returned (.slice A' D.length c') ∧ SV w' 1 A' D.length c' (D.map encI) ∧ Below w.heap.size w w'

set_option maxRecDepth 100000 in
set_option maxHeartbeats 2000000 in
theorem diag_any (f : Int) (A : Option Addr) (cap : Nat) (M : List Rw) (w : World) (hs : MV w A M.length cap M) (hf : ok64 f) :
    Calls Tryd.prog 19 #[.agg #[.int .i64 f, .slice A M.length cap]] w (DiagPost w (diagL f (allM M))) := by
  have HS := hide hs
  clear hs
  go_enter Tryd.func19, Tryd.ntmps19
  go_wp2_with fail
  refine (right_any f A cap M _ (HS.out.below ((Below.refl _ _).alloc (Nat.le_refl _) _)) hf).mono ?_
  rintro e w1 ⟨rfl, hb1⟩
  have k1 := kept hb1 (b := w.heap.size) (o := 1) (u := .slice A M.length cap) (by simp)
  have h1 : Below w.heap.size w w1 := chain1 hb1
  clear hb1
  cases hr : rightC f (allM M)
  · have HD := hide (show diagL f (allM M) = [] by rw [diagL, if_neg (by simp [hr])])
    go_wp2_with fail
    go_ret
    rw [HD.out]
    exact ⟨none, 0, rfl, ⟨Sl.nil_, rfl, Nat.le_refl _, by simp [maxLen], fun _ => rfl⟩, h1⟩
  have HD := hide (show diagL f (allM M) = (allM M).map lastI by rw [diagL, if_pos hr])
  have HRR := hide (fun (i : Nat) (l : List Int) (h : (allM M)[i]? = some l) => (right_row hr h).1)
  have hM20 : M.length ≤ 20 := by rw [rightC, Bool.and_eq_true, allM_len] at hr; have := hr.1; simp only [boundsB, decide_eq_true_eq] at this; omega
  go_wp2_with fail
  go_loopw [3, 12] (fun t i wr => ∃ (k : Nat) (A' : Option Addr) (cap' : Nat), k ≤ M.length ∧ i = .int .i64 k ∧ t = .slice A' k cap' ∧ OwnS wr w.heap.size 3 1 A' k cap' ((((allM M).take k).map lastI).map encI) ∧ Below w.heap.size w wr) (fun _ i _ => M.length - (intOf i).toNat)
  case atStart => exact ⟨0, none, 0, Nat.zero_le _, rfl, rfl, OwnS.nil_ _ _ _ _, h1⟩
  case round =>
    clear h1 k1
    obtain ⟨k, A', cap', hk, rfl, rfl, ho, hb⟩ := hrel
    by_cases hlt : k < M.length
    · obtain ⟨⟨B, l, bc⟩, hx⟩ := get_of hlt
      have hbs := HS.out.below hb
      obtain ⟨bb, off, rfl, hbl, hc⟩ := hbs.sv.sl.rw hx
      have hrow := hbs.rows _ (List.mem_of_getElem? hx)
      have hlen := HRR.out k l (allM_get hx)
      rw [allM_len] at hlen
      simp only at hc hrow
      obtain ⟨v, hv⟩ := get_of (l := l) (k := l.length - 1) (by omega)
      obtain ⟨b2, off2, rfl, hbl2, hcv⟩ := hrow.sl.i hv
      have hlv : lastI l = v := by rw [lastI, List.getLast?_eq_getElem?, hv]; rfl
      have hk0 : (0 : Int) ≤ (k : Int) := by omega
      have hk1 : (k : Int) < (M.length : Int) := by omega
      have hl1 : (1 : Int) ≤ (l.length : Int) := by omega
      have hl2 : l.length ≤ 20 := by omega
      have hsz := hb.size
      have HT := hide (show ((allM M).take (k + 1)).map lastI = ((allM M).take k).map lastI ++ [v] by rw [take_of (allM_get hx), List.map_append]; simp [hlv])
      have HO := hide ho
      clear hx ho hrow hlen hv hlv hbs
      go_wp2_with (at_builtin
                   refine wpList_app rfl (.tmp 16) (.tmp 23) 33 rfl elInt (B := w.heap.size) (A2 := some ⟨_, 0, none⟩) (news := [v].map encI) rfl (HO.out.alloc _) rfl rfl ?_ (okI [v]) ?_ ?_ ?_ ?_
                   · exact sl_of_blk (cs := #[.int .i64 v]) (Blk.new _ _ _)
                   · simp only [maxLen]; omega
                   · omega
                   · simp; omega
                   intro A1 c1 wa ho1 hg1 ha1
                   have hba : Below w.heap.size w wa := (hb.alloc hb.size _).grown hg1 (by simp; omega) (fun kk hk => (HO.out.lt kk hk).1)
                   clear hg1 ha1)
      go_roundw
      case rel => exact ⟨k + 1, A1, c1, by omega, by go_num, rfl, by rw [HT.out, List.map_append]; exact ho1, hba⟩
      case measure => simp [intOf]; omega
    · obtain rfl : k = M.length := by omega
      rw [List.take_of_length_le (by rw [allM_len]; exact Nat.le_refl _)] at ho
      have HO := hide ho
      clear ho
      go_wp2_with fail
      go_ret
      rw [HD.out]
      have hl : ((allM M).map lastI).length = M.length := by rw [List.length_map, allM_len]
      exact ⟨A', cap', by rw [hl]; rfl, by rw [hl]; exact HO.out.sv, hb⟩
end Go.Proofs.YtndfgglnhkdciaaDoor
