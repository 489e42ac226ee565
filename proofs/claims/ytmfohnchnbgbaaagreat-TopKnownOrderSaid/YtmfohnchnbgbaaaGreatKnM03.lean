/- Part 3 of the proof. -/
import Derived.Test.YtmfohnchnbgbaaaGreatRows
import Derived.Deep.RegionWith
import Derived.Deep.DeepMust
import Derived.BigQuiet
import Derived.Test.YtmfohnchnbgbaaaGreatKnM01
import Derived.Test.YtmfohnchnbgbaaaGreatKnM02
/- Triangles: a slice of slices read as a list of rows; which triangles may be. -/
namespace Go.Proofs.YtmfohnchnbgbaaaGreat
open Go.ChangeShapes Go.WideShapes Go.ChangeAt Go.RowKit

theorem own : ownKnob Tryz.prog.godebug = none := by kernel_rfl
theorem laidOut : laidOutB Tryz.prog = true := by kernel_rfl

/-- A row, where it lies. -/
structure Rw where
  A : Option Addr
  l : List Int
  cap : Nat
def encI (n : Int) : List Value := [.int .i64 n]
def encRw (r : Rw) : List Value := [.slice r.A r.l.length r.cap]
def ok64 (n : Int) : Prop := -9223372036854775808 ≤ n ∧ n ≤ 9223372036854775807
/-- A slice of slices reads as rows. -/
structure MV (w : World) (A : Option Addr) (n cap : Nat) (M : List Rw) : Prop where
  sv : SV w 1 A n cap (M.map encRw)
  rows : ∀ r ∈ M, SV w 1 r.A r.l.length r.cap (r.l.map encI)
theorem MV.below {w w' : World} {A : Option Addr} {n cap : Nat} {M : List Rw} (h : MV w A n cap M) (hb : Below w.heap.size w w') : MV w' A n cap M :=
  ⟨h.sv.below hb, fun r hr => (h.rows r hr).below hb⟩
theorem MV.len {w : World} {A : Option Addr} {n cap : Nat} {M : List Rw} (h : MV w A n cap M) : M.length = n := by have := h.sv.len; simpa using this
theorem Sl.i {w : World} {B k : Nat} {A : Option Addr} {l : List Int} {n : Int} (h : Sl w B 1 A (l.map encI)) (hx : l[k]? = some n) :
    ∃ b off, A = some ⟨b, off, none⟩ ∧ b < B ∧ w.cell? ⟨b, off + k, none⟩ = some (.int .i64 n) := by
  obtain ⟨b, off, hA, hb, hc⟩ := h k (encI n) (by simp [hx])
  exact ⟨b, off, hA, hb, by simpa using hc 0 _ rfl⟩
theorem Sl.rw {w : World} {B k : Nat} {A : Option Addr} {M : List Rw} {r : Rw} (h : Sl w B 1 A (M.map encRw)) (hx : M[k]? = some r) :
    ∃ b off, A = some ⟨b, off, none⟩ ∧ b < B ∧ w.cell? ⟨b, off + k, none⟩ = some (.slice r.A r.l.length r.cap) := by
  obtain ⟨b, off, hA, hb, hc⟩ := h k (encRw r) (by simp [hx])
  exact ⟨b, off, hA, hb, by simpa using hc 0 _ rfl⟩

theorem cells_int : Tryz.prog.cellsOf 3 = 1 := by kernel_rfl
theorem cells_ints : Tryz.prog.cellsOf 39 = 1 := by kernel_rfl
theorem cells_tri : Tryz.prog.cellsOf 36 = 2 := by kernel_rfl
theorem leaves_int : leaves Tryz.prog 1 3 = some [.int .i64] := by kernel_rfl
theorem leaves_ints : leaves Tryz.prog 1 39 = some [.slice 3] := by kernel_rfl
theorem leaves_tri : leaves Tryz.prog 2 36 = some [.int .i64, .slice 39] := by kernel_rfl
section
variable {H : Type} {enc : TypeId × Value → H} {W : World} {r : Reach} {b0 : Nat} {v : Value} {d : DataW H} {p : List MemPlace}
theorem rows_ints (h : LeafOk enc Tryz.prog W (.slice 3) v) : ∃ (A : Option Addr) (l : List Int) (cap : Nat), v = .slice A l.length cap ∧ SV W 1 A l.length cap (l.map encI) ∧ ∀ n ∈ l, ok64 n := by
  obtain ⟨A, l, cap, hv, h1, h2, h3, h4, h5⟩ := rows_of enc Tryz.prog W (α := Int) 1 1 encI ok64 leaves_int cells_int rfl (by omega) (fun cs hl => by
    obtain ⟨n1, l1, rfl, w1, h1⟩ := leaf_int enc _ _ hl
    obtain rfl := allLeaf_nil enc _ _ h1
    exact ⟨n1, rfl, wf64 w1⟩) h
  exact ⟨A, l, cap, hv, ⟨h3, List.length_map _, h1, h2, h5⟩, h4⟩
set_option maxRecDepth 100000 in
theorem open_tri (hv : Value.okWide Tryz.prog W r b0 36 v) (h : DataW.Trod enc Tryz.prog W 0 (fun _ => true) true 36 v d p) :
    ∃ (f : Int) (A : Option Addr) (M : List Rw) (cap : Nat), v = .agg #[.int .i64 f, .slice A M.length cap] ∧ ok64 f ∧ MV W A M.length cap M ∧ ∀ r ∈ M, ∀ n ∈ r.l, ok64 n := by
  obtain ⟨l, rfl, hl⟩ := top_agg enc Tryz.prog W 2 Tryz.underlying36 leaves_tri cells_tri hv h
  obtain ⟨f, l1, rfl, wf, h1⟩ := leaf_int enc _ _ hl
  obtain ⟨v2, l2, rfl, h2, h3⟩ := allLeaf_cons enc _ _ h1
  obtain rfl := allLeaf_nil enc _ _ h3
  obtain ⟨A, M, cap, rfl, g1, g2, g3, g4, g5⟩ := rows_of enc Tryz.prog W (α := Rw) 1 1 encRw (fun r => SV W 1 r.A r.l.length r.cap (r.l.map encI) ∧ ∀ n ∈ r.l, ok64 n) leaves_ints cells_ints rfl (by omega) (fun cs hl => by
    obtain ⟨v1, l1, rfl, k1, h1⟩ := allLeaf_cons enc _ _ hl
    obtain rfl := allLeaf_nil enc _ _ h1
    obtain ⟨A, l, cap, rfl, hs, ho⟩ := rows_ints k1
    exact ⟨⟨A, l, cap⟩, rfl, hs, ho⟩) h2
  exact ⟨f, A, M, cap, rfl, wf64 wf, ⟨⟨g3, List.length_map _, g1, g2, g5⟩, fun r hr => (g4 r hr).1⟩, fun r hr => (g4 r hr).2⟩
end

def okV (v : Int) : Bool := decide (0 ≤ v ∧ v ≤ 100000000000000000)
def goodRow (n : Nat) (l : List Int) : Bool := decide (l.length = n) && l.all okV
def rowsB : Nat → List (List Int) → Bool
  | _, [] => true
  | n, l :: c => goodRow n l && rowsB (n - 1) c
theorem rowsB_iff : ∀ (c : List (List Int)) (n : Nat), rowsB n c = true ↔ ∀ i l, c[i]? = some l → goodRow (n - i) l = true
  | [], n => by simp [rowsB]
  | l :: c, n => by
    rw [rowsB, Bool.and_eq_true, rowsB_iff c (n - 1)]
    constructor
    · rintro ⟨h1, h2⟩ i x hx
      cases i with
      | zero => simp at hx; subst hx; simpa using h1
      | succ i => rw [show n - (i + 1) = n - 1 - i by omega]; exact h2 i x (by simpa using hx)
    · intro h
      exact ⟨by simpa using h 0 l rfl, fun i x hx => by rw [show n - 1 - i = n - (i + 1) by omega]; exact h (i + 1) x (by simpa using hx)⟩
def boundsB (f : Int) (n : Nat) : Bool := decide (1 ≤ n ∧ n ≤ 20 ∧ 1601 ≤ f ∧ f ≤ 2401 - n)
/-- Which triangles may be. -/
def rightC (f : Int) (c : List (List Int)) : Bool := boundsB f c.length && rowsB c.length c
theorem rightC_no {f : Int} {c : List (List Int)} {i : Nat} {l : List Int} (hx : c[i]? = some l) (h : goodRow (c.length - i) l = false) : rightC f c = false := by
  rw [rightC, Bool.and_eq_false_iff]
  right
  rw [Bool.eq_false_iff]
  intro hr
  have := (rowsB_iff c c.length).1 hr i l hx
  rw [h] at this; cases this

def allM (M : List Rw) : List (List Int) := M.map (·.l)
theorem allM_len (M : List Rw) : (allM M).length = M.length := List.length_map _
theorem allM_get {M : List Rw} {i : Nat} {r : Rw} (h : M[i]? = some r) : (allM M)[i]? = some r.l := by simp [allM, h]
theorem okV_all {l : List Int} {k : Nat} {x : Int} (h : l[k]? = some x) : (l.take (k + 1)).all okV = ((l.take k).all okV && okV x) := by rw [take_of h]; simp
theorem okV_no {l : List Int} {k : Nat} {x : Int} {n : Nat} (h : l[k]? = some x) (hx : okV x = false) : goodRow n l = false := by
  rw [goodRow, Bool.and_eq_false_iff]
  right
  rw [List.all_eq_false]
  exact ⟨x, List.mem_of_getElem? h, by simp [hx]⟩

set_option maxRecDepth 100000 in
set_option maxHeartbeats 2000000 in
theorem right_any (f : Int) (A : Option Addr) (cap : Nat) (M : List Rw) (w : World) (hs : MV w A M.length cap M) (hf : ok64 f) :
    Calls Tryz.prog 32 #[.agg #[.int .i64 f, .slice A M.length cap]] w fun e w' => e = .returned (.bool (rightC f (allM M))) ∧ Below w.heap.size w w' := by
  have HS := hide hs
  clear hs
  obtain ⟨hf0, hf1⟩ := hf
  have hmx := HS.out.sv.le
  have hmy := HS.out.sv.most
  unfold maxLen at hmy
  cases hbd : boundsB f M.length
  · have HR := hide (show rightC f (allM M) = false by rw [rightC, allM_len, hbd]; rfl)
    simp only [boundsB, decide_eq_false_iff_not] at hbd
    rcases (show M.length < 1 ∨ (1 ≤ M.length ∧ 20 < M.length) ∨ (1 ≤ M.length ∧ M.length ≤ 20 ∧ f < 1601) ∨ (1 ≤ M.length ∧ M.length ≤ 20 ∧ 1601 ≤ f ∧ 2401 - (M.length : Int) < f) by omega) with h | ⟨h, h'⟩ | ⟨h, h', h2⟩ | ⟨h, h', h2, h3⟩
    all_goals
      clear hbd
      go_enter Tryz.func32, Tryz.ntmps32
      go_wp2_with fail
      go_ret
      exact ⟨ret_bool HR.out.symm, (Below.refl _ _).alloc (Nat.le_refl _) _⟩
  have HB := hide hbd
  simp only [boundsB, decide_eq_true_eq] at hbd
  obtain ⟨h1, h2, h3, h4⟩ := hbd
  go_enter Tryz.func32, Tryz.ntmps32
  go_wp2_with fail
  go_loop [33] (fun i => ∃ k : Nat, k ≤ M.length ∧ i = .int .i64 k ∧ ∀ j r, j < k → M[j]? = some r → goodRow (M.length - j) r.l = true) (fun i => M.length - (intOf i).toNat)
  case atStart => exact ⟨0, Nat.zero_le _, rfl, fun j r hj => absurd hj (by omega)⟩
  case round =>
    obtain ⟨k, hk, rfl, hall⟩ := hrel
    have HA := hide hall
    clear hall
    by_cases hlt : k < M.length
    · obtain ⟨⟨B, l, bc⟩, hx⟩ := get_of hlt
      obtain ⟨bb, off, rfl, hbl, hc⟩ := HS.out.sv.sl.rw hx
      have hrow := HS.out.rows _ (List.mem_of_getElem? hx)
      simp only at hc hrow
      have hle := hrow.le
      have hmo := hrow.most
      unfold maxLen at hmo
      have hk0 : (0 : Int) ≤ (k : Int) := by omega
      have hk1 : (k : Int) < (M.length : Int) := by omega
      have HX := hide hx
      have HR := hide hrow
      clear hx hrow
      by_cases hlen : l.length = M.length - k
      · have hlenI : (l.length : Int) = (M.length : Int) - (k : Int) := by omega
        have hne : ((l.length : Int) != (M.length : Int) - (k : Int)) = false := by simp [hlenI]
        have HLE := hide hlen
        clear hlen hlenI
        go_wp2_with fail
        go_loop [46] (fun i => ∃ q : Nat, q ≤ l.length ∧ i = .int .i64 q ∧ (l.take q).all okV = true) (fun i => l.length - (intOf i).toNat)
        case atStart => exact ⟨0, Nat.zero_le _, rfl, rfl⟩
        case round =>
          obtain ⟨q, hq, rfl, hqa⟩ := hrel
          have HQ := hide hqa
          clear hqa
          by_cases hql : q < l.length
          · obtain ⟨v, hv⟩ := get_of hql
            obtain ⟨b2, off2, rfl, hbl2, hcv⟩ := HR.out.sl.i hv
            have hq0 : (0 : Int) ≤ (q : Int) := by omega
            have hq1 : (q : Int) < (l.length : Int) := by omega
            have HT := hide (okV_all hv)
            have HV := hide hv
            clear hv
            rcases (show v < 0 ∨ (0 ≤ v ∧ 100000000000000000 < v) ∨ (0 ≤ v ∧ v ≤ 100000000000000000) by omega) with h0 | ⟨h0, h5⟩ | ⟨h0, h5⟩
            · have HNO := hide (rightC_no (f := f) (allM_get HX.out) (okV_no HV.out (by simp [okV]; omega)))
              go_wp2_with fail
              go_ret
              exact ⟨ret_bool HNO.out.symm, (Below.refl _ _).alloc (Nat.le_refl _) _⟩
            · have HNO := hide (rightC_no (f := f) (allM_get HX.out) (okV_no HV.out (by simp [okV]; omega)))
              go_wp2_with fail
              go_ret
              exact ⟨ret_bool HNO.out.symm, (Below.refl _ _).alloc (Nat.le_refl _) _⟩
            · go_wp2_with fail
              go_round
              case rel => exact ⟨q + 1, by omega, by go_num, by rw [HT.out, HQ.out]; simp [okV]; omega⟩
              case measure => simp [intOf]; omega
          · obtain rfl : q = l.length := by omega
            rw [List.take_length] at HQ
            have hgood : ∀ j r, j < k + 1 → M[j]? = some r → goodRow (M.length - j) r.l = true := by
              intro j r hj hr
              by_cases hjk : j < k
              · exact HA.out j r hjk hr
              · obtain rfl : j = k := by omega
                rw [HX.out] at hr
                cases hr
                simp only [goodRow, HQ.out, Bool.and_true, decide_eq_true_eq]
                exact HLE.out
            have HG := hide hgood
            clear hgood
            go_wp2_with fail
            go_round
            case rel => exact ⟨k + 1, by omega, by go_num, HG.out⟩
            case measure => simp [intOf]; omega
      · have hne : ((l.length : Int) != (M.length : Int) - (k : Int)) = true := by simp; omega
        have hno := rightC_no (f := f) (allM_get HX.out) (by rw [allM_len, goodRow]; simp [hlen])
        have HNO := hide hno
        clear hno hlen
        go_wp2_with fail
        go_ret
        exact ⟨ret_bool HNO.out.symm, (Below.refl _ _).alloc (Nat.le_refl _) _⟩
    · obtain rfl : k = M.length := by omega
      have hyes : rightC f (allM M) = true := by
        rw [rightC, allM_len, HB.out, Bool.true_and, rowsB_iff]
        intro i l hl
        rw [allM, List.getElem?_map] at hl
        obtain ⟨r, hr, rfl⟩ := Option.map_eq_some_iff.1 hl
        exact HA.out i r (lt_of_get hr) hr
      have HY := hide hyes
      clear hyes
      go_wp2_with fail
      go_ret
      exact ⟨ret_bool HY.out.symm, (Below.refl _ _).alloc (Nat.le_refl _) _⟩
end Go.Proofs.YtmfohnchnbgbaaaGreat

/- Which triangles may be: the document's walk; the last cells. -/
namespace Go.Proofs.YtmfohnchnbgbaaaGreat
open Go.RowKit

theorem elInt : ElT Tryz.prog 39 3 1 8 := ElT.mk' (z := .int .i64 0) Tryz.underlying39 (by kernel_rfl) rfl (by omega)
theorem okI (l : List Int) : RowsOk 1 (l.map encI) := by
  intro r hr
  obtain ⟨x, _, rfl⟩ := List.mem_map.1 hr
  refine ⟨rfl, fun u hu => ?_⟩
  simp [encI] at hu
  subst hu; rfl

/-- The last cells, row by row. -/
def lastI (l : List Int) : Int := l.getLast?.getD 0
def diagL (f : Int) (c : List (List Int)) : List Int := if rightC f c = true then c.map lastI else []
theorem right_row {f : Int} {c : List (List Int)} (h : rightC f c = true) {i : Nat} {l : List Int} (hx : c[i]? = some l) : l.length = c.length - i ∧ ∀ v ∈ l, 0 ≤ v ∧ v ≤ 100000000000000000 := by
  rw [rightC, Bool.and_eq_true] at h
  have := (rowsB_iff c c.length).1 h.2 i l hx
  simp only [goodRow, Bool.and_eq_true, decide_eq_true_eq, List.all_eq_true, okV] at this
  exact this
def DiagPost (w : World) (D : List Int) (e : Ending) (w' : World) : Prop := ∃ A' c', e = .returned (.slice A' D.length c') ∧ SV w' 1 A' D.length c' (D.map encI) ∧ Below w.heap.size w w'

set_option maxRecDepth 100000 in
set_option maxHeartbeats 2000000 in
theorem diag_any (f : Int) (A : Option Addr) (cap : Nat) (M : List Rw) (w : World) (hs : MV w A M.length cap M) (hf : ok64 f) :
    Calls Tryz.prog 12 #[.agg #[.int .i64 f, .slice A M.length cap]] w (DiagPost w (diagL f (allM M))) := by
  have HS := hide hs
  clear hs
  go_enter Tryz.func12, Tryz.ntmps12
  go_wp2_with fail
  refine (right_any f A cap M _ (HS.out.below ((Below.refl _ _).alloc (Nat.le_refl _) _)) hf).mono ?_
  rintro e w1 ⟨rfl, hb1⟩
  have k1 := kept hb1 (b := w.heap.size) (o := 1) (u := .slice A M.length cap) (by simp)
  have h1 : Below w.heap.size w w1 := chain1 hb1
  clear hb1
  cases hr : rightC f (allM M)
  · have HD := hide (show diagL f (allM M) = [] by rw [diagL, if_neg (by simp [hr])])
    go_wp2_with fail
    go_ret
    rw [HD.out]
    exact ⟨none, 0, rfl, ⟨Sl.nil_, rfl, Nat.le_refl _, by simp [maxLen], fun _ => rfl⟩, h1⟩
  have HD := hide (show diagL f (allM M) = (allM M).map lastI by rw [diagL, if_pos hr])
  have HRR := hide (fun (i : Nat) (l : List Int) (h : (allM M)[i]? = some l) => (right_row hr h).1)
  have hM20 : M.length ≤ 20 := by rw [rightC, Bool.and_eq_true, allM_len] at hr; have := hr.1; simp only [boundsB, decide_eq_true_eq] at this; omega
  go_wp2_with fail
  go_loopw [3, 12] (fun t i wr => ∃ (k : Nat) (A' : Option Addr) (cap' : Nat), k ≤ M.length ∧ i = .int .i64 k ∧ t = .slice A' k cap' ∧ OwnS wr w.heap.size 3 1 A' k cap' ((((allM M).take k).map lastI).map encI) ∧ Below w.heap.size w wr) (fun _ i _ => M.length - (intOf i).toNat)
  case atStart => exact ⟨0, none, 0, Nat.zero_le _, rfl, rfl, OwnS.nil_ _ _ _ _, h1⟩
  case round =>
    clear h1 k1
    obtain ⟨k, A', cap', hk, rfl, rfl, ho, hb⟩ := hrel
    by_cases hlt : k < M.length
    · obtain ⟨⟨B, l, bc⟩, hx⟩ := get_of hlt
      have hbs := HS.out.below hb
      obtain ⟨bb, off, rfl, hbl, hc⟩ := hbs.sv.sl.rw hx
      have hrow := hbs.rows _ (List.mem_of_getElem? hx)
      have hlen := HRR.out k l (allM_get hx)
      rw [allM_len] at hlen
      simp only at hc hrow
      obtain ⟨v, hv⟩ := get_of (l := l) (k := l.length - 1) (by omega)
      obtain ⟨b2, off2, rfl, hbl2, hcv⟩ := hrow.sl.i hv
      have hlv : lastI l = v := by rw [lastI, List.getLast?_eq_getElem?, hv]; rfl
      have hk0 : (0 : Int) ≤ (k : Int) := by omega
      have hk1 : (k : Int) < (M.length : Int) := by omega
      have hl1 : (1 : Int) ≤ (l.length : Int) := by omega
      have hl2 : l.length ≤ 20 := by omega
      have hsz := hb.size
      have HT := hide (show ((allM M).take (k + 1)).map lastI = ((allM M).take k).map lastI ++ [v] by rw [take_of (allM_get hx), List.map_append]; simp [hlv])
      have HO := hide ho
      clear hx ho hrow hlen hv hlv hbs
      go_wp2_with (at_builtin
                   refine wpList_app rfl (.tmp 16) (.tmp 23) 39 rfl elInt (B := w.heap.size) (A2 := some ⟨_, 0, none⟩) (news := [v].map encI) rfl (HO.out.alloc _) rfl rfl ?_ (okI [v]) ?_ ?_ ?_ ?_
                   · exact sl_of_blk (cs := #[.int .i64 v]) (Blk.new _ _ _)
                   · simp only [maxLen]; omega
                   · omega
                   · simp; omega
                   intro A1 c1 wa ho1 hg1 ha1
                   have hba : Below w.heap.size w wa := (hb.alloc hb.size _).grown hg1 (by simp; omega) (fun kk hk => (HO.out.lt kk hk).1)
                   clear hg1 ha1)
      go_roundw
      case rel => exact ⟨k + 1, A1, c1, by omega, by go_num, rfl, by rw [HT.out, List.map_append]; exact ho1, hba⟩
      case measure => simp [intOf]; omega
    · obtain rfl : k = M.length := by omega
      rw [List.take_of_length_le (by rw [allM_len]; exact Nat.le_refl _)] at ho
      have HO := hide ho
      clear ho
      go_wp2_with fail
      go_ret
      rw [HD.out]
      have hl : ((allM M).map lastI).length = M.length := by rw [List.length_map, allM_len]
      exact ⟨A', cap', by rw [hl]; rfl, by rw [hl]; exact HO.out.sv, hb⟩
end Go.Proofs.YtmfohnchnbgbaaaGreat

/- A drawn region over a class of worlds, walked once. -/
namespace Go.Proofs.YtmfohnchnbgbaaaGreat
open Go.RowKit Go.BigFrame

section
variable {P : Program} {ops : Array Oper} {C : World → Prop} {a : Act} {o : Oper} {K : Act → Prop} {v : Value}
theorem quiet_yield (h : ∀ w, C w → (execOp a.eval o).run P w = .ok (.value v) w) (hk : K (a.put o.dst v)) : o.quiet P a C K :=
  ⟨v, fun w hw => by unfold Oper.quietAt; rw [h w hw]; exact ⟨rfl, rfl⟩, hk⟩
theorem quiet_call {f : FuncId} {args : Array Value} (h : ∀ w, C w → (execOp a.eval o).run P w = .ok (.enter f args) w) (hc : ∀ w, C w → Calls P f args w fun e w'' => e = .returned v ∧ C w'') (hk : K (a.put o.dst v)) : o.quiet P a C K :=
  ⟨v, fun w hw => by unfold Oper.quietAt; rw [h w hw]; exact ⟨rfl, hc w hw⟩, hk⟩
theorem wp_region_class {id : Nat} {Q : Exit → Act → World → Prop} {w : World} {l : List Oper} (C : World → Prop) (hm : P.follows .mixedOrders = true) (hB : Region.lexB .any l.toArray = true) (hC : C w.drew)
    (h : wpQuiet P l.toArray C (fun a' => ∀ w', C w' → Q .normal a' w') l a) : (Code.region id l.toArray true).wp P Q a w :=
  wp_region_quiet hm hB hC (by simpa using h)
end

end Go.Proofs.YtmfohnchnbgbaaaGreat
