/- Part 37 of the proof. -/
import Derived.Deep.RegionLaw
import Derived.Test.YtmfohnchnbgbaaaGreatDoorYpM04
import Derived.Test.YtmfohnchnbgbaaaGreatDoorYpM08
import Derived.Test.YtmfohnchnbgbaaaGreatDoorYpM35
/- The rows of what was paid, by the days of loss: the walk of premiumRows (for td). -/
namespace Go.Proofs.YtmfohnchnbgbaaaGreatDoor
open Go.RowKit Go.Lib
set_option linter.unusedSimpArgs false

/-- The day of loss of the file with this number. -/
def lossAt (L : List Fl) (a : Int) : Int := (L[a.toNat]?).elim 0 (fun x => x.c.loss)
def crow (L : List Fl) (r : R3) : R3 := ⟨lossAt L r.a, r.b, r.m⟩
theorem crow_eq {L : List Fl} {r : R3} {f : Nat} {x : Fl} (hf : r.a = (f : Int)) (hx : L[f]? = some x) : crow L r = ⟨x.c.loss, r.b, r.m⟩ := by
  unfold crow lossAt
  rw [hf, Int.toNat_natCast, hx]; rfl
def PrwP (L : List Fl) (O : List R3) (w : World) (e : Ending) (w' : World) : Prop :=
  Below w.heap.size w w' ∧ ∃ (A : Option Addr) (cap : Nat), e = .returned (.slice A O.length cap) ∧ SV w' 3 A O.length cap ((O.map (crow L)).map enc3)
set_option maxRecDepth 100000 in
set_option maxHeartbeats 8000000 in
theorem prows_any (A : Option Addr) (n cap : Nat) (L : List Fl) (AR : Option Addr) (m capR : Nat) (O : List R3) (w : World) (hv : FV w A n cap L)
    (hsr : SV w 3 AR m capR (O.map enc3)) (hm : O.length = m) (hro : ∀ r ∈ O, ∃ f : Nat, r.a = f ∧ f < n) (hm2 : m ≤ 2000) :
    Calls Tryz.prog 13 #[.slice A n cap, .slice AR m capR] w (PrwP L O w) := by
  have HN := hide hv.len
  have HV := hide hv
  have HSR := hide hsr
  have HRO := hide hro
  have HM := hide hm
  clear hsr hro hm hv
  go_enter Tryz.func13, Tryz.ntmps13
  go_wp2_with fail
  go_loopw [5, 6] (fun q5 q6 wr => ∃ (i : Nat) (A5 : Option Addr) (cap5 : Nat), i ≤ m ∧ q6 = .int .i64 i ∧ q5 = .slice A5 i cap5 ∧ OwnS wr w.heap.size 30 3 A5 i cap5 (((O.take i).map (crow L)).map enc3) ∧ Below w.heap.size w wr) (fun _ q _ => m - (RowKit.intOf q).toNat)
  case atStart => exact ⟨0, none, 0, Nat.zero_le _, rfl, rfl, OwnS.nil_ _ _ _ _, Below.refl _ _⟩
  case round =>
    rename World => wp
    obtain ⟨i, A5, cap5, hi, rfl, rfl, ho, hb⟩ := hrel
    have HOX := hide ho
    have HBX := hide hb
    have hszx : w.heap.size ≤ wp.heap.size := hb.size
    by_cases hlt : i < m
    · obtain ⟨r, hr⟩ := get_of (l := O) (k := i) (by rw [HM.out]; exact hlt)
      obtain ⟨f, hf, hfn⟩ := HRO.out r (List.mem_of_getElem? hr)
      obtain ⟨x, hx⟩ := get_of (l := L) (k := f) (by rw [HN.out]; exact hfn)
      obtain ⟨b, off, hA, hbl, d0, d1, d2⟩ := (HSR.out.below hb).sl.r3 hr
      obtain ⟨bb, off2, hA2, hbl2, c0, c1, c2, c3, c4, c5, c6⟩ := (HV.out.below hb).sv.sl.fl hx
      have hi0 : (0 : Int) ≤ (i : Int) := by omega
      have hi1 : (i : Int) < (m : Int) := by omega
      have hf0 : (0 : Int) ≤ (f : Int) := by omega
      have hf1 : (f : Int) < (n : Int) := by omega
      have hfl : ¬ (f : Int) < 0 := by omega
      have hfg : ¬ (f : Int) ≥ (n : Int) := by omega
      rw [hf] at d0
      have HCR := hide (crow_eq hf hx)
      have HR := hide hr
      obtain ⟨lo, hlo⟩ : ∃ z, x.c.loss = z := ⟨_, rfl⟩
      rw [hlo] at c3 HCR
      subst hA hA2
      clear hlo ho hb hr hx hf c0 c1 c2 c4 c5 c6
      go_wp2_with fail
      go_region_law (first
          | (refine step_app rfl (.tmp 29) (.tmp 51) 25 rfl elRow3 (B := w.heap.size) (rows := ((O.take i).map (crow L)).map enc3) (A2 := some ⟨_, 0, none⟩) (news := [(⟨lo, r.b, r.m⟩ : R3)].map enc3) rfl ?_ rfl rfl ?_ (okRow3 [(⟨lo, r.b, r.m⟩ : R3)]) ?_ ?_ ?_ ?_
             · first | exact (HOX.out.alloc _).drew | exact HOX.out.alloc _
             · first | exact sl_of_blk (cs := #[.int .i64 lo, .int .i64 r.b, .int .i64 r.m]) (Blk.drew (Blk.new' (by simp))) | exact sl_of_blk (cs := #[.int .i64 lo, .int .i64 r.b, .int .i64 r.m]) (Blk.new' (by simp))
             · (simp only [maxLen]; omega)
             · omega
             · (simp; try omega)
             intro A3 cp3 wb ho2 hg2 ha2
             have HO2 := hide ho2
             have H3 := hide (((HBX.out.alloc HBX.out.size _).drew).grown hg2 (by simp; omega) (fun kk hk => (HOX.out.lt kk hk).1))
             clear ho2 hg2 ha2))
      all_goals
        go_wp2_with fail
        go_roundw
        case rel => exact ⟨i + 1, A3, cp3, by omega, by go_num, rfl, by rw [take_of HR.out, List.map_append, List.map_append, List.map_cons, List.map_nil, HCR.out]; exact HO2.out, H3.out⟩
        case measure => simp [RowKit.intOf]; omega
    · obtain rfl : i = m := by omega
      have htm : O.take i = O := List.take_of_length_le (by rw [HM.out]; exact Nat.le_refl _)
      rw [htm] at HOX
      have HR := hide (show PrwP L O w (.returned (.slice A5 i cap5)) wp from ⟨HBX.out, A5, cap5, by rw [HM.out], by rw [HM.out]; exact HOX.out.sv⟩)
      clear ho hb htm
      go_wp2_with fail
      go_ret
      exact HR.out
end Go.Proofs.YtmfohnchnbgbaaaGreatDoor

/- How years develop, and what they become, with plain numbers. -/
namespace Go.Proofs.YtmfohnchnbgbaaaGreatDoor

/-- A cell, as a natural number. -/
def celN (l : List Int) (k : Nat) : Nat := (l[k]?.getD 0).toNat
/-- What one year of development had, and had before. -/
def colS (k : Nat) : List (List Int) → Nat × Nat
  | [] => (0, 0)
  | l :: r => let s := colS k r; if k + 1 < l.length then (celN l (k + 1) + s.1, celN l k + s.2) else s
theorem colS_app (k : Nat) : ∀ (a b : List (List Int)), colS k (a ++ b) = ((colS k a).1 + (colS k b).1, (colS k a).2 + (colS k b).2)
  | [], b => by simp [colS]
  | l :: r, b => by
    rw [List.cons_append, colS, colS, colS_app k r b]
    split <;> simp <;> omega
theorem colS_take {c : List (List Int)} {i k : Nat} {l : List Int} (h : c[i]? = some l) : colS k (c.take (i + 1)) = if k + 1 < l.length then ((colS k (c.take i)).1 + celN l (k + 1), (colS k (c.take i)).2 + celN l k) else colS k (c.take i) := by
  rw [take_of h, colS_app]
  simp only [colS]
  split <;> simp
/-- How one year of development develops. -/
def facK (c : List (List Int)) (k : Nat) : Nat × Nat := if (colS k c).2 = 0 then (1, 1) else colS k c
def facL (c : List (List Int)) : List (Nat × Nat) := (List.range (c.length - 1)).map (facK c)
theorem facL_len (c : List (List Int)) : (facL c).length = c.length - 1 := by simp [facL]
theorem facL_get {c : List (List Int)} {k : Nat} (h : k < c.length - 1) : (facL c)[k]? = some (facK c k) := by
  simp [facL, List.getElem?_range h]
/-- All rows' cells are of their size. -/
def OkC (c : List (List Int)) : Prop := c.length ≤ 20 ∧ ∀ l ∈ c, ∀ v ∈ l, 0 ≤ v ∧ v ≤ 100000000000000000
theorem right_okC {f : Int} {c : List (List Int)} (h : rightC f c = true) : OkC c := by
  have h0 := h
  rw [rightC, Bool.and_eq_true] at h
  obtain ⟨h1, h2⟩ := h
  rw [boundsB, decide_eq_true_eq] at h1
  refine ⟨h1.2.1, fun l hl v hv => ?_⟩
  obtain ⟨i, hi, he⟩ := List.getElem_of_mem hl
  have h3 := (rowsB_iff c c.length).1 h2 i l (by rw [List.getElem?_eq_getElem hi, he])
  rw [goodRow, Bool.and_eq_true] at h3
  have h4 := List.all_eq_true.1 h3.2 v hv
  rw [okV, decide_eq_true_eq] at h4
  exact h4
theorem celN_le {l : List Int} (h : ∀ v ∈ l, 0 ≤ v ∧ v ≤ 100000000000000000) (k : Nat) : celN l k ≤ 100000000000000000 := by
  unfold celN
  cases hk : l[k]? with
  | none => simp
  | some v => have := h v (List.mem_of_getElem? hk); simp only [Option.getD_some]; omega
theorem celN_eq {l : List Int} {k : Nat} {v : Int} (h : ∀ v ∈ l, 0 ≤ v ∧ v ≤ 100000000000000000) (hk : l[k]? = some v) : v = (celN l k : Int) := by
  have := h v (List.mem_of_getElem? hk)
  unfold celN
  rw [hk]
  simp only [Option.getD_some]
  omega
theorem colS_le : ∀ {c : List (List Int)} (k : Nat), (∀ l ∈ c, ∀ v ∈ l, 0 ≤ v ∧ v ≤ 100000000000000000) → (colS k c).1 ≤ 100000000000000000 * c.length ∧ (colS k c).2 ≤ 100000000000000000 * c.length
  | [], k, _ => by simp [colS]
  | l :: r, k, h => by
    obtain ⟨h1, h2⟩ := colS_le (c := r) k (fun m hm => h m (by simp [hm]))
    have h3 := celN_le (h l (by simp)) (k + 1)
    have h4 := celN_le (h l (by simp)) k
    rw [colS, List.length_cons, Nat.mul_add]
    split
    · constructor
      · show celN l (k + 1) + (colS k r).1 ≤ _; omega
      · show celN l k + (colS k r).2 ≤ _; omega
    · constructor
      · show (colS k r).1 ≤ _; omega
      · show (colS k r).2 ≤ _; omega
theorem facK_le {c : List (List Int)} (h : OkC c) (k : Nat) : (facK c k).1 ≤ 2000000000000000000 ∧ (facK c k).2 ≤ 2000000000000000000 ∧ 0 < (facK c k).2 := by
  obtain ⟨h1, h2⟩ := colS_le k h.2
  have h3 := h.1
  unfold facK
  split
  · simp
  · rename_i h0
    exact ⟨by omega, by omega, by omega⟩

/-- An amount gone on with; what is amiss. -/
def growN (amt : Nat) : List (Nat × Nat) → Nat × Int
  | [] => (amt, 0)
  | r :: l => if evE amt r.1 r.2 = 0 then growN (evQ amt r.1 r.2) l else (0, evE amt r.1 r.2)
theorem evE_cases (a b c : Nat) : evE a b c = 0 ∨ evE a b c = 5 := by unfold evE; split <;> simp
theorem evQ_le (a b c : Nat) : evQ a b c ≤ 4000000000000000000 := by unfold evQ; split <;> omega
/-- What the years become: the amounts, as long as none is amiss; what is amiss. -/
def allN (F : List (Nat × Nat)) : List (List Int) → List Nat × Int
  | [] => ([], 0)
  | l :: r => let g := growN (celN l (l.length - 1)) (F.drop (l.length - 1)); if g.2 = 0 then (let s := allN F r; if s.2 = 0 then (g.1 :: s.1, 0) else ([], s.2)) else ([], g.2)
end Go.Proofs.YtmfohnchnbgbaaaGreatDoor

/- How one year of development develops: the program's. -/
namespace Go.Proofs.YtmfohnchnbgbaaaGreatDoor
open Go.RowKit

set_option maxRecDepth 100000 in
set_option maxHeartbeats 2000000 in
theorem factor_any (f : Int) (A : Option Addr) (cap k : Nat) (M : List Rw) (w : World) (hs : MV w A M.length cap M) (ho : OkC (allM M)) (hk : k ≤ 20) :
    Calls Tryz.prog 51 #[.agg #[.int .i64 f, .slice A M.length cap], .int .i64 k] w fun e w' => e = .returned (.agg #[.int .i64 ((facK (allM M) k).1 : Nat), .int .i64 ((facK (allM M) k).2 : Nat)]) ∧ Below w.heap.size w w' := by
  have HS := hide hs
  have HO := hide ho
  have hm20 : M.length ≤ 20 := by have := ho.1; rwa [allM_len] at this
  clear hs ho
  go_enter Tryz.func51, Tryz.ntmps51
  go_wp2_with fail
  obtain ⟨w1, hw1⟩ : ∃ W, ((w.alloc (.cells #[.int .i64 f, .slice A M.length cap] 33)).alloc (.cells #[.int .i64 0, .int .i64 0] 137)).alloc (.cells #[.int .i64 0, .int .i64 0] 137) = W := ⟨_, rfl⟩
  have hR1 : Blk w1 (w.heap.size + 1) 137 #[.int .i64 0, .int .i64 0] := by rw [← hw1]; exact (Blk.new' (by simp)).alloc _
  have hS1 : Blk w1 (w.heap.size + 1 + 1) 137 #[.int .i64 0, .int .i64 0] := by rw [← hw1]; exact Blk.new' (by simp)
  have h1 : Below w.heap.size w w1 := by rw [← hw1]; exact (((Below.refl _ _).alloc (Nat.le_refl _) _).alloc (by simp) _).alloc (by simp; omega) _
  rw [hw1]
  clear hw1
  go_loopw [11] (fun q wr => ∃ j : Nat, j ≤ M.length ∧ q = .int .i64 j ∧ Below w.heap.size w wr ∧ Blk wr (w.heap.size + 1) 137 #[.int .i64 0, .int .i64 0] ∧ Blk wr (w.heap.size + 1 + 1) 137 #[.int .i64 ((colS k ((allM M).take j)).1 : Nat), .int .i64 ((colS k ((allM M).take j)).2 : Nat)]) (fun q _ => M.length - (RowKit.intOf q).toNat)
  case atStart => exact ⟨0, Nat.zero_le _, rfl, h1, hR1, hS1⟩
  case round =>
    clear h1 hR1 hS1
    obtain ⟨j, hj, rfl, hb, hR, hS⟩ := hrel
    have HB := hide hb
    have HR := hide hR
    have HSS := hide hS
    by_cases hlt : j < M.length
    · obtain ⟨r, hr⟩ := get_of hlt
      obtain ⟨bb, off, rfl, hbl, c0⟩ := (HS.out.below hb).sv.sl.rw hr
      have hk0 : (0 : Int) ≤ (j : Int) := by omega
      have hk1 : (j : Int) < (M.length : Int) := by omega
      have hrow := HS.out.rows r (List.mem_of_getElem? hr)
      have hrm : r.l ∈ allM M := List.mem_map.2 ⟨r, List.mem_of_getElem? hr, rfl⟩
      have hlen : r.l.length ≤ 9223372036854775807 := by have := hrow.le; have := hrow.most; unfold maxLen at this; omega
      have HT := hide (colS_take (k := k) (allM_get hr))
      have hcl := colS_le (c := (allM M).take j) k (fun l hl => HO.out.2 l (List.mem_of_mem_take hl))
      rw [List.length_take] at hcl
      obtain ⟨n, hn⟩ : ∃ z, (colS k ((allM M).take j)).1 = z := ⟨_, rfl⟩
      obtain ⟨d, hd⟩ : ∃ z, (colS k ((allM M).take j)).2 = z := ⟨_, rfl⟩
      rw [hn, hd] at hcl HSS HT
      have hnb : n ≤ 2000000000000000000 := by omega
      have hdb : d ≤ 2000000000000000000 := by omega
      by_cases hlong : k + 1 < r.l.length
      · have hlong' : (k : Int) + 1 < (r.l.length : Int) := by omega
        obtain ⟨x, hx⟩ := get_of hlong
        obtain ⟨y, hy⟩ := get_of (l := r.l) (k := k) (by omega)
        obtain ⟨b1, o1, hA1, hb1, x0⟩ := hrow.sl.i hx
        obtain ⟨b2, o2, hA2, hb2, y0⟩ := hrow.sl.i hy
        rw [hA1] at hA2
        cases hA2
        have x0 := kept hb x0
        have y0 := kept hb y0
        have hxn := celN_eq (HO.out.2 r.l hrm) hx
        have hyn := celN_eq (HO.out.2 r.l hrm) hy
        have hxb := celN_le (HO.out.2 r.l hrm) (k + 1)
        have hyb := celN_le (HO.out.2 r.l hrm) k
        rw [hxn] at x0
        rw [hyn] at y0
        obtain ⟨cx, hcx⟩ : ∃ z, celN r.l (k + 1) = z := ⟨_, rfl⟩
        obtain ⟨cy, hcy⟩ : ∃ z, celN r.l k = z := ⟨_, rfl⟩
        rw [hcx] at x0 hxb HT
        rw [hcy] at y0 hyb HT
        rw [if_pos hlong] at HT
        rw [hA1] at c0
        have s0 := HSS.out.cell 0
        have s1 := HSS.out.cell 1
        have f0 := HSS.out.frozen 0
        have f1 := HSS.out.frozen 1
        simp at s0 s1
        have hki : (0 : Int) ≤ (k : Int) := by omega
        have hki1 : (0 : Int) ≤ (k : Int) + 1 := by omega
        have hki2 : (k : Int) < (r.l.length : Int) := by omega
        have hw1 : IntKind.i64.wrap ((k : Int) + 1) = (k : Int) + 1 := IntWalk.i64_in _ (by omega)
        have hw2 : IntKind.i64.wrap ((n : Int) + (cx : Int)) = (n : Int) + (cx : Int) := IntWalk.i64_in _ (by omega)
        have hw3 : IntKind.i64.wrap ((d : Int) + (cy : Int)) = (d : Int) + (cy : Int) := IntWalk.i64_in _ (by omega)
        clear hr hb hR hS hrow hrm hn hd hx hy hxn hyn hcx hcy hA1 hcl
        go_wp2_with fail
        go_region_law (fail)
        all_goals
          go_wp2_with fail
          go_region_law (fail)
        all_goals
          go_wp2_with fail
          go_roundw
          case rel =>
            refine ⟨j + 1, by omega, by go_num, ?_, ?_, ?_⟩
            · exact (((HB.out.setCell (p := ⟨w.heap.size + 1 + 1, 0, none⟩) (by simp only; omega) _).setCell (p := ⟨w.heap.size + 1 + 1, 1, none⟩) (by simp only; omega) _).drew).drew
            · exact (((HR.out.far (by simp) _).far (by simp) _).drew).drew
            · have h := (((HSS.out.set_ 0 (.int .i64 ((n : Int) + (cx : Int)))).set_ 1 (.int .i64 ((d : Int) + (cy : Int)))).drew).drew
              rw [HT.out]
              simpa using h
          case measure => simp [RowKit.intOf]; omega
      · have hlong' : ¬ (k : Int) + 1 < (r.l.length : Int) := by omega
        rw [if_neg hlong] at HT
        have HRW := hide HR.out
        clear hr hb hR hS hrow hrm hcl
        go_wp2_with fail
        go_roundw
        case rel => exact ⟨j + 1, by omega, by go_num, HB.out, HRW.out, by rw [HT.out, hn, hd]; exact HSS.out⟩
        case measure => simp [RowKit.intOf]; omega
    · obtain rfl : j = M.length := by omega
      have hk1 : ¬ (((M.length : Nat) : Int) < (M.length : Int)) := by omega
      rw [List.take_of_length_le (by rw [allM_len]; exact Nat.le_refl _)] at HSS
      obtain ⟨n, hn⟩ : ∃ z, (colS k (allM M)).1 = z := ⟨_, rfl⟩
      obtain ⟨d, hd⟩ : ∃ z, (colS k (allM M)).2 = z := ⟨_, rfl⟩
      rw [hn, hd] at HSS
      have s0 := HSS.out.cell 0
      have s1 := HSS.out.cell 1
      have r0 := HR.out.cell 0
      have r1 := HR.out.cell 1
      have f0 := HR.out.frozen 0
      have f1 := HR.out.frozen 1
      simp at s0 s1 r0 r1
      by_cases hd0 : d = 0
      · have HF := hide (show facK (allM M) k = (1, 1) by unfold facK; rw [hd, if_pos hd0])
        have hd0' : ((d : Int) == 0) = true := by simp [hd0]
        clear hn hd hd0 hb hR hS
        go_wp2_with fail
        refine ret_row (g := w.heap.size + 1) (t := 137) (cs := #[.int .i64 1, .int .i64 1]) rfl rfl rfl ?_ Tryz.underlying137 rfl (by kernel_rfl) ⟨by rw [HF.out]; rfl, ?_⟩
        · have h := (HR.out.set_ 0 (.int .i64 1)).set_ 1 (.int .i64 1)
          simpa using h
        · exact (HB.out.setCell (p := ⟨w.heap.size + 1, 0, none⟩) (by simp only; omega) _).setCell (p := ⟨w.heap.size + 1, 1, none⟩) (by simp only; omega) _
      · have HF := hide (show facK (allM M) k = (n, d) by unfold facK; rw [hd, if_neg hd0, ← hn, ← hd])
        have hd0' : ((d : Int) == 0) = false := by simp; omega
        clear hn hd hd0 hb hR hS
        go_wp2_with fail
        refine ret_row (g := w.heap.size + 1) (t := 137) (cs := #[.int .i64 (n : Int), .int .i64 (d : Int)]) rfl rfl rfl ?_ Tryz.underlying137 rfl (by kernel_rfl) ⟨by rw [HF.out], ?_⟩
        · have h := (HR.out.set_ 0 (.int .i64 (n : Int))).set_ 1 (.int .i64 (d : Int))
          simpa using h
        · exact (HB.out.setCell (p := ⟨w.heap.size + 1, 0, none⟩) (by simp only; omega) _).setCell (p := ⟨w.heap.size + 1, 1, none⟩) (by simp only; omega) _
end Go.Proofs.YtmfohnchnbgbaaaGreatDoor

/- How years develop: both programs. -/
namespace Go.Proofs.YtmfohnchnbgbaaaGreatDoor
open Go.RowKit

def encRt (x : Nat × Nat) : List Value := [.int .i64 (x.1 : Int), .int .i64 (x.2 : Int)]
theorem elRt : ElT Tryz.prog 86 137 2 16 := ElT.mk' (z := .agg #[.int .i64 0, .int .i64 0]) Tryz.underlying86 (by kernel_rfl) rfl (by omega)
theorem okRt (l : List (Nat × Nat)) : RowsOk 2 (l.map encRt) := by
  intro r hr
  obtain ⟨x, _, rfl⟩ := List.mem_map.1 hr
  refine ⟨rfl, fun u hu => ?_⟩
  simp [encRt] at hu
  rcases hu with rfl | rfl <;> rfl
theorem sl_rt {w : World} {t : TypeId} (n d : Nat) : Sl (w.alloc (.cells #[.int .i64 (n : Int), .int .i64 (d : Int)] t)) (w.alloc (.cells #[.int .i64 (n : Int), .int .i64 (d : Int)] t)).heap.size 2 (some ⟨w.heap.size, 0, none⟩) ([(n, d)].map encRt) :=
  sl_of_blk (Blk.new w t #[.int .i64 (n : Int), .int .i64 (d : Int)])
theorem right_bounds {f : Int} {c : List (List Int)} (h : rightC f c = true) : 1 ≤ c.length ∧ c.length ≤ 20 := by
  rw [rightC, Bool.and_eq_true] at h
  have h1 := h.1
  rw [boundsB, decide_eq_true_eq] at h1
  exact ⟨h1.1, h1.2.1⟩
theorem right_b_Lad {w0 w wa : World} {f : Int} {A : Option Addr} {n cap : Nat} {M : List Rw} {c : List (List Int)} {r : Bool} (hs : MV wa A n cap M) (ha : Below wa.heap.size wa w) (h : Below w0.heap.size w0 w) (hf : ok64 f) (hc : allM M = c) (hr : rightC f c = r) :
    Calls Tryz.prog 34 #[.agg #[.int .i64 f, .slice A n cap]] w fun e w' => e = .returned (.bool r) ∧ Below w0.heap.size w0 w' ∧ Below w.heap.size w w' := by
  have hM := hs.len
  subst hM
  refine (right_any f A cap M w (hs.below ha) hf).mono ?_
  rintro e w' ⟨rfl, hb⟩
  exact ⟨by rw [hc, hr], chain h hb, hb⟩
/-- What the factors are, as both programs give them. -/
def FacP (w0 w : World) (r : Bool) (F : List (Nat × Nat)) (n : Nat) (e : Ending) (w' : World) : Prop :=
  (r = false → e = .returned (.tuple #[.slice none 0 0, .int .i64 1])) ∧ (r = true → ∃ A' c', e = .returned (.tuple #[.slice A' n c', .int .i64 0]) ∧ OwnS w' w0.heap.size 137 2 A' n c' (F.map encRt)) ∧ Below w0.heap.size w0 w' ∧ Below w.heap.size w w'

set_option maxRecDepth 100000 in
set_option maxHeartbeats 2000000 in
theorem factors_any (f : Int) (A : Option Addr) (cap : Nat) (M : List Rw) (w : World) (hs : MV w A M.length cap M) (hf : ok64 f) :
    Calls Tryz.prog 26 #[.agg #[.int .i64 f, .slice A M.length cap]] w (FacP w w (rightC f (allM M)) (facL (allM M)) (facL (allM M)).length) := by
  have HS := hide hs
  clear hs
  obtain ⟨r, hr⟩ : ∃ b, rightC f (allM M) = b := ⟨_, rfl⟩
  have HR := hide hr
  rw [hr]
  clear hr
  go_enter Tryz.func26, Tryz.ntmps26
  go_wp2_with fail
  refine (right_b_Lad (w0 := w) HS.out ((Below.refl _ _).alloc (Nat.le_refl _) _) ((Below.refl _ _).alloc (Nat.le_refl _) _) hf rfl HR.out).mono ?_
  rintro e w1 ⟨rfl, h1, hb1⟩
  cases r
  · clear hb1
    go_wp2_with fail
    go_ret2
    exact ⟨fun _ => rfl, fun h => (by cases h), h1, h1⟩
  have hok := right_okC HR.out
  have hbd := right_bounds HR.out
  rw [allM_len] at hbd
  have t0 := kept hb1 (b := w.heap.size) (o := 0) (u := .int .i64 f) (by simp)
  have t1 := kept hb1 (b := w.heap.size) (o := 1) (u := .slice A M.length cap) (by simp)
  have htl := block_lt_of_cell t0
  have H1 := hide h1
  have HOK := hide hok
  obtain ⟨m, hm⟩ : ∃ m, M.length = m + 1 := ⟨M.length - 1, by omega⟩
  have hml : (facL (allM M)).length = m := by rw [facL_len, allM_len, hm]; rfl
  have HML := hide hml
  have hmi : (M.length : Int) - 1 = (m : Int) := by omega
  have hmb : m ≤ 19 := by omega
  have HM := hide hm
  rw [hml]
  clear hb1 h1 hok hml hm
  go_wp2_with fail
  have T0 := hide t0
  have T1 := hide t1
  clear t0 t1
  go_loopw [4, 13] (fun o q wr => ∃ (j : Nat) (A' : Option Addr) (c' : Nat), j ≤ m ∧ q = .int .i64 j ∧ o = .slice A' j c' ∧ OwnS wr w1.heap.size 137 2 A' j c' (((facL (allM M)).take j).map encRt) ∧ Below w1.heap.size w1 wr) (fun _ q _ => m - (RowKit.intOf q).toNat)
  case atStart => exact ⟨0, none, 0, Nat.zero_le _, rfl, rfl, OwnS.nil_ _ _ _ _, Below.refl _ _⟩
  case round =>
    obtain ⟨j, A', c', hj, rfl, rfl, hown, hb⟩ := hrel
    have t0 := kept hb T0.out
    have t1 := kept hb T1.out
    have htl2 := block_lt_of_cell t0
    have HB := hide hb
    have HO := hide hown
    by_cases hlt : j < m
    · have hlt' : (j : Int) < (m : Int) := by omega
      have HG := hide (take_of (facL_get (c := allM M) (k := j) (by rw [allM_len, HM.out]; exact hlt)))
      clear hb hown
      go_wp2_with fail
      refine (factor_any f A cap j M wr (HS.out.below (chain H1.out HB.out)) HOK.out (by omega)).mono ?_
      rintro e w2 ⟨rfl, hb2⟩
      obtain ⟨n, hn⟩ : ∃ z, (facK (allM M) j).1 = z := ⟨_, rfl⟩
      obtain ⟨d, hd⟩ : ∃ z, (facK (allM M) j).2 = z := ⟨_, rfl⟩
      have hnd : facK (allM M) j = (n, d) := by rw [← hn, ← hd]
      rw [hn, hd]
      rw [hnd] at HG
      have hown2 := (HO.out.below hb2).alloc (.cells #[.int .i64 (n : Int), .int .i64 (d : Int)] 137)
      have H2 := hide (chain HB.out hb2)
      have hbz := H2.out.size
      have hb3 := H2.out.alloc hbz (.cells #[.int .i64 (n : Int), .int .i64 (d : Int)] 137)
      clear hb2 hn hd hnd t0 t1
      go_wp2_with (at_builtin; refine wpList_app rfl (.tmp 16) (.tmp 20) 86 rfl elRt (B := w1.heap.size) (news := [(n, d)].map encRt) rfl hown2 rfl rfl (sl_rt n d) (okRt _) (by unfold maxLen; omega) (by omega) (by simp; omega) ?_; intro A2 c2 w3 ho hg hA)
      have HO2 := hide ho
      have H3 := hide (hb3.grown hg (by simp; omega) (fun k e => (hown2.lt k e).1))
      clear ho hg hA hown2 hb3
      go_roundw
      case rel => exact ⟨j + 1, A2, c2, by omega, by go_num, rfl, by rw [HG.out, List.map_append]; exact HO2.out, H3.out⟩
      case measure => simp [RowKit.intOf]; omega
    · obtain rfl : j = m := by omega
      have hlt' : ¬ (j : Int) < (j : Int) := by omega
      go_wp2_with fail
      go_ret2
      have h9 := chain H1.out hb
      refine ⟨fun h => (by cases h), fun _ => ⟨A', c', by rw [HML.out]; rfl, ?_⟩, h9, h9⟩
      rw [List.take_of_length_le (by rw [HML.out]; exact Nat.le_refl _)] at hown
      rw [HML.out]
      exact hown.mono H1.out.size
end Go.Proofs.YtmfohnchnbgbaaaGreatDoor

/- Amounts gone on with: the program's grow and all. -/
namespace Go.Proofs.YtmfohnchnbgbaaaGreatDoor
open Go.RowKit

/-- Factors are of their size. -/
def OkF (l : List (Nat × Nat)) : Prop := ∀ x ∈ l, x.1 ≤ 2000000000000000000 ∧ x.2 ≤ 2000000000000000000 ∧ 0 < x.2
theorem okF_facL {c : List (List Int)} (h : OkC c) : OkF (facL c) := fun x hx => by
  obtain ⟨k, _, rfl⟩ := List.mem_map.1 hx
  exact facK_le h k
theorem okF_drop {l : List (Nat × Nat)} (h : OkF l) (k : Nat) : OkF (l.drop k) := fun x hx => h x (List.mem_of_mem_drop hx)
theorem Sl.rt {w : World} {B k : Nat} {A : Option Addr} {l : List (Nat × Nat)} {x : Nat × Nat} (h : Sl w B 2 A (l.map encRt)) (hx : l[k]? = some x) :
    ∃ b off, A = some ⟨b, off, none⟩ ∧ b < B ∧ w.cell? ⟨b, off + k * 2, none⟩ = some (.int .i64 (x.1 : Int)) ∧ w.cell? ⟨b, off + k * 2 + 1, none⟩ = some (.int .i64 (x.2 : Int)) := by
  obtain ⟨b, off, hA, hb, hc⟩ := h k (encRt x) (by simp [hx])
  exact ⟨b, off, hA, hb, hc 0 _ rfl, hc 1 _ rfl⟩
/-- The error that a code is. -/
def errV (k : Int) : Value := if k = 0 then .nilIface else .iface 144 (.agg #[.int .i64 k])
theorem grow_code : ∀ (l : List (Nat × Nat)) (a : Nat), (growN a l).2 = 0 ∨ ((growN a l).2 = 5 ∧ (growN a l).1 = 0)
  | [], a => .inl rfl
  | r :: l, a => by
    rw [growN]
    split
    · exact grow_code l _
    · rename_i h
      rcases evE_cases a r.1 r.2 with h1 | h1
      · exact absurd h1 h
      · exact .inr ⟨h1, rfl⟩
theorem grow_le : ∀ (l : List (Nat × Nat)) (a : Nat), a ≤ 4000000000000000000 → (growN a l).1 ≤ 4000000000000000000
  | [], a, h => h
  | r :: l, a, h => by
    rw [growN]
    split
    · exact grow_le l _ (evQ_le _ _ _)
    · simp

set_option maxRecDepth 100000 in
set_option maxHeartbeats 2000000 in
theorem grow_any (amt : Nat) (A : Option Addr) (n cap : Nat) (l : List (Nat × Nat)) (w : World) (hs : SV w 2 A n cap (l.map encRt)) (hl : OkF l) (ha : amt ≤ 4000000000000000000) :
    Calls Tryz.prog 52 #[.int .i64 amt, .slice A n cap] w
      fun e w' => e = .returned (.tuple #[.int .i64 ((growN amt l).1 : Nat), errV (growN amt l).2]) ∧ Below w.heap.size w w' := by
  have hn : l.length = n := by have := hs.len; simpa using this
  subst hn
  have HS := hide hs
  have hmx := hs.le
  have hmy := hs.most
  unfold maxLen at hmy
  have HL := hide hl
  clear hs hl
  go_enter Tryz.func52, Tryz.ntmps52
  go_wp2_with fail
  go_loopw [0, 12] (fun a i wr => ∃ (j x : Nat), j ≤ l.length ∧ i = .int .i64 j ∧ a = .int .i64 x ∧ x ≤ 4000000000000000000 ∧ growN x (l.drop j) = growN amt l ∧ Below w.heap.size w wr) (fun _ i _ => l.length - (RowKit.intOf i).toNat)
  case atStart => exact ⟨0, amt, Nat.zero_le _, rfl, rfl, ha, rfl, Below.refl _ _⟩
  case round =>
    obtain ⟨j, x, hj, rfl, rfl, hx, hg, hb⟩ := hrel
    have HB := hide hb
    by_cases hlt : j < l.length
    · obtain ⟨r, hr⟩ := get_of hlt
      obtain ⟨bb, off, rfl, hbl, c0, c1⟩ := (HS.out.sl.below hb).rt hr
      have hr1 := HL.out r (List.mem_of_getElem? hr)
      obtain ⟨n, d⟩ := r
      obtain ⟨q1, q2, q3⟩ := hr1
      simp only at c0 c1 q1 q2 q3
      have hk0 : (0 : Int) ≤ (j : Int) := by omega
      have hk1 : (j : Int) < (l.length : Int) := by omega
      rw [drop_of hr, growN] at hg
      have HG := hide hg
      clear hr hg hb
      go_wp2_with fail
      refine (even_any x n d (by omega) (by omega) (by omega) q3 _).mono ?_
      rintro e w2 ⟨rfl, hb2⟩
      have H2 := hide (chain (HB.out.alloc HB.out.size _) hb2)
      have hqb := evQ_le x n d
      obtain ⟨q, hq⟩ : ∃ z, evQ x n d = z := ⟨_, rfl⟩
      obtain ⟨k, hk⟩ : ∃ z, evE x n d = z := ⟨_, rfl⟩
      have hkc := evE_cases x n d
      simp only [hk, hq] at HG hqb hkc ⊢
      clear hb2 hq hk c0 c1
      rcases hkc with rfl | rfl
      · rw [if_pos rfl] at HG
        go_wp2_with fail
        go_roundw
        case rel => exact ⟨j + 1, q, by omega, by go_num, rfl, hqb, HG.out, H2.out⟩
        case measure => simp [RowKit.intOf]; omega
      · rw [if_neg (by decide)] at HG
        go_wp2_with fail
        go_ret2
        rw [← HG.out]
        exact ⟨rfl, H2.out⟩
    · obtain rfl : j = l.length := by omega
      have hk1 : ¬ (((l.length : Nat) : Int) < (l.length : Int)) := by omega
      rw [List.drop_length] at hg
      have HG := hide hg
      clear hg
      go_wp2_with fail
      go_ret2
      rw [← HG.out]
      exact ⟨rfl, HB.out⟩
end Go.Proofs.YtmfohnchnbgbaaaGreatDoor
