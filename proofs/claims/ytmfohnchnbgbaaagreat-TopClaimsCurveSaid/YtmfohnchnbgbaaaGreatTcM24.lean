/- Part 24 of the proof. -/
import Derived.Laws.CopyRow
import Derived.Deep.RegionWith
import Derived.Test.YtmfohnchnbgbaaaGreatTcM01
import Derived.Test.YtmfohnchnbgbaaaGreatTcM03
import Derived.Test.YtmfohnchnbgbaaaGreatTcM04
import Derived.Test.YtmfohnchnbgbaaaGreatTcM23
/- The rows of a cover's files: the walk of claimsRows. -/
namespace Go.Proofs.YtmfohnchnbgbaaaGreat
open Go.RowKit Go.Lib
set_option linter.unusedSimpArgs false

/-- The day of loss of the file with this number. -/
def lossAt (L : List Fl) (a : Int) : Int := (L[a.toNat]?).elim 0 (fun x => x.c.loss)
def crow (L : List Fl) (r : R3) : R3 := ⟨lossAt L r.a, r.b, r.m⟩
noncomputable def crL (c : Cv) (L : List Fl) : List R3 := if checkQ c L = 0 then (paidS c L).out.map (crow L) else []
def CrP (c : Cv) (L : List Fl) (w : World) (e : Ending) (w' : World) : Prop :=
  Below w.heap.size w w' ∧ ∃ (A : Option Addr) (cap : Nat), e = .returned (.tuple #[.slice A (crL c L).length cap, .bool (checkQ c L == 0)]) ∧ SV w' 3 A (crL c L).length cap ((crL c L).map enc3)
theorem crow_eq {L : List Fl} {r : R3} {f : Nat} {x : Fl} (hf : r.a = (f : Int)) (hx : L[f]? = some x) : crow L r = ⟨x.c.loss, r.b, r.m⟩ := by
  unfold crow lossAt
  rw [hf, Int.toNat_natCast, hx]; rfl
set_option maxRecDepth 100000 in
set_option maxHeartbeats 8000000 in
theorem crows_any (c : Cv) (A : Option Addr) (n cap : Nat) (L : List Fl) (w : World) (ho : okCv c) (hv : FV w A n cap L) (hn1 : n ≤ 1000) :
    Calls Tryz.prog 9 #[.agg #[.int .i64 c.p, .int .i64 c.lim, .int .i64 c.agg, .int .i64 c.ded, .int .i64 c.sh], .slice A n cap] w (CrP c L w) := by
  have hn := hv.len
  have hle := hv.sv.le
  have hmo := hv.sv.most
  unfold maxLen at hmo
  obtain ⟨w1, hw1⟩ : ∃ W, w.alloc (.cells (cvC c) 23) = W := ⟨_, rfl⟩
  have h01 : Below w.heap.size w w1 := by rw [← hw1]; exact (Below.refl _ _).alloc (Nat.le_refl _) _
  have HB := hide (show Blk w1 w.heap.size 23 (cvC c) by rw [← hw1]; exact Blk.new _ _ _)
  obtain ⟨x0, x1, x2, x3, x4⟩ := cv_cells HB.out
  have HV := hide (hv.below h01)
  have H1 := hide h01
  have HW := hide hw1
  have HN := hide hn
  have HP := hide (paid_any c A n cap L w1 ho (hv.below h01) hn1)
  clear hw1 h01 hv ho hn
  go_enter Tryz.func9, Tryz.ntmps9
  go_upto_region 1 with fail
  rw [show w.alloc (.cells #[.int .i64 c.p, .int .i64 c.lim, .int .i64 c.agg, .int .i64 c.ded, .int .i64 c.sh] 23) = w1 from HW.out]
  go_wp2_with fail
  refine HP.out.mono ?_
  rintro e w2 ⟨h2, hr⟩
  have H2 := hide (chain H1.out h2)
  have HV2 := hide (HV.out.below h2)
  clear h2 x0 x1 x2 x3 x4
  obtain ⟨O, m, AR, capR, E, hO, hE, rfl, hsr, hm, hro, hm2⟩ : ∃ (O : List R3) (m : Nat) (AR : Option Addr) (capR : Nat) (E : Int), crL c L = O.map (crow L) ∧ (checkQ c L = E) ∧ e = .returned (.tuple #[.slice AR m capR, .int .i64 E]) ∧ SV w2 3 AR m capR (O.map enc3) ∧ O.length = m ∧ (∀ r ∈ O, ∃ f : Nat, r.a = f ∧ f < n) ∧ m ≤ 2000 := by
    rcases hr with ⟨hne, rfl⟩ | ⟨hE, AR, capR, rfl, hsr⟩
    · exact ⟨[], 0, none, 0, _, by rw [crL, if_neg hne]; rfl, rfl, rfl, (OwnS.nil_ w2 0 0 3).sv, rfl, by simp, by omega⟩
    · have hinv := paid_inv (check_zero hE).1
      refine ⟨(paidS c L).out, _, AR, capR, 0, by rw [crL, if_pos hE], hE, rfl, hsr, rfl, fun r hr => ?_, ?_⟩
      · rw [← HN.out]; exact (hinv.ro r hr).1
      · have h1 := hinv.ol
        have h2 := (check_zero hE).2.2
        omega
  have HSR := hide hsr
  have HRO := hide hro
  have HM := hide hm
  have HO := hide hO
  have HE := hide hE
  clear hsr hro hm hO hE hr
  go_wp2_with fail
  go_loopw [8, 19] (fun q8 q19 wr => ∃ (i : Nat) (A5 : Option Addr) (cap5 : Nat), i ≤ m ∧ q19 = .int .i64 i ∧ q8 = .slice A5 i cap5 ∧ OwnS wr w2.heap.size 54 3 A5 i cap5 (((O.take i).map (crow L)).map enc3) ∧ Below w2.heap.size w2 wr) (fun _ q _ => m - (RowKit.intOf q).toNat)
  case atStart => exact ⟨0, none, 0, Nat.zero_le _, rfl, rfl, OwnS.nil_ _ _ _ _, Below.refl _ _⟩
  case round =>
    rename World => wp
    obtain ⟨i, A5, cap5, hi, rfl, rfl, ho, hb⟩ := hrel
    have HOW := hide ho
    have HBE := hide hb
    by_cases hlt : i < m
    · obtain ⟨r, hr⟩ := get_of (l := O) (k := i) (by rw [HM.out]; exact hlt)
      obtain ⟨f, hf, hfn⟩ := HRO.out r (List.mem_of_getElem? hr)
      obtain ⟨x, hx⟩ := get_of (l := L) (k := f) (by rw [HN.out]; exact hfn)
      obtain ⟨b, off, hA, hbl, d0, d1, d2⟩ := (HSR.out.below hb).sl.r3 hr
      obtain ⟨bb, off2, hA2, hbl2, c0, c1, c2, c3, c4, c5, c6⟩ := (HV2.out.below hb).sv.sl.fl hx
      have hi0 : (0 : Int) ≤ (i : Int) := by omega
      have hi1 : (i : Int) < (m : Int) := by omega
      have hf0 : (0 : Int) ≤ (f : Int) := by omega
      have hf1 : (f : Int) < (n : Int) := by omega
      have hfl : ¬ (f : Int) < 0 := by omega
      have hfg : ¬ (f : Int) ≥ (n : Int) := by omega
      rw [hf] at d0
      have HCR := hide (crow_eq hf hx)
      have HR := hide hr
      obtain ⟨wx, hwx⟩ : ∃ W, wp.alloc (.cells #[.int .i64 f, .int .i64 r.b, .int .i64 r.m] 54) = W := ⟨_, rfl⟩
      have hbx : Below wp.heap.size wp wx := by rw [← hwx]; exact (Below.refl _ _).alloc (Nat.le_refl _) _
      have HXB := hide (show Blk wx wp.heap.size 54 #[.int .i64 f, .int .i64 r.b, .int .i64 r.m] by rw [← hwx]; exact Blk.new _ _ _)
      have HOX := hide (ho.below hbx)
      have HBX := hide (chain hb hbx)
      have hszx : w2.heap.size ≤ wx.heap.size := HBX.out.size
      have HWX := hide hwx
      have c3x := kept hbx c3
      subst hA hA2
      clear ho hb hr hx hf hwx hbx c0 c1 c2 c3 c4 c5 c6
      go_upto_region 6 with fail
      rw [HWX.out]
      obtain ⟨X, hX⟩ : ∃ X, wp.heap.size = X := ⟨_, rfl⟩
      rw [hX] at HXB ⊢
      clear hX HWX d0 d1 d2
      have y0 : wx.cell? ⟨X, 0, none⟩ = some (.int .i64 f) := HXB.out.cell 0
      have y1 : wx.cell? ⟨X, 1, none⟩ = some (.int .i64 r.b) := HXB.out.cell 1
      have y2 : wx.cell? ⟨X, 2, none⟩ = some (.int .i64 r.m) := HXB.out.cell 2
      obtain ⟨lo, hlo⟩ : ∃ z, x.c.loss = z := ⟨_, rfl⟩
      rw [hlo] at c3x HCR
      clear hlo
      go_wp2_with fail
      go_region_law (first
          | (refine step_app rfl (.tmp 33) (.tmp 46) 27 rfl elRow3 (B := w2.heap.size) (rows := ((O.take i).map (crow L)).map enc3) (A2 := some ⟨_, 0, none⟩) (news := [(⟨lo, r.b, r.m⟩ : R3)].map enc3) rfl ?_ rfl rfl ?_ (okRow3 [(⟨lo, r.b, r.m⟩ : R3)]) ?_ ?_ ?_ ?_
             · first | exact (HOX.out.alloc _).drew | exact HOX.out.alloc _
             · first | exact sl_of_blk (cs := #[.int .i64 lo, .int .i64 r.b, .int .i64 r.m]) (Blk.drew (Blk.new' (by simp))) | exact sl_of_blk (cs := #[.int .i64 lo, .int .i64 r.b, .int .i64 r.m]) (Blk.new' (by simp))
             · (simp only [maxLen]; omega)
             · omega
             · (simp; try omega)
             intro A3 cp3 wb ho2 hg2 ha2
             have HO2 := hide ho2
             have H3 := hide (((HBX.out.alloc HBX.out.size _).drew).grown hg2 (by simp; omega) (fun kk hk => (HOX.out.lt kk hk).1))
             clear ho2 hg2 ha2))
      all_goals
        go_wp2_with fail
        go_roundw
        case rel => exact ⟨i + 1, A3, cp3, by omega, by go_num, rfl, by rw [take_of HR.out, List.map_append, List.map_append, List.map_cons, List.map_nil, HCR.out]; exact HO2.out, H3.out⟩
        case measure => simp [RowKit.intOf]; omega
    · obtain rfl : i = m := by omega
      have htm : O.take i = O := List.take_of_length_le (by rw [HM.out]; exact Nat.le_refl _)
      rw [htm, ← HO.out] at HOW
      have hlm : (crL c L).length = i := by rw [HO.out, List.length_map, HM.out]
      have HR := hide (show CrP c L w (.returned (.tuple #[.slice A5 i cap5, .bool (E == 0)])) wp from ⟨chain H2.out HBE.out, A5, cap5, by rw [hlm, HE.out], by rw [hlm]; exact HOW.out.sv⟩)
      clear ho hb htm hlm
      go_wp2_with fail
      go_ret2
      exact HR.out
end Go.Proofs.YtmfohnchnbgbaaaGreat

/- What was known on a day: the closure, IndexFunc, DeleteFunc. -/
namespace Go.Proofs.YtmfohnchnbgbaaaGreat
open Go.RowKit

section
variable {P : Program} {w : World} {t e : TypeId} {sz bytes B g n cap : Nat} {rows : List (List Value)}
theorem run_clear_own (T : ElT P t e sz bytes) (h1 : ∀ i z, P.info? e = some i → i.zero = some z → ∀ v ∈ z.cells.toList, v.oneCell' = true) (h : OwnS w B e sz (some ⟨g, 0, none⟩) n cap rows) {k m c o : Nat} (hk : k < n) (hm : m = n - k) (ho : o = k * sz) :
    ∃ W', (∀ ty : TypeId, (Builtin.clear_ #[t] ty #[.slice (some ⟨g, o, none⟩) m c]).run P w = .ok (.tuple #[]) W') ∧ OwnS W' B e sz (some ⟨g, 0, none⟩) k cap (rows.take k) ∧ w.grownBy W' (some g) := by
  obtain ⟨ht, ⟨i, z, hi, hz, hsize, hby, hzs⟩, hsz⟩ := T
  subst ho
  have hzv : ∀ w, (zeroValue e).run P w = .ok z w := fun w => by simp [zeroValue, typeInfo, hi, hz]
  have hvs : (Builtin.zeroCells z.cells m).toList.length = m * sz := by simp [Builtin.zeroCells, hzs]
  have hone : ∀ v ∈ (Builtin.zeroCells z.cells m).toList, v.oneCell' = true := by
    intro v hv
    simp only [Builtin.zeroCells, Array.toList_map, List.mem_map] at hv
    obtain ⟨q, _, rfl⟩ := hv
    refine h1 i z hi hz _ ?_
    rw [getElem!_pos z.cells (q % z.cells.size) (Nat.mod_lt _ (by omega))]
    simp
  have hf := h.firsts (k := k) (by omega)
  rcases h.own.2 with ⟨h', _⟩ | ⟨g', cap', cur, h', hB, hg, hnc, hcm, hcs, htake⟩
  · simp at h'
  · simp only [Value.slice.injEq, Option.some.injEq, Addr.mk.injEq, and_true, true_and] at h'
    obtain ⟨rfl, rfl⟩ := h'
    have hle : k * sz + m * sz ≤ cap * sz := by
      rw [← Nat.add_mul]; exact Nat.mul_le_mul_right _ (by omega)
    have hst := run_storeCells_at (P := P) g (k * sz) e (Builtin.zeroCells z.cells m).toList 0 cur w hg (by rw [hvs]; omega) hone
    simp only [Nat.add_zero] at hst
    refine ⟨w.setRow g (cur.toList.take (k * sz) ++ (Builtin.zeroCells z.cells m).toList ++ cur.toList.drop (k * sz + (Builtin.zeroCells z.cells m).toList.length)).toArray, ?_, ?_, ?_⟩
    · intro ty
      obtain ⟨q, rfl⟩ : ∃ q, m = q + 1 := ⟨m - 1, by omega⟩
      simp only [Builtin.clear_]
      simp [run_underlying ht, hzv, hst]
    · refine ⟨⟨hf.own.1, .inr ⟨g, cap, _, rfl, hB, setRow_heap w g cur _ e _ hg, by omega, hcm, ?_, ?_⟩⟩, hf.len, hf.ok⟩
      · have h2 : (Builtin.zeroCells z.cells m).toList.length = m * sz := hvs
        have h3 : cur.toList.length = cap * sz := by rw [Array.length_toList, hcs]
        simp only [List.size_toArray, List.length_append, List.length_take, List.length_drop, h2, h3]
        omega
      · have h3 : cur.toList.length = cap * sz := by rw [Array.length_toList, hcs]
        have h4 : (cur.toList.take (k * sz)).length = k * sz := by rw [List.length_take, h3]; omega
        simp only [List.append_assoc]
        rw [List.take_append_of_le_length (by omega), List.take_of_length_le (by omega)]
        rcases hf.own.2 with ⟨h5, _⟩ | ⟨g5, c5, cur5, h5, _, hg5, _, _, _, ht5⟩
        · simp at h5
        · simp only [Value.slice.injEq, Option.some.injEq, Addr.mk.injEq, and_true, true_and] at h5
          obtain ⟨rfl, rfl⟩ := h5
          rw [hg] at hg5
          cases hg5
          exact ht5
    · exact ⟨rfl, rfl, rfl, by simp, fun j _ hj => setRow_other w g j _ (fun e => hj (by rw [e]))⟩
end

theorem acZero : ∀ i z, Tryz.prog.info? 95 = some i → i.zero = some z → ∀ v ∈ z.cells.toList, v.oneCell' = true := by
  intro i z hi hz v hv
  have h : (Tryz.prog.info? 95).map (fun i => i.zero) = some (some (.agg #[.int .i64 0, .int .i64 0, .int .i64 0])) := by kernel_rfl
  rw [hi] at h
  simp only [Option.map_some, Option.some.injEq] at h
  rw [hz] at h
  cases h
  simp [Value.cells] at hv
  rcases hv with rfl | rfl | rfl <;> rfl

theorem late_any (b k m d : Int) (q : Nat) (w : World) (h : w.cell? ⟨q, 0, none⟩ = some (.int .i64 d)) :
    Calls Tryz.prog 130 #[.agg #[.int .i64 b, .int .i64 k, .int .i64 m], .pointer (some ⟨q, 0, none⟩)] w fun e w' => e = .returned (.bool (decide (d < b))) ∧ Below w.heap.size w w' := by
  have hq := block_lt_of_cell h
  go_enter Tryz.func130, Tryz.ntmps130
  go_wp2
  go_ret
  exact ⟨rfl, (Below.refl _ _).alloc (Nat.le_refl _) _⟩

theorem all_take' {α : Type} {p : α → Bool} {l : List α} {k : Nat} {x : α} (h : l[k]? = some x) : (l.take (k + 1)).all p = ((l.take k).all p && p x) := by rw [take_of h]; simp
/-- The first act that is later than a day. -/
def FirstLate (d : Int) (l : List Ac) (r : Int) : Prop := (r = -1 ∧ l.all (fun a => decide (a.b ≤ d)) = true) ∨ ∃ (k : Nat) (x : Ac), r = k ∧ l[k]? = some x ∧ d < x.b ∧ (l.take k).all (fun a => decide (a.b ≤ d)) = true
def IndexPost (w : World) (d : Int) (l : List Ac) (e : Ending) (w' : World) : Prop := ∃ r : Int, e = .returned (.int .i64 r) ∧ FirstLate d l r ∧ Below w.heap.size w w'

set_option maxHeartbeats 1000000 in
theorem index_any (A : Option Addr) (cap : Nat) (l : List Ac) (d : Int) (q : Nat) (w : World) (hl : Sl w w.heap.size 3 A (l.map encAc)) (hm : l.length ≤ 9223372036854775806) (hq : w.cell? ⟨q, 0, none⟩ = some (.int .i64 d)) :
    Calls Tryz.prog 178 #[.slice A l.length cap, .func (Fn.func 130) #[] #[.pointer (some ⟨q, 0, none⟩)]] w (IndexPost w d l) := by
  have HL := hide hl
  have HQ := hide hq
  clear hl hq
  go_enter Tryz.func178, Tryz.ntmps178
  go_wp2_with fail
  go_loopw [8] (fun i wr => ∃ k : Nat, k ≤ l.length ∧ i = .int .i64 k ∧ (l.take k).all (fun a => decide (a.b ≤ d)) = true ∧ Below w.heap.size w wr) (fun i _ => l.length - (intOf i).toNat)
  case atStart => exact ⟨0, Nat.zero_le _, rfl, rfl, Below.refl _ _⟩
  case round =>
    obtain ⟨k, hk, rfl, hall, hb⟩ := hrel
    have HA := hide hall
    clear hall
    by_cases hlt : k < l.length
    · obtain ⟨⟨ab, ak, am⟩, hx⟩ := get_of hlt
      obtain ⟨bb, off, rfl, hbl, hc0, hc1, hc2⟩ := ((HL.out.below hb).more hb.size).ac hx
      simp only at hc0 hc1 hc2
      have HX := hide hx
      have HT := hide (all_take' (p := fun a : Ac => decide (a.b ≤ d)) hx)
      clear hx
      go_wp2_with fail
      refine (late_any ab ak am d q _ (kept hb HQ.out)).mono ?_
      rintro e w2 ⟨rfl, hb2⟩
      have hb' := chain hb hb2
      rcases Int.lt_or_le d ab with hd | hd
      · go_wp2_with fail
        go_ret
        exact ⟨(k : Int), rfl, .inr ⟨k, _, rfl, HX.out, hd, HA.out⟩, hb'⟩
      · go_wp2_with fail
        go_roundw
        case rel => exact ⟨k + 1, by omega, by go_num, by rw [HT.out, HA.out]; simpa using hd, hb'⟩
        case measure => simp [intOf]; omega
    · obtain rfl : k = l.length := by omega
      rw [List.take_length] at HA
      go_wp2_with fail
      go_ret
      exact ⟨-1, rfl, .inl ⟨rfl, HA.out⟩, hb⟩
end Go.Proofs.YtmfohnchnbgbaaaGreat

/- What was known on a day: DeleteFunc. -/
namespace Go.Proofs.YtmfohnchnbgbaaaGreat
open Go.RowKit

theorem ac_set {w : World} {B g n cap i : Nat} {R : List Ac} {x : Ac} (h : OwnS w B 95 3 (some ⟨g, 0, none⟩) n cap (R.map encAc)) (hi : i < n) :
    OwnS (((w.setCell ⟨g, i * 3, none⟩ (.int .i64 x.b)).setCell ⟨g, i * 3 + 1, none⟩ (.int .i64 x.k)).setCell ⟨g, i * 3 + 2, none⟩ (.int .i64 x.m)) B 95 3 (some ⟨g, 0, none⟩) n cap ((R.set i x).map encAc) := by
  have hl := h.len
  obtain ⟨y, hy⟩ := get_of (l := R) (k := i) (by simp at hl; omega)
  have hil : i < R.length := lt_of_get hy
  have h1 := h.set_ (i := i) (j := 0) (row := encAc y) (by simp [hy]) (by omega) (u := .int .i64 x.b) rfl
  have h2 := h1.set_ (i := i) (j := 1) (row := (encAc y).set 0 (.int .i64 x.b)) (by simp [hil]) (by omega) (u := .int .i64 x.k) rfl
  have h3 := h2.set_ (i := i) (j := 2) (row := ((encAc y).set 0 (.int .i64 x.b)).set 1 (.int .i64 x.k)) (by simp [hil]) (by omega) (u := .int .i64 x.m) rfl
  simp only [Nat.add_zero, List.set_set] at h3
  rw [List.map_set]
  exact h3

theorem atL_take {d : Int} {l : List Ac} {j : Nat} {x : Ac} (h : l[j]? = some x) : atL_Claim d (l.take (j + 1)) = atL_Claim d (l.take j) ++ (if x.b ≤ d then [x] else []) := by
  rw [take_of h]
  unfold atL_Claim
  rw [List.filter_append]
  by_cases hx : x.b ≤ d <;> simp [hx]
theorem atL_of_all {d : Int} {l : List Ac} (h : l.all (fun a => decide (a.b ≤ d)) = true) : atL_Claim d l = l := by
  unfold atL_Claim; rw [List.filter_eq_self]; simpa using h

/-- What DeleteFunc leaves. -/
def DelPost (w : World) (B : Nat) (d : Int) (l : List Ac) (e : Ending) (w' : World) : Prop :=
  ∃ A' c', e = .returned (.slice A' (atL_Claim d l).length c') ∧ OwnS w' B 95 3 A' (atL_Claim d l).length c' ((atL_Claim d l).map encAc) ∧ Below B w w'

/-- The loop's state: what is kept, up to i; what is to be looked at, from j on. -/
structure DelI (w : World) (B g cap : Nat) (d : Int) (q : Nat) (l R : List Ac) (i j : Nat) (wr : World) : Prop where
  own : OwnS wr B 95 3 (some ⟨g, 0, none⟩) l.length cap (R.map encAc)
  lt : i < j
  le : j ≤ l.length
  kept : R.take i = atL_Claim d (l.take j)
  rest : R.drop j = l.drop j
  day : wr.cell? ⟨q, 0, none⟩ = some (.int .i64 d)
  bel : Below B w wr
theorem DelI.len {w : World} {B g cap : Nat} {d : Int} {q : Nat} {l R : List Ac} {i j : Nat} {wr : World} (h : DelI w B g cap d q l R i j wr) : R.length = l.length := by have := h.own.len; simpa using this
theorem DelI.at {w : World} {B g cap : Nat} {d : Int} {q : Nat} {l R : List Ac} {i j : Nat} {wr : World} (h : DelI w B g cap d q l R i j wr) {x : Ac} (hx : l[j]? = some x) : R[j]? = some x := by
  have : (R.drop j)[0]? = (l.drop j)[0]? := by rw [h.rest]
  simpa [hx] using this
theorem DelI.ilen {w : World} {B g cap : Nat} {d : Int} {q : Nat} {l R : List Ac} {i j : Nat} {wr : World} (h : DelI w B g cap d q l R i j wr) : (atL_Claim d (l.take j)).length = i := by
  rw [← h.kept, List.length_take, h.len]; have := h.lt; have := h.le; omega
/-- A round that leaves an element out. -/
theorem DelI.skip {w : World} {B g cap : Nat} {d : Int} {q : Nat} {l R : List Ac} {i j : Nat} {wr wy : World} (h : DelI w B g cap d q l R i j wr) {x : Ac} (hx : l[j]? = some x) (hd : d < x.b) (hb : Below wr.heap.size wr wy) (hB : B ≤ wr.heap.size) : DelI w B g cap d q l R i (j + 1) wy := by
  refine ⟨h.own.below hb, by have := h.lt; omega, lt_of_get hx, ?_, ?_, Go.Proofs.YtmfohnchnbgbaaaGreat.kept hb h.day, h.bel.trans (hb.mono hB)⟩
  · rw [atL_take hx, if_neg (by omega), List.append_nil]; exact h.kept
  · have := congrArg (List.drop 1) h.rest
    simpa [List.drop_drop] using this
/-- A round that keeps one. -/
theorem DelI.keep {w : World} {B g cap : Nat} {d : Int} {q : Nat} {l R : List Ac} {i j : Nat} {wr wy : World} (h : DelI w B g cap d q l R i j wr) {x : Ac} (hx : l[j]? = some x) (hd : x.b ≤ d) (hb : Below wr.heap.size wr wy) (hB : B ≤ wr.heap.size) (hq : q ≠ g) (hg : B ≤ g) :
    DelI w B g cap d q l (R.set i x) (i + 1) (j + 1) (((wy.setCell ⟨g, i * 3, none⟩ (.int .i64 x.b)).setCell ⟨g, i * 3 + 1, none⟩ (.int .i64 x.k)).setCell ⟨g, i * 3 + 2, none⟩ (.int .i64 x.m)) := by
  have hlt := h.lt
  have hle := h.le
  have hlen := h.len
  have hj := lt_of_get hx
  refine ⟨ac_set (h.own.below hb) (by omega), by omega, hj, ?_, ?_, ?_, ?_⟩
  · rw [atL_take hx, if_pos hd, ← h.kept, List.take_succ_eq_append_getElem (by simp; omega)]
    simp [List.take_set_of_le]
  · have := congrArg (List.drop 1) h.rest
    rw [List.drop_set_of_lt (by omega)]
    simpa [List.drop_drop] using this
  · have hk := Go.Proofs.YtmfohnchnbgbaaaGreat.kept hb h.day
    rw [World.cell?_of_block (w := wy)]
    · exact hk
    · simp only [heap_setCell_other _ _ _ _ (show q ≠ (Addr.mk g (i * 3) none).block from hq), heap_setCell_other _ _ _ _ (show q ≠ (Addr.mk g (i * 3 + 1) none).block from hq), heap_setCell_other _ _ _ _ (show q ≠ (Addr.mk g (i * 3 + 2) none).block from hq)]
  · exact (((h.bel.trans (hb.mono hB)).setCell (p := ⟨g, i * 3, none⟩) hg _).setCell (p := ⟨g, i * 3 + 1, none⟩) hg _).setCell (p := ⟨g, i * 3 + 2, none⟩) hg _

set_option maxHeartbeats 2000000 in
theorem del_any (A : Option Addr) (cap B : Nat) (l : List Ac) (d : Int) (q : Nat) (w : World) (ho : OwnS w B 95 3 A l.length cap (l.map encAc)) (hB : B ≤ w.heap.size) (hm : l.length ≤ 9223372036854775806) (hqB : q < B) (hq : w.cell? ⟨q, 0, none⟩ = some (.int .i64 d)) :
    Calls Tryz.prog 128 #[.slice A l.length cap, .func (Fn.func 130) #[] #[.pointer (some ⟨q, 0, none⟩)]] w (DelPost w B d l) := by
  have HO := hide ho
  have HQ := hide hq
  clear ho hq
  go_enter Tryz.func128, Tryz.ntmps128
  go_wp2_with fail
  refine (index_any A cap l d q _ HO.out.sl hm HQ.out).mono ?_
  rintro e w1 ⟨r, rfl, hf, hb1⟩
  rcases hf with ⟨rfl, hall⟩ | ⟨k, x, rfl, hx, hd, hall⟩
  · have HA := hide hall
    clear hall
    go_wp2_with fail
    go_ret
    exact ⟨A, cap, by rw [atL_of_all HA.out]; rfl, by rw [atL_of_all HA.out]; exact HO.out.below hb1, hb1.mono hB⟩
  · have hk := lt_of_get hx
    obtain ⟨g, hA, hgB, hgw⟩ : ∃ g, A = some ⟨g, 0, none⟩ ∧ B ≤ g ∧ g < w.heap.size := by
      rcases HO.out.addr with ⟨_, h0, _⟩ | h
      · omega
      · exact h
    subst hA
    have hz1 := hb1.size
    have hI : DelI w B g cap d q l l k (k + 1) w1 := ⟨HO.out.below hb1, by omega, hk, by rw [atL_take hx, if_neg (by omega), List.append_nil, atL_of_all hall], rfl, kept hb1 HQ.out, hb1.mono hB⟩
    have HI := hide hI
    have hk1 : ((k : Int) == -1) = false := by simp
    clear hI hall hx hd HO HQ hb1
    go_wp2_with fail
    go_loopw [5, 6] (fun s t wr => ∃ (i j : Nat) (R : List Ac), s = .int .i64 i ∧ t = .int .i64 j ∧ DelI w B g cap d q l R i j wr) (fun _ t _ => l.length - (intOf t).toNat)
    case atStart => exact ⟨k, k + 1, l, rfl, by go_num, HI.out⟩
    case round =>
      clear HI
      obtain ⟨i, j, R, rfl, rfl, hI⟩ := hrel
      have hlt := hI.lt
      have hle := hI.le
      have hcap := hI.own.cap_le
      by_cases hj : j < l.length
      · obtain ⟨⟨ab, ak, am⟩, hx⟩ := get_of hj
        obtain ⟨bb, off, hA, hbl, hc0, hc1, hc2⟩ := hI.own.sl.ac (hI.at hx)
        cases hA
        simp only [Nat.zero_add] at hc0 hc1 hc2
        have HI := hide hI
        have HX := hide hx
        clear hx hI
        go_wp2_with fail
        refine (late_any ab ak am d q _ (kept ((Below.refl _ _).alloc (Nat.le_refl _) _) HI.out.day)).mono ?_
        rintro e w2 ⟨rfl, hb2⟩
        have v0 := kept hb2 (b := wr.heap.size) (o := 0) (u := .int .i64 ab) (by simp)
        have v1 := kept hb2 (b := wr.heap.size) (o := 1) (u := .int .i64 ak) (by simp)
        have v2 := kept hb2 (b := wr.heap.size) (o := 2) (u := .int .i64 am) (by simp)
        have hb2' : Below wr.heap.size wr w2 := chain ((Below.refl _ _).alloc (Nat.le_refl _) _) hb2
        clear hb2
        rcases Int.lt_or_le d ab with hd | hd
        · go_wp2_with fail
          go_roundw
          case rel => exact ⟨i, j + 1, R, rfl, by go_num, HI.out.skip HX.out hd hb2' (by omega)⟩
          case measure => simp [intOf]; omega
        · have ho2 := HI.out.own.below hb2'
          obtain ⟨y, hy⟩ := get_of (l := R) (k := i) (by have := HI.out.len; omega)
          obtain ⟨bb, off, hA, hbl', hd0, hd1, hd2⟩ := ho2.sl.ac hy
          cases hA
          simp only [Nat.zero_add] at hd0 hd1 hd2
          have hfz := ho2.frozen
          have hf0 := hfz (i * 3)
          have hf1 := hfz (i * 3 + 1)
          have hf2 := hfz (i * 3 + 2)
          have hi0 : (0 : Int) ≤ (i : Int) := by omega
          have hi1 : (i : Int) < (l.length : Int) := by omega
          have hdb : decide (d < ab) = false := by simpa using hd
          clear hy hfz ho2
          go_wp2_with fail
          go_roundw
          case rel => exact ⟨i + 1, j + 1, R.set i ⟨ab, ak, am⟩, by go_num, by go_num, HI.out.keep HX.out hd hb2' (by omega) (by omega) hgB⟩
          case measure => simp [intOf]; omega
      · obtain rfl : j = l.length := by omega
        have hil := hI.ilen
        rw [List.take_length] at hil
        obtain ⟨W', hrun, hown', hgr⟩ := run_clear_own elAc acZero hI.own (k := i) (m := l.length - i) (c := cap - i) (o := i * 3) (by omega) rfl rfl
        have hrun := hrun 0
        rw [← List.map_take, hI.kept, List.take_length, ← hil] at hown'
        have HO := hide hown'
        have HL := hide hil
        have hb' := hI.bel.grown hgr (by have := hI.bel.size; omega) (fun kk hk => by cases hk; exact hgB)
        have hci : (i : Int) ≤ (cap : Int) := by omega
        have hcn : ¬cap = i := by omega
        have hi0 : (0 : Int) ≤ (i : Int) := by omega
        have hi1 : (i : Int) ≤ (l.length : Int) := by omega
        clear hown' hil hgr hI
        go_wp2_with fail
        go_ret
        exact ⟨some ⟨g, 0, none⟩, cap, by rw [HL.out]; rfl, HO.out, hb'⟩
end Go.Proofs.YtmfohnchnbgbaaaGreat
