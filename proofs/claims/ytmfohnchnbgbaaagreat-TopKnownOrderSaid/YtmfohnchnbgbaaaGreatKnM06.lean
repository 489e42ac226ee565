/- Part 6 of the proof. -/
import Derived.Deep.RegionWith
import Derived.Laws.EntriesVeiled
import Derived.Deep.RegionLaw
import Derived.Deep.RegionHeld3
import Derived.Deep.CutRange
import Derived.Test.YtmfohnchnbgbaaaGreatRows
import Derived.Lib.Strings
import Derived.Lib.Slices
import Derived.Lib.Small
import Derived.Lib.Walk
import Derived.Lib.BitFns
import Derived.Shelf.Bits.Mul64
import Derived.Test.YtmfohnchnbgbaaaGreatKnM01
import Derived.Test.YtmfohnchnbgbaaaGreatKnM02
import Derived.Test.YtmfohnchnbgbaaaGreatKnM03
import Derived.Test.YtmfohnchnbgbaaaGreatKnM05
/- Versions and tariffs: how they lie; whether numbers may be factors. -/
namespace Go.Proofs.YtmfohnchnbgbaaaGreat
open Go.ChangeShapes Go.WideShapes Go.ChangeAt Go.RowKit

/-- A version, where it lies. -/
structure Vw where
  f : Int
  b0 : Int
  b1 : Int
  b2 : Int
  b3 : Int
  aA : Option Addr
  age : List Bd
  aC : Nat
  zA : Option Addr
  zone : List Int
  zC : Nat
  pA : Option Addr
  peril : List Int
  pC : Nat
  mn : Int
def encV (v : Vw) : List Value := [.int .i64 v.f, .int .i64 v.b0, .int .i64 v.b1, .int .i64 v.b2, .int .i64 v.b3, .slice v.aA v.age.length v.aC, .slice v.zA v.zone.length v.zC, .slice v.pA v.peril.length v.pC, .int .i64 v.mn]
/-- A version. -/
structure Ver where
  f : Int
  b0 : Int
  b1 : Int
  b2 : Int
  b3 : Int
  age : List Bd
  zone : List Int
  peril : List Int
  mn : Int
def Vw.v (x : Vw) : Ver := ⟨x.f, x.b0, x.b1, x.b2, x.b3, x.age, x.zone, x.peril, x.mn⟩
structure VOK (w : World) (v : Vw) : Prop where
  age : SV w 2 v.aA v.age.length v.aC (v.age.map encBd)
  zone : SV w 1 v.zA v.zone.length v.zC (v.zone.map encI)
  peril : SV w 1 v.pA v.peril.length v.pC (v.peril.map encI)
theorem VOK.below {w w' : World} {v : Vw} (h : VOK w v) (hb : Below w.heap.size w w') : VOK w' v := ⟨h.age.below hb, h.zone.below hb, h.peril.below hb⟩
/-- A slice of versions. -/
structure TV (w : World) (A : Option Addr) (n cap : Nat) (M : List Vw) : Prop where
  sv : SV w 9 A n cap (M.map encV)
  rows : ∀ v ∈ M, VOK w v
theorem TV.below {w w' : World} {A : Option Addr} {n cap : Nat} {M : List Vw} (h : TV w A n cap M) (hb : Below w.heap.size w w') : TV w' A n cap M := ⟨h.sv.below hb, fun v hv => (h.rows v hv).below hb⟩
theorem TV.len {w : World} {A : Option Addr} {n cap : Nat} {M : List Vw} (h : TV w A n cap M) : M.length = n := by have := h.sv.len; simpa using this
def allV (M : List Vw) : List Ver := M.map Vw.v

theorem cells_band : Tryz.prog.cellsOf 192 = 2 := by kernel_rfl
theorem cells_ver : Tryz.prog.cellsOf 83 = 9 := by kernel_rfl
theorem cells_tar : Tryz.prog.cellsOf 68 = 1 := by kernel_rfl
theorem leaves_band : leaves Tryz.prog 2 192 = some [.int .i64, .int .i64] := by kernel_rfl
theorem leaves_ver : leaves Tryz.prog 3 83 = some [.int .i64, .int .i64, .int .i64, .int .i64, .int .i64, .slice 192, .slice 3, .slice 3, .int .i64] := by kernel_rfl
theorem leaves_tar : leaves Tryz.prog 2 68 = some [.slice 83] := by kernel_rfl
def okVw (v : Vw) : Prop := ok64 v.f ∧ ok64 v.mn
section
variable {H : Type} {enc : TypeId × Value → H} {W : World} {r : Reach} {b0 : Nat} {v : Value} {d : DataW H} {p : List MemPlace}
theorem rows_ints_Tar (h : LeafOk enc Tryz.prog W (.slice 3) v) : ∃ (A : Option Addr) (l : List Int) (cap : Nat), v = .slice A l.length cap ∧ SV W 1 A l.length cap (l.map encI) := by
  obtain ⟨A, l, cap, hv, h1, h2, h3, _, h5⟩ := rows_of enc Tryz.prog W (α := Int) 1 1 encI ok64 leaves_int cells_int rfl (by omega) (fun cs hl => by
    obtain ⟨n1, l1, rfl, w1, h1⟩ := leaf_int enc _ _ hl
    obtain rfl := allLeaf_nil enc _ _ h1
    exact ⟨n1, rfl, wf64 w1⟩) h
  exact ⟨A, l, cap, hv, ⟨h3, List.length_map _, h1, h2, h5⟩⟩
theorem rows_bands (h : LeafOk enc Tryz.prog W (.slice 192) v) : ∃ (A : Option Addr) (l : List Bd) (cap : Nat), v = .slice A l.length cap ∧ SV W 2 A l.length cap (l.map encBd) := by
  obtain ⟨A, l, cap, hv, h1, h2, h3, _, h5⟩ := rows_of enc Tryz.prog W (α := Bd) 2 2 encBd (fun _ => True) leaves_band cells_band rfl (by omega) (fun cs hl => by
    obtain ⟨n1, l1, rfl, w1, h1⟩ := leaf_int enc _ _ hl
    obtain ⟨n2, l2, rfl, w2, h2⟩ := leaf_int enc _ _ h1
    obtain rfl := allLeaf_nil enc _ _ h2
    exact ⟨(n1, n2), rfl, trivial⟩) h
  exact ⟨A, l, cap, hv, ⟨h3, List.length_map _, h1, h2, h5⟩⟩
theorem ver_leaf {cs : List Value} (hl : AllLeaf enc Tryz.prog W [.int .i64, .int .i64, .int .i64, .int .i64, .int .i64, .slice 192, .slice 3, .slice 3, .int .i64] cs) : ∃ v : Vw, cs = encV v ∧ VOK W v ∧ okVw v := by
  obtain ⟨f, l1, rfl, wf, h1⟩ := leaf_int enc _ _ hl
  obtain ⟨b0, l2, rfl, _, h2⟩ := leaf_int enc _ _ h1
  obtain ⟨b1, l3, rfl, _, h3⟩ := leaf_int enc _ _ h2
  obtain ⟨b2, l4, rfl, _, h4⟩ := leaf_int enc _ _ h3
  obtain ⟨b3, l5, rfl, _, h5⟩ := leaf_int enc _ _ h4
  obtain ⟨va, l6, rfl, ka, h6⟩ := allLeaf_cons enc _ _ h5
  obtain ⟨vz, l7, rfl, kz, h7⟩ := allLeaf_cons enc _ _ h6
  obtain ⟨vp, l8, rfl, kp, h8⟩ := allLeaf_cons enc _ _ h7
  obtain ⟨mn, l9, rfl, wm, h9⟩ := leaf_int enc _ _ h8
  obtain rfl := allLeaf_nil enc _ _ h9
  obtain ⟨aA, age, aC, rfl, ha⟩ := rows_bands ka
  obtain ⟨zA, zone, zC, rfl, hz⟩ := rows_ints_Tar kz
  obtain ⟨pA, peril, pC, rfl, hp⟩ := rows_ints_Tar kp
  exact ⟨⟨f, b0, b1, b2, b3, aA, age, aC, zA, zone, zC, pA, peril, pC, mn⟩, rfl, ⟨ha, hz, hp⟩, wf64 wf, wf64 wm⟩
set_option maxRecDepth 100000 in
theorem open_version (hv : Value.okWide Tryz.prog W r b0 83 v) (h : DataW.Trod enc Tryz.prog W 0 (fun _ => true) true 83 v d p) :
    ∃ x : Vw, v = .agg #[.int .i64 x.f, .int .i64 x.b0, .int .i64 x.b1, .int .i64 x.b2, .int .i64 x.b3, .slice x.aA x.age.length x.aC, .slice x.zA x.zone.length x.zC, .slice x.pA x.peril.length x.pC, .int .i64 x.mn] ∧ VOK W x ∧ okVw x := by
  obtain ⟨l, rfl, hl⟩ := top_agg enc Tryz.prog W 3 Tryz.underlying83 leaves_ver cells_ver hv h
  obtain ⟨x, rfl, h1, h2⟩ := ver_leaf hl
  exact ⟨x, rfl, h1, h2⟩
set_option maxRecDepth 100000 in
theorem open_tariff (hv : Value.okWide Tryz.prog W r b0 68 v) (h : DataW.Trod enc Tryz.prog W 0 (fun _ => true) true 68 v d p) :
    ∃ (A : Option Addr) (M : List Vw) (cap : Nat), v = .agg #[.slice A M.length cap] ∧ TV W A M.length cap M ∧ ∀ x ∈ M, okVw x := by
  obtain ⟨l, rfl, hl⟩ := top_agg enc Tryz.prog W 2 Tryz.underlying68 leaves_tar cells_tar hv h
  obtain ⟨v1, l1, rfl, k1, h1⟩ := allLeaf_cons enc _ _ hl
  obtain rfl := allLeaf_nil enc _ _ h1
  obtain ⟨A, M, cap, rfl, g1, g2, g3, g4, g5⟩ := rows_of enc Tryz.prog W (α := Vw) 3 9 encV (fun v => VOK W v ∧ okVw v) leaves_ver cells_ver rfl (by omega) (fun cs hl => by
    obtain ⟨x, rfl, h1, h2⟩ := ver_leaf hl
    exact ⟨x, rfl, h1, h2⟩) k1
  exact ⟨A, M, cap, rfl, ⟨⟨g3, List.length_map _, g1, g2, g5⟩, fun v hv => (g4 v hv).1⟩, fun v hv => (g4 v hv).2⟩
end

/-! ### Factors -/
def facB (l : List Int) : Bool := l.all fun x => decide (0 ≤ x ∧ x ≤ 100000)
theorem fac1_any (x : Int) (w : World) : Calls Tryz.prog 194 #[.int .i64 x] w fun e w' => e = .returned (.bool (!decide (0 ≤ x ∧ x ≤ 100000))) ∧ w = w' := by
  go_enter Tryz.func194, Tryz.ntmps194
  go_wp2
  all_goals
    go_ret
    exact ⟨ret_bool (by rw [Bool.eq_iff_iff]; simp <;> omega), rfl⟩
theorem facB_take {l : List Int} {k : Nat} {x : Int} (h : l[k]? = some x) : facB (l.take (k + 1)) = (facB (l.take k) && decide (0 ≤ x ∧ x ≤ 100000)) := by rw [take_of h]; simp [facB]
theorem facB_no {l : List Int} {k : Nat} {x : Int} (h : l[k]? = some x) (hx : ¬(0 ≤ x ∧ x ≤ 100000)) : facB l = false := by
  rw [facB, List.all_eq_false]
  exact ⟨x, List.mem_of_getElem? h, by simpa using hx⟩
set_option maxHeartbeats 1000000 in
theorem idx_any (A : Option Addr) (cap : Nat) (l : List Int) (w : World) (hs : SV w 1 A l.length cap (l.map encI)) :
    Calls Tryz.prog 207 #[.slice A l.length cap, .func (.func 194) #[] #[]] w fun e w' => (∃ i : Int, e = .returned (.int .i64 i) ∧ (decide (0 ≤ i) = !facB l)) ∧ w = w' := by
  have HS := hide hs
  have hmx := hs.le
  have hmy := hs.most
  unfold maxLen at hmy
  clear hs
  go_enter Tryz.func207, Tryz.ntmps207
  go_wp2_with fail
  go_loop [8] (fun i => ∃ k : Nat, k ≤ l.length ∧ i = .int .i64 k ∧ facB (l.take k) = true) (fun i => l.length - (intOf i).toNat)
  case atStart => exact ⟨0, Nat.zero_le _, rfl, rfl⟩
  case round =>
    obtain ⟨k, hk, rfl, hok⟩ := hrel
    have HOK := hide hok
    clear hok
    by_cases hlt : k < l.length
    · obtain ⟨x, hx⟩ := get_of hlt
      obtain ⟨bb, off, rfl, hbl, hc⟩ := HS.out.sl.i hx
      have hk0 : (0 : Int) ≤ (k : Int) := by omega
      have hk1 : (k : Int) < (l.length : Int) := by omega
      have HX := hide hx
      clear hx
      go_wp2_with fail
      refine (fac1_any x _).mono ?_
      rintro e w' ⟨rfl, rfl⟩
      by_cases hg : 0 ≤ x ∧ x ≤ 100000
      · have hd : decide (0 ≤ x ∧ x ≤ 100000) = true := by simp; omega
        have HT := hide (show facB (l.take (k + 1)) = true by rw [facB_take HX.out, HOK.out, hd]; rfl)
        rw [hd]
        clear hd hg
        go_wp2_with fail
        go_round
        case rel => exact ⟨k + 1, by omega, by go_num, HT.out⟩
        case measure => simp [intOf]; omega
      · have hd : decide (0 ≤ x ∧ x ≤ 100000) = false := by simp; omega
        have HT := hide (facB_no HX.out hg)
        rw [hd]
        clear hd hg
        go_wp2_with fail
        go_ret
        exact ⟨⟨k, rfl, by rw [HT.out]; simp⟩, rfl⟩
    · obtain rfl : k = l.length := by omega
      rw [List.take_length] at HOK
      go_wp2_with fail
      go_ret
      exact ⟨⟨-1, rfl, by rw [HOK.out]; rfl⟩, rfl⟩
theorem cont_any (A : Option Addr) (cap : Nat) (l : List Int) (w : World) (hs : SV w 1 A l.length cap (l.map encI)) :
    Calls Tryz.prog 193 #[.slice A l.length cap, .func (.func 194) #[] #[]] w fun e w' => e = .returned (.bool (!facB l)) ∧ w = w' := by
  have HS := hide hs
  clear hs
  go_enter Tryz.func193, Tryz.ntmps193
  go_wp2_with fail
  refine (idx_any A cap l _ HS.out).mono ?_
  rintro e w1 ⟨⟨i, rfl, hi⟩, rfl⟩
  have HI := hide hi
  clear hi
  go_wp2_with fail
  go_ret
  exact ⟨ret_bool HI.out, rfl⟩
theorem factors_any (A : Option Addr) (cap n : Nat) (l : List Int) (w : World) (hs : SV w 1 A n cap (l.map encI)) :
    Calls Tryz.prog 156 #[.slice A n cap] w fun e w' => e = .returned (.bool (facB l)) ∧ w = w' := by
  have hn : l.length = n := by have := hs.len; simpa using this
  subst hn
  have HS := hide hs
  clear hs
  go_enter Tryz.func156, Tryz.ntmps156
  go_wp2_with fail
  refine (cont_any A cap l _ HS.out).mono ?_
  rintro e w1 ⟨rfl, rfl⟩
  go_wp2_with fail
  go_ret
  exact ⟨ret_bool (by simp), rfl⟩
end Go.Proofs.YtmfohnchnbgbaaaGreat

/- Whether a version may be: the program's and the document's answer. -/
namespace Go.Proofs.YtmfohnchnbgbaaaGreat
open Go.RowKit

def numsB (v : Ver) : Bool := decide (1 ≤ v.f ∧ v.f ≤ 292194 ∧ 0 ≤ v.mn ∧ v.mn ≤ 1000000000000000)
def lensB (v : Ver) : Bool := decide (v.age.length ≤ 100 ∧ 1 ≤ v.zone.length ∧ v.zone.length ≤ 100 ∧ v.peril.length = 8)
theorem numsB_iff (x : Vw) : numsB x.v = true ↔ (1 ≤ x.f ∧ x.f ≤ 292194 ∧ 0 ≤ x.mn ∧ x.mn ≤ 1000000000000000) := by unfold numsB; exact decide_eq_true_iff
theorem lensB_iff (x : Vw) : lensB x.v = true ↔ (x.age.length ≤ 100 ∧ 1 ≤ x.zone.length ∧ x.zone.length ≤ 100 ∧ x.peril.length = 8) := by unfold lensB; exact decide_eq_true_iff
/-- Whether a version may be. -/
def versionB (v : Ver) : Bool := numsB v && (lensB v && (facB [v.b0, v.b1, v.b2, v.b3] && (facB v.zone && (facB v.peril && bandsB v.age))))
def boxV (x : Vw) : Array Value := #[.int .i64 x.f, .int .i64 x.b0, .int .i64 x.b1, .int .i64 x.b2, .int .i64 x.b3, .slice x.aA x.age.length x.aC, .slice x.zA x.zone.length x.zC, .slice x.pA x.peril.length x.pC, .int .i64 x.mn]
theorem base_sv {w : World} {g : Nat} {x : Vw} (h : Blk w g 83 (boxV x)) : SV w 1 (some ⟨g, 1, none⟩) 4 4 ([x.b0, x.b1, x.b2, x.b3].map encI) := by
  refine ⟨fun i row hr => ⟨g, 1, rfl, h.lt, fun j u hu => ?_⟩, rfl, Nat.le_refl _, by simp [maxLen], fun h => by cases h⟩
  have hi := lt_of_get hr
  simp at hi
  rw [List.getElem?_map] at hr
  obtain ⟨n, hn, rfl⟩ := Option.map_eq_some_iff.1 hr
  have : j = 0 := by have := lt_of_get hu; simp [encI] at this; exact this
  subst this
  simp [encI] at hu; subst hu
  rw [h.cell]
  rcases (show i = 0 ∨ i = 1 ∨ i = 2 ∨ i = 3 by omega) with rfl | rfl | rfl | rfl <;> (simp at hn; subst hn; rfl)

set_option maxRecDepth 100000 in
set_option maxHeartbeats 4000000 in
theorem version_any (x : Vw) (w : World) (hs : VOK w x) :
    Calls Tryz.prog 96 #[.agg #[.int .i64 x.f, .int .i64 x.b0, .int .i64 x.b1, .int .i64 x.b2, .int .i64 x.b3, .slice x.aA x.age.length x.aC, .slice x.zA x.zone.length x.zC, .slice x.pA x.peril.length x.pC, .int .i64 x.mn]] w
      fun e w' => e = .returned (.bool (versionB x.v)) ∧ Below w.heap.size w w' := by
  have HS := hide hs
  clear hs
  have hw1 : ∃ W, w.alloc (.cells (boxV x) 83) = W := ⟨_, rfl⟩
  obtain ⟨w1, hw1⟩ := hw1
  have hB : Blk w1 w.heap.size 83 (boxV x) := by rw [← hw1]; exact Blk.new _ _ _
  have hb1 : Below w.heap.size w w1 := by rw [← hw1]; exact (Below.refl _ _).alloc (Nat.le_refl _) _
  have HB := hide hB
  have H1 := hide hb1
  have HW := hide hw1
  clear hB hb1 hw1
  by_cases hn : numsB x.v = true
  case neg =>
    have HV := hide (show versionB x.v = false by rw [versionB, Bool.eq_false_iff.2 hn]; rfl)
    rw [numsB_iff] at hn
    rcases (show x.f < 1 ∨ (1 ≤ x.f ∧ 292194 < x.f) ∨ (1 ≤ x.f ∧ x.f ≤ 292194 ∧ x.mn < 0) ∨ (1 ≤ x.f ∧ x.f ≤ 292194 ∧ 0 ≤ x.mn ∧ 1000000000000000 < x.mn) by omega) with g | ⟨g, g2⟩ | ⟨g, g2, g3⟩ | ⟨g, g2, g3, g4⟩
    all_goals
      clear hn
      go_enter Tryz.func96, Tryz.ntmps96
      go_wp2_with fail
      go_ret
      exact ⟨ret_bool HV.out.symm, (Below.refl _ _).alloc (Nat.le_refl _) _⟩
  have HN := hide hn
  rw [numsB_iff] at hn
  obtain ⟨n1, n2, n3, n4⟩ := hn
  by_cases hl : lensB x.v = true
  case neg =>
    have HV := hide (show versionB x.v = false by rw [versionB, HN.out, Bool.eq_false_iff.2 hl]; rfl)
    rw [lensB_iff] at hl
    rcases (show 100 < x.age.length ∨ (x.age.length ≤ 100 ∧ x.zone.length < 1) ∨ (x.age.length ≤ 100 ∧ 1 ≤ x.zone.length ∧ 100 < x.zone.length) ∨ (x.age.length ≤ 100 ∧ 1 ≤ x.zone.length ∧ x.zone.length ≤ 100 ∧ x.peril.length ≠ 8) by omega) with g | ⟨g, g2⟩ | ⟨g, g2, g3⟩ | ⟨g, g2, g3, g4⟩
    all_goals
      clear hl
      try (have g5 : ((x.peril.length : Int) != 8) = true := by simp; omega)
      try clear g4
      go_enter Tryz.func96, Tryz.ntmps96
      go_wp2_with fail
      go_ret
      exact ⟨ret_bool HV.out.symm, (Below.refl _ _).alloc (Nat.le_refl _) _⟩
  have HL := hide hl
  rw [lensB_iff] at hl
  obtain ⟨l1, l2, l3, l4⟩ := hl
  have l4' : ((x.peril.length : Int) != 8) = false := by simp; omega
  have HL4 := hide l4
  clear l4
  go_enter Tryz.func96, Tryz.ntmps96
  go_upto_region 5 with fail
  rw [show w.alloc (.cells #[.int .i64 x.f, .int .i64 x.b0, .int .i64 x.b1, .int .i64 x.b2, .int .i64 x.b3, .slice x.aA x.age.length x.aC, .slice x.zA x.zone.length x.zC, .slice x.pA x.peril.length x.pC, .int .i64 x.mn] 83) = w1 from HW.out]
  have c5 := HB.out.cell 5
  have c6 := HB.out.cell 6
  have c7 := HB.out.cell 7
  have cl := HB.out.lt
  simp [boxV] at c5 c6 c7
  have HS1 := hide (HS.out.below H1.out)
  go_wp2_with fail
  refine (factors_any _ _ 4 [x.b0, x.b1, x.b2, x.b3] _ (base_sv HB.out)).mono ?_
  rintro e w2 ⟨rfl, rfl⟩
  cases h1 : facB [x.b0, x.b1, x.b2, x.b3]
  · have HV := hide (show versionB x.v = false by rw [versionB, HN.out, HL.out, show facB [x.v.b0, x.v.b1, x.v.b2, x.v.b3] = false from h1]; rfl)
    clear h1
    go_wp2_with fail
    go_ret
    exact ⟨ret_bool HV.out.symm, H1.out⟩
  have K1 := hide h1
  clear h1
  go_wp2_with fail
  refine (factors_any _ _ _ x.zone _ HS1.out.zone).mono ?_
  rintro e w2 ⟨rfl, rfl⟩
  cases h2 : facB x.zone
  · have HV := hide (show versionB x.v = false by rw [versionB, HN.out, HL.out, show facB [x.v.b0, x.v.b1, x.v.b2, x.v.b3] = true from K1.out, show facB x.v.zone = false from h2]; rfl)
    clear h2
    go_wp2_with fail
    go_ret
    exact ⟨ret_bool HV.out.symm, H1.out⟩
  have K2 := hide h2
  clear h2
  go_wp2_with fail
  refine (factors_any _ _ _ x.peril _ HS1.out.peril).mono ?_
  rintro e w2 ⟨rfl, rfl⟩
  cases h3 : facB x.peril
  · have HV := hide (show versionB x.v = false by rw [versionB, HN.out, HL.out, show facB [x.v.b0, x.v.b1, x.v.b2, x.v.b3] = true from K1.out, show facB x.v.zone = true from K2.out, show facB x.v.peril = false from h3]; rfl)
    clear h3
    go_wp2_with fail
    go_ret
    exact ⟨ret_bool HV.out.symm, H1.out⟩
  have K3 := hide h3
  clear h3
  go_wp2_with fail
  refine (bands_any x.aA x.aC x.age _ HS1.out.age.sl (by omega)).mono ?_
  rintro e w2 ⟨rfl, hb2⟩
  have HV := hide (show versionB x.v = bandsB x.age by rw [versionB, HN.out, HL.out, show facB [x.v.b0, x.v.b1, x.v.b2, x.v.b3] = true from K1.out, show facB x.v.zone = true from K2.out, show facB x.v.peril = true from K3.out]; rfl)
  go_wp2_with fail
  go_ret
  exact ⟨ret_bool HV.out.symm, chain H1.out hb2⟩
end Go.Proofs.YtmfohnchnbgbaaaGreat

/- Bits: the length of a number, its leading zeros, a product of two words. (The first two were filled out of the shelf's templates.) -/
namespace Go.Proofs.YtmfohnchnbgbaaaGreat
open Go.RowKit

theorem tab_at (i : Int) (h0 : 0 ≤ i) (h1 : i ≤ 255) {h : i.toNat < Go.Lib.len8tab.size} : (((Go.Lib.len8tab[i.toNat]'h).toNat : Nat) : Int) = (Go.Lib.bitLen i.toNat : Int) := by
  rw [← Go.Lib.len8_of i h0 h1, Go.Lib.len8, getElem?_pos Go.Lib.len8tab i.toNat h]
  rfl
theorem wrap_small {n : Int} (h0 : 0 ≤ n) (h1 : n ≤ 100) : wrap64 n = n := by unfold wrap64; omega
theorem len_fin {x c k : Nat} {i : Int} {h : i.toNat < Go.Lib.len8tab.size} (h0 : 0 ≤ i) (h1 : i ≤ 255) (hc : c ≤ 56) (hi : i.toNat = k) (hs : Go.Lib.bitLen x = c + Go.Lib.bitLen k) : wrap64 ((c : Int) + wrap64 (((Go.Lib.len8tab[i.toNat]'h).toNat : Nat) : Int)) = (Go.Lib.bitLen x : Int) := by
  have l := Go.Lib.bitLen_le8' i h0 h1
  rw [tab_at i h0 h1, hs, ← hi]
  rw [wrap_small (n := (Go.Lib.bitLen i.toNat : Int)) (by omega) (by omega), wrap_small (by omega) (by omega)]
  omega
theorem len_fin0 {i : Int} {h : i.toNat < Go.Lib.len8tab.size} (h0 : 0 ≤ i) (h1 : i ≤ 255) : wrap64 (wrap64 (((Go.Lib.len8tab[i.toNat]'h).toNat : Nat) : Int)) = (Go.Lib.bitLen i.toNat : Int) := by
  have l := Go.Lib.bitLen_le8' i h0 h1
  rw [tab_at i h0 h1, wrap_small (n := (Go.Lib.bitLen i.toNat : Int)) (by omega) (by omega), wrap_small (by omega) (by omega)]
set_option maxHeartbeats 1000000 in
set_option maxRecDepth 100000 in
theorem len64_any (x : Int) (w : World) (h0 : 0 ≤ x) (h1 : x ≤ 18446744073709551615) :
    Calls Tryz.prog 195 #[.int .u64 x] w fun e w' => e = .returned (.int .i64 (Go.Lib.bitLen x.toNat)) ∧ w' = w := by
  have hsz : ((Go.Lib.len8tab.size : Nat) : Int) = 256 := by rw [Go.Lib.len8tab_size]; rfl
  go_enter Tryz.func195, Tryz.ntmps195
  go_wp2
  all_goals (go_ret; refine ⟨congrArg Ending.returned (congrArg (Value.int IntKind.i64) ?_), rfl⟩)
  · exact len_fin (c := 56) (k := x.toNat / 72057594037927936) (by omega) (by omega) (by omega) (by omega) (Go.Lib.bitLen_shift56 x.toNat (by omega) (by omega))
  · exact len_fin (c := 48) (k := x.toNat / 281474976710656) (by omega) (by omega) (by omega) (by omega) (Go.Lib.bitLen_shift48 x.toNat (by omega) (by omega))
  · exact len_fin (c := 40) (k := x.toNat / 1099511627776) (by omega) (by omega) (by omega) (by omega) (Go.Lib.bitLen_shift40 x.toNat (by omega) (by omega))
  · exact len_fin (c := 32) (k := x.toNat / 4294967296) (by omega) (by omega) (by omega) (by omega) (Go.Lib.bitLen_shift32 x.toNat (by omega) (by omega))
  · exact len_fin (c := 24) (k := x.toNat / 16777216) (by omega) (by omega) (by omega) (by omega) (Go.Lib.bitLen_shift24 x.toNat (by omega) (by omega))
  · exact len_fin (c := 16) (k := x.toNat / 65536) (by omega) (by omega) (by omega) (by omega) (Go.Lib.bitLen_shift16 x.toNat (by omega) (by omega))
  · exact len_fin (c := 8) (k := x.toNat / 256) (by omega) (by omega) (by omega) (by omega) (Go.Lib.bitLen_shift8 x.toNat (by omega) (by omega))
  · exact len_fin0 (by omega) (by omega)

theorem bitLen_le64 (x : Int) (h0 : 0 ≤ x) (h1 : x ≤ 18446744073709551615) : Go.Lib.bitLen x.toNat ≤ 64 := Go.Lib.bitLen_le x.toNat 64 (by omega) (by omega)

theorem lz64_any (x : Int) (w : World) (h0 : 0 ≤ x) (h1 : x ≤ 18446744073709551615) :
    Calls Tryz.prog 158 #[.int .u64 x] w fun e w' => e = .returned (.int .i64 (64 - (Go.Lib.bitLen x.toNat : Int))) ∧ w' = w := by
  have l := bitLen_le64 x h0 h1
  have e8 : (64 - (Go.Lib.bitLen x.toNat : Int) + 9223372036854775808) % 18446744073709551616 - 9223372036854775808 = 64 - (Go.Lib.bitLen x.toNat : Int) := by omega
  go_enter Tryz.func158, Tryz.ntmps158
  go_wp2_with (go_at_call 195; refine (len64_any x _ h0 h1).mono ?_; rintro e w' ⟨rfl, rfl⟩)
  go_ret
  refine ⟨?_, rfl⟩
  rw [← e8]
  rfl


set_option maxHeartbeats 1000000 in
theorem mul64_any (x y : Nat) (hx : x < 18446744073709551616) (hy : y < 18446744073709551616) (w : World) :
    Calls Tryz.prog 100 #[.int .u64 x, .int .u64 y] w fun e w' => e = .returned (.tuple #[.int .u64 ((x * y / 18446744073709551616 : Nat) : Int), .int .u64 ((x * y % 18446744073709551616 : Nat) : Int)]) ∧ w' = w := by
  obtain ⟨g1, g2, g3, g4⟩ := Go.Lib.mul64_hi x y hx hy
  have a1 := Go.Lib.half_mul_le (a := x / 4294967296) (b := y / 4294967296) (by omega) (by omega)
  have a2 := Go.Lib.half_mul_le (a := x / 4294967296) (b := y % 4294967296) (by omega) (by omega)
  have a3 := Go.Lib.half_mul_le (a := x % 4294967296) (b := y / 4294967296) (by omega) (by omega)
  have b1 : x / 4294967296 * (y / 4294967296) < 18446744073709551616 := by omega
  have b2 : x / 4294967296 * (y % 4294967296) < 18446744073709551616 := by omega
  have b3 : x % 4294967296 * (y / 4294967296) < 18446744073709551616 := by omega
  have hq : x * y / 18446744073709551616 < 18446744073709551616 := by
    refine Nat.div_lt_of_lt_mul ?_
    exact Nat.mul_lt_mul'' hx hy
  have h8 : x / 4294967296 * (y / 4294967296) + (x / 4294967296 * (y % 4294967296) + x % 4294967296 * (y % 4294967296) / 4294967296) / 4294967296 + ((x / 4294967296 * (y % 4294967296) + x % 4294967296 * (y % 4294967296) / 4294967296) % 4294967296 + x % 4294967296 * (y / 4294967296)) / 4294967296 < 18446744073709551616 := by rw [g4]; exact hq
  have h9 : x / 4294967296 * (y / 4294967296) + (x / 4294967296 * (y % 4294967296) + x % 4294967296 * (y % 4294967296) / 4294967296) / 4294967296 < 18446744073709551616 := Nat.lt_of_le_of_lt (Nat.le_add_right _ _) h8
  go_enter Tryz.func100, Tryz.ntmps100
  go_wp2
  simp only [Mul64.maskN x hx, Mul64.maskN y hy, Mul64.divN, Mul64.mulN, Mul64.addN, Mul64.wrapN _ g1, Mul64.wrapN _ b2, Mul64.wrapN _ g2, Mul64.maskN _ g2, Mul64.wrapN _ b3, Mul64.wrapN _ g3, Mul64.wrapN _ b1, Mul64.wrapN _ h9, Mul64.wrapN _ h8, Mul64.wrapM (x * y)]
  rw [g4]
  go_ret2
  exact ⟨rfl, rfl⟩

theorem bitLen_spec : ∀ (x : Nat), x ≠ 0 → x < 2 ^ 64 → 2 ^ (Go.Lib.bitLen x - 1) ≤ x ∧ x < 2 ^ Go.Lib.bitLen x ∧ 1 ≤ Go.Lib.bitLen x := by
  intro x
  induction x using Nat.strongRecOn with
  | _ x ih =>
    intro h0 h
    rw [Go.Lib.bitLen_half x h0 h]
    rcases Nat.eq_zero_or_pos (x / 2) with h2 | h2
    · rw [h2]
      have : x = 1 := by omega
      subst this
      decide
    · obtain ⟨i1, i2, i3⟩ := ih (x / 2) (by omega) (by omega) (by omega)
      obtain ⟨n, hn⟩ : ∃ n, Go.Lib.bitLen (x / 2) = n + 1 := ⟨Go.Lib.bitLen (x / 2) - 1, by omega⟩
      rw [hn] at i1 i2 ⊢
      have e1 : 1 + (n + 1) - 1 = n + 1 := by omega
      rw [e1]
      rw [Nat.add_sub_cancel] at i1
      refine ⟨?_, ?_, by omega⟩
      · rw [Nat.pow_succ]; omega
      · rw [Nat.add_comm 1, Nat.pow_succ 2 (n + 1)]; omega
/-- A number moved up as far as it goes. -/
theorem shift_up {y : Nat} (h0 : y ≠ 0) (h : y < 2 ^ 64) : 9223372036854775808 ≤ y * 2 ^ (64 - Go.Lib.bitLen y) ∧ y * 2 ^ (64 - Go.Lib.bitLen y) < 18446744073709551616 := by
  obtain ⟨h1, h2, h3⟩ := bitLen_spec y h0 h
  have h4 : Go.Lib.bitLen y ≤ 64 := Go.Lib.bitLen_le y 64 (by omega) h
  have hp : 0 < 2 ^ (64 - Go.Lib.bitLen y) := Nat.two_pow_pos _
  constructor
  · have := Nat.mul_le_mul_right (2 ^ (64 - Go.Lib.bitLen y)) h1
    rw [← Nat.pow_add, show Go.Lib.bitLen y - 1 + (64 - Go.Lib.bitLen y) = 63 by omega] at this
    exact this
  · have := Nat.mul_lt_mul_of_pos_right h2 hp
    rw [← Nat.pow_add, show Go.Lib.bitLen y + (64 - Go.Lib.bitLen y) = 64 by omega] at this
    exact this
end Go.Proofs.YtmfohnchnbgbaaaGreat
