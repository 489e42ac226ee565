/- Whether a version, and a tariff, may be: the document's Version; the program's Right. -/
import Derived.Test.YtaboachegclaiaaTarB
namespace Go.Proofs.Ytaboachegclaiaa
open Go.RowKit

set_option maxRecDepth 100000 in
set_option maxHeartbeats 4000000 in
theorem versionR_any (x : Vw) (w : World) (hs : VOK w x) :
    Calls Try.prog 11 #[.agg #[.int .i64 x.f, .int .i64 x.b0, .int .i64 x.b1, .int .i64 x.b2, .int .i64 x.b3, .slice x.aA x.age.length x.aC, .slice x.zA x.zone.length x.zC, .slice x.pA x.peril.length x.pC, .int .i64 x.mn]] w
      fun e w' => e = .returned (.bool (versionB x.v)) ∧ Below w.heap.size w w' := by
  have HS := hide hs
  clear hs
  have hw1 : ∃ W, w.alloc (.cells (boxV x) 26) = W := ⟨_, rfl⟩
  obtain ⟨w1, hw1⟩ := hw1
  have hB : Blk w1 w.heap.size 26 (boxV x) := by rw [← hw1]; exact Blk.new _ _ _
  have hb1 : Below w.heap.size w w1 := by rw [← hw1]; exact (Below.refl _ _).alloc (Nat.le_refl _) _
  have HB := hide hB
  have H1 := hide hb1
  have HW := hide hw1
  have HS1 := hide (HS.out.below hb1)
  clear hB hb1 hw1
  go_enter Try.func11, Try.ntmps11
  go_wp2_with fail
  rw [show w.alloc (.cells #[.int .i64 x.f, .int .i64 x.b0, .int .i64 x.b1, .int .i64 x.b2, .int .i64 x.b3, .slice x.aA x.age.length x.aC, .slice x.zA x.zone.length x.zC, .slice x.pA x.peril.length x.pC, .int .i64 x.mn] 26) = w1 from HW.out]
  have c0 := HB.out.cell 0
  have c1 := HB.out.cell 1
  have c2 := HB.out.cell 2
  have c3 := HB.out.cell 3
  have c4 := HB.out.cell 4
  have c5 := HB.out.cell 5
  have c6 := HB.out.cell 6
  have c7 := HB.out.cell 7
  have c8 := HB.out.cell 8
  simp [boxV] at c0 c1 c2 c3 c4 c5 c6 c7 c8
  go_loop [3] (fun i => ∃ k : Nat, k ≤ 4 ∧ i = .int .i64 k ∧ facB ([x.b0, x.b1, x.b2, x.b3].take k) = true) (fun i => 4 - (intOf i).toNat)
  case atStart => exact ⟨0, by omega, rfl, rfl⟩
  case round =>
    obtain ⟨k, hk, rfl, hok⟩ := hrel
    have HOK := hide hok
    clear hok
    by_cases hlt : k < 4
    · obtain ⟨n, hn⟩ := get_of (l := [x.b0, x.b1, x.b2, x.b3]) (k := k) (by simpa using hlt)
      have cn : w1.cell? ⟨w.heap.size, 1 + k, none⟩ = some (.int .i64 n) := by
        rw [HB.out.cell]
        rcases (show k = 0 ∨ k = 1 ∨ k = 2 ∨ k = 3 by omega) with rfl | rfl | rfl | rfl <;> (simp at hn; subst hn; rfl)
      have hk0 : (0 : Int) ≤ (k : Int) := by omega
      have hk1 : (k : Int) < 4 := by omega
      have HX := hide hn
      clear hn c1 c2 c3 c4
      rcases (show n < 0 ∨ (0 ≤ n ∧ 100000 < n) ∨ (0 ≤ n ∧ n ≤ 100000) by omega) with hg | ⟨hg, hg'⟩ | ⟨hg, hg'⟩
      · have HT := hide (show versionB x.v = false by rw [versionB, show facB [x.v.b0, x.v.b1, x.v.b2, x.v.b3] = false from facB_no HX.out (by omega)]; simp)
        go_wp2_with fail
        go_ret
        exact ⟨ret_bool HT.out.symm, H1.out⟩
      · have HT := hide (show versionB x.v = false by rw [versionB, show facB [x.v.b0, x.v.b1, x.v.b2, x.v.b3] = false from facB_no HX.out (by omega)]; simp)
        go_wp2_with fail
        go_ret
        exact ⟨ret_bool HT.out.symm, H1.out⟩
      · have HT := hide (show facB ([x.b0, x.b1, x.b2, x.b3].take (k + 1)) = true by rw [facB_take HX.out, HOK.out]; simp; omega)
        go_wp2_with fail
        go_round
        case rel => exact ⟨k + 1, by omega, by go_num, HT.out⟩
        case measure => simp [intOf]; omega
    · obtain rfl : k = 4 := by omega
      have HF := hide (show facB [x.v.b0, x.v.b1, x.v.b2, x.v.b3] = true from HOK.out)
      clear HOK hlt hk c1 c2 c3 c4
      by_cases hn : numsB x.v = true
      case neg =>
        have HV := hide (show versionB x.v = false by rw [versionB, Bool.eq_false_iff.2 hn]; rfl)
        rw [numsB_iff] at hn
        rcases (show x.f < 1 ∨ (1 ≤ x.f ∧ 292194 < x.f) ∨ (1 ≤ x.f ∧ x.f ≤ 292194 ∧ x.mn < 0) ∨ (1 ≤ x.f ∧ x.f ≤ 292194 ∧ 0 ≤ x.mn ∧ 1000000000000000 < x.mn) by omega) with g | ⟨g, g2⟩ | ⟨g, g2, g3⟩ | ⟨g, g2, g3, g4⟩
        all_goals
          clear hn
          go_wp2_with fail
          go_ret
          exact ⟨ret_bool HV.out.symm, H1.out⟩
      have HN := hide hn
      rw [numsB_iff] at hn
      obtain ⟨n1, n2, n3, n4⟩ := hn
      by_cases hl : lensB x.v = true
      case neg =>
        have HV := hide (show versionB x.v = false by rw [versionB, HN.out, Bool.eq_false_iff.2 hl]; rfl)
        rw [lensB_iff] at hl
        rcases (show 100 < x.age.length ∨ (x.age.length ≤ 100 ∧ x.zone.length < 1) ∨ (x.age.length ≤ 100 ∧ 1 ≤ x.zone.length ∧ 100 < x.zone.length) ∨ (x.age.length ≤ 100 ∧ 1 ≤ x.zone.length ∧ x.zone.length ≤ 100 ∧ x.peril.length ≠ 8) by omega) with g | ⟨g, g2⟩ | ⟨g, g2, g3⟩ | ⟨g, g2, g3, g4⟩
        all_goals
          clear hl
          try (have g5 : ((x.peril.length : Int) != 8) = true := by simp; omega)
          try clear g4
          go_wp2_with fail
          go_ret
          exact ⟨ret_bool HV.out.symm, H1.out⟩
      have HL := hide hl
      rw [lensB_iff] at hl
      obtain ⟨l1, l2, l3, l4⟩ := hl
      have l4' : ((x.peril.length : Int) != 8) = false := by simp; omega
      clear l4
      have cl := HB.out.lt
      go_wp2_with fail
      refine (bandsR_any x.aA x.aC x.age _ HS1.out.age.sl (by omega)).mono ?_
      rintro e w2 ⟨rfl, hb2⟩
      have HS2 := hide (HS1.out.below hb2)
      have c6 := kept hb2 c6
      have c7 := kept hb2 c7
      have H2 := hide (chain H1.out hb2)
      clear hb2
      cases h0 : bandsB x.age
      · have HV := hide (show versionB x.v = false by rw [versionB, show bandsB x.v.age = false from h0]; simp)
        clear h0
        go_wp2_with fail
        go_ret
        exact ⟨ret_bool HV.out.symm, H2.out⟩
      have K0 := hide h0
      clear h0
      go_wp2_with fail
      refine (factorsR_any _ _ _ x.zone _ HS2.out.zone).mono ?_
      rintro e w3 ⟨rfl, rfl⟩
      cases h2 : facB x.zone
      · have HV := hide (show versionB x.v = false by rw [versionB, show facB x.v.zone = false from h2]; simp)
        clear h2
        go_wp2_with fail
        go_ret
        exact ⟨ret_bool HV.out.symm, H2.out⟩
      have K2 := hide h2
      clear h2
      go_wp2_with fail
      refine (factorsR_any _ _ _ x.peril _ HS2.out.peril).mono ?_
      rintro e w3 ⟨rfl, rfl⟩
      have HV := hide (show versionB x.v = facB x.peril by rw [versionB, HN.out, HL.out, HF.out, show facB x.v.zone = true from K2.out, show bandsB x.v.age = true from K0.out]; simp [Vw.v])
      go_wp2_with fail
      go_ret
      exact ⟨ret_bool HV.out.symm, H2.out⟩

/-! ### Which tariffs may be -/
def risesV (last : Int) : List Ver → Bool
  | [] => true
  | v :: r => if v.f ≤ last ∨ versionB v = false then false else risesV v.f r
def rightT (l : List Ver) : Bool := decide (l.length ≤ 100) && risesV 0 l
/-- One version looked at, behind one from the day 'last' on; w0 is the world in which the versions were read. -/
def Bad1 (w0 : World) (L : Nat) (x : Vw) (last : Int) (e : Ending) (w' : World) : Prop :=
  e = .returned (.bool (decide (x.f ≤ last) || !versionB x.v)) ∧ Blk w' L 3 #[.int .i64 x.f] ∧ Below w0.heap.size w0 w'
set_option maxHeartbeats 2000000 in
theorem bad1_any (x : Vw) (L : Nat) (last : Int) (w0 w : World) (hs : VOK w0 x) (hb : Below w0.heap.size w0 w) (h0L : w0.heap.size ≤ L) (hL : Blk w L 3 #[.int .i64 last]) :
    Calls Try.prog 24 #[.agg #[.int .i64 x.f, .int .i64 x.b0, .int .i64 x.b1, .int .i64 x.b2, .int .i64 x.b3, .slice x.aA x.age.length x.aC, .slice x.zA x.zone.length x.zC, .slice x.pA x.peril.length x.pC, .int .i64 x.mn], .pointer (some ⟨L, 0, none⟩)] w
      (Bad1 w0 L x last) := by
  have HS := hide hs
  have HL := hide hL
  have HB := hide hb
  have l0 := hL.cell 0
  have f0 := hL.frozen 0
  have hll := hL.lt
  simp at l0
  clear hs hL hb
  go_enter Try.func24, Try.ntmps24
  go_upto_region 3 with fail
  obtain ⟨W, hW⟩ : ∃ W, ((w.setCell ⟨L, 0, none⟩ (.int .i64 x.f)).alloc (.cells #[.int .i64 x.f, .int .i64 x.b0, .int .i64 x.b1, .int .i64 x.b2, .int .i64 x.b3, .slice x.aA x.age.length x.aC, .slice x.zA x.zone.length x.zC, .slice x.pA x.peril.length x.pC, .int .i64 x.mn] 26)) = W := ⟨_, rfl⟩
  have hX : Blk W w.heap.size 26 (boxV x) := by rw [← hW]; exact Blk.new' (by simp)
  have hL2 : Blk W L 3 #[.int .i64 x.f] := by
    rw [← hW]
    have := (HL.out.set_ 0 (.int .i64 x.f)).alloc (.cells #[.int .i64 x.f, .int .i64 x.b0, .int .i64 x.b1, .int .i64 x.b2, .int .i64 x.b3, .slice x.aA x.age.length x.aC, .slice x.zA x.zone.length x.zC, .slice x.pA x.peril.length x.pC, .int .i64 x.mn] 26)
    simpa using this
  have hb2 : Below w0.heap.size w0 W := by
    rw [← hW]
    exact (HB.out.setCell (p := ⟨L, 0, none⟩) h0L _).alloc (by have := HB.out.size; simp; omega) _
  rw [hW]
  clear hW
  have c0 := hX.cell 0
  have c1 := hX.cell 1
  have c2 := hX.cell 2
  have c3 := hX.cell 3
  have c4 := hX.cell 4
  have c5 := hX.cell 5
  have c6 := hX.cell 6
  have c7 := hX.cell 7
  have c8 := hX.cell 8
  simp [boxV] at c0 c1 c2 c3 c4 c5 c6 c7 c8
  have HL2 := hide hL2
  have HB2 := hide hb2
  clear hX hL2 hb2 l0 f0
  by_cases hlt : x.f ≤ last
  · go_wp2_with fail
    go_ret
    exact ⟨ret_bool (by simp [hlt]), HL2.out, HB2.out⟩
  · go_wp2_with fail
    refine (version_any x W (HS.out.below HB2.out)).mono ?_
    rintro e w2 ⟨rfl, hb3⟩
    go_wp2_with fail
    go_ret
    exact ⟨ret_bool (by have h9 : ¬ x.f ≤ last := by omega
                        simp [h9]), HL2.out.below hb3 HL2.out.lt, chain HB2.out hb3⟩

theorem rises_take : ∀ {l : List Ver} {k : Nat} {x : Ver} {last : Int}, l[k]? = some x → risesV last (l.take (k + 1)) = (risesV last (l.take k) && !(decide (x.f ≤ (((l.take k).getLast?.map (·.f)).getD last)) || !versionB x))
  | [], k, x, last, h => by simp at h
  | v :: r, 0, x, last, h => by
    simp at h; subst h
    simp only [List.take_succ_cons, List.take_zero, risesV, List.getLast?_nil, Option.map_none, Option.getD_none]
    by_cases h1 : v.f ≤ last ∨ versionB v = false
    · rw [if_pos h1]; rcases h1 with h1 | h1 <;> simp [h1]
    · rw [if_neg h1]; simp only [not_or, Bool.not_eq_false] at h1; simp [h1.1, h1.2]
  | v :: r, k + 1, x, last, h => by
    rw [List.take_succ_cons, List.take_succ_cons, risesV, risesV]
    split
    · simp
    · rw [rises_take (l := r) (k := k) (x := x) (last := v.f) (by simpa using h)]
      congr 3
      cases hr : r.take k with
      | nil => simp; rfl
      | cons a t => rw [List.getLast?_cons_cons]; simp [List.getLast?_cons]
theorem rises_no : ∀ {l : List Ver} {k : Nat} {last : Int}, risesV last (l.take k) = false → risesV last l = false
  | [], k, last, h => by simp [risesV] at h
  | v :: r, 0, last, h => by simp [risesV] at h
  | v :: r, k + 1, last, h => by
    rw [List.take_succ_cons, risesV] at h
    rw [risesV]
    split
    · rfl
    · rename_i hn; rw [if_neg hn] at h; exact rises_no h
theorem Sl.vw {w : World} {B k : Nat} {A : Option Addr} {M : List Vw} {x : Vw} (h : Sl w B 9 A (M.map encV)) (hx : M[k]? = some x) :
    ∃ b off, A = some ⟨b, off, none⟩ ∧ b < B ∧ w.cell? ⟨b, off + k * 9, none⟩ = some (.int .i64 x.f) ∧ w.cell? ⟨b, off + k * 9 + 1, none⟩ = some (.int .i64 x.b0) ∧ w.cell? ⟨b, off + k * 9 + 2, none⟩ = some (.int .i64 x.b1) ∧
      w.cell? ⟨b, off + k * 9 + 3, none⟩ = some (.int .i64 x.b2) ∧ w.cell? ⟨b, off + k * 9 + 4, none⟩ = some (.int .i64 x.b3) ∧ w.cell? ⟨b, off + k * 9 + 5, none⟩ = some (.slice x.aA x.age.length x.aC) ∧
      w.cell? ⟨b, off + k * 9 + 6, none⟩ = some (.slice x.zA x.zone.length x.zC) ∧ w.cell? ⟨b, off + k * 9 + 7, none⟩ = some (.slice x.pA x.peril.length x.pC) ∧ w.cell? ⟨b, off + k * 9 + 8, none⟩ = some (.int .i64 x.mn) := by
  obtain ⟨b, off, hA, hb, hc⟩ := h k (encV x) (by simp [hx])
  exact ⟨b, off, hA, hb, hc 0 _ rfl, hc 1 _ rfl, hc 2 _ rfl, hc 3 _ rfl, hc 4 _ rfl, hc 5 _ rfl, hc 6 _ rfl, hc 7 _ rfl, hc 8 _ rfl⟩
theorem allV_get {M : List Vw} {k : Nat} {x : Vw} (h : M[k]? = some x) : (allV M)[k]? = some x.v := by simp [allV, h]
theorem allV_len (M : List Vw) : (allV M).length = M.length := List.length_map _
def lastF (l : List Ver) : Int := (l.getLast?.map (·.f)).getD 0
theorem lastF_take {l : List Ver} {k : Nat} {x : Ver} (h : l[k]? = some x) : lastF (l.take (k + 1)) = x.f := by rw [take_of h, lastF]; simp
set_option maxHeartbeats 2000000 in
theorem idxV_any (A : Option Addr) (cap L : Nat) (M : List Vw) (w0 w : World) (hs : TV w0 A M.length cap M) (hb : Below w0.heap.size w0 w) (h0L : w0.heap.size ≤ L) (hL : Blk w L 3 #[.int .i64 0]) :
    Calls Try.prog 36 #[.slice A M.length cap, .func (.func 24) #[] #[.pointer (some ⟨L, 0, none⟩)]] w
      fun e w' => (∃ i : Int, e = .returned (.int .i64 i) ∧ (decide (0 ≤ i) = !risesV 0 (allV M))) ∧ Below w0.heap.size w0 w' := by
  have HS := hide hs
  have hmx := hs.sv.le
  have hmy := hs.sv.most
  unfold maxLen at hmy
  have HB := hide hb
  have HL := hide hL
  clear hs hb hL
  go_enter Try.func36, Try.ntmps36
  go_wp2_with fail
  go_loopw [8] (fun i wr => ∃ k : Nat, k ≤ M.length ∧ i = .int .i64 k ∧ risesV 0 ((allV M).take k) = true ∧ Blk wr L 3 #[.int .i64 (lastF ((allV M).take k))] ∧ Below w0.heap.size w0 wr) (fun i _ => M.length - (intOf i).toNat)
  case atStart => exact ⟨0, Nat.zero_le _, rfl, rfl, HL.out, HB.out⟩
  case round =>
    clear HL HB
    obtain ⟨k, hk, rfl, hok, hL, hb⟩ := hrel
    have HOK := hide hok
    have HL := hide hL
    have HB := hide hb
    by_cases hlt : k < M.length
    · obtain ⟨x, hx⟩ := get_of hlt
      obtain ⟨bb, off, rfl, hbl, c0, c1, c2, c3, c4, c5, c6, c7, c8⟩ := (HS.out.below hb).sv.sl.vw hx
      have hk0 : (0 : Int) ≤ (k : Int) := by omega
      have hk1 : (k : Int) < (M.length : Int) := by omega
      have HX := hide hx
      have HOKX := hide (HS.out.rows x (List.mem_of_getElem? hx))
      obtain ⟨la, hla⟩ : ∃ z, lastF ((allV M).take k) = z := ⟨_, rfl⟩
      rw [hla] at HL
      have HLA := hide hla
      clear hx hok hL hb hla
      go_wp2_with fail
      refine (bad1_any x L la w0 _ HOKX.out HB.out h0L HL.out).mono ?_
      rintro e w2 ⟨rfl, hL2, hb2⟩
      have HT := hide (rises_take (last := 0) (allV_get HX.out))
      have HLT := hide (lastF_take (allV_get HX.out))
      have HL2 := hide hL2
      have HB2 := hide hb2
      clear hL2 hb2 c0 c1 c2 c3 c4 c5 c6 c7 c8
      cases hg : (decide (x.f ≤ la) || !versionB x.v)
      · have HR := hide (show risesV 0 ((allV M).take (k + 1)) = true by
          rw [HT.out, HOK.out, show ((((allV M).take k).getLast?.map (·.f)).getD 0) = la from HLA.out]
          have : (decide (x.v.f ≤ la) || !versionB x.v) = false := hg
          rw [this]; rfl)
        clear hg
        go_wp2_with fail
        go_roundw
        case rel => exact ⟨k + 1, by omega, by go_num, HR.out, by rw [HLT.out]; exact HL2.out, HB2.out⟩
        case measure => simp [intOf]; omega
      · have HR := hide (show risesV 0 (allV M) = false by
          refine rises_no (k := k + 1) ?_
          rw [HT.out, HOK.out, show ((((allV M).take k).getLast?.map (·.f)).getD 0) = la from HLA.out]
          have : (decide (x.v.f ≤ la) || !versionB x.v) = true := hg
          rw [this]; rfl)
        clear hg
        go_wp2_with fail
        go_ret
        exact ⟨⟨k, rfl, by rw [HR.out]; simp⟩, HB2.out⟩
    · obtain rfl : k = M.length := by omega
      rw [List.take_of_length_le (by rw [allV_len]; exact Nat.le_refl _)] at HOK
      go_wp2_with fail
      go_ret
      exact ⟨⟨-1, rfl, by rw [HOK.out]; rfl⟩, hb⟩
theorem contV_any (A : Option Addr) (cap L : Nat) (M : List Vw) (w0 w : World) (hs : TV w0 A M.length cap M) (hb : Below w0.heap.size w0 w) (h0L : w0.heap.size ≤ L) (hL : Blk w L 3 #[.int .i64 0]) :
    Calls Try.prog 25 #[.slice A M.length cap, .func (.func 24) #[] #[.pointer (some ⟨L, 0, none⟩)]] w
      fun e w' => e = .returned (.bool (!risesV 0 (allV M))) ∧ Below w0.heap.size w0 w' := by
  have H := hide (idxV_any A cap L M w0 w hs hb h0L hL)
  clear hs hb hL
  go_enter Try.func25, Try.ntmps25
  go_wp2_with fail
  refine H.out.mono ?_
  rintro e w1 ⟨⟨i, rfl, hi⟩, hb⟩
  have HI := hide hi
  clear hi
  go_wp2_with fail
  go_ret
  exact ⟨ret_bool HI.out, hb⟩
set_option maxHeartbeats 2000000 in
theorem right_any (A : Option Addr) (cap : Nat) (M : List Vw) (w : World) (hs : TV w A M.length cap M) :
    Calls Try.prog 12 #[.agg #[.slice A M.length cap]] w fun e w' => e = .returned (.bool (rightT (allV M))) ∧ Below w.heap.size w w' := by
  have HS := hide hs
  have hmx := hs.sv.le
  have hmy := hs.sv.most
  unfold maxLen at hmy
  clear hs
  have hmf : ∀ (fn : Fn) (first cap : Array Value) (w : World), (Instr.makeFunc fn first cap).run Try.prog w = .ok (.func fn first cap) w := fun _ _ _ _ => rfl
  by_cases hl : M.length ≤ 100
  case neg =>
    have HV := hide (show rightT (allV M) = false by rw [rightT, allV_len, decide_eq_false hl]; rfl)
    go_enter Try.func12, Try.ntmps12
    go_wp2_with fail
    go_ret
    exact ⟨ret_bool HV.out.symm, ((Below.refl _ _).alloc (Nat.le_refl _) _).alloc (by simp) _⟩
  have HV := hide (show rightT (allV M) = risesV 0 (allV M) by rw [rightT, allV_len, decide_eq_true hl]; rfl)
  go_enter Try.func12, Try.ntmps12
  go_wp2_with fail
  refine (contV_any A cap (w.heap.size + 1) M w _ HS.out (((Below.refl _ _).alloc (Nat.le_refl _) _).alloc (by simp) _) (by omega) (Blk.new' (by simp))).mono ?_
  rintro e w1 ⟨rfl, hb⟩
  go_wp2_with fail
  go_ret
  exact ⟨ret_bool HV.out.symm, hb⟩
end Go.Proofs.Ytaboachegclaiaa
