/- Part 11 of the proof. -/
import Derived.Test.YtmfohnchnbgbaaaGreatKnM10
/- What a year of covers costs. -/
namespace Go.Proofs.YtmfohnchnbgbaaaGreat
open Go.RowKit

/-- What a year of covers costs, and what is amiss: s so far, as long as it fits. -/
def yearG (v : Ver) (k vl a z : Int) : List Cv → Int → Bool → Int × Int
  | [], s, true => (s, 0)
  | [], _, false => (0, 5)
  | c :: r, s, f => if oneE v k vl a z c = 0 then (if f = true then (if 4000000000000000000 - s < oneV v k vl a z c then yearG v k vl a z r 0 false else yearG v k vl a z r (s + oneV v k vl a z c) true) else yearG v k vl a z r s false) else (0, oneE v k vl a z c)
def yearQ (v : Ver) (k vl a z : Int) (l : List Cv) : Int × Int := yearG v k vl a z l 0 true
theorem oneV_bd (v : Ver) (k vl a z : Int) (c : Cv) : 0 ≤ oneV v k vl a z c ∧ oneV v k vl a z c ≤ 4000000000000000000 := by
  unfold oneV
  split
  · rename_i h
    simp only [Bool.and_eq_true] at h
    have hn : 1 ≤ v.f ∧ v.f ≤ 292194 ∧ 0 ≤ v.mn ∧ v.mn ≤ 1000000000000000 := by
      have := h.1
      simp only [versionB, Bool.and_eq_true, numsB, decide_eq_true_eq] at this
      exact this.1
    have hr : 0 ≤ k ∧ k < 4 ∧ 1 ≤ vl ∧ vl ≤ 1000000000000000 ∧ 0 ≤ a ∧ a ≤ 200 ∧ 0 ≤ z ∧ z < 100 := of_decide_eq_true h.2.1
    split
    · omega
    · have : ∀ (l : List Nat) (m n : Nat), m ≤ 4000000000000000000 → chainN m l = some n → n ≤ 4000000000000000000 := by
        intro l
        induction l with
        | nil => intro m n hm h; simp [chainN] at h; omega
        | cons b r ih =>
          intro m n hm h
          rw [chainN] at h
          split at h
          · exact ih _ _ (evQ_le4 _ _ _) h
          · cases h
      cases hc : chainN vl.toNat (facsN v k a z c) with
      | none => simp [vOf]
      | some m =>
        have := this _ _ _ (by omega) hc
        simp only [vOf]; omega
  · omega

theorem adder_any (w : World) : Calls Tryz.prog 53 #[] w fun e w' => e = .returned (.func (.func 95) #[] #[.pointer (some ⟨w.heap.size, 0, none⟩)]) ∧ w' = w.alloc (.cells #[.int .i64 0] 3) := by
  have hmf : ∀ (fn : Fn) (first cap : Array Value) (w : World), (Instr.makeFunc fn first cap).run Tryz.prog w = .ok (.func fn first cap) w := fun _ _ _ _ => rfl
  go_enter Tryz.func53, Tryz.ntmps53
  go_wp2
  go_ret
  exact ⟨rfl, rfl⟩
def AddP (g : Nat) (s m : Int) (w : World) (e : Ending) (w' : World) : Prop :=
  if 4000000000000000000 - s < m then e = .returned (.tuple #[.int .i64 0, .bool false]) ∧ w' = w else e = .returned (.tuple #[.int .i64 (s + m), .bool true]) ∧ w' = w.setCell ⟨g, 0, none⟩ (.int .i64 (s + m))
theorem add_any (g : Nat) (s m : Int) (w : World) (hB : Blk w g 3 #[.int .i64 s]) (hs : 0 ≤ s ∧ s ≤ 4000000000000000000) (hm : 0 ≤ m ∧ m ≤ 4000000000000000000) :
    Calls Tryz.prog 95 #[.int .i64 m, .pointer (some ⟨g, 0, none⟩)] w (AddP g s m w) := by
  have c0 := hB.cell 0
  have f0 := hB.frozen 0
  have hl := hB.lt
  simp at c0
  have c1 : (w.setCell ⟨g, 0, none⟩ (.int .i64 (s + m))).cell? ⟨g, 0, none⟩ = some (.int .i64 (s + m)) := by
    have := (hB.set_ 0 (.int .i64 (s + m))).cell 0
    simpa using this
  by_cases h : 4000000000000000000 - s < m
  all_goals
    go_enter Tryz.func95, Tryz.ntmps95
    go_wp2
    go_ret2
    simp [AddP, h]

theorem chainB {B : Nat} {a b c : World} (h : Below B a b) (hB : B ≤ b.heap.size) (h2 : Below b.heap.size b c) : Below B a c := h.trans (h2.mono hB)
def YearP (R : Int × Int) (w : World) (e : Ending) (w' : World) : Prop := e = .returned (.tuple #[.int .i64 R.1, .int .i64 R.2]) ∧ Below w.heap.size w w'
structure YearW (w w1 : World) (s : Int) (wr : World) : Prop where
  b : Below (w.heap.size + 1 + 1) w1 wr
  a : Blk wr (w.heap.size + 1 + 1) 3 #[.int .i64 s]
set_option maxRecDepth 100000 in
set_option maxHeartbeats 4000000 in
theorem yearC_any (x : Vw) (k vl a z : Int) (A : Option Addr) (cap n : Nat) (l : List Cv) (w : World) (hx : VOK w x) (hs : SV w 5 A n cap (l.map encCv)) (ho : ∀ c ∈ l, okCv c) :
    Calls Tryz.prog 24 #[.agg #[.int .i64 x.f, .int .i64 x.b0, .int .i64 x.b1, .int .i64 x.b2, .int .i64 x.b3, .slice x.aA x.age.length x.aC, .slice x.zA x.zone.length x.zC, .slice x.pA x.peril.length x.pC, .int .i64 x.mn], .agg #[.int .i64 k, .int .i64 vl, .int .i64 a, .int .i64 z], .slice A n cap] w (YearP (yearQ x.v k vl a z l) w) := by
  have hn : l.length = n := by have := hs.len; simpa using this
  have hle := hs.le
  have hmo := hs.most
  unfold maxLen at hmo
  obtain ⟨R, hR⟩ : ∃ R, yearQ x.v k vl a z l = R := ⟨_, rfl⟩
  rw [hR]
  have HR := hide hR
  have HN := hide hn
  have HX := hide hx
  have HS := hide hs
  have HO := hide ho
  clear hR hn hx hs ho
  obtain ⟨w1, hw1⟩ : ∃ W, ((w.alloc (.cells (boxV x) 83)).alloc (.cells #[.int .i64 k, .int .i64 vl, .int .i64 a, .int .i64 z] 59)).alloc (.cells #[.int .i64 0] 3) = W := ⟨_, rfl⟩
  have hB0 : Blk w1 w.heap.size 83 (boxV x) := by rw [← hw1]; exact ((Blk.new _ _ _).alloc _).alloc _
  have hB1 : Blk w1 (w.heap.size + 1) 59 #[.int .i64 k, .int .i64 vl, .int .i64 a, .int .i64 z] := by rw [← hw1]; exact (Blk.new' (by simp)).alloc _
  have hB2 : Blk w1 (w.heap.size + 1 + 1) 3 #[.int .i64 0] := by rw [← hw1]; exact Blk.new' (by simp)
  have hb1 : Below w.heap.size w w1 := by rw [← hw1]; exact (((Below.refl _ _).alloc (Nat.le_refl _) _).alloc (by simp) _).alloc (by simp; omega) _
  have lt0 := hB2.lt
  have HW := hide hw1
  have HB0 := hide hB0
  have HB1 := hide hB1
  have HB2 := hide hB2
  have H1 := hide hb1
  clear hw1 hB0 hB1 hB2 hb1
  go_enter Tryz.func24, Tryz.ntmps24
  go_wp2_with fail
  refine (adder_any _).mono ?_
  rintro e w' ⟨rfl, rfl⟩
  rw [show ((w.alloc (.cells #[.int .i64 x.f, .int .i64 x.b0, .int .i64 x.b1, .int .i64 x.b2, .int .i64 x.b3, .slice x.aA x.age.length x.aC, .slice x.zA x.zone.length x.zC, .slice x.pA x.peril.length x.pC, .int .i64 x.mn] 83)).alloc (.cells #[.int .i64 k, .int .i64 vl, .int .i64 a, .int .i64 z] 59)).alloc (.cells #[.int .i64 0] 3) = w1 from HW.out]
  simp only [World.size_alloc]
  go_wp2_with fail
  go_loopw [9, 10, 18] (fun q9 q10 q18 wr => ∃ (j : Nat) (s s' : Int) (f : Bool), j ≤ n ∧ q18 = .int .i64 j ∧ q9 = .int .i64 s ∧ q10 = .bool f ∧ 0 ≤ s' ∧ s' ≤ 4000000000000000000 ∧ yearG x.v k vl a z (l.drop j) s f = R ∧ (f = true → s' = s) ∧ YearW w w1 s' wr) (fun _ _ q _ => n - (RowKit.intOf q).toNat)
  case atStart => exact ⟨0, 0, 0, true, Nat.zero_le _, rfl, rfl, rfl, by omega, by omega, HR.out, fun _ => rfl, Below.refl _ _, HB2.out⟩
  case round =>
    obtain ⟨j, s, s', f, hj, rfl, rfl, rfl, hs1, hs2, hyr, hfs, hYW⟩ := hrel
    have HY := hide hyr
    have HF := hide hfs
    have HYW := hide hYW
    clear hyr hfs hYW
    have hb0 : Below w.heap.size w wr := H1.out.trans (HYW.out.b.mono (by omega))
    have hsz := hb0.size
    by_cases hlt : j < n
    · obtain ⟨c, hc⟩ := get_of (l := l) (k := j) (by rw [HN.out]; exact hlt)
      obtain ⟨b, off, rfl, hbl, c0, c1, c2, c3, c4⟩ := (HS.out.below hb0).sl.cv hc
      have HOK := hide (HO.out c (List.mem_of_getElem? hc))
      have HD := hide (drop_of hc)
      have hk0 : (0 : Int) ≤ (j : Int) := by omega
      have hk1 : (j : Int) < (n : Int) := by omega
      have HBv := hide (HB0.out.below HYW.out.b (by omega))
      have HBr := hide (HB1.out.below HYW.out.b (by omega))
      have v0 := HBv.out.cell 0
      have v1 := HBv.out.cell 1
      have v2 := HBv.out.cell 2
      have v3 := HBv.out.cell 3
      have v4 := HBv.out.cell 4
      have v5 := HBv.out.cell 5
      have v6 := HBv.out.cell 6
      have v7 := HBv.out.cell 7
      have v8 := HBv.out.cell 8
      simp [boxV] at v0 v1 v2 v3 v4 v5 v6 v7 v8
      have r0 := HBr.out.cell 0
      have r1 := HBr.out.cell 1
      have r2 := HBr.out.cell 2
      have r3 := HBr.out.cell 3
      simp at r0 r1 r2 r3
      have hzr : w.heap.size + 1 + 1 < wr.heap.size := HYW.out.a.lt
      have hz1 : w.heap.size + 1 < wr.heap.size := by omega
      have hz0 : w.heap.size < wr.heap.size := by omega
      have HYA := hide ((HYW.out.b.alloc (by omega) (.cells #[.int .i64 c.p, .int .i64 c.lim, .int .i64 c.agg, .int .i64 c.ded, .int .i64 c.sh] 23)))
      have HYB := hide (HYW.out.a.alloc (.cells #[.int .i64 c.p, .int .i64 c.lim, .int .i64 c.agg, .int .i64 c.ded, .int .i64 c.sh] 23))
      have HXW := hide (HX.out.below (hb0.alloc hsz (.cells #[.int .i64 c.p, .int .i64 c.lim, .int .i64 c.agg, .int .i64 c.ded, .int .i64 c.sh] 23)))
      obtain ⟨E1, hE1⟩ : ∃ z', oneE x.v k vl a z c = z' := ⟨_, rfl⟩
      obtain ⟨V1, hV1⟩ : ∃ z', oneV x.v k vl a z c = z' := ⟨_, rfl⟩
      have hVb := oneV_bd x.v k vl a z c
      have HONE := hide (one_any x k vl a z c _ HXW.out HOK.out)
      rw [hE1, hV1] at HONE
      rw [hV1] at hVb
      have HE1 := hide hE1
      have HV1 := hide hV1
      obtain ⟨hV0, hV4⟩ := hVb
      clear hc hb0 hE1 hV1
      by_cases hE : E1 = 0
      · subst hE
        go_wp2_with fail
        refine HONE.out.mono ?_
        rintro e w4 ⟨rfl, h4⟩
        have HY4 := hide (YearW.mk (w := w) (chainB HYA.out (by simp; omega) h4) (HYB.out.below h4 (by simp; omega)))
        clear h4 v0 v1 v2 v3 v4 v5 v6 v7 v8 r0 r1 r2 r3 c0 c1 c2 c3 c4
        cases f
        · go_wp2_with fail
          go_roundw
          case rel => exact ⟨j + 1, s, s', false, by omega, by go_num, rfl, rfl, hs1, hs2, by
            have := HY.out
            rw [HD.out, yearG, if_pos HE1.out, if_neg (by simp)] at this
            exact this, (fun h => by cases h), HY4.out⟩
          case measure => simp [RowKit.intOf]; omega
        · obtain rfl : s' = s := HF.out rfl
          go_wp2_with fail
          refine (add_any (w.heap.size + 1 + 1) s' V1 _ HY4.out.a ⟨hs1, hs2⟩ ⟨hV0, hV4⟩).mono ?_
          intro e w5 hadd
          unfold AddP at hadd
          by_cases hov : 4000000000000000000 - s' < V1
          · rw [if_pos hov] at hadd
            obtain ⟨rfl, rfl⟩ := hadd
            go_wp2_with fail
            go_roundw
            case rel => exact ⟨j + 1, 0, s', false, by omega, by go_num, rfl, rfl, hs1, hs2, by
              have := HY.out
              rw [HD.out, yearG, if_pos HE1.out, if_pos rfl, HV1.out, if_pos hov] at this
              exact this, (fun h => by cases h), HY4.out⟩
            case measure => simp [RowKit.intOf]; omega
          · rw [if_neg hov] at hadd
            obtain ⟨rfl, rfl⟩ := hadd
            go_wp2_with fail
            go_roundw
            case rel => exact ⟨j + 1, s' + V1, s' + V1, true, by omega, by go_num, rfl, rfl, by omega, by omega, by
              have := HY.out
              rw [HD.out, yearG, if_pos HE1.out, if_pos rfl, HV1.out, if_neg (by omega)] at this
              exact this, fun _ => rfl, HY4.out.b.setCell (by simp) _, by simpa using HY4.out.a.set_ 0 (.int .i64 (s' + V1))⟩
            case measure => simp [RowKit.intOf]; omega
      · have hE' : ¬ E1 = 0 := hE
        have hER : R = (0, E1) := by
          have := HY.out
          rw [HD.out, yearG, if_neg (by rw [HE1.out]; exact hE), HE1.out] at this
          exact this.symm
        subst hER
        have hne : (E1 != 0) = true := by simpa using hE
        go_wp2_with fail
        refine HONE.out.mono ?_
        rintro e w4 ⟨rfl, h4⟩
        have H4 := hide (H1.out.trans ((chainB HYA.out (by simp; omega) h4).mono (by omega)))
        clear h4 v0 v1 v2 v3 v4 v5 v6 v7 v8 r0 r1 r2 r3 c0 c1 c2 c3 c4
        go_wp2_with fail
        go_ret2
        exact ⟨rfl, H4.out⟩
    · obtain rfl : j = n := by omega
      have hd : l.drop j = [] := List.drop_eq_nil_of_le (by rw [HN.out]; exact Nat.le_refl _)
      cases f
      · have hER : R = (0, 5) := by
          have := HY.out
          rw [hd, yearG] at this
          exact this.symm
        subst hER
        clear hd
        have HB := hide hb0
        clear hb0
        go_wp2_with fail
        go_ret2
        exact ⟨rfl, HB.out⟩
      · have hER : R = (s, 0) := by
          have := HY.out
          rw [hd, yearG] at this
          exact this.symm
        subst hER
        clear hd
        have HB := hide hb0
        clear hb0
        go_wp2_with fail
        go_ret2
        exact ⟨rfl, HB.out⟩
end Go.Proofs.YtmfohnchnbgbaaaGreat

/- What holds: whether the same holds in two slices. -/
namespace Go.Proofs.YtmfohnchnbgbaaaGreat
open Go.RowKit

def cvB (a b : Cv) : Bool := decide (a.p = b.p ∧ a.lim = b.lim ∧ a.agg = b.agg ∧ a.ded = b.ded ∧ a.sh = b.sh)
def alikeB : List Cv → List Cv → Bool
  | [], [] => true
  | a :: r, b :: s => cvB a b && alikeB r s
  | _, _ => false
theorem cvB_eq {a b : Cv} : cvB a b = true ↔ a = b := by
  cases a; cases b; simp [cvB]
theorem alikeB_eq : ∀ {a b : List Cv}, alikeB a b = true ↔ a = b
  | [], [] => by simp [alikeB]
  | a :: r, b :: s => by simp [alikeB, cvB_eq, alikeB_eq (a := r) (b := s)]
  | [], _ :: _ => by simp [alikeB]
  | _ :: _, [] => by simp [alikeB]
theorem alikeB_len {a b : List Cv} (h : a.length ≠ b.length) : alikeB a b = false := by
  rw [Bool.eq_false_iff]; intro h2; exact h (by rw [alikeB_eq.1 h2])

theorem neq_cov (a0 a1 a2 a3 a4 b0 b1 b2 b3 b4 : Int) (w : World) : (binOp .neq 23 (.agg #[.int .i64 a0, .int .i64 a1, .int .i64 a2, .int .i64 a3, .int .i64 a4]) (.agg #[.int .i64 b0, .int .i64 b1, .int .i64 b2, .int .i64 b3, .int .i64 b4])).run Tryz.prog w = .ok (.bool (!decide (a0 = b0 ∧ a1 = b1 ∧ a2 = b2 ∧ a3 = b3 ∧ a4 = b4))) w := by
  by_cases h0 : a0 = b0 <;> by_cases h1 : a1 = b1 <;> by_cases h2 : a2 = b2 <;> by_cases h3 : a3 = b3 <;> by_cases h4 : a4 = b4 <;> simp [go_sem, h0, h1, h2, h3, h4]
theorem eql_risk (a0 a1 a2 a3 b0 b1 b2 b3 : Int) (w : World) : (binOp .eql 59 (.agg #[.int .i64 a0, .int .i64 a1, .int .i64 a2, .int .i64 a3]) (.agg #[.int .i64 b0, .int .i64 b1, .int .i64 b2, .int .i64 b3])).run Tryz.prog w = .ok (.bool (decide (a0 = b0 ∧ a1 = b1 ∧ a2 = b2 ∧ a3 = b3))) w := by
  by_cases h0 : a0 = b0 <;> by_cases h1 : a1 = b1 <;> by_cases h2 : a2 = b2 <;> by_cases h3 : a3 = b3 <;> simp [go_sem, h0, h1, h2, h3]

set_option maxRecDepth 100000 in
set_option maxHeartbeats 2000000 in
theorem alike_any (A A2 : Option Addr) (n n2 cap cap2 : Nat) (l l2 : List Cv) (w : World) (hs : SV w 5 A n cap (l.map encCv)) (hs2 : SV w 5 A2 n2 cap2 (l2.map encCv)) :
    Calls Tryz.prog 148 #[.slice A n cap, .slice A2 n2 cap2] w fun e w' => e = .returned (.bool (alikeB l l2)) ∧ Below w.heap.size w w' := by
  have hn : l.length = n := by have := hs.len; simpa using this
  have hn2 : l2.length = n2 := by have := hs2.len; simpa using this
  have hle := hs.le
  have hmo := hs.most
  unfold maxLen at hmo
  by_cases hne : n = n2
  case neg =>
    have HF := hide (alikeB_len (show l.length ≠ l2.length by omega))
    have hb : ((n : Int) != (n2 : Int)) = true := by simp; omega
    clear hn hn2 hs hs2
    go_enter Tryz.func148, Tryz.ntmps148
    go_wp2_with fail
    go_ret
    exact ⟨ret_bool HF.out.symm, Below.refl _ _⟩
  subst hne
  have HN := hide hn
  have HN2 := hide hn2
  have HS := hide hs
  have HS2 := hide hs2
  clear hn hn2 hs hs2
  go_enter Tryz.func148, Tryz.ntmps148
  go_wp2_with fail
  go_loopw [14] (fun i wr => ∃ k : Nat, k ≤ n ∧ i = .int .i64 k ∧ alikeB l l2 = alikeB (l.drop k) (l2.drop k) ∧ Below w.heap.size w wr) (fun i _ => n - (RowKit.intOf i).toNat)
  case atStart => exact ⟨0, Nat.zero_le _, rfl, rfl, Below.refl _ _⟩
  case round =>
    obtain ⟨k, hk, rfl, ha, hb⟩ := hrel
    have HA := hide ha
    have HB := hide hb
    clear ha
    by_cases hlt : k < n
    · obtain ⟨c, hx⟩ := get_of (l := l) (k := k) (by rw [HN.out]; exact hlt)
      obtain ⟨d, hy⟩ := get_of (l := l2) (k := k) (by rw [HN2.out]; exact hlt)
      obtain ⟨b, off, rfl, hbl, c0, c1, c2, c3, c4⟩ := (HS.out.below hb).sl.cv hx
      obtain ⟨b', off', rfl, hbl', d0, d1, d2, d3, d4⟩ := (HS2.out.below hb).sl.cv hy
      have HD := hide (drop_of hx)
      have HD2 := hide (drop_of hy)
      have hk0 : (0 : Int) ≤ (k : Int) := by omega
      have hk1 : (k : Int) < (n : Int) := by omega
      clear hx hy hb
      obtain ⟨B, hB⟩ : ∃ B, cvB c d = B := ⟨_, rfl⟩
      have hnq : ∀ w, (binOp .neq 23 (.agg #[.int .i64 c.p, .int .i64 c.lim, .int .i64 c.agg, .int .i64 c.ded, .int .i64 c.sh]) (.agg #[.int .i64 d.p, .int .i64 d.lim, .int .i64 d.agg, .int .i64 d.ded, .int .i64 d.sh])).run Tryz.prog w = .ok (.bool (!B)) w := fun w => by rw [neq_cov, ← hB]; rfl
      have HBB := hide hB
      clear hB
      obtain ⟨w2, hw2⟩ : ∃ W, wr.alloc (.cells #[.int .i64 c.p, .int .i64 c.lim, .int .i64 c.agg, .int .i64 c.ded, .int .i64 c.sh] 23) = W := ⟨_, rfl⟩
      have hbl2 : Blk w2 wr.heap.size 23 #[.int .i64 c.p, .int .i64 c.lim, .int .i64 c.agg, .int .i64 c.ded, .int .i64 c.sh] := by rw [← hw2]; exact Blk.new _ _ _
      have hb2 : Below wr.heap.size wr w2 := by rw [← hw2]; exact (Below.refl _ _).alloc (Nat.le_refl _) _
      have k0 := hbl2.cell 0
      have k1 := hbl2.cell 1
      have k2 := hbl2.cell 2
      have k3 := hbl2.cell 3
      have k4 := hbl2.cell 4
      simp at k0 k1 k2 k3 k4
      have d0 := kept hb2 d0
      have d1 := kept hb2 d1
      have d2 := kept hb2 d2
      have d3 := kept hb2 d3
      have d4 := kept hb2 d4
      have HW2 := hide hw2
      have HB2 := hide (chain HB.out hb2)
      clear hw2 hbl2 hb2
      go_wp2_with fail
      rw [show wr.alloc (.cells #[.int .i64 c.p, .int .i64 c.lim, .int .i64 c.agg, .int .i64 c.ded, .int .i64 c.sh] 23) = w2 from HW2.out]
      refine wp_region_class (fun W => Below w2.heap.size w2 W) (by kernel_rfl) (by kernel_rfl) (Below.refl _ _).drew ?_
      repeat (first
        | go_big_quiet_skip
        | (go_big_quiet_want
           first
             | (go_big_quiet_op
                go_big_quiet_on)
             | (refine quiet_yield (v := ?_) ?_ ?_
                rotate_left
                · intro W hW
                  have d0 := kept hW d0
                  have d1 := kept hW d1
                  have d2 := kept hW d2
                  have d3 := kept hW d3
                  have d4 := kept hW d4
                  have k0 := kept hW k0
                  have k1 := kept hW k1
                  have k2 := kept hW k2
                  have k3 := kept hW k3
                  have k4 := kept hW k4
                  clear hW
                  go_simp
                  try with_reducible rfl
                simp only [Act.put, List.setIfInBounds_toArray, List.set_cons_zero, List.set_cons_succ]
                go_big_quiet_on)))
      refine wpQuiet_nil ?_
      intro W hW
      clear hnq
      have HW := hide (chain HB2.out hW)
      clear hW c0 c1 c2 c3 c4 d0 d1 d2 d3 d4 k0 k1 k2 k3 k4
      cases B
      · have HF := hide (show alikeB l l2 = false by rw [HA.out, HD.out, HD2.out, alikeB, HBB.out]; rfl)
        go_wp2_with fail
        go_ret
        exact ⟨ret_bool HF.out.symm, HW.out⟩
      · have HF := hide (show alikeB l l2 = alikeB (l.drop (k + 1)) (l2.drop (k + 1)) by rw [HA.out, HD.out, HD2.out, alikeB, HBB.out]; rfl)
        go_wp2_with fail
        go_roundw
        case rel => exact ⟨k + 1, by omega, by go_num, HF.out, HW.out⟩
        case measure => simp [RowKit.intOf]; omega
    · obtain rfl : k = n := by omega
      have HT := hide (show alikeB l l2 = true by
        rw [HA.out, List.drop_eq_nil_of_le (by rw [HN.out]; exact Nat.le_refl _), List.drop_eq_nil_of_le (by rw [HN2.out]; exact Nat.le_refl _)]; rfl)
      clear hb
      go_wp2_with fail
      go_ret
      exact ⟨ret_bool HT.out.symm, HB.out⟩

/-- What holds in a span. -/
structure Sc where
  f : Int
  t : Int
  on : Bool
  rk : Int
  rv : Int
  ra : Int
  rz : Int
  A : Option Addr
  l : List Cv
  cap : Nat
  y : Int
def scC (x : Sc) : Array Value := #[.int .i64 x.f, .int .i64 x.t, .bool x.on, .int .i64 x.rk, .int .i64 x.rv, .int .i64 x.ra, .int .i64 x.rz, .slice x.A x.l.length x.cap, .int .i64 x.y]
def riskE (a b : Sc) : Bool := decide (a.rk = b.rk ∧ a.rv = b.rv ∧ a.ra = b.ra ∧ a.rz = b.rz)
def holdsB (a b : Sc) : Bool := a.on == b.on && (riskE a b && alikeB a.l b.l)
theorem alike_is {A A2 : Option Addr} {n n2 cap cap2 : Nat} {l l2 : List Cv} {B : Bool} (h : alikeB l l2 = B) (w : World) (hs : SV w 5 A n cap (l.map encCv)) (hs2 : SV w 5 A2 n2 cap2 (l2.map encCv)) :
    Calls Tryz.prog 148 #[.slice A n cap, .slice A2 n2 cap2] w fun e w' => e = .returned (.bool B) ∧ Below w.heap.size w w' := by
  subst h; exact alike_any A A2 n n2 cap cap2 l l2 w hs hs2
set_option maxRecDepth 100000 in
set_option maxHeartbeats 2000000 in
theorem holds_any (a b : Sc) (w : World) (hs : SV w 5 a.A a.l.length a.cap (a.l.map encCv)) (hs2 : SV w 5 b.A b.l.length b.cap (b.l.map encCv)) :
    Calls Tryz.prog 79 #[.agg #[.int .i64 a.f, .int .i64 a.t, .bool a.on, .int .i64 a.rk, .int .i64 a.rv, .int .i64 a.ra, .int .i64 a.rz, .slice a.A a.l.length a.cap, .int .i64 a.y], .agg #[.int .i64 b.f, .int .i64 b.t, .bool b.on, .int .i64 b.rk, .int .i64 b.rv, .int .i64 b.ra, .int .i64 b.rz, .slice b.A b.l.length b.cap, .int .i64 b.y]] w fun e w' => e = .returned (.bool (holdsB a b)) ∧ Below w.heap.size w w' := by
  have HB := hide (show holdsB a b = (a.on == b.on && (riskE a b && alikeB a.l b.l)) from rfl)
  obtain ⟨R, hR⟩ : ∃ R, riskE a b = R := ⟨_, rfl⟩
  obtain ⟨L, hL⟩ : ∃ L, alikeB a.l b.l = L := ⟨_, rfl⟩
  have heq : ∀ w, (binOp .eql 59 (.agg #[.int .i64 a.rk, .int .i64 a.rv, .int .i64 a.ra, .int .i64 a.rz]) (.agg #[.int .i64 b.rk, .int .i64 b.rv, .int .i64 b.ra, .int .i64 b.rz])).run Tryz.prog w = .ok (.bool R) w := fun w => by rw [eql_risk, ← hR]; rfl
  have HR := hide hR
  have HL := hide hL
  have HS := hide hs
  have HS2 := hide hs2
  clear hR hL hs hs2
  obtain ⟨V, hV⟩ : ∃ V, holdsB a b = V := ⟨_, rfl⟩
  rw [hV]
  have HV := hide hV
  clear hV
  have hcases : (a.on == b.on) = true ∨ (a.on == b.on) = false := by cases a.on == b.on <;> simp
  rcases hcases with hon | hon
  · cases R
    · have hF : V = false := by rw [← HV.out, HB.out, HR.out]; simp
      subst hF
      go_enter Tryz.func79, Tryz.ntmps79
      go_wp2_with fail
      go_ret
      exact ⟨rfl, ((Below.refl _ _).alloc (Nat.le_refl _) _).alloc (by simp) _⟩
    · have hF : V = L := by rw [← HV.out, HB.out, HR.out, hon, HL.out]; simp
      subst hF
      go_enter Tryz.func79, Tryz.ntmps79
      go_wp2_with fail
      have hb2 := (((Below.refl w.heap.size w).alloc (Nat.le_refl _) (.cells (scC a) 87)).alloc (by simp) (.cells (scC b) 87))
      refine (alike_is HL.out _ (HS.out.below hb2) (HS2.out.below hb2)).mono ?_
      rintro e w1 ⟨rfl, h1⟩
      have H1 := hide (chain hb2 h1)
      clear h1 hb2
      go_wp2_with fail
      go_ret
      exact ⟨rfl, H1.out⟩
  · have hF : V = false := by rw [← HV.out, HB.out, hon]; simp
    subst hF
    go_enter Tryz.func79, Tryz.ntmps79
    go_wp2_with fail
    go_ret
    exact ⟨rfl, ((Below.refl _ _).alloc (Nat.le_refl _) _).alloc (by simp) _⟩
end Go.Proofs.YtmfohnchnbgbaaaGreat
