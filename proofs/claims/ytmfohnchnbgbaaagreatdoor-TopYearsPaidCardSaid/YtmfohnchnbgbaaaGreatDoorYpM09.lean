/- Part 9 of the proof. -/
import Derived.Test.YtmfohnchnbgbaaaGreatDoorYpM08
/- What a cover pays. -/
namespace Go.Proofs.YtmfohnchnbgbaaaGreatDoor
open Go.RowKit Go.Lib
set_option linter.unusedSimpArgs false

def leastI (a b : Int) : Int := max (min a b) 0
set_option maxRecDepth 100000 in
theorem least_any (g : Nat) (a b : Int) (w : World) (hB : Blk w g 3 #[.int .i64 b]) : Calls Tryz.prog 61 #[.int .i64 a, .slice (some ⟨g, 0, none⟩) 1 1] w fun e w' => e = .returned (.int .i64 (leastI a b)) ∧ w' = w := by
  have c0 : w.cell? ⟨g, 0, none⟩ = some (.int .i64 b) := hB.cell 0
  obtain ⟨m, hm⟩ : ∃ m, min a b = m := ⟨_, rfl⟩
  have HM := hide hm
  clear hm hB
  go_enter Tryz.func61, Tryz.ntmps61
  go_wp2_with fail
  go_loop [0, 9] (fun p q => (q = .int .i64 0 ∧ p = .int .i64 a) ∨ (q = .int .i64 1 ∧ p = .int .i64 m)) (fun _ q => 1 - (RowKit.intOf q).toNat)
  case atStart => exact .inl ⟨rfl, rfl⟩
  case round =>
    rcases hrel with ⟨rfl, rfl⟩ | ⟨rfl, rfl⟩
    · go_wp2_with fail
      go_round
      case rel => exact .inr ⟨rfl, by rw [← HM.out]⟩
      case measure => simp [RowKit.intOf]
    · go_wp2_with fail
      go_ret
      exact ⟨ret_int (by rw [leastI, HM.out]), rfl⟩
theorem leastI_bd (a b : Int) : 0 ≤ leastI a b ∧ (leastI a b ≤ b ∨ leastI a b = 0) := by unfold leastI; omega
def cvC (c : Cv) : Array Value := #[.int .i64 c.p, .int .i64 c.lim, .int .i64 c.agg, .int .i64 c.ded, .int .i64 c.sh]
theorem cv_cells {w : World} {g : Nat} {t : TypeId} {c : Cv} (h : Blk w g t (cvC c)) : w.cell? ⟨g, 0, none⟩ = some (.int .i64 c.p) ∧ w.cell? ⟨g, 1, none⟩ = some (.int .i64 c.lim) ∧ w.cell? ⟨g, 2, none⟩ = some (.int .i64 c.agg) ∧ w.cell? ⟨g, 3, none⟩ = some (.int .i64 c.ded) ∧ w.cell? ⟨g, 4, none⟩ = some (.int .i64 c.sh) :=
  ⟨h.cell 0, h.cell 1, h.cell 2, h.cell 3, h.cell 4⟩
/-- What a cover that may be says. -/
theorem coverB_parts {c : Cv} (h : coverB c = true) : 1 ≤ c.sh ∧ c.sh ≤ 10000 ∧ 0 ≤ c.ded ∧ c.ded < c.lim ∧ c.lim ≤ c.agg ∧ c.agg ≤ 1000000000000000 := by
  unfold coverB at h
  have := of_decide_eq_true h
  omega
def amtQ (c : Cv) (loss : Int) : Int := leastI (loss - c.ded) c.lim
theorem amtQ_bd {c : Cv} (h : coverB c = true) (loss : Int) : 0 ≤ amtQ c loss ∧ amtQ c loss ≤ 1000000000000000 := by
  have := coverB_parts h
  have := leastI_bd (loss - c.ded) c.lim
  unfold amtQ; omega
set_option maxRecDepth 100000 in
theorem tclaim_any (c : Cv) (loss : Int) (hc : coverB c = true) (h0 : 0 ≤ loss) (h1 : loss ≤ 9223372036854775807) (w : World) :
    Calls Tryz.prog 59 #[.agg #[.int .i64 c.p, .int .i64 c.lim, .int .i64 c.agg, .int .i64 c.ded, .int .i64 c.sh], .int .i64 loss] w fun e w' => e = .returned (.int .i64 (amtQ c loss)) ∧ Below w.heap.size w w' := by
  obtain ⟨p1, p2, p3, p4, p5, p6⟩ := coverB_parts hc
  obtain ⟨w1, hw1⟩ : ∃ W, w.alloc (.cells (cvC c) 151) = W := ⟨_, rfl⟩
  have H1 := hide (show Below w.heap.size w w1 by rw [← hw1]; exact (Below.refl _ _).alloc (Nat.le_refl _) _)
  have HB := hide (show Blk w1 w.heap.size 151 (cvC c) by rw [← hw1]; exact Blk.new _ _ _)
  obtain ⟨x0, x1, x2, x3, x4⟩ := cv_cells HB.out
  have HW := hide hw1
  obtain ⟨d, hd⟩ : ∃ d, loss - c.ded = d := ⟨_, rfl⟩
  have HA := hide (show amtQ c loss = leastI d c.lim by rw [amtQ, hd])
  obtain ⟨w2, hw2⟩ : ∃ W, w1.alloc (.cells #[.int .i64 c.lim] 3) = W := ⟨_, rfl⟩
  have HL := hide (show Calls Tryz.prog 61 #[.int .i64 d, .slice (some ⟨w1.heap.size, 0, none⟩) 1 1] w2 fun e w' => e = .returned (.int .i64 (leastI d c.lim)) ∧ w' = w2 from least_any _ d c.lim w2 (by rw [← hw2]; exact Blk.new _ _ _))
  have H2 := hide (show Below w.heap.size w w2 by rw [← hw2]; exact H1.out.alloc H1.out.size _)
  have HW2 := hide hw2
  clear hw1 hc hw2
  go_enter Tryz.func59, Tryz.ntmps59
  go_upto_region 1 with fail
  rw [show w.alloc (.cells #[.int .i64 c.p, .int .i64 c.lim, .int .i64 c.agg, .int .i64 c.ded, .int .i64 c.sh] 151) = w1 from HW.out]
  go_wp2_with fail
  rw [HW2.out]
  refine HL.out.mono ?_
  rintro e w' ⟨rfl, rfl⟩
  clear x0 x1 x2 x3 x4 hd
  go_wp2_with fail
  go_ret
  exact ⟨ret_int HA.out.symm, H2.out⟩
def shareQ (c : Cv) (amt : Int) : Int := (evQ amt.toNat c.sh.toNat 10000 : Nat)
theorem shareQ_bd (c : Cv) (amt : Int) : 0 ≤ shareQ c amt ∧ shareQ c amt ≤ 4000000000000000000 := by
  have := evQ_le4 amt.toNat c.sh.toNat 10000
  unfold shareQ; omega
set_option maxRecDepth 100000 in
theorem tshare_any (c : Cv) (amt : Int) (hc : coverB c = true) (h0 : 0 ≤ amt) (h1 : amt ≤ 9223372036854775807) (w : World) :
    Calls Tryz.prog 60 #[.agg #[.int .i64 c.p, .int .i64 c.lim, .int .i64 c.agg, .int .i64 c.ded, .int .i64 c.sh], .int .i64 amt] w fun e w' => e = .returned (.int .i64 (shareQ c amt)) ∧ Below w.heap.size w w' := by
  obtain ⟨p1, p2, p3, p4, p5, p6⟩ := coverB_parts hc
  obtain ⟨w1, hw1⟩ : ∃ W, w.alloc (.cells (cvC c) 151) = W := ⟨_, rfl⟩
  have H1 := hide (show Below w.heap.size w w1 by rw [← hw1]; exact (Below.refl _ _).alloc (Nat.le_refl _) _)
  have HB := hide (show Blk w1 w.heap.size 151 (cvC c) by rw [← hw1]; exact Blk.new _ _ _)
  obtain ⟨x0, x1, x2, x3, x4⟩ := cv_cells HB.out
  have HW := hide hw1
  have HBP := hide (show Calls Tryz.prog 66 #[.int .i64 amt, .int .i64 c.sh] w1 fun e w' => e = .returned (.tuple #[.int .i64 (shareQ c amt), .int .i64 (evE amt.toNat c.sh.toNat 10000)]) ∧ Below w1.heap.size w1 w' by
    have := bp_any amt.toNat c.sh.toNat (by omega) (by omega) w1
    rwa [show ((amt.toNat : Nat) : Int) = amt by omega, show ((c.sh.toNat : Nat) : Int) = c.sh by omega] at this)
  clear hw1 hc
  go_enter Tryz.func60, Tryz.ntmps60
  go_upto_region 1 with fail
  rw [show w.alloc (.cells #[.int .i64 c.p, .int .i64 c.lim, .int .i64 c.agg, .int .i64 c.ded, .int .i64 c.sh] 151) = w1 from HW.out]
  go_wp2_with fail
  refine HBP.out.mono ?_
  rintro e w' ⟨rfl, h2⟩
  have H2 := hide (chain H1.out h2)
  clear x0 x1 x2 x3 x4 h2
  go_wp2_with fail
  go_ret
  exact ⟨rfl, H2.out⟩
/-- What is paid of a loss, where so much of the cover is used. -/
def paysQ (c : Cv) (loss used : Int) : Int := if coverB c = true ∧ 0 ≤ loss ∧ 0 ≤ used then leastI (shareQ c (amtQ c loss)) (c.agg - used) else 0
theorem paysQ_bd (c : Cv) (loss used : Int) : 0 ≤ paysQ c loss used ∧ (paysQ c loss used = 0 ∨ paysQ c loss used ≤ c.agg - used) := by
  unfold paysQ
  split
  · have := leastI_bd (shareQ c (amtQ c loss)) (c.agg - used); omega
  · omega
set_option maxRecDepth 100000 in
set_option maxHeartbeats 2000000 in
theorem pays_any (c : Cv) (loss used : Int) (hl : loss ≤ 9223372036854775807) (hu : used ≤ 9223372036854775807) (w : World) (ho : okCv c) :
    Calls Tryz.prog 32 #[.agg #[.int .i64 c.p, .int .i64 c.lim, .int .i64 c.agg, .int .i64 c.ded, .int .i64 c.sh], .int .i64 loss, .int .i64 used] w fun e w' => e = .returned (.int .i64 (paysQ c loss used)) ∧ Below w.heap.size w w' := by
  obtain ⟨w1, hw1⟩ : ∃ W, w.alloc (.cells (cvC c) 41) = W := ⟨_, rfl⟩
  have H1 := hide (show Below w.heap.size w w1 by rw [← hw1]; exact (Below.refl _ _).alloc (Nat.le_refl _) _)
  have HB := hide (show Blk w1 w.heap.size 41 (cvC c) by rw [← hw1]; exact Blk.new _ _ _)
  obtain ⟨x0, x1, x2, x3, x4⟩ := cv_cells HB.out
  have HW := hide hw1
  obtain ⟨b, hb⟩ : ∃ b, coverB c = b := ⟨_, rfl⟩
  have HR := hide (show Calls Tryz.prog 58 #[.agg #[.int .i64 c.p, .int .i64 c.lim, .int .i64 c.agg, .int .i64 c.ded, .int .i64 c.sh]] w1 fun e w' => e = .returned (.bool b) ∧ Below w1.heap.size w1 w' by rw [← hb]; exact cover_any c ho w1)
  have HBB := hide hb
  clear hw1 hb ho
  have hmf : ∀ (fn : Fn) (first cap : Array Value) (w : World), (Instr.makeFunc fn first cap).run Tryz.prog w = .ok (.func fn first cap) w := fun _ _ _ _ => rfl
  go_enter Tryz.func32, Tryz.ntmps32
  go_upto_region 1 with fail
  rw [show w.alloc (.cells #[.int .i64 c.p, .int .i64 c.lim, .int .i64 c.agg, .int .i64 c.ded, .int .i64 c.sh] 41) = w1 from HW.out]
  go_wp2_with fail
  refine HR.out.mono ?_
  rintro e w2 ⟨rfl, h2⟩
  have H2 := hide (chain H1.out h2)
  have HB2 := hide (HB.out.below h2 HB.out.lt)
  clear h2 x0 x1 x2 x3 x4
  obtain ⟨x0, x1, x2, x3, x4⟩ := cv_cells HB2.out
  cases b
  · have HQ := hide (show paysQ c loss used = 0 by rw [paysQ, if_neg (by rw [HBB.out]; simp)])
    clear x0 x1 x2 x3 x4
    go_wp2_with fail
    go_ret
    exact ⟨ret_int HQ.out.symm, H2.out⟩
  by_cases h0 : loss < 0
  · have hz : decide (loss < 0) = true := by simpa using h0
    have HQ := hide (show paysQ c loss used = 0 by rw [paysQ, if_neg (by omega)])
    clear x0 x1 x2 x3 x4
    go_wp2_with fail
    go_ret
    exact ⟨ret_int HQ.out.symm, H2.out⟩
  have hz0 : decide (loss < 0) = false := by simpa using h0
  by_cases hu0 : used < 0
  · have hz : decide (used < 0) = true := by simpa using hu0
    have HQ := hide (show paysQ c loss used = 0 by rw [paysQ, if_neg (by omega)])
    clear x0 x1 x2 x3 x4
    go_wp2_with fail
    go_ret
    exact ⟨ret_int HQ.out.symm, H2.out⟩
  have hzu : decide (used < 0) = false := by simpa using hu0
  have HQ := hide (show paysQ c loss used = leastI (shareQ c (amtQ c loss)) (c.agg - used) by rw [paysQ, if_pos ⟨HBB.out, by omega, by omega⟩])
  obtain ⟨A1, hA1⟩ : ∃ A, amtQ c loss = A := ⟨_, rfl⟩
  obtain ⟨A2, hA2⟩ : ∃ A, shareQ c A1 = A := ⟨_, rfl⟩
  have hbd := amtQ_bd HBB.out loss
  rw [hA1] at hbd
  have hbd2 := shareQ_bd c A1
  rw [hA2] at hbd2
  have HCL := hide (show ∀ W, Calls Tryz.prog 59 #[.agg #[.int .i64 c.p, .int .i64 c.lim, .int .i64 c.agg, .int .i64 c.ded, .int .i64 c.sh], .int .i64 loss] W fun e w' => e = .returned (.int .i64 A1) ∧ Below W.heap.size W w' from fun W => by rw [← hA1]; exact tclaim_any c loss HBB.out (by omega) hl W)
  have HSH := hide (show ∀ W, Calls Tryz.prog 60 #[.agg #[.int .i64 c.p, .int .i64 c.lim, .int .i64 c.agg, .int .i64 c.ded, .int .i64 c.sh], .int .i64 A1] W fun e w' => e = .returned (.int .i64 A2) ∧ Below W.heap.size W w' from fun W => by rw [← hA2]; exact tshare_any c A1 HBB.out (by omega) (by omega) W)
  rw [hA1, hA2] at HQ
  have hp := coverB_parts HBB.out
  obtain ⟨u, hu⟩ : ∃ u, c.agg - used = u := ⟨_, rfl⟩
  rw [hu] at HQ
  have HU := hide hu
  have hur : -9223372036854775808 ≤ c.agg - used ∧ c.agg - used ≤ 9223372036854775807 := by omega
  clear hA1 hA2 hu hp
  go_upto_region 4 with fail
  obtain ⟨w3, hw3⟩ : ∃ W, w2.alloc (.cells #[.func (.func 59) #[.agg #[.int .i64 c.p, .int .i64 c.lim, .int .i64 c.agg, .int .i64 c.ded, .int .i64 c.sh]] #[], .func (.func 60) #[.agg #[.int .i64 c.p, .int .i64 c.lim, .int .i64 c.agg, .int .i64 c.ded, .int .i64 c.sh]] #[]] 84) = W := ⟨_, rfl⟩
  have h23 : Below w2.heap.size w2 w3 := by rw [← hw3]; exact (Below.refl _ _).alloc (Nat.le_refl _) _
  have HF := hide (show Blk w3 w2.heap.size 84 #[.func (.func 59) #[.agg #[.int .i64 c.p, .int .i64 c.lim, .int .i64 c.agg, .int .i64 c.ded, .int .i64 c.sh]] #[], .func (.func 60) #[.agg #[.int .i64 c.p, .int .i64 c.lim, .int .i64 c.agg, .int .i64 c.ded, .int .i64 c.sh]] #[]] by rw [← hw3]; exact Blk.new _ _ _)
  have HB3 := hide (HB2.out.below h23 HB2.out.lt)
  have H3 := hide (chain H2.out h23)
  have HW3 := hide hw3
  clear h23 hw3
  go_upto_region 5 with fail
  rw [HW3.out]
  clear x0 x1 x2 x3 x4 HW3
  go_loopw [7, 28] (fun p q W => Below w3.heap.size w3 W ∧ ((q = .int .i64 0 ∧ p = .int .i64 loss) ∨ (q = .int .i64 1 ∧ p = .int .i64 A1) ∨ (q = .int .i64 2 ∧ p = .int .i64 A2))) (fun _ q _ => 2 - (RowKit.intOf q).toNat)
  case atStart => exact ⟨Below.refl _ _, .inl ⟨rfl, rfl⟩⟩
  case round =>
    obtain ⟨hb, hq⟩ := hrel
    have HBE := hide hb
    have HFr := hide (HF.out.below hb HF.out.lt)
    have HBr := hide (HB3.out.below hb HB3.out.lt)
    clear hb
    rcases hq with ⟨rfl, rfl⟩ | ⟨rfl, rfl⟩ | ⟨rfl, rfl⟩
    · have y0 := HFr.out.cell 0
      simp at y0
      go_wp2_with fail
      refine (HCL.out _).mono ?_
      rintro e w4 ⟨rfl, h4⟩
      have H4 := hide (chain HBE.out h4)
      clear h4 y0
      go_wp2_with fail
      go_roundw
      case rel => exact ⟨H4.out, .inr (.inl ⟨rfl, rfl⟩)⟩
      case measure => simp [RowKit.intOf]
    · have y1 := HFr.out.cell 1
      simp at y1
      go_wp2_with fail
      refine (HSH.out _).mono ?_
      rintro e w4 ⟨rfl, h4⟩
      have H4 := hide (chain HBE.out h4)
      clear h4 y1
      go_wp2_with fail
      go_roundw
      case rel => exact ⟨H4.out, .inr (.inr ⟨rfl, rfl⟩)⟩
      case measure => simp [RowKit.intOf]
    · obtain ⟨x0, x1, x2, x3, x4⟩ := cv_cells HBr.out
      have hwu : wrap64 (c.agg - used) = u := by rw [← HU.out]; exact IntWalk.wrap64_in _ hur
      have HLE := hide (fun W (hB : Blk W wr.heap.size 3 #[.int .i64 u]) => least_any wr.heap.size A2 u W hB)
      have HWU := hide hwu
      have HAL := hide ((chain H3.out HBE.out).alloc (by have := (chain H3.out HBE.out).size; omega) (.cells #[.int .i64 u] 3))
      clear hwu x0 x1 x3 x4 HBr HFr
      go_wp2_with fail
      rw [HU.out]
      refine (HLE.out _ (Blk.new _ _ _)).mono ?_
      rintro e w4 ⟨rfl, rfl⟩
      clear x2
      go_wp2_with fail
      go_ret
      exact ⟨ret_int HQ.out.symm, HAL.out⟩
end Go.Proofs.YtmfohnchnbgbaaaGreatDoor

/- What a year of covers costs. -/
namespace Go.Proofs.YtmfohnchnbgbaaaGreatDoor
open Go.RowKit

/-- What a year of covers costs, and what is amiss: s so far, as long as it fits. -/
def yearG (v : Ver) (k vl a z : Int) : List Cv → Int → Bool → Int × Int
  | [], s, true => (s, 0)
  | [], _, false => (0, 5)
  | c :: r, s, f => if oneE v k vl a z c = 0 then (if f = true then (if 4000000000000000000 - s < oneV v k vl a z c then yearG v k vl a z r 0 false else yearG v k vl a z r (s + oneV v k vl a z c) true) else yearG v k vl a z r s false) else (0, oneE v k vl a z c)
def yearQ (v : Ver) (k vl a z : Int) (l : List Cv) : Int × Int := yearG v k vl a z l 0 true
theorem oneV_bd (v : Ver) (k vl a z : Int) (c : Cv) : 0 ≤ oneV v k vl a z c ∧ oneV v k vl a z c ≤ 4000000000000000000 := by
  unfold oneV
  split
  · rename_i h
    simp only [Bool.and_eq_true] at h
    have hn : 1 ≤ v.f ∧ v.f ≤ 292194 ∧ 0 ≤ v.mn ∧ v.mn ≤ 1000000000000000 := by
      have := h.1
      simp only [versionB, Bool.and_eq_true, numsB, decide_eq_true_eq] at this
      exact this.1
    have hr : 0 ≤ k ∧ k < 4 ∧ 1 ≤ vl ∧ vl ≤ 1000000000000000 ∧ 0 ≤ a ∧ a ≤ 200 ∧ 0 ≤ z ∧ z < 100 := of_decide_eq_true h.2.1
    split
    · omega
    · have : ∀ (l : List Nat) (m n : Nat), m ≤ 4000000000000000000 → chainN m l = some n → n ≤ 4000000000000000000 := by
        intro l
        induction l with
        | nil => intro m n hm h; simp [chainN] at h; omega
        | cons b r ih =>
          intro m n hm h
          rw [chainN] at h
          split at h
          · exact ih _ _ (evQ_le4 _ _ _) h
          · cases h
      cases hc : chainN vl.toNat (facsN v k a z c) with
      | none => simp [vOf]
      | some m =>
        have := this _ _ _ (by omega) hc
        simp only [vOf]; omega
  · omega

theorem adder_any (w : World) : Calls Tryz.prog 76 #[] w fun e w' => e = .returned (.func (.func 127) #[] #[.pointer (some ⟨w.heap.size, 0, none⟩)]) ∧ w' = w.alloc (.cells #[.int .i64 0] 3) := by
  have hmf : ∀ (fn : Fn) (first cap : Array Value) (w : World), (Instr.makeFunc fn first cap).run Tryz.prog w = .ok (.func fn first cap) w := fun _ _ _ _ => rfl
  go_enter Tryz.func76, Tryz.ntmps76
  go_wp2
  go_ret
  exact ⟨rfl, rfl⟩
def AddP (g : Nat) (s m : Int) (w : World) (e : Ending) (w' : World) : Prop :=
  if 4000000000000000000 - s < m then e = .returned (.tuple #[.int .i64 0, .bool false]) ∧ w' = w else e = .returned (.tuple #[.int .i64 (s + m), .bool true]) ∧ w' = w.setCell ⟨g, 0, none⟩ (.int .i64 (s + m))
theorem add_any (g : Nat) (s m : Int) (w : World) (hB : Blk w g 3 #[.int .i64 s]) (hs : 0 ≤ s ∧ s ≤ 4000000000000000000) (hm : 0 ≤ m ∧ m ≤ 4000000000000000000) :
    Calls Tryz.prog 127 #[.int .i64 m, .pointer (some ⟨g, 0, none⟩)] w (AddP g s m w) := by
  have c0 := hB.cell 0
  have f0 := hB.frozen 0
  have hl := hB.lt
  simp at c0
  have c1 : (w.setCell ⟨g, 0, none⟩ (.int .i64 (s + m))).cell? ⟨g, 0, none⟩ = some (.int .i64 (s + m)) := by
    have := (hB.set_ 0 (.int .i64 (s + m))).cell 0
    simpa using this
  by_cases h : 4000000000000000000 - s < m
  all_goals
    go_enter Tryz.func127, Tryz.ntmps127
    go_wp2
    go_ret2
    simp [AddP, h]

theorem chainB {B : Nat} {a b c : World} (h : Below B a b) (hB : B ≤ b.heap.size) (h2 : Below b.heap.size b c) : Below B a c := h.trans (h2.mono hB)
def YearP (R : Int × Int) (w : World) (e : Ending) (w' : World) : Prop := e = .returned (.tuple #[.int .i64 R.1, .int .i64 R.2]) ∧ Below w.heap.size w w'
structure YearW (w w1 : World) (s : Int) (wr : World) : Prop where
  b : Below (w.heap.size + 1 + 1) w1 wr
  a : Blk wr (w.heap.size + 1 + 1) 3 #[.int .i64 s]
set_option maxRecDepth 100000 in
set_option maxHeartbeats 4000000 in
theorem yearC_any (x : Vw) (k vl a z : Int) (A : Option Addr) (cap n : Nat) (l : List Cv) (w : World) (hx : VOK w x) (hs : SV w 5 A n cap (l.map encCv)) (ho : ∀ c ∈ l, okCv c) :
    Calls Tryz.prog 40 #[.agg #[.int .i64 x.f, .int .i64 x.b0, .int .i64 x.b1, .int .i64 x.b2, .int .i64 x.b3, .slice x.aA x.age.length x.aC, .slice x.zA x.zone.length x.zC, .slice x.pA x.peril.length x.pC, .int .i64 x.mn], .agg #[.int .i64 k, .int .i64 vl, .int .i64 a, .int .i64 z], .slice A n cap] w (YearP (yearQ x.v k vl a z l) w) := by
  have hn : l.length = n := by have := hs.len; simpa using this
  have hle := hs.le
  have hmo := hs.most
  unfold maxLen at hmo
  obtain ⟨R, hR⟩ : ∃ R, yearQ x.v k vl a z l = R := ⟨_, rfl⟩
  rw [hR]
  have HR := hide hR
  have HN := hide hn
  have HX := hide hx
  have HS := hide hs
  have HO := hide ho
  clear hR hn hx hs ho
  obtain ⟨w1, hw1⟩ : ∃ W, ((w.alloc (.cells (boxV x) 114)).alloc (.cells #[.int .i64 k, .int .i64 vl, .int .i64 a, .int .i64 z] 58)).alloc (.cells #[.int .i64 0] 3) = W := ⟨_, rfl⟩
  have hB0 : Blk w1 w.heap.size 114 (boxV x) := by rw [← hw1]; exact ((Blk.new _ _ _).alloc _).alloc _
  have hB1 : Blk w1 (w.heap.size + 1) 58 #[.int .i64 k, .int .i64 vl, .int .i64 a, .int .i64 z] := by rw [← hw1]; exact (Blk.new' (by simp)).alloc _
  have hB2 : Blk w1 (w.heap.size + 1 + 1) 3 #[.int .i64 0] := by rw [← hw1]; exact Blk.new' (by simp)
  have hb1 : Below w.heap.size w w1 := by rw [← hw1]; exact (((Below.refl _ _).alloc (Nat.le_refl _) _).alloc (by simp) _).alloc (by simp; omega) _
  have lt0 := hB2.lt
  have HW := hide hw1
  have HB0 := hide hB0
  have HB1 := hide hB1
  have HB2 := hide hB2
  have H1 := hide hb1
  clear hw1 hB0 hB1 hB2 hb1
  go_enter Tryz.func40, Tryz.ntmps40
  go_wp2_with fail
  refine (adder_any _).mono ?_
  rintro e w' ⟨rfl, rfl⟩
  rw [show ((w.alloc (.cells #[.int .i64 x.f, .int .i64 x.b0, .int .i64 x.b1, .int .i64 x.b2, .int .i64 x.b3, .slice x.aA x.age.length x.aC, .slice x.zA x.zone.length x.zC, .slice x.pA x.peril.length x.pC, .int .i64 x.mn] 114)).alloc (.cells #[.int .i64 k, .int .i64 vl, .int .i64 a, .int .i64 z] 58)).alloc (.cells #[.int .i64 0] 3) = w1 from HW.out]
  simp only [World.size_alloc]
  go_wp2_with fail
  go_loopw [9, 10, 18] (fun q9 q10 q18 wr => ∃ (j : Nat) (s s' : Int) (f : Bool), j ≤ n ∧ q18 = .int .i64 j ∧ q9 = .int .i64 s ∧ q10 = .bool f ∧ 0 ≤ s' ∧ s' ≤ 4000000000000000000 ∧ yearG x.v k vl a z (l.drop j) s f = R ∧ (f = true → s' = s) ∧ YearW w w1 s' wr) (fun _ _ q _ => n - (RowKit.intOf q).toNat)
  case atStart => exact ⟨0, 0, 0, true, Nat.zero_le _, rfl, rfl, rfl, by omega, by omega, HR.out, fun _ => rfl, Below.refl _ _, HB2.out⟩
  case round =>
    obtain ⟨j, s, s', f, hj, rfl, rfl, rfl, hs1, hs2, hyr, hfs, hYW⟩ := hrel
    have HY := hide hyr
    have HF := hide hfs
    have HYW := hide hYW
    clear hyr hfs hYW
    have hb0 : Below w.heap.size w wr := H1.out.trans (HYW.out.b.mono (by omega))
    have hsz := hb0.size
    by_cases hlt : j < n
    · obtain ⟨c, hc⟩ := get_of (l := l) (k := j) (by rw [HN.out]; exact hlt)
      obtain ⟨b, off, rfl, hbl, c0, c1, c2, c3, c4⟩ := (HS.out.below hb0).sl.cv hc
      have HOK := hide (HO.out c (List.mem_of_getElem? hc))
      have HD := hide (drop_of hc)
      have hk0 : (0 : Int) ≤ (j : Int) := by omega
      have hk1 : (j : Int) < (n : Int) := by omega
      have HBv := hide (HB0.out.below HYW.out.b (by omega))
      have HBr := hide (HB1.out.below HYW.out.b (by omega))
      have v0 := HBv.out.cell 0
      have v1 := HBv.out.cell 1
      have v2 := HBv.out.cell 2
      have v3 := HBv.out.cell 3
      have v4 := HBv.out.cell 4
      have v5 := HBv.out.cell 5
      have v6 := HBv.out.cell 6
      have v7 := HBv.out.cell 7
      have v8 := HBv.out.cell 8
      simp [boxV] at v0 v1 v2 v3 v4 v5 v6 v7 v8
      have r0 := HBr.out.cell 0
      have r1 := HBr.out.cell 1
      have r2 := HBr.out.cell 2
      have r3 := HBr.out.cell 3
      simp at r0 r1 r2 r3
      have hzr : w.heap.size + 1 + 1 < wr.heap.size := HYW.out.a.lt
      have hz1 : w.heap.size + 1 < wr.heap.size := by omega
      have hz0 : w.heap.size < wr.heap.size := by omega
      have HYA := hide ((HYW.out.b.alloc (by omega) (.cells #[.int .i64 c.p, .int .i64 c.lim, .int .i64 c.agg, .int .i64 c.ded, .int .i64 c.sh] 41)))
      have HYB := hide (HYW.out.a.alloc (.cells #[.int .i64 c.p, .int .i64 c.lim, .int .i64 c.agg, .int .i64 c.ded, .int .i64 c.sh] 41))
      have HXW := hide (HX.out.below (hb0.alloc hsz (.cells #[.int .i64 c.p, .int .i64 c.lim, .int .i64 c.agg, .int .i64 c.ded, .int .i64 c.sh] 41)))
      obtain ⟨E1, hE1⟩ : ∃ z', oneE x.v k vl a z c = z' := ⟨_, rfl⟩
      obtain ⟨V1, hV1⟩ : ∃ z', oneV x.v k vl a z c = z' := ⟨_, rfl⟩
      have hVb := oneV_bd x.v k vl a z c
      have HONE := hide (one_any x k vl a z c _ HXW.out HOK.out)
      rw [hE1, hV1] at HONE
      rw [hV1] at hVb
      have HE1 := hide hE1
      have HV1 := hide hV1
      obtain ⟨hV0, hV4⟩ := hVb
      clear hc hb0 hE1 hV1
      by_cases hE : E1 = 0
      · subst hE
        go_wp2_with fail
        refine HONE.out.mono ?_
        rintro e w4 ⟨rfl, h4⟩
        have HY4 := hide (YearW.mk (w := w) (chainB HYA.out (by simp; omega) h4) (HYB.out.below h4 (by simp; omega)))
        clear h4 v0 v1 v2 v3 v4 v5 v6 v7 v8 r0 r1 r2 r3 c0 c1 c2 c3 c4
        cases f
        · go_wp2_with fail
          go_roundw
          case rel => exact ⟨j + 1, s, s', false, by omega, by go_num, rfl, rfl, hs1, hs2, by
            have := HY.out
            rw [HD.out, yearG, if_pos HE1.out, if_neg (by simp)] at this
            exact this, (fun h => by cases h), HY4.out⟩
          case measure => simp [RowKit.intOf]; omega
        · obtain rfl : s' = s := HF.out rfl
          go_wp2_with fail
          refine (add_any (w.heap.size + 1 + 1) s' V1 _ HY4.out.a ⟨hs1, hs2⟩ ⟨hV0, hV4⟩).mono ?_
          intro e w5 hadd
          unfold AddP at hadd
          by_cases hov : 4000000000000000000 - s' < V1
          · rw [if_pos hov] at hadd
            obtain ⟨rfl, rfl⟩ := hadd
            go_wp2_with fail
            go_roundw
            case rel => exact ⟨j + 1, 0, s', false, by omega, by go_num, rfl, rfl, hs1, hs2, by
              have := HY.out
              rw [HD.out, yearG, if_pos HE1.out, if_pos rfl, HV1.out, if_pos hov] at this
              exact this, (fun h => by cases h), HY4.out⟩
            case measure => simp [RowKit.intOf]; omega
          · rw [if_neg hov] at hadd
            obtain ⟨rfl, rfl⟩ := hadd
            go_wp2_with fail
            go_roundw
            case rel => exact ⟨j + 1, s' + V1, s' + V1, true, by omega, by go_num, rfl, rfl, by omega, by omega, by
              have := HY.out
              rw [HD.out, yearG, if_pos HE1.out, if_pos rfl, HV1.out, if_neg (by omega)] at this
              exact this, fun _ => rfl, HY4.out.b.setCell (by simp) _, by simpa using HY4.out.a.set_ 0 (.int .i64 (s' + V1))⟩
            case measure => simp [RowKit.intOf]; omega
      · have hE' : ¬ E1 = 0 := hE
        have hER : R = (0, E1) := by
          have := HY.out
          rw [HD.out, yearG, if_neg (by rw [HE1.out]; exact hE), HE1.out] at this
          exact this.symm
        subst hER
        have hne : (E1 != 0) = true := by simpa using hE
        go_wp2_with fail
        refine HONE.out.mono ?_
        rintro e w4 ⟨rfl, h4⟩
        have H4 := hide (H1.out.trans ((chainB HYA.out (by simp; omega) h4).mono (by omega)))
        clear h4 v0 v1 v2 v3 v4 v5 v6 v7 v8 r0 r1 r2 r3 c0 c1 c2 c3 c4
        go_wp2_with fail
        go_ret2
        exact ⟨rfl, H4.out⟩
    · obtain rfl : j = n := by omega
      have hd : l.drop j = [] := List.drop_eq_nil_of_le (by rw [HN.out]; exact Nat.le_refl _)
      cases f
      · have hER : R = (0, 5) := by
          have := HY.out
          rw [hd, yearG] at this
          exact this.symm
        subst hER
        clear hd
        have HB := hide hb0
        clear hb0
        go_wp2_with fail
        go_ret2
        exact ⟨rfl, HB.out⟩
      · have hER : R = (s, 0) := by
          have := HY.out
          rw [hd, yearG] at this
          exact this.symm
        subst hER
        clear hd
        have HB := hide hb0
        clear hb0
        go_wp2_with fail
        go_ret2
        exact ⟨rfl, HB.out⟩
end Go.Proofs.YtmfohnchnbgbaaaGreatDoor
