/- Part 7 of the proof. -/
import Derived.Deep.RegionHeld3
import Derived.Maps.OwnSet
import Derived.Test.YtmfohnchnbgbaaaGreatTcM05
import Derived.Test.YtmfohnchnbgbaaaGreatTcM06
/- A product divided, to the nearest one: the program's. -/
namespace Go.Proofs.YtmfohnchnbgbaaaGreat
open Go.RowKit

/-- Up to the nearest one, or the even one. -/
def upN (q r c : Nat) : Nat := if c - r < r ∨ (r = c - r ∧ q % 2 = 1) then q + 1 else q
/-- a times b by c; what is amiss. -/
def evN (a b c : Nat) : Nat := upN (a * b / c) (a * b % c) c
def evE (a b c : Nat) : Int := if evN a b c ≤ 4000000000000000000 then 0 else 5
def evQ (a b c : Nat) : Nat := if evN a b c ≤ 4000000000000000000 then evN a b c else 0
theorem upN_ge (q r c : Nat) : q ≤ upN q r c ∧ upN q r c ≤ q + 1 := by unfold upN; split <;> omega

def upB (q r c : Nat) : Bool := decide (c - r < r ∨ (r = c - r ∧ q % 2 = 1))
set_option maxRecDepth 100000 in
theorem up1_any (q r c : Nat) (hq : q < 18446744073709551616) (hr : r < c) (hc : c < 9223372036854775808) (w : World) :
    Calls Tryz.prog 99 #[.int .u64 q, .int .u64 r, .int .u64 c] w fun e w' => e = .returned (.bool (upB q r c)) ∧ w' = w := by
  obtain ⟨d, hd⟩ : ∃ d, c - r = d := ⟨_, rfl⟩
  have E1 : IntKind.u64.wrap ((c : Int) - (r : Int)) = (d : Int) := by rw [show (c : Int) - (r : Int) = (d : Int) by omega]; exact Mul64.wrapN _ (by omega)
  have HD := hide hd
  clear hd
  by_cases h1 : d < r
  · have h1' : (d : Int) < (r : Int) := by omega
    have HU := hide (show upB q r c = true by unfold upB; rw [HD.out]; simp; omega)
    go_enter Tryz.func99, Tryz.ntmps99
    go_wp2_with fail
    go_ret
    exact ⟨ret_bool HU.out.symm, rfl⟩
  · have h1' : ¬ (d : Int) < (r : Int) := by omega
    by_cases h2 : r = d
    · subst h2
      have h2' : ((r : Int) == (r : Int)) = true := by simp
      rcases Nat.mod_two_eq_zero_or_one q with h3 | h3
      · have h3' : (q : Int) % 2 = 0 := by omega
        have HU := hide (show upB q r c = false by unfold upB; rw [HD.out]; simp; omega)
        clear h3
        go_enter Tryz.func99, Tryz.ntmps99
        go_wp2_with fail
        go_ret
        exact ⟨ret_bool HU.out.symm, rfl⟩
      · have h3' : (q : Int) % 2 = 1 := by omega
        have HU := hide (show upB q r c = true by unfold upB; rw [HD.out]; simp; omega)
        clear h3
        go_enter Tryz.func99, Tryz.ntmps99
        go_wp2_with fail
        go_ret
        exact ⟨ret_bool HU.out.symm, rfl⟩
    · have h2' : ((r : Int) == (d : Int)) = false := by simp; omega
      have HU := hide (show upB q r c = false by unfold upB; rw [HD.out]; simp; omega)
      go_enter Tryz.func99, Tryz.ntmps99
      go_wp2_with fail
      go_ret
      exact ⟨ret_bool HU.out.symm, rfl⟩

set_option maxRecDepth 100000 in
set_option maxHeartbeats 1000000 in
theorem of_any_Lad (a b c : Nat) (ha : a ≤ 9223372036854775807) (hb : b ≤ 9223372036854775807) (hc : c ≤ 9223372036854775807) (hc0 : 0 < c) (w : World) :
    Calls Tryz.prog 56 #[.agg #[.func (.func 99) #[] #[]], .int .i64 a, .int .i64 b, .int .i64 c] w
      fun e w' => e = .returned (.tuple #[.int .i64 (evQ a b c : Nat), .int .i64 (evE a b c)]) ∧ Below w.heap.size w w' := by
  have ha0 : ¬ (a : Int) < 0 := by omega
  have hb0 : ¬ (b : Int) < 0 := by omega
  have hcz : ¬ (c : Int) < 0 := by omega
  have hcy : ((c : Int) == 0) = false := by simp; omega
  have C1 : IntKind.u64.wrap (a : Int) = (a : Int) := Mul64.wrapN _ (by omega)
  have C2 : IntKind.u64.wrap (b : Int) = (b : Int) := Mul64.wrapN _ (by omega)
  have C3 : IntKind.u64.wrap (c : Int) = (c : Int) := Mul64.wrapN _ (by omega)
  go_enter Tryz.func56, Tryz.ntmps56
  go_wp2_with fail
  refine (mul64_any a b (by omega) (by omega) _).mono ?_
  rintro e w1 ⟨rfl, rfl⟩
  obtain ⟨p, hp⟩ : ∃ p, a * b = p := ⟨_, rfl⟩
  rw [hp]
  obtain ⟨hi, hhi⟩ : ∃ z, p / 18446744073709551616 = z := ⟨_, rfl⟩
  obtain ⟨lo, hlo⟩ : ∃ z, p % 18446744073709551616 = z := ⟨_, rfl⟩
  rw [hhi, hlo]
  have hpe : 18446744073709551616 * hi + lo = p := by omega
  have hlob : lo < 18446744073709551616 := by omega
  have HPE := hide hpe
  have HP := hide hp
  clear hhi hlo hpe hp
  by_cases hbig : c ≤ hi
  · have hbig' : (c : Int) ≤ (hi : Int) := by omega
    have HE := hide (show evE a b c = 5 ∧ evQ a b c = 0 by
      have h1 : 18446744073709551616 ≤ a * b / c := by
        rw [HP.out, ← HPE.out]
        refine (Nat.le_div_iff_mul_le hc0).2 ?_
        have : 18446744073709551616 * c ≤ 18446744073709551616 * hi := Nat.mul_le_mul_left _ hbig
        omega
      have h2 := (upN_ge (a * b / c) (a * b % c) c).1
      have h3 : ¬ evN a b c ≤ 4000000000000000000 := by unfold evN; omega
      exact ⟨by rw [evE, if_neg h3], by rw [evQ, if_neg h3]⟩)
    go_wp2_with fail
    go_ret2
    rw [HE.out.1, HE.out.2]
    exact ⟨rfl, (Below.refl _ _).alloc (Nat.le_refl _) _⟩
  · have hbig' : ¬ (c : Int) ≤ (hi : Int) := by omega
    go_wp2_with fail
    refine (div64_any hi lo c hlob (by omega) hc0 (by omega) _).mono ?_
    rintro e w1 ⟨rfl, hb1⟩
    rw [HPE.out]
    have K0 : w1.cell? ⟨w.heap.size, 0, none⟩ = some (.func (.func 99) #[] #[]) := kept hb1 (by simp)
    have HB1 := hide (chain1 hb1)
    obtain ⟨q, hq⟩ : ∃ z, p / c = z := ⟨_, rfl⟩
    obtain ⟨r, hr⟩ : ∃ z, p % c = z := ⟨_, rfl⟩
    rw [hq, hr]
    have hrc : r < c := by rw [← hr]; exact Nat.mod_lt _ hc0
    have hqb : q < 18446744073709551616 := by
      rw [← hq, ← HPE.out]
      refine Nat.div_lt_of_lt_mul ?_
      have : (hi + 1) * 18446744073709551616 ≤ c * 18446744073709551616 := Nat.mul_le_mul_right _ (by omega)
      omega
    have hkl := block_lt_of_cell K0
    have HN := hide (show evN a b c = upN q r c by unfold evN; rw [HP.out, hq, hr])
    clear hb1 hq hr
    by_cases hq4 : 4000000000000000000 < q
    · have hq4' : (4000000000000000000 : Int) < (q : Int) := by omega
      have HE := hide (show evE a b c = 5 ∧ evQ a b c = 0 by
        have h2 := (upN_ge q r c).1
        have h3 : ¬ evN a b c ≤ 4000000000000000000 := by rw [HN.out]; omega
        exact ⟨by rw [evE, if_neg h3], by rw [evQ, if_neg h3]⟩)
      go_wp2_with fail
      go_ret2
      rw [HE.out.1, HE.out.2]
      exact ⟨rfl, HB1.out⟩
    · have hq4' : ¬ (4000000000000000000 : Int) < (q : Int) := by omega
      go_wp2_with fail
      refine (up1_any q r c hqb hrc (by omega) _).mono ?_
      rintro e w2 ⟨rfl, rfl⟩
      cases hu : upB q r c
      · have hun : upN q r c = q := by unfold upN; rw [if_neg (of_decide_eq_false hu)]
        have HE := hide (show evE a b c = 0 ∧ evQ a b c = q by
          have h3 : evN a b c ≤ 4000000000000000000 := by rw [HN.out, hun]; omega
          exact ⟨by rw [evE, if_pos h3], by rw [evQ, if_pos h3, HN.out, hun]⟩)
        clear hu hun
        go_wp2_with fail
        go_ret2
        rw [HE.out.1, HE.out.2]
        exact ⟨rfl, HB1.out⟩
      · have hun : upN q r c = q + 1 := by unfold upN; rw [if_pos (of_decide_eq_true hu)]
        obtain ⟨q2, hq2⟩ : ∃ z, q + 1 = z := ⟨_, rfl⟩
        have F1 : IntKind.u64.wrap ((q : Int) + 1) = (q2 : Int) := by rw [show (q : Int) + 1 = (q2 : Int) by omega]; exact Mul64.wrapN _ (by omega)
        rw [hq2] at hun
        have HU := hide hun
        have hq2b : q2 ≤ 4000000000000000001 := by omega
        clear hu hun hq2
        by_cases hq5 : 4000000000000000000 < q2
        · have hq5' : (4000000000000000000 : Int) < (q2 : Int) := by omega
          have HE := hide (show evE a b c = 5 ∧ evQ a b c = 0 by
            have h3 : ¬ evN a b c ≤ 4000000000000000000 := by rw [HN.out, HU.out]; omega
            exact ⟨by rw [evE, if_neg h3], by rw [evQ, if_neg h3]⟩)
          go_wp2_with fail
          go_ret2
          rw [HE.out.1, HE.out.2]
          exact ⟨rfl, HB1.out⟩
        · have hq5' : ¬ (4000000000000000000 : Int) < (q2 : Int) := by omega
          have HE := hide (show evE a b c = 0 ∧ evQ a b c = q2 by
            have h3 : evN a b c ≤ 4000000000000000000 := by rw [HN.out, HU.out]; omega
            exact ⟨by rw [evE, if_pos h3], by rw [evQ, if_pos h3, HN.out, HU.out]⟩)
          go_wp2_with fail
          go_ret2
          rw [HE.out.1, HE.out.2]
          exact ⟨rfl, HB1.out⟩

theorem even0_any (w : World) : Calls Tryz.prog 55 #[] w fun e w' => e = .returned (.agg #[.func (.func 99) #[] #[]]) ∧ Below w.heap.size w w' := by
  have hst : (store ⟨w.heap.size, 0, none⟩ (.func (.func 99) #[] #[])).run Tryz.prog (w.alloc (.cells #[.nilFunc] 146)) = .ok () ((w.alloc (.cells #[.nilFunc] 146)).setCell ⟨w.heap.size, 0, none⟩ (.func (.func 99) #[] #[])) := by
    rw [run_store Tryz.prog _ ⟨w.heap.size, 0, none⟩ _ _ (by rfl)]
    simp
  go_enter Tryz.func55, Tryz.ntmps55
  go_wp2_with fail
  exact ret_row rfl rfl rfl (Blk.new w 146 #[.func (.func 99) #[] #[]]) Tryz.underlying146 rfl (by kernel_rfl) ⟨rfl, (Below.refl _ _).alloc (Nat.le_refl _) _⟩
theorem even_any (a b c : Nat) (ha : a ≤ 9223372036854775807) (hb : b ≤ 9223372036854775807) (hc : c ≤ 9223372036854775807) (hc0 : 0 < c) (w : World) :
    Calls Tryz.prog 25 #[.int .i64 a, .int .i64 b, .int .i64 c] w
      fun e w' => e = .returned (.tuple #[.int .i64 (evQ a b c : Nat), .int .i64 (evE a b c)]) ∧ Below w.heap.size w w' := by
  obtain ⟨q, hq⟩ : ∃ z, evQ a b c = z := ⟨_, rfl⟩
  obtain ⟨k, hk⟩ : ∃ z, evE a b c = z := ⟨_, rfl⟩
  have HQ := hide hq
  have HK := hide hk
  rw [hq, hk]
  clear hq hk
  go_enter Tryz.func25, Tryz.ntmps25
  go_wp2_with fail
  refine (even0_any w).mono ?_
  rintro e w1 ⟨rfl, hb1⟩
  have HB1 := hide hb1
  clear hb1
  go_wp2_with fail
  refine (of_any_Lad a b c ha hb hc hc0 _).mono ?_
  rintro e w2 ⟨rfl, hb2⟩
  rw [HQ.out, HK.out]
  have HB2 := hide (chain HB1.out hb2)
  clear hb2
  go_wp2_with fail
  go_ret2
  exact ⟨rfl, HB2.out⟩
end Go.Proofs.YtmfohnchnbgbaaaGreat

/- What a year of a cover costs, and of covers. -/
namespace Go.Proofs.YtmfohnchnbgbaaaGreat
open Go.RowKit

theorem bp_any (m b : Nat) (hm : m ≤ 9223372036854775807) (hb : b ≤ 9223372036854775807) (w : World) :
    Calls Tryz.prog 85 #[.int .i64 m, .int .i64 b] w
      fun e w' => e = .returned (.tuple #[.int .i64 (evQ m b 10000 : Nat), .int .i64 (evE m b 10000)]) ∧ Below w.heap.size w w' := by
  obtain ⟨q, hq⟩ : ∃ z, evQ m b 10000 = z := ⟨_, rfl⟩
  obtain ⟨k, hk⟩ : ∃ z, evE m b 10000 = z := ⟨_, rfl⟩
  have HC := hide (even_any m b 10000 hm hb (by omega) (by omega) w)
  rw [hq, hk] at HC
  rw [hq, hk]
  clear hq hk
  go_enter Tryz.func85, Tryz.ntmps85
  go_wp2_with fail
  refine HC.out.mono ?_
  rintro e w1 ⟨rfl, hb1⟩
  have H1 := hide hb1
  clear hb1
  go_wp2_with fail
  go_ret2
  exact ⟨rfl, H1.out⟩

def sliceLen : Value → Nat | .slice _ n _ => n | _ => 0
theorem evQ_le4 (a b c : Nat) : evQ a b c ≤ 4000000000000000000 := by unfold evQ; split <;> omega
end Go.Proofs.YtmfohnchnbgbaaaGreat

/- What a cover pays. -/
namespace Go.Proofs.YtmfohnchnbgbaaaGreat
open Go.RowKit Go.Lib
set_option linter.unusedSimpArgs false

def leastI (a b : Int) : Int := max (min a b) 0
set_option maxRecDepth 100000 in
theorem least_any (g : Nat) (a b : Int) (w : World) (hB : Blk w g 3 #[.int .i64 b]) : Calls Tryz.prog 68 #[.int .i64 a, .slice (some ⟨g, 0, none⟩) 1 1] w fun e w' => e = .returned (.int .i64 (leastI a b)) ∧ w' = w := by
  have c0 : w.cell? ⟨g, 0, none⟩ = some (.int .i64 b) := hB.cell 0
  obtain ⟨m, hm⟩ : ∃ m, min a b = m := ⟨_, rfl⟩
  have HM := hide hm
  clear hm hB
  go_enter Tryz.func68, Tryz.ntmps68
  go_wp2_with fail
  go_loop [0, 9] (fun p q => (q = .int .i64 0 ∧ p = .int .i64 a) ∨ (q = .int .i64 1 ∧ p = .int .i64 m)) (fun _ q => 1 - (RowKit.intOf q).toNat)
  case atStart => exact .inl ⟨rfl, rfl⟩
  case round =>
    rcases hrel with ⟨rfl, rfl⟩ | ⟨rfl, rfl⟩
    · go_wp2_with fail
      go_round
      case rel => exact .inr ⟨rfl, by rw [← HM.out]⟩
      case measure => simp [RowKit.intOf]
    · go_wp2_with fail
      go_ret
      exact ⟨ret_int (by rw [leastI, HM.out]), rfl⟩
theorem leastI_bd (a b : Int) : 0 ≤ leastI a b ∧ (leastI a b ≤ b ∨ leastI a b = 0) := by unfold leastI; omega
def cvC (c : Cv) : Array Value := #[.int .i64 c.p, .int .i64 c.lim, .int .i64 c.agg, .int .i64 c.ded, .int .i64 c.sh]
theorem cv_cells {w : World} {g : Nat} {t : TypeId} {c : Cv} (h : Blk w g t (cvC c)) : w.cell? ⟨g, 0, none⟩ = some (.int .i64 c.p) ∧ w.cell? ⟨g, 1, none⟩ = some (.int .i64 c.lim) ∧ w.cell? ⟨g, 2, none⟩ = some (.int .i64 c.agg) ∧ w.cell? ⟨g, 3, none⟩ = some (.int .i64 c.ded) ∧ w.cell? ⟨g, 4, none⟩ = some (.int .i64 c.sh) :=
  ⟨h.cell 0, h.cell 1, h.cell 2, h.cell 3, h.cell 4⟩
/-- What a cover that may be says. -/
theorem coverB_parts {c : Cv} (h : coverB c = true) : 1 ≤ c.sh ∧ c.sh ≤ 10000 ∧ 0 ≤ c.ded ∧ c.ded < c.lim ∧ c.lim ≤ c.agg ∧ c.agg ≤ 1000000000000000 := by
  unfold coverB at h
  have := of_decide_eq_true h
  omega
def amtQ (c : Cv) (loss : Int) : Int := leastI (loss - c.ded) c.lim
theorem amtQ_bd {c : Cv} (h : coverB c = true) (loss : Int) : 0 ≤ amtQ c loss ∧ amtQ c loss ≤ 1000000000000000 := by
  have := coverB_parts h
  have := leastI_bd (loss - c.ded) c.lim
  unfold amtQ; omega
set_option maxRecDepth 100000 in
theorem tclaim_any (c : Cv) (loss : Int) (hc : coverB c = true) (h0 : 0 ≤ loss) (h1 : loss ≤ 9223372036854775807) (w : World) :
    Calls Tryz.prog 66 #[.agg #[.int .i64 c.p, .int .i64 c.lim, .int .i64 c.agg, .int .i64 c.ded, .int .i64 c.sh], .int .i64 loss] w fun e w' => e = .returned (.int .i64 (amtQ c loss)) ∧ Below w.heap.size w w' := by
  obtain ⟨p1, p2, p3, p4, p5, p6⟩ := coverB_parts hc
  obtain ⟨w1, hw1⟩ : ∃ W, w.alloc (.cells (cvC c) 165) = W := ⟨_, rfl⟩
  have H1 := hide (show Below w.heap.size w w1 by rw [← hw1]; exact (Below.refl _ _).alloc (Nat.le_refl _) _)
  have HB := hide (show Blk w1 w.heap.size 165 (cvC c) by rw [← hw1]; exact Blk.new _ _ _)
  obtain ⟨x0, x1, x2, x3, x4⟩ := cv_cells HB.out
  have HW := hide hw1
  obtain ⟨d, hd⟩ : ∃ d, loss - c.ded = d := ⟨_, rfl⟩
  have HA := hide (show amtQ c loss = leastI d c.lim by rw [amtQ, hd])
  obtain ⟨w2, hw2⟩ : ∃ W, w1.alloc (.cells #[.int .i64 c.lim] 3) = W := ⟨_, rfl⟩
  have HL := hide (show Calls Tryz.prog 68 #[.int .i64 d, .slice (some ⟨w1.heap.size, 0, none⟩) 1 1] w2 fun e w' => e = .returned (.int .i64 (leastI d c.lim)) ∧ w' = w2 from least_any _ d c.lim w2 (by rw [← hw2]; exact Blk.new _ _ _))
  have H2 := hide (show Below w.heap.size w w2 by rw [← hw2]; exact H1.out.alloc H1.out.size _)
  have HW2 := hide hw2
  clear hw1 hc hw2
  go_enter Tryz.func66, Tryz.ntmps66
  go_upto_region 1 with fail
  rw [show w.alloc (.cells #[.int .i64 c.p, .int .i64 c.lim, .int .i64 c.agg, .int .i64 c.ded, .int .i64 c.sh] 165) = w1 from HW.out]
  go_wp2_with fail
  rw [HW2.out]
  refine HL.out.mono ?_
  rintro e w' ⟨rfl, rfl⟩
  clear x0 x1 x2 x3 x4 hd
  go_wp2_with fail
  go_ret
  exact ⟨ret_int HA.out.symm, H2.out⟩
def shareQ (c : Cv) (amt : Int) : Int := (evQ amt.toNat c.sh.toNat 10000 : Nat)
theorem shareQ_bd (c : Cv) (amt : Int) : 0 ≤ shareQ c amt ∧ shareQ c amt ≤ 4000000000000000000 := by
  have := evQ_le4 amt.toNat c.sh.toNat 10000
  unfold shareQ; omega
set_option maxRecDepth 100000 in
theorem tshare_any (c : Cv) (amt : Int) (hc : coverB c = true) (h0 : 0 ≤ amt) (h1 : amt ≤ 9223372036854775807) (w : World) :
    Calls Tryz.prog 67 #[.agg #[.int .i64 c.p, .int .i64 c.lim, .int .i64 c.agg, .int .i64 c.ded, .int .i64 c.sh], .int .i64 amt] w fun e w' => e = .returned (.int .i64 (shareQ c amt)) ∧ Below w.heap.size w w' := by
  obtain ⟨p1, p2, p3, p4, p5, p6⟩ := coverB_parts hc
  obtain ⟨w1, hw1⟩ : ∃ W, w.alloc (.cells (cvC c) 165) = W := ⟨_, rfl⟩
  have H1 := hide (show Below w.heap.size w w1 by rw [← hw1]; exact (Below.refl _ _).alloc (Nat.le_refl _) _)
  have HB := hide (show Blk w1 w.heap.size 165 (cvC c) by rw [← hw1]; exact Blk.new _ _ _)
  obtain ⟨x0, x1, x2, x3, x4⟩ := cv_cells HB.out
  have HW := hide hw1
  have HBP := hide (show Calls Tryz.prog 85 #[.int .i64 amt, .int .i64 c.sh] w1 fun e w' => e = .returned (.tuple #[.int .i64 (shareQ c amt), .int .i64 (evE amt.toNat c.sh.toNat 10000)]) ∧ Below w1.heap.size w1 w' by
    have := bp_any amt.toNat c.sh.toNat (by omega) (by omega) w1
    rwa [show ((amt.toNat : Nat) : Int) = amt by omega, show ((c.sh.toNat : Nat) : Int) = c.sh by omega] at this)
  clear hw1 hc
  go_enter Tryz.func67, Tryz.ntmps67
  go_upto_region 1 with fail
  rw [show w.alloc (.cells #[.int .i64 c.p, .int .i64 c.lim, .int .i64 c.agg, .int .i64 c.ded, .int .i64 c.sh] 165) = w1 from HW.out]
  go_wp2_with fail
  refine HBP.out.mono ?_
  rintro e w' ⟨rfl, h2⟩
  have H2 := hide (chain H1.out h2)
  clear x0 x1 x2 x3 x4 h2
  go_wp2_with fail
  go_ret
  exact ⟨rfl, H2.out⟩
/-- What is paid of a loss, where so much of the cover is used. -/
def paysQ (c : Cv) (loss used : Int) : Int := if coverB c = true ∧ 0 ≤ loss ∧ 0 ≤ used then leastI (shareQ c (amtQ c loss)) (c.agg - used) else 0
theorem paysQ_bd (c : Cv) (loss used : Int) : 0 ≤ paysQ c loss used ∧ (paysQ c loss used = 0 ∨ paysQ c loss used ≤ c.agg - used) := by
  unfold paysQ
  split
  · have := leastI_bd (shareQ c (amtQ c loss)) (c.agg - used); omega
  · omega
set_option maxRecDepth 100000 in
set_option maxHeartbeats 2000000 in
theorem pays_any (c : Cv) (loss used : Int) (hl : loss ≤ 9223372036854775807) (hu : used ≤ 9223372036854775807) (w : World) (ho : okCv c) :
    Calls Tryz.prog 30 #[.agg #[.int .i64 c.p, .int .i64 c.lim, .int .i64 c.agg, .int .i64 c.ded, .int .i64 c.sh], .int .i64 loss, .int .i64 used] w fun e w' => e = .returned (.int .i64 (paysQ c loss used)) ∧ Below w.heap.size w w' := by
  obtain ⟨w1, hw1⟩ : ∃ W, w.alloc (.cells (cvC c) 23) = W := ⟨_, rfl⟩
  have H1 := hide (show Below w.heap.size w w1 by rw [← hw1]; exact (Below.refl _ _).alloc (Nat.le_refl _) _)
  have HB := hide (show Blk w1 w.heap.size 23 (cvC c) by rw [← hw1]; exact Blk.new _ _ _)
  obtain ⟨x0, x1, x2, x3, x4⟩ := cv_cells HB.out
  have HW := hide hw1
  obtain ⟨b, hb⟩ : ∃ b, coverB c = b := ⟨_, rfl⟩
  have HR := hide (show Calls Tryz.prog 65 #[.agg #[.int .i64 c.p, .int .i64 c.lim, .int .i64 c.agg, .int .i64 c.ded, .int .i64 c.sh]] w1 fun e w' => e = .returned (.bool b) ∧ Below w1.heap.size w1 w' by rw [← hb]; exact cover_any c ho w1)
  have HBB := hide hb
  clear hw1 hb ho
  have hmf : ∀ (fn : Fn) (first cap : Array Value) (w : World), (Instr.makeFunc fn first cap).run Tryz.prog w = .ok (.func fn first cap) w := fun _ _ _ _ => rfl
  go_enter Tryz.func30, Tryz.ntmps30
  go_upto_region 1 with fail
  rw [show w.alloc (.cells #[.int .i64 c.p, .int .i64 c.lim, .int .i64 c.agg, .int .i64 c.ded, .int .i64 c.sh] 23) = w1 from HW.out]
  go_wp2_with fail
  refine HR.out.mono ?_
  rintro e w2 ⟨rfl, h2⟩
  have H2 := hide (chain H1.out h2)
  have HB2 := hide (HB.out.below h2 HB.out.lt)
  clear h2 x0 x1 x2 x3 x4
  obtain ⟨x0, x1, x2, x3, x4⟩ := cv_cells HB2.out
  cases b
  · have HQ := hide (show paysQ c loss used = 0 by rw [paysQ, if_neg (by rw [HBB.out]; simp)])
    clear x0 x1 x2 x3 x4
    go_wp2_with fail
    go_ret
    exact ⟨ret_int HQ.out.symm, H2.out⟩
  by_cases h0 : loss < 0
  · have hz : decide (loss < 0) = true := by simpa using h0
    have HQ := hide (show paysQ c loss used = 0 by rw [paysQ, if_neg (by omega)])
    clear x0 x1 x2 x3 x4
    go_wp2_with fail
    go_ret
    exact ⟨ret_int HQ.out.symm, H2.out⟩
  have hz0 : decide (loss < 0) = false := by simpa using h0
  by_cases hu0 : used < 0
  · have hz : decide (used < 0) = true := by simpa using hu0
    have HQ := hide (show paysQ c loss used = 0 by rw [paysQ, if_neg (by omega)])
    clear x0 x1 x2 x3 x4
    go_wp2_with fail
    go_ret
    exact ⟨ret_int HQ.out.symm, H2.out⟩
  have hzu : decide (used < 0) = false := by simpa using hu0
  have HQ := hide (show paysQ c loss used = leastI (shareQ c (amtQ c loss)) (c.agg - used) by rw [paysQ, if_pos ⟨HBB.out, by omega, by omega⟩])
  obtain ⟨A1, hA1⟩ : ∃ A, amtQ c loss = A := ⟨_, rfl⟩
  obtain ⟨A2, hA2⟩ : ∃ A, shareQ c A1 = A := ⟨_, rfl⟩
  have hbd := amtQ_bd HBB.out loss
  rw [hA1] at hbd
  have hbd2 := shareQ_bd c A1
  rw [hA2] at hbd2
  have HCL := hide (show ∀ W, Calls Tryz.prog 66 #[.agg #[.int .i64 c.p, .int .i64 c.lim, .int .i64 c.agg, .int .i64 c.ded, .int .i64 c.sh], .int .i64 loss] W fun e w' => e = .returned (.int .i64 A1) ∧ Below W.heap.size W w' from fun W => by rw [← hA1]; exact tclaim_any c loss HBB.out (by omega) hl W)
  have HSH := hide (show ∀ W, Calls Tryz.prog 67 #[.agg #[.int .i64 c.p, .int .i64 c.lim, .int .i64 c.agg, .int .i64 c.ded, .int .i64 c.sh], .int .i64 A1] W fun e w' => e = .returned (.int .i64 A2) ∧ Below W.heap.size W w' from fun W => by rw [← hA2]; exact tshare_any c A1 HBB.out (by omega) (by omega) W)
  rw [hA1, hA2] at HQ
  have hp := coverB_parts HBB.out
  obtain ⟨u, hu⟩ : ∃ u, c.agg - used = u := ⟨_, rfl⟩
  rw [hu] at HQ
  have HU := hide hu
  have hur : -9223372036854775808 ≤ c.agg - used ∧ c.agg - used ≤ 9223372036854775807 := by omega
  clear hA1 hA2 hu hp
  go_upto_region 4 with fail
  obtain ⟨w3, hw3⟩ : ∃ W, w2.alloc (.cells #[.func (.func 66) #[.agg #[.int .i64 c.p, .int .i64 c.lim, .int .i64 c.agg, .int .i64 c.ded, .int .i64 c.sh]] #[], .func (.func 67) #[.agg #[.int .i64 c.p, .int .i64 c.lim, .int .i64 c.agg, .int .i64 c.ded, .int .i64 c.sh]] #[]] 112) = W := ⟨_, rfl⟩
  have h23 : Below w2.heap.size w2 w3 := by rw [← hw3]; exact (Below.refl _ _).alloc (Nat.le_refl _) _
  have HF := hide (show Blk w3 w2.heap.size 112 #[.func (.func 66) #[.agg #[.int .i64 c.p, .int .i64 c.lim, .int .i64 c.agg, .int .i64 c.ded, .int .i64 c.sh]] #[], .func (.func 67) #[.agg #[.int .i64 c.p, .int .i64 c.lim, .int .i64 c.agg, .int .i64 c.ded, .int .i64 c.sh]] #[]] by rw [← hw3]; exact Blk.new _ _ _)
  have HB3 := hide (HB2.out.below h23 HB2.out.lt)
  have H3 := hide (chain H2.out h23)
  have HW3 := hide hw3
  clear h23 hw3
  go_upto_region 5 with fail
  rw [HW3.out]
  clear x0 x1 x2 x3 x4 HW3
  go_loopw [7, 28] (fun p q W => Below w3.heap.size w3 W ∧ ((q = .int .i64 0 ∧ p = .int .i64 loss) ∨ (q = .int .i64 1 ∧ p = .int .i64 A1) ∨ (q = .int .i64 2 ∧ p = .int .i64 A2))) (fun _ q _ => 2 - (RowKit.intOf q).toNat)
  case atStart => exact ⟨Below.refl _ _, .inl ⟨rfl, rfl⟩⟩
  case round =>
    obtain ⟨hb, hq⟩ := hrel
    have HBE := hide hb
    have HFr := hide (HF.out.below hb HF.out.lt)
    have HBr := hide (HB3.out.below hb HB3.out.lt)
    clear hb
    rcases hq with ⟨rfl, rfl⟩ | ⟨rfl, rfl⟩ | ⟨rfl, rfl⟩
    · have y0 := HFr.out.cell 0
      simp at y0
      go_wp2_with fail
      refine (HCL.out _).mono ?_
      rintro e w4 ⟨rfl, h4⟩
      have H4 := hide (chain HBE.out h4)
      clear h4 y0
      go_wp2_with fail
      go_roundw
      case rel => exact ⟨H4.out, .inr (.inl ⟨rfl, rfl⟩)⟩
      case measure => simp [RowKit.intOf]
    · have y1 := HFr.out.cell 1
      simp at y1
      go_wp2_with fail
      refine (HSH.out _).mono ?_
      rintro e w4 ⟨rfl, h4⟩
      have H4 := hide (chain HBE.out h4)
      clear h4 y1
      go_wp2_with fail
      go_roundw
      case rel => exact ⟨H4.out, .inr (.inr ⟨rfl, rfl⟩)⟩
      case measure => simp [RowKit.intOf]
    · obtain ⟨x0, x1, x2, x3, x4⟩ := cv_cells HBr.out
      have hwu : wrap64 (c.agg - used) = u := by rw [← HU.out]; exact IntWalk.wrap64_in _ hur
      have HLE := hide (fun W (hB : Blk W wr.heap.size 3 #[.int .i64 u]) => least_any wr.heap.size A2 u W hB)
      have HWU := hide hwu
      have HAL := hide ((chain H3.out HBE.out).alloc (by have := (chain H3.out HBE.out).size; omega) (.cells #[.int .i64 u] 3))
      clear hwu x0 x1 x3 x4 HBr HFr
      go_wp2_with fail
      rw [HU.out]
      refine (HLE.out _ (Blk.new _ _ _)).mono ?_
      rintro e w4 ⟨rfl, rfl⟩
      clear x2
      go_wp2_with fail
      go_ret
      exact ⟨ret_int HQ.out.symm, HAL.out⟩
end Go.Proofs.YtmfohnchnbgbaaaGreat

/- What holds: whether the same holds in two slices. -/
namespace Go.Proofs.YtmfohnchnbgbaaaGreat
open Go.RowKit

/-- What holds in a span. -/
structure Sc where
  f : Int
  t : Int
  on : Bool
  rk : Int
  rv : Int
  ra : Int
  rz : Int
  A : Option Addr
  l : List Cv
  cap : Nat
  y : Int
end Go.Proofs.YtmfohnchnbgbaaaGreat

/- Changes: what each kind asks, by the map of the checks. -/
namespace Go.Proofs.YtmfohnchnbgbaaaGreat
open Go.RowKit Go.Maps

/-- A change. -/
structure Ch where
  b : Int
  d : Int
  k : Int
  rk : Int
  rv : Int
  ra : Int
  rz : Int
  A : Option Addr
  l : List Cv
  cap : Nat
  way : Int
section
variable {c : Ch} {w : World}
end
end Go.Proofs.YtmfohnchnbgbaaaGreat

/- Histories: whether one may be. -/
namespace Go.Proofs.YtmfohnchnbgbaaaGreat
open Go.RowKit

/-- A history. -/
structure Hi where
  id : Int
  bk : Int
  tm : Tm
  A : Option Addr
  cs : List Ch
  cap : Nat
def encCh (c : Ch) : List Value := [.int .i64 c.b, .int .i64 c.d, .int .i64 c.k, .int .i64 c.rk, .int .i64 c.rv, .int .i64 c.ra, .int .i64 c.rz, .slice c.A c.l.length c.cap, .int .i64 c.way]
def okCh (c : Ch) : Prop := ok64 c.k ∧ ∀ x ∈ c.l, okCv x
structure HV (w : World) (h : Hi) : Prop where
  tm : SV w 5 h.tm.A h.tm.l.length h.tm.cap (h.tm.l.map encCv)
  ot : ∀ c ∈ h.tm.l, okCv c
  cs : SV w 9 h.A h.cs.length h.cap (h.cs.map encCh)
  cv : ∀ c ∈ h.cs, SV w 5 c.A c.l.length c.cap (c.l.map encCv)
  oc : ∀ c ∈ h.cs, okCh c
theorem HV.below {w w' : World} {h : Hi} (hv : HV w h) (hb : Below w.heap.size w w') : HV w' h := ⟨hv.tm.below hb, hv.ot, hv.cs.below hb, fun c hc => (hv.cv c hc).below hb, hv.oc⟩
end Go.Proofs.YtmfohnchnbgbaaaGreat
