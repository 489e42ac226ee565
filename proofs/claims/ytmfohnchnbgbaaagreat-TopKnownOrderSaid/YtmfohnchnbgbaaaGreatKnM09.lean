/- Part 9 of the proof. -/
import Derived.Deep.RegionHeld3
import Derived.Test.YtmfohnchnbgbaaaGreatKnM08
/- A product divided, to the nearest one: the program's. -/
namespace Go.Proofs.YtmfohnchnbgbaaaGreat
open Go.RowKit

/-- Up to the nearest one, or the even one. -/
def upN (q r c : Nat) : Nat := if c - r < r ∨ (r = c - r ∧ q % 2 = 1) then q + 1 else q
/-- a times b by c; what is amiss. -/
def evN (a b c : Nat) : Nat := upN (a * b / c) (a * b % c) c
def evE (a b c : Nat) : Int := if evN a b c ≤ 4000000000000000000 then 0 else 5
def evQ (a b c : Nat) : Nat := if evN a b c ≤ 4000000000000000000 then evN a b c else 0
theorem upN_ge (q r c : Nat) : q ≤ upN q r c ∧ upN q r c ≤ q + 1 := by unfold upN; split <;> omega

def upB (q r c : Nat) : Bool := decide (c - r < r ∨ (r = c - r ∧ q % 2 = 1))
set_option maxRecDepth 100000 in
theorem up1_any (q r c : Nat) (hq : q < 18446744073709551616) (hr : r < c) (hc : c < 9223372036854775808) (w : World) :
    Calls Tryz.prog 99 #[.int .u64 q, .int .u64 r, .int .u64 c] w fun e w' => e = .returned (.bool (upB q r c)) ∧ w' = w := by
  obtain ⟨d, hd⟩ : ∃ d, c - r = d := ⟨_, rfl⟩
  have E1 : IntKind.u64.wrap ((c : Int) - (r : Int)) = (d : Int) := by rw [show (c : Int) - (r : Int) = (d : Int) by omega]; exact Mul64.wrapN _ (by omega)
  have HD := hide hd
  clear hd
  by_cases h1 : d < r
  · have h1' : (d : Int) < (r : Int) := by omega
    have HU := hide (show upB q r c = true by unfold upB; rw [HD.out]; simp; omega)
    go_enter Tryz.func99, Tryz.ntmps99
    go_wp2_with fail
    go_ret
    exact ⟨ret_bool HU.out.symm, rfl⟩
  · have h1' : ¬ (d : Int) < (r : Int) := by omega
    by_cases h2 : r = d
    · subst h2
      have h2' : ((r : Int) == (r : Int)) = true := by simp
      rcases Nat.mod_two_eq_zero_or_one q with h3 | h3
      · have h3' : (q : Int) % 2 = 0 := by omega
        have HU := hide (show upB q r c = false by unfold upB; rw [HD.out]; simp; omega)
        clear h3
        go_enter Tryz.func99, Tryz.ntmps99
        go_wp2_with fail
        go_ret
        exact ⟨ret_bool HU.out.symm, rfl⟩
      · have h3' : (q : Int) % 2 = 1 := by omega
        have HU := hide (show upB q r c = true by unfold upB; rw [HD.out]; simp; omega)
        clear h3
        go_enter Tryz.func99, Tryz.ntmps99
        go_wp2_with fail
        go_ret
        exact ⟨ret_bool HU.out.symm, rfl⟩
    · have h2' : ((r : Int) == (d : Int)) = false := by simp; omega
      have HU := hide (show upB q r c = false by unfold upB; rw [HD.out]; simp; omega)
      go_enter Tryz.func99, Tryz.ntmps99
      go_wp2_with fail
      go_ret
      exact ⟨ret_bool HU.out.symm, rfl⟩

set_option maxRecDepth 100000 in
set_option maxHeartbeats 1000000 in
theorem of_any_Lad (a b c : Nat) (ha : a ≤ 9223372036854775807) (hb : b ≤ 9223372036854775807) (hc : c ≤ 9223372036854775807) (hc0 : 0 < c) (w : World) :
    Calls Tryz.prog 56 #[.agg #[.func (.func 99) #[] #[]], .int .i64 a, .int .i64 b, .int .i64 c] w
      fun e w' => e = .returned (.tuple #[.int .i64 (evQ a b c : Nat), .int .i64 (evE a b c)]) ∧ Below w.heap.size w w' := by
  have ha0 : ¬ (a : Int) < 0 := by omega
  have hb0 : ¬ (b : Int) < 0 := by omega
  have hcz : ¬ (c : Int) < 0 := by omega
  have hcy : ((c : Int) == 0) = false := by simp; omega
  have C1 : IntKind.u64.wrap (a : Int) = (a : Int) := Mul64.wrapN _ (by omega)
  have C2 : IntKind.u64.wrap (b : Int) = (b : Int) := Mul64.wrapN _ (by omega)
  have C3 : IntKind.u64.wrap (c : Int) = (c : Int) := Mul64.wrapN _ (by omega)
  go_enter Tryz.func56, Tryz.ntmps56
  go_wp2_with fail
  refine (mul64_any a b (by omega) (by omega) _).mono ?_
  rintro e w1 ⟨rfl, rfl⟩
  obtain ⟨p, hp⟩ : ∃ p, a * b = p := ⟨_, rfl⟩
  rw [hp]
  obtain ⟨hi, hhi⟩ : ∃ z, p / 18446744073709551616 = z := ⟨_, rfl⟩
  obtain ⟨lo, hlo⟩ : ∃ z, p % 18446744073709551616 = z := ⟨_, rfl⟩
  rw [hhi, hlo]
  have hpe : 18446744073709551616 * hi + lo = p := by omega
  have hlob : lo < 18446744073709551616 := by omega
  have HPE := hide hpe
  have HP := hide hp
  clear hhi hlo hpe hp
  by_cases hbig : c ≤ hi
  · have hbig' : (c : Int) ≤ (hi : Int) := by omega
    have HE := hide (show evE a b c = 5 ∧ evQ a b c = 0 by
      have h1 : 18446744073709551616 ≤ a * b / c := by
        rw [HP.out, ← HPE.out]
        refine (Nat.le_div_iff_mul_le hc0).2 ?_
        have : 18446744073709551616 * c ≤ 18446744073709551616 * hi := Nat.mul_le_mul_left _ hbig
        omega
      have h2 := (upN_ge (a * b / c) (a * b % c) c).1
      have h3 : ¬ evN a b c ≤ 4000000000000000000 := by unfold evN; omega
      exact ⟨by rw [evE, if_neg h3], by rw [evQ, if_neg h3]⟩)
    go_wp2_with fail
    go_ret2
    rw [HE.out.1, HE.out.2]
    exact ⟨rfl, (Below.refl _ _).alloc (Nat.le_refl _) _⟩
  · have hbig' : ¬ (c : Int) ≤ (hi : Int) := by omega
    go_wp2_with fail
    refine (div64_any hi lo c hlob (by omega) hc0 (by omega) _).mono ?_
    rintro e w1 ⟨rfl, hb1⟩
    rw [HPE.out]
    have K0 : w1.cell? ⟨w.heap.size, 0, none⟩ = some (.func (.func 99) #[] #[]) := kept hb1 (by simp)
    have HB1 := hide (chain1 hb1)
    obtain ⟨q, hq⟩ : ∃ z, p / c = z := ⟨_, rfl⟩
    obtain ⟨r, hr⟩ : ∃ z, p % c = z := ⟨_, rfl⟩
    rw [hq, hr]
    have hrc : r < c := by rw [← hr]; exact Nat.mod_lt _ hc0
    have hqb : q < 18446744073709551616 := by
      rw [← hq, ← HPE.out]
      refine Nat.div_lt_of_lt_mul ?_
      have : (hi + 1) * 18446744073709551616 ≤ c * 18446744073709551616 := Nat.mul_le_mul_right _ (by omega)
      omega
    have hkl := block_lt_of_cell K0
    have HN := hide (show evN a b c = upN q r c by unfold evN; rw [HP.out, hq, hr])
    clear hb1 hq hr
    by_cases hq4 : 4000000000000000000 < q
    · have hq4' : (4000000000000000000 : Int) < (q : Int) := by omega
      have HE := hide (show evE a b c = 5 ∧ evQ a b c = 0 by
        have h2 := (upN_ge q r c).1
        have h3 : ¬ evN a b c ≤ 4000000000000000000 := by rw [HN.out]; omega
        exact ⟨by rw [evE, if_neg h3], by rw [evQ, if_neg h3]⟩)
      go_wp2_with fail
      go_ret2
      rw [HE.out.1, HE.out.2]
      exact ⟨rfl, HB1.out⟩
    · have hq4' : ¬ (4000000000000000000 : Int) < (q : Int) := by omega
      go_wp2_with fail
      refine (up1_any q r c hqb hrc (by omega) _).mono ?_
      rintro e w2 ⟨rfl, rfl⟩
      cases hu : upB q r c
      · have hun : upN q r c = q := by unfold upN; rw [if_neg (of_decide_eq_false hu)]
        have HE := hide (show evE a b c = 0 ∧ evQ a b c = q by
          have h3 : evN a b c ≤ 4000000000000000000 := by rw [HN.out, hun]; omega
          exact ⟨by rw [evE, if_pos h3], by rw [evQ, if_pos h3, HN.out, hun]⟩)
        clear hu hun
        go_wp2_with fail
        go_ret2
        rw [HE.out.1, HE.out.2]
        exact ⟨rfl, HB1.out⟩
      · have hun : upN q r c = q + 1 := by unfold upN; rw [if_pos (of_decide_eq_true hu)]
        obtain ⟨q2, hq2⟩ : ∃ z, q + 1 = z := ⟨_, rfl⟩
        have F1 : IntKind.u64.wrap ((q : Int) + 1) = (q2 : Int) := by rw [show (q : Int) + 1 = (q2 : Int) by omega]; exact Mul64.wrapN _ (by omega)
        rw [hq2] at hun
        have HU := hide hun
        have hq2b : q2 ≤ 4000000000000000001 := by omega
        clear hu hun hq2
        by_cases hq5 : 4000000000000000000 < q2
        · have hq5' : (4000000000000000000 : Int) < (q2 : Int) := by omega
          have HE := hide (show evE a b c = 5 ∧ evQ a b c = 0 by
            have h3 : ¬ evN a b c ≤ 4000000000000000000 := by rw [HN.out, HU.out]; omega
            exact ⟨by rw [evE, if_neg h3], by rw [evQ, if_neg h3]⟩)
          go_wp2_with fail
          go_ret2
          rw [HE.out.1, HE.out.2]
          exact ⟨rfl, HB1.out⟩
        · have hq5' : ¬ (4000000000000000000 : Int) < (q2 : Int) := by omega
          have HE := hide (show evE a b c = 0 ∧ evQ a b c = q2 by
            have h3 : evN a b c ≤ 4000000000000000000 := by rw [HN.out, HU.out]; omega
            exact ⟨by rw [evE, if_pos h3], by rw [evQ, if_pos h3, HN.out, HU.out]⟩)
          go_wp2_with fail
          go_ret2
          rw [HE.out.1, HE.out.2]
          exact ⟨rfl, HB1.out⟩

theorem even0_any (w : World) : Calls Tryz.prog 55 #[] w fun e w' => e = .returned (.agg #[.func (.func 99) #[] #[]]) ∧ Below w.heap.size w w' := by
  have hst : (store ⟨w.heap.size, 0, none⟩ (.func (.func 99) #[] #[])).run Tryz.prog (w.alloc (.cells #[.nilFunc] 146)) = .ok () ((w.alloc (.cells #[.nilFunc] 146)).setCell ⟨w.heap.size, 0, none⟩ (.func (.func 99) #[] #[])) := by
    rw [run_store Tryz.prog _ ⟨w.heap.size, 0, none⟩ _ _ (by rfl)]
    simp
  go_enter Tryz.func55, Tryz.ntmps55
  go_wp2_with fail
  exact ret_row rfl rfl rfl (Blk.new w 146 #[.func (.func 99) #[] #[]]) Tryz.underlying146 rfl (by kernel_rfl) ⟨rfl, (Below.refl _ _).alloc (Nat.le_refl _) _⟩
theorem even_any (a b c : Nat) (ha : a ≤ 9223372036854775807) (hb : b ≤ 9223372036854775807) (hc : c ≤ 9223372036854775807) (hc0 : 0 < c) (w : World) :
    Calls Tryz.prog 25 #[.int .i64 a, .int .i64 b, .int .i64 c] w
      fun e w' => e = .returned (.tuple #[.int .i64 (evQ a b c : Nat), .int .i64 (evE a b c)]) ∧ Below w.heap.size w w' := by
  obtain ⟨q, hq⟩ : ∃ z, evQ a b c = z := ⟨_, rfl⟩
  obtain ⟨k, hk⟩ : ∃ z, evE a b c = z := ⟨_, rfl⟩
  have HQ := hide hq
  have HK := hide hk
  rw [hq, hk]
  clear hq hk
  go_enter Tryz.func25, Tryz.ntmps25
  go_wp2_with fail
  refine (even0_any w).mono ?_
  rintro e w1 ⟨rfl, hb1⟩
  have HB1 := hide hb1
  clear hb1
  go_wp2_with fail
  refine (of_any_Lad a b c ha hb hc hc0 _).mono ?_
  rintro e w2 ⟨rfl, hb2⟩
  rw [HQ.out, HK.out]
  have HB2 := hide (chain HB1.out hb2)
  clear hb2
  go_wp2_with fail
  go_ret2
  exact ⟨rfl, HB2.out⟩
end Go.Proofs.YtmfohnchnbgbaaaGreat
