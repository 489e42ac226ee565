/- A product divided, to the nearest one: the document's Even. -/
import Derived.Test.YtndfgglnhkdciaaDoorLadF
namespace Go.Proofs.YtndfgglnhkdciaaDoor
open Go.RowKit

set_option maxRecDepth 100000 in
set_option maxHeartbeats 2000000 in
theorem evenR_any (a b c : Nat) (ha : a ≤ 9223372036854775807) (hb : b ≤ 9223372036854775807) (hc : c ≤ 9223372036854775807) (hc0 : 0 < c) (w : World) :
    Calls Tryd.prog 25 #[.int .i64 a, .int .i64 b, .int .i64 c] w
      fun e w' => e = .returned (.tuple #[.int .i64 (evQ a b c : Nat), .int .i64 (evE a b c)]) ∧ Below w.heap.size w w' := by
  obtain ⟨q, hq⟩ : ∃ z, a * b / c = z := ⟨_, rfl⟩
  obtain ⟨r, hr⟩ : ∃ z, a * b % c = z := ⟨_, rfl⟩
  have hrc : r < c := by rw [← hr]; exact Nat.mod_lt _ hc0
  obtain ⟨d, hd⟩ : ∃ z, c - r = z := ⟨_, rfl⟩
  have hdb : d ≤ 9223372036854775807 := by omega
  have hdw : IntKind.i64.wrap ((c : Int) - (r : Int)) = (d : Int) := by rw [IntWalk.i64_in _ (by omega)]; omega
  have hdi : (c : Int) - (r : Int) = (d : Int) := by omega
  have HN := hide (show evN a b c = upN q r c by unfold evN; rw [hq, hr])
  have HTP : ∀ e, TwoP a b c e → (q ≤ 4000000000000000000 ∧ e = .returned (.tuple #[.int .i64 (q : Int), .int .i64 (r : Int), .bool true])) ∨ (4000000000000000000 < q ∧ e = .returned (.tuple #[.int .i64 0, .int .i64 0, .bool false])) := fun e h => by
    unfold TwoP at h
    rw [hq, hr] at h
    exact h
  have HT := hide HTP
  have HD := hide hd
  clear hq hr HTP hd
  go_enter Tryd.func25, Tryd.ntmps25
  go_wp2_with fail
  refine (checkN_any a b c hc0 w).mono ?_
  rintro e w1 ⟨rfl, rfl⟩
  go_wp2_with fail
  refine (two_any a b c ha hb hc hc0 w1).mono ?_
  rintro e w2 ⟨htp, rfl⟩
  rcases HT.out e htp with ⟨hq4, rfl⟩ | ⟨hq4, rfl⟩
  · clear htp
    have hno : upN q r c = q → evE a b c = 0 ∧ evQ a b c = q := fun h => by
      have h3 : evN a b c ≤ 4000000000000000000 := by rw [HN.out, h]; exact hq4
      exact ⟨by rw [evE, if_pos h3], by rw [evQ, if_pos h3, HN.out, h]⟩
    have hyes : upN q r c = q + 1 → (q + 1 ≤ 4000000000000000000 → evE a b c = 0 ∧ evQ a b c = q + 1) ∧ (¬ q + 1 ≤ 4000000000000000000 → evE a b c = 5 ∧ evQ a b c = 0) := fun h => by
      refine ⟨fun h4 => ?_, fun h4 => ?_⟩
      · have h3 : evN a b c ≤ 4000000000000000000 := by rw [HN.out, h]; exact h4
        exact ⟨by rw [evE, if_pos h3], by rw [evQ, if_pos h3, HN.out, h]⟩
      · have h3 : ¬ evN a b c ≤ 4000000000000000000 := by rw [HN.out, h]; exact h4
        exact ⟨by rw [evE, if_neg h3], by rw [evQ, if_neg h3]⟩
    have HNO := hide hno
    have HYES := hide hyes
    clear hno hyes
    have up : (d < r ∨ (r = d ∧ q % 2 = 1)) → upN q r c = q + 1 := fun h => by unfold upN; rw [HD.out, if_pos h]
    have dn : ¬ (d < r ∨ (r = d ∧ q % 2 = 1)) → upN q r c = q := fun h => by unfold upN; rw [HD.out, if_neg h]
    have HUP := hide up
    have HDN := hide dn
    clear up dn
    by_cases h1 : d < r
    · have h1' : (d : Int) < (r : Int) := by omega
      have HU := hide (HYES.out (HUP.out (by omega)))
      obtain ⟨q2, hq2⟩ : ∃ z, q + 1 = z := ⟨_, rfl⟩
      have F1 : (q : Int) + 1 = (q2 : Int) := by omega
      have hq2b : q2 ≤ 4000000000000000001 := by omega
      rw [hq2] at HU
      clear hq2
      by_cases h5 : q2 ≤ 4000000000000000000
      · have h5' : ¬ (4000000000000000000 : Int) < (q2 : Int) := by omega
        have HE := hide (HU.out.1 h5)
        clear h5
        go_wp2_with fail
        go_ret2
        rw [HE.out.1, HE.out.2]
        exact ⟨rfl, Below.refl _ _⟩
      · have h5' : (4000000000000000000 : Int) < (q2 : Int) := by omega
        have HE := hide (HU.out.2 h5)
        clear h5
        go_wp2_with fail
        go_ret2
        rw [HE.out.1, HE.out.2]
        exact ⟨rfl, Below.refl _ _⟩
    · have h1' : ¬ (d : Int) < (r : Int) := by omega
      by_cases h2 : r = d
      · subst h2
        have h2' : ((r : Int) == (r : Int)) = true := beq_self_eq_true _
        rcases Nat.mod_two_eq_zero_or_one q with h3 | h3
        · have h3' : (q : Int) % 2 = 0 := by omega
          have HU := hide (HNO.out (HDN.out (by omega)))
          have h5' : ¬ (4000000000000000000 : Int) < (q : Int) := by omega
          go_wp2_with fail
          go_ret2
          rw [HU.out.1, HU.out.2]
          exact ⟨rfl, Below.refl _ _⟩
        · have h3' : (q : Int) % 2 = 1 := by omega
          have HU := hide (HYES.out (HUP.out (by omega)))
          obtain ⟨q2, hq2⟩ : ∃ z, q + 1 = z := ⟨_, rfl⟩
          have F1 : (q : Int) + 1 = (q2 : Int) := by omega
          have hq2b : q2 ≤ 4000000000000000001 := by omega
          rw [hq2] at HU
          clear hq2
          by_cases h5 : q2 ≤ 4000000000000000000
          · have h5' : ¬ (4000000000000000000 : Int) < (q2 : Int) := by omega
            have HE := hide (HU.out.1 h5)
            clear h5
            go_wp2_with fail
            go_ret2
            rw [HE.out.1, HE.out.2]
            exact ⟨rfl, Below.refl _ _⟩
          · exfalso; omega
      · have h2' : ((r : Int) == (d : Int)) = false := by rw [beq_eq_false_iff_ne]; omega
        have HU := hide (HNO.out (HDN.out (by omega)))
        have h5' : ¬ (4000000000000000000 : Int) < (q : Int) := by omega
        go_wp2_with fail
        go_ret2
        rw [HU.out.1, HU.out.2]
        exact ⟨rfl, Below.refl _ _⟩
  · clear htp
    have HE := hide (show evE a b c = 5 ∧ evQ a b c = 0 by
      have h2 := (upN_ge q r c).1
      have h3 : ¬ evN a b c ≤ 4000000000000000000 := by rw [HN.out]; omega
      exact ⟨by rw [evE, if_neg h3], by rw [evQ, if_neg h3]⟩)
    go_wp2_with fail
    go_ret2
    rw [HE.out.1, HE.out.2]
    exact ⟨rfl, Below.refl _ _⟩
end Go.Proofs.YtndfgglnhkdciaaDoor
