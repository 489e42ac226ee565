/- Plain facts of shifts by months. -/
import Derived.Test.YtbkpflgceppkdaaDayOpen
namespace Go.Proofs.Ytbkpflgceppkdaa
open Go.RowKit

/-- How many days are ahead of month t, counted from the first one; how many it has. -/
def baseT (t : Int) : Int := aheadI (1601 + t / 12) + cumM (1601 + t / 12) (t % 12 + 1)
def lenT (t : Int) : Int := lenM (1601 + t / 12) (t % 12 + 1)
noncomputable def monT (n : Int) : Int := ((ofI n).1 - 1601) * 12 + (ofI n).2.1 - 1
theorem lenT_bd (t : Int) : 28 ≤ lenT t ∧ lenT t ≤ 31 := lenM_bd _ _
theorem base_succ (t : Int) (_h : 0 ≤ t) : baseT (t + 1) = baseT t + lenT t := by
  unfold baseT lenT
  by_cases h : t % 12 = 11
  · rw [h, show (t + 1) % 12 = 0 by omega, show (t + 1) / 12 = t / 12 + 1 by omega]
    have h1 := leap_of_ahead (1601 + t / 12)
    have h2 := cumM_succ (1601 + t / 12) 12 (by omega) (by omega)
    rw [show (12 : Int) + 1 = 13 by omega, cum13] at h2
    rw [show (1601 : Int) + (t / 12 + 1) = 1601 + t / 12 + 1 by omega, show (0 : Int) + 1 = 1 by omega, cum1, show (11 : Int) + 1 = 12 by omega]
    omega
  · rw [show (t + 1) % 12 = t % 12 + 1 by omega, show (t + 1) / 12 = t / 12 by omega]
    rw [cumM_succ _ (t % 12 + 1) (by omega) (by omega)]
    omega
theorem base_mono {t : Int} (h : 0 ≤ t) : ∀ k : Nat, baseT t ≤ baseT (t + k)
  | 0 => by simp
  | k + 1 => by
    have ih := base_mono h k
    have := base_succ (t + k) (by omega)
    have := lenT_bd (t + k)
    rw [show t + ((k + 1 : Nat) : Int) = t + k + 1 by omega]
    omega
theorem base_le {t u : Int} (h : 0 ≤ t) (hu : t < u) : baseT t + lenT t ≤ baseT u := by
  have h1 := base_succ t h
  have h2 := base_mono (t := t + 1) (by omega) (u - t - 1).toNat
  rw [show t + 1 + ((u - t - 1).toNat : Int) = u by omega] at h2
  omega
theorem mon_ok {n : Int} (h1 : 1 ≤ n) (h2 : n ≤ 292194) : 0 ≤ monT n ∧ monT n < 9600 ∧ (ofI n).1 = 1601 + monT n / 12 ∧ (ofI n).2.1 = monT n % 12 + 1 ∧ 1 ≤ (ofI n).2.2 ∧ (ofI n).2.2 ≤ lenT (monT n) ∧ n = baseT (monT n) + (ofI n).2.2 := by
  obtain ⟨r, e⟩ := ofI_ok h1 h2
  have r0 := right_iff.1 r
  have e1 : (ofI n).1 = 1601 + monT n / 12 := by unfold monT; omega
  have e2 : (ofI n).2.1 = monT n % 12 + 1 := by unfold monT; omega
  refine ⟨by unfold monT; omega, by unfold monT; omega, e1, e2, r0.2.2.2.2.1, ?_, ?_⟩
  · unfold lenT; rw [← e1, ← e2]; exact r0.2.2.2.2.2
  · unfold baseT; rw [← e1, ← e2]; unfold numI at e; omega
theorem ofI_mon {t d : Int} (h1 : 0 ≤ t) (h2 : t < 9600) (h3 : 1 ≤ d) (h4 : d ≤ lenT t) : 1 ≤ baseT t + d ∧ baseT t + d ≤ 292194 ∧ ofI (baseT t + d) = (1601 + t / 12, t % 12 + 1, d) ∧ monT (baseT t + d) = t := by
  have r : rightB (1601 + t / 12) (t % 12 + 1) d = true := right_iff.2 (by unfold lenT at h4; omega)
  have e : numI (1601 + t / 12) (t % 12 + 1) d = baseT t + d := by unfold numI baseT; omega
  have q := ofI_eq r
  obtain ⟨b1, b2⟩ := num_bd r
  rw [e] at q b1 b2
  refine ⟨b1, b2, q, ?_⟩
  unfold monT; rw [q]; simp only; omega
theorem sh_eq {n s : Int} (h1 : 1 ≤ n) (h2 : n ≤ 292194) (h3 : -9600 ≤ s) (h4 : s ≤ 9600) :
    (0 ≤ monT n + s ∧ monT n + s < 9600 ∧ shV n s = baseT (monT n + s) + min (ofI n).2.2 (lenT (monT n + s)) ∧ shE n s = 0) ∨ ((monT n + s < 0 ∨ 9600 ≤ monT n + s) ∧ shV n s = 0 ∧ shE n s = 3) := by
  unfold shV shE
  rw [if_pos ⟨h1, h2⟩, if_pos ⟨h1, h2⟩]
  unfold shiftP
  rw [if_neg (by omega)]
  by_cases h : monT n + s < 0 ∨ 9600 ≤ monT n + s
  · right
    have h' := h
    unfold monT at h'
    rw [if_pos h']
    exact ⟨h, rfl, rfl⟩
  · left
    have h' := h
    unfold monT at h'
    rw [if_neg h']
    refine ⟨by omega, by omega, ?_, rfl⟩
    simp only [numI, baseT, lenT, monT]
theorem sh_mono {j k s : Int} (hj1 : 1 ≤ j) (hj2 : j ≤ 292194) (hk1 : 1 ≤ k) (hk2 : k ≤ 292194) (h3 : -9600 ≤ s) (h4 : s ≤ 9600) (hjk : j < k) (ha : shE j s = 0) (hb : shE k s = 0) : shV j s ≤ shV k s := by
  obtain ⟨a1, a2, _, _, a5, a6, a7⟩ := mon_ok hj1 hj2
  obtain ⟨b1, b2, _, _, b5, b6, b7⟩ := mon_ok hk1 hk2
  rcases sh_eq hj1 hj2 h3 h4 with ⟨c1, c2, c3, _⟩ | ⟨_, _, c⟩
  · rcases sh_eq hk1 hk2 h3 h4 with ⟨d1, d2, d3, _⟩ | ⟨_, _, c⟩
    · rw [c3, d3]
      rcases Int.lt_trichotomy (monT j) (monT k) with h | h | h
      · have := base_le c1 (show monT j + s < monT k + s by omega)
        have := lenT_bd (monT k + s)
        omega
      · rw [h] at a7 ⊢; omega
      · have := base_le b1 h
        omega
    · omega
  · omega
theorem sh_back {j s : Int} (hj1 : 1 ≤ j) (hj2 : j ≤ 292194) (h3 : -9600 ≤ s) (h4 : s ≤ 9600) (ha : shE j s = 0) : shE (shV j s) (-s) = 0 ∧ shV (shV j s) (-s) ≤ j ∧ j - 3 ≤ shV (shV j s) (-s) := by
  obtain ⟨a1, a2, _, _, a5, a6, a7⟩ := mon_ok hj1 hj2
  rcases sh_eq hj1 hj2 h3 h4 with ⟨c1, c2, c3, _⟩ | ⟨_, _, c⟩
  · have hl := lenT_bd (monT j + s)
    have hl' := lenT_bd (monT j)
    obtain ⟨e1, e2, e3, e4⟩ := ofI_mon c1 c2 (show 1 ≤ min (ofI j).2.2 (lenT (monT j + s)) by omega) (by omega)
    rw [← c3] at e1 e2 e3 e4
    rcases sh_eq (s := -s) e1 e2 (by omega) (by omega) with ⟨d1, d2, d3, d4⟩ | ⟨d1, _⟩
    · rw [d3, e3, e4, show monT j + s + -s = monT j by omega]
      simp only
      refine ⟨d4, ?_, ?_⟩ <;> omega
    · rw [e4] at d1; omega
  · omega
theorem leap_next (y : Int) (h : leapI y = 1) : leapI (y + 1) = 0 := by
  unfold leapI leapB at *
  simp only [decide_eq_true_eq] at *
  split at h
  · rw [if_neg (by omega)]
  · omega
theorem sh_year {j : Int} (hj1 : 1 ≤ j) (hj2 : j ≤ 292194) :
    ((ofI j).1 < 2400 ∧ shE j 12 = 0 ∧ okE (shV j 12) = 0 ∧ ofI (shV j 12) = ((ofI j).1 + 1, (ofI j).2.1, if (ofI j).2.1 = 2 ∧ (ofI j).2.2 = 29 then 28 else (ofI j).2.2)) ∨ (¬ (ofI j).1 < 2400 ∧ shE j 12 = 3) := by
  obtain ⟨a1, a2, a3, a4, a5, a6, a7⟩ := mon_ok hj1 hj2
  rcases sh_eq hj1 hj2 (show (-9600 : Int) ≤ 12 by omega) (by omega) with ⟨c1, c2, c3, c4⟩ | ⟨c1, _, c⟩
  · left
    have hl := lenT_bd (monT j + 12)
    obtain ⟨e1, e2, e3, e4⟩ := ofI_mon c1 c2 (show 1 ≤ min (ofI j).2.2 (lenT (monT j + 12)) by omega) (by omega)
    rw [← c3] at e1 e2 e3 e4
    refine ⟨by omega, c4, by rw [okE, if_pos ⟨e1, e2⟩], ?_⟩
    rw [e3]
    have hy : 1601 + (monT j + 12) / 12 = (ofI j).1 + 1 := by omega
    have hm : (monT j + 12) % 12 + 1 = (ofI j).2.1 := by omega
    have q : min (ofI j).2.2 (lenT (monT j + 12)) = if (ofI j).2.1 = 2 ∧ (ofI j).2.2 = 29 then 28 else (ofI j).2.2 := by
      unfold lenT at a6 ⊢
      rw [hy, hm]
      rw [← a3, ← a4] at a6
      have h01 := leap_01 (ofI j).1
      have h01' := leap_01 ((ofI j).1 + 1)
      have hn := leap_next (ofI j).1
      unfold lenM at a6 ⊢
      by_cases h2 : (ofI j).2.1 = 2
      · rw [if_pos h2] at a6 ⊢
        by_cases h29 : (ofI j).2.2 = 29
        · rw [if_pos ⟨h2, h29⟩]; omega
        · rw [if_neg (by omega)]; omega
      · rw [if_neg h2] at a6 ⊢
        rw [if_neg (show ¬((ofI j).2.1 = 2 ∧ (ofI j).2.2 = 29) from fun h => h2 h.1)]
        omega
    rw [hy, hm, q]
  · right
    exact ⟨by omega, c⟩
end Go.Proofs.Ytbkpflgceppkdaa
