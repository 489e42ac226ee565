/- Where no row falls: each factor is one at least, and nothing that is left is below 0. -/
import Derived.Test.YtndfgglnhkdciaaDoorLadZ
namespace Go.Proofs.YtndfgglnhkdciaaDoor
open Go.RowKit

theorem ultC_code (f : Int) (c : List (List Int)) (hr : rightC f c = true) : ((ultC f c).2 = 0 ∧ (ultC f c).1.length = c.length) ∨ ((ultC f c).2 = 5 ∧ (ultC f c).1 = []) := by
  rw [ultC, if_pos hr]
  rcases allN_code (facL c) c with h | h
  · exact .inl ⟨h, allN_len h⟩
  · exact .inr h
/-- A row does not fall. -/
def Mono (l : List Int) : Prop := ∀ (k : Nat) (v u : Int), l[k]? = some v → l[k + 1]? = some u → v ≤ u
theorem celN_mono {l : List Int} (hm : Mono l) (h : ∀ v ∈ l, 0 ≤ v ∧ v ≤ 100000000000000000) {k : Nat} (hk : k + 1 < l.length) : celN l k ≤ celN l (k + 1) := by
  obtain ⟨v, hv⟩ := get_of (l := l) (k := k) (by omega)
  obtain ⟨u, hu⟩ := get_of (l := l) (k := k + 1) hk
  have h1 := celN_eq h hv
  have h2 := celN_eq h hu
  have h3 := hm k v u hv hu
  omega
theorem colS_mono (k : Nat) : ∀ {c : List (List Int)}, (∀ l ∈ c, Mono l) → (∀ l ∈ c, ∀ v ∈ l, 0 ≤ v ∧ v ≤ 100000000000000000) → (colS k c).2 ≤ (colS k c).1
  | [], _, _ => by simp [colS]
  | l :: r, hm, h => by
    have ih := colS_mono k (c := r) (fun l hl => hm l (by simp [hl])) (fun l hl => h l (by simp [hl]))
    simp only [colS]
    split
    · rename_i hk
      have := celN_mono (hm l (by simp)) (h l (by simp)) hk
      simp only
      omega
    · exact ih
def Up (F : List (Nat × Nat)) : Prop := ∀ x ∈ F, 1 ≤ x.2 ∧ x.2 ≤ x.1
theorem facL_up {c : List (List Int)} (hm : ∀ l ∈ c, Mono l) (h : ∀ l ∈ c, ∀ v ∈ l, 0 ≤ v ∧ v ≤ 100000000000000000) : Up (facL c) := fun x hx => by
  obtain ⟨k, _, rfl⟩ := List.mem_map.1 hx
  rw [facK]
  have := colS_mono k hm h
  split
  · exact ⟨Nat.le_refl _, Nat.le_refl _⟩
  · rename_i h0
    exact ⟨by omega, this⟩
theorem evQ_up {a n d : Nat} (h1 : 1 ≤ d) (h2 : d ≤ n) (h0 : evE a n d = 0) : a ≤ evQ a n d := by
  unfold evE at h0
  unfold evQ
  split at h0
  · rename_i h
    rw [if_pos h, evN]
    have hq : a ≤ a * n / d := by
      rw [Nat.le_div_iff_mul_le (by omega)]
      exact Nat.mul_le_mul_left a h2
    exact Nat.le_trans hq (upN_ge _ _ _).1
  · cases h0
theorem grow_up : ∀ {F : List (Nat × Nat)} {a : Nat}, Up F → (growN a F).2 = 0 → a ≤ (growN a F).1
  | [], a, _, _ => Nat.le_refl _
  | x :: r, a, hF, h => by
    rw [growN] at h ⊢
    split at h
    · rename_i h0
      rw [if_pos h0]
      obtain ⟨g1, g2⟩ := hF x (by simp)
      exact Nat.le_trans (evQ_up g1 g2 h0) (grow_up (fun y hy => hF y (by simp [hy])) h)
    · rename_i h0
      exact absurd h h0
theorem all_up {F : List (Nat × Nat)} (hF : Up F) : ∀ {c : List (List Int)}, (∀ l ∈ c, 1 ≤ l.length) → (∀ l ∈ c, ∀ v ∈ l, 0 ≤ v ∧ v ≤ 100000000000000000) → ∀ z ∈ lefts (castL (allN F c).1) (c.map lastI), 0 ≤ z
  | [], _, _, z, hz => by simp [allN, castL, lefts] at hz
  | l :: r, hl, h, z, hz => by
    simp only [allN] at hz
    split at hz
    · rename_i h1
      split at hz
      · simp only [lefts, castL, List.map_cons, List.zipWith_cons_cons] at hz
        rcases List.mem_cons.1 hz with rfl | hz
        · have hlen := hl l (by simp)
          obtain ⟨v, hv⟩ := get_of (l := l) (k := l.length - 1) (by omega)
          have h2 := celN_eq (h l (by simp)) hv
          have h3 := grow_up (fun x hx => hF x (List.mem_of_mem_drop hx)) h1
          have h4 : lastI l = v := by rw [lastI, List.getLast?_eq_getElem?, hv]; rfl
          rw [h4]
          omega
        · exact all_up hF (fun l hl' => hl l (by simp [hl'])) (fun l hl' => h l (by simp [hl'])) z hz
      · simp [lefts, castL] at hz
    · simp [lefts, castL] at hz
theorem left_up {f : Int} {c : List (List Int)} (hr : rightC f c = true) (hm : ∀ l ∈ c, Mono l) : ∀ z ∈ lefts (castL (ultC f c).1) (diagL f c), 0 ≤ z := by
  rw [ultC, if_pos hr, diagL, if_pos hr]
  have h := (right_okC hr).2
  refine all_up (facL_up hm h) (fun l hl => ?_) h
  obtain ⟨i, hi⟩ := List.getElem?_of_mem hl
  have := (right_row hr hi).1
  have := lt_of_get hi
  omega
end Go.Proofs.YtndfgglnhkdciaaDoor
