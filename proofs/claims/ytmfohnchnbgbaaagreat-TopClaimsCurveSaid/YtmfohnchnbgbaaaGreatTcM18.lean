/- Part 18 of the proof. -/
import Derived.Test.YtmfohnchnbgbaaaGreatTcM16
/- Sorting: two sorted parts become one. -/
namespace Go.Proofs.YtmfohnchnbgbaaaGreat
open Go.RowKit
section
variable {α : Type} {val : α → Int} {w0 : World} {B g n cap : Nat} {lt : α → α → Prop} {pos : α → Nat} {U : α → Prop} {H : Nat} {cf : α → α → Int}
theorem pw_at {l : List α} (h : l.Pairwise lt) {i j : Nat} {x y : α} (hx : l[i]? = some x) (hy : l[j]? = some y) (hij : i < j) : lt x y := by
  have h6 := List.pairwise_iff_getElem.1 h i j (lt_of_get hx) (lt_of_get hy) hij
  have e1 := (List.getElem?_eq_some_iff.1 hx).2
  have e2 := (List.getElem?_eq_some_iff.1 hy).2
  rwa [e1, e2] at h6
/-- What is known of the place at which both parts are cut. -/
structure CutAt (lt : α → α → Prop) (A C : List α) (a m p lo hi s r : Nat) : Prop where
  lo : ∀ c x y, lo ≤ c → c < s → A[c - a]? = some x → C[p - c - m]? = some y → lt x y
  hi : ∀ c x y, r ≤ c → c < hi → A[c - a]? = some x → C[p - c - m]? = some y → lt y x
/-- All that lies ahead of the cut is less than all behind it. -/
theorem cut_less {A C : List α} {a m b p lo hi s : Nat} (ht : ∀ x y z, lt x y → lt y z → lt x z) (hA : A.Pairwise lt) (hC : C.Pairwise lt) (hm : m = a + A.length) (hb : b = m + C.length) (hc : CutAt lt A C a m p lo hi s s) (hlo : a ≤ lo) (hls : lo ≤ s) (hsh : s ≤ hi) (hhi : hi ≤ m)
    (hp1 : ∀ c, lo ≤ c → c < hi → m ≤ p - c ∧ p - c < b ∧ c ≤ p) (e : Nat) (he : e + s = p + 1) (hlo2 : s = lo → lo = a ∨ e = b) (hhi2 : s = hi → hi = m ∨ e = m) (hem : m ≤ e) (heb : e ≤ b) :
    ∀ u v, (u ∈ A.take (s - a) ∨ u ∈ C.take (e - m)) → (v ∈ A.drop (s - a) ∨ v ∈ C.drop (e - m)) → lt u v := by
  intro u v hu hv
  rcases hu with hu | hu <;> rcases hv with hv | hv
  · obtain ⟨i, hi1, hi2⟩ := mem_take_at hu
    obtain ⟨j, hj1, hj2⟩ := mem_drop_at hv
    exact pw_at hA hi2 hj2 (by omega)
  · obtain ⟨i, hi1, hi2⟩ := mem_take_at hu
    obtain ⟨j, hj1, hj2⟩ := mem_drop_at hv
    have hjl := lt_of_get hj2
    have hil := lt_of_get hi2
    have hsl : lo < s := by
      rcases Nat.lt_or_ge lo s with h | h
      · exact h
      · rcases hlo2 (by omega) with h2 | h2 <;> omega
    have hq := hp1 (s - 1) (by omega) (by omega)
    obtain ⟨x, hx⟩ := get_of (l := A) (k := s - 1 - a) (by omega)
    obtain ⟨y, hy⟩ := get_of (l := C) (k := p - (s - 1) - m) (by omega)
    have h1 := hc.lo (s - 1) x y (by omega) (by omega) hx hy
    have h2 : lt x v := by
      rcases Nat.lt_or_ge (p - (s - 1) - m) j with h | h
      · exact ht _ _ _ h1 (pw_at hC hy hj2 h)
      · have e3 : p - (s - 1) - m = j := by omega
        rw [e3] at hy; rw [hj2] at hy; cases hy; exact h1
    rcases Nat.lt_or_ge i (s - 1 - a) with h | h
    · exact ht _ _ _ (pw_at hA hi2 hx h) h2
    · have e3 : s - 1 - a = i := by omega
      rw [e3] at hx; rw [hi2] at hx; cases hx; exact h2
  · obtain ⟨i, hi1, hi2⟩ := mem_take_at hu
    obtain ⟨j, hj1, hj2⟩ := mem_drop_at hv
    have hjl := lt_of_get hj2
    have hil := lt_of_get hi2
    have hsl : s < hi := by
      rcases Nat.lt_or_ge s hi with h | h
      · exact h
      · rcases hhi2 (by omega) with h2 | h2 <;> omega
    have hq := hp1 s (by omega) (by omega)
    obtain ⟨x, hx⟩ := get_of (l := A) (k := s - a) (by omega)
    obtain ⟨y, hy⟩ := get_of (l := C) (k := p - s - m) (by omega)
    have h1 := hc.hi s x y (by omega) (by omega) hx hy
    have h2 : lt y v := by
      rcases Nat.lt_or_ge (s - a) j with h | h
      · exact ht _ _ _ h1 (pw_at hA hx hj2 h)
      · have e3 : s - a = j := by omega
        rw [e3] at hx; rw [hj2] at hx; cases hx; exact h1
    rcases Nat.lt_or_ge i (p - s - m) with h | h
    · exact ht _ _ _ (pw_at hC hi2 hy h) h2
    · have e3 : p - s - m = i := by omega
      rw [e3] at hy; rw [hi2] at hy; cases hy; exact h2
  · obtain ⟨i, hi1, hi2⟩ := mem_take_at hu
    obtain ⟨j, hj1, hj2⟩ := mem_drop_at hv
    exact pw_at hC hi2 hj2 (by omega)

-- THE WALK

end
end Go.Proofs.YtmfohnchnbgbaaaGreat
