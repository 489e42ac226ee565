/- How years develop, and what they become, with plain numbers. -/
import Derived.Test.YtndfgglnhkdciaaDoorLadG
import Derived.Test.YtndfgglnhkdciaaDoorTriB
namespace Go.Proofs.YtndfgglnhkdciaaDoor

/-- A cell, as a natural number. -/
def celN (l : List Int) (k : Nat) : Nat := (l[k]?.getD 0).toNat
/-- What one year of development had, and had before. -/
def colS (k : Nat) : List (List Int) → Nat × Nat
  | [] => (0, 0)
  | l :: r => let s := colS k r; if k + 1 < l.length then (celN l (k + 1) + s.1, celN l k + s.2) else s
theorem colS_app (k : Nat) : ∀ (a b : List (List Int)), colS k (a ++ b) = ((colS k a).1 + (colS k b).1, (colS k a).2 + (colS k b).2)
  | [], b => by simp [colS]
  | l :: r, b => by
    rw [List.cons_append, colS, colS, colS_app k r b]
    split <;> simp <;> omega
theorem colS_take {c : List (List Int)} {i k : Nat} {l : List Int} (h : c[i]? = some l) : colS k (c.take (i + 1)) = if k + 1 < l.length then ((colS k (c.take i)).1 + celN l (k + 1), (colS k (c.take i)).2 + celN l k) else colS k (c.take i) := by
  rw [take_of h, colS_app]
  simp only [colS]
  split <;> simp
/-- How one year of development develops. -/
def facK (c : List (List Int)) (k : Nat) : Nat × Nat := if (colS k c).2 = 0 then (1, 1) else colS k c
def facL (c : List (List Int)) : List (Nat × Nat) := (List.range (c.length - 1)).map (facK c)
theorem facL_len (c : List (List Int)) : (facL c).length = c.length - 1 := by simp [facL]
theorem facL_get {c : List (List Int)} {k : Nat} (h : k < c.length - 1) : (facL c)[k]? = some (facK c k) := by
  simp [facL, List.getElem?_range h]
/-- All rows' cells are of their size. -/
def OkC (c : List (List Int)) : Prop := c.length ≤ 20 ∧ ∀ l ∈ c, ∀ v ∈ l, 0 ≤ v ∧ v ≤ 100000000000000000
theorem right_okC {f : Int} {c : List (List Int)} (h : rightC f c = true) : OkC c := by
  have h0 := h
  rw [rightC, Bool.and_eq_true] at h
  obtain ⟨h1, h2⟩ := h
  rw [boundsB, decide_eq_true_eq] at h1
  refine ⟨h1.2.1, fun l hl v hv => ?_⟩
  obtain ⟨i, hi, he⟩ := List.getElem_of_mem hl
  have h3 := (rowsB_iff c c.length).1 h2 i l (by rw [List.getElem?_eq_getElem hi, he])
  rw [goodRow, Bool.and_eq_true] at h3
  have h4 := List.all_eq_true.1 h3.2 v hv
  rw [okV, decide_eq_true_eq] at h4
  exact h4
theorem celN_le {l : List Int} (h : ∀ v ∈ l, 0 ≤ v ∧ v ≤ 100000000000000000) (k : Nat) : celN l k ≤ 100000000000000000 := by
  unfold celN
  cases hk : l[k]? with
  | none => simp
  | some v => have := h v (List.mem_of_getElem? hk); simp only [Option.getD_some]; omega
theorem celN_eq {l : List Int} {k : Nat} {v : Int} (h : ∀ v ∈ l, 0 ≤ v ∧ v ≤ 100000000000000000) (hk : l[k]? = some v) : v = (celN l k : Int) := by
  have := h v (List.mem_of_getElem? hk)
  unfold celN
  rw [hk]
  simp only [Option.getD_some]
  omega
theorem colS_le : ∀ {c : List (List Int)} (k : Nat), (∀ l ∈ c, ∀ v ∈ l, 0 ≤ v ∧ v ≤ 100000000000000000) → (colS k c).1 ≤ 100000000000000000 * c.length ∧ (colS k c).2 ≤ 100000000000000000 * c.length
  | [], k, _ => by simp [colS]
  | l :: r, k, h => by
    obtain ⟨h1, h2⟩ := colS_le (c := r) k (fun m hm => h m (by simp [hm]))
    have h3 := celN_le (h l (by simp)) (k + 1)
    have h4 := celN_le (h l (by simp)) k
    rw [colS, List.length_cons, Nat.mul_add]
    split
    · constructor
      · show celN l (k + 1) + (colS k r).1 ≤ _; omega
      · show celN l k + (colS k r).2 ≤ _; omega
    · constructor
      · show (colS k r).1 ≤ _; omega
      · show (colS k r).2 ≤ _; omega
theorem facK_le {c : List (List Int)} (h : OkC c) (k : Nat) : (facK c k).1 ≤ 2000000000000000000 ∧ (facK c k).2 ≤ 2000000000000000000 ∧ 0 < (facK c k).2 := by
  obtain ⟨h1, h2⟩ := colS_le k h.2
  have h3 := h.1
  unfold facK
  split
  · simp
  · rename_i h0
    exact ⟨by omega, by omega, by omega⟩

/-- An amount gone on with; what is amiss. -/
def growN (amt : Nat) : List (Nat × Nat) → Nat × Int
  | [] => (amt, 0)
  | r :: l => if evE amt r.1 r.2 = 0 then growN (evQ amt r.1 r.2) l else (0, evE amt r.1 r.2)
theorem evE_cases (a b c : Nat) : evE a b c = 0 ∨ evE a b c = 5 := by unfold evE; split <;> simp
theorem evQ_le (a b c : Nat) : evQ a b c ≤ 4000000000000000000 := by unfold evQ; split <;> omega
/-- What the years become: the amounts, as long as none is amiss; what is amiss. -/
def allN (F : List (Nat × Nat)) : List (List Int) → List Nat × Int
  | [] => ([], 0)
  | l :: r => let g := growN (celN l (l.length - 1)) (F.drop (l.length - 1)); if g.2 = 0 then (let s := allN F r; if s.2 = 0 then (g.1 :: s.1, 0) else ([], s.2)) else ([], g.2)
def ultN (c : List (List Int)) : List Nat × Int := allN (facL c) c
end Go.Proofs.YtndfgglnhkdciaaDoor
