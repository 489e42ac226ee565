/- Plain facts: what a file is that was made act by act; what was known of it on a day. -/
import Derived.Test.YtmeneojgdbjlnaaClaimPutD
namespace Go.Proofs.Ytmeneojgdbjlnaa
open Go.RowKit

def putL (bkd : Int) (l : List Ac) (a : Ac) : List Ac := if putC bkd l a = 0 then l ++ [a] else l
def madeL (bkd : Int) (ls : List Ac) : List Ac := ls.foldl (putL bkd) []
theorem madeL_snoc (bkd : Int) (ls : List Ac) (a : Ac) : madeL bkd (ls ++ [a]) = putL bkd (madeL bkd ls) a := by simp [madeL]
theorem madeL_take {bkd : Int} {ls : List Ac} {k : Nat} {a : Ac} (h : ls[k]? = some a) : madeL bkd (ls.take (k + 1)) = putL bkd (madeL bkd (ls.take k)) a := by rw [take_of h, madeL_snoc]
theorem putL_len (bkd : Int) (l : List Ac) (a : Ac) : (putL bkd l a).length ≤ l.length + 1 := by
  unfold putL; split <;> simp
theorem madeL_len (bkd : Int) : ∀ (n : Nat) (ls : List Ac), ls.length = n → (madeL bkd ls).length ≤ n := by
  intro n
  induction n with
  | zero => intro ls h; have : ls = [] := List.eq_nil_of_length_eq_zero h; subst this; simp [madeL]
  | succ n ih =>
    intro ls h
    obtain ⟨r, a, rfl⟩ : ∃ r a, ls = r ++ [a] := ⟨ls.dropLast, ls.getLast (by intro e; subst e; simp at h), (List.dropLast_concat_getLast _).symm⟩
    have hr := ih r (by simpa using h)
    have := putL_len bkd (madeL bkd r) a
    rw [madeL_snoc]; omega

theorem right_parts {a : Ac} (h : rightB a = true) : 1 ≤ a.b ∧ a.b ≤ 292194 ∧ 1 ≤ a.k ∧ a.k ≤ 5 ∧ 0 ≤ a.m ∧ a.m ≤ 1000000000000000 ∧ ((a.k = 4 ∨ a.k = 5) → a.m = 0) := by
  simp only [rightB, wiB, Bool.and_eq_true, decide_eq_true_eq] at h
  obtain ⟨⟨⟨h1, h2⟩, h3, h4⟩, h5, h6⟩ := h
  by_cases hk : a.k = 4 ∨ a.k = 5
  · rw [if_pos hk] at h6
    refine ⟨h1, h2, h3, h4, h5, by omega, fun _ => by omega⟩
  · rw [if_neg hk] at h6
    exact ⟨h1, h2, h3, h4, h5, h6, fun h => absurd h hk⟩
theorem right_mk {a : Ac} (h1 : 1 ≤ a.b) (h2 : a.b ≤ 292194) (h3 : 1 ≤ a.k) (h4 : a.k ≤ 5) (h5 : 0 ≤ a.m) (h6 : a.m ≤ 1000000000000000) (h7 : (a.k = 4 ∨ a.k = 5) → a.m = 0) : rightB a = true := by
  simp only [rightB, wiB, Bool.and_eq_true, decide_eq_true_eq]
  refine ⟨⟨⟨h1, h2⟩, h3, h4⟩, h5, ?_⟩
  by_cases hk : a.k = 4 ∨ a.k = 5
  · rw [if_pos hk]; have := h7 hk; omega
  · rw [if_neg hk]; exact h6

/-- What holds of a file that was made act by act. -/
structure Good (bkd : Int) (l : List Ac) : Prop where
  s0 : 0 ≤ (standP l).s
  s1 : (standP l).s ≤ 1000000000000000
  b0 : 0 ≤ (standP l).b
  b1 : (standP l).b ≤ 1000000000000000
  g0 : 0 ≤ (standP l).g
  g1 : (standP l).g ≤ 1000000000000000
  r : ∀ a ∈ l, rightB a = true
  o : ∀ (i : Nat) (a : Ac), l[i]? = some a → lastB bkd (l.take i) ≤ a.b

theorem over_false {p : St} {k m : Int} (h : overB p k m = false) (h1 : 0 ≤ p.s) (h2 : p.s ≤ 1000000000000000) (h3 : 0 ≤ p.b) (h4 : p.b ≤ 1000000000000000) :
    (k = 2 → m ≤ 1000000000000000 - p.s) ∧ (k = 3 → m ≤ 1000000000000000 - p.b) := by
  simp only [overB, decide_eq_false_iff_not] at h
  have e1 : wrap64 (1000000000000000 - p.s) = 1000000000000000 - p.s := IntWalk.wrap64_in _ (by omega)
  have e2 : wrap64 (1000000000000000 - p.b) = 1000000000000000 - p.b := IntWalk.wrap64_in _ (by omega)
  rw [e1, e2] at h
  omega
theorem putC_zero {bkd : Int} {l : List Ac} {a : Ac} (h : putC bkd l a = 0) : rightB a = true ∧ l.length < 2000 ∧ lastB bkd l ≤ a.b ∧ (standP l).o = decide (a.k ≠ 5) ∧ overB (standP l) a.k a.m = false := by
  unfold putC at h
  by_cases h1 : rightB a = false
  · rw [if_pos h1] at h; omega
  rw [if_neg h1] at h
  by_cases h2 : 2000 ≤ l.length
  · rw [if_pos h2] at h; omega
  rw [if_neg h2] at h
  by_cases h3 : a.b < lastB bkd l
  · rw [if_pos h3] at h; omega
  rw [if_neg h3] at h
  by_cases h4 : (standP l).o = decide (a.k = 5)
  · rw [if_pos h4] at h; omega
  rw [if_neg h4] at h
  by_cases h5 : overB (standP l) a.k a.m = true
  · rw [if_pos h5] at h; omega
  refine ⟨by simpa using h1, by omega, by omega, ?_, by simpa using h5⟩
  by_cases hk : a.k = 5
  · simp [hk] at h4 ⊢; exact h4
  · simp [hk] at h4 ⊢; exact h4
theorem putC_mk {bkd : Int} {l : List Ac} {a : Ac} (h1 : rightB a = true) (h2 : l.length < 2000) (h3 : lastB bkd l ≤ a.b) (h4 : (standP l).o = decide (a.k ≠ 5)) (h5 : overB (standP l) a.k a.m = false) : putC bkd l a = 0 := by
  unfold putC
  rw [if_neg (by simp [h1]), if_neg (by omega), if_neg (by omega), if_neg, if_neg (by simp [h5])]
  rw [h4]
  by_cases hk : a.k = 5 <;> simp [hk]
theorem putC_state {bkd : Int} {l : List Ac} {a : Ac} (h4 : (standP l).o = decide (a.k = 5)) : putC bkd l a ≠ 0 := by
  intro h
  have := (putC_zero h).2.2.2.1
  rw [h4] at this
  by_cases hk : a.k = 5 <;> simp [hk] at this

theorem good_nil (bkd : Int) : Good bkd [] := by
  refine ⟨?_, ?_, ?_, ?_, ?_, ?_, fun a h => by simp at h, fun i a h => by simp at h⟩ <;> simp [standP]
theorem lastB_snoc (bkd : Int) (l : List Ac) (a : Ac) : lastB bkd (l ++ [a]) = a.b := by simp [lastB]
/-- What one more act changes. -/
theorem good_snoc {bkd : Int} {l : List Ac} {a : Ac} (h : Good bkd l) (hp : putC bkd l a = 0) : Good bkd (l ++ [a]) ∧
    standP (l ++ [a]) = (if a.k = 1 then ⟨a.m, (standP l).s, (standP l).b, (standP l).o⟩ else if a.k = 2 then ⟨(standP l).g, (standP l).s + a.m, (standP l).b, (standP l).o⟩ else if a.k = 3 then ⟨(standP l).g, (standP l).s, (standP l).b + a.m, (standP l).o⟩
      else if a.k = 4 then ⟨(standP l).g, (standP l).s, (standP l).b, false⟩ else ⟨(standP l).g, (standP l).s, (standP l).b, true⟩ : St) := by
  obtain ⟨hr, _, ho, hst, hov⟩ := putC_zero hp
  obtain ⟨_, _, k1, k5, m0, m1, m4⟩ := right_parts hr
  obtain ⟨o2, o3⟩ := over_false hov h.s0 h.s1 h.b0 h.b1
  have hs0 := h.s0
  have hs1 := h.s1
  have hb0 := h.b0
  have hb1 := h.b1
  have hg0 := h.g0
  have hg1 := h.g1
  have key : standP (l ++ [a]) = (if a.k = 1 then ⟨a.m, (standP l).s, (standP l).b, (standP l).o⟩ else if a.k = 2 then ⟨(standP l).g, (standP l).s + a.m, (standP l).b, (standP l).o⟩ else if a.k = 3 then ⟨(standP l).g, (standP l).s, (standP l).b + a.m, (standP l).o⟩
      else if a.k = 4 then ⟨(standP l).g, (standP l).s, (standP l).b, false⟩ else ⟨(standP l).g, (standP l).s, (standP l).b, true⟩ : St) := by
    rw [standP_snoc]
    unfold stepP
    by_cases h1 : a.k = 1
    · rw [if_pos h1, if_pos h1]
    rw [if_neg h1, if_neg h1]
    by_cases h2 : a.k = 2
    · have := o2 h2
      rw [if_pos h2, if_pos h2, IntWalk.wrap64_in _ (by omega)]
    rw [if_neg h2, if_neg h2]
    by_cases h3 : a.k = 3
    · have := o3 h3
      rw [if_pos h3, if_pos h3, IntWalk.wrap64_in _ (by omega)]
    rw [if_neg h3, if_neg h3]
    by_cases h4 : a.k = 4
    · rw [if_pos h4, if_pos h4]
    rw [if_neg h4, if_neg h4, if_pos (by omega)]
  refine ⟨?_, key⟩
  have bnd : (0 ≤ (standP (l ++ [a])).s ∧ (standP (l ++ [a])).s ≤ 1000000000000000) ∧ (0 ≤ (standP (l ++ [a])).b ∧ (standP (l ++ [a])).b ≤ 1000000000000000) ∧ (0 ≤ (standP (l ++ [a])).g ∧ (standP (l ++ [a])).g ≤ 1000000000000000) := by
    rw [key]
    by_cases h1 : a.k = 1
    · simp only [if_pos h1]; omega
    by_cases h2 : a.k = 2
    · have := o2 h2
      simp only [if_neg h1, if_pos h2]; omega
    by_cases h3 : a.k = 3
    · have := o3 h3
      simp only [if_neg h1, if_neg h2, if_pos h3]; omega
    by_cases h4 : a.k = 4
    · simp only [if_neg h1, if_neg h2, if_neg h3, if_pos h4]; omega
    · simp only [if_neg h1, if_neg h2, if_neg h3, if_neg h4]; omega
  refine ⟨bnd.1.1, bnd.1.2, bnd.2.1.1, bnd.2.1.2, bnd.2.2.1, bnd.2.2.2, fun x hx => ?_, fun i x hx => ?_⟩
  · rcases List.mem_append.1 hx with hx | hx
    · exact h.r x hx
    · simp at hx; subst hx; exact hr
  · by_cases hi : i < l.length
    · rw [List.getElem?_append_left hi] at hx
      rw [List.take_append_of_le_length (by omega)]
      exact h.o i x hx
    · have := lt_of_get hx
      simp at this
      obtain rfl : i = l.length := by omega
      simp at hx; subst hx
      simpa using ho
theorem good_put {bkd : Int} {l : List Ac} (h : Good bkd l) (a : Ac) : Good bkd (putL bkd l a) := by
  unfold putL; split
  · rename_i hp; exact (good_snoc h hp).1
  · exact h
theorem good_made (bkd : Int) : ∀ (n : Nat) (ls : List Ac), ls.length = n → Good bkd (madeL bkd ls) := by
  intro n
  induction n with
  | zero => intro ls h; have : ls = [] := List.eq_nil_of_length_eq_zero h; subst this; exact good_nil bkd
  | succ n ih =>
    intro ls h
    obtain ⟨r, a, rfl⟩ : ∃ r a, ls = r ++ [a] := ⟨ls.dropLast, ls.getLast (by intro e; subst e; simp at h), (List.dropLast_concat_getLast _).symm⟩
    rw [madeL_snoc]
    exact good_put (ih r (by simpa using h)) a

/-- What was known on a day. -/
def atL (d : Int) (l : List Ac) : List Ac := l.filter fun a => decide (a.b ≤ d)
theorem atL_at {e d : Int} (h : e ≤ d) (l : List Ac) : atL e (atL d l) = atL e l := by
  unfold atL
  rw [List.filter_filter]
  congr 1
  funext a
  rw [Bool.eq_iff_iff]; simp; omega
theorem atL_at' {e d : Int} (h : e ≤ d) (l : List Ac) : atL d (atL e l) = atL e l := by
  unfold atL
  rw [List.filter_filter]
  congr 1
  funext a
  rw [Bool.eq_iff_iff]; simp; omega
theorem atL_all {bkd : Int} {l : List Ac} (h : Good bkd l) : atL 292194 l = l := by
  unfold atL
  rw [List.filter_eq_self]
  intro a ha
  have := (right_parts (h.r a ha)).2.1
  simpa using this
theorem atL_snoc {d : Int} {l : List Ac} {a : Ac} (h : d < a.b) : atL d (l ++ [a]) = atL d l := by
  unfold atL
  rw [List.filter_append]
  have : decide (a.b ≤ d) = false := by simp; omega
  simp [this]
theorem atL_len (d : Int) (l : List Ac) : (atL d l).length ≤ l.length := List.length_filter_le _ _
end Go.Proofs.Ytmeneojgdbjlnaa
