/- The triangle of rows: facts of its cells; its contract from a base on. -/
import Derived.Test.YtclcjonogjinfaaTriQ
namespace Go.Proofs.Ytclcjonogjinfaa
open Go.RowKit

section
variable {w0 w : World} {A : Option Addr} {n cap : Nat} {l : List R3}
def OfB (w0 w : World) (f : Int) (C : List (List Int)) (m : Nat) (e : Ending) (w' : World) : Prop :=
  ∃ A' c' R, e = .returned (.tuple #[.agg #[.int .i64 f, .slice A' m c'], .int .i64 0]) ∧ MV w' A' m c' R ∧ allM R = C ∧ FreshT w A' R ∧ Below w0.heap.size w0 w' ∧ Below w.heap.size w w'
theorem of_yes {f : Int} {C : List (List Int)} {m : Nat} (hs : SV w0 3 A n cap (l.map enc3)) (hb : Below w0.heap.size w0 w) (hE : ofE l = 0) (hf : fromL l = f) (hC : ofC l = C) (hm : C.length = m) :
    Calls Try.prog 17 #[.slice A n cap] w (OfB w0 w f C m) := by
  have hn : l.length = n := by have := hs.len; simpa using this
  subst hn hf hC hm
  refine (of_any A cap l w (hs.below hb)).mono fun e w' h => ?_
  rw [hE] at h
  obtain ⟨h1, A', c', R, he, hmv, hr, hfr⟩ := h.yes
  have hl : R.length = (ofC l).length := by rw [← hr, allM_len]
  rw [hl] at he hmv
  exact ⟨A', c', R, he, hmv, hr, hfr, from_base hb h1⟩
theorem of_no {E : Int} (hs : SV w0 3 A n cap (l.map enc3)) (hb : Below w0.heap.size w0 w) (hE : ofE l = E) (h0 : E ≠ 0) :
    Calls Try.prog 17 #[.slice A n cap] w fun e w' => e = .returned (.tuple #[.agg #[.int .i64 0, .slice none 0 0], .int .i64 E]) ∧ Below w0.heap.size w0 w' ∧ Below w.heap.size w w' := by
  have hn : l.length = n := by have := hs.len; simpa using this
  subst hn
  refine (of_any A cap l w (hs.below hb)).mono fun e w' h => ?_
  rw [hE] at h
  obtain ⟨h1, he⟩ := h.no h0
  exact ⟨he, from_base hb h1⟩
end

/-- A row that the triangle has a cell for. -/
def Fits (f : Int) (n : Nat) (x : R3) : Prop := f ≤ yrV x.a ∧ idxO f x < n ∧ 0 ≤ devO x ∧ devO x < (n : Int) - idxO f x ∧ 0 ≤ x.m ∧ x.m ≤ 1000000000000000
theorem fits_all {l : List R3} (hc : chkL l = 0) (_hn : l ≠ []) {x : R3} (h : x ∈ l) : Fits (fromL l) (yearsN l) x := by
  have h1 := from_le h
  have h2 := le_to h
  have h3 := chk_yr (chkL_ok.1 hc x h)
  have h4 := chk_ok (chkL_ok.1 hc x h)
  have h5 := from_bd hc
  have h6 := to_bd hc
  unfold Fits idxO devO yearsN
  refine ⟨h1, by omega, by omega, by omega, h4.2.2.2.1, h4.2.2.2.2⟩
theorem ofO_shape {l : List R3} {c : List (List Int)} (hc : chkL l = 0) (h : ofO l = some c) : Shape (yearsN l) c :=
  shape_all (shape_zeros _) (fun x hx => (chk_ok (chkL_ok.1 hc x hx)).2.2.2.1) h
theorem right_shape {f : Int} {n : Nat} {c : List (List Int)} (h : Shape n c) (h1 : 1 ≤ n) (h2 : n ≤ 20) (h3 : 1601 ≤ f) (h4 : f ≤ 2401 - n) : rightC f c = true := by
  obtain ⟨hl, hr⟩ := h
  subst hl
  rw [rightC, Bool.and_eq_true]
  refine ⟨by simp only [boundsB, decide_eq_true_eq]; omega, (rowsB_iff _ _).2 fun i l hx => ?_⟩
  obtain ⟨h5, h6⟩ := hr i l hx
  simp only [goodRow, Bool.and_eq_true, decide_eq_true_eq, List.all_eq_true, okV]
  exact ⟨h5, h6⟩
/-- All that is known where the triangle is made. -/
theorem made {l : List R3} (h : ofE l = 0) : l ≠ [] ∧ chkL l = 0 ∧ ofO l = some (ofC l) ∧ Shape (yearsN l) (ofC l) ∧ rightC (fromL l) (ofC l) = true ∧ 1 ≤ yearsN l ∧ yearsN l ≤ 20 ∧ 1601 ≤ fromL l ∧ fromL l ≤ 2401 ∧ (ofC l).length = yearsN l := by
  obtain ⟨hn, hc, hb, c, ho⟩ := ofE_zero h
  have e : ofC l = c := by rw [ofC, ho]; rfl
  rw [e]
  have hs := ofO_shape hc ho
  have h1 := from_bd hc
  have h2 := to_bd hc
  have h3 := from_to hc hn
  have h4 : 1 ≤ yearsN l := by unfold yearsN; omega
  have h5 : yearsN l ≤ 20 := by unfold yearsN; omega
  have h6 : fromL l ≤ 2401 - (yearsN l : Int) := by unfold yearsN; omega
  exact ⟨hn, hc, ho, hs, right_shape hs h4 h5 h1.1 h6, h4, h5, h1.1, h1.2, hs.1⟩

/-! ### Together it is what was booked -/
def sumI : List Int → Int
  | [] => 0
  | x :: l => x + sumI l
def sumM (l : List R3) : Int := sumI (l.map (·.m))
theorem sumI_app (a b : List Int) : sumI (a ++ b) = sumI a + sumI b := by
  induction a with
  | nil => simp [sumI]
  | cons x a ih => rw [List.cons_append, sumI, sumI, ih]; omega
theorem sumI_set : ∀ {l : List Int} {i : Nat} {v u : Int}, l[i]? = some v → sumI (l.set i u) = sumI l - v + u
  | [], i, v, u, h => by simp at h
  | x :: l, 0, v, u, h => by simp at h; subst h; rw [List.set_cons_zero, sumI, sumI]; omega
  | x :: l, i + 1, v, u, h => by rw [List.set_cons_succ, sumI, sumI, sumI_set (by simpa using h)]; omega
theorem sumI_take {l : List Int} {k : Nat} {v : Int} (h : l[k]? = some v) : sumI (l.take (k + 1)) = sumI (l.take k) + v := by rw [take_of h, sumI_app]; simp [sumI]
theorem sumI_bd {B : Int} : ∀ {l : List Int}, (∀ v ∈ l, 0 ≤ v ∧ v ≤ B) → 0 ≤ sumI l ∧ sumI l ≤ l.length * B
  | [], _ => by simp [sumI]
  | x :: l, h => by
    have h1 := h x (by simp)
    have h2 := sumI_bd (l := l) (fun v hv => h v (by simp [hv]))
    rw [sumI, List.length_cons]
    have : ((l.length + 1 : Nat) : Int) * B = l.length * B + B := by rw [Int.natCast_add, Int.add_mul]; simp
    omega
theorem last_more {dev amt : Int} {r : List Int} (h0 : 0 ≤ dev) (h : dev < r.length) : lastI (moreL dev amt r) = lastI r + amt := by
  have hp : 0 < r.length := by omega
  obtain ⟨v, hv⟩ := get_of (l := r) (k := r.length - 1) (by omega)
  rw [lastI, lastI, List.getLast?_eq_getElem?, List.getLast?_eq_getElem?, moreL_len, moreL_get hv, hv]
  simp only [Option.getD_some, moreF]
  rw [if_pos (by omega)]
theorem diag_all {f : Int} {n : Nat} : ∀ {l : List R3} {c c' : List (List Int)}, Shape n c → (∀ x ∈ l, Fits f n x) → putAll f c l = some c' → sumI (c'.map lastI) = sumI (c.map lastI) + sumM l
  | [], c, c', _, _, h => by simp [putAll] at h; subst h; simp [sumM, sumI]
  | x :: l, c, c', hs, hf, h => by
    rw [putAll] at h
    split at h
    · rename_i hc
      obtain ⟨_, h2, h3, h4, h5, _⟩ := hf x (by simp)
      have := diag_all (shape_step hs h5 hc) (fun y hy => hf y (by simp [hy])) h
      obtain ⟨r, hr⟩ := get_of (l := c) (k := idxO f x) (by rw [hs.1]; exact h2)
      have hl := (hs.2 _ _ hr).1
      have er : rowO f c x = moreL (devO x) x.m r := by rw [rowO, List.getD_eq_getElem?_getD, hr]; rfl
      rw [this, List.map_set, er, last_more h3 (by omega), sumI_set (v := lastI r) (by rw [List.getElem?_map, hr]; rfl), sumM, sumM, List.map_cons, sumI]
      omega
    · cases h
theorem diag_zero (n : Nat) : sumI ((zerosT n).map lastI) = 0 := by
  have : ∀ v ∈ (zerosT n).map lastI, 0 ≤ v ∧ v ≤ 0 := by
    intro v hv
    obtain ⟨r, hr, rfl⟩ := List.mem_map.1 hv
    obtain ⟨i, hi⟩ := List.mem_iff_getElem?.1 hr
    have hlt := lt_of_get hi
    rw [zerosT_len] at hlt
    rw [zerosT_get hlt] at hi
    cases hi
    rw [lastI, List.getLast?_eq_getElem?, List.getElem?_replicate]
    split <;> simp
  have := sumI_bd this
  omega
theorem diag_sum {l : List R3} (h : ofE l = 0) : sumI (diagL (fromL l) (ofC l)) = sumM l := by
  obtain ⟨hn, hc, ho, hs, hr, _⟩ := made h
  rw [diagL, if_pos hr, diag_all (shape_zeros _) (fun x hx => fits_all hc hn hx) ho, diag_zero]
  omega
theorem diag_bd {f : Int} {c : List (List Int)} {v : Int} (h : v ∈ diagL f c) : 0 ≤ v ∧ v ≤ 100000000000000000 := by
  unfold diagL at h
  split at h
  · rename_i hr
    obtain ⟨r, hm, rfl⟩ := List.mem_map.1 h
    obtain ⟨i, hi⟩ := List.mem_iff_getElem?.1 hm
    obtain ⟨h1, h2⟩ := right_row hr hi
    have := lt_of_get hi
    obtain ⟨v, hv⟩ := get_of (l := r) (k := r.length - 1) (by omega)
    rw [lastI, List.getLast?_eq_getElem?, hv]
    exact h2 v (List.mem_of_getElem? hv)
  · simp at h

/-! ### No row falls -/
def Rising (l : List Int) : Prop := ∀ (k : Nat) (v u : Int), l[k]? = some v → l[k + 1]? = some u → v ≤ u
theorem rising_more {dev amt : Int} {l : List Int} (ha : 0 ≤ amt) (h : Rising l) : Rising (moreL dev amt l) := by
  intro k v u hv hu
  have h1 := lt_of_get hv
  have h2 := lt_of_get hu
  rw [moreL_len] at h1 h2
  obtain ⟨v0, hv0⟩ := get_of h1
  obtain ⟨u0, hu0⟩ := get_of h2
  rw [moreL_get hv0] at hv
  rw [moreL_get hu0] at hu
  cases hv; cases hu
  have := h k v0 u0 hv0 hu0
  unfold moreF
  split <;> split <;> omega
theorem rising_all {f : Int} : ∀ {l : List R3} {c c' : List (List Int)}, (∀ x ∈ l, 0 ≤ x.m) → (∀ r ∈ c, Rising r) → putAll f c l = some c' → ∀ r ∈ c', Rising r
  | [], c, c', _, hr, h => by simp [putAll] at h; subst h; exact hr
  | x :: l, c, c', hm, hr, h => by
    rw [putAll] at h
    split at h
    · refine rising_all (fun y hy => hm y (by simp [hy])) (fun r hrm => ?_) h
      rcases List.mem_or_eq_of_mem_set hrm with h1 | h1
      · exact hr r h1
      · subst h1
        refine rising_more (hm x (by simp)) ?_
        rw [List.getD_eq_getElem?_getD]
        cases hx : c[idxO f x]? with
        | none => intro k v u hv; simp at hv
        | some r => exact hr r (List.mem_of_getElem? hx)
    · cases h
theorem rising_made {l : List R3} (h : ofE l = 0) : ∀ r ∈ ofC l, Rising r := by
  obtain ⟨hn, hc, ho, _⟩ := made h
  refine rising_all (fun x hx => (fits_all hc hn hx).2.2.2.2.1) (fun r hr => ?_) ho
  obtain ⟨i, hi⟩ := List.mem_iff_getElem?.1 hr
  have hlt := lt_of_get hi
  rw [zerosT_len] at hlt
  rw [zerosT_get hlt] at hi
  cases hi
  intro k v u hv hu
  rw [List.getElem?_replicate] at hv hu
  split at hv <;> split at hu <;> simp_all
end Go.Proofs.Ytclcjonogjinfaa
