/- Part 9 of the proof. -/
import Derived.Test.YtmfohnchnbgbaaaGreatTcM08
/- The triangle of rows: what is amiss, the years, the cells; plain facts. -/
namespace Go.Proofs.YtmfohnchnbgbaaaGreat

def fromL (l : List R3) : Int := l.foldl (fun a x => min a (yrV x.a)) 2401
def toL (l : List R3) : Int := l.foldl (fun a x => max a (yrV x.b)) 0
theorem fromL_take {l : List R3} {k : Nat} {x : R3} (h : l[k]? = some x) : fromL (l.take (k + 1)) = min (fromL (l.take k)) (yrV x.a) := by rw [take_of h]; simp [fromL]
theorem toL_take {l : List R3} {k : Nat} {x : R3} (h : l[k]? = some x) : toL (l.take (k + 1)) = max (toL (l.take k)) (yrV x.b) := by rw [take_of h]; simp [toL]
def chkL : List R3 → Int
  | [] => 0
  | x :: l => if chk x = 0 then chkL l else chk x
theorem chkL_ok : ∀ {l : List R3}, chkL l = 0 ↔ ∀ x ∈ l, chk x = 0
  | [] => by simp [chkL]
  | x :: l => by
    rw [chkL]
    by_cases h : chk x = 0
    · rw [if_pos h, chkL_ok]; simp [h]
    · rw [if_neg h]; simp [h]
theorem chkL_at : ∀ {l : List R3} {k : Nat} {x : R3}, l[k]? = some x → chkL (l.take k) = 0 → chk x ≠ 0 → chkL l = chk x
  | [], k, x, h, _, _ => by simp at h
  | y :: l, 0, x, h, _, hx => by simp at h; subst h; rw [chkL, if_neg hx]
  | y :: l, k + 1, x, h, hk, hx => by
    rw [List.take_succ_cons, chkL] at hk
    by_cases hy : chk y = 0
    · rw [if_pos hy] at hk
      rw [chkL, if_pos hy]
      exact chkL_at (by simpa using h) hk hx
    · rw [if_neg hy] at hk; exact absurd hk hy
theorem chkL_take {l : List R3} {k : Nat} {x : R3} (h : l[k]? = some x) (hk : chkL (l.take k) = 0) (hx : chk x = 0) : chkL (l.take (k + 1)) = 0 := by
  rw [chkL_ok] at hk ⊢
  rw [take_of h]
  intro y hy
  rcases List.mem_append.1 hy with hy | hy
  · exact hk y hy
  · simp at hy; subst hy; exact hx
theorem chk_ok {x : R3} (h : chk x = 0) : 1 ≤ x.a ∧ x.a ≤ x.b ∧ x.b ≤ 292194 ∧ 0 ≤ x.m ∧ x.m ≤ 1000000000000000 := by
  unfold chk at h
  split at h
  · omega
  · split at h
    · omega
    · omega
theorem yr_bd {n : Int} (h1 : 1 ≤ n) (h2 : n ≤ 292194) : 1601 ≤ yrV n ∧ yrV n ≤ 2400 := by
  rw [yrV, if_pos ⟨h1, h2⟩]
  have := yearI_ok n h1 h2
  omega
theorem yr_mono {a b : Int} (h1 : 1 ≤ a) (h : a ≤ b) (h2 : b ≤ 292194) : yrV a ≤ yrV b := by
  rw [yrV, yrV, if_pos ⟨h1, by omega⟩, if_pos ⟨by omega, h2⟩]
  obtain ⟨a1, a2, a3, a4⟩ := yearI_ok a h1 (by omega)
  obtain ⟨b1, b2, b3, b4⟩ := yearI_ok b (by omega) h2
  rcases Int.lt_or_le (yearI b) (yearI a) with hlt | hle
  · exfalso
    rcases (show yearI b + 1 = yearI a ∨ yearI b + 1 < yearI a by omega) with e | e
    · rw [e] at b4; omega
    · have := ahead_lt (y := yearI b + 1) (z := yearI a) (by omega) e
      omega
  · exact hle
theorem chk_yr {x : R3} (h : chk x = 0) : 1601 ≤ yrV x.a ∧ yrV x.a ≤ yrV x.b ∧ yrV x.b ≤ 2400 := by
  obtain ⟨h1, h2, h3, _⟩ := chk_ok h
  exact ⟨(yr_bd h1 (by omega)).1, yr_mono h1 h2 h3, (yr_bd (by omega) h3).2⟩
theorem fold_min_le {l : List R3} : ∀ (a : Int), l.foldl (fun a x => min a (yrV x.a)) a ≤ a ∧ ∀ x ∈ l, l.foldl (fun a x => min a (yrV x.a)) a ≤ yrV x.a := by
  induction l with
  | nil => intro a; simp
  | cons y l ih =>
    intro a
    simp only [List.foldl_cons]
    obtain ⟨h1, h2⟩ := ih (min a (yrV y.a))
    refine ⟨by omega, fun x hx => ?_⟩
    rcases List.mem_cons.1 hx with rfl | hx
    · omega
    · exact h2 x hx
theorem fold_max_le {l : List R3} : ∀ (a : Int), a ≤ l.foldl (fun a x => max a (yrV x.b)) a ∧ ∀ x ∈ l, yrV x.b ≤ l.foldl (fun a x => max a (yrV x.b)) a := by
  induction l with
  | nil => intro a; simp
  | cons y l ih =>
    intro a
    simp only [List.foldl_cons]
    obtain ⟨h1, h2⟩ := ih (max a (yrV y.b))
    refine ⟨by omega, fun x hx => ?_⟩
    rcases List.mem_cons.1 hx with rfl | hx
    · omega
    · exact h2 x hx
theorem from_le {l : List R3} {x : R3} (h : x ∈ l) : fromL l ≤ yrV x.a := (fold_min_le 2401).2 x h
theorem le_to {l : List R3} {x : R3} (h : x ∈ l) : yrV x.b ≤ toL l := (fold_max_le 0).2 x h
theorem fold_min_bd {l : List R3} (h : ∀ x ∈ l, chk x = 0) : ∀ (a : Int), 1601 ≤ a → 1601 ≤ l.foldl (fun a x => min a (yrV x.a)) a := by
  induction l with
  | nil => intro a ha; simpa using ha
  | cons y l ih =>
    intro a ha
    simp only [List.foldl_cons]
    have := chk_yr (h y (by simp))
    exact ih (fun x hx => h x (by simp [hx])) _ (by omega)
theorem fold_max_bd {l : List R3} (h : ∀ x ∈ l, chk x = 0) : ∀ (a : Int), a ≤ 2400 → l.foldl (fun a x => max a (yrV x.b)) a ≤ 2400 := by
  induction l with
  | nil => intro a ha; simpa using ha
  | cons y l ih =>
    intro a ha
    simp only [List.foldl_cons]
    have := chk_yr (h y (by simp))
    exact ih (fun x hx => h x (by simp [hx])) _ (by omega)
theorem from_bd {l : List R3} (h : chkL l = 0) : 1601 ≤ fromL l ∧ fromL l ≤ 2401 := ⟨fold_min_bd (chkL_ok.1 h) _ (by omega), (fold_min_le 2401).1⟩
theorem to_bd {l : List R3} (h : chkL l = 0) : 0 ≤ toL l ∧ toL l ≤ 2400 := ⟨(fold_max_le 0).1, fold_max_bd (chkL_ok.1 h) _ (by omega)⟩
theorem from_to {l : List R3} (h : chkL l = 0) (hn : l ≠ []) : fromL l ≤ toL l := by
  obtain ⟨x, t, rfl⟩ := List.exists_cons_of_ne_nil hn
  have h1 := from_le (l := x :: t) (x := x) (by simp)
  have h2 := le_to (l := x :: t) (x := x) (by simp)
  have := chk_yr (chkL_ok.1 h x (by simp))
  omega

/-- A triangle of zeros. -/
def zerosT (n : Nat) : List (List Int) := (List.range n).map fun i => List.replicate (n - i) 0
theorem zerosT_len (n : Nat) : (zerosT n).length = n := by simp [zerosT]
theorem zerosT_get {n k : Nat} (h : k < n) : (zerosT n)[k]? = some (List.replicate (n - k) 0) := by simp [zerosT, h]
/-- One amount more. -/
def idxO (f : Int) (x : R3) : Nat := (yrV x.a - f).toNat
def devO (x : R3) : Int := yrV x.b - yrV x.a
def rowO (f : Int) (c : List (List Int)) (x : R3) : List Int := moreL (devO x) x.m (c.getD (idxO f x) [])
def putAll (f : Int) : List (List Int) → List R3 → Option (List (List Int))
  | c, [] => some c
  | c, x :: l => if capB (rowO f c x) = true then putAll f (c.set (idxO f x) (rowO f c x)) l else none
theorem putAll_snoc {f : Int} {x : R3} : ∀ {l : List R3} {c : List (List Int)}, putAll f c (l ++ [x]) = (putAll f c l).bind fun c' => if capB (rowO f c' x) = true then some (c'.set (idxO f x) (rowO f c' x)) else none
  | [], c => by simp [putAll]
  | y :: l, c => by
    rw [List.cons_append, putAll, putAll]
    split
    · exact putAll_snoc
    · rfl
theorem putAll_none {f : Int} : ∀ {l l' : List R3} {c : List (List Int)}, putAll f c l = none → putAll f c (l ++ l') = none
  | [], l', c, h => by simp [putAll] at h
  | y :: l, l', c, h => by
    rw [List.cons_append, putAll]
    rw [putAll] at h
    split
    · rename_i e; rw [if_pos e] at h; exact putAll_none h
    · rfl
theorem mem_more {dev amt : Int} {l : List Int} {v : Int} (h : v ∈ moreL dev amt l) : ∃ (k : Nat) (u : Int), l[k]? = some u ∧ v = moreF dev amt k u := by
  obtain ⟨k, hk⟩ := List.mem_iff_getElem?.1 h
  have h1 := lt_of_get hk
  rw [moreL_len] at h1
  obtain ⟨u, hu⟩ := get_of h1
  rw [moreL_get hu] at hk
  cases hk
  exact ⟨k, u, hu, rfl⟩
/-- A row with an amount more in its cells from one on, up to another. -/
def moreP (D : Nat) (amt : Int) (l : List Int) (k : Nat) : List Int := l.mapIdx fun j v => if D ≤ j ∧ j < k then v + amt else v
theorem moreP_len (D : Nat) (amt : Int) (l : List Int) (k : Nat) : (moreP D amt l k).length = l.length := by simp [moreP]
theorem moreP_start (D : Nat) (amt : Int) (l : List Int) : moreP D amt l D = l := by
  apply List.ext_getElem?
  intro j
  simp only [moreP, List.getElem?_mapIdx]
  cases l[j]? with
  | none => rfl
  | some v => simp; omega
theorem moreP_get {D : Nat} {amt : Int} {l : List Int} {k : Nat} {v : Int} (h : l[k]? = some v) : (moreP D amt l k)[k]? = some v := by simp [moreP, h]
theorem moreP_set {D : Nat} {amt : Int} {l : List Int} {k : Nat} {v : Int} (hD : D ≤ k) (h : l[k]? = some v) : (moreP D amt l k).set k (v + amt) = moreP D amt l (k + 1) := by
  apply List.ext_getElem?
  intro j
  simp only [moreP, List.getElem?_mapIdx, List.getElem?_set, List.length_mapIdx]
  by_cases e : k = j
  · subst e
    rw [if_pos rfl, if_pos (lt_of_get h), h]
    simp; omega
  · rw [if_neg e]
    cases l[j]? with
    | none => rfl
    | some u =>
      simp only [Option.map_some, Option.some.injEq]
      by_cases hj : D ≤ j ∧ j < k
      · rw [if_pos hj, if_pos (by omega)]
      · rw [if_neg hj, if_neg (by omega)]
theorem moreP_end {D : Nat} {dev amt : Int} {l : List Int} (h : dev = (D : Int)) : moreP D amt l l.length = moreL dev amt l := by
  apply List.ext_getElem?
  intro j
  simp only [moreP, moreL, List.getElem?_mapIdx]
  by_cases hj : j < l.length
  · obtain ⟨v, hv⟩ := get_of hj
    rw [hv]
    simp only [Option.map_some, Option.some.injEq, moreF]
    by_cases hd : D ≤ j
    · rw [if_pos ⟨hd, hj⟩, if_pos (by omega)]
    · rw [if_neg (by omega), if_neg (by omega)]
  · rw [List.getElem?_eq_none (by omega)]; rfl
theorem capB_no {dev amt : Int} {l : List Int} {k : Nat} {v : Int} (h : l[k]? = some v) (hd : dev ≤ k) (hg : 100000000000000000 < v + amt) : capB (moreL dev amt l) = false := by
  rw [capB, List.all_eq_false]
  refine ⟨_, List.mem_of_getElem? (moreL_get h), ?_⟩
  rw [moreF, if_pos hd]; simp; omega
theorem capB_yes {dev amt : Int} {l : List Int} (h0 : ∀ v ∈ l, v ≤ 100000000000000000) (h : ∀ (j : Nat) (v : Int), dev ≤ (j : Int) → l[j]? = some v → v + amt ≤ 100000000000000000) : capB (moreL dev amt l) = true := by
  simp only [capB, List.all_eq_true, decide_eq_true_eq]
  intro v hv
  obtain ⟨k, u, hu, rfl⟩ := mem_more hv
  unfold moreF
  split
  · rename_i hd; exact h k u hd hu
  · exact h0 u (List.mem_of_getElem? hu)
/-- The shape of a triangle. -/
def Shape (n : Nat) (c : List (List Int)) : Prop := c.length = n ∧ ∀ i l, c[i]? = some l → l.length = n - i ∧ ∀ v ∈ l, 0 ≤ v ∧ v ≤ 100000000000000000
theorem shape_zeros (n : Nat) : Shape n (zerosT n) := by
  refine ⟨zerosT_len n, fun i l h => ?_⟩
  have hi := lt_of_get h
  rw [zerosT_len] at hi
  rw [zerosT_get hi] at h
  cases h
  refine ⟨by simp, fun v hv => ?_⟩
  have := (List.mem_replicate.1 hv).2
  omega
theorem shape_step {n : Nat} {f : Int} {c : List (List Int)} {x : R3} (h : Shape n c) (hm : 0 ≤ x.m) (hc : capB (rowO f c x) = true) : Shape n (c.set (idxO f x) (rowO f c x)) := by
  obtain ⟨h1, h2⟩ := h
  refine ⟨by rw [List.length_set]; exact h1, fun i l hl => ?_⟩
  rw [List.getElem?_set] at hl
  by_cases e : idxO f x = i
  · subst e
    by_cases hi : idxO f x < c.length
    · rw [if_pos rfl, if_pos hi] at hl
      cases hl
      obtain ⟨r, hr⟩ := get_of hi
      obtain ⟨h3, h4⟩ := h2 _ _ hr
      have er : c.getD (idxO f x) [] = r := by rw [List.getD_eq_getElem?_getD, hr]; rfl
      refine ⟨by rw [rowO, moreL_len, er]; exact h3, fun v hv => ?_⟩
      simp only [capB, List.all_eq_true, decide_eq_true_eq] at hc
      refine ⟨?_, hc v hv⟩
      rw [rowO, er] at hv
      obtain ⟨k, u, hu, rfl⟩ := mem_more hv
      have := h4 u (List.mem_of_getElem? hu)
      unfold moreF; split <;> omega
    · rw [if_pos rfl, if_neg hi] at hl; cases hl
  · rw [if_neg e] at hl; exact h2 i l hl
theorem shape_all {n : Nat} {f : Int} : ∀ {l : List R3} {c c' : List (List Int)}, Shape n c → (∀ x ∈ l, 0 ≤ x.m) → putAll f c l = some c' → Shape n c'
  | [], c, c', h, _, e => by simp [putAll] at e; subst e; exact h
  | x :: l, c, c', h, hm, e => by
    rw [putAll] at e
    split at e
    · rename_i hc
      exact shape_all (shape_step h (hm x (by simp)) hc) (fun y hy => hm y (by simp [hy])) e
    · cases e
/-- What is amiss with rows; the first year; the cells. -/
def yearsN (l : List R3) : Nat := (toL l - fromL l + 1).toNat
def ofO (l : List R3) : Option (List (List Int)) := putAll (fromL l) (zerosT (yearsN l)) l
def ofE (l : List R3) : Int := if l = [] then 7 else if chkL l = 0 then (if 2000 < l.length ∨ 20 < toL l - fromL l + 1 then 2 else if ofO l = none then 5 else 0) else chkL l
theorem ofE_chk {l : List R3} (hn : l ≠ []) (h : chkL l ≠ 0) : ofE l = chkL l := by rw [ofE, if_neg hn, if_neg h]
theorem ofE_bound {l : List R3} (hn : l ≠ []) (h : chkL l = 0) (hb : 2000 < l.length ∨ 20 < toL l - fromL l + 1) : ofE l = 2 := by rw [ofE, if_neg hn, if_pos h, if_pos hb]
theorem ofE_over {l : List R3} (hn : l ≠ []) (h : chkL l = 0) (hb : ¬(2000 < l.length ∨ 20 < toL l - fromL l + 1)) (ho : ofO l = none) : ofE l = 5 := by rw [ofE, if_neg hn, if_pos h, if_neg hb, if_pos ho]
theorem ofE_ok {l : List R3} {c : List (List Int)} (hn : l ≠ []) (h : chkL l = 0) (hb : ¬(2000 < l.length ∨ 20 < toL l - fromL l + 1)) (ho : ofO l = some c) : ofE l = 0 := by rw [ofE, if_neg hn, if_pos h, if_neg hb, if_neg (by rw [ho]; simp)]
theorem chk_range (x : R3) : chk x = 0 ∨ chk x = 1 ∨ chk x = 4 := by unfold chk; split; simp; split <;> simp
theorem chkL_range : ∀ (l : List R3), chkL l = 0 ∨ chkL l = 1 ∨ chkL l = 4
  | [] => .inl rfl
  | x :: l => by
    rw [chkL]; split
    · exact chkL_range l
    · exact chk_range x
/-- What follows where the triangle is made. -/
theorem ofE_zero {l : List R3} (h : ofE l = 0) : l ≠ [] ∧ chkL l = 0 ∧ ¬(2000 < l.length ∨ 20 < toL l - fromL l + 1) ∧ ∃ c, ofO l = some c := by
  unfold ofE at h
  split at h
  · omega
  · rename_i hn
    split at h
    · rename_i hc
      split at h
      · omega
      · rename_i hb
        split at h
        · omega
        · rename_i ho
          obtain ⟨c, hc'⟩ := Option.ne_none_iff_exists'.1 ho
          exact ⟨hn, hc, hb, c, hc'⟩
    · rename_i hc; exact absurd h hc
def ofC (l : List R3) : List (List Int) := (ofO l).getD []
end Go.Proofs.YtmfohnchnbgbaaaGreat
