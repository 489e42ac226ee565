/- Part 3 of the proof. -/
import Derived.Deep.CutRange
import Derived.Deep.RegionHeld3
import Derived.WalkSpells
import Derived.Test.YtmfohnchnbgbaaaGreatDoorYaM02
/- The triangle of rows: what is amiss, the years, the cells; plain facts. -/
namespace Go.Proofs.YtmfohnchnbgbaaaGreatDoor

def fromL (l : List R3) : Int := l.foldl (fun a x => min a (yrV x.a)) 2401
def toL (l : List R3) : Int := l.foldl (fun a x => max a (yrV x.b)) 0
theorem fromL_take {l : List R3} {k : Nat} {x : R3} (h : l[k]? = some x) : fromL (l.take (k + 1)) = min (fromL (l.take k)) (yrV x.a) := by rw [take_of h]; simp [fromL]
theorem toL_take {l : List R3} {k : Nat} {x : R3} (h : l[k]? = some x) : toL (l.take (k + 1)) = max (toL (l.take k)) (yrV x.b) := by rw [take_of h]; simp [toL]
def chkL : List R3 → Int
  | [] => 0
  | x :: l => if chk x = 0 then chkL l else chk x
theorem chkL_ok : ∀ {l : List R3}, chkL l = 0 ↔ ∀ x ∈ l, chk x = 0
  | [] => by simp [chkL]
  | x :: l => by
    rw [chkL]
    by_cases h : chk x = 0
    · rw [if_pos h, chkL_ok]; simp [h]
    · rw [if_neg h]; simp [h]
theorem chkL_at : ∀ {l : List R3} {k : Nat} {x : R3}, l[k]? = some x → chkL (l.take k) = 0 → chk x ≠ 0 → chkL l = chk x
  | [], k, x, h, _, _ => by simp at h
  | y :: l, 0, x, h, _, hx => by simp at h; subst h; rw [chkL, if_neg hx]
  | y :: l, k + 1, x, h, hk, hx => by
    rw [List.take_succ_cons, chkL] at hk
    by_cases hy : chk y = 0
    · rw [if_pos hy] at hk
      rw [chkL, if_pos hy]
      exact chkL_at (by simpa using h) hk hx
    · rw [if_neg hy] at hk; exact absurd hk hy
theorem chkL_take {l : List R3} {k : Nat} {x : R3} (h : l[k]? = some x) (hk : chkL (l.take k) = 0) (hx : chk x = 0) : chkL (l.take (k + 1)) = 0 := by
  rw [chkL_ok] at hk ⊢
  rw [take_of h]
  intro y hy
  rcases List.mem_append.1 hy with hy | hy
  · exact hk y hy
  · simp at hy; subst hy; exact hx
theorem chk_ok {x : R3} (h : chk x = 0) : 1 ≤ x.a ∧ x.a ≤ x.b ∧ x.b ≤ 292194 ∧ 0 ≤ x.m ∧ x.m ≤ 1000000000000000 := by
  unfold chk at h
  split at h
  · omega
  · split at h
    · omega
    · omega
theorem yr_bd {n : Int} (h1 : 1 ≤ n) (h2 : n ≤ 292194) : 1601 ≤ yrV n ∧ yrV n ≤ 2400 := by
  rw [yrV, if_pos ⟨h1, h2⟩]
  have := yearI_ok n h1 h2
  omega
theorem yr_mono {a b : Int} (h1 : 1 ≤ a) (h : a ≤ b) (h2 : b ≤ 292194) : yrV a ≤ yrV b := by
  rw [yrV, yrV, if_pos ⟨h1, by omega⟩, if_pos ⟨by omega, h2⟩]
  obtain ⟨a1, a2, a3, a4⟩ := yearI_ok a h1 (by omega)
  obtain ⟨b1, b2, b3, b4⟩ := yearI_ok b (by omega) h2
  rcases Int.lt_or_le (yearI b) (yearI a) with hlt | hle
  · exfalso
    rcases (show yearI b + 1 = yearI a ∨ yearI b + 1 < yearI a by omega) with e | e
    · rw [e] at b4; omega
    · have := ahead_lt (y := yearI b + 1) (z := yearI a) (by omega) e
      omega
  · exact hle
theorem chk_yr {x : R3} (h : chk x = 0) : 1601 ≤ yrV x.a ∧ yrV x.a ≤ yrV x.b ∧ yrV x.b ≤ 2400 := by
  obtain ⟨h1, h2, h3, _⟩ := chk_ok h
  exact ⟨(yr_bd h1 (by omega)).1, yr_mono h1 h2 h3, (yr_bd (by omega) h3).2⟩
theorem fold_min_le {l : List R3} : ∀ (a : Int), l.foldl (fun a x => min a (yrV x.a)) a ≤ a ∧ ∀ x ∈ l, l.foldl (fun a x => min a (yrV x.a)) a ≤ yrV x.a := by
  induction l with
  | nil => intro a; simp
  | cons y l ih =>
    intro a
    simp only [List.foldl_cons]
    obtain ⟨h1, h2⟩ := ih (min a (yrV y.a))
    refine ⟨by omega, fun x hx => ?_⟩
    rcases List.mem_cons.1 hx with rfl | hx
    · omega
    · exact h2 x hx
theorem fold_max_le {l : List R3} : ∀ (a : Int), a ≤ l.foldl (fun a x => max a (yrV x.b)) a ∧ ∀ x ∈ l, yrV x.b ≤ l.foldl (fun a x => max a (yrV x.b)) a := by
  induction l with
  | nil => intro a; simp
  | cons y l ih =>
    intro a
    simp only [List.foldl_cons]
    obtain ⟨h1, h2⟩ := ih (max a (yrV y.b))
    refine ⟨by omega, fun x hx => ?_⟩
    rcases List.mem_cons.1 hx with rfl | hx
    · omega
    · exact h2 x hx
theorem from_le {l : List R3} {x : R3} (h : x ∈ l) : fromL l ≤ yrV x.a := (fold_min_le 2401).2 x h
theorem le_to {l : List R3} {x : R3} (h : x ∈ l) : yrV x.b ≤ toL l := (fold_max_le 0).2 x h
theorem fold_min_bd {l : List R3} (h : ∀ x ∈ l, chk x = 0) : ∀ (a : Int), 1601 ≤ a → 1601 ≤ l.foldl (fun a x => min a (yrV x.a)) a := by
  induction l with
  | nil => intro a ha; simpa using ha
  | cons y l ih =>
    intro a ha
    simp only [List.foldl_cons]
    have := chk_yr (h y (by simp))
    exact ih (fun x hx => h x (by simp [hx])) _ (by omega)
theorem fold_max_bd {l : List R3} (h : ∀ x ∈ l, chk x = 0) : ∀ (a : Int), a ≤ 2400 → l.foldl (fun a x => max a (yrV x.b)) a ≤ 2400 := by
  induction l with
  | nil => intro a ha; simpa using ha
  | cons y l ih =>
    intro a ha
    simp only [List.foldl_cons]
    have := chk_yr (h y (by simp))
    exact ih (fun x hx => h x (by simp [hx])) _ (by omega)
theorem from_bd {l : List R3} (h : chkL l = 0) : 1601 ≤ fromL l ∧ fromL l ≤ 2401 := ⟨fold_min_bd (chkL_ok.1 h) _ (by omega), (fold_min_le 2401).1⟩
theorem to_bd {l : List R3} (h : chkL l = 0) : 0 ≤ toL l ∧ toL l ≤ 2400 := ⟨(fold_max_le 0).1, fold_max_bd (chkL_ok.1 h) _ (by omega)⟩
theorem from_to {l : List R3} (h : chkL l = 0) (hn : l ≠ []) : fromL l ≤ toL l := by
  obtain ⟨x, t, rfl⟩ := List.exists_cons_of_ne_nil hn
  have h1 := from_le (l := x :: t) (x := x) (by simp)
  have h2 := le_to (l := x :: t) (x := x) (by simp)
  have := chk_yr (chkL_ok.1 h x (by simp))
  omega

/-- A triangle of zeros. -/
def zerosT (n : Nat) : List (List Int) := (List.range n).map fun i => List.replicate (n - i) 0
theorem zerosT_len (n : Nat) : (zerosT n).length = n := by simp [zerosT]
theorem zerosT_get {n k : Nat} (h : k < n) : (zerosT n)[k]? = some (List.replicate (n - k) 0) := by simp [zerosT, h]
/-- One amount more. -/
def idxO (f : Int) (x : R3) : Nat := (yrV x.a - f).toNat
def devO (x : R3) : Int := yrV x.b - yrV x.a
def rowO (f : Int) (c : List (List Int)) (x : R3) : List Int := moreL (devO x) x.m (c.getD (idxO f x) [])
def putAll (f : Int) : List (List Int) → List R3 → Option (List (List Int))
  | c, [] => some c
  | c, x :: l => if capB (rowO f c x) = true then putAll f (c.set (idxO f x) (rowO f c x)) l else none
theorem putAll_snoc {f : Int} {x : R3} : ∀ {l : List R3} {c : List (List Int)}, putAll f c (l ++ [x]) = (putAll f c l).bind fun c' => if capB (rowO f c' x) = true then some (c'.set (idxO f x) (rowO f c' x)) else none
  | [], c => by simp [putAll]
  | y :: l, c => by
    rw [List.cons_append, putAll, putAll]
    split
    · exact putAll_snoc
    · rfl
theorem putAll_none {f : Int} : ∀ {l l' : List R3} {c : List (List Int)}, putAll f c l = none → putAll f c (l ++ l') = none
  | [], l', c, h => by simp [putAll] at h
  | y :: l, l', c, h => by
    rw [List.cons_append, putAll]
    rw [putAll] at h
    split
    · rename_i e; rw [if_pos e] at h; exact putAll_none h
    · rfl
theorem mem_more {dev amt : Int} {l : List Int} {v : Int} (h : v ∈ moreL dev amt l) : ∃ (k : Nat) (u : Int), l[k]? = some u ∧ v = moreF dev amt k u := by
  obtain ⟨k, hk⟩ := List.mem_iff_getElem?.1 h
  have h1 := lt_of_get hk
  rw [moreL_len] at h1
  obtain ⟨u, hu⟩ := get_of h1
  rw [moreL_get hu] at hk
  cases hk
  exact ⟨k, u, hu, rfl⟩
/-- A row with an amount more in its cells from one on, up to another. -/
def moreP (D : Nat) (amt : Int) (l : List Int) (k : Nat) : List Int := l.mapIdx fun j v => if D ≤ j ∧ j < k then v + amt else v
theorem moreP_len (D : Nat) (amt : Int) (l : List Int) (k : Nat) : (moreP D amt l k).length = l.length := by simp [moreP]
theorem moreP_start (D : Nat) (amt : Int) (l : List Int) : moreP D amt l D = l := by
  apply List.ext_getElem?
  intro j
  simp only [moreP, List.getElem?_mapIdx]
  cases l[j]? with
  | none => rfl
  | some v => simp; omega
theorem moreP_get {D : Nat} {amt : Int} {l : List Int} {k : Nat} {v : Int} (h : l[k]? = some v) : (moreP D amt l k)[k]? = some v := by simp [moreP, h]
theorem moreP_set {D : Nat} {amt : Int} {l : List Int} {k : Nat} {v : Int} (hD : D ≤ k) (h : l[k]? = some v) : (moreP D amt l k).set k (v + amt) = moreP D amt l (k + 1) := by
  apply List.ext_getElem?
  intro j
  simp only [moreP, List.getElem?_mapIdx, List.getElem?_set, List.length_mapIdx]
  by_cases e : k = j
  · subst e
    rw [if_pos rfl, if_pos (lt_of_get h), h]
    simp; omega
  · rw [if_neg e]
    cases l[j]? with
    | none => rfl
    | some u =>
      simp only [Option.map_some, Option.some.injEq]
      by_cases hj : D ≤ j ∧ j < k
      · rw [if_pos hj, if_pos (by omega)]
      · rw [if_neg hj, if_neg (by omega)]
theorem moreP_end {D : Nat} {dev amt : Int} {l : List Int} (h : dev = (D : Int)) : moreP D amt l l.length = moreL dev amt l := by
  apply List.ext_getElem?
  intro j
  simp only [moreP, moreL, List.getElem?_mapIdx]
  by_cases hj : j < l.length
  · obtain ⟨v, hv⟩ := get_of hj
    rw [hv]
    simp only [Option.map_some, Option.some.injEq, moreF]
    by_cases hd : D ≤ j
    · rw [if_pos ⟨hd, hj⟩, if_pos (by omega)]
    · rw [if_neg (by omega), if_neg (by omega)]
  · rw [List.getElem?_eq_none (by omega)]; rfl
theorem capB_no {dev amt : Int} {l : List Int} {k : Nat} {v : Int} (h : l[k]? = some v) (hd : dev ≤ k) (hg : 100000000000000000 < v + amt) : capB (moreL dev amt l) = false := by
  rw [capB, List.all_eq_false]
  refine ⟨_, List.mem_of_getElem? (moreL_get h), ?_⟩
  rw [moreF, if_pos hd]; simp; omega
theorem capB_yes {dev amt : Int} {l : List Int} (h0 : ∀ v ∈ l, v ≤ 100000000000000000) (h : ∀ (j : Nat) (v : Int), dev ≤ (j : Int) → l[j]? = some v → v + amt ≤ 100000000000000000) : capB (moreL dev amt l) = true := by
  simp only [capB, List.all_eq_true, decide_eq_true_eq]
  intro v hv
  obtain ⟨k, u, hu, rfl⟩ := mem_more hv
  unfold moreF
  split
  · rename_i hd; exact h k u hd hu
  · exact h0 u (List.mem_of_getElem? hu)
/-- The shape of a triangle. -/
def Shape (n : Nat) (c : List (List Int)) : Prop := c.length = n ∧ ∀ i l, c[i]? = some l → l.length = n - i ∧ ∀ v ∈ l, 0 ≤ v ∧ v ≤ 100000000000000000
theorem shape_zeros (n : Nat) : Shape n (zerosT n) := by
  refine ⟨zerosT_len n, fun i l h => ?_⟩
  have hi := lt_of_get h
  rw [zerosT_len] at hi
  rw [zerosT_get hi] at h
  cases h
  refine ⟨by simp, fun v hv => ?_⟩
  have := (List.mem_replicate.1 hv).2
  omega
theorem shape_step {n : Nat} {f : Int} {c : List (List Int)} {x : R3} (h : Shape n c) (hm : 0 ≤ x.m) (hc : capB (rowO f c x) = true) : Shape n (c.set (idxO f x) (rowO f c x)) := by
  obtain ⟨h1, h2⟩ := h
  refine ⟨by rw [List.length_set]; exact h1, fun i l hl => ?_⟩
  rw [List.getElem?_set] at hl
  by_cases e : idxO f x = i
  · subst e
    by_cases hi : idxO f x < c.length
    · rw [if_pos rfl, if_pos hi] at hl
      cases hl
      obtain ⟨r, hr⟩ := get_of hi
      obtain ⟨h3, h4⟩ := h2 _ _ hr
      have er : c.getD (idxO f x) [] = r := by rw [List.getD_eq_getElem?_getD, hr]; rfl
      refine ⟨by rw [rowO, moreL_len, er]; exact h3, fun v hv => ?_⟩
      simp only [capB, List.all_eq_true, decide_eq_true_eq] at hc
      refine ⟨?_, hc v hv⟩
      rw [rowO, er] at hv
      obtain ⟨k, u, hu, rfl⟩ := mem_more hv
      have := h4 u (List.mem_of_getElem? hu)
      unfold moreF; split <;> omega
    · rw [if_pos rfl, if_neg hi] at hl; cases hl
  · rw [if_neg e] at hl; exact h2 i l hl
theorem shape_all {n : Nat} {f : Int} : ∀ {l : List R3} {c c' : List (List Int)}, Shape n c → (∀ x ∈ l, 0 ≤ x.m) → putAll f c l = some c' → Shape n c'
  | [], c, c', h, _, e => by simp [putAll] at e; subst e; exact h
  | x :: l, c, c', h, hm, e => by
    rw [putAll] at e
    split at e
    · rename_i hc
      exact shape_all (shape_step h (hm x (by simp)) hc) (fun y hy => hm y (by simp [hy])) e
    · cases e
/-- What is amiss with rows; the first year; the cells. -/
def yearsN (l : List R3) : Nat := (toL l - fromL l + 1).toNat
def ofO (l : List R3) : Option (List (List Int)) := putAll (fromL l) (zerosT (yearsN l)) l
def ofE (l : List R3) : Int := if l = [] then 7 else if chkL l = 0 then (if 2000 < l.length ∨ 20 < toL l - fromL l + 1 then 2 else if ofO l = none then 5 else 0) else chkL l
theorem ofE_nil : ofE [] = 7 := rfl
theorem ofE_chk {l : List R3} (hn : l ≠ []) (h : chkL l ≠ 0) : ofE l = chkL l := by rw [ofE, if_neg hn, if_neg h]
theorem ofE_bound {l : List R3} (hn : l ≠ []) (h : chkL l = 0) (hb : 2000 < l.length ∨ 20 < toL l - fromL l + 1) : ofE l = 2 := by rw [ofE, if_neg hn, if_pos h, if_pos hb]
theorem ofE_over {l : List R3} (hn : l ≠ []) (h : chkL l = 0) (hb : ¬(2000 < l.length ∨ 20 < toL l - fromL l + 1)) (ho : ofO l = none) : ofE l = 5 := by rw [ofE, if_neg hn, if_pos h, if_neg hb, if_pos ho]
theorem ofE_ok {l : List R3} {c : List (List Int)} (hn : l ≠ []) (h : chkL l = 0) (hb : ¬(2000 < l.length ∨ 20 < toL l - fromL l + 1)) (ho : ofO l = some c) : ofE l = 0 := by rw [ofE, if_neg hn, if_pos h, if_neg hb, if_neg (by rw [ho]; simp)]
theorem chk_range (x : R3) : chk x = 0 ∨ chk x = 1 ∨ chk x = 4 := by unfold chk; split; simp; split <;> simp
theorem chkL_range : ∀ (l : List R3), chkL l = 0 ∨ chkL l = 1 ∨ chkL l = 4
  | [] => .inl rfl
  | x :: l => by
    rw [chkL]; split
    · exact chkL_range l
    · exact chk_range x
/-- What follows where the triangle is made. -/
theorem ofE_zero {l : List R3} (h : ofE l = 0) : l ≠ [] ∧ chkL l = 0 ∧ ¬(2000 < l.length ∨ 20 < toL l - fromL l + 1) ∧ ∃ c, ofO l = some c := by
  unfold ofE at h
  split at h
  · omega
  · rename_i hn
    split at h
    · rename_i hc
      split at h
      · omega
      · rename_i hb
        split at h
        · omega
        · rename_i ho
          obtain ⟨c, hc'⟩ := Option.ne_none_iff_exists'.1 ho
          exact ⟨hn, hc, hb, c, hc'⟩
    · rename_i hc; exact absurd h hc
def ofC (l : List R3) : List (List Int) := (ofO l).getD []
end Go.Proofs.YtmfohnchnbgbaaaGreatDoor

/- The triangle of rows: the program's walk. -/
namespace Go.Proofs.YtmfohnchnbgbaaaGreatDoor
open Go.RowKit

/-- The blocks of a triangle are new. -/
def FreshT (w : World) (A : Option Addr) (R : List Rw) : Prop := (∀ kk, blk A = some kk → w.heap.size ≤ kk) ∧ ∀ r ∈ R, ∀ kk, blk r.A = some kk → w.heap.size ≤ kk
/-- What Put and Of leave. -/
def PutN (w : World) (f : Int) (c : List (List Int)) (code : Int) (e : Ending) (w' : World) : Prop :=
  Below w.heap.size w w' ∧ ((code ≠ 0 ∧ e = .returned (.tuple #[.agg #[.int .i64 0, .slice none 0 0], .int .i64 code])) ∨
    (code = 0 ∧ ∃ A' c' R, e = .returned (.tuple #[.agg #[.int .i64 f, .slice A' R.length c'], .int .i64 0]) ∧ MV w' A' R.length c' R ∧ allM R = c ∧ FreshT w A' R))
theorem noT_at {w wx : World} {f : Int} {c : List (List Int)} {fn : Func} {a : Act} {code : Int} {g : Nat} {p tr : Tmp} (hz : Blk wx g 33 zeroT) (hg : w.heap.size ≤ g) (hb : Below w.heap.size w wx) (hc : code ≠ 0)
    (hr : fn.results = #[.cell p 33, .tmp tr]) (hd : a.defers = []) (hp : a.tmps.getD p undef = .pointer (some ⟨g, 0, none⟩)) (hx : a.tmps.getD tr undef = .int .i64 code) :
    bodyPost Tryz.prog fn (PutN w f c code) .ret a ((wx.setCell ⟨g, 0, none⟩ (.int .i64 0)).setCell ⟨g, 1, none⟩ (.slice none 0 0)) := by
  have h2 : Blk ((wx.setCell ⟨g, 0, none⟩ (.int .i64 0)).setCell ⟨g, 1, none⟩ (.slice none 0 0)) g 33 zeroT := by
    have := (hz.set_ 0 (.int .i64 0)).set_ 1 (.slice none 0 0)
    simpa [zeroT] using this
  exact ret_row2 hr hd hp hx h2 Tryz.underlying33 rfl (by kernel_rfl) ⟨(hb.setCell (p := ⟨g, 0, none⟩) hg _).setCell (p := ⟨g, 1, none⟩) hg _, .inl ⟨hc, rfl⟩⟩
theorem noT_is {w wx : World} {f : Int} {c : List (List Int)} {fn : Func} {a : Act} {code : Int} {g : Nat} {p tr : Tmp} (hz : Blk wx g 33 zeroT) (hb : Below w.heap.size w wx) (hc : code ≠ 0)
    (hr : fn.results = #[.cell p 33, .tmp tr]) (hd : a.defers = []) (hp : a.tmps.getD p undef = .pointer (some ⟨g, 0, none⟩)) (hx : a.tmps.getD tr undef = .int .i64 code) :
    bodyPost Tryz.prog fn (PutN w f c code) .ret a wx :=
  ret_row2 hr hd hp hx hz Tryz.underlying33 rfl (by kernel_rfl) ⟨hb, .inl ⟨hc, rfl⟩⟩
theorem yesT_at {w w0 wx : World} {f : Int} {c : List (List Int)} {fn : Func} {a : Act} {G g : Nat} {p tr : Tmp} {R : List Rw} {A : Option Addr} {cap : Nat} (h : TS w0 G f R [] A cap wx) {n : Nat} (hn : R.length = n) (hb : Below w.heap.size w w0) (hz : Blk w0 g 33 zeroT) (hg : w.heap.size ≤ g) (hc : allM R = c)
    (hr : fn.results = #[.cell p 33, .tmp tr]) (hd : a.defers = []) (hp : a.tmps.getD p undef = .pointer (some ⟨g, 0, none⟩)) (hx : a.tmps.getD tr undef = .int .i64 0) :
    bodyPost Tryz.prog fn (PutN w f c 0) .ret a ((wx.setCell ⟨g, 0, none⟩ (.int .i64 f)).setCell ⟨g, 1, none⟩ (.slice A n cap)) := by
  subst hn
  have hzl := hz.lt
  have hz' := hz.below h.bel hzl
  have h2 : Blk ((wx.setCell ⟨g, 0, none⟩ (.int .i64 f)).setCell ⟨g, 1, none⟩ (.slice A R.length cap)) g 33 (triC f A R.length cap) := by
    have := (hz'.set_ 0 (.int .i64 f)).set_ 1 (.slice A R.length cap)
    simpa [zeroT, triC] using this
  have hw : Below w.heap.size w wx := chain hb h.bel
  exact ret_row2 hr hd hp hx h2 Tryz.underlying33 rfl (by kernel_rfl) ⟨(hw.setCell (p := ⟨g, 0, none⟩) hg _).setCell (p := ⟨g, 1, none⟩) hg _, .inr ⟨rfl, A, cap, R, rfl, h.mvfar (p := ⟨g, 0, none⟩) (q := ⟨g, 1, none⟩) hzl hzl _ _, hc, fun kk hk => Nat.le_trans hb.size (h.own.lt kk hk).1, fun r hr kk hk => Nat.le_trans hb.size (h.ap r hr kk hk).1⟩⟩

theorem make_ints (v : Int) (L : List Int) (hv : v = L.length) (hm : L.length ≤ 1000) (hz : L = List.replicate L.length 0) (W : World) :
    (Instr.makeSlice 36 (.int .i64 v) (.int .i64 v)).run Tryz.prog W = .ok (.slice (some ⟨W.heap.size, 0, none⟩) L.length L.length) (W.alloc (.cells (cellsI L) 3)) := by
  have h := run_make_row' (P := Tryz.prog) 36 3 (.int .i64 0) 8 Tryz.underlying36 (by kernel_rfl) rfl .i64 .i64 L.length (by omega) (by omega) W
  have e : madeCells #[Value.int .i64 0] L.length = cellsI L := by
    apply Array.ext'
    rw [toList_madeCells_one]
    conv => rhs; rw [hz]
    simp [cellsI]
  rw [hv, h, e]

set_option maxRecDepth 100000 in
set_option maxHeartbeats 8000000 in
theorem of_any (A : Option Addr) (cap : Nat) (l : List R3) (w : World) (hs : SV w 3 A l.length cap (l.map enc3)) :
    Calls Tryz.prog 7 #[.slice A l.length cap] w (PutN w (fromL l) (ofC l) (ofE l)) := by
  have HS := hide hs
  have hmx := hs.le
  have hmy := hs.most
  unfold maxLen at hmy
  clear hs
  by_cases hnil : l.length = 0
  · have HE := hide (show ofE l = 7 by obtain rfl := List.eq_nil_of_length_eq_zero hnil; rfl)
    go_enter Tryz.func7, Tryz.ntmps7
    go_wp2_with fail
    rw [HE.out]
    exact noT_is (code := 7) (Blk.new _ _ zeroT) ((Below.refl _ _).alloc (Nat.le_refl _) _) (by decide) rfl rfl rfl rfl
  have HN := hide (show l ≠ [] by intro h; subst h; exact hnil rfl)
  have hni : ((l.length : Int) == 0) = false := by simp; exact HN.out
  go_enter Tryz.func7, Tryz.ntmps7
  go_wp2_with fail
  obtain ⟨w1, hw1⟩ : ∃ W, w.alloc (.cells #[.int .i64 0, .slice none 0 0] 33) = W := ⟨_, rfl⟩
  have hz : Blk w1 w.heap.size 33 zeroT := by rw [← hw1]; exact Blk.new _ _ _
  have hb1 : Below w.heap.size w w1 := by rw [← hw1]; exact (Below.refl _ _).alloc (Nat.le_refl _) _
  rw [hw1]
  clear hw1
  have HZ := hide hz
  have HB1 := hide hb1
  have hlt1 := hz.lt
  go_loopw [4, 5, 30] (fun a b i wr => ∃ (k : Nat) (F T : Int), k ≤ l.length ∧ i = .int .i64 k ∧ a = .int .i64 F ∧ b = .int .i64 T ∧ fromL (l.take k) = F ∧ toL (l.take k) = T ∧ chkL (l.take k) = 0 ∧ Below w1.heap.size w1 wr) (fun _ _ i _ => l.length - (intOf i).toNat)
  case atStart => exact ⟨0, 2401, 0, Nat.zero_le _, rfl, rfl, rfl, rfl, rfl, rfl, Below.refl _ _⟩
  case round =>
    clear hz hb1
    obtain ⟨k, F, T, hk, rfl, rfl, rfl, hF, hT, hok, hb⟩ := hrel
    by_cases hlt : k < l.length
    · obtain ⟨⟨xa, xb, xm⟩, hx⟩ := get_of hlt
      obtain ⟨bb, off, rfl, hbl, ca, cb, cm⟩ := (HS.out.below HB1.out |>.below hb).sl.r3 hx
      simp only at ca cb cm
      have hk0 : (0 : Int) ≤ (k : Int) := by omega
      have hk1 : (k : Int) < (l.length : Int) := by omega
      have HX := hide hx
      have HOK := hide hok
      have HF := hide hF
      have HT := hide hT
      have HBW := hide hb
      have hsz := hb.size
      have z0 := (HZ.out.below hb hlt1).cell 0
      have z1 := (HZ.out.below hb hlt1).cell 1
      have t0 := (HZ.out.below hb hlt1).frozen 0
      have t1 := (HZ.out.below hb hlt1).frozen 1
      simp [zeroT] at z0 z1
      clear hx hok hF hT hb
      go_wp2_with fail
      refine (check_any xa xb xm _).mono ?_
      rintro e w2 ⟨rfl, hb2⟩
      have x0 := kept hb2 (b := wr.heap.size) (o := 0) (u := .int .i64 xa) (by simp)
      have x1 := kept hb2 (b := wr.heap.size) (o := 1) (u := .int .i64 xb) (by simp)
      have hbx : Below wr.heap.size wr w2 := chain1 hb2
      have hb3 : Below w1.heap.size w1 w2 := chain HBW.out hbx
      have hz3 := HZ.out.below hb3 hlt1
      have hsz3 := hb3.size
      clear hb2 z0 z1 t0 t1 ca cb cm
      by_cases hc : chk ⟨xa, xb, xm⟩ = 0
      · have HC := hide hc
        have hyr := chk_yr hc
        obtain ⟨Y1, hY1⟩ : ∃ Y, yrV xa = Y := ⟨_, rfl⟩
        obtain ⟨Y2, hY2⟩ : ∃ Y, yrV xb = Y := ⟨_, rfl⟩
        simp only [hY1, hY2] at hyr
        have HF2 := hide (show fromL (l.take (k + 1)) = min F Y1 by rw [fromL_take HX.out, HF.out, ← hY1])
        have HT2 := hide (show toL (l.take (k + 1)) = max T Y2 by rw [toL_take HX.out, HT.out, ← hY2])
        have HY1 := hide hY1
        have HY2 := hide hY2
        rw [hc]
        clear hc hY1 hY2
        go_wp2_with fail
        refine (year_v xa _).mono ?_
        rintro e w4 ⟨rfl, rfl⟩
        rw [HY1.out]
        go_wp2_with fail
        refine (year_v xb _).mono ?_
        rintro e w4 ⟨rfl, rfl⟩
        rw [HY2.out]
        rcases Int.lt_or_le Y1 F with hm1 | hm1 <;> rcases Int.lt_or_le T Y2 with hm2 | hm2
        all_goals
          go_wp2_with fail
          go_roundw
          case rel => exact ⟨k + 1, _, _, by omega, by go_num, rfl, rfl, by rw [HF2.out] <;> omega, by rw [HT2.out] <;> omega, chkL_take HX.out HOK.out HC.out, hb3⟩
          case measure => simp [intOf]; omega
      · have hcr : chk ⟨xa, xb, xm⟩ = 1 ∨ chk ⟨xa, xb, xm⟩ = 4 := by have := chk_range ⟨xa, xb, xm⟩; omega
        have HE := hide (ofE_chk HN.out (by rw [chkL_at HX.out HOK.out hc]; exact hc) |>.trans (chkL_at HX.out HOK.out hc))
        have z0 := hz3.cell 0
        have z1 := hz3.cell 1
        have t0 := hz3.frozen 0
        have t1 := hz3.frozen 1
        simp [zeroT] at z0 z1
        rcases hcr with e | e
        all_goals
          have HE2 := hide (HE.out.trans e)
          rw [e]
          clear hc e HE
          go_wp2_with fail
          rw [HE2.out]
          exact noT_at hz3 (Nat.le_refl _) (chain HB1.out hb3) (by decide) rfl rfl rfl rfl
    · obtain rfl : k = l.length := by omega
      rw [List.take_length] at hF hT hok
      have HOK := hide hok
      have HF := hide hF
      have HT := hide hT
      have HBW := hide hb
      have hz3 := HZ.out.below hb hlt1
      have hsz := hb.size
      have fb := from_bd hok
      have tb := to_bd hok
      have ft := from_to hok HN.out
      rw [hF] at fb ft
      rw [hT] at tb ft
      obtain ⟨fb1, fb2⟩ := fb
      obtain ⟨tb1, tb2⟩ := tb
      by_cases hbig : 2000 < l.length ∨ 20 < T - F + 1
      · have HE := hide (ofE_bound HN.out hok (by rw [hF, hT]; exact hbig))
        have z0 := hz3.cell 0
        have z1 := hz3.cell 1
        have t0 := hz3.frozen 0
        have t1 := hz3.frozen 1
        simp [zeroT] at z0 z1
        clear hF hT hok hb
        rcases (show 2000 < l.length ∨ (l.length ≤ 2000 ∧ 20 < T - F + 1) by omega) with g | ⟨g, g'⟩
        all_goals
          clear hbig
          go_wp2_with fail
          rw [HE.out]
          exact noT_at hz3 (Nat.le_refl _) (chain HB1.out HBW.out) (by decide) rfl rfl rfl rfl
      · obtain ⟨n, hn⟩ : ∃ n : Nat, T - F + 1 = (n : Int) := ⟨(T - F + 1).toNat, by omega⟩
        have HNB := hide (show ¬(2000 < l.length ∨ 20 < toL l - fromL l + 1) by rw [hF, hT]; exact hbig)
        have HYN := hide (show yearsN l = n by rw [yearsN, hF, hT, hn]; simp)
        have g1 : l.length ≤ 2000 := by omega
        have g2 : n ≤ 20 := by omega
        have g3 : 1 ≤ n := by omega
        have hn20 : T - F + 1 ≤ 20 := by omega
        clear hbig hF hT hok hb
        obtain ⟨w3, hw3⟩ : ∃ W, wr = W := ⟨_, rfl⟩
        rw [hw3] at HBW hz3 hsz ⊢
        have HZ3 := hide hz3
        clear hz3 hw3 wr
        go_wp2_with fail
        obtain ⟨w4, hw4⟩ : ∃ W, w3.alloc (.cells #[.int .i64 F, .slice none 0 0] 33) = W := ⟨_, rfl⟩
        have hT0 : TS w3 w3.heap.size F [] [] none 0 w4 := by
          rw [← hw4]
          exact ⟨Blk.new _ _ _, OwnS.nil_ _ _ _ _, (fun r hr => by simp at hr), (fun r hr => by simp at hr), (fun i j r s hr => by simp at hr), by simp [blk], Nat.le_refl _, (Below.refl _ _).alloc (Nat.le_refl _) _⟩
        rw [hw4]
        obtain ⟨G, hG⟩ : ∃ G, w3.heap.size = G := ⟨_, rfl⟩
        rw [hG] at hT0 ⊢
        have HT0 := hide hT0
        have HG := hide hG
        clear hw4 hT0 hG
        go_loopw [74] (fun i wr => ∃ (k : Nat) (R : List Rw) (A' : Option Addr) (cap' : Nat), k ≤ n ∧ i = .int .i64 k ∧ R.length = k ∧ allM R = (zerosT n).take k ∧ TS w3 G F R [] A' cap' wr) (fun i _ => n - (intOf i).toNat)
        case atStart => exact ⟨0, [], none, 0, Nat.zero_le _, rfl, rfl, rfl, HT0.out⟩
        case round =>
          clear HT0
          obtain ⟨k, R, A', cap', hk, rfl, rfl, hRM, hTS⟩ := hrel
          have o0 := hTS.o0.cell 0
          have o1 := hTS.o0.cell 1
          have u1 := hTS.o0.frozen 1
          simp [triC] at o0 o1
          have hGl := hTS.o0.lt
          have hbs := hTS.bel.size
          have HTS := hide hTS
          have HRM := hide hRM
          clear hTS hRM
          by_cases hlt : R.length < n
          · obtain ⟨L, hL⟩ : ∃ L : List Int, L = List.replicate (n - R.length) 0 := ⟨_, rfl⟩
            have hLl : L.length = n - R.length := by rw [hL, List.length_replicate]
            have hLI : (n : Int) - (R.length : Int) = L.length := by omega
            have hmk := make_ints (IntKind.i64.wrap ((n : Int) - (R.length : Int))) L (by rw [IntWalk.i64_in _ (by omega)]; exact hLI) (by omega) (by rw [hLl]; exact hL)
            have hL20 : L.length ≤ 20 := by omega
            have HL := hide hL
            have hR20 : R.length ≤ 20 := by omega
            have hkn : (R.length : Int) < (n : Int) := by omega
            clear hLl hL hLI
            go_upto_region 21 with fail
            go_region_law (first
              | (refine step_app rfl (.tmp 78) (.tmp 83) 31 rfl elRow (B := w3.heap.size) (rows := R.map encRw) (A2 := some ⟨_, 0, none⟩) (news := [(⟨some ⟨wr.heap.size, 0, none⟩, L, L.length⟩ : Rw)].map encRw) rfl ?_ rfl rfl ?_ (okRw [⟨some ⟨wr.heap.size, 0, none⟩, L, L.length⟩]) ?_ ?_ ?_ ?_
                 · first | exact ((HTS.out.own0.alloc _).alloc _).drew
                 · first | exact sl_of_blk (cs := #[.slice (some ⟨wr.heap.size, 0, none⟩) L.length L.length]) (Blk.drew (Blk.new' (by simp)))
                 · (simp only [maxLen]; omega)
                 · omega
                 · (simp; try omega)
                 intro A2 c2 wb ho2 hg2 ha2
                 have hwo : Below wr.heap.size wr (((wr.alloc (.cells (cellsI L) 3)).alloc (.cells #[.slice (some ⟨wr.heap.size, 0, none⟩) L.length L.length] 36)).drew) := (((Below.refl _ _).alloc (Nat.le_refl _) _).alloc (by simp) _).drew
                 have hP2 := HTS.out.add (r := ⟨some ⟨wr.heap.size, 0, none⟩, L, L.length⟩) hwo ⟨wr.heap.size, rfl, rfl, by simp only; omega, ((Blk.new wr 3 (cellsI L)).alloc _).drew⟩ (fun kk hk => by simp only [blk] at hk; cases hk; exact Nat.le_refl _) ho2 hg2 ha2
                 have HP2 := hide hP2
                 have hgo := Blk.grown (HTS.out.below hwo).o0 hg2 (fun he => HTS.out.ne he.symm)
                 have d6 := hgo.cell 1
                 have v6 := hgo.frozen 1
                 simp [triC] at d6
                 clear hP2 hgo hwo))
            all_goals
              go_wp2_with fail
              go_roundw
              case rel => exact ⟨R.length + 1, R ++ [⟨some ⟨wr.heap.size, 0, none⟩, L, L.length⟩], A2, c2, by omega, by go_num, by simp, by rw [allM, List.map_append, take_of (zerosT_get hlt), ← HL.out]; exact congrArg (· ++ [L]) HRM.out, HP2.out⟩
              case measure => simp [intOf]; omega
          · have e : R.length = n := by omega
            have hRM := HRM.out
            rw [e, List.take_of_length_le (by rw [zerosT_len]; exact Nat.le_refl _)] at hRM
            rw [e]
            have HTS0 := hide HTS.out
            have HRM0 := hide hRM
            clear hRM HRM HTS e hk hlt o0 o1 u1 hGl hbs
            go_wp2_with fail
            go_loopw [89] (fun i wr => ∃ (k : Nat) (R : List Rw) (A' : Option Addr) (cap' : Nat), k ≤ l.length ∧ i = .int .i64 k ∧ putAll F (zerosT n) (l.take k) = some (allM R) ∧ TS w3 G F R [] A' cap' wr) (fun i _ => l.length - (intOf i).toNat)
            case atStart => exact ⟨0, R, A', cap', Nat.zero_le _, rfl, by rw [HRM0.out]; rfl, HTS0.out⟩
            case round =>
              clear HRM0 HTS0
              clear R A' cap'
              obtain ⟨k, R, A', cap', hk, rfl, hPA, hTS⟩ := hrel
              by_cases hlt : k < l.length
              · obtain ⟨⟨xa, xb, xm⟩, hx⟩ := get_of hlt
                have hbw := chain HBW.out hTS.bel
                obtain ⟨bb, off, rfl, hbl, ca, cb, cm⟩ := (HS.out.below (chain HB1.out hbw)).sl.r3 hx
                simp only at ca cb cm
                have hk0 : (0 : Int) ≤ (k : Int) := by omega
                have hk1 : (k : Int) < (l.length : Int) := by omega
                have hxm := List.mem_of_getElem? hx
                have hc := chkL_ok.1 HOK.out _ hxm
                have hyr := chk_yr hc
                have hck := chk_ok hc
                have hfl := from_le hxm
                have htl := le_to hxm
                rw [HF.out] at hfl
                rw [HT.out] at htl
                obtain ⟨Y1, hY1⟩ : ∃ Y, yrV xa = Y := ⟨_, rfl⟩
                obtain ⟨Y2, hY2⟩ : ∃ Y, yrV xb = Y := ⟨_, rfl⟩
                simp only [hY1, hY2] at hyr hfl htl
                obtain ⟨_, _, _, hxm0, hxm1⟩ := hck
                simp only at hxm0 hxm1
                obtain ⟨D, hD⟩ : ∃ D : Nat, Y2 - Y1 = (D : Int) := ⟨(Y2 - Y1).toNat, by omega⟩
                have hidx : idxO F ⟨xa, xb, xm⟩ = (Y1 - F).toNat := by simp only [idxO, hY1]
                have hdev : devO ⟨xa, xb, xm⟩ = (D : Int) := by simp only [devO, hY1, hY2, hD]
                have hsh := shape_all (shape_zeros n) (fun y hy => (chk_ok (chkL_ok.1 HOK.out y (List.mem_of_mem_take hy))).2.2.2.1) hPA
                obtain ⟨hsl, hsr⟩ := hsh
                rw [allM_len] at hsl
                obtain ⟨⟨rA, rl, rc⟩, hr⟩ := get_of (l := R) (k := (Y1 - F).toNat) (by omega)
                obtain ⟨hrl, hrv⟩ := hsr _ _ (allM_get hr)
                have hrB := hTS.rows _ (List.mem_of_getElem? hr)
                obtain ⟨b, hbA, hbc, hbm, hbk⟩ := hrB
                simp only at hbA hbc hbm hbk hrl hrv
                subst hbA hbc
                obtain ⟨bb2, off2, rfl, hbl2, hc2⟩ := hTS.mv.sv.sl.rw hr
                simp only at hc2
                have o0 := hTS.o0.cell 0
                have o1 := hTS.o0.cell 1
                simp [triC] at o0 o1
                have hGl := hTS.o0.lt
                have hbs := hTS.bel.size
                have hq0 : (0 : Int) ≤ Y1 - F := by omega
                have hq1 : Y1 - F < (R.length : Int) := by omega
                have hrow : rowO F (allM R) ⟨xa, xb, xm⟩ = moreL (D : Int) xm rl := by
                  rw [rowO, hidx, hdev, List.getD_eq_getElem?_getD, allM_get hr]; rfl
                have hsn := putAll_snoc (f := F) (x := ⟨xa, xb, xm⟩) (l := l.take k) (c := zerosT n)
                rw [hPA, ← take_of hx, Option.bind_some, hrow, hidx] at hsn
                have HSN := hide hsn
                have HTS := hide hTS
                have HR := hide hr
                have HRV := hide hrv
                have HRL := hide hrl
                have HY1 := hide hY1
                have HY2 := hide hY2
                have HX := hide hx
                have hDl : D < rl.length := by omega
                have hrl20 : rl.length ≤ 20 := by omega
                clear hsn hTS hr hrv hrl hY1 hY2 hx hxm hc hPA hsr hidx hdev hrow hbk hsl hbw
                go_wp2_with fail
                refine (year_v xa _).mono ?_
                rintro e w5 ⟨rfl, rfl⟩
                rw [HY1.out]
                go_wp2_with fail
                refine (year_v xb _).mono ?_
                rintro e w5 ⟨rfl, rfl⟩
                rw [HY2.out]
                go_wp2_with fail
                obtain ⟨w6, hw6⟩ : ∃ W, wr.alloc (.cells #[.int .i64 xa, .int .i64 xb, .int .i64 xm] 30) = W := ⟨_, rfl⟩
                have hB6 : Blk w6 wr.heap.size 30 #[.int .i64 xa, .int .i64 xb, .int .i64 xm] := by rw [← hw6]; exact Blk.new _ _ _
                have hT6 : TS w3 G F R [] (some ⟨bb2, off2, none⟩) cap' w6 := by rw [← hw6]; exact HTS.out.below ((Below.refl _ _).alloc (Nat.le_refl _) _)
                have hbX : b < wr.heap.size := (HTS.out.rows _ (List.mem_of_getElem? HR.out)).lt rfl
                have hb3 : w3.heap.size ≤ b := (HTS.out.ap _ (List.mem_of_getElem? HR.out) b rfl).1
                rw [hw6]
                obtain ⟨X, hX⟩ : ∃ X, wr.heap.size = X := ⟨_, rfl⟩
                rw [hX] at hB6 hbX ⊢
                have HB6 := hide hB6
                have HT6 := hide hT6
                clear hw6 hB6 hT6 HTS hX ca cb cm o0 o1 hc2 hGl hbs hbl hbl2 wr
                go_loopw [23] (fun i wr => ∃ q : Nat, D ≤ q ∧ q ≤ rl.length ∧ i = .int .i64 q ∧ (∀ (j : Nat) (v : Int), D ≤ j → j < q → rl[j]? = some v → v + xm ≤ 100000000000000000) ∧ TS w3 G F (R.set (Y1 - F).toNat ⟨some ⟨b, 0, none⟩, moreP D xm rl q, rl.length⟩) [] (some ⟨bb2, off2, none⟩) cap' wr ∧ Blk wr X 30 #[.int .i64 xa, .int .i64 xb, .int .i64 xm]) (fun i _ => rl.length - (intOf i).toNat)
                case atStart => exact ⟨D, Nat.le_refl _, by omega, rfl, fun j v h1 h2 => by omega, by rw [moreP_start, set_same HR.out]; exact HT6.out, HB6.out⟩
                case round =>
                  clear HB6 HT6
                  obtain ⟨q, hq1, hq2, rfl, hok, hTS, hBX⟩ := hrel
                  have HOKQ := hide hok
                  clear hok
                  by_cases hql : q < rl.length
                  · obtain ⟨v, hv⟩ := get_of hql
                    obtain ⟨v0, v1⟩ := HRV.out v (List.mem_of_getElem? hv)
                    have hri := lt_of_get HR.out
                    have hr2 : (R.set (Y1 - F).toNat ⟨some ⟨b, 0, none⟩, moreP D xm rl q, rl.length⟩)[(Y1 - F).toNat]? = some ⟨some ⟨b, 0, none⟩, moreP D xm rl q, rl.length⟩ := by rw [List.getElem?_set, if_pos rfl, if_pos hri]
                    have hrB := hTS.rows _ (List.mem_of_getElem? hr2)
                    obtain ⟨b', hbA, _, _, hbk⟩ := hrB
                    simp only at hbA hbk
                    cases hbA
                    have cv := hbk.cell q
                    have fv := hbk.frozen q
                    have hb4 := hbk.lt
                    rw [cellsI, List.getElem?_toArray, List.getElem?_map, moreP_get hv] at cv
                    simp only [Option.map_some] at cv
                    have x2 := hBX.cell 2
                    simp at x2
                    have hq0' : (0 : Int) ≤ (q : Int) := by omega
                    have hq1' : (q : Int) < (rl.length : Int) := by omega
                    have HTS := hide hTS
                    have HBX := hide hBX
                    have HV := hide hv
                    have HR2 := hide hr2
                    have HBK := hide hbk
                    clear hTS hBX hv hr2 hbk
                    go_upto_region 32 with fail
                    have hwr : IntKind.i64.wrap (v + xm) = v + xm := IntWalk.i64_in _ (by omega)
                    go_region_law (fail)
                    all_goals
                      obtain ⟨W, hW⟩ : ∃ W, (wr.setCell ⟨b, q, none⟩ (.int .i64 (v + xm))).drew = W := ⟨_, rfl⟩
                      have hTW : TS w3 G F (R.set (Y1 - F).toNat ⟨some ⟨b, 0, none⟩, moreP D xm rl (q + 1), rl.length⟩) [] (some ⟨bb2, off2, none⟩) cap' W := by
                        rw [← hW]
                        have h1 := (HTS.out.put HR2.out rfl (k := q) (v + xm)).drew
                        rw [List.set_set] at h1
                        simp only [moreP_set hq1 HV.out] at h1
                        exact h1
                      have hBW : Blk W X 30 #[.int .i64 xa, .int .i64 xb, .int .i64 xm] := by rw [← hW]; exact (HBX.out.far (p := ⟨b, q, none⟩) (by simp only; omega) _).drew
                      have cW : W.cell? ⟨b, q, none⟩ = some (.int .i64 (v + xm)) := by
                        rw [← hW, ((HBK.out.set_ q (.int .i64 (v + xm))).drew).cell q]
                        simp [cellsI, moreP_len, hql]
                      have hzW := HZ3.out.below hTW.bel (Nat.lt_of_lt_of_le hlt1 hsz)
                      have z0 := hzW.cell 0
                      have z1 := hzW.cell 1
                      have t0 := hzW.frozen 0
                      have t1 := hzW.frozen 1
                      simp [zeroT] at z0 z1
                      rw [hW]
                      clear hW cv fv x2 hb4 hbX
                      have HTW := hide hTW
                      have HBW2 := hide hBW
                      clear hTW hBW HTS HBX HR2 HBK wr
                      by_cases hov : 100000000000000000 < v + xm
                      · have hno : ofO l = none := by
                          have h1 := HSN.out
                          rw [capB_no HV.out (by omega) hov] at h1
                          have h2 := putAll_none (l' := l.drop (k + 1)) h1
                          rw [List.take_append_drop] at h2
                          rw [ofO, HF.out, HYN.out]; exact h2
                        have HE := hide (ofE_over HN.out HOK.out HNB.out hno)
                        clear hno
                        go_wp2_with fail
                        rw [HE.out]
                        exact noT_at hzW (Nat.le_refl _) (chain HB1.out (chain HBW.out HTW.out.bel)) (by decide) rfl rfl rfl rfl
                      · clear hzW z0 z1 t0 t1
                        go_wp2_with fail
                        go_roundw
                        case rel => exact ⟨q + 1, by omega, by omega, by go_num, fun j u h1 h2 h3 => by
                            by_cases hj : j < q
                            · exact HOKQ.out j u h1 hj h3
                            · obtain rfl : j = q := by omega
                              rw [HV.out] at h3; cases h3; omega, HTW.out, HBW2.out⟩
                        case measure => simp [intOf]; omega
                  · obtain rfl : q = rl.length := by omega
                    have hcap : capB (moreL (D : Int) xm rl) = true := capB_yes (fun u hu => (HRV.out u hu).2) (fun j u h1 h2 => HOKQ.out j u (by omega) (lt_of_get h2) h2)
                    rw [moreP_end rfl] at hTS
                    have hsn := HSN.out
                    rw [hcap, if_pos rfl] at hsn
                    have HS2 := hide hsn
                    have HTS := hide hTS
                    clear hsn hTS hBX hcap hq1 hq2
                    go_wp2_with fail
                    go_roundw
                    case rel => exact ⟨k + 1, _, _, _, by omega, by go_num, by rw [HS2.out, allM, allM, List.map_set], HTS.out⟩
                    case measure => simp [intOf]; omega
              · obtain rfl : k = l.length := by omega
                rw [List.take_length] at hPA
                have hO : ofO l = some (allM R) := by rw [ofO, HF.out, HYN.out]; exact hPA
                have HE := hide (ofE_ok HN.out HOK.out HNB.out hO)
                have HC := hide (show allM R = ofC l by rw [ofC, hO]; rfl)
                have o0 := hTS.o0.cell 0
                have o1 := hTS.o0.cell 1
                simp [triC] at o0 o1
                have hzW := HZ3.out.below hTS.bel (Nat.lt_of_lt_of_le hlt1 hsz)
                have z0 := hzW.cell 0
                have z1 := hzW.cell 1
                have t0 := hzW.frozen 0
                have t1 := hzW.frozen 1
                simp [zeroT] at z0 z1
                have HTS := hide hTS
                clear hTS hPA hO hzW
                go_wp2_with fail
                rw [HE.out, HF.out]
                exact yesT_at HTS.out rfl (chain HB1.out HBW.out) HZ3.out (Nat.le_refl _) HC.out rfl rfl rfl rfl
end Go.Proofs.YtmfohnchnbgbaaaGreatDoor

/- An amount put into a triangle: what the program's steps leave; the refusals. -/
namespace Go.Proofs.YtmfohnchnbgbaaaGreatDoor
open Go.RowKit

section
variable {w wx : World} {G gA : Nat} {f : Int} {R : List Rw} {E : List (List Value)} {A : Option Addr} {cap : Nat}
/-- One row more, stored where a nil one stood. -/
theorem TS.fill (h : TS w G f R ([.slice none 0 0] :: E) (some ⟨gA, 0, none⟩) cap wx) {wo : World} (hwo : Below wx.heap.size wx wo) {r : Rw} (hr : RowB wo r) (hf : ∀ kk, blk r.A = some kk → wx.heap.size ≤ kk) :
    TS w G f (R ++ [r]) E (some ⟨gA, 0, none⟩) cap (wo.setCell ⟨gA, R.length, none⟩ (.slice r.A r.l.length r.cap)) := by
  have h1 := h.below hwo
  have hne : gA ≠ G := fun e => h.ne (by rw [e]; rfl)
  obtain ⟨hA0, hA1⟩ := h.own.lt gA rfl
  have hGx := h.o.lt
  have hbx := h.bel.size
  have hel : (R ++ [r]).length + E.length = R.length + (([.slice none 0 0] : List Value) :: E).length := by simp; omega
  refine ⟨?_, ?_, fun x hx => ?_, fun x hx kk hk => ?_, fun i j x y hx hy he => ?_, h.ne, h.base, h1.bel.setCell (p := ⟨gA, R.length, none⟩) hA0 _⟩
  · rw [hel]; exact h1.o.far (fun e => hne e.symm) _
  · rw [hel]
    have h2 := h1.own.set_ (i := R.length) (j := 0) (row := [.slice none 0 0]) (by rw [List.getElem?_append_right (by simp)]; simp) (by omega) (u := .slice r.A r.l.length r.cap) rfl
    rw [List.set_append_right _ _ (by simp)] at h2
    simpa [encRw] using h2
  · rcases List.mem_append.1 hx with hx | hx
    · refine (h1.rows x hx).grown (grown_set _ _ _) (fun e => (h1.ap x hx gA e).2.2 rfl)
    · simp at hx; subst hx
      exact hr.grown (grown_set _ _ _) (fun e => by have := hf gA e; omega)
  · rcases List.mem_append.1 hx with hx | hx
    · exact h.ap x hx kk hk
    · simp at hx; subst hx
      have h2 := hf kk hk
      exact ⟨by omega, by omega, by simp [blk]; omega⟩
  · rcases get_app hx with gx | ⟨rfl, rfl⟩
    · rcases get_app hy with gy | ⟨rfl, rfl⟩
      · exact h.dist i j x y gx gy he
      · obtain ⟨b, hb, _⟩ := h.rows x (List.mem_of_getElem? gx)
        have h2 := (h.rows x (List.mem_of_getElem? gx)).lt (kk := b) (by rw [hb]; rfl)
        have := hf b (by rw [← he, hb]; rfl)
        omega
    · rcases get_app hy with gy | ⟨rfl, rfl⟩
      · obtain ⟨b, hb, _⟩ := h.rows y (List.mem_of_getElem? gy)
        have h2 := (h.rows y (List.mem_of_getElem? gy)).lt (kk := b) (by rw [hb]; rfl)
        have := hf b (by rw [he, hb]; rfl)
        omega
      · rfl
/-- The newest row, written over. -/
theorem TS.over {b c : Nat} {l0 l : List Int} (h : TS w G f (R ++ [⟨some ⟨b, 0, none⟩, l0, c⟩]) E A cap wx) {wy : World} (hg : wx.grownBy wy (some b)) (hl : l.length = l0.length) (hy : Blk wy b 3 (cellsI l)) :
    TS w G f (R ++ [⟨some ⟨b, 0, none⟩, l, c⟩]) E A cap wy := by
  have hm : (⟨some ⟨b, 0, none⟩, l0, c⟩ : Rw) ∈ R ++ [⟨some ⟨b, 0, none⟩, l0, c⟩] := by simp
  obtain ⟨p1, p2, p3⟩ := h.ap _ hm b rfl
  have hmap : (R ++ [(⟨some ⟨b, 0, none⟩, l, c⟩ : Rw)]).map encRw = (R ++ [(⟨some ⟨b, 0, none⟩, l0, c⟩ : Rw)]).map encRw := by simp [encRw, hl]
  have hlen : (R ++ [(⟨some ⟨b, 0, none⟩, l, c⟩ : Rw)]).length = (R ++ [(⟨some ⟨b, 0, none⟩, l0, c⟩ : Rw)]).length := by simp
  have hget : ∀ (j : Nat) (s : Rw), (R ++ [(⟨some ⟨b, 0, none⟩, l, c⟩ : Rw)])[j]? = some s → ∃ s', (R ++ [(⟨some ⟨b, 0, none⟩, l0, c⟩ : Rw)])[j]? = some s' ∧ s.A = s'.A := by
    intro j s hs
    rcases get_app hs with h1 | ⟨rfl, rfl⟩
    · exact ⟨s, by rw [List.getElem?_append_left (lt_of_get h1)]; exact h1, rfl⟩
    · exact ⟨⟨some ⟨b, 0, none⟩, l0, c⟩, by simp, rfl⟩
  refine ⟨?_, ?_, fun x hx => ?_, fun x hx kk hk => ?_, fun i j x y hx hy he => ?_, h.ne, h.base, h.bel.grown hg h.bel.size (fun k hk => by cases hk; exact p1)⟩
  · rw [hlen]; exact h.o.grown hg (fun e => p2 (by cases e; rfl))
  · rw [hmap, hlen]; exact h.own.kept hg (.inr p3)
  · rcases List.mem_append.1 hx with hx | hx
    · obtain ⟨j, hj⟩ := List.mem_iff_getElem?.1 hx
      refine (h.rows x (by simp [hx])).grown hg (fun e => ?_)
      have := h.dist j R.length x ⟨some ⟨b, 0, none⟩, l0, c⟩ (by rw [List.getElem?_append_left (lt_of_get hj)]; exact hj) (by simp) (by rw [e]; rfl)
      have := lt_of_get hj
      omega
    · simp at hx; subst hx
      obtain ⟨b', e1, e2, e3, e4⟩ := h.rows _ hm
      exact ⟨b, rfl, by simp only at e2 ⊢; omega, by simp only at e3 ⊢; omega, hy⟩
  · obtain ⟨j, hj⟩ := List.mem_iff_getElem?.1 hx
    obtain ⟨s', hs', e⟩ := hget j x hj
    exact h.ap s' (List.mem_of_getElem? hs') kk (by rw [← e]; exact hk)
  · obtain ⟨s', hs', e⟩ := hget i x hx
    obtain ⟨t', ht', e2⟩ := hget j y hy
    exact h.dist i j s' t' hs' ht' (by rw [← e, ← e2]; exact he)
end

end Go.Proofs.YtmfohnchnbgbaaaGreatDoor

/- An amount put into a triangle: the program's walk where it is not refused at once. -/
namespace Go.Proofs.YtmfohnchnbgbaaaGreatDoor
open Go.RowKit

theorem make_rows (n : Nat) (hm : n ≤ 1000) (W : World) :
    (Instr.makeSlice 31 (.int .i64 (n : Int)) (.int .i64 (n : Int))).run Tryz.prog W = .ok (.slice (some ⟨W.heap.size, 0, none⟩) n n) (W.alloc (.cells (List.replicate n (.slice none 0 0)).toArray 36)) := by
  have h := run_make_row' (P := Tryz.prog) 31 36 (.slice none 0 0) 24 Tryz.underlying31 (by kernel_rfl) rfl .i64 .i64 n (by omega) (by omega) W
  have e : madeCells #[Value.slice none 0 0] n = (List.replicate n (Value.slice none 0 0)).toArray := by
    apply Array.ext'
    rw [toList_madeCells_one]
  rw [h, e]
theorem nils_flat (n : Nat) : (List.replicate n [Value.slice none 0 0]).flatten = List.replicate n (Value.slice none 0 0) := by
  induction n with
  | zero => rfl
  | succ n ih => rw [List.replicate_succ, List.flatten_cons, ih, List.replicate_succ]; rfl
theorem nils_ok (n : Nat) : RowsOk 1 (List.replicate n [Value.slice none 0 0]) := fun r hr => by
  have := (List.mem_replicate.1 hr).2
  subst this
  exact ⟨rfl, fun u hu => by simp at hu; subst hu; rfl⟩

theorem ts_new1 (w1 : World) (f : Int) (n : Nat) (hn : n ≤ 1000) : TS w1 (w1.heap.size + 1) f [] (List.replicate n [.slice none 0 0]) (some ⟨w1.heap.size, 0, none⟩) n
    (((w1.alloc (.cells (Array.replicate n (.slice none 0 0)) 36)).alloc (.cells #[.int .i64 f, .slice (some ⟨w1.heap.size, 0, none⟩) n n] 33)).drew) := by
  have ho := (OwnS.lit w1 (B := w1.heap.size) (Nat.le_refl _) 36 (sz := 1) (List.replicate n [.slice none 0 0]) (nils_ok n) (by simp [maxLen]; omega) (Array.replicate n (.slice none 0 0)) (by rw [nils_flat]; simp)).alloc (.cells #[.int .i64 f, .slice (some ⟨w1.heap.size, 0, none⟩) n n] 33)
  rw [List.length_replicate] at ho
  refine ⟨?_, ?_, (fun r hr => by simp at hr), (fun r hr => by simp at hr), (fun i j r s hr => by simp at hr), by simp [blk], by omega, (((Below.refl _ _).alloc (Nat.le_refl _) _).alloc (by simp) _).drew⟩
  · rw [List.length_nil, List.length_replicate, Nat.zero_add]
    exact (Blk.new' (by simp)).drew
  · rw [List.length_nil, List.length_replicate, Nat.zero_add, List.map_nil, List.nil_append]
    exact ho.drew
theorem ts_new2 (w1 : World) (f : Int) (n : Nat) (hn : n ≤ 1000) : TS w1 w1.heap.size f [] (List.replicate n [.slice none 0 0]) (some ⟨w1.heap.size + 1, 0, none⟩) n
    (((w1.alloc (.cells #[.int .i64 f, .slice (some ⟨w1.heap.size + 1, 0, none⟩) n n] 33)).alloc (.cells (Array.replicate n (.slice none 0 0)) 36)).drew) := by
  have ho := OwnS.lit (w1.alloc (.cells #[.int .i64 f, .slice (some ⟨w1.heap.size + 1, 0, none⟩) n n] 33)) (B := w1.heap.size) (by simp) 36 (sz := 1) (List.replicate n [.slice none 0 0]) (nils_ok n) (by simp [maxLen]; omega) (Array.replicate n (.slice none 0 0)) (by rw [nils_flat]; simp)
  rw [List.length_replicate] at ho
  simp only [World.size_alloc] at ho
  refine ⟨?_, ?_, (fun r hr => by simp at hr), (fun r hr => by simp at hr), (fun i j r s hr => by simp at hr), by simp [blk], by omega, (((Below.refl _ _).alloc (Nat.le_refl _) _).alloc (by simp) _).drew⟩
  · rw [List.length_nil, List.length_replicate, Nat.zero_add]
    exact ((Blk.new _ _ _).alloc _).drew
  · rw [List.length_nil, List.length_replicate, Nat.zero_add, List.map_nil, List.nil_append]
    exact ho.drew

end Go.Proofs.YtmfohnchnbgbaaaGreatDoor

/- The program lives: three rows, of two years. -/
namespace Go.Proofs.YtmfohnchnbgbaaaGreatDoor
open Go.RowKit

theorem PutN.yes {w w' : World} {f : Int} {c : List (List Int)} {e : Ending} (h : PutN w f c 0 e w') : Below w.heap.size w w' ∧ ∃ A' c' R, e = .returned (.tuple #[.agg #[.int .i64 f, .slice A' R.length c'], .int .i64 0]) ∧ MV w' A' R.length c' R ∧ allM R = c ∧ FreshT w A' R := by
  obtain ⟨h1, ⟨h2, _⟩ | ⟨_, h2⟩⟩ := h
  · exact absurd rfl h2
  · exact ⟨h1, h2⟩
theorem PutN.no {w w' : World} {f code : Int} {c : List (List Int)} {e : Ending} (h : PutN w f c code e w') (hc : code ≠ 0) : Below w.heap.size w w' ∧ e = .returned (.tuple #[.agg #[.int .i64 0, .slice none 0 0], .int .i64 code]) := by
  obtain ⟨h1, ⟨_, h2⟩ | ⟨h3, _⟩⟩ := h
  · exact ⟨h1, h2⟩
  · exact absurd h3 hc
theorem ok_rows3 (l : List R3) : RowsOk 3 (l.map enc3) := by
  intro r hr
  obtain ⟨x, _, rfl⟩ := List.mem_map.1 hr
  refine ⟨rfl, fun u hu => ?_⟩
  simp [enc3] at hu
  rcases hu with rfl | rfl | rfl <;> rfl
def lit3 : List R3 := [⟨146000, 146000, 5⟩, ⟨146000, 146200, 3⟩, ⟨146200, 146200, 7⟩]
theorem lit3_e : ofE lit3 = 0 := by decide
theorem lit3_f : fromL lit3 = 2000 := by decide
theorem lit3_c : ofC lit3 = [[5, 8], [7]] := by decide
theorem lit1_e : ofE [⟨9, 8, 1⟩] = 4 := by decide
theorem litP_e : putE 2000 [[5, 8], [7]] 2000 0 10 = 0 := by decide
theorem litP_c : putR 2000 [[5, 8], [7]] 2000 0 10 = [[15, 18], [7]] := by decide
theorem litQ_e : putE 2000 [[5, 8], [7]] 2002 0 1 = 1 := by decide
theorem litD : diagL 2000 [[5, 8], [7]] = [8, 7] := by decide
theorem litR : rightC 2000 [[5, 8], [7]] = true := by decide
theorem litR0 : rightC 0 [] = false := by decide
theorem sv_nil (w : World) (sz : Nat) : SV w sz none 0 0 [] := ⟨Sl.nil_, rfl, Nat.le_refl _, by simp [maxLen], fun _ => rfl⟩
theorem lit_sv (w : World) (l : List R3) (hm : l.length ≤ 1000) (cs : Array Value) (hcs : cs.toList = (l.map enc3).flatten) : SV (w.alloc (.cells cs 30)) 3 (some ⟨w.heap.size, 0, none⟩) l.length l.length (l.map enc3) := by
  have h := (OwnS.lit w (B := 0) (Nat.zero_le _) 30 (l.map enc3) (ok_rows3 l) (by simp [maxLen]; omega) cs hcs).sv
  rwa [List.length_map] at h
theorem lit_ints (w : World) (l : List Int) (hm : l.length ≤ 1000) (cs : Array Value) (hcs : cs.toList = (l.map encI).flatten) : SV (w.alloc (.cells cs 3)) 1 (some ⟨w.heap.size, 0, none⟩) l.length l.length (l.map encI) := by
  have h := (OwnS.lit w (B := 0) (Nat.zero_le _) 3 (l.map encI) (okI l) (by simp [maxLen]; omega) cs hcs).sv
  rwa [List.length_map] at h

theorem ok2000 : ok64 2000 := by unfold ok64; omega
theorem ok0 : ok64 0 := by unfold ok64; omega
/-- What lies there while the program is tried. -/
structure Liv (w : World) (X Y : Nat) (A Ad Au A1 A2 U1 U2 : Option Addr) (c cd cu c1 c2 e1 e2 : Nat) (wx : World) : Prop where
  x : Blk wx X 33 #[.int .i64 2000, .slice A 2 c]
  y : Blk wx Y 33 #[.int .i64 2000, .slice Au 2 cu]
  m : MV wx A 2 c [⟨A1, [5, 8], c1⟩, ⟨A2, [7], c2⟩]
  u : MV wx Au 2 cu [⟨U1, [15, 18], e1⟩, ⟨U2, [7], e2⟩]
  d : SV wx 1 Ad 2 cd ([8, 7].map encI)
  bel : Below w.heap.size w wx
theorem Liv.below {w : World} {X Y : Nat} {A Ad Au A1 A2 U1 U2 : Option Addr} {c cd cu c1 c2 e1 e2 : Nat} {wx wy : World} (h : Liv w X Y A Ad Au A1 A2 U1 U2 c cd cu c1 c2 e1 e2 wx) (hb : Below wx.heap.size wx wy) : Liv w X Y A Ad Au A1 A2 U1 U2 c cd cu c1 c2 e1 e2 wy :=
  ⟨h.x.below hb h.x.lt, h.y.below hb h.y.lt, h.m.below hb, h.u.below hb, h.d.below hb, chain h.bel hb⟩

end Go.Proofs.YtmfohnchnbgbaaaGreatDoor

/- The contracts of layer 21, from a world in which the arguments were read. -/
namespace Go.Proofs.YtmfohnchnbgbaaaGreatDoor
open Go.RowKit

/-- A contract's Below, from the base on. -/
theorem from_base {w0 w w' : World} (hb : Below w0.heap.size w0 w) (h : Below w.heap.size w w') : Below w0.heap.size w0 w' ∧ Below w.heap.size w w' := ⟨chain hb h, h⟩
section
variable {w0 w : World} {f : Int} {A : Option Addr} {n cap : Nat} {M : List Rw}
theorem right_b {v : Bool} (hs : MV w0 A n cap M) (hb : Below w0.heap.size w0 w) (hf : ok64 f) (hv : rightC f (allM M) = v) : Calls Tryz.prog 34 #[.agg #[.int .i64 f, .slice A n cap]] w fun e w' => e = .returned (.bool v) ∧ Below w0.heap.size w0 w' ∧ Below w.heap.size w w' := by
  obtain rfl := hs.len
  subst hv
  exact (right_any f A cap M w (hs.below hb) hf).mono fun _ _ ⟨he, h⟩ => ⟨he, from_base hb h⟩
def DiagB (w0 w : World) (D : List Int) (m : Nat) (e : Ending) (w' : World) : Prop := ∃ A' c', e = .returned (.slice A' m c') ∧ SV w' 1 A' m c' (D.map encI) ∧ Below w0.heap.size w0 w' ∧ Below w.heap.size w w'
theorem diag_b {D : List Int} {m : Nat} (hs : MV w0 A n cap M) (hb : Below w0.heap.size w0 w) (hf : ok64 f) (hD : diagL f (allM M) = D) (hm : D.length = m) : Calls Tryz.prog 14 #[.agg #[.int .i64 f, .slice A n cap]] w (DiagB w0 w D m) := by
  obtain rfl := hs.len
  subst hD hm
  exact (diag_any f A cap M w (hs.below hb) hf).mono fun _ _ ⟨A', c', he, h1, h⟩ => ⟨A', c', he, h1, from_base hb h⟩
end
theorem diag_len {f : Int} {c : List (List Int)} : (diagL f c).length ≤ 20 := by
  unfold diagL
  split
  · rename_i h
    rw [List.length_map]
    rw [rightC, Bool.and_eq_true] at h
    have := h.1
    simp only [boundsB, decide_eq_true_eq] at this
    omega
  · simp
end Go.Proofs.YtmfohnchnbgbaaaGreatDoor

/- The triangle of rows: facts of its cells; its contract from a base on. -/
namespace Go.Proofs.YtmfohnchnbgbaaaGreatDoor
open Go.RowKit

section
variable {w0 w : World} {A : Option Addr} {n cap : Nat} {l : List R3}
def OfB (w0 w : World) (f : Int) (C : List (List Int)) (m : Nat) (e : Ending) (w' : World) : Prop :=
  ∃ A' c' R, e = .returned (.tuple #[.agg #[.int .i64 f, .slice A' m c'], .int .i64 0]) ∧ MV w' A' m c' R ∧ allM R = C ∧ FreshT w A' R ∧ Below w0.heap.size w0 w' ∧ Below w.heap.size w w'
theorem of_yes {f : Int} {C : List (List Int)} {m : Nat} (hs : SV w0 3 A n cap (l.map enc3)) (hb : Below w0.heap.size w0 w) (hE : ofE l = 0) (hf : fromL l = f) (hC : ofC l = C) (hm : C.length = m) :
    Calls Tryz.prog 7 #[.slice A n cap] w (OfB w0 w f C m) := by
  have hn : l.length = n := by have := hs.len; simpa using this
  subst hn hf hC hm
  refine (of_any A cap l w (hs.below hb)).mono fun e w' h => ?_
  rw [hE] at h
  obtain ⟨h1, A', c', R, he, hmv, hr, hfr⟩ := h.yes
  have hl : R.length = (ofC l).length := by rw [← hr, allM_len]
  rw [hl] at he hmv
  exact ⟨A', c', R, he, hmv, hr, hfr, from_base hb h1⟩
theorem of_no {E : Int} (hs : SV w0 3 A n cap (l.map enc3)) (hb : Below w0.heap.size w0 w) (hE : ofE l = E) (h0 : E ≠ 0) :
    Calls Tryz.prog 7 #[.slice A n cap] w fun e w' => e = .returned (.tuple #[.agg #[.int .i64 0, .slice none 0 0], .int .i64 E]) ∧ Below w0.heap.size w0 w' ∧ Below w.heap.size w w' := by
  have hn : l.length = n := by have := hs.len; simpa using this
  subst hn
  refine (of_any A cap l w (hs.below hb)).mono fun e w' h => ?_
  rw [hE] at h
  obtain ⟨h1, he⟩ := h.no h0
  exact ⟨he, from_base hb h1⟩
end

/-- A row that the triangle has a cell for. -/
def Fits (f : Int) (n : Nat) (x : R3) : Prop := f ≤ yrV x.a ∧ idxO f x < n ∧ 0 ≤ devO x ∧ devO x < (n : Int) - idxO f x ∧ 0 ≤ x.m ∧ x.m ≤ 1000000000000000
theorem fits_all {l : List R3} (hc : chkL l = 0) (_hn : l ≠ []) {x : R3} (h : x ∈ l) : Fits (fromL l) (yearsN l) x := by
  have h1 := from_le h
  have h2 := le_to h
  have h3 := chk_yr (chkL_ok.1 hc x h)
  have h4 := chk_ok (chkL_ok.1 hc x h)
  have h5 := from_bd hc
  have h6 := to_bd hc
  unfold Fits idxO devO yearsN
  refine ⟨h1, by omega, by omega, by omega, h4.2.2.2.1, h4.2.2.2.2⟩
theorem ofO_shape {l : List R3} {c : List (List Int)} (hc : chkL l = 0) (h : ofO l = some c) : Shape (yearsN l) c :=
  shape_all (shape_zeros _) (fun x hx => (chk_ok (chkL_ok.1 hc x hx)).2.2.2.1) h
theorem right_shape {f : Int} {n : Nat} {c : List (List Int)} (h : Shape n c) (h1 : 1 ≤ n) (h2 : n ≤ 20) (h3 : 1601 ≤ f) (h4 : f ≤ 2401 - n) : rightC f c = true := by
  obtain ⟨hl, hr⟩ := h
  subst hl
  rw [rightC, Bool.and_eq_true]
  refine ⟨by simp only [boundsB, decide_eq_true_eq]; omega, (rowsB_iff _ _).2 fun i l hx => ?_⟩
  obtain ⟨h5, h6⟩ := hr i l hx
  simp only [goodRow, Bool.and_eq_true, decide_eq_true_eq, List.all_eq_true, okV]
  exact ⟨h5, h6⟩
/-- All that is known where the triangle is made. -/
theorem made {l : List R3} (h : ofE l = 0) : l ≠ [] ∧ chkL l = 0 ∧ ofO l = some (ofC l) ∧ Shape (yearsN l) (ofC l) ∧ rightC (fromL l) (ofC l) = true ∧ 1 ≤ yearsN l ∧ yearsN l ≤ 20 ∧ 1601 ≤ fromL l ∧ fromL l ≤ 2401 ∧ (ofC l).length = yearsN l := by
  obtain ⟨hn, hc, hb, c, ho⟩ := ofE_zero h
  have e : ofC l = c := by rw [ofC, ho]; rfl
  rw [e]
  have hs := ofO_shape hc ho
  have h1 := from_bd hc
  have h2 := to_bd hc
  have h3 := from_to hc hn
  have h4 : 1 ≤ yearsN l := by unfold yearsN; omega
  have h5 : yearsN l ≤ 20 := by unfold yearsN; omega
  have h6 : fromL l ≤ 2401 - (yearsN l : Int) := by unfold yearsN; omega
  exact ⟨hn, hc, ho, hs, right_shape hs h4 h5 h1.1 h6, h4, h5, h1.1, h1.2, hs.1⟩

/-! ### Together it is what was booked -/
def sumI : List Int → Int
  | [] => 0
  | x :: l => x + sumI l
def sumM (l : List R3) : Int := sumI (l.map (·.m))
theorem sumI_app (a b : List Int) : sumI (a ++ b) = sumI a + sumI b := by
  induction a with
  | nil => simp [sumI]
  | cons x a ih => rw [List.cons_append, sumI, sumI, ih]; omega
theorem sumI_set : ∀ {l : List Int} {i : Nat} {v u : Int}, l[i]? = some v → sumI (l.set i u) = sumI l - v + u
  | [], i, v, u, h => by simp at h
  | x :: l, 0, v, u, h => by simp at h; subst h; rw [List.set_cons_zero, sumI, sumI]; omega
  | x :: l, i + 1, v, u, h => by rw [List.set_cons_succ, sumI, sumI, sumI_set (by simpa using h)]; omega
theorem sumI_take {l : List Int} {k : Nat} {v : Int} (h : l[k]? = some v) : sumI (l.take (k + 1)) = sumI (l.take k) + v := by rw [take_of h, sumI_app]; simp [sumI]
theorem sumI_bd {B : Int} : ∀ {l : List Int}, (∀ v ∈ l, 0 ≤ v ∧ v ≤ B) → 0 ≤ sumI l ∧ sumI l ≤ l.length * B
  | [], _ => by simp [sumI]
  | x :: l, h => by
    have h1 := h x (by simp)
    have h2 := sumI_bd (l := l) (fun v hv => h v (by simp [hv]))
    rw [sumI, List.length_cons]
    have : ((l.length + 1 : Nat) : Int) * B = l.length * B + B := by rw [Int.natCast_add, Int.add_mul]; simp
    omega
theorem last_more {dev amt : Int} {r : List Int} (h0 : 0 ≤ dev) (h : dev < r.length) : lastI (moreL dev amt r) = lastI r + amt := by
  have hp : 0 < r.length := by omega
  obtain ⟨v, hv⟩ := get_of (l := r) (k := r.length - 1) (by omega)
  rw [lastI, lastI, List.getLast?_eq_getElem?, List.getLast?_eq_getElem?, moreL_len, moreL_get hv, hv]
  simp only [Option.getD_some, moreF]
  rw [if_pos (by omega)]
theorem diag_all {f : Int} {n : Nat} : ∀ {l : List R3} {c c' : List (List Int)}, Shape n c → (∀ x ∈ l, Fits f n x) → putAll f c l = some c' → sumI (c'.map lastI) = sumI (c.map lastI) + sumM l
  | [], c, c', _, _, h => by simp [putAll] at h; subst h; simp [sumM, sumI]
  | x :: l, c, c', hs, hf, h => by
    rw [putAll] at h
    split at h
    · rename_i hc
      obtain ⟨_, h2, h3, h4, h5, _⟩ := hf x (by simp)
      have := diag_all (shape_step hs h5 hc) (fun y hy => hf y (by simp [hy])) h
      obtain ⟨r, hr⟩ := get_of (l := c) (k := idxO f x) (by rw [hs.1]; exact h2)
      have hl := (hs.2 _ _ hr).1
      have er : rowO f c x = moreL (devO x) x.m r := by rw [rowO, List.getD_eq_getElem?_getD, hr]; rfl
      rw [this, List.map_set, er, last_more h3 (by omega), sumI_set (v := lastI r) (by rw [List.getElem?_map, hr]; rfl), sumM, sumM, List.map_cons, sumI]
      omega
    · cases h
theorem diag_zero (n : Nat) : sumI ((zerosT n).map lastI) = 0 := by
  have : ∀ v ∈ (zerosT n).map lastI, 0 ≤ v ∧ v ≤ 0 := by
    intro v hv
    obtain ⟨r, hr, rfl⟩ := List.mem_map.1 hv
    obtain ⟨i, hi⟩ := List.mem_iff_getElem?.1 hr
    have hlt := lt_of_get hi
    rw [zerosT_len] at hlt
    rw [zerosT_get hlt] at hi
    cases hi
    rw [lastI, List.getLast?_eq_getElem?, List.getElem?_replicate]
    split <;> simp
  have := sumI_bd this
  omega
theorem diag_sum {l : List R3} (h : ofE l = 0) : sumI (diagL (fromL l) (ofC l)) = sumM l := by
  obtain ⟨hn, hc, ho, hs, hr, _⟩ := made h
  rw [diagL, if_pos hr, diag_all (shape_zeros _) (fun x hx => fits_all hc hn hx) ho, diag_zero]
  omega
theorem diag_bd {f : Int} {c : List (List Int)} {v : Int} (h : v ∈ diagL f c) : 0 ≤ v ∧ v ≤ 100000000000000000 := by
  unfold diagL at h
  split at h
  · rename_i hr
    obtain ⟨r, hm, rfl⟩ := List.mem_map.1 h
    obtain ⟨i, hi⟩ := List.mem_iff_getElem?.1 hm
    obtain ⟨h1, h2⟩ := right_row hr hi
    have := lt_of_get hi
    obtain ⟨v, hv⟩ := get_of (l := r) (k := r.length - 1) (by omega)
    rw [lastI, List.getLast?_eq_getElem?, hv]
    exact h2 v (List.mem_of_getElem? hv)
  · simp at h

/-! ### No row falls -/
def Rising (l : List Int) : Prop := ∀ (k : Nat) (v u : Int), l[k]? = some v → l[k + 1]? = some u → v ≤ u
theorem rising_more {dev amt : Int} {l : List Int} (ha : 0 ≤ amt) (h : Rising l) : Rising (moreL dev amt l) := by
  intro k v u hv hu
  have h1 := lt_of_get hv
  have h2 := lt_of_get hu
  rw [moreL_len] at h1 h2
  obtain ⟨v0, hv0⟩ := get_of h1
  obtain ⟨u0, hu0⟩ := get_of h2
  rw [moreL_get hv0] at hv
  rw [moreL_get hu0] at hu
  cases hv; cases hu
  have := h k v0 u0 hv0 hu0
  unfold moreF
  split <;> split <;> omega
theorem rising_all {f : Int} : ∀ {l : List R3} {c c' : List (List Int)}, (∀ x ∈ l, 0 ≤ x.m) → (∀ r ∈ c, Rising r) → putAll f c l = some c' → ∀ r ∈ c', Rising r
  | [], c, c', _, hr, h => by simp [putAll] at h; subst h; exact hr
  | x :: l, c, c', hm, hr, h => by
    rw [putAll] at h
    split at h
    · refine rising_all (fun y hy => hm y (by simp [hy])) (fun r hrm => ?_) h
      rcases List.mem_or_eq_of_mem_set hrm with h1 | h1
      · exact hr r h1
      · subst h1
        refine rising_more (hm x (by simp)) ?_
        rw [List.getD_eq_getElem?_getD]
        cases hx : c[idxO f x]? with
        | none => intro k v u hv; simp at hv
        | some r => exact hr r (List.mem_of_getElem? hx)
    · cases h
theorem rising_made {l : List R3} (h : ofE l = 0) : ∀ r ∈ ofC l, Rising r := by
  obtain ⟨hn, hc, ho, _⟩ := made h
  refine rising_all (fun x hx => (fits_all hc hn hx).2.2.2.2.1) (fun r hr => ?_) ho
  obtain ⟨i, hi⟩ := List.mem_iff_getElem?.1 hr
  have hlt := lt_of_get hi
  rw [zerosT_len] at hlt
  rw [zerosT_get hlt] at hi
  cases hi
  intro k v u hv hu
  rw [List.getElem?_replicate] at hv hu
  split at hv <;> split at hu <;> simp_all
end Go.Proofs.YtmfohnchnbgbaaaGreatDoor

/- The triangle of rows as one value; it hangs not on their order. -/
namespace Go.Proofs.YtmfohnchnbgbaaaGreatDoor
open Go.RowKit

def ofF (l : List R3) : Int := if ofE l = 0 then fromL l else 0
def ofM (l : List R3) : List (List Int) := if ofE l = 0 then ofC l else []
section
variable {w0 w : World} {A : Option Addr} {n cap : Nat} {l : List R3}
def OfG (w0 w : World) (f : Int) (C : List (List Int)) (m : Nat) (E : Int) (e : Ending) (w' : World) : Prop :=
  ∃ A' c' R, e = .returned (.tuple #[.agg #[.int .i64 f, .slice A' m c'], .int .i64 E]) ∧ MV w' A' m c' R ∧ allM R = C ∧ FreshT w A' R ∧ Below w0.heap.size w0 w' ∧ Below w.heap.size w w'
theorem mv_nil (w : World) : MV w none 0 0 [] := ⟨sv_nil _ 1, fun r hr => by simp at hr⟩
theorem of_g {f E : Int} {C : List (List Int)} {m : Nat} (hs : SV w0 3 A n cap (l.map enc3)) (hb : Below w0.heap.size w0 w) (hE : ofE l = E) (hf : ofF l = f) (hC : ofM l = C) (hm : C.length = m) :
    Calls Tryz.prog 7 #[.slice A n cap] w (OfG w0 w f C m E) := by
  by_cases h0 : ofE l = 0
  · rw [ofF, if_pos h0] at hf
    rw [ofM, if_pos h0] at hC
    rw [h0] at hE; subst hE
    exact (of_yes hs hb h0 hf hC hm).mono fun _ _ h => h
  · rw [ofF, if_neg h0] at hf
    rw [ofM, if_neg h0] at hC
    subst hf hC hm
    exact (of_no hs hb hE (by rw [← hE]; exact h0)).mono fun _ w' ⟨he, h⟩ => ⟨none, 0, [], he, mv_nil w', rfl, ⟨fun kk hk => (by cases hk), fun r hr => (by simp at hr)⟩, h⟩
end
theorem ofF_ok {l : List R3} : ok64 (ofF l) := by
  unfold ofF ok64
  split
  · rename_i h
    obtain ⟨_, _, _, _, _, _, _, h1, h2, _⟩ := made h
    omega
  · omega
theorem ofM_len {l : List R3} : (ofM l).length ≤ 20 := by
  unfold ofM
  split
  · rename_i h
    obtain ⟨_, _, _, _, _, _, h1, _, _, h2⟩ := made h
    omega
  · simp

/-- What was booked for a cell. -/
def tot (f : Int) : List R3 → Nat → Nat → Int
  | [], _, _ => 0
  | x :: l, i, k => (if idxO f x = i ∧ devO x ≤ (k : Int) then x.m else 0) + tot f l i k
theorem tot_perm {f : Int} {l l' : List R3} (h : l.Perm l') (i k : Nat) : tot f l i k = tot f l' i k := by
  induction h with
  | nil => rfl
  | cons x _ ih => rw [tot, tot, ih]
  | swap x y l => rw [tot, tot, tot, tot]; omega
  | trans _ _ h1 h2 => rw [h1, h2]
theorem tot_pos {f : Int} {i k : Nat} : ∀ {l : List R3}, (∀ x ∈ l, 0 ≤ x.m) → 0 ≤ tot f l i k
  | [], _ => by simp [tot]
  | x :: l, h => by
    have h1 := h x (by simp)
    have h2 := tot_pos (f := f) (i := i) (k := k) (l := l) (fun y hy => h y (by simp [hy]))
    rw [tot]; split <;> omega
/-- Each cell, behind one row. -/
theorem cell_step {f : Int} {c : List (List Int)} {x : R3} {i k : Nat} {r : List Int} {v : Int} (hr : c[i]? = some r) (hv : r[k]? = some v) :
    ∃ r', (c.set (idxO f x) (rowO f c x))[i]? = some r' ∧ r'[k]? = some (v + (if idxO f x = i ∧ devO x ≤ (k : Int) then x.m else 0)) := by
  rw [List.getElem?_set]
  by_cases e : idxO f x = i
  · subst e
    refine ⟨rowO f c x, by rw [if_pos rfl, if_pos (lt_of_get hr)], ?_⟩
    have er : c.getD (idxO f x) [] = r := by rw [List.getD_eq_getElem?_getD, hr]; rfl
    rw [rowO, er, moreL_get hv, moreF]
    by_cases hd : devO x ≤ (k : Int)
    · rw [if_pos hd, if_pos ⟨rfl, hd⟩]
    · rw [if_neg hd, if_neg (fun h => hd h.2)]; simp
  · refine ⟨r, by rw [if_neg e]; exact hr, ?_⟩
    rw [if_neg (fun h => e h.1), hv]; simp
theorem cell_all {f : Int} : ∀ {l : List R3} {c c' : List (List Int)} {i k : Nat} {r : List Int} {v : Int}, putAll f c l = some c' → c[i]? = some r → r[k]? = some v → ∃ r', c'[i]? = some r' ∧ r'[k]? = some (v + tot f l i k)
  | [], c, c', i, k, r, v, h, hr, hv => by
    simp [putAll] at h; subst h
    exact ⟨r, hr, by rw [tot, Int.add_zero]; exact hv⟩
  | x :: l, c, c', i, k, r, v, h, hr, hv => by
    rw [putAll] at h
    split at h
    · obtain ⟨r1, h1, h2⟩ := cell_step (f := f) (x := x) hr hv
      obtain ⟨r2, h3, h4⟩ := cell_all h h1 h2
      refine ⟨r2, h3, ?_⟩
      rw [h4, tot]; congr 1; omega
    · cases h
/-- Where no cell would be too great, the rows are put. -/
theorem puts_all {f : Int} {n : Nat} : ∀ {l : List R3} {c : List (List Int)}, Shape n c → (∀ x ∈ l, 0 ≤ x.m) → (∀ (i k : Nat) (r : List Int) (v : Int), c[i]? = some r → r[k]? = some v → v + tot f l i k ≤ 100000000000000000) → ∃ c', putAll f c l = some c'
  | [], c, _, _, _ => ⟨c, rfl⟩
  | x :: l, c, hs, hm, hb => by
    have hpos := fun (i k : Nat) => tot_pos (f := f) (i := i) (k := k) (l := l) (fun y hy => hm y (by simp [hy]))
    have hc : capB (rowO f c x) = true := by
      rw [rowO, List.getD_eq_getElem?_getD]
      cases hr : c[idxO f x]? with
      | none => rfl
      | some r =>
        refine capB_yes (fun v hv => ((hs.2 _ _ hr).2 v hv).2) (fun j v hd hv => ?_)
        have := hb (idxO f x) j r v hr hv
        rw [tot, if_pos ⟨rfl, hd⟩] at this
        have := hpos (idxO f x) j
        omega
    rw [putAll, if_pos hc]
    refine puts_all (shape_step hs (hm x (by simp)) hc) (fun y hy => hm y (by simp [hy])) (fun i k r' v' hr' hv' => ?_)
    have hi := lt_of_get hr'
    rw [List.length_set] at hi
    obtain ⟨r, hr⟩ := get_of hi
    have hk := lt_of_get hv'
    have hl := ((shape_step hs (hm x (by simp)) hc).2 i r' hr').1
    have hl2 := (hs.2 i r hr).1
    obtain ⟨v, hv⟩ := get_of (l := r) (k := k) (by omega)
    obtain ⟨r2, h1, h2⟩ := cell_step (f := f) (x := x) hr hv
    rw [hr'] at h1; cases h1
    rw [hv'] at h2; cases h2
    have := hb i k r v hr hv
    rw [tot] at this
    omega
theorem shape_ext {n : Nat} {c d : List (List Int)} (hc : Shape n c) (hd : Shape n d) (h : ∀ (i k : Nat) (r s : List Int) (v u : Int), c[i]? = some r → d[i]? = some s → r[k]? = some v → s[k]? = some u → v = u) : c = d := by
  apply List.ext_getElem?
  intro i
  by_cases hi : i < n
  · obtain ⟨r, hr⟩ := get_of (l := c) (k := i) (by rw [hc.1]; exact hi)
    obtain ⟨s, hs⟩ := get_of (l := d) (k := i) (by rw [hd.1]; exact hi)
    have h1 := (hc.2 i r hr).1
    have h2 := (hd.2 i s hs).1
    rw [hr, hs]
    congr 1
    apply List.ext_getElem?
    intro k
    by_cases hk : k < n - i
    · obtain ⟨v, hv⟩ := get_of (l := r) (k := k) (by omega)
      obtain ⟨u, hu⟩ := get_of (l := s) (k := k) (by omega)
      rw [hv, hu, h i k r s v u hr hs hv hu]
    · rw [List.getElem?_eq_none (by omega), List.getElem?_eq_none (by omega)]
  · rw [List.getElem?_eq_none (by rw [hc.1]; omega), List.getElem?_eq_none (by rw [hd.1]; omega)]
theorem from_perm {l l' : List R3} (h : l.Perm l') : fromL l = fromL l' := by
  unfold fromL
  exact h.foldl_eq' (fun x _ y _ z => by omega) _
theorem to_perm {l l' : List R3} (h : l.Perm l') : toL l = toL l' := by
  unfold toL
  exact h.foldl_eq' (fun x _ y _ z => by omega) _
theorem ofE_perm0 {l l' : List R3} (h : l.Perm l') (h0 : ofE l = 0) : ofE l' = 0 ∧ ofC l' = ofC l := by
  obtain ⟨hn, hc, hb, _⟩ := ofE_zero h0
  obtain ⟨_, _, ho, hs, _⟩ := made h0
  have hf := from_perm h
  have ht := to_perm h
  have hy : yearsN l' = yearsN l := by unfold yearsN; rw [hf, ht]
  have hn' : l' ≠ [] := fun e => hn (by subst e; exact List.Perm.eq_nil h)
  have hc' : chkL l' = 0 := chkL_ok.2 (fun x hx => chkL_ok.1 hc x (h.mem_iff.2 hx))
  have hm : ∀ x ∈ l', 0 ≤ x.m := fun x hx => (chk_ok (chkL_ok.1 hc' x hx)).2.2.2.1
  have hput : ∃ c', putAll (fromL l) (zerosT (yearsN l)) l' = some c' := by
    refine puts_all (shape_zeros _) hm (fun i k r v hr hv => ?_)
    rw [← tot_perm h]
    obtain ⟨r2, h1, h2⟩ := cell_all ho hr hv
    exact ((hs.2 i r2 h1).2 _ (List.mem_of_getElem? h2)).2
  obtain ⟨c', hp⟩ := hput
  have ho' : ofO l' = some c' := by unfold ofO; rw [← hf, hy]; exact hp
  have hs' : Shape (yearsN l) c' := shape_all (shape_zeros _) hm hp
  have hcc : c' = ofC l := by
    refine shape_ext hs' hs (fun i k r s v u hr hs2 hv hu => ?_)
    have hi := lt_of_get hr
    rw [hs'.1] at hi
    have hz := zerosT_get hi
    have hk := lt_of_get hv
    rw [(hs'.2 i r hr).1] at hk
    have hzk : (List.replicate (yearsN l - i) (0 : Int))[k]? = some 0 := by rw [List.getElem?_replicate, if_pos hk]
    obtain ⟨r1, a1, a2⟩ := cell_all hp hz hzk
    obtain ⟨r2, b1, b2⟩ := cell_all ho hz hzk
    rw [hr] at a1; cases a1
    rw [hs2] at b1; cases b1
    rw [hv] at a2; cases a2
    rw [hu] at b2; cases b2
    rw [tot_perm h]
  refine ⟨ofE_ok hn' hc' ?_ ho', by rw [ofC, ho', ← hcc]; rfl⟩
  rw [← hf, ← ht, ← h.length_eq]
  exact hb
theorem of_perm {l l' : List R3} (h : l.Perm l') : (ofE l' = 0 ↔ ofE l = 0) ∧ ofF l' = ofF l ∧ ofM l' = ofM l := by
  have h1 : ofE l' = 0 ↔ ofE l = 0 := ⟨fun e => (ofE_perm0 h.symm e).1, fun e => (ofE_perm0 h e).1⟩
  refine ⟨h1, ?_, ?_⟩
  · unfold ofF
    by_cases e : ofE l = 0
    · rw [if_pos e, if_pos (h1.2 e), from_perm h]
    · rw [if_neg e, if_neg (fun e' => e (h1.1 e'))]
  · unfold ofM
    by_cases e : ofE l = 0
    · rw [if_pos e, if_pos (h1.2 e), (ofE_perm0 h e).2]
    · rw [if_neg e, if_neg (fun e' => e (h1.1 e'))]
theorem turn_perm (l : List R3) (k : Nat) : l.Perm (l.drop k ++ l.take k) := by
  have := List.perm_append_comm (l₁ := l.take k) (l₂ := l.drop k)
  rwa [List.take_append_drop] at this
theorem el3 : ElT Tryz.prog 25 30 3 24 := ElT.mk' (z := .agg #[.int .i64 0, .int .i64 0, .int .i64 0]) Tryz.underlying25 (by kernel_rfl) rfl (by omega)
theorem own_of_blk {W : World} {g B : Nat} {e : TypeId} {sz : Nat} (h : Blk W g e #[]) (hB : B ≤ g) : OwnS W B e sz (some ⟨g, 0, none⟩) 0 0 [] :=
  ⟨⟨by simp, .inr ⟨g, 0, #[], rfl, hB, h, Nat.le_refl _, Nat.zero_le _, by simp, by simp⟩⟩, rfl, RowsOk.nil_⟩
/-- What stands behind the turned rows' triangle. -/
def TurnRel (w2 : World) (F : Int) (C : List (List Int)) (m : Nat) (E : Int) (t u : Value) (wx : World) : Prop :=
  ∃ Y A' c' R, t = .pointer (some ⟨Y, 0, none⟩) ∧ u = .int .i64 E ∧ Blk wx Y 33 #[.int .i64 F, .slice A' m c'] ∧ MV wx A' m c' R ∧ allM R = C ∧ Below w2.heap.size w2 wx
end Go.Proofs.YtmfohnchnbgbaaaGreatDoor

/- Whether a version, and a tariff, may be: the document's Version; the program's Right. -/
namespace Go.Proofs.YtmfohnchnbgbaaaGreatDoor
open Go.RowKit

/-! ### Which tariffs may be -/
def risesV (last : Int) : List Ver → Bool
  | [] => true
  | v :: r => if v.f ≤ last ∨ versionB v = false then false else risesV v.f r
def rightT (l : List Ver) : Bool := decide (l.length ≤ 100) && risesV 0 l
/-- One version looked at, behind one from the day 'last' on; w0 is the world in which the versions were read. -/
def Bad1 (w0 : World) (L : Nat) (x : Vw) (last : Int) (e : Ending) (w' : World) : Prop :=
  e = .returned (.bool (decide (x.f ≤ last) || !versionB x.v)) ∧ Blk w' L 3 #[.int .i64 x.f] ∧ Below w0.heap.size w0 w'
theorem rises_take : ∀ {l : List Ver} {k : Nat} {x : Ver} {last : Int}, l[k]? = some x → risesV last (l.take (k + 1)) = (risesV last (l.take k) && !(decide (x.f ≤ (((l.take k).getLast?.map (·.f)).getD last)) || !versionB x))
  | [], k, x, last, h => by simp at h
  | v :: r, 0, x, last, h => by
    simp at h; subst h
    simp only [List.take_succ_cons, List.take_zero, risesV, List.getLast?_nil, Option.map_none, Option.getD_none]
    by_cases h1 : v.f ≤ last ∨ versionB v = false
    · rw [if_pos h1]; rcases h1 with h1 | h1 <;> simp [h1]
    · rw [if_neg h1]; simp only [not_or, Bool.not_eq_false] at h1; simp [h1.1, h1.2]
  | v :: r, k + 1, x, last, h => by
    rw [List.take_succ_cons, List.take_succ_cons, risesV, risesV]
    split
    · simp
    · rw [rises_take (l := r) (k := k) (x := x) (last := v.f) (by simpa using h)]
      congr 3
      cases hr : r.take k with
      | nil => simp; rfl
      | cons a t => rw [List.getLast?_cons_cons]; simp [List.getLast?_cons]
theorem rises_no : ∀ {l : List Ver} {k : Nat} {last : Int}, risesV last (l.take k) = false → risesV last l = false
  | [], k, last, h => by simp [risesV] at h
  | v :: r, 0, last, h => by simp [risesV] at h
  | v :: r, k + 1, last, h => by
    rw [List.take_succ_cons, risesV] at h
    rw [risesV]
    split
    · rfl
    · rename_i hn; rw [if_neg hn] at h; exact rises_no h
theorem Sl.vw {w : World} {B k : Nat} {A : Option Addr} {M : List Vw} {x : Vw} (h : Sl w B 9 A (M.map encV)) (hx : M[k]? = some x) :
    ∃ b off, A = some ⟨b, off, none⟩ ∧ b < B ∧ w.cell? ⟨b, off + k * 9, none⟩ = some (.int .i64 x.f) ∧ w.cell? ⟨b, off + k * 9 + 1, none⟩ = some (.int .i64 x.b0) ∧ w.cell? ⟨b, off + k * 9 + 2, none⟩ = some (.int .i64 x.b1) ∧
      w.cell? ⟨b, off + k * 9 + 3, none⟩ = some (.int .i64 x.b2) ∧ w.cell? ⟨b, off + k * 9 + 4, none⟩ = some (.int .i64 x.b3) ∧ w.cell? ⟨b, off + k * 9 + 5, none⟩ = some (.slice x.aA x.age.length x.aC) ∧
      w.cell? ⟨b, off + k * 9 + 6, none⟩ = some (.slice x.zA x.zone.length x.zC) ∧ w.cell? ⟨b, off + k * 9 + 7, none⟩ = some (.slice x.pA x.peril.length x.pC) ∧ w.cell? ⟨b, off + k * 9 + 8, none⟩ = some (.int .i64 x.mn) := by
  obtain ⟨b, off, hA, hb, hc⟩ := h k (encV x) (by simp [hx])
  exact ⟨b, off, hA, hb, hc 0 _ rfl, hc 1 _ rfl, hc 2 _ rfl, hc 3 _ rfl, hc 4 _ rfl, hc 5 _ rfl, hc 6 _ rfl, hc 7 _ rfl, hc 8 _ rfl⟩
theorem allV_get {M : List Vw} {k : Nat} {x : Vw} (h : M[k]? = some x) : (allV M)[k]? = some x.v := by simp [allV, h]
theorem allV_len (M : List Vw) : (allV M).length = M.length := List.length_map _
def lastF (l : List Ver) : Int := (l.getLast?.map (·.f)).getD 0
theorem lastF_take {l : List Ver} {k : Nat} {x : Ver} (h : l[k]? = some x) : lastF (l.take (k + 1)) = x.f := by rw [take_of h, lastF]; simp
end Go.Proofs.YtmfohnchnbgbaaaGreatDoor

/- Copies: of factors, of bands, of versions; a version of its own. -/
namespace Go.Proofs.YtmfohnchnbgbaaaGreatDoor
open Go.RowKit

theorem elBand : ElT Tryz.prog 112 228 2 16 := ElT.mk' (z := .agg #[.int .i64 0, .int .i64 0]) Tryz.underlying112 (by kernel_rfl) rfl (by omega)
theorem elVer : ElT Tryz.prog 65 114 9 120 := ElT.mk' (z := .agg #[.int .i64 0, .int .i64 0, .int .i64 0, .int .i64 0, .int .i64 0, .slice none 0 0, .slice none 0 0, .slice none 0 0, .int .i64 0]) Tryz.underlying65 (by kernel_rfl) rfl (by omega)
theorem okBd (l : List Bd) : RowsOk 2 (l.map encBd) := by
  intro r hr
  obtain ⟨x, _, rfl⟩ := List.mem_map.1 hr
  refine ⟨rfl, fun u hu => ?_⟩
  simp [encBd] at hu
  rcases hu with rfl | rfl <;> rfl
theorem okVs (l : List Vw) : RowsOk 9 (l.map encV) := by
  intro r hr
  obtain ⟨x, _, rfl⟩ := List.mem_map.1 hr
  refine ⟨rfl, fun u hu => ?_⟩
  simp [encV] at hu
  rcases hu with rfl | rfl | rfl | rfl | rfl | rfl | rfl | rfl | rfl <;> rfl
/-- What a copy is: a slice of the call's own, with the same rows; nil of nil. -/
def CopyP (w : World) (e : TypeId) (sz n : Nat) (rows : List (List Value)) (en : Ending) (w' : World) : Prop :=
  ∃ A' c', en = .returned (.slice A' n c') ∧ OwnS w' w.heap.size e sz A' n c' rows ∧ Below w.heap.size w w'
set_option maxHeartbeats 1000000 in
theorem cloneI_any (A : Option Addr) (n cap : Nat) (l : List Int) (w : World) (hs : SV w 1 A n cap (l.map encI)) (hm : n ≤ 1000000) :
    Calls Tryz.prog 123 #[.slice A n cap] w (CopyP w 3 1 n (l.map encI)) := by
  have hq := fun (W : World) => Lib.run_eql_slice_nil (P := Tryz.prog) W 36 3 A n cap 0 0 Tryz.underlying36
  have hn : l.length = n := by have := hs.len; simpa using this
  have HS := hide hs
  have HN := hide hn
  clear hs hn
  cases A with
  | none =>
    have h0 : n = 0 := by have := HS.out.nil rfl; have := HS.out.le; omega
    have hc0 : cap = 0 := HS.out.nil rfl
    have hl : l = [] := List.eq_nil_of_length_eq_zero (by rw [HN.out]; exact h0)
    subst hl h0 hc0
    go_enter Tryz.func123, Tryz.ntmps123
    go_wp2_with fail
    go_ret
    exact ⟨none, 0, rfl, OwnS.nil_ _ _ _ _, Below.refl _ _⟩
  | some a =>
    go_enter Tryz.func123, Tryz.ntmps123
    go_wp2_with (at_builtin
                 refine wpList_app rfl (.tmp 5) (.tmp 6) 36 rfl elInt (B := w.heap.size) (A := some ⟨_, 0, none⟩) (rows := []) (news := l.map encI) rfl (own_of_blk (Blk.new _ _ _) (Nat.le_refl _)) rfl (by simp; exact HN.out) ?_ (okI l) ?_ ?_ ?_ ?_
                 · exact (HS.out.sl.below ((Below.refl _ _).alloc (Nat.le_refl _) _)).more (by simp)
                 · simp only [maxLen]; omega
                 · omega
                 · simp
                 intro A1 c1 wa ho1 hg1 ha1
                 rw [Nat.zero_add, List.nil_append] at ho1
                 have hba : Below w.heap.size w wa := ((Below.refl _ _).alloc (Nat.le_refl _) _).grown hg1 (by simp) (fun kk hk => by simp [blk] at hk; omega)
                 have HO := hide ho1
                 clear hg1 ha1 ho1)
    go_ret
    exact ⟨A1, c1, by simp, HO.out, hba⟩
set_option maxHeartbeats 1000000 in
theorem cloneB_any (A : Option Addr) (n cap : Nat) (l : List Bd) (w : World) (hs : SV w 2 A n cap (l.map encBd)) (hm : n ≤ 1000000) :
    Calls Tryz.prog 122 #[.slice A n cap] w (CopyP w 228 2 n (l.map encBd)) := by
  have hq := fun (W : World) => Lib.run_eql_slice_nil (P := Tryz.prog) W 112 228 A n cap 0 0 Tryz.underlying112
  have hn : l.length = n := by have := hs.len; simpa using this
  have HS := hide hs
  have HN := hide hn
  clear hs hn
  cases A with
  | none =>
    have h0 : n = 0 := by have := HS.out.nil rfl; have := HS.out.le; omega
    have hc0 : cap = 0 := HS.out.nil rfl
    have hl : l = [] := List.eq_nil_of_length_eq_zero (by rw [HN.out]; exact h0)
    subst hl h0 hc0
    go_enter Tryz.func122, Tryz.ntmps122
    go_wp2_with fail
    go_ret
    exact ⟨none, 0, rfl, OwnS.nil_ _ _ _ _, Below.refl _ _⟩
  | some a =>
    go_enter Tryz.func122, Tryz.ntmps122
    go_wp2_with (at_builtin
                 refine wpList_app rfl (.tmp 5) (.tmp 6) 112 rfl elBand (B := w.heap.size) (A := some ⟨_, 0, none⟩) (rows := []) (news := l.map encBd) rfl (own_of_blk (Blk.new _ _ _) (Nat.le_refl _)) rfl (by simp; exact HN.out) ?_ (okBd l) ?_ ?_ ?_ ?_
                 · exact (HS.out.sl.below ((Below.refl _ _).alloc (Nat.le_refl _) _)).more (by simp)
                 · simp only [maxLen]; omega
                 · omega
                 · simp
                 intro A1 c1 wa ho1 hg1 ha1
                 rw [Nat.zero_add, List.nil_append] at ho1
                 have hba : Below w.heap.size w wa := ((Below.refl _ _).alloc (Nat.le_refl _) _).grown hg1 (by simp) (fun kk hk => by simp [blk] at hk; omega)
                 have HO := hide ho1
                 clear hg1 ha1 ho1)
    go_ret
    exact ⟨A1, c1, by simp, HO.out, hba⟩
/-- A slice in a world in which its block lies as it lay. -/
theorem SV.only {w w' : World} {sz n cap : Nat} {A : Option Addr} {rows : List (List Value)} (h : SV w sz A n cap rows) (hk : ∀ b, blk A = some b → w'.heap[b]? = w.heap[b]?) (hsz : w.heap.size ≤ w'.heap.size) : SV w' sz A n cap rows := by
  refine ⟨fun i r hr => ?_, h.len, h.le, h.most, h.nil⟩
  obtain ⟨b, off, hA, hb, hc⟩ := h.sl i r hr
  refine ⟨b, off, hA, by omega, fun j u hu => ?_⟩
  rw [World.cell?_of_block (w := w) (hk b (by rw [hA]; rfl))]
  exact hc j u hu
theorem VOK.only {w w' : World} {x : Vw} (h : VOK w x) (hk : ∀ b, (blk x.aA = some b ∨ blk x.zA = some b ∨ blk x.pA = some b) → w'.heap[b]? = w.heap[b]?) (hsz : w.heap.size ≤ w'.heap.size) : VOK w' x :=
  ⟨h.age.only (fun b hb => hk b (.inl hb)) hsz, h.zone.only (fun b hb => hk b (.inr (.inl hb))) hsz, h.peril.only (fun b hb => hk b (.inr (.inr hb))) hsz⟩
/-- A version stored into a box. -/
def setV (w : World) (g : Nat) (x : Vw) : World := (((((((((w.setCell ⟨g, 0, none⟩ (.int .i64 x.f)).setCell ⟨g, 1, none⟩ (.int .i64 x.b0)).setCell ⟨g, 2, none⟩ (.int .i64 x.b1)).setCell ⟨g, 3, none⟩ (.int .i64 x.b2)).setCell ⟨g, 4, none⟩ (.int .i64 x.b3)).setCell ⟨g, 5, none⟩ (.slice x.aA x.age.length x.aC)).setCell ⟨g, 6, none⟩ (.slice x.zA x.zone.length x.zC)).setCell ⟨g, 7, none⟩ (.slice x.pA x.peril.length x.pC)).setCell ⟨g, 8, none⟩ (.int .i64 x.mn))
theorem setV_other (w : World) (g : Nat) (x : Vw) {b : Nat} (hb : b ≠ g) : (setV w g x).heap[b]? = w.heap[b]? := by
  unfold setV
  rw [heap_setCell_other _ _ _ _ (show b ≠ (⟨g, 8, none⟩ : Addr).block from hb)]
  rw [heap_setCell_other _ _ _ _ (show b ≠ (⟨g, 7, none⟩ : Addr).block from hb)]
  rw [heap_setCell_other _ _ _ _ (show b ≠ (⟨g, 6, none⟩ : Addr).block from hb)]
  rw [heap_setCell_other _ _ _ _ (show b ≠ (⟨g, 5, none⟩ : Addr).block from hb)]
  rw [heap_setCell_other _ _ _ _ (show b ≠ (⟨g, 4, none⟩ : Addr).block from hb)]
  rw [heap_setCell_other _ _ _ _ (show b ≠ (⟨g, 3, none⟩ : Addr).block from hb)]
  rw [heap_setCell_other _ _ _ _ (show b ≠ (⟨g, 2, none⟩ : Addr).block from hb)]
  rw [heap_setCell_other _ _ _ _ (show b ≠ (⟨g, 1, none⟩ : Addr).block from hb)]
  rw [heap_setCell_other _ _ _ _ (show b ≠ (⟨g, 0, none⟩ : Addr).block from hb)]
theorem setV_size (w : World) (g : Nat) (x : Vw) : (setV w g x).heap.size = w.heap.size := by simp [setV]
theorem setV_blk {w : World} {g : Nat} {a0 a1 a2 a3 a4 a5 a6 a7 a8 : Value} (x : Vw) (h : Blk w g 114 #[a0, a1, a2, a3, a4, a5, a6, a7, a8]) : Blk (setV w g x) g 114 (boxV x) := by
  have h2 := (((((((((h.set_ 0 (.int .i64 x.f)).set_ 1 (.int .i64 x.b0)).set_ 2 (.int .i64 x.b1)).set_ 3 (.int .i64 x.b2)).set_ 4 (.int .i64 x.b3)).set_ 5 (.slice x.aA x.age.length x.aC)).set_ 6 (.slice x.zA x.zone.length x.zC)).set_ 7 (.slice x.pA x.peril.length x.pC)).set_ 8 (.int .i64 x.mn))
  simpa [setV, boxV] using h2
theorem setV_below {B : Nat} {a w : World} {g : Nat} (x : Vw) (h : Below B a w) (hg : B ≤ g) : Below B a (setV w g x) := (((((((((h.setCell (p := ⟨g, 0, none⟩) hg _).setCell (p := ⟨g, 1, none⟩) hg _).setCell (p := ⟨g, 2, none⟩) hg _).setCell (p := ⟨g, 3, none⟩) hg _).setCell (p := ⟨g, 4, none⟩) hg _).setCell (p := ⟨g, 5, none⟩) hg _).setCell (p := ⟨g, 6, none⟩) hg _).setCell (p := ⟨g, 7, none⟩) hg _).setCell (p := ⟨g, 8, none⟩) hg _)
end Go.Proofs.YtmfohnchnbgbaaaGreatDoor

/- The order of changes, where there is one at most. -/
namespace Go.Proofs.YtmfohnchnbgbaaaGreatDoor
open Go.RowKit

theorem ins_small (A : Option Addr) (n cap : Nat) (f : Value) (w : World) (hn : n ≤ 1) :
    Calls Tryz.prog 169 #[.slice A n cap, .int .i64 0, .int .i64 n, f] w fun e w' => e = .returned (.tuple #[]) ∧ w' = w := by
  go_enter Tryz.func169, Tryz.ntmps169
  go_wp2_with fail
  go_loop [8] (fun i => i = .int .i64 1) (fun _ => 0)
  case atStart => rfl
  case round =>
    subst hrel
    go_wp2_with fail
    go_end0
    exact ⟨rfl, rfl⟩
theorem stable_small (A : Option Addr) (n cap : Nat) (f : Value) (w : World) (hn : n ≤ 1) :
    Calls Tryz.prog 125 #[.slice A n cap, f] w fun e w' => e = .returned (.tuple #[]) ∧ w' = w := by
  have key : Calls Tryz.prog 153 #[.slice A n cap, .int .i64 n, f] w fun e w' => e = .returned (.tuple #[]) ∧ w' = w := by
    go_enter Tryz.func153, Tryz.ntmps153
    go_wp2_with fail
    go_loop [7, 8] (fun a b => a = .int .i64 0 ∧ b = .int .i64 20) (fun _ _ => 0)
    case atStart => exact ⟨rfl, rfl⟩
    case round =>
      obtain ⟨rfl, rfl⟩ := hrel
      go_wp2_with fail
      refine (ins_small A n cap f w hn).mono ?_
      rintro e w' ⟨rfl, rfl⟩
      go_wp2_with fail
      go_loop [6] (fun b => b = .int .i64 20) (fun _ => 0)
      case atStart => rfl
      case round =>
        subst hrel
        go_wp2_with fail
        go_end0
        exact ⟨rfl, rfl⟩
  go_enter Tryz.func125, Tryz.ntmps125
  go_wp2_with fail
  refine key.mono ?_
  rintro e w' ⟨rfl, rfl⟩
  go_wp2_with fail
  go_end0
  exact ⟨rfl, rfl⟩
/-- The places of changes, in order. -/
def encN (k : Nat) : List Value := [.int .i64 k]
def OrdP (O : List Nat) (w : World) (e : Ending) (w' : World) : Prop := ∃ (A : Option Addr) (cap : Nat), e = .returned (.slice A O.length cap) ∧ SV w' 1 A O.length cap (O.map encN) ∧ (∀ b, blk A = some b → w.heap.size ≤ b ∧ b < w'.heap.size) ∧ Below w.heap.size w w'
theorem okN (l : List Nat) : RowsOk 1 (l.map encN) := by
  intro r hr
  obtain ⟨x, -, rfl⟩ := List.mem_map.1 hr
  exact ⟨rfl, fun u hu => by simp [encN] at hu; subst hu; rfl⟩
set_option maxRecDepth 100000 in
set_option maxHeartbeats 1000000 in
theorem order_small (h : Hi) (w : World) (hn1 : h.cs.length ≤ 1) (hc : h.cs.length ≤ h.cap) :
    Calls Tryz.prog 74 #[.agg #[.int .i64 h.id, .int .i64 h.bk, .int .i64 h.tm.f, .int .i64 h.tm.t, .int .i64 h.tm.k, .int .i64 h.tm.v, .int .i64 h.tm.a, .int .i64 h.tm.z, .slice h.tm.A h.tm.l.length h.tm.cap, .slice h.A h.cs.length h.cap]] w (OrdP (List.range h.cs.length) w) := by
  have hmf : ∀ (fn : Fn) (first cap : Array Value) (w : World), (Instr.makeFunc fn first cap).run Tryz.prog w = .ok (.func fn first cap) w := fun _ _ _ _ => rfl
  obtain ⟨n, hn⟩ : ∃ n, h.cs.length = n := ⟨_, rfl⟩
  rw [hn] at hn1 hc
  have HN := hide hn
  obtain ⟨w1, hw1⟩ : ∃ W, w.alloc (.cells (hiC h) 64) = W := ⟨_, rfl⟩
  have hB : Blk w1 w.heap.size 64 (hiC h) := by rw [← hw1]; exact Blk.new _ _ _
  have hb1 : Below w.heap.size w w1 := by rw [← hw1]; exact (Below.refl _ _).alloc (Nat.le_refl _) _
  have z9 := (hi_cells hB).2.2.2.2.2.2.2.2.2
  have lt0 := hB.lt
  have H1 := hide hb1
  have HW := hide hw1
  clear hB hb1 hw1 hn
  go_enter Tryz.func74, Tryz.ntmps74
  go_upto_region 1 with fail
  rw [show w.alloc (.cells #[.int .i64 h.id, .int .i64 h.bk, .int .i64 h.tm.f, .int .i64 h.tm.t, .int .i64 h.tm.k, .int .i64 h.tm.v, .int .i64 h.tm.a, .int .i64 h.tm.z, .slice h.tm.A h.tm.l.length h.tm.cap, .slice h.A h.cs.length h.cap] 64) = w1 from HW.out]
  rw [show h.cs.length = n from HN.out] at z9 ⊢
  go_wp2_with fail
  go_loopw [3, 8] (fun t i wr => ∃ (k : Nat) (A' : Option Addr) (cap' : Nat), k ≤ n ∧ i = .int .i64 k ∧ t = .slice A' k cap' ∧ OwnS wr w1.heap.size 3 1 A' k cap' ((List.range k).map encN) ∧ Below w1.heap.size w1 wr) (fun _ i _ => n - (RowKit.intOf i).toNat)
  case atStart => exact ⟨0, none, 0, Nat.zero_le _, rfl, rfl, OwnS.nil_ _ _ _ _, Below.refl _ _⟩
  case round =>
    obtain ⟨k, A', cap', hk, rfl, rfl, ho, hb⟩ := hrel
    have HO := hide ho
    have hsz := hb.size
    clear ho
    by_cases hlt : k < n
    · have hk0 : (0 : Int) ≤ (k : Int) := by omega
      have hk1 : (k : Int) < (n : Int) := by omega
      go_wp2_with (at_builtin
                   refine wpList_app rfl (.tmp 11) (.tmp 13) 36 rfl elInt (B := w1.heap.size) (A2 := some ⟨_, 0, none⟩) (news := [k].map encN) rfl (HO.out.alloc _) rfl rfl ?_ (okN [k]) ?_ ?_ ?_ ?_
                   · exact sl_of_blk (cs := #[.int .i64 k]) (Blk.new _ _ _)
                   · simp only [maxLen]; omega
                   · omega
                   · simp; omega
                   intro A1 c1 wa ho1 hg1 ha1
                   have hba : Below w1.heap.size w1 wa := (hb.alloc hb.size _).grown hg1 (by simp; omega) (fun kk hk => (HO.out.lt kk hk).1)
                   clear hg1 ha1)
      go_roundw
      case rel => exact ⟨k + 1, A1, c1, by omega, by go_num, rfl, by rw [List.range_succ, List.map_append]; exact ho1, hba⟩
      case measure => simp [RowKit.intOf]; omega
    · obtain rfl : k = n := by omega
      have HB := hide hb
      clear hb
      go_wp2_with fail
      refine (stable_small A' k cap' _ _ hn1).mono ?_
      rintro e w' ⟨rfl, rfl⟩
      go_wp2_with fail
      go_ret
      exact ⟨A', cap', by rw [List.length_range, HN.out]; rfl, by rw [List.length_range, HN.out]; exact HO.out.sv, fun b hb => by have := HO.out.lt b hb; omega, chain H1.out HB.out⟩
end Go.Proofs.YtmfohnchnbgbaaaGreatDoor

/- What a change does to what holds. -/
namespace Go.Proofs.YtmfohnchnbgbaaaGreatDoor
open Go.RowKit

theorem elCov : ElT Tryz.prog 59 41 5 40 := ElT.mk' (z := .agg #[.int .i64 0, .int .i64 0, .int .i64 0, .int .i64 0, .int .i64 0]) Tryz.underlying59 (by kernel_rfl) rfl (by omega)
theorem elSlc : ElT Tryz.prog 71 121 9 88 := ElT.mk' (z := .agg #[.int .i64 0, .int .i64 0, .bool false, .int .i64 0, .int .i64 0, .int .i64 0, .int .i64 0, .slice none 0 0, .int .i64 0]) Tryz.underlying71 (by kernel_rfl) rfl (by omega)
theorem okCov (l : List Cv) : RowsOk 5 (l.map encCv) := by
  intro r hr
  obtain ⟨x, -, rfl⟩ := List.mem_map.1 hr
  refine ⟨rfl, fun u hu => ?_⟩
  simp [encCv] at hu
  rcases hu with rfl | rfl | rfl | rfl | rfl <;> rfl
def encSc (x : Sc) : List Value := [.int .i64 x.f, .int .i64 x.t, .bool x.on, .int .i64 x.rk, .int .i64 x.rv, .int .i64 x.ra, .int .i64 x.rz, .slice x.A x.l.length x.cap, .int .i64 x.y]
theorem okSlc (l : List Sc) : RowsOk 9 (l.map encSc) := by
  intro r hr
  obtain ⟨x, -, rfl⟩ := List.mem_map.1 hr
  refine ⟨rfl, fun u hu => ?_⟩
  simp [encSc] at hu
  rcases hu with rfl | rfl | rfl | rfl | rfl | rfl | rfl | rfl | rfl <;> rfl
/-- What holds, wherever its covers lie. -/
structure Sp where
  f : Int
  t : Int
  on : Bool
  rk : Int
  rv : Int
  ra : Int
  rz : Int
  l : List Cv
  y : Int
def Sc.v (x : Sc) : Sp := ⟨x.f, x.t, x.on, x.rk, x.rv, x.ra, x.rz, x.l, x.y⟩
def doesV (x : Sp) (c : Ch) : Sp :=
  if c.k = 1 then { x with rk := c.rk, rv := c.rv, ra := c.ra, rz := c.rz } else if c.k = 2 then { x with l := c.l } else if c.k = 3 then { x with on := false } else if c.k = 4 then { x with on := true } else x
/-- What the walk of the slices keeps: the box of those that are made, their covers, all apart. -/
structure CR (w0 wB : World) (G H : Nat) (ks out : List Sc) (A : Option Addr) (cap : Nat) (w : World) : Prop where
  bo : Blk w H 71 #[.slice A out.length cap]
  own : OwnS w wB.heap.size 121 9 A out.length cap (out.map encSc)
  sv : ∀ x ∈ ks, SV w 5 x.A x.l.length x.cap (x.l.map encCv)
  ap : ∀ x ∈ ks, ∀ b, blk x.A = some b → b ≠ G ∧ b ≠ H ∧ blk A ≠ some b
  be : Below w0.heap.size w0 w
  ge : w0.heap.size ≤ G
  lt : H < w.heap.size
  gh : G < H
  al : ∀ x ∈ ks, ∀ b, blk x.A = some b → b < w.heap.size
  hb : H < wB.heap.size
  sz : wB.heap.size ≤ w.heap.size
  fr : ∀ b, b < wB.heap.size → b ≠ G → b ≠ H → w.heap[b]? = wB.heap[b]?
section
variable {w0 wB w w' : World} {G H cap : Nat} {ks out : List Sc} {A : Option Addr}
theorem CR.below (h : CR w0 wB G H ks out A cap w) (hb : Below w.heap.size w w') : CR w0 wB G H ks out A cap w' :=
  ⟨h.bo.below hb h.bo.lt, h.own.below hb, fun x hx => (h.sv x hx).below hb, h.ap, chain h.be hb, h.ge, Nat.lt_of_lt_of_le h.lt hb.size, h.gh, fun x hx b hq => Nat.lt_of_lt_of_le (h.al x hx b hq) hb.size, h.hb, Nat.le_trans h.sz hb.size, fun b h1 h2 h3 => (hb.block b (Nat.lt_of_lt_of_le h1 h.sz)).trans (h.fr b h1 h2 h3)⟩
theorem SV.setFar {sz n cap : Nat} {A : Option Addr} {rows : List (List Value)} (h : SV w sz A n cap rows) {p : Addr} (hp : ∀ b, blk A = some b → b ≠ p.block) (u : Value) : SV (w.setCell p u) sz A n cap rows :=
  h.only (fun b hb => heap_setCell_other w p b u (hp b hb)) (by simp)
theorem CR.setG (h : CR w0 wB G H ks out A cap w) (i : Nat) (u : Value) : CR w0 wB G H ks out A cap (w.setCell ⟨G, i, none⟩ u) :=
  ⟨h.bo.far (by have := h.gh; simp; omega) u, h.own.far (fun k hk => by have := (h.own.lt k hk).1; have := h.gh; have := h.hb; simp; omega) u, fun x hx => (h.sv x hx).setFar (fun b hb => (h.ap x hx b hb).1) u, h.ap, h.be.setCell h.ge u, h.ge, by simpa using h.lt, h.gh, fun x hx b hq => by simpa using h.al x hx b hq, h.hb, by simpa using h.sz, fun b h1 h2 h3 => (heap_setCell_other w ⟨G, i, none⟩ b u h2).trans (h.fr b h1 h2 h3)⟩
theorem CR.alloc (h : CR w0 wB G H ks out A cap w) (o : Obj) : CR w0 wB G H ks out A cap (w.alloc o) := h.below ((Below.refl _ _).alloc (Nat.le_refl _) o)
theorem CR.keys (h : CR w0 wB G H ks out A cap w) {ks' : List Sc} (hk : ∀ x ∈ ks', ∃ y ∈ ks, x.A = y.A ∧ x.l = y.l ∧ x.cap = y.cap) : CR w0 wB G H ks' out A cap w :=
  ⟨h.bo, h.own, fun x hx => by
    obtain ⟨y, hy, e1, e2, e3⟩ := hk x hx
    rw [e1, e2, e3]; exact h.sv y hy, fun x hx b hb => by
    obtain ⟨y, hy, e1, e2, e3⟩ := hk x hx
    rw [e1] at hb; exact h.ap y hy b hb, h.be, h.ge, h.lt, h.gh, fun x hx b hb => by
    obtain ⟨y, hy, e1, e2, e3⟩ := hk x hx
    rw [e1] at hb; exact h.al y hy b hb, h.hb, h.sz, h.fr⟩
/-- One key more, whose covers the call has just made. -/
theorem CR.key (h : CR w0 wB G H ks out A cap w) {x : Sc} {e : TypeId} {W : World} (hz : H < W.heap.size) (hA : ∀ k, blk A = some k → k < W.heap.size) (ho : OwnS w W.heap.size e 5 x.A x.l.length x.cap (x.l.map encCv)) : CR w0 wB G H (x :: ks) out A cap w :=
  ⟨h.bo, h.own, fun y hy => by
    rcases List.mem_cons.1 hy with rfl | hy
    · exact ho.sv
    · exact h.sv y hy, fun y hy b hb => by
    rcases List.mem_cons.1 hy with rfl | hy
    · have := (ho.lt b hb).1
      have := h.gh
      refine ⟨by omega, by omega, fun hb2 => ?_⟩
      have := hA b hb2
      omega
    · exact h.ap y hy b hb, h.be, h.ge, h.lt, h.gh, fun y hy b hb => by
    rcases List.mem_cons.1 hy with rfl | hy
    · exact (ho.lt b hb).2
    · exact h.al y hy b hb, h.hb, h.sz, h.fr⟩
end
theorem sub_now {now x : Sc} {out : List Sc} (h1 : x.A = now.A) (h2 : x.l = now.l) (h3 : x.cap = now.cap) : ∀ y ∈ x :: out, ∃ z ∈ now :: out, y.A = z.A ∧ y.l = z.l ∧ y.cap = z.cap := by
  intro y hy
  rcases List.mem_cons.1 hy with rfl | hy
  · exact ⟨now, by simp, h1, h2, h3⟩
  · exact ⟨y, by simp [hy], rfl, rfl, rfl⟩
def DoesP (w0 wB : World) (G H : Nat) (now : Sc) (out : List Sc) (A : Option Addr) (cap : Nat) (c : Ch) (e : Ending) (w' : World) : Prop :=
  e = .returned (.tuple #[]) ∧ ∃ x : Sc, x.v = doesV now.v c ∧ Blk w' G 121 (scC x) ∧ CR w0 wB G H (x :: out) out A cap w'

set_option maxRecDepth 100000 in
set_option maxHeartbeats 2000000 in
theorem does_any (w0 wB : World) (G H : Nat) (now : Sc) (out : List Sc) (A : Option Addr) (cap : Nat) (c : Ch) (w : World) (hB : Blk w G 121 (scC now)) (hR : CR w0 wB G H (now :: out) out A cap w)
    (hs : SV w 5 c.A c.l.length c.cap (c.l.map encCv)) (hl : c.k = 2 → c.l.length ≤ 8) :
    Calls Tryz.prog 75 #[.pointer (some ⟨G, 0, none⟩), .agg #[.int .i64 c.b, .int .i64 c.d, .int .i64 c.k, .int .i64 c.rk, .int .i64 c.rv, .int .i64 c.ra, .int .i64 c.rz, .slice c.A c.l.length c.cap, .int .i64 c.way]] w (DoesP w0 wB G H now out A cap c) := by
  have HB := hide hB
  have HR := hide hR
  have HS := hide hs
  have HL := hide hl
  have hG := hB.lt
  have f0 := hB.frozen 0
  have f2 := hB.frozen 2
  have f3 := hB.frozen 3
  have f4 := hB.frozen 4
  have f5 := hB.frozen 5
  have f6 := hB.frozen 6
  have f7 := hB.frozen 7
  have g2 : w.cell? ⟨G, 2, none⟩ = some (.bool now.on) := hB.cell 2
  have g3 : w.cell? ⟨G, 3, none⟩ = some (.int .i64 now.rk) := hB.cell 3
  have g4 : w.cell? ⟨G, 4, none⟩ = some (.int .i64 now.rv) := hB.cell 4
  have g5 : w.cell? ⟨G, 5, none⟩ = some (.int .i64 now.ra) := hB.cell 5
  have g6 : w.cell? ⟨G, 6, none⟩ = some (.int .i64 now.rz) := hB.cell 6
  have g7 : w.cell? ⟨G, 7, none⟩ = some (.slice now.A now.l.length now.cap) := hB.cell 7
  clear hB hR hs hl
  have hb1 : Below w.heap.size w (w.alloc (.cells (chC c) 77)) := (Below.refl _ _).alloc (Nat.le_refl _) _
  have HB1 := hide (HB.out.below hb1 hG)
  have HR1 := hide (HR.out.below hb1)
  clear hb1
  rcases (show c.k = 1 ∨ c.k = 2 ∨ c.k = 3 ∨ c.k = 4 ∨ (c.k ≠ 1 ∧ c.k ≠ 2 ∧ c.k ≠ 3 ∧ c.k ≠ 4) by omega) with hk | hk | hk | hk | ⟨k1, k2, k3, k4⟩
  · have HK := hide hk
    have HD := hide (show doesV now.v c = { now.v with rk := c.rk, rv := c.rv, ra := c.ra, rz := c.rz } by rw [doesV, if_pos hk])
    have hq : (c.k == 1) = true := by simpa using hk
    clear hk
    go_enter Tryz.func75, Tryz.ntmps75
    go_wp2_with fail
    go_end0
    exact ⟨rfl, ⟨now.f, now.t, now.on, c.rk, c.rv, c.ra, c.rz, now.A, now.l, now.cap, now.y⟩, HD.out.symm, ((((HB.out.set_ 3 _).set_ 4 _).set_ 5 _).set_ 6 _).alloc _, (((((HR.out.setG 3 _).setG 4 _).setG 5 _).setG 6 _).alloc _).keys (sub_now rfl rfl rfl)⟩
  · have HD := hide (show doesV now.v c = { now.v with l := c.l } by rw [doesV, if_neg (by omega), if_pos hk])
    have hlen := HL.out hk
    have hq1 : (c.k == 1) = false := by simp; omega
    have hq : (c.k == 2) = true := by simpa using hk
    have hle := HS.out.le
    clear hk
    go_enter Tryz.func75, Tryz.ntmps75
    go_wp2_with (at_builtin
                 refine wpList_app rfl (.tmp 21) (.tmp 23) 59 rfl elCov (B := w.heap.size + 1) (rows := []) (news := c.l.map encCv) rfl ?_ rfl (by simp) ?_ (okCov c.l) ?_ ?_ ?_ ?_
                 · have := OwnS.lit (w.alloc (.cells (chC c) 77)) (B := w.heap.size + 1) (by simp) 41 (sz := 5) [] RowsOk.nil_ (by simp [maxLen]) #[] rfl
                   rwa [show (w.alloc (.cells (chC c) 77)).heap.size = w.heap.size + 1 by simp] at this
                 · exact (HS.out.sl.below (((Below.refl _ _).alloc (Nat.le_refl _) _).alloc (by simp) _)).more (by simp; omega)
                 · simp only [maxLen]; omega
                 · omega
                 · simp
                 intro A1 c1 wa ho1 hg1 ha1
                 have hba : Below (w.alloc (.cells (chC c) 77)).heap.size (w.alloc (.cells (chC c) 77)) wa := ((Below.refl _ _).alloc (Nat.le_refl _) _).grown hg1 (by simp) (fun k hk => by simp [blk] at hk; simp; omega)
                 simp only [Nat.zero_add, List.nil_append] at ho1
                 have HO1 := hide ho1
                 have HBA := hide hba
                 have hza := hba.size
                 simp at hza
                 have fa : wa.frozen? ⟨G, 7, none⟩ = false := by rw [hba.frozen (p := ⟨G, 7, none⟩) (by simp; omega)]; exact HB1.out.frozen 7
                 have ga : wa.cell? ⟨G, 7, none⟩ = some (.slice now.A now.l.length now.cap) := by rw [hba.cell (p := ⟨G, 7, none⟩) (by simp; omega)]; exact HB1.out.cell 7
                 clear hg1 ha1 hba ho1)
    go_end0
    have hr1 := HR1.out.below HBA.out
    refine ⟨rfl, ⟨now.f, now.t, now.on, now.rk, now.rv, now.ra, now.rz, A1, c.l, c1, now.y⟩, HD.out.symm, ?_, ?_⟩
    · exact (HB1.out.below HBA.out (by simp; omega)).set_ 7 _
    · refine CR.setG ?_ 7 _
      refine CR.keys (ks := (⟨now.f, now.t, now.on, now.rk, now.rv, now.ra, now.rz, A1, c.l, c1, now.y⟩ : Sc) :: now :: out) ?_ ?_
      · exact hr1.key (W := w.alloc (.cells (chC c) 77)) (by have := HR.out.lt; simp; omega) (fun k hk => by have := (HR.out.own.lt k hk).2; simp; omega) (by simpa using HO1.out)
      · intro x hx
        rcases List.mem_cons.1 hx with rfl | hx
        · exact ⟨_, by simp, rfl, rfl, rfl⟩
        · exact ⟨x, by simp [hx], rfl, rfl, rfl⟩
  · have HD := hide (show doesV now.v c = { now.v with on := false } by rw [doesV, if_neg (by omega), if_neg (by omega), if_pos hk])
    have hq1 : (c.k == 1) = false := by simp; omega
    have hq2 : (c.k == 2) = false := by simp; omega
    have hq : (c.k == 3) = true := by simpa using hk
    clear hk
    go_enter Tryz.func75, Tryz.ntmps75
    go_wp2_with fail
    go_end0
    exact ⟨rfl, ⟨now.f, now.t, false, now.rk, now.rv, now.ra, now.rz, now.A, now.l, now.cap, now.y⟩, HD.out.symm, (HB.out.set_ 2 _).alloc _, ((HR.out.setG 2 _).alloc _).keys (sub_now rfl rfl rfl)⟩
  · have HD := hide (show doesV now.v c = { now.v with on := true } by rw [doesV, if_neg (by omega), if_neg (by omega), if_neg (by omega), if_pos hk])
    have hq1 : (c.k == 1) = false := by simp; omega
    have hq2 : (c.k == 2) = false := by simp; omega
    have hq3 : (c.k == 3) = false := by simp; omega
    have hq : (c.k == 4) = true := by simpa using hk
    clear hk
    go_enter Tryz.func75, Tryz.ntmps75
    go_wp2_with fail
    go_end0
    exact ⟨rfl, ⟨now.f, now.t, true, now.rk, now.rv, now.ra, now.rz, now.A, now.l, now.cap, now.y⟩, HD.out.symm, (HB.out.set_ 2 _).alloc _, ((HR.out.setG 2 _).alloc _).keys (sub_now rfl rfl rfl)⟩
  · have HD := hide (show doesV now.v c = now.v by rw [doesV, if_neg k1, if_neg k2, if_neg k3, if_neg k4])
    have hq1 : (c.k == 1) = false := by simpa using k1
    have hq2 : (c.k == 2) = false := by simpa using k2
    have hq3 : (c.k == 3) = false := by simpa using k3
    have hq4 : (c.k == 4) = false := by simpa using k4
    clear k1 k2 k3 k4
    go_enter Tryz.func75, Tryz.ntmps75
    go_wp2_with fail
    go_end0
    exact ⟨rfl, now, HD.out.symm, HB.out.alloc _, HR.out.alloc _⟩
end Go.Proofs.YtmfohnchnbgbaaaGreatDoor

/- Where what holds ends: a slice more, or the last one longer. -/
namespace Go.Proofs.YtmfohnchnbgbaaaGreatDoor
open Go.RowKit

def endO (d : Int) (now : Sc) (out : List Sc) : List Sc :=
  if now.f = d then out else match out.getLast? with
    | some last => if holdsB last now = true then out.dropLast ++ [{ last with t := d }] else out ++ [{ now with t := d }]
    | none => out ++ [{ now with t := d }]
def EndP (w0 wB : World) (G H : Nat) (now : Sc) (out : List Sc) (d : Int) (e : Ending) (w' : World) : Prop :=
  e = .returned (.tuple #[]) ∧ ∃ (A : Option Addr) (cap : Nat), Blk w' G 121 (scC { now with f := d }) ∧ CR w0 wB G H ({ now with f := d } :: endO d now out) (endO d now out) A cap w'
theorem Sl.sc {w : World} {B k : Nat} {A : Option Addr} {M : List Sc} {c : Sc} (h : Sl w B 9 A (M.map encSc)) (hx : M[k]? = some c) :
    ∃ b off, A = some ⟨b, off, none⟩ ∧ b < B ∧ w.cell? ⟨b, off + k * 9, none⟩ = some (.int .i64 c.f) ∧ w.cell? ⟨b, off + k * 9 + 1, none⟩ = some (.int .i64 c.t) ∧ w.cell? ⟨b, off + k * 9 + 2, none⟩ = some (.bool c.on) ∧
      w.cell? ⟨b, off + k * 9 + 3, none⟩ = some (.int .i64 c.rk) ∧ w.cell? ⟨b, off + k * 9 + 4, none⟩ = some (.int .i64 c.rv) ∧ w.cell? ⟨b, off + k * 9 + 5, none⟩ = some (.int .i64 c.ra) ∧
      w.cell? ⟨b, off + k * 9 + 6, none⟩ = some (.int .i64 c.rz) ∧ w.cell? ⟨b, off + k * 9 + 7, none⟩ = some (.slice c.A c.l.length c.cap) ∧ w.cell? ⟨b, off + k * 9 + 8, none⟩ = some (.int .i64 c.y) := by
  obtain ⟨b, off, hA, hb, hc⟩ := h k (encSc c) (by simp [hx])
  exact ⟨b, off, hA, hb, by simpa using hc 0 _ rfl, hc 1 _ rfl, hc 2 _ rfl, hc 3 _ rfl, hc 4 _ rfl, hc 5 _ rfl, hc 6 _ rfl, hc 7 _ rfl, hc 8 _ rfl⟩

theorem nil_or_snoc {α : Type} (l : List α) : l = [] ∨ ∃ (r : List α) (x : α), l = r ++ [x] := by
  rcases List.eq_nil_or_concat l with h | ⟨r, x, h⟩
  · exact .inl h
  · exact .inr ⟨r, x, by rw [h, List.concat_eq_append]⟩
theorem endO_eq {d : Int} {now : Sc} {out : List Sc} (h : now.f = d) : endO d now out = out := by rw [endO, if_pos h]
theorem endO_nil {d : Int} {now : Sc} (h : ¬now.f = d) : endO d now [] = [] ++ [{ now with t := d }] := by rw [endO, if_neg h]; rfl
theorem endO_yes {d : Int} {now last : Sc} {r : List Sc} (h : ¬now.f = d) (hh : holdsB last now = true) : endO d now (r ++ [last]) = r ++ [{ last with t := d }] := by
  rw [endO, if_neg h]; simp [hh]
theorem endO_no {d : Int} {now last : Sc} {r : List Sc} (h : ¬now.f = d) (hh : holdsB last now = false) : endO d now (r ++ [last]) = (r ++ [last]) ++ [{ now with t := d }] := by
  rw [endO, if_neg h]; simp [hh]
theorem CR.push {w0 wB w wa : World} {G H cap c1 n : Nat} {ks out : List Sc} {A A1 : Option Addr} {s : Sc} (h : CR w0 wB G H ks out A cap w) (hg : w.grownBy wa (blk A)) (hn : n = out.length + 1) (ho : OwnS wa wB.heap.size 121 9 A1 n c1 (out.map encSc ++ [encSc s]))
    (ha : blk A1 = blk A ∨ blk A1 = some w.heap.size) : CR w0 wB G H ks (out ++ [s]) A1 c1 (wa.setCell ⟨H, 0, none⟩ (.slice A1 n c1)) := by
  subst hn
  have hlt := h.lt
  have hgh := h.gh
  have hhb := h.hb
  have hA : ∀ k, blk A = some k → wB.heap.size ≤ k := fun k hk => (h.own.lt k hk).1
  have hA1 : ∀ k, blk A1 = some k → wB.heap.size ≤ k := fun k hk => (ho.lt k hk).1
  have hsz := hg.size
  refine ⟨?_, ?_, fun x hx => ?_, fun x hx b hb => ?_, ?_, h.ge, by simp; omega, h.gh, fun x hx b hb => by have := h.al x hx b hb; simp; omega, h.hb, by have := h.sz; simp; omega, fun b h1 h2 h3 => ?_⟩
  · have h1 := h.bo.grown hg (fun e => by have := hA _ e.symm; omega)
    rw [List.length_append, List.length_singleton]
    exact h1.set_ 0 (.slice A1 (out.length + 1) c1)
  · rw [List.map_append, List.length_append, List.length_singleton]
    exact ho.far (fun k hk => by have := hA1 k hk; simp; omega) _
  · refine SV.setFar ((h.sv x hx).only (fun b hb => ?_) hsz) (fun b hb => (h.ap x hx b hb).2.1) _
    have hap := h.ap x hx b hb
    exact hg.block b (h.al x hx b hb) (fun e => hap.2.2 e.symm)
  · have hap := h.ap x hx b hb
    refine ⟨hap.1, hap.2.1, fun e => ?_⟩
    rcases ha with ha | ha
    · exact hap.2.2 (ha ▸ e)
    · have := h.al x hx b hb
      rw [ha] at e
      cases e
      omega
  · exact (h.be.grown hg (by have := h.ge; have := h.gh; have := h.hb; omega) (fun k hk => by have := hA k hk; have := h.ge; have := h.gh; have := h.hb; omega)).setCell (by have := h.ge; have := h.gh; have := h.hb; simp; omega) _
  · exact (heap_setCell_other wa ⟨H, 0, none⟩ b _ h3).trans ((hg.block b (by have := h.sz; omega) (fun e => by have := hA b e.symm; omega)).trans (h.fr b h1 h2 h3))
theorem CR.last {w0 wB w : World} {G H cap g : Nat} {ks r : List Sc} {last : Sc} {d : Int} (h : CR w0 wB G H ks (r ++ [last]) (some ⟨g, 0, none⟩) cap w) : CR w0 wB G H ks (r ++ [{ last with t := d }]) (some ⟨g, 0, none⟩) cap (w.setCell ⟨g, r.length * 9 + 1, none⟩ (.int .i64 d)) := by
  have hA := h.own.lt g rfl
  have hgh := h.gh
  have hhb := h.hb
  refine ⟨?_, ?_, fun x hx => (h.sv x hx).setFar (fun b hb => fun e => (h.ap x hx b hb).2.2 (by rw [e]; rfl)) _, h.ap, h.be.setCell (by have := h.ge; have := h.gh; have := h.hb; simp; omega) _, h.ge, by simpa using h.lt, h.gh, fun x hx b hb => by simpa using h.al x hx b hb, h.hb, by simpa using h.sz, fun b h1 h2 h3 => (heap_setCell_other w ⟨g, r.length * 9 + 1, none⟩ b _ (by simp; omega)).trans (h.fr b h1 h2 h3)⟩
  · have := h.bo.far (p := ⟨g, r.length * 9 + 1, none⟩) (by simp; omega) (.int .i64 d)
    simpa using this
  · have hrow : ((r ++ [last]).map encSc)[r.length]? = some (encSc last) := by simp
    have := h.own.set_ (i := r.length) (j := 1) (row := encSc last) hrow (by omega) (u := .int .i64 d) rfl
    rw [show ((r ++ [last]).map encSc).set r.length ((encSc last).set 1 (.int .i64 d)) = (r ++ [{ last with t := d }]).map encSc by
      rw [List.map_append, List.map_append, List.set_append_right _ _ (by simp)]
      simp [encSc]] at this
    simpa using this

set_option maxRecDepth 100000 in
set_option maxHeartbeats 4000000 in
theorem end_any (w0 wB : World) (G H : Nat) (now : Sc) (out : List Sc) (A : Option Addr) (cap : Nat) (d : Int) (w : World) (hB : Blk w G 121 (scC now)) (hR : CR w0 wB G H (now :: out) out A cap w) (hl : out.length ≤ 100000) :
    Calls Tryz.prog 72 #[.int .i64 d, .pointer (some ⟨G, 0, none⟩), .pointer (some ⟨H, 0, none⟩)] w (EndP w0 wB G H now out d) := by
  have HB := hide hB
  have HR := hide hR
  have hG := hR.lt
  have hGH := hR.gh
  have hHB := hR.hb
  have g0 : w.cell? ⟨G, 0, none⟩ = some (.int .i64 now.f) := hB.cell 0
  have g1 : w.cell? ⟨G, 1, none⟩ = some (.int .i64 now.t) := hB.cell 1
  have g2 : w.cell? ⟨G, 2, none⟩ = some (.bool now.on) := hB.cell 2
  have g3 : w.cell? ⟨G, 3, none⟩ = some (.int .i64 now.rk) := hB.cell 3
  have g4 : w.cell? ⟨G, 4, none⟩ = some (.int .i64 now.rv) := hB.cell 4
  have g5 : w.cell? ⟨G, 5, none⟩ = some (.int .i64 now.ra) := hB.cell 5
  have g6 : w.cell? ⟨G, 6, none⟩ = some (.int .i64 now.rz) := hB.cell 6
  have g7 : w.cell? ⟨G, 7, none⟩ = some (.slice now.A now.l.length now.cap) := hB.cell 7
  have g8 : w.cell? ⟨G, 8, none⟩ = some (.int .i64 now.y) := hB.cell 8
  have o0 : w.cell? ⟨H, 0, none⟩ = some (.slice A out.length cap) := hR.bo.cell 0
  have f0 := hB.frozen 0
  have fo := hR.bo.frozen 0
  have hG0 : G < w.heap.size := by omega
  clear hB hR
  by_cases hf : now.f = d
  · have hq : (now.f == d) = true := by simpa using hf
    have HE := hide (show endO d now out = out by rw [endO, if_pos hf])
    clear hf
    go_enter Tryz.func72, Tryz.ntmps72
    go_wp2_with fail
    go_end0
    refine ⟨rfl, A, cap, ?_, ?_⟩
    · exact (HB.out.set_ 0 _).alloc _
    · rw [HE.out]
      exact ((HR.out.setG 0 _).alloc _).keys (sub_now rfl rfl rfl)
  · have hq : (now.f == d) = false := by simpa using hf
    obtain ⟨w1, hw1⟩ : ∃ W, w.alloc (.cells (scC { now with t := d }) 121) = W := ⟨_, rfl⟩
    have hS : Blk w1 w.heap.size 121 (scC { now with t := d }) := by rw [← hw1]; exact Blk.new _ _ _
    have hb1 : Below w.heap.size w w1 := by rw [← hw1]; exact (Below.refl _ _).alloc (Nat.le_refl _) _
    have hlt1 := hS.lt
    have k0 : w1.cell? ⟨w.heap.size, 0, none⟩ = some (.int .i64 now.f) := hS.cell 0
    have k1 : w1.cell? ⟨w.heap.size, 1, none⟩ = some (.int .i64 d) := hS.cell 1
    have k2 : w1.cell? ⟨w.heap.size, 2, none⟩ = some (.bool now.on) := hS.cell 2
    have k3 : w1.cell? ⟨w.heap.size, 3, none⟩ = some (.int .i64 now.rk) := hS.cell 3
    have k4 : w1.cell? ⟨w.heap.size, 4, none⟩ = some (.int .i64 now.rv) := hS.cell 4
    have k5 : w1.cell? ⟨w.heap.size, 5, none⟩ = some (.int .i64 now.ra) := hS.cell 5
    have k6 : w1.cell? ⟨w.heap.size, 6, none⟩ = some (.int .i64 now.rz) := hS.cell 6
    have k7 : w1.cell? ⟨w.heap.size, 7, none⟩ = some (.slice now.A now.l.length now.cap) := hS.cell 7
    have k8 : w1.cell? ⟨w.heap.size, 8, none⟩ = some (.int .i64 now.y) := hS.cell 8
    have HW1 := hide hw1
    have HB1 := hide (HB.out.below hb1 hG0)
    have HR1 := hide (HR.out.below hb1)
    have p0 := kept hb1 o0
    clear hw1 hS hb1
    rcases nil_or_snoc out with rfl | ⟨r, last, rfl⟩
    · have HE := hide (endO_nil hf)
      have hn : ([] : List Sc).length = 0 := rfl
      rw [hn] at o0 p0
      clear hf hn
      go_enter Tryz.func72, Tryz.ntmps72
      go_wp2_with fail
      rw [show w.alloc (.cells #[.int .i64 now.f, .int .i64 d, .bool now.on, .int .i64 now.rk, .int .i64 now.rv, .int .i64 now.ra, .int .i64 now.rz, .slice now.A now.l.length now.cap, .int .i64 now.y] 121) = w1 from HW1.out]
      refine wp_region_class (fun W => Below w1.heap.size w1 W) (by kernel_rfl) (by kernel_rfl) (Below.refl _ _).drew ?_
      repeat (first
        | go_big_quiet_skip
        | (go_big_quiet_want
           first
             | (go_big_quiet_op
                go_big_quiet_on)
             | (refine quiet_yield (v := ?_) ?_ ?_
                rotate_left
                · intro W hW
                  have p0 := kept hW p0
                  clear hW
                  go_simp
                  try with_reducible rfl
                simp only [Act.put, List.setIfInBounds_toArray, List.set_cons_zero, List.set_cons_succ]
                go_big_quiet_on)))
      refine wpQuiet_nil ?_
      intro W hW
      have HR2 := hide (HR1.out.below hW)
      have HB2 := hide (HB1.out.below hW (by omega))
      have p1 := kept hW p0
      have k0 := kept hW k0
      have k1 := kept hW k1
      have k2 := kept hW k2
      have k3 := kept hW k3
      have k4 := kept hW k4
      have k5 := kept hW k5
      have k6 := kept hW k6
      have k7 := kept hW k7
      have k8 := kept hW k8
      have q0 := HB2.out.frozen 0
      have q1 := HR2.out.bo.frozen 0
      have lz := HR2.out.lt
      have lz2 := HR2.out.sz
      clear hW
      have HRA := hide (HR2.out.alloc (.cells (scC { now with t := d }) 121))
      have HGA := hide (HB2.out.alloc (.cells (scC { now with t := d }) 121))
      go_wp2_with (at_builtin
                   refine wpList_app rfl (.tmp 13) (.tmp 15) 71 rfl elSlc (B := wB.heap.size) (rows := ([] : List Sc).map encSc) (A2 := some ⟨_, 0, none⟩) (news := [encSc { now with t := d }]) rfl ?_ rfl rfl ?_ (okSlc [{ now with t := d }]) ?_ ?_ ?_ ?_
                   · exact HRA.out.own
                   · exact sl_of_blk (cs := scC { now with t := d }) (Blk.new _ _ _)
                   · simp only [maxLen]; omega
                   · omega
                   · simp; omega
                   intro A1 c1 wa ho1 hg1 ha1
                   have hne : ∀ k, blk A = some k → wB.heap.size ≤ k := fun k hk => (HRA.out.own.lt k hk).1
                   have hbo := HRA.out.bo.grown hg1 (fun e => by have := hne _ e.symm; omega)
                   have hbG := HGA.out.grown hg1 (fun e => by have := hne _ e.symm; omega)
                   have HP := hide (HRA.out.push (s := { now with t := d }) (n := 0 + 1) hg1 (by simp) ho1 ha1)
                   have t0 := hbo.frozen 0
                   have t1 := hbG.frozen 0
                   have t2 := hbo.cell 0
                   have t3 : wa.cell? ⟨G, 0, none⟩ = some (.int .i64 now.f) := hbG.cell 0
                   have t4 := hbG.lt
                   have t5 := hbo.lt
                   have HBG := hide hbG
                   simp at t2
                   clear hbo hbG hg1 ho1 ha1 hne)
      go_end0
      refine ⟨rfl, A1, c1, ?_, ?_⟩
      · exact (HBG.out.far (by simp; omega) _).set_ 0 _
      · rw [HE.out]
        refine (CR.setG HP.out 0 _).keys (fun x hx => ?_)
        rcases List.mem_cons.1 hx with rfl | hx
        · exact ⟨now, by simp, rfl, rfl, rfl⟩
        · rcases List.mem_append.1 hx with hx | hx
          · exact ⟨x, by simp only [List.mem_cons]; exact .inr hx, rfl, rfl, rfl⟩
          · rw [List.mem_singleton] at hx
            subst hx
            exact ⟨now, by simp, rfl, rfl, rfl⟩
    · have hlen : (r ++ [last]).length = r.length + 1 := by simp
      rw [hlen] at o0 p0 hl
      obtain ⟨gb, rfl⟩ : ∃ g, A = some ⟨g, 0, none⟩ := by
        rcases HR.out.own.addr with ⟨-, h0, -⟩ | ⟨g, hg, -⟩
        · simp at h0
        · exact ⟨g, hg⟩
      obtain ⟨b, off, hA, hbl, c0, c1, c2, c3, c4, c5, c6, c7, c8⟩ := HR1.out.own.sl.sc (k := r.length) (c := last) (by simp)
      obtain ⟨rfl, rfl⟩ : gb = b ∧ 0 = off := by simpa using hA
      simp only [Nat.zero_add] at c0 c1 c2 c3 c4 c5 c6 c7 c8
      obtain ⟨m, hm⟩ : ∃ m, r.length = m := ⟨_, rfl⟩
      have HM := hide hm
      rw [hm] at o0 p0 hl c0 c1 c2 c3 c4 c5 c6 c7 c8
      have hcap : m + 1 ≤ cap := by have := HR.out.own.cap_le.1; simp at this; omega
      have hm0 : (0 : Int) ≤ (m : Int) := by omega
      have hm1 : (m : Int) < ((m + 1 : Nat) : Int) := by omega
      have hm2 : (m : Int) < (m : Int) + 1 := by omega
      obtain ⟨B, hBB⟩ : ∃ B, holdsB last now = B := ⟨_, rfl⟩
      have HBB := hide hBB
      have HC := hide (show ∀ W, Below w1.heap.size w1 W → Calls Tryz.prog 73 #[.agg #[.int .i64 last.f, .int .i64 last.t, .bool last.on, .int .i64 last.rk, .int .i64 last.rv, .int .i64 last.ra, .int .i64 last.rz, .slice last.A last.l.length last.cap, .int .i64 last.y], .agg #[.int .i64 now.f, .int .i64 d, .bool now.on, .int .i64 now.rk, .int .i64 now.rv, .int .i64 now.ra, .int .i64 now.rz, .slice now.A now.l.length now.cap, .int .i64 now.y]] W fun e w' => e = .returned (.bool B) ∧ Below w1.heap.size w1 w' from fun W hW =>
        (holds_any last { now with t := d } W ((HR1.out.below hW).sv last (by simp)) ((HR1.out.below hW).sv now (by simp))).mono fun e w' h => ⟨by rw [h.1, ← hBB]; rfl, chain hW h.2⟩)
      have HF := hide hf
      clear hf hlen hm hBB hA
      go_enter Tryz.func72, Tryz.ntmps72
      go_wp2_with fail
      rw [show w.alloc (.cells #[.int .i64 now.f, .int .i64 d, .bool now.on, .int .i64 now.rk, .int .i64 now.rv, .int .i64 now.ra, .int .i64 now.rz, .slice now.A now.l.length now.cap, .int .i64 now.y] 121) = w1 from HW1.out]
      refine wp_region_class (fun W => Below w1.heap.size w1 W) (by kernel_rfl) (by kernel_rfl) (Below.refl _ _).drew ?_
      repeat (first
        | go_big_quiet_skip
        | (go_big_quiet_want
           first
             | (go_big_quiet_op
                go_big_quiet_on)
             | (refine quiet_call (v := .bool B) (f := 73) (args := #[.agg #[.int .i64 last.f, .int .i64 last.t, .bool last.on, .int .i64 last.rk, .int .i64 last.rv, .int .i64 last.ra, .int .i64 last.rz, .slice last.A last.l.length last.cap, .int .i64 last.y], .agg #[.int .i64 now.f, .int .i64 d, .bool now.on, .int .i64 now.rk, .int .i64 now.rv, .int .i64 now.ra, .int .i64 now.rz, .slice now.A now.l.length now.cap, .int .i64 now.y]]) ?_ ?_ ?_
                · intro W hW
                  have p0 := kept hW p0
                  have k0 := kept hW k0
                  have k1 := kept hW k1
                  have k2 := kept hW k2
                  have k3 := kept hW k3
                  have k4 := kept hW k4
                  have k5 := kept hW k5
                  have k6 := kept hW k6
                  have k7 := kept hW k7
                  have k8 := kept hW k8
                  have c0 := kept hW c0
                  have c1 := kept hW c1
                  have c2 := kept hW c2
                  have c3 := kept hW c3
                  have c4 := kept hW c4
                  have c5 := kept hW c5
                  have c6 := kept hW c6
                  have c7 := kept hW c7
                  have c8 := kept hW c8
                  clear hW
                  go_simp
                  done
                · intro W hW
                  exact HC.out W hW
                simp only [Act.put, List.setIfInBounds_toArray, List.set_cons_zero, List.set_cons_succ]
                go_big_quiet_on)
             | (refine quiet_yield (v := ?_) ?_ ?_
                rotate_left
                · intro W hW
                  have p0 := kept hW p0
                  have k0 := kept hW k0
                  have k1 := kept hW k1
                  have k2 := kept hW k2
                  have k3 := kept hW k3
                  have k4 := kept hW k4
                  have k5 := kept hW k5
                  have k6 := kept hW k6
                  have k7 := kept hW k7
                  have k8 := kept hW k8
                  have c0 := kept hW c0
                  have c1 := kept hW c1
                  have c2 := kept hW c2
                  have c3 := kept hW c3
                  have c4 := kept hW c4
                  have c5 := kept hW c5
                  have c6 := kept hW c6
                  have c7 := kept hW c7
                  have c8 := kept hW c8
                  clear hW
                  go_simp
                  try with_reducible rfl
                simp only [Act.put, List.setIfInBounds_toArray, List.set_cons_zero, List.set_cons_succ]
                go_big_quiet_on)))
      refine wpQuiet_nil ?_
      intro W hW
      cases B
      · have HE := hide (endO_no (r := r) HF.out HBB.out)
        have HR2 := hide (HR1.out.below hW)
        have HB2 := hide (HB1.out.below hW (by omega))
        have p1 := kept hW p0
        have k0 := kept hW k0
        have k1 := kept hW k1
        have k2 := kept hW k2
        have k3 := kept hW k3
        have k4 := kept hW k4
        have k5 := kept hW k5
        have k6 := kept hW k6
        have k7 := kept hW k7
        have k8 := kept hW k8
        have q0 := HB2.out.frozen 0
        have q1 := HR2.out.bo.frozen 0
        have lz := HR2.out.lt
        have lz2 := HR2.out.sz
        clear hW
        have HRA := hide (HR2.out.alloc (.cells (scC { now with t := d }) 121))
        have HGA := hide (HB2.out.alloc (.cells (scC { now with t := d }) 121))
        go_wp2_with (at_builtin
                     refine wpList_app rfl (.tmp 13) (.tmp 15) 71 rfl elSlc (B := wB.heap.size) (rows := (r ++ [last]).map encSc) (A2 := some ⟨_, 0, none⟩) (news := [encSc { now with t := d }]) rfl ?_ rfl rfl ?_ (okSlc [{ now with t := d }]) ?_ ?_ ?_ ?_
                     · have hx := HRA.out.own; rw [show (r ++ [last]).length = m + 1 by simp [HM.out]] at hx; exact hx
                     · exact sl_of_blk (cs := scC { now with t := d }) (Blk.new _ _ _)
                     · simp only [maxLen]; omega
                     · omega
                     · simp; omega
                     intro A1 c1 wa ho1 hg1 ha1
                     have hne : ∀ k, blk (some (⟨gb, 0, none⟩ : Addr)) = some k → wB.heap.size ≤ k := fun k hk => (HRA.out.own.lt k hk).1
                     have hbo := HRA.out.bo.grown hg1 (fun e => by have := hne _ e.symm; omega)
                     have hbG := HGA.out.grown hg1 (fun e => by have := hne _ e.symm; omega)
                     have HP := hide (HRA.out.push (s := { now with t := d }) (n := m + 1 + 1) hg1 (by have := HM.out; simp; omega) ho1 ha1)
                     have t0 := hbo.frozen 0
                     have t1 := hbG.frozen 0
                     have t2 := hbo.cell 0
                     have t3 : wa.cell? ⟨G, 0, none⟩ = some (.int .i64 now.f) := hbG.cell 0
                     have t4 := hbG.lt
                     have t5 := hbo.lt
                     have HBG := hide hbG
                     simp at t2
                     clear hbo hbG hg1 ho1 ha1 hne)
        go_end0
        refine ⟨rfl, A1, c1, ?_, ?_⟩
        · exact (HBG.out.far (by simp; omega) _).set_ 0 _
        · rw [HE.out]
          refine (CR.setG HP.out 0 _).keys (fun x hx => ?_)
          rcases List.mem_cons.1 hx with rfl | hx
          · exact ⟨now, by simp, rfl, rfl, rfl⟩
          · rcases List.mem_append.1 hx with hx | hx
            · exact ⟨x, by simp only [List.mem_cons]; exact .inr hx, rfl, rfl, rfl⟩
            · rw [List.mem_singleton] at hx
              subst hx
              exact ⟨now, by simp, rfl, rfl, rfl⟩
      · have HE := hide (endO_yes (r := r) HF.out HBB.out)
        have HR2 := hide (HR1.out.below hW)
        have HB2 := hide (HB1.out.below hW (by omega))
        have p1 := kept hW p0
        have q0 := HB2.out.frozen 0
        have e1 := kept hW c1
        have lz : gb < W.heap.size := by have := hW.size; omega
        have q1 : W.frozen? ⟨gb, m * 9 + 1, none⟩ = false := HR2.out.own.frozen _
        have q2 : W.cell? ⟨G, 0, none⟩ = some (.int .i64 now.f) := HB2.out.cell 0
        have hgb := (HR2.out.own.lt gb rfl).1
        have hne1 : ¬ gb = G := by omega
        have hne2 : ¬ G = gb := by omega
        clear c0 c1 c2 c3 c4 c5 c6 c7 c8 k0 k1 k2 k3 k4 k5 k6 k7 k8 hW
        go_wp2_with fail
        go_end0
        refine ⟨rfl, some ⟨gb, 0, none⟩, cap, ?_, ?_⟩
        · exact (HB2.out.far (by simp; omega) _).set_ 0 _
        · rw [HE.out]
          have hl := HR2.out.last (d := d)
          rw [HM.out] at hl
          refine (hl.setG 0 _).keys (fun x hx => ?_)
          rcases List.mem_cons.1 hx with rfl | hx
          · exact ⟨now, by simp, rfl, rfl, rfl⟩
          · rcases List.mem_append.1 hx with hx | hx
            · exact ⟨x, by simp only [List.mem_cons, List.mem_append]; exact .inr (.inl hx), rfl, rfl, rfl⟩
            · rw [List.mem_singleton] at hx
              subst hx
              exact ⟨last, by simp, rfl, rfl, rfl⟩
end Go.Proofs.YtmfohnchnbgbaaaGreatDoor
