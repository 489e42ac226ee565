/- Part 12 of the proof. -/
import Derived.Laws.CopyOwn
import Derived.Deep.OwnRows
import Derived.Test.YtmfohnchnbgbaaaGreatDoorYpM11
/- A triangle that the program makes: its box, its rows, all the call's own; what a store, one row more, a row filled leave. -/
namespace Go.Proofs.YtmfohnchnbgbaaaGreatDoor
open Go.RowKit

def cellsI (l : List Int) : Array Value := (l.map (Value.int .i64)).toArray
/-- A row whose block is known whole. -/
def RowB (w : World) (r : Rw) : Prop := ∃ b, r.A = some ⟨b, 0, none⟩ ∧ r.cap = r.l.length ∧ r.l.length ≤ 1000 ∧ Blk w b 3 (cellsI r.l)
theorem RowB.sv {w : World} {r : Rw} (h : RowB w r) : SV w 1 r.A r.l.length r.cap (r.l.map encI) := by
  obtain ⟨b, hA, hc, hm, hb⟩ := h
  refine ⟨fun i row hr => ⟨b, 0, hA, hb.lt, fun j u hu => ?_⟩, by simp, by omega, by simp only [maxLen]; omega, by simp [hA]⟩
  rw [List.getElem?_map] at hr
  obtain ⟨x, hx, rfl⟩ := Option.map_eq_some_iff.1 hr
  have : j = 0 := by have := lt_of_get hu; simp [encI] at this; exact this
  subst this
  simp [encI] at hu; subst hu
  rw [hb.cell]; simp [cellsI, hx]
theorem RowB.below {w w' : World} {r : Rw} (h : RowB w r) (hb : Below w.heap.size w w') : RowB w' r := by
  obtain ⟨b, hA, hc, hm, hk⟩ := h
  exact ⟨b, hA, hc, hm, hk.below hb hk.lt⟩
theorem RowB.grown {w w' : World} {row : Option Nat} {r : Rw} (h : RowB w r) (hg : w.grownBy w' row) (hne : blk r.A ≠ row) : RowB w' r := by
  obtain ⟨b, hA, hc, hm, hk⟩ := h
  exact ⟨b, hA, hc, hm, hk.grown hg (by rw [hA] at hne; exact hne)⟩
theorem RowB.lt {w : World} {r : Rw} (h : RowB w r) {kk : Nat} (hk : blk r.A = some kk) : kk < w.heap.size := by
  obtain ⟨b, hA, hc, hm, hb⟩ := h
  rw [hA] at hk; cases hk
  exact hb.lt
theorem set_same {α : Type} {l : List α} {i : Nat} {x : α} (h : l[i]? = some x) : l.set i x = l := by
  apply List.ext_getElem?
  intro j
  rw [List.getElem?_set]
  split
  · rename_i e; subst e
    rw [if_pos (lt_of_get h), h]
  · rfl
theorem MV.far {wx : World} {A : Option Addr} {n cap : Nat} {M : List Rw} (h : MV wx A n cap M) {p : Addr} (hA : ∀ kk, blk A = some kk → kk ≠ p.block) (hr : ∀ r ∈ M, ∀ kk, blk r.A = some kk → kk ≠ p.block) (u : Value) : MV (wx.setCell p u) A n cap M :=
  ⟨h.sv.far hA u, fun r hm => (h.rows r hm).far (hr r hm) u⟩

structure TS (w : World) (G : Nat) (f : Int) (R : List Rw) (E : List (List Value)) (A : Option Addr) (cap : Nat) (wx : World) : Prop where
  o : Blk wx G 33 (triC f A (R.length + E.length) cap)
  own : OwnS wx w.heap.size 36 1 A (R.length + E.length) cap (R.map encRw ++ E)
  rows : ∀ r ∈ R, RowB wx r
  ap : ∀ r ∈ R, ∀ kk, blk r.A = some kk → w.heap.size ≤ kk ∧ kk ≠ G ∧ blk A ≠ some kk
  dist : ∀ (i j : Nat) (r s : Rw), R[i]? = some r → R[j]? = some s → blk r.A = blk s.A → i = j
  ne : blk A ≠ some G
  base : w.heap.size ≤ G
  bel : Below w.heap.size w wx
section
variable {w wx wy : World} {G : Nat} {f : Int} {R : List Rw} {E : List (List Value)} {A : Option Addr} {cap : Nat}
theorem TS.below (h : TS w G f R E A cap wx) (hb : Below wx.heap.size wx wy) : TS w G f R E A cap wy :=
  ⟨h.o.below hb h.o.lt, h.own.below hb, fun r hr => (h.rows r hr).below hb, h.ap, h.dist, h.ne, h.base, chain h.bel hb⟩
theorem TS.mv (h : TS w G f R [] A cap wx) : MV wx A R.length cap R := ⟨by have := h.own.sv; simpa using this, fun r hr => (h.rows r hr).sv⟩
theorem TS.drew (h : TS w G f R E A cap wx) : TS w G f R E A cap wx.drew := h.below (Below.refl _ _).drew
theorem TS.own0 (h : TS w G f R [] A cap wx) : OwnS wx w.heap.size 36 1 A R.length cap (R.map encRw) := by have := h.own; simpa using this
theorem TS.o0 (h : TS w G f R [] A cap wx) : Blk wx G 33 (triC f A R.length cap) := by have := h.o; simpa using this
/-- The triangle behind stores into the boxes that were there before. -/
theorem TS.mvfar (h : TS w G f R [] A cap wx) {p q : Addr} (hp : p.block < w.heap.size) (hq : q.block < w.heap.size) (u v : Value) : MV ((wx.setCell p u).setCell q v) A R.length cap R := by
  have hA : ∀ kk, blk A = some kk → w.heap.size ≤ kk := fun kk hk => (h.own.lt kk hk).1
  have hR : ∀ r ∈ R, ∀ kk, blk r.A = some kk → w.heap.size ≤ kk := fun r hr kk hk => (h.ap r hr kk hk).1
  exact (h.mv.far (fun kk hk => by have := hA kk hk; omega) (fun r hr kk hk => by have := hR r hr kk hk; omega) u).far (fun kk hk => by have := hA kk hk; omega) (fun r hr kk hk => by have := hR r hr kk hk; omega) v
/-- A store into a row's cell. -/
theorem TS.put (h : TS w G f R E A cap wx) {i k b : Nat} {r : Rw} (hr : R[i]? = some r) (hb : r.A = some ⟨b, 0, none⟩) (u : Int) :
    TS w G f (R.set i ⟨r.A, r.l.set k u, r.cap⟩) E A cap (wx.setCell ⟨b, k, none⟩ (.int .i64 u)) := by
  have hm := List.mem_of_getElem? hr
  have hi := lt_of_get hr
  obtain ⟨h0, hG, hA⟩ := h.ap r hm b (by rw [hb]; rfl)
  have hmap : (R.set i ⟨r.A, r.l.set k u, r.cap⟩).map encRw = R.map encRw := by
    rw [List.map_set]
    exact set_same (by rw [List.getElem?_map, hr]; simp [encRw])
  have hget : ∀ j s, (R.set i ⟨r.A, r.l.set k u, r.cap⟩)[j]? = some s → ∃ s', R[j]? = some s' ∧ s.A = s'.A ∧ ((j = i ∧ s = ⟨r.A, r.l.set k u, r.cap⟩) ∨ (j ≠ i ∧ s = s')) := by
    intro j s hs
    rw [List.getElem?_set] at hs
    by_cases e : i = j
    · subst e
      rw [if_pos rfl, if_pos hi] at hs; cases hs
      exact ⟨r, hr, rfl, .inl ⟨rfl, rfl⟩⟩
    · rw [if_neg e] at hs
      exact ⟨s, hs, rfl, .inr ⟨fun he => e he.symm, rfl⟩⟩
  refine ⟨?_, ?_, fun s hs => ?_, fun s hs kk hk => ?_, fun p q s t hs ht he => ?_, h.ne, h.base, h.bel.setCell (p := ⟨b, k, none⟩) h0 _⟩
  · rw [List.length_set]; exact h.o.far (fun e => hG e.symm) _
  · rw [hmap, List.length_set]
    exact h.own.far (fun kk hk e => by rw [hk] at hA; exact hA (by rw [e])) _
  · obtain ⟨j, hj⟩ := List.mem_iff_getElem?.1 hs
    obtain ⟨s', hs', eA, h2⟩ := hget j s hj
    rcases h2 with ⟨rfl, rfl⟩ | ⟨hne, rfl⟩
    · obtain ⟨b', hA', hc, hm', hk⟩ := h.rows r hm
      rw [hb] at hA'; cases hA'
      refine ⟨b, hb, by simpa using hc, by simpa using hm', ?_⟩
      have := hk.set_ k (.int .i64 u)
      simpa [cellsI, List.map_set] using this
    · refine (h.rows s (List.mem_of_getElem? hs')).grown (grown_set _ _ _) (fun e => hne (h.dist j i s r hs' hr ?_))
      rw [e, hb]; rfl
  · obtain ⟨j, hj⟩ := List.mem_iff_getElem?.1 hs
    obtain ⟨s', hs', eA, _⟩ := hget j s hj
    exact h.ap s' (List.mem_of_getElem? hs') kk (by rw [← eA]; exact hk)
  · obtain ⟨s', hs', eA, _⟩ := hget p s hs
    obtain ⟨t', ht', eB, _⟩ := hget q t ht
    exact h.dist p q s' t' hs' ht' (by rw [← eA, ← eB]; exact he)
theorem get_app {α : Type} {l : List α} {x y : α} {i : Nat} (h : (l ++ [x])[i]? = some y) : l[i]? = some y ∨ (i = l.length ∧ y = x) := by
  by_cases hi : i < l.length
  · rw [List.getElem?_append_left hi] at h; exact .inl h
  · rw [List.getElem?_append_right (by omega)] at h
    have := lt_of_get h
    simp at this
    right
    have e : i = l.length := by omega
    subst e
    simp at h
    exact ⟨rfl, h.symm⟩
/-- One row more, appended. -/
theorem TS.add (h : TS w G f R [] A cap wx) {wo : World} (hwo : Below wx.heap.size wx wo) {r : Rw} (hr : RowB wo r) (hf : ∀ kk, blk r.A = some kk → wx.heap.size ≤ kk) {A2 : Option Addr} {c2 : Nat} {wb : World}
    (ho : OwnS wb w.heap.size 36 1 A2 (R.length + 1) c2 (R.map encRw ++ [r].map encRw)) (hg : wo.grownBy wb (blk A)) (hat : blk A2 = blk A ∨ blk A2 = some wo.heap.size) :
    TS w G f (R ++ [r]) [] A2 c2 (wb.setCell ⟨G, 1, none⟩ (.slice A2 (R.length + 1) c2)) := by
  have h1 := h.below hwo
  have hG : some G ≠ blk A := fun he => h1.ne he.symm
  have hGo : G < wo.heap.size := h1.o.lt
  have hGx : G < wx.heap.size := h.o.lt
  have hlt : ∀ s ∈ R, ∀ kk, blk s.A = some kk → kk < wx.heap.size := fun s hs kk hk => (h.rows s hs).lt hk
  have hAx : ∀ kk, blk A = some kk → kk < wx.heap.size := fun kk hk => (h.own.lt kk hk).2
  have hrw : ∀ kk, blk r.A = some kk → kk < wo.heap.size := fun kk hk => hr.lt hk
  have hbx := h.bel.size
  have hne2 : blk A2 ≠ some G := by
    rcases hat with e | e
    · rw [e]; exact h1.ne
    · rw [e]; intro e2; cases e2; omega
  refine ⟨?_, ?_, fun x hx => ?_, fun x hx kk hk => ?_, fun i j x y hx hy he => ?_, hne2, h.base, (h1.bel.grown hg h1.bel.size (fun j hj => (h1.own.lt j hj).1)).setCell (p := ⟨G, 1, none⟩) h.base _⟩
  · have := (h1.o.grown hg hG).set_ 1 (.slice A2 (R.length + 1) c2)
    simpa [triC] using this
  · have := ho.far (p := ⟨G, 1, none⟩) (fun k hk e => hne2 (by rw [hk]; exact congrArg some e)) (.slice A2 (R.length + 1) c2)
    simpa using this
  · rcases List.mem_append.1 hx with hx | hx
    · refine ((h1.rows x hx).grown hg (fun e => ?_)).grown (grown_set _ _ _) (fun e => ?_)
      · obtain ⟨b, hb, _⟩ := h1.rows x hx
        exact (h1.ap x hx b (by rw [hb]; rfl)).2.2 (by rw [← e, hb]; rfl)
      · exact (h1.ap x hx G e).2.1 rfl
    · simp at hx; subst hx
      refine (hr.grown hg (fun e => ?_)).grown (grown_set _ _ _) (fun e => ?_)
      · obtain ⟨b, hb, _⟩ := hr
        have h2 := hf b (by rw [hb]; rfl)
        have := hAx b (by rw [← e, hb]; rfl)
        omega
      · have := hf G e; omega
  · rcases List.mem_append.1 hx with hx | hx
    · obtain ⟨a1, a2, a3⟩ := h.ap x hx kk hk
      refine ⟨a1, a2, ?_⟩
      rcases hat with e | e
      · rw [e]; exact a3
      · rw [e]; intro e2; cases e2
        have := hlt x hx _ hk
        have := hwo.size
        omega
    · simp at hx; subst hx
      have h2 := hf kk hk
      have h3 := hrw kk hk
      refine ⟨by omega, by omega, ?_⟩
      rcases hat with e | e
      · rw [e]; intro e2; have := hAx kk e2; omega
      · rw [e]; intro e2; cases e2; omega
  · rcases get_app hx with gx | ⟨rfl, rfl⟩
    · rcases get_app hy with gy | ⟨rfl, rfl⟩
      · exact h.dist i j x y gx gy he
      · obtain ⟨b, hb, _⟩ := h.rows x (List.mem_of_getElem? gx)
        have h2 := hlt x (List.mem_of_getElem? gx) b (by rw [hb]; rfl)
        have := hf b (by rw [← he, hb]; rfl)
        omega
    · rcases get_app hy with gy | ⟨rfl, rfl⟩
      · obtain ⟨b, hb, _⟩ := h.rows y (List.mem_of_getElem? gy)
        have h2 := hlt y (List.mem_of_getElem? gy) b (by rw [hb]; rfl)
        have := hf b (by rw [he, hb]; rfl)
        omega
      · rfl
end
end Go.Proofs.YtmfohnchnbgbaaaGreatDoor

/- The triangle of rows: what is amiss, the years, the cells; plain facts. -/
namespace Go.Proofs.YtmfohnchnbgbaaaGreatDoor

def fromL (l : List R3) : Int := l.foldl (fun a x => min a (yrV x.a)) 2401
def toL (l : List R3) : Int := l.foldl (fun a x => max a (yrV x.b)) 0
theorem fromL_take {l : List R3} {k : Nat} {x : R3} (h : l[k]? = some x) : fromL (l.take (k + 1)) = min (fromL (l.take k)) (yrV x.a) := by rw [take_of h]; simp [fromL]
theorem toL_take {l : List R3} {k : Nat} {x : R3} (h : l[k]? = some x) : toL (l.take (k + 1)) = max (toL (l.take k)) (yrV x.b) := by rw [take_of h]; simp [toL]
def chkL : List R3 → Int
  | [] => 0
  | x :: l => if chk x = 0 then chkL l else chk x
theorem chkL_ok : ∀ {l : List R3}, chkL l = 0 ↔ ∀ x ∈ l, chk x = 0
  | [] => by simp [chkL]
  | x :: l => by
    rw [chkL]
    by_cases h : chk x = 0
    · rw [if_pos h, chkL_ok]; simp [h]
    · rw [if_neg h]; simp [h]
theorem chkL_at : ∀ {l : List R3} {k : Nat} {x : R3}, l[k]? = some x → chkL (l.take k) = 0 → chk x ≠ 0 → chkL l = chk x
  | [], k, x, h, _, _ => by simp at h
  | y :: l, 0, x, h, _, hx => by simp at h; subst h; rw [chkL, if_neg hx]
  | y :: l, k + 1, x, h, hk, hx => by
    rw [List.take_succ_cons, chkL] at hk
    by_cases hy : chk y = 0
    · rw [if_pos hy] at hk
      rw [chkL, if_pos hy]
      exact chkL_at (by simpa using h) hk hx
    · rw [if_neg hy] at hk; exact absurd hk hy
theorem chkL_take {l : List R3} {k : Nat} {x : R3} (h : l[k]? = some x) (hk : chkL (l.take k) = 0) (hx : chk x = 0) : chkL (l.take (k + 1)) = 0 := by
  rw [chkL_ok] at hk ⊢
  rw [take_of h]
  intro y hy
  rcases List.mem_append.1 hy with hy | hy
  · exact hk y hy
  · simp at hy; subst hy; exact hx
theorem chk_ok {x : R3} (h : chk x = 0) : 1 ≤ x.a ∧ x.a ≤ x.b ∧ x.b ≤ 292194 ∧ 0 ≤ x.m ∧ x.m ≤ 1000000000000000 := by
  unfold chk at h
  split at h
  · omega
  · split at h
    · omega
    · omega
theorem yr_bd {n : Int} (h1 : 1 ≤ n) (h2 : n ≤ 292194) : 1601 ≤ yrV n ∧ yrV n ≤ 2400 := by
  rw [yrV, if_pos ⟨h1, h2⟩]
  have := yearI_ok n h1 h2
  omega
theorem yr_mono {a b : Int} (h1 : 1 ≤ a) (h : a ≤ b) (h2 : b ≤ 292194) : yrV a ≤ yrV b := by
  rw [yrV, yrV, if_pos ⟨h1, by omega⟩, if_pos ⟨by omega, h2⟩]
  obtain ⟨a1, a2, a3, a4⟩ := yearI_ok a h1 (by omega)
  obtain ⟨b1, b2, b3, b4⟩ := yearI_ok b (by omega) h2
  rcases Int.lt_or_le (yearI b) (yearI a) with hlt | hle
  · exfalso
    rcases (show yearI b + 1 = yearI a ∨ yearI b + 1 < yearI a by omega) with e | e
    · rw [e] at b4; omega
    · have := ahead_lt (y := yearI b + 1) (z := yearI a) (by omega) e
      omega
  · exact hle
theorem chk_yr {x : R3} (h : chk x = 0) : 1601 ≤ yrV x.a ∧ yrV x.a ≤ yrV x.b ∧ yrV x.b ≤ 2400 := by
  obtain ⟨h1, h2, h3, _⟩ := chk_ok h
  exact ⟨(yr_bd h1 (by omega)).1, yr_mono h1 h2 h3, (yr_bd (by omega) h3).2⟩
theorem fold_min_le {l : List R3} : ∀ (a : Int), l.foldl (fun a x => min a (yrV x.a)) a ≤ a ∧ ∀ x ∈ l, l.foldl (fun a x => min a (yrV x.a)) a ≤ yrV x.a := by
  induction l with
  | nil => intro a; simp
  | cons y l ih =>
    intro a
    simp only [List.foldl_cons]
    obtain ⟨h1, h2⟩ := ih (min a (yrV y.a))
    refine ⟨by omega, fun x hx => ?_⟩
    rcases List.mem_cons.1 hx with rfl | hx
    · omega
    · exact h2 x hx
theorem fold_max_le {l : List R3} : ∀ (a : Int), a ≤ l.foldl (fun a x => max a (yrV x.b)) a ∧ ∀ x ∈ l, yrV x.b ≤ l.foldl (fun a x => max a (yrV x.b)) a := by
  induction l with
  | nil => intro a; simp
  | cons y l ih =>
    intro a
    simp only [List.foldl_cons]
    obtain ⟨h1, h2⟩ := ih (max a (yrV y.b))
    refine ⟨by omega, fun x hx => ?_⟩
    rcases List.mem_cons.1 hx with rfl | hx
    · omega
    · exact h2 x hx
theorem from_le {l : List R3} {x : R3} (h : x ∈ l) : fromL l ≤ yrV x.a := (fold_min_le 2401).2 x h
theorem le_to {l : List R3} {x : R3} (h : x ∈ l) : yrV x.b ≤ toL l := (fold_max_le 0).2 x h
theorem fold_min_bd {l : List R3} (h : ∀ x ∈ l, chk x = 0) : ∀ (a : Int), 1601 ≤ a → 1601 ≤ l.foldl (fun a x => min a (yrV x.a)) a := by
  induction l with
  | nil => intro a ha; simpa using ha
  | cons y l ih =>
    intro a ha
    simp only [List.foldl_cons]
    have := chk_yr (h y (by simp))
    exact ih (fun x hx => h x (by simp [hx])) _ (by omega)
theorem fold_max_bd {l : List R3} (h : ∀ x ∈ l, chk x = 0) : ∀ (a : Int), a ≤ 2400 → l.foldl (fun a x => max a (yrV x.b)) a ≤ 2400 := by
  induction l with
  | nil => intro a ha; simpa using ha
  | cons y l ih =>
    intro a ha
    simp only [List.foldl_cons]
    have := chk_yr (h y (by simp))
    exact ih (fun x hx => h x (by simp [hx])) _ (by omega)
theorem from_bd {l : List R3} (h : chkL l = 0) : 1601 ≤ fromL l ∧ fromL l ≤ 2401 := ⟨fold_min_bd (chkL_ok.1 h) _ (by omega), (fold_min_le 2401).1⟩
theorem to_bd {l : List R3} (h : chkL l = 0) : 0 ≤ toL l ∧ toL l ≤ 2400 := ⟨(fold_max_le 0).1, fold_max_bd (chkL_ok.1 h) _ (by omega)⟩
theorem from_to {l : List R3} (h : chkL l = 0) (hn : l ≠ []) : fromL l ≤ toL l := by
  obtain ⟨x, t, rfl⟩ := List.exists_cons_of_ne_nil hn
  have h1 := from_le (l := x :: t) (x := x) (by simp)
  have h2 := le_to (l := x :: t) (x := x) (by simp)
  have := chk_yr (chkL_ok.1 h x (by simp))
  omega

/-- A triangle of zeros. -/
def zerosT (n : Nat) : List (List Int) := (List.range n).map fun i => List.replicate (n - i) 0
theorem zerosT_len (n : Nat) : (zerosT n).length = n := by simp [zerosT]
theorem zerosT_get {n k : Nat} (h : k < n) : (zerosT n)[k]? = some (List.replicate (n - k) 0) := by simp [zerosT, h]
/-- One amount more. -/
def idxO (f : Int) (x : R3) : Nat := (yrV x.a - f).toNat
def devO (x : R3) : Int := yrV x.b - yrV x.a
def rowO (f : Int) (c : List (List Int)) (x : R3) : List Int := moreL (devO x) x.m (c.getD (idxO f x) [])
def putAll (f : Int) : List (List Int) → List R3 → Option (List (List Int))
  | c, [] => some c
  | c, x :: l => if capB (rowO f c x) = true then putAll f (c.set (idxO f x) (rowO f c x)) l else none
theorem putAll_snoc {f : Int} {x : R3} : ∀ {l : List R3} {c : List (List Int)}, putAll f c (l ++ [x]) = (putAll f c l).bind fun c' => if capB (rowO f c' x) = true then some (c'.set (idxO f x) (rowO f c' x)) else none
  | [], c => by simp [putAll]
  | y :: l, c => by
    rw [List.cons_append, putAll, putAll]
    split
    · exact putAll_snoc
    · rfl
theorem putAll_none {f : Int} : ∀ {l l' : List R3} {c : List (List Int)}, putAll f c l = none → putAll f c (l ++ l') = none
  | [], l', c, h => by simp [putAll] at h
  | y :: l, l', c, h => by
    rw [List.cons_append, putAll]
    rw [putAll] at h
    split
    · rename_i e; rw [if_pos e] at h; exact putAll_none h
    · rfl
theorem mem_more {dev amt : Int} {l : List Int} {v : Int} (h : v ∈ moreL dev amt l) : ∃ (k : Nat) (u : Int), l[k]? = some u ∧ v = moreF dev amt k u := by
  obtain ⟨k, hk⟩ := List.mem_iff_getElem?.1 h
  have h1 := lt_of_get hk
  rw [moreL_len] at h1
  obtain ⟨u, hu⟩ := get_of h1
  rw [moreL_get hu] at hk
  cases hk
  exact ⟨k, u, hu, rfl⟩
/-- A row with an amount more in its cells from one on, up to another. -/
def moreP (D : Nat) (amt : Int) (l : List Int) (k : Nat) : List Int := l.mapIdx fun j v => if D ≤ j ∧ j < k then v + amt else v
theorem moreP_len (D : Nat) (amt : Int) (l : List Int) (k : Nat) : (moreP D amt l k).length = l.length := by simp [moreP]
theorem moreP_start (D : Nat) (amt : Int) (l : List Int) : moreP D amt l D = l := by
  apply List.ext_getElem?
  intro j
  simp only [moreP, List.getElem?_mapIdx]
  cases l[j]? with
  | none => rfl
  | some v => simp; omega
theorem moreP_get {D : Nat} {amt : Int} {l : List Int} {k : Nat} {v : Int} (h : l[k]? = some v) : (moreP D amt l k)[k]? = some v := by simp [moreP, h]
theorem moreP_set {D : Nat} {amt : Int} {l : List Int} {k : Nat} {v : Int} (hD : D ≤ k) (h : l[k]? = some v) : (moreP D amt l k).set k (v + amt) = moreP D amt l (k + 1) := by
  apply List.ext_getElem?
  intro j
  simp only [moreP, List.getElem?_mapIdx, List.getElem?_set, List.length_mapIdx]
  by_cases e : k = j
  · subst e
    rw [if_pos rfl, if_pos (lt_of_get h), h]
    simp; omega
  · rw [if_neg e]
    cases l[j]? with
    | none => rfl
    | some u =>
      simp only [Option.map_some, Option.some.injEq]
      by_cases hj : D ≤ j ∧ j < k
      · rw [if_pos hj, if_pos (by omega)]
      · rw [if_neg hj, if_neg (by omega)]
theorem moreP_end {D : Nat} {dev amt : Int} {l : List Int} (h : dev = (D : Int)) : moreP D amt l l.length = moreL dev amt l := by
  apply List.ext_getElem?
  intro j
  simp only [moreP, moreL, List.getElem?_mapIdx]
  by_cases hj : j < l.length
  · obtain ⟨v, hv⟩ := get_of hj
    rw [hv]
    simp only [Option.map_some, Option.some.injEq, moreF]
    by_cases hd : D ≤ j
    · rw [if_pos ⟨hd, hj⟩, if_pos (by omega)]
    · rw [if_neg (by omega), if_neg (by omega)]
  · rw [List.getElem?_eq_none (by omega)]; rfl
theorem capB_no {dev amt : Int} {l : List Int} {k : Nat} {v : Int} (h : l[k]? = some v) (hd : dev ≤ k) (hg : 100000000000000000 < v + amt) : capB (moreL dev amt l) = false := by
  rw [capB, List.all_eq_false]
  refine ⟨_, List.mem_of_getElem? (moreL_get h), ?_⟩
  rw [moreF, if_pos hd]; simp; omega
theorem capB_yes {dev amt : Int} {l : List Int} (h0 : ∀ v ∈ l, v ≤ 100000000000000000) (h : ∀ (j : Nat) (v : Int), dev ≤ (j : Int) → l[j]? = some v → v + amt ≤ 100000000000000000) : capB (moreL dev amt l) = true := by
  simp only [capB, List.all_eq_true, decide_eq_true_eq]
  intro v hv
  obtain ⟨k, u, hu, rfl⟩ := mem_more hv
  unfold moreF
  split
  · rename_i hd; exact h k u hd hu
  · exact h0 u (List.mem_of_getElem? hu)
/-- The shape of a triangle. -/
def Shape (n : Nat) (c : List (List Int)) : Prop := c.length = n ∧ ∀ i l, c[i]? = some l → l.length = n - i ∧ ∀ v ∈ l, 0 ≤ v ∧ v ≤ 100000000000000000
theorem shape_zeros (n : Nat) : Shape n (zerosT n) := by
  refine ⟨zerosT_len n, fun i l h => ?_⟩
  have hi := lt_of_get h
  rw [zerosT_len] at hi
  rw [zerosT_get hi] at h
  cases h
  refine ⟨by simp, fun v hv => ?_⟩
  have := (List.mem_replicate.1 hv).2
  omega
theorem shape_step {n : Nat} {f : Int} {c : List (List Int)} {x : R3} (h : Shape n c) (hm : 0 ≤ x.m) (hc : capB (rowO f c x) = true) : Shape n (c.set (idxO f x) (rowO f c x)) := by
  obtain ⟨h1, h2⟩ := h
  refine ⟨by rw [List.length_set]; exact h1, fun i l hl => ?_⟩
  rw [List.getElem?_set] at hl
  by_cases e : idxO f x = i
  · subst e
    by_cases hi : idxO f x < c.length
    · rw [if_pos rfl, if_pos hi] at hl
      cases hl
      obtain ⟨r, hr⟩ := get_of hi
      obtain ⟨h3, h4⟩ := h2 _ _ hr
      have er : c.getD (idxO f x) [] = r := by rw [List.getD_eq_getElem?_getD, hr]; rfl
      refine ⟨by rw [rowO, moreL_len, er]; exact h3, fun v hv => ?_⟩
      simp only [capB, List.all_eq_true, decide_eq_true_eq] at hc
      refine ⟨?_, hc v hv⟩
      rw [rowO, er] at hv
      obtain ⟨k, u, hu, rfl⟩ := mem_more hv
      have := h4 u (List.mem_of_getElem? hu)
      unfold moreF; split <;> omega
    · rw [if_pos rfl, if_neg hi] at hl; cases hl
  · rw [if_neg e] at hl; exact h2 i l hl
theorem shape_all {n : Nat} {f : Int} : ∀ {l : List R3} {c c' : List (List Int)}, Shape n c → (∀ x ∈ l, 0 ≤ x.m) → putAll f c l = some c' → Shape n c'
  | [], c, c', h, _, e => by simp [putAll] at e; subst e; exact h
  | x :: l, c, c', h, hm, e => by
    rw [putAll] at e
    split at e
    · rename_i hc
      exact shape_all (shape_step h (hm x (by simp)) hc) (fun y hy => hm y (by simp [hy])) e
    · cases e
/-- What is amiss with rows; the first year; the cells. -/
def yearsN (l : List R3) : Nat := (toL l - fromL l + 1).toNat
def ofO (l : List R3) : Option (List (List Int)) := putAll (fromL l) (zerosT (yearsN l)) l
def ofE (l : List R3) : Int := if l = [] then 7 else if chkL l = 0 then (if 2000 < l.length ∨ 20 < toL l - fromL l + 1 then 2 else if ofO l = none then 5 else 0) else chkL l
theorem ofE_chk {l : List R3} (hn : l ≠ []) (h : chkL l ≠ 0) : ofE l = chkL l := by rw [ofE, if_neg hn, if_neg h]
theorem ofE_bound {l : List R3} (hn : l ≠ []) (h : chkL l = 0) (hb : 2000 < l.length ∨ 20 < toL l - fromL l + 1) : ofE l = 2 := by rw [ofE, if_neg hn, if_pos h, if_pos hb]
theorem ofE_over {l : List R3} (hn : l ≠ []) (h : chkL l = 0) (hb : ¬(2000 < l.length ∨ 20 < toL l - fromL l + 1)) (ho : ofO l = none) : ofE l = 5 := by rw [ofE, if_neg hn, if_pos h, if_neg hb, if_pos ho]
theorem ofE_ok {l : List R3} {c : List (List Int)} (hn : l ≠ []) (h : chkL l = 0) (hb : ¬(2000 < l.length ∨ 20 < toL l - fromL l + 1)) (ho : ofO l = some c) : ofE l = 0 := by rw [ofE, if_neg hn, if_pos h, if_neg hb, if_neg (by rw [ho]; simp)]
theorem chk_range (x : R3) : chk x = 0 ∨ chk x = 1 ∨ chk x = 4 := by unfold chk; split; simp; split <;> simp
/-- What follows where the triangle is made. -/
theorem ofE_zero {l : List R3} (h : ofE l = 0) : l ≠ [] ∧ chkL l = 0 ∧ ¬(2000 < l.length ∨ 20 < toL l - fromL l + 1) ∧ ∃ c, ofO l = some c := by
  unfold ofE at h
  split at h
  · omega
  · rename_i hn
    split at h
    · rename_i hc
      split at h
      · omega
      · rename_i hb
        split at h
        · omega
        · rename_i ho
          obtain ⟨c, hc'⟩ := Option.ne_none_iff_exists'.1 ho
          exact ⟨hn, hc, hb, c, hc'⟩
    · rename_i hc; exact absurd h hc
def ofC (l : List R3) : List (List Int) := (ofO l).getD []
end Go.Proofs.YtmfohnchnbgbaaaGreatDoor
