/- A triangle that the program makes: its box, its rows, all the call's own; what a store, one row more, a row filled leave. -/
import Derived.Test.YtclcjonogjinfaaTriI
import Derived.Laws.CopyOwn
import Derived.Deep.OwnRows
namespace Go.Proofs.Ytclcjonogjinfaa
open Go.RowKit

def cellsI (l : List Int) : Array Value := (l.map (Value.int .i64)).toArray
/-- A row whose block is known whole. -/
def RowB (w : World) (r : Rw) : Prop := ∃ b, r.A = some ⟨b, 0, none⟩ ∧ r.cap = r.l.length ∧ r.l.length ≤ 1000 ∧ Blk w b 3 (cellsI r.l)
theorem RowB.sv {w : World} {r : Rw} (h : RowB w r) : SV w 1 r.A r.l.length r.cap (r.l.map encI) := by
  obtain ⟨b, hA, hc, hm, hb⟩ := h
  refine ⟨fun i row hr => ⟨b, 0, hA, hb.lt, fun j u hu => ?_⟩, by simp, by omega, by simp only [maxLen]; omega, by simp [hA]⟩
  rw [List.getElem?_map] at hr
  obtain ⟨x, hx, rfl⟩ := Option.map_eq_some_iff.1 hr
  have : j = 0 := by have := lt_of_get hu; simp [encI] at this; exact this
  subst this
  simp [encI] at hu; subst hu
  rw [hb.cell]; simp [cellsI, hx]
theorem RowB.below {w w' : World} {r : Rw} (h : RowB w r) (hb : Below w.heap.size w w') : RowB w' r := by
  obtain ⟨b, hA, hc, hm, hk⟩ := h
  exact ⟨b, hA, hc, hm, hk.below hb hk.lt⟩
theorem RowB.grown {w w' : World} {row : Option Nat} {r : Rw} (h : RowB w r) (hg : w.grownBy w' row) (hne : blk r.A ≠ row) : RowB w' r := by
  obtain ⟨b, hA, hc, hm, hk⟩ := h
  exact ⟨b, hA, hc, hm, hk.grown hg (by rw [hA] at hne; exact hne)⟩
theorem RowB.lt {w : World} {r : Rw} (h : RowB w r) {kk : Nat} (hk : blk r.A = some kk) : kk < w.heap.size := by
  obtain ⟨b, hA, hc, hm, hb⟩ := h
  rw [hA] at hk; cases hk
  exact hb.lt
theorem set_same {α : Type} {l : List α} {i : Nat} {x : α} (h : l[i]? = some x) : l.set i x = l := by
  apply List.ext_getElem?
  intro j
  rw [List.getElem?_set]
  split
  · rename_i e; subst e
    rw [if_pos (lt_of_get h), h]
  · rfl
theorem MV.far {wx : World} {A : Option Addr} {n cap : Nat} {M : List Rw} (h : MV wx A n cap M) {p : Addr} (hA : ∀ kk, blk A = some kk → kk ≠ p.block) (hr : ∀ r ∈ M, ∀ kk, blk r.A = some kk → kk ≠ p.block) (u : Value) : MV (wx.setCell p u) A n cap M :=
  ⟨h.sv.far hA u, fun r hm => (h.rows r hm).far (hr r hm) u⟩

structure TS (w : World) (G : Nat) (f : Int) (R : List Rw) (E : List (List Value)) (A : Option Addr) (cap : Nat) (wx : World) : Prop where
  o : Blk wx G 24 (triC f A (R.length + E.length) cap)
  own : OwnS wx w.heap.size 28 1 A (R.length + E.length) cap (R.map encRw ++ E)
  rows : ∀ r ∈ R, RowB wx r
  ap : ∀ r ∈ R, ∀ kk, blk r.A = some kk → w.heap.size ≤ kk ∧ kk ≠ G ∧ blk A ≠ some kk
  dist : ∀ (i j : Nat) (r s : Rw), R[i]? = some r → R[j]? = some s → blk r.A = blk s.A → i = j
  ne : blk A ≠ some G
  base : w.heap.size ≤ G
  bel : Below w.heap.size w wx
section
variable {w wx wy : World} {G : Nat} {f : Int} {R : List Rw} {E : List (List Value)} {A : Option Addr} {cap : Nat}
theorem TS.below (h : TS w G f R E A cap wx) (hb : Below wx.heap.size wx wy) : TS w G f R E A cap wy :=
  ⟨h.o.below hb h.o.lt, h.own.below hb, fun r hr => (h.rows r hr).below hb, h.ap, h.dist, h.ne, h.base, chain h.bel hb⟩
theorem TS.mv (h : TS w G f R [] A cap wx) : MV wx A R.length cap R := ⟨by have := h.own.sv; simpa using this, fun r hr => (h.rows r hr).sv⟩
theorem TS.drew (h : TS w G f R E A cap wx) : TS w G f R E A cap wx.drew := h.below (Below.refl _ _).drew
theorem TS.own0 (h : TS w G f R [] A cap wx) : OwnS wx w.heap.size 28 1 A R.length cap (R.map encRw) := by have := h.own; simpa using this
theorem TS.o0 (h : TS w G f R [] A cap wx) : Blk wx G 24 (triC f A R.length cap) := by have := h.o; simpa using this
/-- The triangle behind stores into the boxes that were there before. -/
theorem TS.mvfar (h : TS w G f R [] A cap wx) {p q : Addr} (hp : p.block < w.heap.size) (hq : q.block < w.heap.size) (u v : Value) : MV ((wx.setCell p u).setCell q v) A R.length cap R := by
  have hA : ∀ kk, blk A = some kk → w.heap.size ≤ kk := fun kk hk => (h.own.lt kk hk).1
  have hR : ∀ r ∈ R, ∀ kk, blk r.A = some kk → w.heap.size ≤ kk := fun r hr kk hk => (h.ap r hr kk hk).1
  exact (h.mv.far (fun kk hk => by have := hA kk hk; omega) (fun r hr kk hk => by have := hR r hr kk hk; omega) u).far (fun kk hk => by have := hA kk hk; omega) (fun r hr kk hk => by have := hR r hr kk hk; omega) v
/-- A store into a row's cell. -/
theorem TS.put (h : TS w G f R E A cap wx) {i k b : Nat} {r : Rw} (hr : R[i]? = some r) (hb : r.A = some ⟨b, 0, none⟩) (u : Int) :
    TS w G f (R.set i ⟨r.A, r.l.set k u, r.cap⟩) E A cap (wx.setCell ⟨b, k, none⟩ (.int .i64 u)) := by
  have hm := List.mem_of_getElem? hr
  have hi := lt_of_get hr
  obtain ⟨h0, hG, hA⟩ := h.ap r hm b (by rw [hb]; rfl)
  have hmap : (R.set i ⟨r.A, r.l.set k u, r.cap⟩).map encRw = R.map encRw := by
    rw [List.map_set]
    exact set_same (by rw [List.getElem?_map, hr]; simp [encRw])
  have hget : ∀ j s, (R.set i ⟨r.A, r.l.set k u, r.cap⟩)[j]? = some s → ∃ s', R[j]? = some s' ∧ s.A = s'.A ∧ ((j = i ∧ s = ⟨r.A, r.l.set k u, r.cap⟩) ∨ (j ≠ i ∧ s = s')) := by
    intro j s hs
    rw [List.getElem?_set] at hs
    by_cases e : i = j
    · subst e
      rw [if_pos rfl, if_pos hi] at hs; cases hs
      exact ⟨r, hr, rfl, .inl ⟨rfl, rfl⟩⟩
    · rw [if_neg e] at hs
      exact ⟨s, hs, rfl, .inr ⟨fun he => e he.symm, rfl⟩⟩
  refine ⟨?_, ?_, fun s hs => ?_, fun s hs kk hk => ?_, fun p q s t hs ht he => ?_, h.ne, h.base, h.bel.setCell (p := ⟨b, k, none⟩) h0 _⟩
  · rw [List.length_set]; exact h.o.far (fun e => hG e.symm) _
  · rw [hmap, List.length_set]
    exact h.own.far (fun kk hk e => by rw [hk] at hA; exact hA (by rw [e])) _
  · obtain ⟨j, hj⟩ := List.mem_iff_getElem?.1 hs
    obtain ⟨s', hs', eA, h2⟩ := hget j s hj
    rcases h2 with ⟨rfl, rfl⟩ | ⟨hne, rfl⟩
    · obtain ⟨b', hA', hc, hm', hk⟩ := h.rows r hm
      rw [hb] at hA'; cases hA'
      refine ⟨b, hb, by simpa using hc, by simpa using hm', ?_⟩
      have := hk.set_ k (.int .i64 u)
      simpa [cellsI, List.map_set] using this
    · refine (h.rows s (List.mem_of_getElem? hs')).grown (grown_set _ _ _) (fun e => hne (h.dist j i s r hs' hr ?_))
      rw [e, hb]; rfl
  · obtain ⟨j, hj⟩ := List.mem_iff_getElem?.1 hs
    obtain ⟨s', hs', eA, _⟩ := hget j s hj
    exact h.ap s' (List.mem_of_getElem? hs') kk (by rw [← eA]; exact hk)
  · obtain ⟨s', hs', eA, _⟩ := hget p s hs
    obtain ⟨t', ht', eB, _⟩ := hget q t ht
    exact h.dist p q s' t' hs' ht' (by rw [← eA, ← eB]; exact he)
theorem get_app {α : Type} {l : List α} {x y : α} {i : Nat} (h : (l ++ [x])[i]? = some y) : l[i]? = some y ∨ (i = l.length ∧ y = x) := by
  by_cases hi : i < l.length
  · rw [List.getElem?_append_left hi] at h; exact .inl h
  · rw [List.getElem?_append_right (by omega)] at h
    have := lt_of_get h
    simp at this
    right
    have e : i = l.length := by omega
    subst e
    simp at h
    exact ⟨rfl, h.symm⟩
/-- One row more, appended. -/
theorem TS.add (h : TS w G f R [] A cap wx) {wo : World} (hwo : Below wx.heap.size wx wo) {r : Rw} (hr : RowB wo r) (hf : ∀ kk, blk r.A = some kk → wx.heap.size ≤ kk) {A2 : Option Addr} {c2 : Nat} {wb : World}
    (ho : OwnS wb w.heap.size 28 1 A2 (R.length + 1) c2 (R.map encRw ++ [r].map encRw)) (hg : wo.grownBy wb (blk A)) (hat : blk A2 = blk A ∨ blk A2 = some wo.heap.size) :
    TS w G f (R ++ [r]) [] A2 c2 (wb.setCell ⟨G, 1, none⟩ (.slice A2 (R.length + 1) c2)) := by
  have h1 := h.below hwo
  have hG : some G ≠ blk A := fun he => h1.ne he.symm
  have hGo : G < wo.heap.size := h1.o.lt
  have hGx : G < wx.heap.size := h.o.lt
  have hlt : ∀ s ∈ R, ∀ kk, blk s.A = some kk → kk < wx.heap.size := fun s hs kk hk => (h.rows s hs).lt hk
  have hAx : ∀ kk, blk A = some kk → kk < wx.heap.size := fun kk hk => (h.own.lt kk hk).2
  have hrw : ∀ kk, blk r.A = some kk → kk < wo.heap.size := fun kk hk => hr.lt hk
  have hbx := h.bel.size
  have hne2 : blk A2 ≠ some G := by
    rcases hat with e | e
    · rw [e]; exact h1.ne
    · rw [e]; intro e2; cases e2; omega
  refine ⟨?_, ?_, fun x hx => ?_, fun x hx kk hk => ?_, fun i j x y hx hy he => ?_, hne2, h.base, (h1.bel.grown hg h1.bel.size (fun j hj => (h1.own.lt j hj).1)).setCell (p := ⟨G, 1, none⟩) h.base _⟩
  · have := (h1.o.grown hg hG).set_ 1 (.slice A2 (R.length + 1) c2)
    simpa [triC] using this
  · have := ho.far (p := ⟨G, 1, none⟩) (fun k hk e => hne2 (by rw [hk]; exact congrArg some e)) (.slice A2 (R.length + 1) c2)
    simpa using this
  · rcases List.mem_append.1 hx with hx | hx
    · refine ((h1.rows x hx).grown hg (fun e => ?_)).grown (grown_set _ _ _) (fun e => ?_)
      · obtain ⟨b, hb, _⟩ := h1.rows x hx
        exact (h1.ap x hx b (by rw [hb]; rfl)).2.2 (by rw [← e, hb]; rfl)
      · exact (h1.ap x hx G e).2.1 rfl
    · simp at hx; subst hx
      refine (hr.grown hg (fun e => ?_)).grown (grown_set _ _ _) (fun e => ?_)
      · obtain ⟨b, hb, _⟩ := hr
        have h2 := hf b (by rw [hb]; rfl)
        have := hAx b (by rw [← e, hb]; rfl)
        omega
      · have := hf G e; omega
  · rcases List.mem_append.1 hx with hx | hx
    · obtain ⟨a1, a2, a3⟩ := h.ap x hx kk hk
      refine ⟨a1, a2, ?_⟩
      rcases hat with e | e
      · rw [e]; exact a3
      · rw [e]; intro e2; cases e2
        have := hlt x hx _ hk
        have := hwo.size
        omega
    · simp at hx; subst hx
      have h2 := hf kk hk
      have h3 := hrw kk hk
      refine ⟨by omega, by omega, ?_⟩
      rcases hat with e | e
      · rw [e]; intro e2; have := hAx kk e2; omega
      · rw [e]; intro e2; cases e2; omega
  · rcases get_app hx with gx | ⟨rfl, rfl⟩
    · rcases get_app hy with gy | ⟨rfl, rfl⟩
      · exact h.dist i j x y gx gy he
      · obtain ⟨b, hb, _⟩ := h.rows x (List.mem_of_getElem? gx)
        have h2 := hlt x (List.mem_of_getElem? gx) b (by rw [hb]; rfl)
        have := hf b (by rw [← he, hb]; rfl)
        omega
    · rcases get_app hy with gy | ⟨rfl, rfl⟩
      · obtain ⟨b, hb, _⟩ := h.rows y (List.mem_of_getElem? gy)
        have h2 := hlt y (List.mem_of_getElem? gy) b (by rw [hb]; rfl)
        have := hf b (by rw [he, hb]; rfl)
        omega
      · rfl
end
end Go.Proofs.Ytclcjonogjinfaa
