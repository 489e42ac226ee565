/- Part 1 of the proof. -/
import Derived.Below
import Derived.Calls
import Derived.Deep.Draws
import Derived.Laws.OwnMore
import Derived.Laws.Rows
import Derived.Laws.ResultCell
import Derived.IntWalk
import Derived.WalkKit
import Derived.Lib.Hide
import Derived.Maps.AppendAt
import Derived.RegionTactic
import Derived.OwnWalk
import Derived.Deep.Slices
/- Words for memory: a slice that reads as a list of rows of cells; small closers for walks. -/
namespace Go.Proofs.YtmfohnchnbgbaaaGreat
open Go.RowKit

theorem bcell {W w1 : World} (hb : Below W.heap.size W w1) : (∀ b o, b < W.heap.size → w1.cell? ⟨b, o, none⟩ = W.cell? ⟨b, o, none⟩) ∧ (∀ b o, b < W.heap.size → w1.frozen? ⟨b, o, none⟩ = W.frozen? ⟨b, o, none⟩) :=
  ⟨fun b o h => hb.cell (p := ⟨b, o, none⟩) h, fun b o h => hb.frozen (p := ⟨b, o, none⟩) h⟩

/-- A cell that was there before a call that writes nothing that was there. -/
theorem kept {W w' : World} {b o : Nat} {u : Value} (hb : Below W.heap.size W w') (h : W.cell? ⟨b, o, none⟩ = some u) : w'.cell? ⟨b, o, none⟩ = some u := by
  rw [hb.cell (p := ⟨b, o, none⟩) (block_lt_of_cell (a := ⟨b, o, none⟩) h)]
  exact h
theorem chain {w0 W w' : World} (h : Below w0.heap.size w0 W) (h2 : Below W.heap.size W w') : Below w0.heap.size w0 w' := h.trans (h2.mono h.size)
theorem chain1 {w0 w' : World} {o : Obj} (h2 : Below (w0.alloc o).heap.size (w0.alloc o) w') : Below w0.heap.size w0 w' := chain ((Below.refl _ _).alloc (Nat.le_refl _) _) h2
theorem bel_drewN {B : Nat} {a w : World} (h : Below B a w) (n : Nat) : Below B a (w.drewN n) := ⟨h.os, h.tape, h.output, h.size, h.block⟩

theorem ret_bool {a b : Bool} (h : a = b) : Ending.returned (.bool a) = .returned (.bool b) := by rw [h]
theorem ret_int {k : IntKind} {a b : Int} (h : a = b) : Ending.returned (.int k a) = .returned (.int k b) := by rw [h]
theorem hide {p : Prop} (h : p) : Hid p := h

theorem drop_of {α : Type} {l : List α} {k : Nat} {x : α} (h : l[k]? = some x) : l.drop k = x :: l.drop (k + 1) := by
  obtain ⟨hk, he⟩ := List.getElem?_eq_some_iff.1 h
  rw [List.drop_eq_getElem_cons hk, he]
theorem take_of {α : Type} {l : List α} {k : Nat} {x : α} (h : l[k]? = some x) : l.take (k + 1) = l.take k ++ [x] := by
  obtain ⟨hk, he⟩ := List.getElem?_eq_some_iff.1 h
  rw [List.take_succ_eq_append_getElem hk, he]
theorem get_of {α : Type} {l : List α} {k : Nat} (h : k < l.length) : ∃ x, l[k]? = some x := ⟨l[k], List.getElem?_eq_getElem h⟩
theorem lt_of_get {α : Type} {l : List α} {k : Nat} {x : α} (h : l[k]? = some x) : k < l.length := (List.getElem?_eq_some_iff.1 h).1

/-- A block that is known whole. -/
def Blk (w : World) (g : Nat) (t : TypeId) (cs : Array Value) : Prop := w.heap[g]? = some (.cells cs t (0, 0))
section
variable {w w' : World} {g : Nat} {t : TypeId} {cs : Array Value}
theorem Blk.lt (h : Blk w g t cs) : g < w.heap.size := by
  rcases Nat.lt_or_ge g w.heap.size with hlt | hge
  · exact hlt
  · unfold Blk at h; rw [Array.getElem?_eq_none hge] at h; cases h
theorem Blk.cell (h : Blk w g t cs) (i : Nat) : w.cell? ⟨g, i, none⟩ = cs[i]? := cell_of_row w g i cs t (0, 0) h
theorem Blk.frozen (h : Blk w g t cs) (i : Nat) : w.frozen? ⟨g, i, none⟩ = false := frozen_of_row w g i cs t h
theorem Blk.new (w : World) (t : TypeId) (cs : Array Value) : Blk (w.alloc (.cells cs t)) w.heap.size t cs := heap_alloc_new w _
theorem Blk.new' {w : World} {t : TypeId} {cs : Array Value} {g : Nat} (h : g = w.heap.size) : Blk (w.alloc (.cells cs t)) g t cs := by subst h; exact Blk.new w t cs
theorem Blk.alloc (h : Blk w g t cs) (o : Obj) : Blk (w.alloc o) g t cs := (Below.heap_alloc w o g h.lt).trans h
theorem Blk.drew (h : Blk w g t cs) : Blk w.drew g t cs := h
theorem Blk.drewN (h : Blk w g t cs) (n : Nat) : Blk (w.drewN n) g t cs := h
theorem Blk.set_ (h : Blk w g t cs) (i : Nat) (u : Value) : Blk (w.setCell ⟨g, i, none⟩ u) g t (cs.setIfInBounds i u) := heap_setCell_same w g i cs t u h
theorem Blk.far (h : Blk w g t cs) {p : Addr} (hp : g ≠ p.block) (u : Value) : Blk (w.setCell p u) g t cs := (heap_setCell_other w p g u hp).trans h
theorem Blk.below {B : Nat} (h : Blk w g t cs) (hb : Below B w w') (hg : g < B) : Blk w' g t cs := (hb.block g hg).trans h
theorem Blk.grown {row : Option Nat} (h : Blk w g t cs) (hb : w.grownBy w' row) (hg : some g ≠ row) : Blk w' g t cs := (hb.block g h.lt hg).trans h
end

/-- A struct result that lies in a block that is known whole; one beside it. -/
theorem ret_row {P : Program} {fn : Func} {R : Ending → World → Prop} {a : Act} {w : World} {p : Tmp} {ty : TypeId} {g : Nat} {t : TypeId} {cs : Array Value} {d : TypeDesc} (h : fn.results = #[.cell p ty]) (hde : a.defers = [])
    (hp : a.tmps.getD p undef = .pointer (some ⟨g, 0, none⟩)) (hg : Blk w g t cs) (hu : P.underlying ty = some d) (hd : (match d with | .struct _ | .array _ _ => true | _ => false) = true) (hi : (P.info? ty).map (·.size) = some cs.size)
    (hR : R (.returned (.agg cs)) w) : bodyPost P fn R .ret a w := bodyPost_ret (results_cell_row h _ w g t cs (0, 0) d hp hg hu hd hi) hde hR
theorem ret_row2 {P : Program} {fn : Func} {R : Ending → World → Prop} {a : Act} {w : World} {p u : Tmp} {ty : TypeId} {g : Nat} {t : TypeId} {cs : Array Value} {d : TypeDesc} {x : Value} (h : fn.results = #[.cell p ty, .tmp u]) (hde : a.defers = [])
    (hp : a.tmps.getD p undef = .pointer (some ⟨g, 0, none⟩)) (hx : a.tmps.getD u undef = x) (hg : Blk w g t cs) (hu : P.underlying ty = some d) (hd : (match d with | .struct _ | .array _ _ => true | _ => false) = true) (hi : (P.info? ty).map (·.size) = some cs.size)
    (hR : R (.returned (.tuple #[.agg cs, x])) w) : bodyPost P fn R .ret a w :=
  bodyPost_ret (by rw [results_cell_tmp h, hp, hx]; simp [asAddr, run_loadVar_row w g t ty cs (0, 0) d hg hu hd hi]) hde hR

/-- The slice of address A reads in w, below block B, as the rows xs, each of sz cells. -/
def Sl (w : World) (B sz : Nat) (A : Option Addr) (xs : List (List Value)) : Prop :=
  ∀ i row, xs[i]? = some row → ∃ b off, A = some ⟨b, off, none⟩ ∧ b < B ∧ ∀ j u, row[j]? = some u → w.cell? ⟨b, off + (i * sz + j), none⟩ = some u

theorem Sl.nil_ {w : World} {B sz : Nat} {A : Option Addr} : Sl w B sz A [] := fun i row h => by simp at h
theorem Sl.keep {w w' : World} {B sz : Nat} {A : Option Addr} {xs : List (List Value)} (h : Sl w B sz A xs) (hk : ∀ b o, b < B → w'.cell? ⟨b, o, none⟩ = w.cell? ⟨b, o, none⟩) : Sl w' B sz A xs := by
  intro i row hr
  obtain ⟨b, off, hA, hb, hc⟩ := h i row hr
  exact ⟨b, off, hA, hb, fun j u hu => (hk b _ hb).trans (hc j u hu)⟩
theorem Sl.below {w w' : World} {B sz : Nat} {A : Option Addr} {xs : List (List Value)} (h : Sl w B sz A xs) (hb : Below B w w') : Sl w' B sz A xs :=
  h.keep fun b o hlt => hb.cell (p := ⟨b, o, none⟩) hlt
theorem Sl.more {w : World} {B B' sz : Nat} {A : Option Addr} {xs : List (List Value)} (h : Sl w B sz A xs) (hB : B ≤ B') : Sl w B' sz A xs := by
  intro i row hr
  obtain ⟨b, off, hA, hb, hc⟩ := h i row hr
  exact ⟨b, off, hA, by omega, hc⟩
/-- A slice value that may come in, or go from call to call: what it reads as, its bounds. -/
structure SV (w : World) (sz : Nat) (A : Option Addr) (n cap : Nat) (rows : List (List Value)) : Prop where
  sl : Sl w w.heap.size sz A rows
  len : rows.length = n
  le : n ≤ cap
  most : cap ≤ maxLen
  nil : A = none → cap = 0
theorem SV.below {w w' : World} {sz : Nat} {A : Option Addr} {n cap : Nat} {rows : List (List Value)} (h : SV w sz A n cap rows) (hb : Below w.heap.size w w') : SV w' sz A n cap rows :=
  ⟨(h.sl.below hb).more hb.size, h.len, h.le, h.most, h.nil⟩
end Go.Proofs.YtmfohnchnbgbaaaGreat

/- append onto a slice that the call owns, its source nil, empty or not, in rows. -/
namespace Go.Proofs.YtmfohnchnbgbaaaGreat
open Go.RowKit

/-- What is asked of a slice's type and its elements' type. -/
structure ElT (P : Program) (t e : TypeId) (sz bytes : Nat) : Prop where
  ht : P.underlying t = some (.slice e)
  hi : ∃ i z, P.info? e = some i ∧ i.zero = some z ∧ i.size = sz ∧ i.bytes = bytes ∧ z.cells.size = sz
  hsz : 0 < sz
theorem ElT.mk' {P : Program} {t e : TypeId} {sz bytes : Nat} {z : Value} (ht : P.underlying t = some (.slice e)) (h : (P.info? e).map (fun i => (i.zero, i.size, i.bytes)) = some (some z, sz, bytes)) (hz : z.cells.size = sz) (hsz : 0 < sz) : ElT P t e sz bytes := by
  obtain ⟨i, h1, h2, h3, h4⟩ := info_parts h
  exact ⟨ht, ⟨i, z, h1, h2, h3, h4, hz⟩, hsz⟩

def RowsOk (sz : Nat) (rows : List (List Value)) : Prop := ∀ r ∈ rows, r.length = sz ∧ ∀ u ∈ r, u.oneCell' = true
theorem RowsOk.app {sz : Nat} {a b : List (List Value)} (ha : RowsOk sz a) (hb : RowsOk sz b) : RowsOk sz (a ++ b) := fun r hr => by
  rcases List.mem_append.1 hr with h | h
  · exact ha r h
  · exact hb r h
theorem RowsOk.nil_ {sz : Nat} : RowsOk sz [] := fun r hr => by simp at hr
theorem flat_len {sz : Nat} : ∀ {rows : List (List Value)}, RowsOk sz rows → rows.flatten.length = rows.length * sz
  | [], _ => by simp
  | r :: rows, h => by
    rw [List.flatten_cons, List.length_append, (h r (by simp)).1, flat_len (rows := rows) (fun q hq => h q (by simp [hq])), List.length_cons, Nat.add_mul]; omega
theorem flat_at {sz : Nat} : ∀ {rows : List (List Value)}, RowsOk sz rows → ∀ i row j u, rows[i]? = some row → row[j]? = some u → rows.flatten[i * sz + j]? = some u
  | [], _, i, row, j, u, h, _ => by simp at h
  | r :: rows, ho, i, row, j, u, h, hu => by
    rw [List.flatten_cons]
    have hr := (ho r (by simp)).1
    cases i with
    | zero =>
      simp at h; subst h
      rw [Nat.zero_mul, Nat.zero_add, List.getElem?_append_left (lt_of_get hu)]
      exact hu
    | succ i =>
      rw [List.getElem?_append_right (by rw [hr, Nat.add_mul]; omega), hr, show (i + 1) * sz + j - sz = i * sz + j by rw [Nat.add_mul]; omega]
      exact flat_at (rows := rows) (fun q hq => ho q (by simp [hq])) i row j u (by simpa using h) hu
theorem at_flat {sz : Nat} (hsz : 0 < sz) : ∀ {rows : List (List Value)}, RowsOk sz rows → ∀ q u, rows.flatten[q]? = some u → ∃ i row j, rows[i]? = some row ∧ row[j]? = some u ∧ q = i * sz + j
  | [], _, q, u, h => by simp at h
  | r :: rows, ho, q, u, h => by
    rw [List.flatten_cons] at h
    have hr := (ho r (by simp)).1
    by_cases hq : q < r.length
    · rw [List.getElem?_append_left hq] at h
      exact ⟨0, r, q, rfl, h, by simp⟩
    · rw [List.getElem?_append_right (by omega)] at h
      obtain ⟨i, row, j, h1, h2, h3⟩ := at_flat hsz (rows := rows) (fun q hq => ho q (by simp [hq])) _ u h
      exact ⟨i + 1, row, j, by simpa using h1, h2, by rw [Nat.add_mul]; omega⟩

/-- The slice of address A, length n, capacity cap owns the rows, in blocks from B on. -/
structure OwnS (w : World) (B : Nat) (e : TypeId) (sz : Nat) (A : Option Addr) (n cap : Nat) (rows : List (List Value)) : Prop where
  own : w.ownsRow B e sz (.slice A n cap) n rows.flatten
  len : rows.length = n
  ok : RowsOk sz rows
def blk (A : Option Addr) : Option Nat := A.map (·.block)
theorem ownBlock_blk (A : Option Addr) (n cap : Nat) : (Value.slice A n cap).ownBlock = blk A := by cases A <;> rfl

section
variable {w w' : World} {B : Nat} {e : TypeId} {sz n cap : Nat} {A : Option Addr} {rows : List (List Value)}
theorem OwnS.nil_ (w : World) (B : Nat) (e : TypeId) (sz : Nat) : OwnS w B e sz none 0 0 [] := ⟨World.ownsRow_nil w B e sz, rfl, RowsOk.nil_⟩
theorem OwnS.lt (h : OwnS w B e sz A n cap rows) : ∀ k, blk A = some k → B ≤ k ∧ k < w.heap.size := fun k hk => h.own.lt k (by rw [ownBlock_blk]; exact hk)
theorem OwnS.cap_le (h : OwnS w B e sz A n cap rows) : n ≤ cap ∧ cap ≤ maxLen := by
  rcases h.own.2 with ⟨h1, h2⟩ | ⟨g, c, cur, hv, _, _, h3, h4, _⟩
  · cases h1; exact ⟨Nat.le_refl _, by simp [maxLen]⟩
  · cases hv; exact ⟨h3, h4⟩
theorem OwnS.addr (h : OwnS w B e sz A n cap rows) : (A = none ∧ n = 0 ∧ cap = 0) ∨ ∃ g, A = some ⟨g, 0, none⟩ ∧ B ≤ g ∧ g < w.heap.size := by
  rcases h.own.2 with ⟨h1, h2⟩ | ⟨g, c, cur, hv, hb, _⟩
  · cases h1; exact .inl ⟨rfl, rfl, rfl⟩
  · cases hv; exact .inr ⟨g, rfl, hb, (h.lt g rfl).2⟩
theorem OwnS.sl (h : OwnS w B e sz A n cap rows) : Sl w w.heap.size sz A rows := by
  intro i row hr
  have hlt := lt_of_get hr
  have hl := h.len
  rcases h.addr with ⟨_, h0, _⟩ | ⟨g, rfl, _, hg⟩
  · omega
  · refine ⟨g, 0, rfl, hg, fun j u hu => ?_⟩
    have hj := lt_of_get hu
    have hrl := (h.ok row (List.mem_of_getElem? hr)).1
    have hmul : (i + 1) * sz ≤ n * sz := Nat.mul_le_mul_right _ (by omega)
    rw [Nat.add_mul] at hmul
    rw [Nat.zero_add, h.own.cellAt (i * sz + j) (by omega)]
    exact flat_at h.ok i row j u hr hu
theorem OwnS.kept (h : OwnS w B e sz A n cap rows) {row : Option Nat} (hg : w.grownBy w' row) (hne : blk A = none ∨ blk A ≠ row) : OwnS w' B e sz A n cap rows :=
  ⟨h.own.kept hg (by rw [ownBlock_blk]; exact hne), h.len, h.ok⟩
theorem grown_of_below (hb : Below w.heap.size w w') (row : Option Nat) : w.grownBy w' row := ⟨hb.os, hb.tape, hb.output, hb.size, fun i hi _ => hb.block i hi⟩
theorem OwnS.below (h : OwnS w B e sz A n cap rows) (hb : Below w.heap.size w w') : OwnS w' B e sz A n cap rows := by
  cases hA : A with
  | none => subst hA; exact h.kept (grown_of_below hb none) (.inl rfl)
  | some ad => subst hA; exact h.kept (grown_of_below hb none) (.inr (by simp [blk]))
theorem OwnS.alloc (h : OwnS w B e sz A n cap rows) (o : Obj) : OwnS (w.alloc o) B e sz A n cap rows := ⟨h.own.alloc o, h.len, h.ok⟩
theorem OwnS.drew (h : OwnS w B e sz A n cap rows) : OwnS w.drew B e sz A n cap rows := ⟨h.own.drew, h.len, h.ok⟩
theorem OwnS.drewN (h : OwnS w B e sz A n cap rows) (k : Nat) : OwnS (w.drewN k) B e sz A n cap rows := ⟨h.own, h.len, h.ok⟩
/-- A row that a literal has just made. -/
theorem OwnS.lit (w : World) {B : Nat} (hB : B ≤ w.heap.size) (e : TypeId) {sz : Nat} (rows : List (List Value)) (hr : RowsOk sz rows) (hm : rows.length ≤ maxLen) (cs : Array Value) (hcs : cs.toList = rows.flatten) :
    OwnS (w.alloc (.cells cs e)) B e sz (some ⟨w.heap.size, 0, none⟩) rows.length rows.length rows := by
  refine ⟨?_, rfl, hr⟩
  have hsz : cs.size = rows.length * sz := by rw [← Array.length_toList, hcs, flat_len hr]
  exact ⟨flat_len hr, .inr ⟨w.heap.size, _, cs, rfl, hB, heap_alloc_new w _, Nat.le_refl _, hm, hsz, by rw [← hcs, List.take_of_length_le (by rw [Array.length_toList, hsz]; exact Nat.le_refl _)]⟩⟩
end
theorem OwnS.sv {w : World} {B : Nat} {e : TypeId} {sz n cap : Nat} {A : Option Addr} {rows : List (List Value)} (h : OwnS w B e sz A n cap rows) : SV w sz A n cap rows :=
  ⟨h.sl, h.len, h.cap_le.1, h.cap_le.2, fun hA => by
    rcases h.addr with ⟨_, _, h0⟩ | ⟨g, h1, _⟩
    · exact h0
    · rw [h1] at hA; cases hA⟩

section
variable {P : Program} (w : World)
theorem run_app {t ty e : TypeId} {sz bytes : Nat} (T : ElT P t e sz bytes) {B : Nat} {A : Option Addr} {n cap : Nat} {rows : List (List Value)} (hown : OwnS w B e sz A n cap rows)
    {A2 : Option Addr} {m c : Nat} {news : List (List Value)} (hl : news.length = m) (hr : Sl w w.heap.size sz A2 news) (hok : RowsOk sz news) (h63 : n + m ≤ maxLen) (hbytes : (n + m) * bytes ≤ 140737488355328) (hbase : B ≤ w.heap.size) :
    ∃ A' cap' w', (Builtin.append_ #[t, t] ty #[.slice A n cap, .slice A2 m c]).run P w = .ok (.slice A' (n + m) cap') w' ∧ OwnS w' B e sz A' (n + m) cap' (rows ++ news) ∧ w.grownBy w' (blk A) ∧
      (blk A' = blk A ∨ blk A' = some w.heap.size) := by
  obtain ⟨ht, ⟨i, z, hi, hz, hsize, hby, hzs⟩, hsz⟩ := T
  have fin : ∀ v' w', (Builtin.append_ #[t, t] ty #[.slice A n cap, .slice A2 m c]).run P w = .ok v' w' → w'.ownsRow B e sz v' (n + m) (rows.flatten ++ news.flatten) → w.grownBy w' (blk A) → (v'.ownBlock = blk A ∨ v'.ownBlock = some w.heap.size) →
      ∃ A' cap' w', (Builtin.append_ #[t, t] ty #[.slice A n cap, .slice A2 m c]).run P w = .ok (.slice A' (n + m) cap') w' ∧ OwnS w' B e sz A' (n + m) cap' (rows ++ news) ∧ w.grownBy w' (blk A) ∧ (blk A' = blk A ∨ blk A' = some w.heap.size) := by
    intro v' w' hrun h2 h3 h4
    have hv : ∃ A' cap', v' = .slice A' (n + m) cap' := by
      rcases h2.2 with ⟨h, h0⟩ | ⟨g, c', cur, h, _⟩
      · exact ⟨none, 0, by rw [h, h0]⟩
      · exact ⟨_, _, h⟩
    obtain ⟨A', cap', rfl⟩ := hv
    rw [ownBlock_blk] at h4
    exact ⟨A', cap', w', hrun, ⟨by rw [List.flatten_append]; exact h2, by rw [List.length_append, hown.len, hl], hown.ok.app hok⟩, h3, h4⟩
  cases A2 with
  | none =>
    have hm : news = [] := by
      cases hnews : news with
      | nil => rfl
      | cons r rs =>
        subst hnews
        obtain ⟨b, off, h, _⟩ := hr 0 r rfl
        cases h
    subst hm
    simp at hl
    subst hl
    have hrun : (Builtin.append_ #[t, t] ty #[.slice A n cap, .slice none 0 c]).run P w = .ok (.slice A n cap) w := by
      rcases hown.own.2 with ⟨h, h0⟩ | ⟨g, c', cur, h, _, _, hnc, _⟩
      · cases h
        simp [Builtin.append_, run_underlying ht, sizeOf, typeInfo, hi, Builtin.lenOf, Builtin.firstCells]
      · cases h
        simp [Builtin.append_, run_underlying ht, sizeOf, typeInfo, hi, Builtin.lenOf, Builtin.firstCells, hnc, storeCells]
    exact fin _ _ hrun (by simpa using hown.own) (World.grownBy.refl w _) (.inl (ownBlock_blk _ _ _))
  | some ad =>
    have hcells : ∀ j u, news.flatten[j]? = some u → w.cell? (ad.add j) = some u := by
      intro q u hu
      obtain ⟨i', row, j, h1, h2, rfl⟩ := at_flat hsz hok q u hu
      obtain ⟨b, off, he, _, hc⟩ := hr i' row h1
      cases he
      rw [← hc j u h2]
      congr 1
      unfold Addr.add
      split
      · simp_all
      · rfl
    obtain ⟨v', w', hrun, h2, h3, _, h5⟩ := run_append_own_at (P := P) w B t ty e i z sz bytes ht hi hz hsize hby hzs hsz (.slice A n cap) n rows.flatten hown.own ad m c news.flatten (by rw [flat_len hok, hl]) hcells
      (fun u hu => by obtain ⟨r, hr', hu'⟩ := List.mem_flatten.1 hu; exact (hok r hr').2 u hu') h63 hbytes hbase
    rw [ownBlock_blk] at h3 h5
    exact fin _ _ hrun h2 h3 h5

variable {w}
theorem wp_app {o : Oper} {a : Act} {K : Act → World → Prop} {Q : Exit → Act → World → Prop} (s x : Operand) (t : TypeId) (ho : o.op = .call { callee := .builtin .append, args := #[s, x], argTypes := #[t, t] })
    {e : TypeId} {sz bytes : Nat} (T : ElT P t e sz bytes) {B : Nat} {A : Option Addr} {n cap : Nat} {rows : List (List Value)} (hs : a.eval s = .slice A n cap) (hown : OwnS w B e sz A n cap rows)
    {A2 : Option Addr} {m c : Nat} {news : List (List Value)} (hx : a.eval x = .slice A2 m c) (hl : news.length = m) (hr : Sl w w.heap.size sz A2 news) (hok : RowsOk sz news) (h63 : n + m ≤ maxLen) (hbytes : (n + m) * bytes ≤ 140737488355328) (hbase : B ≤ w.heap.size)
    (h : ∀ A' cap' w', OwnS w' B e sz A' (n + m) cap' (rows ++ news) → w.grownBy w' (blk A) → (blk A' = blk A ∨ blk A' = some w.heap.size) → K (a.put o.dst (.slice A' (n + m) cap')) w') : o.wp P a w K Q := by
  obtain ⟨A', cap', w', hrun, h2, h3, h4⟩ := run_app (P := P) (ty := o.type) (c := c) w T hown hl hr hok h63 hbytes hbase
  unfold Oper.wp execOp
  simp only [ho, resolve, invoke, builtin, Sem.run_bind, Sem.run_pure, Result.andThen_ok, List.map_toArray, List.map_cons, List.map_nil, hs, hx, hrun]
  exact h A' cap' w' h2 h3 h4

theorem wpList_app {ops : Array Oper} {rest : List Oper} {o : Oper} {a : Act} {Q : Exit → Act → World → Prop} (hgd : o.guard = none) (s x : Operand) (t : TypeId) (ho : o.op = .call { callee := .builtin .append, args := #[s, x], argTypes := #[t, t] })
    {e : TypeId} {sz bytes : Nat} (T : ElT P t e sz bytes) {B : Nat} {A : Option Addr} {n cap : Nat} {rows : List (List Value)} (hs : a.eval s = .slice A n cap) (hown : OwnS w B e sz A n cap rows)
    {A2 : Option Addr} {m c : Nat} {news : List (List Value)} (hx : a.eval x = .slice A2 m c) (hl : news.length = m) (hr : Sl w w.heap.size sz A2 news) (hok : RowsOk sz news) (h63 : n + m ≤ maxLen) (hbytes : (n + m) * bytes ≤ 140737488355328) (hbase : B ≤ w.heap.size)
    (h : ∀ A' cap' w', OwnS w' B e sz A' (n + m) cap' (rows ++ news) → w.grownBy w' (blk A) → (blk A' = blk A ∨ blk A' = some w.heap.size) → wpList P ops Q rest (a.put o.dst (.slice A' (n + m) cap')) w') : wpList P ops Q (o :: rest) a w :=
  wpList_plain hgd fun _ hK => wp_app s x t ho T hs hown hx hl hr hok h63 hbytes hbase fun A' cap' w' h2 h3 h4 => hK _ _ (h A' cap' w' h2 h3 h4)

theorem step_app {ops : Array Oper} {o : Oper} {a : Act} {K : Act → World → Prop} {Q : Exit → Act → World → Prop} {E : Prop} (hgd : o.guard = none) (s x : Operand) (t : TypeId) (ho : o.op = .call { callee := .builtin .append, args := #[s, x], argTypes := #[t, t] })
    {e : TypeId} {sz bytes : Nat} (T : ElT P t e sz bytes) {B : Nat} {A : Option Addr} {n cap : Nat} {rows : List (List Value)} (hs : a.eval s = .slice A n cap) (hown : OwnS w B e sz A n cap rows)
    {A2 : Option Addr} {m c : Nat} {news : List (List Value)} (hx : a.eval x = .slice A2 m c) (hl : news.length = m) (hr : Sl w w.heap.size sz A2 news) (hok : RowsOk sz news) (h63 : n + m ≤ maxLen) (hbytes : (n + m) * bytes ≤ 140737488355328) (hbase : B ≤ w.heap.size)
    (h : ∀ A' cap' w', OwnS w' B e sz A' (n + m) cap' (rows ++ news) → w.grownBy w' (blk A) → (blk A' = blk A ∨ blk A' = some w.heap.size) → K (a.put o.dst (.slice A' (n + m) cap')) w') :
    if Region.wanted o (yielded ops a.tmps) = true then Oper.wp P o a w K Q else E := by
  have hw : Region.wanted o (yielded ops a.tmps) = true := by simp [Region.wanted, hgd]
  rw [if_pos hw]
  exact wp_app s x t ho T hs hown hx hl hr hok h63 hbytes hbase h
end
end Go.Proofs.YtmfohnchnbgbaaaGreat

/- More words for memory: rows owned by the call, stored into, and kept behind stores elsewhere. -/
namespace Go.Proofs.YtmfohnchnbgbaaaGreat
open Go.RowKit

theorem grown_set (w : World) (a : Addr) (u : Value) : w.grownBy (w.setCell a u) (some a.block) :=
  ⟨rfl, rfl, rfl, by simp, fun k _ hk => heap_setCell_other w a k u (fun e => hk (by rw [e]))⟩
theorem OwnS.far {w : World} {B : Nat} {e : TypeId} {sz n cap : Nat} {A : Option Addr} {rows : List (List Value)} (h : OwnS w B e sz A n cap rows) {p : Addr} (hp : ∀ k, blk A = some k → k ≠ p.block) (u : Value) : OwnS (w.setCell p u) B e sz A n cap rows := by
  refine h.kept (grown_set w p u) ?_
  cases hA : blk A with
  | none => exact .inl rfl
  | some k => exact .inr (fun he => hp k hA (by simpa using he))
theorem OwnS.mono {w : World} {B B' : Nat} {e : TypeId} {sz n cap : Nat} {A : Option Addr} {rows : List (List Value)} (h : OwnS w B e sz A n cap rows) (hB : B' ≤ B) : OwnS w B' e sz A n cap rows := by
  refine ⟨⟨h.own.1, ?_⟩, h.len, h.ok⟩
  rcases h.own.2 with h2 | ⟨g, c, cur, h1, h2, h3⟩
  · exact .inl h2
  · exact .inr ⟨g, c, cur, h1, by omega, h3⟩
theorem sl_of_blk {W : World} {g sz : Nat} {e : TypeId} {cs : Array Value} (h : Blk W g e cs) : Sl W W.heap.size sz (some ⟨g, 0, none⟩) [cs.toList] := by
  intro i row hr
  match i, hr with
  | 0, hr =>
    simp at hr
    subst hr
    exact ⟨_, _, rfl, h.lt, fun j u hu => by rw [Nat.zero_mul, Nat.zero_add, Nat.zero_add, h.cell j, ← Array.getElem?_toList]; exact hu⟩
theorem set_flat {sz : Nat} : ∀ {rows : List (List Value)}, RowsOk sz rows → ∀ (i j : Nat) (row : List Value) (u : Value), rows[i]? = some row → j < sz → (rows.set i (row.set j u)).flatten = rows.flatten.set (i * sz + j) u
  | [], _, i, j, row, u, h, _ => by simp at h
  | r :: rows, ho, i, j, row, u, h, hj => by
    have hr := (ho r (by simp)).1
    cases i with
    | zero =>
      simp at h; subst h
      rw [List.set_cons_zero, List.flatten_cons, List.flatten_cons, Nat.zero_mul, Nat.zero_add, List.set_append_left _ _ (by omega)]
    | succ i =>
      rw [List.set_cons_succ, List.flatten_cons, List.flatten_cons, List.set_append_right _ _ (by rw [hr, Nat.add_mul]; omega), hr, show (i + 1) * sz + j - sz = i * sz + j by rw [Nat.add_mul]; omega,
        set_flat (rows := rows) (fun q hq => ho q (by simp [hq])) i j row u (by simpa using h) hj]
/-- A store into a row of an owned slice. -/
theorem OwnS.set_ {w : World} {B : Nat} {e : TypeId} {sz n cap g : Nat} {rows : List (List Value)} (h : OwnS w B e sz (some ⟨g, 0, none⟩) n cap rows) {i j : Nat} {row : List Value} (hr : rows[i]? = some row) (hj : j < sz) {u : Value} (hu : u.oneCell' = true) :
    OwnS (w.setCell ⟨g, i * sz + j, none⟩ u) B e sz (some ⟨g, 0, none⟩) n cap (rows.set i (row.set j u)) := by
  refine ⟨?_, by rw [List.length_set]; exact h.len, fun r hr' => ?_⟩
  · rw [set_flat h.ok i j row u hr hj]
    exact (h.own.stored (i * sz + j) u).1
  · rcases List.mem_or_eq_of_mem_set hr' with h1 | h1
    · exact h.ok r h1
    · subst h1
      have hrow := h.ok row (List.mem_of_getElem? hr)
      refine ⟨by rw [List.length_set]; exact hrow.1, fun v hv => ?_⟩
      rcases List.mem_or_eq_of_mem_set hv with h2 | h2
      · exact hrow.2 v h2
      · subst h2; exact hu
theorem OwnS.frozen {w : World} {B : Nat} {e : TypeId} {sz n cap g : Nat} {rows : List (List Value)} (h : OwnS w B e sz (some ⟨g, 0, none⟩) n cap rows) (j : Nat) : w.frozen? ⟨g, j, none⟩ = false := h.own.frozenAt j
/-- The first rows of an owned slice. -/
theorem OwnS.firsts {w : World} {B : Nat} {e : TypeId} {sz n cap : Nat} {A : Option Addr} {rows : List (List Value)} (h : OwnS w B e sz A n cap rows) {k : Nat} (hk : k ≤ n) : OwnS w B e sz A k cap (rows.take k) := by
  have hl : (rows.take k).length = k := by rw [List.length_take, h.len]; omega
  have hok : RowsOk sz (rows.take k) := fun r hr => h.ok r (List.mem_of_mem_take hr)
  refine ⟨⟨by rw [flat_len hok, hl], ?_⟩, hl, hok⟩
  have hcap := h.cap_le
  rcases h.own.2 with ⟨h1, h2⟩ | ⟨g, c, cur, h1, h2, h3, h4, h5, h6, h7⟩
  · cases h1
    have : k = 0 := by omega
    subst this
    exact .inl ⟨rfl, rfl⟩
  · cases h1
    refine .inr ⟨g, cap, cur, rfl, h2, h3, by omega, h5, h6, ?_⟩
    have hm : k * sz ≤ n * sz := Nat.mul_le_mul_right _ hk
    have e1 : (rows.flatten).take (k * sz) = (rows.take k).flatten := by
      conv => lhs; rw [← List.take_append_drop k rows]
      rw [List.flatten_append, List.take_append_of_le_length (by rw [flat_len hok, hl]; exact Nat.le_refl _), List.take_of_length_le (by rw [flat_len hok, hl]; exact Nat.le_refl _)]
    rw [← e1, ← h7, List.take_take, Nat.min_eq_left hm]
end Go.Proofs.YtmfohnchnbgbaaaGreat
