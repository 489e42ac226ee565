/- Words for memory: a slice that reads as a list of rows of cells; small closers for walks. -/
import Derived.Below
import Derived.Calls
import Derived.Deep.Draws
import Derived.Laws.OwnMore
import Derived.Laws.Rows
import Derived.Laws.ResultCell
import Derived.IntWalk
import Derived.WalkKit
import Derived.Lib.Hide
namespace Go.Proofs.YtndfgglnhkdciaaDoor
open Go.RowKit

theorem bcell {W w1 : World} (hb : Below W.heap.size W w1) : (∀ b o, b < W.heap.size → w1.cell? ⟨b, o, none⟩ = W.cell? ⟨b, o, none⟩) ∧ (∀ b o, b < W.heap.size → w1.frozen? ⟨b, o, none⟩ = W.frozen? ⟨b, o, none⟩) :=
  ⟨fun b o h => hb.cell (p := ⟨b, o, none⟩) h, fun b o h => hb.frozen (p := ⟨b, o, none⟩) h⟩

/-- A cell that was there before a call that writes nothing that was there. -/
theorem kept {W w' : World} {b o : Nat} {u : Value} (hb : Below W.heap.size W w') (h : W.cell? ⟨b, o, none⟩ = some u) : w'.cell? ⟨b, o, none⟩ = some u := by
  rw [hb.cell (p := ⟨b, o, none⟩) (block_lt_of_cell (a := ⟨b, o, none⟩) h)]
  exact h
theorem kept_drew {W w' : World} {b o : Nat} {u : Value} (hb : Below W.heap.size W.drew w') (h : W.cell? ⟨b, o, none⟩ = some u) : w'.cell? ⟨b, o, none⟩ = some u := kept (W := W.drew) hb h
theorem chain {w0 W w' : World} (h : Below w0.heap.size w0 W) (h2 : Below W.heap.size W w') : Below w0.heap.size w0 w' := h.trans (h2.mono h.size)
theorem chain1 {w0 w' : World} {o : Obj} (h2 : Below (w0.alloc o).heap.size (w0.alloc o) w') : Below w0.heap.size w0 w' := chain ((Below.refl _ _).alloc (Nat.le_refl _) _) h2
theorem bel_undrew {B : Nat} {a w : World} (h : Below B a.drew w) : Below B a w := ⟨h.os, h.tape, h.output, h.size, h.block⟩
theorem bel_drewN {B : Nat} {a w : World} (h : Below B a w) (n : Nat) : Below B a (w.drewN n) := ⟨h.os, h.tape, h.output, h.size, h.block⟩

theorem ret_bool {a b : Bool} (h : a = b) : Ending.returned (.bool a) = .returned (.bool b) := by rw [h]
theorem ret_int {k : IntKind} {a b : Int} (h : a = b) : Ending.returned (.int k a) = .returned (.int k b) := by rw [h]
theorem hide {p : Prop} (h : p) : Hid p := h

theorem drop_of {α : Type} {l : List α} {k : Nat} {x : α} (h : l[k]? = some x) : l.drop k = x :: l.drop (k + 1) := by
  obtain ⟨hk, he⟩ := List.getElem?_eq_some_iff.1 h
  rw [List.drop_eq_getElem_cons hk, he]
theorem take_of {α : Type} {l : List α} {k : Nat} {x : α} (h : l[k]? = some x) : l.take (k + 1) = l.take k ++ [x] := by
  obtain ⟨hk, he⟩ := List.getElem?_eq_some_iff.1 h
  rw [List.take_succ_eq_append_getElem hk, he]
theorem get_of {α : Type} {l : List α} {k : Nat} (h : k < l.length) : ∃ x, l[k]? = some x := ⟨l[k], List.getElem?_eq_getElem h⟩
theorem lt_of_get {α : Type} {l : List α} {k : Nat} {x : α} (h : l[k]? = some x) : k < l.length := (List.getElem?_eq_some_iff.1 h).1

/-- A block that is known whole. -/
def Blk (w : World) (g : Nat) (t : TypeId) (cs : Array Value) : Prop := w.heap[g]? = some (.cells cs t (0, 0))
section
variable {w w' : World} {g : Nat} {t : TypeId} {cs : Array Value}
theorem Blk.lt (h : Blk w g t cs) : g < w.heap.size := by
  rcases Nat.lt_or_ge g w.heap.size with hlt | hge
  · exact hlt
  · unfold Blk at h; rw [Array.getElem?_eq_none hge] at h; cases h
theorem Blk.cell (h : Blk w g t cs) (i : Nat) : w.cell? ⟨g, i, none⟩ = cs[i]? := cell_of_row w g i cs t (0, 0) h
theorem Blk.frozen (h : Blk w g t cs) (i : Nat) : w.frozen? ⟨g, i, none⟩ = false := frozen_of_row w g i cs t h
theorem Blk.new (w : World) (t : TypeId) (cs : Array Value) : Blk (w.alloc (.cells cs t)) w.heap.size t cs := heap_alloc_new w _
theorem Blk.new' {w : World} {t : TypeId} {cs : Array Value} {g : Nat} (h : g = w.heap.size) : Blk (w.alloc (.cells cs t)) g t cs := by subst h; exact Blk.new w t cs
theorem Blk.alloc (h : Blk w g t cs) (o : Obj) : Blk (w.alloc o) g t cs := (Below.heap_alloc w o g h.lt).trans h
theorem Blk.drew (h : Blk w g t cs) : Blk w.drew g t cs := h
theorem Blk.drewN (h : Blk w g t cs) (n : Nat) : Blk (w.drewN n) g t cs := h
theorem Blk.set_ (h : Blk w g t cs) (i : Nat) (u : Value) : Blk (w.setCell ⟨g, i, none⟩ u) g t (cs.setIfInBounds i u) := heap_setCell_same w g i cs t u h
theorem Blk.far (h : Blk w g t cs) {p : Addr} (hp : g ≠ p.block) (u : Value) : Blk (w.setCell p u) g t cs := (heap_setCell_other w p g u hp).trans h
theorem Blk.below {B : Nat} (h : Blk w g t cs) (hb : Below B w w') (hg : g < B) : Blk w' g t cs := (hb.block g hg).trans h
theorem Blk.grown {row : Option Nat} (h : Blk w g t cs) (hb : w.grownBy w' row) (hg : some g ≠ row) : Blk w' g t cs := (hb.block g h.lt hg).trans h
end

/-- A struct result that lies in a block that is known whole; one beside it. -/
theorem ret_row {P : Program} {fn : Func} {R : Ending → World → Prop} {a : Act} {w : World} {p : Tmp} {ty : TypeId} {g : Nat} {t : TypeId} {cs : Array Value} {d : TypeDesc} (h : fn.results = #[.cell p ty]) (hde : a.defers = [])
    (hp : a.tmps.getD p undef = .pointer (some ⟨g, 0, none⟩)) (hg : Blk w g t cs) (hu : P.underlying ty = some d) (hd : (match d with | .struct _ | .array _ _ => true | _ => false) = true) (hi : (P.info? ty).map (·.size) = some cs.size)
    (hR : R (.returned (.agg cs)) w) : bodyPost P fn R .ret a w := bodyPost_ret (results_cell_row h _ w g t cs (0, 0) d hp hg hu hd hi) hde hR
theorem ret_row2 {P : Program} {fn : Func} {R : Ending → World → Prop} {a : Act} {w : World} {p u : Tmp} {ty : TypeId} {g : Nat} {t : TypeId} {cs : Array Value} {d : TypeDesc} {x : Value} (h : fn.results = #[.cell p ty, .tmp u]) (hde : a.defers = [])
    (hp : a.tmps.getD p undef = .pointer (some ⟨g, 0, none⟩)) (hx : a.tmps.getD u undef = x) (hg : Blk w g t cs) (hu : P.underlying ty = some d) (hd : (match d with | .struct _ | .array _ _ => true | _ => false) = true) (hi : (P.info? ty).map (·.size) = some cs.size)
    (hR : R (.returned (.tuple #[.agg cs, x])) w) : bodyPost P fn R .ret a w :=
  bodyPost_ret (by rw [results_cell_tmp h, hp, hx]; simp [asAddr, run_loadVar_row w g t ty cs (0, 0) d hg hu hd hi]) hde hR

/-- The slice of address A reads in w, below block B, as the rows xs, each of sz cells. -/
def Sl (w : World) (B sz : Nat) (A : Option Addr) (xs : List (List Value)) : Prop :=
  ∀ i row, xs[i]? = some row → ∃ b off, A = some ⟨b, off, none⟩ ∧ b < B ∧ ∀ j u, row[j]? = some u → w.cell? ⟨b, off + (i * sz + j), none⟩ = some u

theorem Sl.nil_ {w : World} {B sz : Nat} {A : Option Addr} : Sl w B sz A [] := fun i row h => by simp at h
theorem Sl.keep {w w' : World} {B sz : Nat} {A : Option Addr} {xs : List (List Value)} (h : Sl w B sz A xs) (hk : ∀ b o, b < B → w'.cell? ⟨b, o, none⟩ = w.cell? ⟨b, o, none⟩) : Sl w' B sz A xs := by
  intro i row hr
  obtain ⟨b, off, hA, hb, hc⟩ := h i row hr
  exact ⟨b, off, hA, hb, fun j u hu => (hk b _ hb).trans (hc j u hu)⟩
theorem Sl.below {w w' : World} {B sz : Nat} {A : Option Addr} {xs : List (List Value)} (h : Sl w B sz A xs) (hb : Below B w w') : Sl w' B sz A xs :=
  h.keep fun b o hlt => hb.cell (p := ⟨b, o, none⟩) hlt
theorem Sl.more {w : World} {B B' sz : Nat} {A : Option Addr} {xs : List (List Value)} (h : Sl w B sz A xs) (hB : B ≤ B') : Sl w B' sz A xs := by
  intro i row hr
  obtain ⟨b, off, hA, hb, hc⟩ := h i row hr
  exact ⟨b, off, hA, by omega, hc⟩
/-- What s[k:] reads as. -/
theorem Sl.cut {w : World} {B sz k cap : Nat} {A : Option Addr} {xs : List (List Value)} (h : Sl w B sz A xs) (hc : xs.length ≤ cap) :
    Sl w B sz (if cap = k then A else A.map (·.add (k * sz))) (xs.drop k) := by
  intro i row hr
  have hr' : xs[k + i]? = some row := by rw [← hr, List.getElem?_drop]
  have hlt := lt_of_get hr'
  obtain ⟨b, off, hA, hb, hcell⟩ := h _ row hr'
  subst hA
  refine ⟨b, off + k * sz, by rw [if_neg (by omega)]; simp [Addr.add], hb, fun j u hu => ?_⟩
  rw [← hcell j u hu]
  congr 2
  rw [Nat.add_mul]; omega

/-- A slice value that may come in, or go from call to call: what it reads as, its bounds. -/
structure SV (w : World) (sz : Nat) (A : Option Addr) (n cap : Nat) (rows : List (List Value)) : Prop where
  sl : Sl w w.heap.size sz A rows
  len : rows.length = n
  le : n ≤ cap
  most : cap ≤ maxLen
  nil : A = none → cap = 0
theorem SV.below {w w' : World} {sz : Nat} {A : Option Addr} {n cap : Nat} {rows : List (List Value)} (h : SV w sz A n cap rows) (hb : Below w.heap.size w w') : SV w' sz A n cap rows :=
  ⟨(h.sl.below hb).more hb.size, h.len, h.le, h.most, h.nil⟩
end Go.Proofs.YtndfgglnhkdciaaDoor
