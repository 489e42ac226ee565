/- Part 1 of the proof. -/
import Derived.Below
import Derived.Calls
import Derived.Deep.Draws
import Derived.Laws.OwnMore
import Derived.Laws.Rows
import Derived.Laws.ResultCell
import Derived.IntWalk
import Derived.WalkKit
import Derived.Lib.Hide
import Derived.Maps.AppendAt
import Derived.RegionTactic
import Derived.OwnWalk
import Derived.Deep.Slices
import Derived.ProofKit
import Derived.OpenShut
import Derived.ChangeOld
import Derived.Carry
import Derived.Test.YtmfohnchnbgbaaaGreatDoorRows
import Derived.Deep.RegionWith
import Derived.Deep.DeepMust
import Derived.BigQuiet
import Derived.Deep.RegionHeld3
import Derived.Deep.QuietTactic
import Derived.Defers
import Derived.Recover
import Derived.Shelf.Abstract
import Derived.ScopeJumps
import Derived.WalkMore
import Derived.Laws.EntriesVeiled
import Derived.Deep.RegionLaw
import Derived.Deep.CutRange
import Derived.Lib.Strings
import Derived.Lib.Slices
import Derived.Lib.Small
import Derived.Lib.Walk
import Derived.Lib.BitFns
import Derived.Shelf.Bits.Mul64
/- Words for memory: a slice that reads as a list of rows of cells; small closers for walks. -/
namespace Go.Proofs.YtmfohnchnbgbaaaGreatDoor
open Go.RowKit

theorem bcell {W w1 : World} (hb : Below W.heap.size W w1) : (∀ b o, b < W.heap.size → w1.cell? ⟨b, o, none⟩ = W.cell? ⟨b, o, none⟩) ∧ (∀ b o, b < W.heap.size → w1.frozen? ⟨b, o, none⟩ = W.frozen? ⟨b, o, none⟩) :=
  ⟨fun b o h => hb.cell (p := ⟨b, o, none⟩) h, fun b o h => hb.frozen (p := ⟨b, o, none⟩) h⟩

/-- A cell that was there before a call that writes nothing that was there. -/
theorem kept {W w' : World} {b o : Nat} {u : Value} (hb : Below W.heap.size W w') (h : W.cell? ⟨b, o, none⟩ = some u) : w'.cell? ⟨b, o, none⟩ = some u := by
  rw [hb.cell (p := ⟨b, o, none⟩) (block_lt_of_cell (a := ⟨b, o, none⟩) h)]
  exact h
theorem kept_drew {W w' : World} {b o : Nat} {u : Value} (hb : Below W.heap.size W.drew w') (h : W.cell? ⟨b, o, none⟩ = some u) : w'.cell? ⟨b, o, none⟩ = some u := kept (W := W.drew) hb h
theorem chain {w0 W w' : World} (h : Below w0.heap.size w0 W) (h2 : Below W.heap.size W w') : Below w0.heap.size w0 w' := h.trans (h2.mono h.size)
theorem chain1 {w0 w' : World} {o : Obj} (h2 : Below (w0.alloc o).heap.size (w0.alloc o) w') : Below w0.heap.size w0 w' := chain ((Below.refl _ _).alloc (Nat.le_refl _) _) h2
theorem bel_undrew {B : Nat} {a w : World} (h : Below B a.drew w) : Below B a w := ⟨h.os, h.tape, h.output, h.size, h.block⟩
theorem bel_drewN {B : Nat} {a w : World} (h : Below B a w) (n : Nat) : Below B a (w.drewN n) := ⟨h.os, h.tape, h.output, h.size, h.block⟩

theorem ret_bool {a b : Bool} (h : a = b) : Ending.returned (.bool a) = .returned (.bool b) := by rw [h]
theorem ret_int {k : IntKind} {a b : Int} (h : a = b) : Ending.returned (.int k a) = .returned (.int k b) := by rw [h]
theorem hide {p : Prop} (h : p) : Hid p := h

theorem drop_of {α : Type} {l : List α} {k : Nat} {x : α} (h : l[k]? = some x) : l.drop k = x :: l.drop (k + 1) := by
  obtain ⟨hk, he⟩ := List.getElem?_eq_some_iff.1 h
  rw [List.drop_eq_getElem_cons hk, he]
theorem take_of {α : Type} {l : List α} {k : Nat} {x : α} (h : l[k]? = some x) : l.take (k + 1) = l.take k ++ [x] := by
  obtain ⟨hk, he⟩ := List.getElem?_eq_some_iff.1 h
  rw [List.take_succ_eq_append_getElem hk, he]
theorem get_of {α : Type} {l : List α} {k : Nat} (h : k < l.length) : ∃ x, l[k]? = some x := ⟨l[k], List.getElem?_eq_getElem h⟩
theorem lt_of_get {α : Type} {l : List α} {k : Nat} {x : α} (h : l[k]? = some x) : k < l.length := (List.getElem?_eq_some_iff.1 h).1

/-- A block that is known whole. -/
def Blk (w : World) (g : Nat) (t : TypeId) (cs : Array Value) : Prop := w.heap[g]? = some (.cells cs t (0, 0))
section
variable {w w' : World} {g : Nat} {t : TypeId} {cs : Array Value}
theorem Blk.lt (h : Blk w g t cs) : g < w.heap.size := by
  rcases Nat.lt_or_ge g w.heap.size with hlt | hge
  · exact hlt
  · unfold Blk at h; rw [Array.getElem?_eq_none hge] at h; cases h
theorem Blk.cell (h : Blk w g t cs) (i : Nat) : w.cell? ⟨g, i, none⟩ = cs[i]? := cell_of_row w g i cs t (0, 0) h
theorem Blk.frozen (h : Blk w g t cs) (i : Nat) : w.frozen? ⟨g, i, none⟩ = false := frozen_of_row w g i cs t h
theorem Blk.new (w : World) (t : TypeId) (cs : Array Value) : Blk (w.alloc (.cells cs t)) w.heap.size t cs := heap_alloc_new w _
theorem Blk.new' {w : World} {t : TypeId} {cs : Array Value} {g : Nat} (h : g = w.heap.size) : Blk (w.alloc (.cells cs t)) g t cs := by subst h; exact Blk.new w t cs
theorem Blk.alloc (h : Blk w g t cs) (o : Obj) : Blk (w.alloc o) g t cs := (Below.heap_alloc w o g h.lt).trans h
theorem Blk.drew (h : Blk w g t cs) : Blk w.drew g t cs := h
theorem Blk.drewN (h : Blk w g t cs) (n : Nat) : Blk (w.drewN n) g t cs := h
theorem Blk.set_ (h : Blk w g t cs) (i : Nat) (u : Value) : Blk (w.setCell ⟨g, i, none⟩ u) g t (cs.setIfInBounds i u) := heap_setCell_same w g i cs t u h
theorem Blk.far (h : Blk w g t cs) {p : Addr} (hp : g ≠ p.block) (u : Value) : Blk (w.setCell p u) g t cs := (heap_setCell_other w p g u hp).trans h
theorem Blk.below {B : Nat} (h : Blk w g t cs) (hb : Below B w w') (hg : g < B) : Blk w' g t cs := (hb.block g hg).trans h
theorem Blk.grown {row : Option Nat} (h : Blk w g t cs) (hb : w.grownBy w' row) (hg : some g ≠ row) : Blk w' g t cs := (hb.block g h.lt hg).trans h
end

/-- A struct result that lies in a block that is known whole; one beside it. -/
theorem ret_row {P : Program} {fn : Func} {R : Ending → World → Prop} {a : Act} {w : World} {p : Tmp} {ty : TypeId} {g : Nat} {t : TypeId} {cs : Array Value} {d : TypeDesc} (h : fn.results = #[.cell p ty]) (hde : a.defers = [])
    (hp : a.tmps.getD p undef = .pointer (some ⟨g, 0, none⟩)) (hg : Blk w g t cs) (hu : P.underlying ty = some d) (hd : (match d with | .struct _ | .array _ _ => true | _ => false) = true) (hi : (P.info? ty).map (·.size) = some cs.size)
    (hR : R (.returned (.agg cs)) w) : bodyPost P fn R .ret a w := bodyPost_ret (results_cell_row h _ w g t cs (0, 0) d hp hg hu hd hi) hde hR
theorem ret_row2 {P : Program} {fn : Func} {R : Ending → World → Prop} {a : Act} {w : World} {p u : Tmp} {ty : TypeId} {g : Nat} {t : TypeId} {cs : Array Value} {d : TypeDesc} {x : Value} (h : fn.results = #[.cell p ty, .tmp u]) (hde : a.defers = [])
    (hp : a.tmps.getD p undef = .pointer (some ⟨g, 0, none⟩)) (hx : a.tmps.getD u undef = x) (hg : Blk w g t cs) (hu : P.underlying ty = some d) (hd : (match d with | .struct _ | .array _ _ => true | _ => false) = true) (hi : (P.info? ty).map (·.size) = some cs.size)
    (hR : R (.returned (.tuple #[.agg cs, x])) w) : bodyPost P fn R .ret a w :=
  bodyPost_ret (by rw [results_cell_tmp h, hp, hx]; simp [asAddr, run_loadVar_row w g t ty cs (0, 0) d hg hu hd hi]) hde hR

/-- The slice of address A reads in w, below block B, as the rows xs, each of sz cells. -/
def Sl (w : World) (B sz : Nat) (A : Option Addr) (xs : List (List Value)) : Prop :=
  ∀ i row, xs[i]? = some row → ∃ b off, A = some ⟨b, off, none⟩ ∧ b < B ∧ ∀ j u, row[j]? = some u → w.cell? ⟨b, off + (i * sz + j), none⟩ = some u

theorem Sl.nil_ {w : World} {B sz : Nat} {A : Option Addr} : Sl w B sz A [] := fun i row h => by simp at h
theorem Sl.keep {w w' : World} {B sz : Nat} {A : Option Addr} {xs : List (List Value)} (h : Sl w B sz A xs) (hk : ∀ b o, b < B → w'.cell? ⟨b, o, none⟩ = w.cell? ⟨b, o, none⟩) : Sl w' B sz A xs := by
  intro i row hr
  obtain ⟨b, off, hA, hb, hc⟩ := h i row hr
  exact ⟨b, off, hA, hb, fun j u hu => (hk b _ hb).trans (hc j u hu)⟩
theorem Sl.below {w w' : World} {B sz : Nat} {A : Option Addr} {xs : List (List Value)} (h : Sl w B sz A xs) (hb : Below B w w') : Sl w' B sz A xs :=
  h.keep fun b o hlt => hb.cell (p := ⟨b, o, none⟩) hlt
theorem Sl.more {w : World} {B B' sz : Nat} {A : Option Addr} {xs : List (List Value)} (h : Sl w B sz A xs) (hB : B ≤ B') : Sl w B' sz A xs := by
  intro i row hr
  obtain ⟨b, off, hA, hb, hc⟩ := h i row hr
  exact ⟨b, off, hA, by omega, hc⟩
/-- What s[k:] reads as. -/
theorem Sl.cut {w : World} {B sz k cap : Nat} {A : Option Addr} {xs : List (List Value)} (h : Sl w B sz A xs) (hc : xs.length ≤ cap) :
    Sl w B sz (if cap = k then A else A.map (·.add (k * sz))) (xs.drop k) := by
  intro i row hr
  have hr' : xs[k + i]? = some row := by rw [← hr, List.getElem?_drop]
  have hlt := lt_of_get hr'
  obtain ⟨b, off, hA, hb, hcell⟩ := h _ row hr'
  subst hA
  refine ⟨b, off + k * sz, by rw [if_neg (by omega)]; simp [Addr.add], hb, fun j u hu => ?_⟩
  rw [← hcell j u hu]
  congr 2
  rw [Nat.add_mul]; omega

/-- A slice value that may come in, or go from call to call: what it reads as, its bounds. -/
structure SV (w : World) (sz : Nat) (A : Option Addr) (n cap : Nat) (rows : List (List Value)) : Prop where
  sl : Sl w w.heap.size sz A rows
  len : rows.length = n
  le : n ≤ cap
  most : cap ≤ maxLen
  nil : A = none → cap = 0
theorem SV.below {w w' : World} {sz : Nat} {A : Option Addr} {n cap : Nat} {rows : List (List Value)} (h : SV w sz A n cap rows) (hb : Below w.heap.size w w') : SV w' sz A n cap rows :=
  ⟨(h.sl.below hb).more hb.size, h.len, h.le, h.most, h.nil⟩
end Go.Proofs.YtmfohnchnbgbaaaGreatDoor

/- append onto a slice that the call owns, its source nil, empty or not, in rows. -/
namespace Go.Proofs.YtmfohnchnbgbaaaGreatDoor
open Go.RowKit

/-- What is asked of a slice's type and its elements' type. -/
structure ElT (P : Program) (t e : TypeId) (sz bytes : Nat) : Prop where
  ht : P.underlying t = some (.slice e)
  hi : ∃ i z, P.info? e = some i ∧ i.zero = some z ∧ i.size = sz ∧ i.bytes = bytes ∧ z.cells.size = sz
  hsz : 0 < sz
theorem ElT.mk' {P : Program} {t e : TypeId} {sz bytes : Nat} {z : Value} (ht : P.underlying t = some (.slice e)) (h : (P.info? e).map (fun i => (i.zero, i.size, i.bytes)) = some (some z, sz, bytes)) (hz : z.cells.size = sz) (hsz : 0 < sz) : ElT P t e sz bytes := by
  obtain ⟨i, h1, h2, h3, h4⟩ := info_parts h
  exact ⟨ht, ⟨i, z, h1, h2, h3, h4, hz⟩, hsz⟩

def RowsOk (sz : Nat) (rows : List (List Value)) : Prop := ∀ r ∈ rows, r.length = sz ∧ ∀ u ∈ r, u.oneCell' = true
theorem RowsOk.app {sz : Nat} {a b : List (List Value)} (ha : RowsOk sz a) (hb : RowsOk sz b) : RowsOk sz (a ++ b) := fun r hr => by
  rcases List.mem_append.1 hr with h | h
  · exact ha r h
  · exact hb r h
theorem RowsOk.nil_ {sz : Nat} : RowsOk sz [] := fun r hr => by simp at hr
theorem flat_len {sz : Nat} : ∀ {rows : List (List Value)}, RowsOk sz rows → rows.flatten.length = rows.length * sz
  | [], _ => by simp
  | r :: rows, h => by
    rw [List.flatten_cons, List.length_append, (h r (by simp)).1, flat_len (rows := rows) (fun q hq => h q (by simp [hq])), List.length_cons, Nat.add_mul]; omega
theorem flat_at {sz : Nat} : ∀ {rows : List (List Value)}, RowsOk sz rows → ∀ i row j u, rows[i]? = some row → row[j]? = some u → rows.flatten[i * sz + j]? = some u
  | [], _, i, row, j, u, h, _ => by simp at h
  | r :: rows, ho, i, row, j, u, h, hu => by
    rw [List.flatten_cons]
    have hr := (ho r (by simp)).1
    cases i with
    | zero =>
      simp at h; subst h
      rw [Nat.zero_mul, Nat.zero_add, List.getElem?_append_left (lt_of_get hu)]
      exact hu
    | succ i =>
      rw [List.getElem?_append_right (by rw [hr, Nat.add_mul]; omega), hr, show (i + 1) * sz + j - sz = i * sz + j by rw [Nat.add_mul]; omega]
      exact flat_at (rows := rows) (fun q hq => ho q (by simp [hq])) i row j u (by simpa using h) hu
theorem at_flat {sz : Nat} (hsz : 0 < sz) : ∀ {rows : List (List Value)}, RowsOk sz rows → ∀ q u, rows.flatten[q]? = some u → ∃ i row j, rows[i]? = some row ∧ row[j]? = some u ∧ q = i * sz + j
  | [], _, q, u, h => by simp at h
  | r :: rows, ho, q, u, h => by
    rw [List.flatten_cons] at h
    have hr := (ho r (by simp)).1
    by_cases hq : q < r.length
    · rw [List.getElem?_append_left hq] at h
      exact ⟨0, r, q, rfl, h, by simp⟩
    · rw [List.getElem?_append_right (by omega)] at h
      obtain ⟨i, row, j, h1, h2, h3⟩ := at_flat hsz (rows := rows) (fun q hq => ho q (by simp [hq])) _ u h
      exact ⟨i + 1, row, j, by simpa using h1, h2, by rw [Nat.add_mul]; omega⟩

/-- The slice of address A, length n, capacity cap owns the rows, in blocks from B on. -/
structure OwnS (w : World) (B : Nat) (e : TypeId) (sz : Nat) (A : Option Addr) (n cap : Nat) (rows : List (List Value)) : Prop where
  own : w.ownsRow B e sz (.slice A n cap) n rows.flatten
  len : rows.length = n
  ok : RowsOk sz rows
def blk (A : Option Addr) : Option Nat := A.map (·.block)
theorem ownBlock_blk (A : Option Addr) (n cap : Nat) : (Value.slice A n cap).ownBlock = blk A := by cases A <;> rfl

section
variable {w w' : World} {B : Nat} {e : TypeId} {sz n cap : Nat} {A : Option Addr} {rows : List (List Value)}
theorem OwnS.nil_ (w : World) (B : Nat) (e : TypeId) (sz : Nat) : OwnS w B e sz none 0 0 [] := ⟨World.ownsRow_nil w B e sz, rfl, RowsOk.nil_⟩
theorem OwnS.lt (h : OwnS w B e sz A n cap rows) : ∀ k, blk A = some k → B ≤ k ∧ k < w.heap.size := fun k hk => h.own.lt k (by rw [ownBlock_blk]; exact hk)
theorem OwnS.cap_le (h : OwnS w B e sz A n cap rows) : n ≤ cap ∧ cap ≤ maxLen := by
  rcases h.own.2 with ⟨h1, h2⟩ | ⟨g, c, cur, hv, _, _, h3, h4, _⟩
  · cases h1; exact ⟨Nat.le_refl _, by simp [maxLen]⟩
  · cases hv; exact ⟨h3, h4⟩
theorem OwnS.addr (h : OwnS w B e sz A n cap rows) : (A = none ∧ n = 0 ∧ cap = 0) ∨ ∃ g, A = some ⟨g, 0, none⟩ ∧ B ≤ g ∧ g < w.heap.size := by
  rcases h.own.2 with ⟨h1, h2⟩ | ⟨g, c, cur, hv, hb, _⟩
  · cases h1; exact .inl ⟨rfl, rfl, rfl⟩
  · cases hv; exact .inr ⟨g, rfl, hb, (h.lt g rfl).2⟩
theorem OwnS.sl (h : OwnS w B e sz A n cap rows) : Sl w w.heap.size sz A rows := by
  intro i row hr
  have hlt := lt_of_get hr
  have hl := h.len
  rcases h.addr with ⟨_, h0, _⟩ | ⟨g, rfl, _, hg⟩
  · omega
  · refine ⟨g, 0, rfl, hg, fun j u hu => ?_⟩
    have hj := lt_of_get hu
    have hrl := (h.ok row (List.mem_of_getElem? hr)).1
    have hmul : (i + 1) * sz ≤ n * sz := Nat.mul_le_mul_right _ (by omega)
    rw [Nat.add_mul] at hmul
    rw [Nat.zero_add, h.own.cellAt (i * sz + j) (by omega)]
    exact flat_at h.ok i row j u hr hu
theorem OwnS.kept (h : OwnS w B e sz A n cap rows) {row : Option Nat} (hg : w.grownBy w' row) (hne : blk A = none ∨ blk A ≠ row) : OwnS w' B e sz A n cap rows :=
  ⟨h.own.kept hg (by rw [ownBlock_blk]; exact hne), h.len, h.ok⟩
theorem grown_of_below (hb : Below w.heap.size w w') (row : Option Nat) : w.grownBy w' row := ⟨hb.os, hb.tape, hb.output, hb.size, fun i hi _ => hb.block i hi⟩
theorem OwnS.below (h : OwnS w B e sz A n cap rows) (hb : Below w.heap.size w w') : OwnS w' B e sz A n cap rows := by
  cases hA : A with
  | none => subst hA; exact h.kept (grown_of_below hb none) (.inl rfl)
  | some ad => subst hA; exact h.kept (grown_of_below hb none) (.inr (by simp [blk]))
theorem OwnS.alloc (h : OwnS w B e sz A n cap rows) (o : Obj) : OwnS (w.alloc o) B e sz A n cap rows := ⟨h.own.alloc o, h.len, h.ok⟩
theorem OwnS.drew (h : OwnS w B e sz A n cap rows) : OwnS w.drew B e sz A n cap rows := ⟨h.own.drew, h.len, h.ok⟩
theorem OwnS.drewN (h : OwnS w B e sz A n cap rows) (k : Nat) : OwnS (w.drewN k) B e sz A n cap rows := ⟨h.own, h.len, h.ok⟩
/-- A row that a literal has just made. -/
theorem OwnS.lit (w : World) {B : Nat} (hB : B ≤ w.heap.size) (e : TypeId) {sz : Nat} (rows : List (List Value)) (hr : RowsOk sz rows) (hm : rows.length ≤ maxLen) (cs : Array Value) (hcs : cs.toList = rows.flatten) :
    OwnS (w.alloc (.cells cs e)) B e sz (some ⟨w.heap.size, 0, none⟩) rows.length rows.length rows := by
  refine ⟨?_, rfl, hr⟩
  have hsz : cs.size = rows.length * sz := by rw [← Array.length_toList, hcs, flat_len hr]
  exact ⟨flat_len hr, .inr ⟨w.heap.size, _, cs, rfl, hB, heap_alloc_new w _, Nat.le_refl _, hm, hsz, by rw [← hcs, List.take_of_length_le (by rw [Array.length_toList, hsz]; exact Nat.le_refl _)]⟩⟩
end
theorem OwnS.sv {w : World} {B : Nat} {e : TypeId} {sz n cap : Nat} {A : Option Addr} {rows : List (List Value)} (h : OwnS w B e sz A n cap rows) : SV w sz A n cap rows :=
  ⟨h.sl, h.len, h.cap_le.1, h.cap_le.2, fun hA => by
    rcases h.addr with ⟨_, _, h0⟩ | ⟨g, h1, _⟩
    · exact h0
    · rw [h1] at hA; cases hA⟩

section
variable {P : Program} (w : World)
theorem run_app {t ty e : TypeId} {sz bytes : Nat} (T : ElT P t e sz bytes) {B : Nat} {A : Option Addr} {n cap : Nat} {rows : List (List Value)} (hown : OwnS w B e sz A n cap rows)
    {A2 : Option Addr} {m c : Nat} {news : List (List Value)} (hl : news.length = m) (hr : Sl w w.heap.size sz A2 news) (hok : RowsOk sz news) (h63 : n + m ≤ maxLen) (hbytes : (n + m) * bytes ≤ 140737488355328) (hbase : B ≤ w.heap.size) :
    ∃ A' cap' w', (Builtin.append_ #[t, t] ty #[.slice A n cap, .slice A2 m c]).run P w = .ok (.slice A' (n + m) cap') w' ∧ OwnS w' B e sz A' (n + m) cap' (rows ++ news) ∧ w.grownBy w' (blk A) ∧
      (blk A' = blk A ∨ blk A' = some w.heap.size) := by
  obtain ⟨ht, ⟨i, z, hi, hz, hsize, hby, hzs⟩, hsz⟩ := T
  have fin : ∀ v' w', (Builtin.append_ #[t, t] ty #[.slice A n cap, .slice A2 m c]).run P w = .ok v' w' → w'.ownsRow B e sz v' (n + m) (rows.flatten ++ news.flatten) → w.grownBy w' (blk A) → (v'.ownBlock = blk A ∨ v'.ownBlock = some w.heap.size) →
      ∃ A' cap' w', (Builtin.append_ #[t, t] ty #[.slice A n cap, .slice A2 m c]).run P w = .ok (.slice A' (n + m) cap') w' ∧ OwnS w' B e sz A' (n + m) cap' (rows ++ news) ∧ w.grownBy w' (blk A) ∧ (blk A' = blk A ∨ blk A' = some w.heap.size) := by
    intro v' w' hrun h2 h3 h4
    have hv : ∃ A' cap', v' = .slice A' (n + m) cap' := by
      rcases h2.2 with ⟨h, h0⟩ | ⟨g, c', cur, h, _⟩
      · exact ⟨none, 0, by rw [h, h0]⟩
      · exact ⟨_, _, h⟩
    obtain ⟨A', cap', rfl⟩ := hv
    rw [ownBlock_blk] at h4
    exact ⟨A', cap', w', hrun, ⟨by rw [List.flatten_append]; exact h2, by rw [List.length_append, hown.len, hl], hown.ok.app hok⟩, h3, h4⟩
  cases A2 with
  | none =>
    have hm : news = [] := by
      cases hnews : news with
      | nil => rfl
      | cons r rs =>
        subst hnews
        obtain ⟨b, off, h, _⟩ := hr 0 r rfl
        cases h
    subst hm
    simp at hl
    subst hl
    have hrun : (Builtin.append_ #[t, t] ty #[.slice A n cap, .slice none 0 c]).run P w = .ok (.slice A n cap) w := by
      rcases hown.own.2 with ⟨h, h0⟩ | ⟨g, c', cur, h, _, _, hnc, _⟩
      · cases h
        simp [Builtin.append_, run_underlying ht, sizeOf, typeInfo, hi, Builtin.lenOf, Builtin.firstCells]
      · cases h
        simp [Builtin.append_, run_underlying ht, sizeOf, typeInfo, hi, Builtin.lenOf, Builtin.firstCells, hnc, storeCells]
    exact fin _ _ hrun (by simpa using hown.own) (World.grownBy.refl w _) (.inl (ownBlock_blk _ _ _))
  | some ad =>
    have hcells : ∀ j u, news.flatten[j]? = some u → w.cell? (ad.add j) = some u := by
      intro q u hu
      obtain ⟨i', row, j, h1, h2, rfl⟩ := at_flat hsz hok q u hu
      obtain ⟨b, off, he, _, hc⟩ := hr i' row h1
      cases he
      rw [← hc j u h2]
      congr 1
      unfold Addr.add
      split
      · simp_all
      · rfl
    obtain ⟨v', w', hrun, h2, h3, _, h5⟩ := run_append_own_at (P := P) w B t ty e i z sz bytes ht hi hz hsize hby hzs hsz (.slice A n cap) n rows.flatten hown.own ad m c news.flatten (by rw [flat_len hok, hl]) hcells
      (fun u hu => by obtain ⟨r, hr', hu'⟩ := List.mem_flatten.1 hu; exact (hok r hr').2 u hu') h63 hbytes hbase
    rw [ownBlock_blk] at h3 h5
    exact fin _ _ hrun h2 h3 h5

variable {w}
theorem wp_app {o : Oper} {a : Act} {K : Act → World → Prop} {Q : Exit → Act → World → Prop} (s x : Operand) (t : TypeId) (ho : o.op = .call { callee := .builtin .append, args := #[s, x], argTypes := #[t, t] })
    {e : TypeId} {sz bytes : Nat} (T : ElT P t e sz bytes) {B : Nat} {A : Option Addr} {n cap : Nat} {rows : List (List Value)} (hs : a.eval s = .slice A n cap) (hown : OwnS w B e sz A n cap rows)
    {A2 : Option Addr} {m c : Nat} {news : List (List Value)} (hx : a.eval x = .slice A2 m c) (hl : news.length = m) (hr : Sl w w.heap.size sz A2 news) (hok : RowsOk sz news) (h63 : n + m ≤ maxLen) (hbytes : (n + m) * bytes ≤ 140737488355328) (hbase : B ≤ w.heap.size)
    (h : ∀ A' cap' w', OwnS w' B e sz A' (n + m) cap' (rows ++ news) → w.grownBy w' (blk A) → (blk A' = blk A ∨ blk A' = some w.heap.size) → K (a.put o.dst (.slice A' (n + m) cap')) w') : o.wp P a w K Q := by
  obtain ⟨A', cap', w', hrun, h2, h3, h4⟩ := run_app (P := P) (ty := o.type) (c := c) w T hown hl hr hok h63 hbytes hbase
  unfold Oper.wp execOp
  simp only [ho, resolve, invoke, builtin, Sem.run_bind, Sem.run_pure, Result.andThen_ok, List.map_toArray, List.map_cons, List.map_nil, hs, hx, hrun]
  exact h A' cap' w' h2 h3 h4

theorem wpList_app {ops : Array Oper} {rest : List Oper} {o : Oper} {a : Act} {Q : Exit → Act → World → Prop} (hgd : o.guard = none) (s x : Operand) (t : TypeId) (ho : o.op = .call { callee := .builtin .append, args := #[s, x], argTypes := #[t, t] })
    {e : TypeId} {sz bytes : Nat} (T : ElT P t e sz bytes) {B : Nat} {A : Option Addr} {n cap : Nat} {rows : List (List Value)} (hs : a.eval s = .slice A n cap) (hown : OwnS w B e sz A n cap rows)
    {A2 : Option Addr} {m c : Nat} {news : List (List Value)} (hx : a.eval x = .slice A2 m c) (hl : news.length = m) (hr : Sl w w.heap.size sz A2 news) (hok : RowsOk sz news) (h63 : n + m ≤ maxLen) (hbytes : (n + m) * bytes ≤ 140737488355328) (hbase : B ≤ w.heap.size)
    (h : ∀ A' cap' w', OwnS w' B e sz A' (n + m) cap' (rows ++ news) → w.grownBy w' (blk A) → (blk A' = blk A ∨ blk A' = some w.heap.size) → wpList P ops Q rest (a.put o.dst (.slice A' (n + m) cap')) w') : wpList P ops Q (o :: rest) a w :=
  wpList_plain hgd fun _ hK => wp_app s x t ho T hs hown hx hl hr hok h63 hbytes hbase fun A' cap' w' h2 h3 h4 => hK _ _ (h A' cap' w' h2 h3 h4)

theorem step_app {ops : Array Oper} {o : Oper} {a : Act} {K : Act → World → Prop} {Q : Exit → Act → World → Prop} {E : Prop} (hgd : o.guard = none) (s x : Operand) (t : TypeId) (ho : o.op = .call { callee := .builtin .append, args := #[s, x], argTypes := #[t, t] })
    {e : TypeId} {sz bytes : Nat} (T : ElT P t e sz bytes) {B : Nat} {A : Option Addr} {n cap : Nat} {rows : List (List Value)} (hs : a.eval s = .slice A n cap) (hown : OwnS w B e sz A n cap rows)
    {A2 : Option Addr} {m c : Nat} {news : List (List Value)} (hx : a.eval x = .slice A2 m c) (hl : news.length = m) (hr : Sl w w.heap.size sz A2 news) (hok : RowsOk sz news) (h63 : n + m ≤ maxLen) (hbytes : (n + m) * bytes ≤ 140737488355328) (hbase : B ≤ w.heap.size)
    (h : ∀ A' cap' w', OwnS w' B e sz A' (n + m) cap' (rows ++ news) → w.grownBy w' (blk A) → (blk A' = blk A ∨ blk A' = some w.heap.size) → K (a.put o.dst (.slice A' (n + m) cap')) w') :
    if Region.wanted o (yielded ops a.tmps) = true then Oper.wp P o a w K Q else E := by
  have hw : Region.wanted o (yielded ops a.tmps) = true := by simp [Region.wanted, hgd]
  rw [if_pos hw]
  exact wp_app s x t ho T hs hown hx hl hr hok h63 hbytes hbase h
end
end Go.Proofs.YtmfohnchnbgbaaaGreatDoor

/- More words for memory: rows owned by the call, stored into, and kept behind stores elsewhere. -/
namespace Go.Proofs.YtmfohnchnbgbaaaGreatDoor
open Go.RowKit

theorem grown_set (w : World) (a : Addr) (u : Value) : w.grownBy (w.setCell a u) (some a.block) :=
  ⟨rfl, rfl, rfl, by simp, fun k _ hk => heap_setCell_other w a k u (fun e => hk (by rw [e]))⟩
theorem OwnS.far {w : World} {B : Nat} {e : TypeId} {sz n cap : Nat} {A : Option Addr} {rows : List (List Value)} (h : OwnS w B e sz A n cap rows) {p : Addr} (hp : ∀ k, blk A = some k → k ≠ p.block) (u : Value) : OwnS (w.setCell p u) B e sz A n cap rows := by
  refine h.kept (grown_set w p u) ?_
  cases hA : blk A with
  | none => exact .inl rfl
  | some k => exact .inr (fun he => hp k hA (by simpa using he))
theorem OwnS.mono {w : World} {B B' : Nat} {e : TypeId} {sz n cap : Nat} {A : Option Addr} {rows : List (List Value)} (h : OwnS w B e sz A n cap rows) (hB : B' ≤ B) : OwnS w B' e sz A n cap rows := by
  refine ⟨⟨h.own.1, ?_⟩, h.len, h.ok⟩
  rcases h.own.2 with h2 | ⟨g, c, cur, h1, h2, h3⟩
  · exact .inl h2
  · exact .inr ⟨g, c, cur, h1, by omega, h3⟩
theorem sl_of_blk {W : World} {g sz : Nat} {e : TypeId} {cs : Array Value} (h : Blk W g e cs) : Sl W W.heap.size sz (some ⟨g, 0, none⟩) [cs.toList] := by
  intro i row hr
  match i, hr with
  | 0, hr =>
    simp at hr
    subst hr
    exact ⟨_, _, rfl, h.lt, fun j u hu => by rw [Nat.zero_mul, Nat.zero_add, Nat.zero_add, h.cell j, ← Array.getElem?_toList]; exact hu⟩
theorem set_flat {sz : Nat} : ∀ {rows : List (List Value)}, RowsOk sz rows → ∀ (i j : Nat) (row : List Value) (u : Value), rows[i]? = some row → j < sz → (rows.set i (row.set j u)).flatten = rows.flatten.set (i * sz + j) u
  | [], _, i, j, row, u, h, _ => by simp at h
  | r :: rows, ho, i, j, row, u, h, hj => by
    have hr := (ho r (by simp)).1
    cases i with
    | zero =>
      simp at h; subst h
      rw [List.set_cons_zero, List.flatten_cons, List.flatten_cons, Nat.zero_mul, Nat.zero_add, List.set_append_left _ _ (by omega)]
    | succ i =>
      rw [List.set_cons_succ, List.flatten_cons, List.flatten_cons, List.set_append_right _ _ (by rw [hr, Nat.add_mul]; omega), hr, show (i + 1) * sz + j - sz = i * sz + j by rw [Nat.add_mul]; omega,
        set_flat (rows := rows) (fun q hq => ho q (by simp [hq])) i j row u (by simpa using h) hj]
/-- A store into a row of an owned slice. -/
theorem OwnS.set_ {w : World} {B : Nat} {e : TypeId} {sz n cap g : Nat} {rows : List (List Value)} (h : OwnS w B e sz (some ⟨g, 0, none⟩) n cap rows) {i j : Nat} {row : List Value} (hr : rows[i]? = some row) (hj : j < sz) {u : Value} (hu : u.oneCell' = true) :
    OwnS (w.setCell ⟨g, i * sz + j, none⟩ u) B e sz (some ⟨g, 0, none⟩) n cap (rows.set i (row.set j u)) := by
  refine ⟨?_, by rw [List.length_set]; exact h.len, fun r hr' => ?_⟩
  · rw [set_flat h.ok i j row u hr hj]
    exact (h.own.stored (i * sz + j) u).1
  · rcases List.mem_or_eq_of_mem_set hr' with h1 | h1
    · exact h.ok r h1
    · subst h1
      have hrow := h.ok row (List.mem_of_getElem? hr)
      refine ⟨by rw [List.length_set]; exact hrow.1, fun v hv => ?_⟩
      rcases List.mem_or_eq_of_mem_set hv with h2 | h2
      · exact hrow.2 v h2
      · subst h2; exact hu
theorem OwnS.frozen {w : World} {B : Nat} {e : TypeId} {sz n cap g : Nat} {rows : List (List Value)} (h : OwnS w B e sz (some ⟨g, 0, none⟩) n cap rows) (j : Nat) : w.frozen? ⟨g, j, none⟩ = false := h.own.frozenAt j
/-- The first rows of an owned slice. -/
theorem OwnS.firsts {w : World} {B : Nat} {e : TypeId} {sz n cap : Nat} {A : Option Addr} {rows : List (List Value)} (h : OwnS w B e sz A n cap rows) {k : Nat} (hk : k ≤ n) : OwnS w B e sz A k cap (rows.take k) := by
  have hl : (rows.take k).length = k := by rw [List.length_take, h.len]; omega
  have hok : RowsOk sz (rows.take k) := fun r hr => h.ok r (List.mem_of_mem_take hr)
  refine ⟨⟨by rw [flat_len hok, hl], ?_⟩, hl, hok⟩
  have hcap := h.cap_le
  rcases h.own.2 with ⟨h1, h2⟩ | ⟨g, c, cur, h1, h2, h3, h4, h5, h6, h7⟩
  · cases h1
    have : k = 0 := by omega
    subst this
    exact .inl ⟨rfl, rfl⟩
  · cases h1
    refine .inr ⟨g, cap, cur, rfl, h2, h3, by omega, h5, h6, ?_⟩
    have hm : k * sz ≤ n * sz := Nat.mul_le_mul_right _ hk
    have e1 : (rows.flatten).take (k * sz) = (rows.take k).flatten := by
      conv => lhs; rw [← List.take_append_drop k rows]
      rw [List.flatten_append, List.take_append_of_le_length (by rw [flat_len hok, hl]; exact Nat.le_refl _), List.take_of_length_le (by rw [flat_len hok, hl]; exact Nat.le_refl _)]
    rw [← e1, ← h7, List.take_take, Nat.min_eq_left hm]
end Go.Proofs.YtmfohnchnbgbaaaGreatDoor

/- What an argument that can be read looks like, whatever its type is made of: leaves (integers, bools, slices), in order. And the last step of a law whose call writes nothing that was there. -/
namespace Go.Proofs.YtmfohnchnbgbaaaGreatDoor
open Go.ChangeShapes Go.WideShapes Go.ChangeAt Go.RowKit

inductive Leaf where
  | int (k : IntKind)
  | bool
  | slice (e : TypeId)

def leavesOf (rec : TypeId → Option (List Leaf)) (P : Program) : List Field → Nat → Option (List Leaf)
  | [], _ => some []
  | f :: fs, acc =>
    if f.offset = acc then
      match rec f.type with
      | some l => if l.length = P.cellsOf f.type then (leavesOf rec P fs (acc + l.length)).map (l ++ ·) else none
      | none => none
    else none

def rep (l : List Leaf) : Nat → List Leaf
  | 0 => []
  | n + 1 => l ++ rep l n

def leaves (P : Program) : Nat → TypeId → Option (List Leaf)
  | 0, _ => none
  | fuel + 1, t =>
    match P.underlying t with
    | some .bool => some [.bool]
    | some (.int k) => some [.int k]
    | some (.slice e) => some [.slice e]
    | some (.struct fs) => leavesOf (leaves P fuel) P fs.toList 0
    | some (.array n e) =>
      match leaves P fuel e with
      | some l => if l.length = P.cellsOf e then some (rep l n) else none
      | none => none
    | _ => none

section
variable {H : Type} (enc : TypeId × Value → H) (P : Program) (w : World)

/-- What a leaf's cell is. -/
def LeafOk (k : Leaf) (c : Value) : Prop :=
  match k with
  | .int k => ∃ n, c = .int k n ∧ (Lit.int k n).wf = true
  | .bool => ∃ b, c = .bool b
  | .slice e => ∃ (A : Option Addr) (n cap : Nat), c = .slice A n cap ∧ n ≤ cap ∧ cap ≤ maxLen ∧ (A = none → cap = 0) ∧
      ∀ i, i < n → ∃ (a : Addr) (cs' : List Value) (fuel : Nat) (x : DataW H × List MemPlace), A = some a ∧ cs'.length = P.cellsOf e ∧
        (∀ j u, cs'[j]? = some u → w.cell? (a.add (i * P.cellsOf e + j)) = some u) ∧ DataW.trod enc P w 0 (fun _ => true) true fuel e cs' = some x

def AllLeaf : List Leaf → List Value → Prop
  | [], [] => True
  | k :: ks, c :: cs => LeafOk enc P w k c ∧ AllLeaf ks cs
  | _, _ => False

theorem allLeaf_append : ∀ {k1 k2 : List Leaf} {c1 c2 : List Value}, AllLeaf enc P w k1 c1 → AllLeaf enc P w k2 c2 → AllLeaf enc P w (k1 ++ k2) (c1 ++ c2)
  | [], _, [], _, _, h => h
  | [], _, _ :: _, _, h, _ => h.elim
  | _ :: _, _, [], _, h, _ => h.elim
  | _ :: _, _, _ :: _, _, h, h' => ⟨h.1, allLeaf_append h.2 h'⟩

theorem allLeaf_cons {k : Leaf} {ks : List Leaf} {cs : List Value} (h : AllLeaf enc P w (k :: ks) cs) : ∃ c cs', cs = c :: cs' ∧ LeafOk enc P w k c ∧ AllLeaf enc P w ks cs' := by
  cases cs with
  | nil => exact h.elim
  | cons c cs' => exact ⟨c, cs', rfl, h.1, h.2⟩
theorem allLeaf_nil {cs : List Value} (h : AllLeaf enc P w [] cs) : cs = [] := by
  cases cs with
  | nil => rfl
  | cons c cs' => exact h.elim

theorem leaf_int {k : IntKind} {ks : List Leaf} {cs : List Value} (h : AllLeaf enc P w (.int k :: ks) cs) : ∃ (n : Int) (cs' : List Value), cs = .int k n :: cs' ∧ (Lit.int k n).wf = true ∧ AllLeaf enc P w ks cs' := by
  obtain ⟨c, cs', rfl, ⟨n, rfl, hw⟩, h'⟩ := allLeaf_cons enc P w h
  exact ⟨n, cs', rfl, hw, h'⟩
theorem leaf_bool {ks : List Leaf} {cs : List Value} (h : AllLeaf enc P w (.bool :: ks) cs) : ∃ (b : Bool) (cs' : List Value), cs = .bool b :: cs' ∧ AllLeaf enc P w ks cs' := by
  obtain ⟨c, cs', rfl, ⟨b, rfl⟩, h'⟩ := allLeaf_cons enc P w h
  exact ⟨b, cs', rfl, h'⟩

theorem fields_leaf {m : Nat} {rec : TypeId → Option (List Leaf)}
    (hrec : ∀ (t : TypeId) (cs : List Value) (x : DataW H × List MemPlace) (ks : List Leaf), ks.length = cs.length → DataW.trod enc P w 0 (fun _ => true) true m t cs = some x → rec t = some ks → AllLeaf enc P w ks cs)
    (cs : List Value) : ∀ (fs : List Field) (acc : Nat) (ks : List Leaf), leavesOf rec P fs acc = some ks → cs.length = acc + ks.length →
    (∀ f ∈ fs, ∃ x, DataW.trod enc P w 0 (fun _ => true) true m f.type ((cs.drop f.offset).take (P.cellsOf f.type)) = some x) → AllLeaf enc P w ks (cs.drop acc)
  | [], acc, ks, hk, hl, _ => by
    simp only [leavesOf, Option.some.injEq] at hk
    subst hk
    rw [List.drop_eq_nil_of_le (by simpa using Nat.le_of_eq hl)]
    trivial
  | f :: fs, acc, ks, hk, hl, hf => by
    simp only [leavesOf] at hk
    split at hk
    · rename_i ho
      split at hk
      · rename_i l hr
        split at hk
        · rename_i hll
          obtain ⟨ks', hk', rfl⟩ := Option.map_eq_some_iff.1 hk
          obtain ⟨x, hx⟩ := hf f (by simp)
          rw [ho, ← hll] at hx
          have h1 := hrec _ _ _ _ (by rw [List.length_take, List.length_drop, hl]; simp) hx hr
          have h2 := fields_leaf hrec cs fs (acc + l.length) ks' hk' (by rw [hl]; simp; omega) (fun g hg => hf g (by simp [hg]))
          have : cs.drop acc = (cs.drop acc).take l.length ++ cs.drop (acc + l.length) := by
            rw [← List.drop_drop, List.take_append_drop]
          rw [this]
          exact allLeaf_append enc P w h1 h2
        · cases hk
      · cases hk
    · cases hk

theorem rep_leaf {l : List Leaf} {sz : Nat} (hsz : l.length = sz) : ∀ (n : Nat) (cs : List Value), cs.length = n * sz → (∀ i, i < n → AllLeaf enc P w l ((cs.drop (i * sz)).take sz)) → AllLeaf enc P w (rep l n) cs
  | 0, cs, hl, _ => by
    have : cs = [] := List.eq_nil_of_length_eq_zero (by simpa using hl)
    subst this
    trivial
  | n + 1, cs, hl, h => by
    have h0 := h 0 (by omega)
    simp only [Nat.zero_mul, List.drop_zero] at h0
    have h1 := rep_leaf hsz n (cs.drop sz) (by rw [List.length_drop, hl, Nat.add_mul]; omega) (fun i hi => by
      have := h (i + 1) (by omega)
      rw [List.drop_drop]
      rwa [show sz + i * sz = (i + 1) * sz by rw [Nat.add_mul]; omega])
    have e : cs = cs.take sz ++ cs.drop sz := (List.take_append_drop _ _).symm
    rw [e]
    exact allLeaf_append enc P w h0 h1

set_option maxRecDepth 100000 in
theorem open_leaves : ∀ (fuel : Nat) (m : Nat) (t : TypeId) (cs : List Value) (x : DataW H × List MemPlace) (ks : List Leaf), ks.length = cs.length →
    DataW.trod enc P w 0 (fun _ => true) true m t cs = some x → leaves P fuel t = some ks → AllLeaf enc P w ks cs
  | 0, _, _, _, _, _, _, _, hk => by simp [leaves] at hk
  | fuel + 1, m, t, cs, x, ks, hlen, h, hk => by
    simp only [leaves] at hk
    split at hk
    · rename_i hu
      obtain ⟨b, rfl, _⟩ := DataW.trod_bool hu h
      cases hk
      exact ⟨⟨b, rfl⟩, trivial⟩
    · rename_i k hu
      obtain ⟨n, rfl, _, hw⟩ := DataW.trod_int hu h
      cases hk
      exact ⟨⟨n, rfl, hw⟩, trivial⟩
    · rename_i e hu
      cases hk
      rcases Deep.open_slice hu h with ⟨rfl, _⟩ | ⟨a, len, cap, mm, n, D, Pl, rfl, hb, hl, hm, hmm, _, hi⟩
      · exact ⟨⟨none, 0, 0, rfl, Nat.le_refl _, Nat.zero_le _, fun _ => rfl, fun i hi => absurd hi (by omega)⟩, trivial⟩
      · refine ⟨⟨some a, len, cap, rfl, hl, hm, (fun h => by cases h), fun i hlt => ?_⟩, trivial⟩
        obtain ⟨cs', hc, ht⟩ := hi i (by simp at hmm; omega)
        obtain ⟨_, hcl, hat⟩ := World.cells?_some hc
        exact ⟨a, cs', n, _, rfl, hcl, fun j u hu => by
          have := hat j (by have := lt_of_get hu; omega)
          rw [← Deep.add_add, this, hu], ht⟩
    · rename_i fs hu
      obtain ⟨xs, n, rfl, _, hcl, hxl, hf⟩ := DataW.trod_struct hu h
      have := fields_leaf enc P w (m := n) (rec := leaves P fuel) (fun t cs x ks hl ht hk => open_leaves fuel n t cs x ks hl ht hk) cs fs.toList 0 ks hk (by omega) (fun f hfm => by
        obtain ⟨i, hi, he⟩ := List.getElem_of_mem hfm
        have hfi : fs[i]? = some f := by
          rw [← Array.getElem?_toList, List.getElem?_eq_getElem hi, he]
        have hx : i < xs.length := by simpa [hxl] using hi
        exact ⟨xs[i], by rw [hf i f hfi, List.getElem?_eq_getElem hx]⟩)
      simpa using this
    · rename_i n e hu
      obtain ⟨xs, m', rfl, _, hcl, hxl, hf⟩ := DataW.trod_array hu h
      split at hk
      · rename_i l hr
        split at hk
        · rename_i hll
          cases hk
          have hrl : ∀ n, (rep l n).length = n * l.length := by
            intro n
            induction n with
            | zero => simp [rep]
            | succ n ih => rw [rep, List.length_append, ih, Nat.add_mul]; omega
          have hcs : cs.length = n * P.cellsOf e := by rw [← hlen, hrl, hll]
          exact rep_leaf enc P w hll n cs hcs (fun i hi => by
            have hx : i < xs.length := by omega
            have hle : (i + 1) * P.cellsOf e ≤ n * P.cellsOf e := Nat.mul_le_mul_right _ (by omega)
            rw [Nat.add_mul] at hle
            exact open_leaves fuel m' e _ xs[i] l (by rw [List.length_take, List.length_drop, hcs, hll]; omega) (by rw [hf i hi, List.getElem?_eq_getElem hx]) hr)
        · cases hk
      · cases hk
    · cases hk

theorem wf64 {n : Int} (h : (Lit.int .i64 n).wf = true) : -9223372036854775808 ≤ n ∧ n ≤ 9223372036854775807 := by
  simpa [Lit.wf, IntKind.min, IntKind.max, IntKind.signed, IntKind.bits] using h

theorem top_agg {r : Reach} {b0 : Nat} {t : TypeId} {fs : Array Field} {v : Value} {d : DataW H} {p : List MemPlace} {ks : List Leaf} (fuel : Nat) (hs : P.underlying t = some (.struct fs))
    (hk : leaves P fuel t = some ks) (hC : P.cellsOf t = ks.length) (hv : Value.okWide P w r b0 t v) (h : DataW.Trod enc P w 0 (fun _ => true) true t v d p) : ∃ l : List Value, v = .agg l.toArray ∧ AllLeaf enc P w ks l := by
  obtain ⟨cs, rfl, hsz⟩ := okWide_struct hs hv
  obtain ⟨l⟩ := cs
  obtain ⟨m, hm⟩ := h
  exact ⟨l, rfl, open_leaves enc P w fuel m t l _ ks (by simp at hsz; omega) (by simpa [Value.cells] using hm) hk⟩
theorem top_arr {r : Reach} {b0 : Nat} {t e : TypeId} {n : Nat} {v : Value} {d : DataW H} {p : List MemPlace} {ks : List Leaf} (fuel : Nat) (hs : P.underlying t = some (.array n e))
    (hk : leaves P fuel t = some ks) (hC : P.cellsOf t = ks.length) (hv : Value.okWide P w r b0 t v) (h : DataW.Trod enc P w 0 (fun _ => true) true t v d p) : ∃ l : List Value, v = .agg l.toArray ∧ AllLeaf enc P w ks l := by
  simp only [Value.okWide, hs] at hv
  obtain ⟨cs, rfl, hsz, _⟩ := hv
  obtain ⟨l⟩ := cs
  obtain ⟨m, hm⟩ := h
  exact ⟨l, rfl, open_leaves enc P w fuel m t l _ ks (by simp at hsz; omega) (by simpa [Value.cells] using hm) hk⟩
theorem top_slice {r : Reach} {b0 : Nat} {t e : TypeId} {v : Value} {d : DataW H} {p : List MemPlace} (hs : P.underlying t = some (.slice e))
    (hv : Value.okWide P w r b0 t v) (h : DataW.Trod enc P w 0 (fun _ => true) true t v d p) : LeafOk enc P w (.slice e) v := by
  obtain ⟨a, n, c, rfl⟩ := okWide_slice hs hv
  obtain ⟨m, hm⟩ := h
  exact (open_leaves enc P w 1 m t [.slice a n c] _ [.slice e] rfl (by simpa [Value.cells] using hm) (by simp [leaves, hs])).1

theorem list_of {α : Type} {n : Nat} {p : Nat → α → Prop} (h : ∀ i, i < n → ∃ x, p i x) : ∃ l : List α, l.length = n ∧ ∀ i x, l[i]? = some x → p i x := by
  induction n with
  | zero => exact ⟨[], rfl, fun i x hx => by simp at hx⟩
  | succ n ih =>
    obtain ⟨l, hl, hp⟩ := ih (fun i hi => h i (by omega))
    obtain ⟨x, hx⟩ := h n (by omega)
    refine ⟨l ++ [x], by simp [hl], fun i y hy => ?_⟩
    by_cases hi : i < l.length
    · rw [List.getElem?_append_left hi] at hy
      exact hp i y hy
    · have := lt_of_get hy
      simp at this
      obtain rfl : i = l.length := by omega
      simp at hy
      subst hy
      rw [hl]
      exact hx

/-- A slice that came in is a list: of each element's leaves an element of a plain type is made. -/
theorem rows_of {α : Type} {e : TypeId} {v : Value} {ks : List Leaf} (fuel sz : Nat) (f : α → List Value) (ok : α → Prop) (hk : leaves P fuel e = some ks) (hC : P.cellsOf e = sz) (hn : ks.length = sz) (h0 : 0 < sz)
    (hf : ∀ cs, AllLeaf enc P w ks cs → ∃ x, cs = f x ∧ ok x) (h : LeafOk enc P w (.slice e) v) :
    ∃ (A : Option Addr) (l : List α) (cap : Nat), v = .slice A l.length cap ∧ l.length ≤ cap ∧ cap ≤ maxLen ∧ Sl w w.heap.size sz A (l.map f) ∧ (∀ x ∈ l, ok x) ∧ (A = none → cap = 0) := by
  obtain ⟨A, n, cap, rfl, hnc, hcm, hnil, hi⟩ := h
  obtain ⟨l, hl, hp⟩ := list_of (α := α) (n := n) (p := fun i x => ok x ∧ (f x).length = sz ∧ ∃ a : Addr, A = some a ∧ ∀ j u, (f x)[j]? = some u → w.cell? (a.add (i * sz + j)) = some u) (fun i hlt => by
    obtain ⟨a, cs', m, x, rfl, hcl, hcell, ht⟩ := hi i hlt
    obtain ⟨y, rfl, hok⟩ := hf cs' (open_leaves enc P w fuel m e cs' x ks (by omega) ht hk)
    exact ⟨y, hok, by omega, a, rfl, fun j u hu => by rw [← hC]; exact hcell j u hu⟩)
  refine ⟨A, l, cap, by rw [hl], by omega, hcm, ?_, fun x hx => ?_, hnil⟩
  · intro i row hr
    rw [List.getElem?_map] at hr
    obtain ⟨x, hx, rfl⟩ := Option.map_eq_some_iff.1 hr
    obtain ⟨_, hlen, a, rfl, hcell⟩ := hp i x hx
    obtain ⟨x0, hx0⟩ := get_of (l := l) (k := 0) (by have := lt_of_get hx; omega)
    obtain ⟨_, hlen0, a0, he0, hcell0⟩ := hp 0 x0 hx0
    cases he0
    obtain ⟨u0, hu0⟩ := get_of (l := f x0) (k := 0) (by omega)
    have hc0 := hcell0 0 u0 hu0
    have hspot := World.cell?_spot hc0
    have hblk := block_lt_of_cell hc0
    obtain ⟨b, off, spot⟩ := a
    have hs : spot = none := by simpa [Addr.add] using hspot
    subst hs
    have hadd : ∀ q, (Addr.mk b off none).add q = ⟨b, off + q, none⟩ := fun q => by
      unfold Addr.add
      split
      · rename_i h; simp_all
      · rfl
    refine ⟨b, off, rfl, ?_, fun j u hu => ?_⟩
    · rw [hadd] at hblk
      exact hblk
    · rw [← hadd]
      exact hcell j u hu
  · obtain ⟨i, hi, he⟩ := List.getElem_of_mem hx
    exact (hp i x (by rw [List.getElem?_eq_getElem hi, he])).1
end

/-- The last step of a law. -/
theorem trodAll_below {H : Type} {enc : TypeId × Value → H} {P : Program} {W W' : World} (hl : laidOutB P = true) (hb : Below W.heap.size W W') : ∀ (ts : List TypeId) (vs : List Value) (ds : List (DataW H)) (ps : List MemPlace),
    ts.all (fun t => P.readableRec t && decide (t < P.types.size)) = true → DataW.TrodAll enc P W 0 (fun _ => true) true ts vs ds ps →
    DataW.TrodAll enc P W' 0 (fun b => decide (b < W.heap.size)) true ts vs ds ps
  | [], vs, ds, ps, _, h => by
    obtain ⟨rfl, rfl, rfl⟩ := trodAll_nil h
    exact trodAll_mk0
  | t :: ts, vs, ds, ps, hall, h => by
    obtain ⟨v, vs', d, ds', p, q, rfl, rfl, rfl, h0, hr⟩ := trodAll_cons h
    simp only [List.all_cons, Bool.and_eq_true, decide_eq_true_eq] at hall
    have hlt : ∀ x ∈ p, x.block < W.heap.size := by
      obtain ⟨m, hm⟩ := h0
      exact DataW.trod_lt m _ _ _ hm
    exact trodAll_cons_mk (Below.trod hl hall.1.1 hall.1.2 h0 hb hlt) (trodAll_below hl hb ts vs' ds' q (by simpa using hall.2) hr)

theorem law_post {H : Type} {enc : TypeId × Value → H} {P : Program} {f : Func} {s : ChangeSpec} {W W' : World} {args : Array Value} {ds gs : List (DataW H)} {before : List MemPlace} {tb : TypeId}
    (laid : laidOutB P = true) (hpar : f.params.toList.all (fun t => P.readableRec t && decide (t < P.types.size)) = true) (hres : f.resultTypes = #[tb]) (htb : P.underlying tb = some .bool) (hvars : s.vars = [])
    (hs : s.fn H (ds ++ gs) = { results := [.lit (.bool true)], args := ds }) (hW : DataW.Whole enc P f.params.toList s.vars false W args.toList ds gs before) (hb : Below W.heap.size W W') :
    s.post enc P f false true false false W args (.bool true) W' := by
  have hW' := hW
  obtain ⟨p, q, hA, hV, rfl, _, _⟩ := hW
  rw [hvars] at hV
  obtain ⟨rfl, rfl⟩ := trodVars_none hV
  refine ⟨ds, [], _, [], p, [], hW', ?_, ?_, ?_, hb.frame _, fun h => by cases h⟩
  · rw [hs, hres]
    exact trodAll_mk1 (shut_bool htb true)
  · rw [hs]
    exact trodAll_below laid hb _ _ _ _ hpar hA
  · rw [hs, hvars]
    rfl
end Go.Proofs.YtmfohnchnbgbaaaGreatDoor

/- Triangles: a slice of slices read as a list of rows; which triangles may be. -/
namespace Go.Proofs.YtmfohnchnbgbaaaGreatDoor
open Go.ChangeShapes Go.WideShapes Go.ChangeAt Go.RowKit

theorem own : ownKnob Tryz.prog.godebug = none := by kernel_rfl
theorem laidOut : laidOutB Tryz.prog = true := by kernel_rfl

/-- A row, where it lies. -/
structure Rw where
  A : Option Addr
  l : List Int
  cap : Nat
def encI (n : Int) : List Value := [.int .i64 n]
def encRw (r : Rw) : List Value := [.slice r.A r.l.length r.cap]
def ok64 (n : Int) : Prop := -9223372036854775808 ≤ n ∧ n ≤ 9223372036854775807
/-- A slice of slices reads as rows. -/
structure MV (w : World) (A : Option Addr) (n cap : Nat) (M : List Rw) : Prop where
  sv : SV w 1 A n cap (M.map encRw)
  rows : ∀ r ∈ M, SV w 1 r.A r.l.length r.cap (r.l.map encI)
theorem MV.below {w w' : World} {A : Option Addr} {n cap : Nat} {M : List Rw} (h : MV w A n cap M) (hb : Below w.heap.size w w') : MV w' A n cap M :=
  ⟨h.sv.below hb, fun r hr => (h.rows r hr).below hb⟩
theorem MV.len {w : World} {A : Option Addr} {n cap : Nat} {M : List Rw} (h : MV w A n cap M) : M.length = n := by have := h.sv.len; simpa using this
theorem Sl.i {w : World} {B k : Nat} {A : Option Addr} {l : List Int} {n : Int} (h : Sl w B 1 A (l.map encI)) (hx : l[k]? = some n) :
    ∃ b off, A = some ⟨b, off, none⟩ ∧ b < B ∧ w.cell? ⟨b, off + k, none⟩ = some (.int .i64 n) := by
  obtain ⟨b, off, hA, hb, hc⟩ := h k (encI n) (by simp [hx])
  exact ⟨b, off, hA, hb, by simpa using hc 0 _ rfl⟩
theorem Sl.rw {w : World} {B k : Nat} {A : Option Addr} {M : List Rw} {r : Rw} (h : Sl w B 1 A (M.map encRw)) (hx : M[k]? = some r) :
    ∃ b off, A = some ⟨b, off, none⟩ ∧ b < B ∧ w.cell? ⟨b, off + k, none⟩ = some (.slice r.A r.l.length r.cap) := by
  obtain ⟨b, off, hA, hb, hc⟩ := h k (encRw r) (by simp [hx])
  exact ⟨b, off, hA, hb, by simpa using hc 0 _ rfl⟩

theorem cells_int : Tryz.prog.cellsOf 3 = 1 := by kernel_rfl
theorem cells_ints : Tryz.prog.cellsOf 36 = 1 := by kernel_rfl
theorem cells_tri : Tryz.prog.cellsOf 33 = 2 := by kernel_rfl
theorem leaves_int : leaves Tryz.prog 1 3 = some [.int .i64] := by kernel_rfl
theorem leaves_ints : leaves Tryz.prog 1 36 = some [.slice 3] := by kernel_rfl
theorem leaves_tri : leaves Tryz.prog 2 33 = some [.int .i64, .slice 36] := by kernel_rfl
section
variable {H : Type} {enc : TypeId × Value → H} {W : World} {r : Reach} {b0 : Nat} {v : Value} {d : DataW H} {p : List MemPlace}
theorem rows_ints (h : LeafOk enc Tryz.prog W (.slice 3) v) : ∃ (A : Option Addr) (l : List Int) (cap : Nat), v = .slice A l.length cap ∧ SV W 1 A l.length cap (l.map encI) ∧ ∀ n ∈ l, ok64 n := by
  obtain ⟨A, l, cap, hv, h1, h2, h3, h4, h5⟩ := rows_of enc Tryz.prog W (α := Int) 1 1 encI ok64 leaves_int cells_int rfl (by omega) (fun cs hl => by
    obtain ⟨n1, l1, rfl, w1, h1⟩ := leaf_int enc _ _ hl
    obtain rfl := allLeaf_nil enc _ _ h1
    exact ⟨n1, rfl, wf64 w1⟩) h
  exact ⟨A, l, cap, hv, ⟨h3, List.length_map _, h1, h2, h5⟩, h4⟩
set_option maxRecDepth 100000 in
theorem open_tri (hv : Value.okWide Tryz.prog W r b0 33 v) (h : DataW.Trod enc Tryz.prog W 0 (fun _ => true) true 33 v d p) :
    ∃ (f : Int) (A : Option Addr) (M : List Rw) (cap : Nat), v = .agg #[.int .i64 f, .slice A M.length cap] ∧ ok64 f ∧ MV W A M.length cap M ∧ ∀ r ∈ M, ∀ n ∈ r.l, ok64 n := by
  obtain ⟨l, rfl, hl⟩ := top_agg enc Tryz.prog W 2 Tryz.underlying33 leaves_tri cells_tri hv h
  obtain ⟨f, l1, rfl, wf, h1⟩ := leaf_int enc _ _ hl
  obtain ⟨v2, l2, rfl, h2, h3⟩ := allLeaf_cons enc _ _ h1
  obtain rfl := allLeaf_nil enc _ _ h3
  obtain ⟨A, M, cap, rfl, g1, g2, g3, g4, g5⟩ := rows_of enc Tryz.prog W (α := Rw) 1 1 encRw (fun r => SV W 1 r.A r.l.length r.cap (r.l.map encI) ∧ ∀ n ∈ r.l, ok64 n) leaves_ints cells_ints rfl (by omega) (fun cs hl => by
    obtain ⟨v1, l1, rfl, k1, h1⟩ := allLeaf_cons enc _ _ hl
    obtain rfl := allLeaf_nil enc _ _ h1
    obtain ⟨A, l, cap, rfl, hs, ho⟩ := rows_ints k1
    exact ⟨⟨A, l, cap⟩, rfl, hs, ho⟩) h2
  exact ⟨f, A, M, cap, rfl, wf64 wf, ⟨⟨g3, List.length_map _, g1, g2, g5⟩, fun r hr => (g4 r hr).1⟩, fun r hr => (g4 r hr).2⟩
end

def okV (v : Int) : Bool := decide (0 ≤ v ∧ v ≤ 100000000000000000)
def goodRow (n : Nat) (l : List Int) : Bool := decide (l.length = n) && l.all okV
def rowsB : Nat → List (List Int) → Bool
  | _, [] => true
  | n, l :: c => goodRow n l && rowsB (n - 1) c
theorem rowsB_iff : ∀ (c : List (List Int)) (n : Nat), rowsB n c = true ↔ ∀ i l, c[i]? = some l → goodRow (n - i) l = true
  | [], n => by simp [rowsB]
  | l :: c, n => by
    rw [rowsB, Bool.and_eq_true, rowsB_iff c (n - 1)]
    constructor
    · rintro ⟨h1, h2⟩ i x hx
      cases i with
      | zero => simp at hx; subst hx; simpa using h1
      | succ i => rw [show n - (i + 1) = n - 1 - i by omega]; exact h2 i x (by simpa using hx)
    · intro h
      exact ⟨by simpa using h 0 l rfl, fun i x hx => by rw [show n - 1 - i = n - (i + 1) by omega]; exact h (i + 1) x (by simpa using hx)⟩
def boundsB (f : Int) (n : Nat) : Bool := decide (1 ≤ n ∧ n ≤ 20 ∧ 1601 ≤ f ∧ f ≤ 2401 - n)
/-- Which triangles may be. -/
def rightC (f : Int) (c : List (List Int)) : Bool := boundsB f c.length && rowsB c.length c
theorem rightC_no {f : Int} {c : List (List Int)} {i : Nat} {l : List Int} (hx : c[i]? = some l) (h : goodRow (c.length - i) l = false) : rightC f c = false := by
  rw [rightC, Bool.and_eq_false_iff]
  right
  rw [Bool.eq_false_iff]
  intro hr
  have := (rowsB_iff c c.length).1 hr i l hx
  rw [h] at this; cases this

def allM (M : List Rw) : List (List Int) := M.map (·.l)
theorem allM_len (M : List Rw) : (allM M).length = M.length := List.length_map _
theorem allM_get {M : List Rw} {i : Nat} {r : Rw} (h : M[i]? = some r) : (allM M)[i]? = some r.l := by simp [allM, h]
theorem okV_all {l : List Int} {k : Nat} {x : Int} (h : l[k]? = some x) : (l.take (k + 1)).all okV = ((l.take k).all okV && okV x) := by rw [take_of h]; simp
theorem okV_no {l : List Int} {k : Nat} {x : Int} {n : Nat} (h : l[k]? = some x) (hx : okV x = false) : goodRow n l = false := by
  rw [goodRow, Bool.and_eq_false_iff]
  right
  rw [List.all_eq_false]
  exact ⟨x, List.mem_of_getElem? h, by simp [hx]⟩

set_option maxRecDepth 100000 in
set_option maxHeartbeats 2000000 in
theorem right_any (f : Int) (A : Option Addr) (cap : Nat) (M : List Rw) (w : World) (hs : MV w A M.length cap M) (hf : ok64 f) :
    Calls Tryz.prog 34 #[.agg #[.int .i64 f, .slice A M.length cap]] w fun e w' => e = .returned (.bool (rightC f (allM M))) ∧ Below w.heap.size w w' := by
  have HS := hide hs
  clear hs
  obtain ⟨hf0, hf1⟩ := hf
  have hmx := HS.out.sv.le
  have hmy := HS.out.sv.most
  unfold maxLen at hmy
  cases hbd : boundsB f M.length
  · have HR := hide (show rightC f (allM M) = false by rw [rightC, allM_len, hbd]; rfl)
    simp only [boundsB, decide_eq_false_iff_not] at hbd
    rcases (show M.length < 1 ∨ (1 ≤ M.length ∧ 20 < M.length) ∨ (1 ≤ M.length ∧ M.length ≤ 20 ∧ f < 1601) ∨ (1 ≤ M.length ∧ M.length ≤ 20 ∧ 1601 ≤ f ∧ 2401 - (M.length : Int) < f) by omega) with h | ⟨h, h'⟩ | ⟨h, h', h2⟩ | ⟨h, h', h2, h3⟩
    all_goals
      clear hbd
      go_enter Tryz.func34, Tryz.ntmps34
      go_wp2_with fail
      go_ret
      exact ⟨ret_bool HR.out.symm, (Below.refl _ _).alloc (Nat.le_refl _) _⟩
  have HB := hide hbd
  simp only [boundsB, decide_eq_true_eq] at hbd
  obtain ⟨h1, h2, h3, h4⟩ := hbd
  go_enter Tryz.func34, Tryz.ntmps34
  go_wp2_with fail
  go_loop [33] (fun i => ∃ k : Nat, k ≤ M.length ∧ i = .int .i64 k ∧ ∀ j r, j < k → M[j]? = some r → goodRow (M.length - j) r.l = true) (fun i => M.length - (intOf i).toNat)
  case atStart => exact ⟨0, Nat.zero_le _, rfl, fun j r hj => absurd hj (by omega)⟩
  case round =>
    obtain ⟨k, hk, rfl, hall⟩ := hrel
    have HA := hide hall
    clear hall
    by_cases hlt : k < M.length
    · obtain ⟨⟨B, l, bc⟩, hx⟩ := get_of hlt
      obtain ⟨bb, off, rfl, hbl, hc⟩ := HS.out.sv.sl.rw hx
      have hrow := HS.out.rows _ (List.mem_of_getElem? hx)
      simp only at hc hrow
      have hle := hrow.le
      have hmo := hrow.most
      unfold maxLen at hmo
      have hk0 : (0 : Int) ≤ (k : Int) := by omega
      have hk1 : (k : Int) < (M.length : Int) := by omega
      have HX := hide hx
      have HR := hide hrow
      clear hx hrow
      by_cases hlen : l.length = M.length - k
      · have hlenI : (l.length : Int) = (M.length : Int) - (k : Int) := by omega
        have hne : ((l.length : Int) != (M.length : Int) - (k : Int)) = false := by simp [hlenI]
        have HLE := hide hlen
        clear hlen hlenI
        go_wp2_with fail
        go_loop [46] (fun i => ∃ q : Nat, q ≤ l.length ∧ i = .int .i64 q ∧ (l.take q).all okV = true) (fun i => l.length - (intOf i).toNat)
        case atStart => exact ⟨0, Nat.zero_le _, rfl, rfl⟩
        case round =>
          obtain ⟨q, hq, rfl, hqa⟩ := hrel
          have HQ := hide hqa
          clear hqa
          by_cases hql : q < l.length
          · obtain ⟨v, hv⟩ := get_of hql
            obtain ⟨b2, off2, rfl, hbl2, hcv⟩ := HR.out.sl.i hv
            have hq0 : (0 : Int) ≤ (q : Int) := by omega
            have hq1 : (q : Int) < (l.length : Int) := by omega
            have HT := hide (okV_all hv)
            have HV := hide hv
            clear hv
            rcases (show v < 0 ∨ (0 ≤ v ∧ 100000000000000000 < v) ∨ (0 ≤ v ∧ v ≤ 100000000000000000) by omega) with h0 | ⟨h0, h5⟩ | ⟨h0, h5⟩
            · have HNO := hide (rightC_no (f := f) (allM_get HX.out) (okV_no HV.out (by simp [okV]; omega)))
              go_wp2_with fail
              go_ret
              exact ⟨ret_bool HNO.out.symm, (Below.refl _ _).alloc (Nat.le_refl _) _⟩
            · have HNO := hide (rightC_no (f := f) (allM_get HX.out) (okV_no HV.out (by simp [okV]; omega)))
              go_wp2_with fail
              go_ret
              exact ⟨ret_bool HNO.out.symm, (Below.refl _ _).alloc (Nat.le_refl _) _⟩
            · go_wp2_with fail
              go_round
              case rel => exact ⟨q + 1, by omega, by go_num, by rw [HT.out, HQ.out]; simp [okV]; omega⟩
              case measure => simp [intOf]; omega
          · obtain rfl : q = l.length := by omega
            rw [List.take_length] at HQ
            have hgood : ∀ j r, j < k + 1 → M[j]? = some r → goodRow (M.length - j) r.l = true := by
              intro j r hj hr
              by_cases hjk : j < k
              · exact HA.out j r hjk hr
              · obtain rfl : j = k := by omega
                rw [HX.out] at hr
                cases hr
                simp only [goodRow, HQ.out, Bool.and_true, decide_eq_true_eq]
                exact HLE.out
            have HG := hide hgood
            clear hgood
            go_wp2_with fail
            go_round
            case rel => exact ⟨k + 1, by omega, by go_num, HG.out⟩
            case measure => simp [intOf]; omega
      · have hne : ((l.length : Int) != (M.length : Int) - (k : Int)) = true := by simp; omega
        have hno := rightC_no (f := f) (allM_get HX.out) (by rw [allM_len, goodRow]; simp [hlen])
        have HNO := hide hno
        clear hno hlen
        go_wp2_with fail
        go_ret
        exact ⟨ret_bool HNO.out.symm, (Below.refl _ _).alloc (Nat.le_refl _) _⟩
    · obtain rfl : k = M.length := by omega
      have hyes : rightC f (allM M) = true := by
        rw [rightC, allM_len, HB.out, Bool.true_and, rowsB_iff]
        intro i l hl
        rw [allM, List.getElem?_map] at hl
        obtain ⟨r, hr, rfl⟩ := Option.map_eq_some_iff.1 hl
        exact HA.out i r (lt_of_get hr) hr
      have HY := hide hyes
      clear hyes
      go_wp2_with fail
      go_ret
      exact ⟨ret_bool HY.out.symm, (Below.refl _ _).alloc (Nat.le_refl _) _⟩
end Go.Proofs.YtmfohnchnbgbaaaGreatDoor

/- Which triangles may be: the document's walk; the last cells. -/
namespace Go.Proofs.YtmfohnchnbgbaaaGreatDoor
open Go.RowKit

theorem elInt : ElT Tryz.prog 36 3 1 8 := ElT.mk' (z := .int .i64 0) Tryz.underlying36 (by kernel_rfl) rfl (by omega)
theorem okI (l : List Int) : RowsOk 1 (l.map encI) := by
  intro r hr
  obtain ⟨x, _, rfl⟩ := List.mem_map.1 hr
  refine ⟨rfl, fun u hu => ?_⟩
  simp [encI] at hu
  subst hu; rfl

/-- The last cells, row by row. -/
def lastI (l : List Int) : Int := l.getLast?.getD 0
def diagL (f : Int) (c : List (List Int)) : List Int := if rightC f c = true then c.map lastI else []
theorem right_row {f : Int} {c : List (List Int)} (h : rightC f c = true) {i : Nat} {l : List Int} (hx : c[i]? = some l) : l.length = c.length - i ∧ ∀ v ∈ l, 0 ≤ v ∧ v ≤ 100000000000000000 := by
  rw [rightC, Bool.and_eq_true] at h
  have := (rowsB_iff c c.length).1 h.2 i l hx
  simp only [goodRow, Bool.and_eq_true, decide_eq_true_eq, List.all_eq_true, okV] at this
  exact this
def DiagPost (w : World) (D : List Int) (e : Ending) (w' : World) : Prop := ∃ A' c', e = .returned (.slice A' D.length c') ∧ SV w' 1 A' D.length c' (D.map encI) ∧ Below w.heap.size w w'

set_option maxRecDepth 100000 in
set_option maxHeartbeats 2000000 in
theorem diag_any (f : Int) (A : Option Addr) (cap : Nat) (M : List Rw) (w : World) (hs : MV w A M.length cap M) (hf : ok64 f) :
    Calls Tryz.prog 14 #[.agg #[.int .i64 f, .slice A M.length cap]] w (DiagPost w (diagL f (allM M))) := by
  have HS := hide hs
  clear hs
  go_enter Tryz.func14, Tryz.ntmps14
  go_wp2_with fail
  refine (right_any f A cap M _ (HS.out.below ((Below.refl _ _).alloc (Nat.le_refl _) _)) hf).mono ?_
  rintro e w1 ⟨rfl, hb1⟩
  have k1 := kept hb1 (b := w.heap.size) (o := 1) (u := .slice A M.length cap) (by simp)
  have h1 : Below w.heap.size w w1 := chain1 hb1
  clear hb1
  cases hr : rightC f (allM M)
  · have HD := hide (show diagL f (allM M) = [] by rw [diagL, if_neg (by simp [hr])])
    go_wp2_with fail
    go_ret
    rw [HD.out]
    exact ⟨none, 0, rfl, ⟨Sl.nil_, rfl, Nat.le_refl _, by simp [maxLen], fun _ => rfl⟩, h1⟩
  have HD := hide (show diagL f (allM M) = (allM M).map lastI by rw [diagL, if_pos hr])
  have HRR := hide (fun (i : Nat) (l : List Int) (h : (allM M)[i]? = some l) => (right_row hr h).1)
  have hM20 : M.length ≤ 20 := by rw [rightC, Bool.and_eq_true, allM_len] at hr; have := hr.1; simp only [boundsB, decide_eq_true_eq] at this; omega
  go_wp2_with fail
  go_loopw [3, 12] (fun t i wr => ∃ (k : Nat) (A' : Option Addr) (cap' : Nat), k ≤ M.length ∧ i = .int .i64 k ∧ t = .slice A' k cap' ∧ OwnS wr w.heap.size 3 1 A' k cap' ((((allM M).take k).map lastI).map encI) ∧ Below w.heap.size w wr) (fun _ i _ => M.length - (intOf i).toNat)
  case atStart => exact ⟨0, none, 0, Nat.zero_le _, rfl, rfl, OwnS.nil_ _ _ _ _, h1⟩
  case round =>
    clear h1 k1
    obtain ⟨k, A', cap', hk, rfl, rfl, ho, hb⟩ := hrel
    by_cases hlt : k < M.length
    · obtain ⟨⟨B, l, bc⟩, hx⟩ := get_of hlt
      have hbs := HS.out.below hb
      obtain ⟨bb, off, rfl, hbl, hc⟩ := hbs.sv.sl.rw hx
      have hrow := hbs.rows _ (List.mem_of_getElem? hx)
      have hlen := HRR.out k l (allM_get hx)
      rw [allM_len] at hlen
      simp only at hc hrow
      obtain ⟨v, hv⟩ := get_of (l := l) (k := l.length - 1) (by omega)
      obtain ⟨b2, off2, rfl, hbl2, hcv⟩ := hrow.sl.i hv
      have hlv : lastI l = v := by rw [lastI, List.getLast?_eq_getElem?, hv]; rfl
      have hk0 : (0 : Int) ≤ (k : Int) := by omega
      have hk1 : (k : Int) < (M.length : Int) := by omega
      have hl1 : (1 : Int) ≤ (l.length : Int) := by omega
      have hl2 : l.length ≤ 20 := by omega
      have hsz := hb.size
      have HT := hide (show ((allM M).take (k + 1)).map lastI = ((allM M).take k).map lastI ++ [v] by rw [take_of (allM_get hx), List.map_append]; simp [hlv])
      have HO := hide ho
      clear hx ho hrow hlen hv hlv hbs
      go_wp2_with (at_builtin
                   refine wpList_app rfl (.tmp 16) (.tmp 23) 36 rfl elInt (B := w.heap.size) (A2 := some ⟨_, 0, none⟩) (news := [v].map encI) rfl (HO.out.alloc _) rfl rfl ?_ (okI [v]) ?_ ?_ ?_ ?_
                   · exact sl_of_blk (cs := #[.int .i64 v]) (Blk.new _ _ _)
                   · simp only [maxLen]; omega
                   · omega
                   · simp; omega
                   intro A1 c1 wa ho1 hg1 ha1
                   have hba : Below w.heap.size w wa := (hb.alloc hb.size _).grown hg1 (by simp; omega) (fun kk hk => (HO.out.lt kk hk).1)
                   clear hg1 ha1)
      go_roundw
      case rel => exact ⟨k + 1, A1, c1, by omega, by go_num, rfl, by rw [HT.out, List.map_append]; exact ho1, hba⟩
      case measure => simp [intOf]; omega
    · obtain rfl : k = M.length := by omega
      rw [List.take_of_length_le (by rw [allM_len]; exact Nat.le_refl _)] at ho
      have HO := hide ho
      clear ho
      go_wp2_with fail
      go_ret
      rw [HD.out]
      have hl : ((allM M).map lastI).length = M.length := by rw [List.length_map, allM_len]
      exact ⟨A', cap', by rw [hl]; rfl, by rw [hl]; exact HO.out.sv, hb⟩
end Go.Proofs.YtmfohnchnbgbaaaGreatDoor

/- A drawn region over a class of worlds, walked once. -/
namespace Go.Proofs.YtmfohnchnbgbaaaGreatDoor
open Go.RowKit Go.BigFrame

section
variable {P : Program} {ops : Array Oper} {C : World → Prop} {a : Act} {o : Oper} {K : Act → Prop} {v : Value}
theorem quiet_yield (h : ∀ w, C w → (execOp a.eval o).run P w = .ok (.value v) w) (hk : K (a.put o.dst v)) : o.quiet P a C K :=
  ⟨v, fun w hw => by unfold Oper.quietAt; rw [h w hw]; exact ⟨rfl, rfl⟩, hk⟩
theorem quiet_call {f : FuncId} {args : Array Value} (h : ∀ w, C w → (execOp a.eval o).run P w = .ok (.enter f args) w) (hc : ∀ w, C w → Calls P f args w fun e w'' => e = .returned v ∧ C w'') (hk : K (a.put o.dst v)) : o.quiet P a C K :=
  ⟨v, fun w hw => by unfold Oper.quietAt; rw [h w hw]; exact ⟨rfl, hc w hw⟩, hk⟩
theorem wp_region_class {id : Nat} {Q : Exit → Act → World → Prop} {w : World} {l : List Oper} (C : World → Prop) (hm : P.follows .mixedOrders = true) (hB : Region.lexB .any l.toArray = true) (hC : C w.drew)
    (h : wpQuiet P l.toArray C (fun a' => ∀ w', C w' → Q .normal a' w') l a) : (Code.region id l.toArray true).wp P Q a w :=
  wp_region_quiet hm hB hC (by simpa using h)
end

end Go.Proofs.YtmfohnchnbgbaaaGreatDoor

/- Spans, covers, whether a list of whole numbers is sorted: small functions of the program; each answer is a value. -/
namespace Go.Proofs.YtmfohnchnbgbaaaGreatDoor
open Go.RowKit

theorem nan_any (n : Int) (w : World) : Calls Tryz.prog 102 #[.int .i64 n] w fun e w' => e = .returned (.bool false) ∧ w = w' := by
  go_enter Tryz.func102, Tryz.ntmps102
  go_wp2
  all_goals
    go_ret
    exact ⟨rfl, rfl⟩
theorem less_any (a b : Int) (w : World) : Calls Tryz.prog 147 #[.int .i64 a, .int .i64 b] w fun e w' => e = .returned (.bool (decide (a < b))) ∧ w = w' := by
  go_enter Tryz.func147, Tryz.ntmps147
  go_wp2_with (go_at_call 102; refine (nan_any _ _).mono ?_; rintro e w' ⟨rfl, rfl⟩)
  all_goals
    go_ret
    exact ⟨ret_bool (by simp), rfl⟩

/-- Is a span right; has it days. -/
def spanB (f t : Int) : Bool := decide (1 ≤ f ∧ f ≤ t ∧ t ≤ 292195)
def daysB (f t : Int) : Bool := decide (1 ≤ f ∧ f < t ∧ t ≤ 292195)
def keF (f t : Int) : Int := if daysB f t = true then f else 0
def keT (f t : Int) : Int := if daysB f t = true then t else 0
def inB (f t d : Int) : Bool := daysB f t && decide (f ≤ d ∧ d < t)
theorem ke_bd (f t : Int) : 0 ≤ keF f t ∧ keF f t ≤ keT f t ∧ keT f t ≤ 292195 := by
  unfold keF keT
  split
  · rename_i h; simp [daysB] at h; omega
  · omega

theorem span_any (f t : Int) (w : World) :
    Calls Tryz.prog 111 #[.agg #[.int .i64 f, .int .i64 t]] w fun e w' => e = .returned (.bool (spanB f t)) ∧ Below w.heap.size w w' := by
  go_enter Tryz.func111, Tryz.ntmps111
  go_wp2
  all_goals
    go_ret
    exact ⟨ret_bool (by rw [Bool.eq_iff_iff]; simp [spanB]; omega), (Below.refl _ _).alloc (Nat.le_refl _) _⟩
theorem span_is {f t : Int} {b : Bool} (h : spanB f t = b) (w : World) :
    Calls Tryz.prog 111 #[.agg #[.int .i64 f, .int .i64 t]] w fun e w' => e = .returned (.bool b) ∧ Below w.heap.size w w' := by
  subst h; exact span_any f t w

def KeptP (w : World) (a b : Int) (e : Ending) (w' : World) : Prop := e = .returned (.agg #[.int .i64 a, .int .i64 b]) ∧ Below w.heap.size w w'
theorem days_span {f t : Int} : daysB f t = (spanB f t && decide (f ≠ t)) := by rw [Bool.eq_iff_iff]; simp [spanB, daysB]; omega
set_option maxHeartbeats 1000000 in
theorem kept_any (f t : Int) (w : World) :
    Calls Tryz.prog 86 #[.agg #[.int .i64 f, .int .i64 t]] w (KeptP w (keF f t) (keT f t)) := by
  have key : ∀ (b c : Bool), spanB f t = b → decide (f = t) = c → Calls Tryz.prog 86 #[.agg #[.int .i64 f, .int .i64 t]] w (KeptP w (if b && !c then f else 0) (if b && !c then t else 0)) := by
    intro b c hs hc0
    have HS := hide hs
    clear hs
    have hq : (f == t) = c := by rw [← hc0]; rfl
    clear hc0
    cases b <;> cases c
    all_goals
      go_enter Tryz.func86, Tryz.ntmps86
      go_wp2_with fail
      refine (span_is HS.out _).mono ?_
      rintro e w1 ⟨rfl, h1⟩
      obtain ⟨hc, hf⟩ := bcell h1
      have hz : w.heap.size + 1 < w1.heap.size := by have := h1.size; simp at this; omega
      have hB : Blk w1 (w.heap.size + 1) 56 #[.int .i64 0, .int .i64 0] := (Blk.new' (by simp)).below h1 (by simp)
      have H1 := hide (chain1 (chain1 h1))
      clear h1
      go_wp2_with fail
      exact ret_row rfl rfl rfl ((hB.set_ 0 _).set_ 1 _) Tryz.underlying56 rfl (by kernel_rfl) ⟨rfl, (H1.out.setCell (by simp) _).setCell (by simp) _⟩
  have := key _ _ rfl rfl
  unfold keF keT
  rw [days_span]
  simpa using this

def manyI (f t : Int) : Int := keT f t - keF f t
set_option maxHeartbeats 1000000 in
theorem many_any (f t : Int) (w : World) :
    Calls Tryz.prog 46 #[.agg #[.int .i64 f, .int .i64 t]] w fun e w' => e = .returned (.int .i64 (manyI f t)) ∧ Below w.heap.size w w' := by
  have hke := ke_bd f t
  go_enter Tryz.func46, Tryz.ntmps46
  go_wp2_with fail
  refine (kept_any f t _).mono ?_
  rintro e w1 ⟨rfl, h1⟩
  obtain ⟨hc, hf⟩ := bcell h1
  have hz : w.heap.size < w1.heap.size := by have := h1.size; simp at this; omega
  have H1 := hide (chain1 h1)
  clear h1
  obtain ⟨a, ha⟩ : ∃ a, keF f t = a := ⟨_, rfl⟩
  obtain ⟨b, hb⟩ : ∃ b, keT f t = b := ⟨_, rfl⟩
  have HM := hide (show manyI f t = b - a by rw [manyI, ha, hb])
  rw [ha, hb] at hke ⊢
  clear ha hb
  go_wp2_with fail
  go_ret
  exact ⟨ret_int HM.out.symm, (H1.out.setCell (by simp) _).setCell (by simp) _⟩
set_option maxHeartbeats 1000000 in
theorem in_any (f t d : Int) (w : World) :
    Calls Tryz.prog 68 #[.agg #[.int .i64 f, .int .i64 t], .int .i64 d] w fun e w' => e = .returned (.bool (inB f t d)) ∧ Below w.heap.size w w' := by
  have HM := hide (show inB f t d = decide (keF f t ≤ d ∧ d < keT f t) by
    rw [Bool.eq_iff_iff]; simp only [inB, keF, keT, Bool.and_eq_true, decide_eq_true_eq]
    split
    · rename_i h; simp [h]
    · rename_i h; simp [h]; try omega)
  go_enter Tryz.func68, Tryz.ntmps68
  go_wp2_with fail
  refine (kept_any f t _).mono ?_
  rintro e w1 ⟨rfl, h1⟩
  obtain ⟨hc, hf⟩ := bcell h1
  have hz : w.heap.size < w1.heap.size := by have := h1.size; simp at this; omega
  have H1 := hide (chain1 h1)
  clear h1
  obtain ⟨a, ha⟩ : ∃ a, keF f t = a := ⟨_, rfl⟩
  obtain ⟨b, hb⟩ : ∃ b, keT f t = b := ⟨_, rfl⟩
  rw [ha, hb] at HM ⊢
  clear ha hb
  go_wp2_with fail
  all_goals
    go_ret
    exact ⟨ret_bool (by rw [HM.out, Bool.eq_iff_iff]; simp; try omega), (H1.out.setCell (by simp) _).setCell (by simp) _⟩

/-- Is a list of whole numbers sorted. -/
def sortB : List Int → Bool
  | [] => true
  | [_] => true
  | a :: b :: r => decide (a ≤ b) && sortB (b :: r)
theorem sortB_drop {l : List Int} {k : Nat} {x y : Int} (hx : l[k]? = some x) (hy : l[k + 1]? = some y) : sortB (l.drop k) = (decide (x ≤ y) && sortB (l.drop (k + 1))) := by
  rw [drop_of hx, drop_of hy, sortB]
theorem sortB_false {l : List Int} {k : Nat} (h : sortB (l.drop k) = false) : ∀ j, k = j → sortB l = false := by
  intro j hj
  subst hj
  induction k generalizing l with
  | zero => simpa using h
  | succ k ih =>
    cases l with
    | nil => simp [sortB] at h
    | cons a r =>
      have h1 := ih (l := r) (by simpa using h)
      cases r with
      | nil => simp [sortB] at h1
      | cons b r => rw [sortB, h1]; simp

set_option maxHeartbeats 1000000 in
theorem sorted_any (A : Option Addr) (n cap : Nat) (l : List Int) (w : World) (hs : SV w 1 A n cap (l.map encI)) :
    Calls Tryz.prog 103 #[.slice A n cap] w fun e w' => e = .returned (.bool (sortB l)) ∧ Below w.heap.size w w' := by
  have hn : l.length = n := by have := hs.len; simpa using this
  have hle := hs.le
  have hmo := hs.most
  unfold maxLen at hmo
  have HN := hide hn
  have HS := hide hs
  clear hn hs
  go_enter Tryz.func103, Tryz.ntmps103
  have hz : ∃ z : Int, z = (n : Int) - 1 := ⟨_, rfl⟩
  obtain ⟨z, hz⟩ := hz
  have hw : IntKind.i64.wrap ((n : Int) - 1) = z := by rw [IntWalk.i64_in _ (by omega)]; omega
  have hzb : -1 ≤ z ∧ z < n := by omega
  have h0 : sortB (l.drop z.toNat) = true := by
    have : l.length - z.toNat ≤ 1 := by rw [HN.out]; omega
    have h2 : (l.drop z.toNat).length ≤ 1 := by simpa using this
    match l.drop z.toNat, h2 with
    | [], _ => rfl
    | [_], _ => rfl
  have H0 := hide h0
  clear hz h0
  go_wp2_with fail
  clear hw
  go_loopw [3] (fun q wr => ∃ z : Int, -1 ≤ z ∧ z < n ∧ q = .int .i64 z ∧ sortB (l.drop z.toNat) = true ∧ Below w.heap.size w wr) (fun q _ => (RowKit.intOf q).toNat)
  case atStart => exact ⟨z, hzb.1, hzb.2, rfl, H0.out, Below.refl _ _⟩
  case round =>
    clear H0 hzb
    obtain ⟨y, hy0, hy1, rfl, hso, hb⟩ := hrel
    have HSO := hide hso
    have HB := hide hb
    by_cases hy : 0 < y
    · obtain ⟨k, rfl⟩ : ∃ k : Nat, y = k := ⟨y.toNat, by omega⟩
      obtain ⟨x, hx⟩ := get_of (l := l) (k := k) (by rw [HN.out]; omega)
      obtain ⟨u, hu⟩ := get_of (l := l) (k := k - 1) (by rw [HN.out]; omega)
      obtain ⟨b, off, rfl, hbl, c0⟩ := (HS.out.below hb).sl.i hx
      obtain ⟨b', off', hA, _, c1⟩ := (HS.out.below hb).sl.i hu
      obtain ⟨rfl, rfl⟩ : b = b' ∧ off = off' := by simpa using hA
      have HD := hide (sortB_drop (k := k - 1) hu (by rw [Nat.sub_add_cancel (by omega)]; exact hx))
      have hw : IntKind.i64.wrap ((k : Int) - 1) = ((k - 1 : Nat) : Int) := by rw [IntWalk.i64_in _ (by omega)]; omega
      have hk0 : (0 : Int) ≤ ((k - 1 : Nat) : Int) := by omega
      have hk1 : ((k - 1 : Nat) : Int) < (n : Int) := by omega
      have hk2 : (0 : Int) ≤ (k : Int) := by omega
      have hk3 : (k : Int) < (n : Int) := by omega
      clear hx hu hA hso hb
      by_cases hlt : x < u
      all_goals
        go_wp2_with fail
        refine wp_region_class (fun W => Below wr.heap.size wr W) (by kernel_rfl) (by kernel_rfl) (Below.refl _ _).drew ?_
        repeat (first
          | go_big_quiet_skip
          | (go_big_quiet_want
             first
               | (go_big_quiet_op
                  go_big_quiet_on)
               | (refine quiet_call (v := .bool (decide (x < u))) (f := 147) (args := #[.int .i64 x, .int .i64 u]) ?_ ?_ ?_
                  · intro W hW
                    have c0 := kept hW c0
                    have c1 := kept hW c1
                    clear hW
                    go_simp
                    done
                  · intro W hW
                    exact (less_any x u W).mono fun e w'' h => ⟨h.1, h.2 ▸ hW⟩
                  simp only [Act.put, List.setIfInBounds_toArray, List.set_cons_zero, List.set_cons_succ]
                  go_big_quiet_on)
               | (refine quiet_yield (v := ?_) ?_ ?_
                  rotate_left
                  · intro W hW
                    have c0 := kept hW c0
                    have c1 := kept hW c1
                    clear hW
                    go_simp
                    try with_reducible rfl
                  simp only [Act.put, List.setIfInBounds_toArray, List.set_cons_zero, List.set_cons_succ]
                  go_big_quiet_on)))
        refine wpQuiet_nil ?_
        intro W hW
        have HW := hide (chain HB.out hW)
        clear hW c0 c1
        go_wp2_with fail
      · have H1 := hide (show sortB l = false from sortB_false (k := k - 1) (by rw [HD.out]; simp; omega) _ rfl)
        go_ret
        exact ⟨ret_bool H1.out.symm, HW.out⟩
      · go_roundw
        case rel => exact ⟨((k - 1 : Nat) : Int), by omega, by omega, by simp, by
          have := HSO.out
          rw [Int.toNat_natCast, HD.out, show k - 1 + 1 = k by omega]
          simp only [Int.toNat_natCast] at this
          rw [this]; simp; omega, HW.out⟩
        case measure => simp [RowKit.intOf]; omega
    · have hq : ¬ (0 : Int) < y := hy
      have H1 := hide (show sortB l = true by have := HSO.out; rw [show y.toNat = 0 by omega] at this; simpa using this)
      clear hso hb
      go_wp2_with fail
      go_ret
      exact ⟨ret_bool H1.out.symm, HB.out⟩
end Go.Proofs.YtmfohnchnbgbaaaGreatDoor

/- Covers and terms: whether they may be. -/
namespace Go.Proofs.YtmfohnchnbgbaaaGreatDoor
open Go.RowKit

theorem sv_ints {w : World} {g : Nat} {l : List Int} (hB : Blk w g 3 (l.map fun n => Value.int .i64 n).toArray) (hm : l.length ≤ maxLen) : SV w 1 (some ⟨g, 0, none⟩) l.length l.length (l.map encI) :=
  ⟨fun i row hr => by
    rw [List.getElem?_map] at hr
    obtain ⟨x, hx, rfl⟩ := Option.map_eq_some_iff.1 hr
    refine ⟨g, 0, rfl, hB.lt, fun j u hu => ?_⟩
    match j, hu with
    | 0, hu =>
      simp [encI] at hu
      subst hu
      rw [Nat.zero_add, Nat.mul_one, Nat.add_zero, hB.cell i, List.getElem?_toArray, List.getElem?_map, hx]
      rfl, by rw [List.length_map], Nat.le_refl _, hm, fun h => by cases h⟩

/-- A cover. -/
structure Cv where
  p : Int
  lim : Int
  agg : Int
  ded : Int
  sh : Int
def encCv (c : Cv) : List Value := [.int .i64 c.p, .int .i64 c.lim, .int .i64 c.agg, .int .i64 c.ded, .int .i64 c.sh]
def okCv (c : Cv) : Prop := ok64 c.p ∧ ok64 c.lim ∧ ok64 c.agg ∧ ok64 c.ded ∧ ok64 c.sh
def coverB (c : Cv) : Bool := decide (0 ≤ c.p ∧ c.p < 8 ∧ 1 ≤ c.sh ∧ c.sh ≤ 10000 ∧ 0 ≤ c.ded ∧ c.ded < c.lim ∧ c.lim ≤ c.agg ∧ c.agg ≤ 1000000000000000)

theorem wrap64_pred {l : Int} (h : -9223372036854775808 ≤ l ∧ l ≤ 9223372036854775807) : wrap64 (l - 1) = if l = -9223372036854775808 then 9223372036854775807 else l - 1 := by
  split
  · rename_i e; subst e; decide +kernel
  · exact IntWalk.wrap64_in _ (by omega)
theorem five_any (g : Nat) (a b c d e : Int) (w : World) (hB : Blk w g 3 #[.int .i64 a, .int .i64 b, .int .i64 c, .int .i64 d, .int .i64 e]) :
    Calls Tryz.prog 103 #[.slice (some ⟨g, 0, none⟩) 5 5] w fun en w' => en = .returned (.bool (sortB [a, b, c, d, e])) ∧ Below w.heap.size w w' :=
  sorted_any (some ⟨g, 0, none⟩) 5 5 [a, b, c, d, e] w (sv_ints (l := [a, b, c, d, e]) hB (by simp [maxLen]))

set_option maxRecDepth 100000 in
set_option maxHeartbeats 1000000 in
theorem cover_any (c : Cv) (hc : okCv c) (w : World) :
    Calls Tryz.prog 58 #[.agg #[.int .i64 c.p, .int .i64 c.lim, .int .i64 c.agg, .int .i64 c.ded, .int .i64 c.sh]] w fun e w' => e = .returned (.bool (coverB c)) ∧ Below w.heap.size w w' := by
  obtain ⟨p, l, a, d, s⟩ := c
  obtain ⟨-, h1, h2, -, -⟩ := hc
  unfold ok64 at h1 h2
  simp only at h1 h2 ⊢
  by_cases hps : (0 ≤ p ∧ p < 8) ∧ 1 ≤ s ∧ s ≤ 10000
  case neg =>
    have hF := hide (show coverB ⟨p, l, a, d, s⟩ = false by simp only [coverB, decide_eq_false_iff_not]; omega)
    go_enter Tryz.func58, Tryz.ntmps58
    go_wp2
    all_goals first
      | (exfalso; omega)
      | (go_ret
         exact ⟨ret_bool hF.out.symm, (Below.refl _ _).alloc (Nat.le_refl _) _⟩)
  obtain ⟨⟨hp1, hp2⟩, hs1, hs2⟩ := hps
  go_enter Tryz.func58, Tryz.ntmps58
  go_wp2_with fail
  have hB := hide (show coverB ⟨p, l, a, d, s⟩ = (sortB [0, d, wrap64 (l - 1), wrap64 (a - 1), 999999999999999] && decide (d < l)) by
    rw [wrap64_pred h1, wrap64_pred h2, Bool.eq_iff_iff]
    split <;> split
    all_goals
      simp [coverB, sortB]
      omega)
  refine (five_any (w.heap.size + 1) 0 d (wrap64 (l - 1)) (wrap64 (a - 1)) 999999999999999 _ (Blk.new' (by simp))).mono ?_
  rintro e w1 ⟨rfl, hb1⟩
  obtain ⟨hc, hf⟩ := bcell hb1
  have H1 := hide (chain1 (chain1 hb1))
  have k1 := kept hb1 (b := w.heap.size) (o := 3) (u := .int .i64 d) (by simp)
  have k2 := kept hb1 (b := w.heap.size) (o := 1) (u := .int .i64 l) (by simp)
  obtain ⟨B, hBB⟩ : ∃ B, sortB [0, d, wrap64 (l - 1), wrap64 (a - 1), 999999999999999] = B := ⟨_, rfl⟩
  rw [hBB] at hB ⊢
  clear hBB hb1 hc hf
  cases B
  all_goals
    go_wp2_with fail
    all_goals
      go_ret
      exact ⟨ret_bool (by rw [hB.out]; simp), H1.out⟩
end Go.Proofs.YtmfohnchnbgbaaaGreatDoor

/- Terms: whether covers, and terms, may be. -/
namespace Go.Proofs.YtmfohnchnbgbaaaGreatDoor
open Go.RowKit

/-- Do covers rise by their perils, and may each be; the last peril. -/
def stepCv (s : Bool × Int) (c : Cv) : Bool × Int := (s.1 && (decide (s.2 < c.p) && coverB c), c.p)
def cst (l : List Cv) : Bool × Int := l.foldl stepCv (true, -1)
def coversB (l : List Cv) : Bool := (cst l).1 && decide (1 ≤ l.length ∧ l.length ≤ 8)
theorem cst_take {l : List Cv} {k : Nat} {c : Cv} (h : l[k]? = some c) : cst (l.take (k + 1)) = stepCv (cst (l.take k)) c := by rw [take_of h, cst, cst, List.foldl_append]; rfl
theorem cst_false : ∀ (l : List Cv) (s : Bool × Int), s.1 = false → (l.foldl stepCv s).1 = false
  | [], _, h => h
  | c :: r, s, h => cst_false r _ (by simp [stepCv, h])
theorem cst_no {l : List Cv} {k : Nat} (h : (cst (l.take k)).1 = false) : (cst l).1 = false := by
  have := cst_false (l.drop k) _ h
  rw [cst, ← List.foldl_append, List.take_append_drop] at this
  exact this
theorem Sl.cv {w : World} {B k : Nat} {A : Option Addr} {l : List Cv} {c : Cv} (h : Sl w B 5 A (l.map encCv)) (hx : l[k]? = some c) :
    ∃ b off, A = some ⟨b, off, none⟩ ∧ b < B ∧ w.cell? ⟨b, off + k * 5, none⟩ = some (.int .i64 c.p) ∧ w.cell? ⟨b, off + k * 5 + 1, none⟩ = some (.int .i64 c.lim) ∧ w.cell? ⟨b, off + k * 5 + 2, none⟩ = some (.int .i64 c.agg) ∧ w.cell? ⟨b, off + k * 5 + 3, none⟩ = some (.int .i64 c.ded) ∧ w.cell? ⟨b, off + k * 5 + 4, none⟩ = some (.int .i64 c.sh) := by
  obtain ⟨b, off, hA, hb, hc⟩ := h k (encCv c) (by simp [hx])
  exact ⟨b, off, hA, hb, by simpa using hc 0 _ rfl, hc 1 _ rfl, hc 2 _ rfl, hc 3 _ rfl, hc 4 _ rfl⟩
theorem cover_is {c : Cv} {b : Bool} (h : coverB c = b) (hc : okCv c) (w : World) :
    Calls Tryz.prog 58 #[.agg #[.int .i64 c.p, .int .i64 c.lim, .int .i64 c.agg, .int .i64 c.ded, .int .i64 c.sh]] w fun e w' => e = .returned (.bool b) ∧ Below w.heap.size w w' := by
  subst h; exact cover_any c hc w

set_option maxRecDepth 100000 in
set_option maxHeartbeats 2000000 in
theorem covers_any (A : Option Addr) (cap n : Nat) (l : List Cv) (w : World) (hs : SV w 5 A n cap (l.map encCv)) (ho : ∀ c ∈ l, okCv c) :
    Calls Tryz.prog 120 #[.slice A n cap] w fun e w' => e = .returned (.bool (coversB l)) ∧ Below w.heap.size w w' := by
  have hn : l.length = n := by have := hs.len; simpa using this
  have hle := hs.le
  have hmo := hs.most
  unfold maxLen at hmo
  have HN := hide hn
  have HS := hide hs
  have HO := hide ho
  clear hn hs ho
  go_enter Tryz.func120, Tryz.ntmps120
  go_wp2_with fail
  go_loopw [3, 8] (fun la i wr => ∃ k : Nat, k ≤ n ∧ i = .int .i64 k ∧ la = .int .i64 (cst (l.take k)).2 ∧ (cst (l.take k)).1 = true ∧ Below w.heap.size w wr) (fun _ i _ => n - (RowKit.intOf i).toNat)
  case atStart => exact ⟨0, Nat.zero_le _, rfl, rfl, rfl, Below.refl _ _⟩
  case round =>
    obtain ⟨k, hk, rfl, rfl, hr, hb⟩ := hrel
    have HB := hide hb
    obtain ⟨last, hlast⟩ : ∃ x, (cst (l.take k)).2 = x := ⟨_, rfl⟩
    have HST := hide (show cst (l.take k) = (true, last) from Prod.ext hr hlast)
    rw [hlast]
    clear hr hlast
    by_cases hlt : k < n
    · obtain ⟨c, hx⟩ := get_of (l := l) (k := k) (by rw [HN.out]; exact hlt)
      obtain ⟨b, off, rfl, hbl, c0, c1, c2, c3, c4⟩ := (HS.out.below hb).sl.cv hx
      have HT := hide (show cst (l.take (k + 1)) = stepCv (true, last) c by rw [cst_take hx, HST.out])
      have HOK := hide (HO.out c (List.mem_of_getElem? hx))
      have hk0 : (0 : Int) ≤ (k : Int) := by omega
      have hk1 : (k : Int) < (n : Int) := by omega
      clear hb hx
      obtain ⟨B, hB⟩ : ∃ B, coverB c = B := ⟨_, rfl⟩
      have HBB := hide hB
      clear hB
      by_cases hp : c.p ≤ last
      · have HF := hide (show coversB l = false by rw [coversB, cst_no (k := k + 1) (by rw [HT.out]; simp [stepCv]; intro h; omega)]; rfl)
        go_wp2_with fail
        go_ret
        exact ⟨ret_bool HF.out.symm, HB.out.alloc HB.out.size _⟩
      · cases B
        · have HF := hide (show coversB l = false by rw [coversB, cst_no (k := k + 1) (by rw [HT.out]; simp [stepCv, HBB.out])]; rfl)
          go_wp2_with (with_reducible refine (cover_is HBB.out HOK.out _).mono ?_
                       rintro e w2 ⟨rfl, hb2⟩
                       have H2 := hide (chain1 hb2)
                       clear hb2)
          go_ret
          exact ⟨ret_bool HF.out.symm, chain HB.out H2.out⟩
        · have HF := hide (show cst (l.take (k + 1)) = (true, c.p) by rw [HT.out]; simp [stepCv, HBB.out]; omega)
          go_wp2_with (with_reducible refine (cover_is HBB.out HOK.out _).mono ?_
                       rintro e w2 ⟨rfl, hb2⟩
                       have H2 := hide (chain1 hb2)
                       have z0 := kept hb2 (b := wr.heap.size) (o := 0) (u := .int .i64 c.p) (by simp)
                       clear hb2)
          go_roundw
          case rel => exact ⟨k + 1, by omega, by go_num, by rw [HF.out], by rw [HF.out], chain HB.out H2.out⟩
          case measure => simp [RowKit.intOf]; omega
    · obtain rfl : k = n := by omega
      have hk1 : ¬ (k : Int) < (k : Int) := by omega
      have HC := hide (show coversB l = decide (1 ≤ k ∧ k ≤ 8) by
        have := HST.out
        rw [List.take_of_length_le (by rw [HN.out]; exact Nat.le_refl _)] at this
        rw [coversB, this, HN.out]; simp)
      clear hb
      go_wp2_with fail
      all_goals
        go_ret
        exact ⟨ret_bool (by rw [HC.out, Bool.eq_iff_iff]; simp; try omega), HB.out⟩
end Go.Proofs.YtmfohnchnbgbaaaGreatDoor

/- Terms: whether all that is asked is so; whether terms may be. -/
namespace Go.Proofs.YtmfohnchnbgbaaaGreatDoor
open Go.RowKit

def riskB (k v a z : Int) : Bool := decide (0 ≤ k ∧ k < 4 ∧ 1 ≤ v ∧ v ≤ 1000000000000000 ∧ 0 ≤ a ∧ a ≤ 200 ∧ 0 ≤ z ∧ z < 100)
theorem risk_any (k v a z : Int) (w : World) :
    Calls Tryz.prog 118 #[.agg #[.int .i64 k, .int .i64 v, .int .i64 a, .int .i64 z]] w fun e w' => e = .returned (.bool (riskB k v a z)) ∧ Below w.heap.size w w' := by
  go_enter Tryz.func118, Tryz.ntmps118
  go_wp2
  all_goals
    go_ret
    exact ⟨ret_bool (by rw [Bool.eq_iff_iff]; simp [riskB]; omega), (Below.refl _ _).alloc (Nat.le_refl _) _⟩

/-- A closure that asks something of a box answers b, in each world that keeps w. -/
def Asks (w : World) (f x : Nat) (b : Bool) : Prop := ∀ W, Below w.heap.size w W → Calls Tryz.prog f #[.pointer (some ⟨x, 0, none⟩)] W fun e W' => e = .returned (.bool b) ∧ Below W.heap.size W W'
def askV (f x : Nat) : Value := .func (.func f) #[] #[.pointer (some ⟨x, 0, none⟩)]

/-- The closure that is put off: the result is whether all was asked. -/
theorem allD_any (n a o : Nat) (k : Int) (A : Option Addr) (m cap : Nat) (u : FrameMode) (w : World) (hn : Blk w n 3 #[.int .i64 k]) (ha : Blk w a 267 #[.slice A m cap]) (v : Value) (ho : Blk w o 4 #[v]) :
    CallsD Tryz.prog 152 #[.pointer (some ⟨n, 0, none⟩), .pointer (some ⟨a, 0, none⟩), .pointer (some ⟨o, 0, none⟩)] u w fun e u' w' => u' = u ∧ (e = .returned (.tuple #[]) ∧ w' = w.setCell ⟨o, 0, none⟩ (.bool (k == (m : Int)))) := by
  have x0 := hn.cell 0
  have x1 := ha.cell 0
  have x2 := ho.cell 0
  have x3 := ho.frozen 0
  simp at x0 x1 x2
  go_enter_d Tryz.func152, Tryz.ntmps152
  go_wp2
  go_end0
  exact ⟨rfl, rfl⟩

/-- All of the first k. -/
def allOf (l : List Bool) : Bool := l.all id
structure AllW (w : World) (g k : Nat) (wx : World) : Prop where
  a : Blk wx w.heap.size 267 #[.slice (some ⟨g, 0, none⟩) 4 4]
  o : Blk wx (w.heap.size + 1) 4 #[.bool false]
  n : Blk wx (w.heap.size + 1 + 1) 3 #[.int .i64 k]
  b : Below w.heap.size w wx
theorem AllW.below {w wx wy : World} {g k : Nat} (h : AllW w g k wx) (hb : Below wx.heap.size wx wy) : AllW w g k wy := ⟨h.a.below hb h.a.lt, h.o.below hb h.o.lt, h.n.below hb h.n.lt, chain h.b hb⟩
theorem AllW.next {w wx : World} {g k : Nat} (h : AllW w g k wx) : AllW w g (k + 1) (wx.setCell ⟨w.heap.size + 1 + 1, 0, none⟩ (.int .i64 ((k : Int) + 1))) :=
  ⟨h.a.far (by simp; omega) _, h.o.far (by simp) _, by simpa using h.n.set_ 0 (.int .i64 ((k : Int) + 1)), h.b.setCell (by simp; omega) _⟩

set_option maxHeartbeats 2000000 in
theorem termsAll_any (fl : List Nat) (bs : List Bool) (x g : Nat) (w : World) (hl : fl.length = 4) (hbs : bs.length = 4) (hB : Blk w g 24 (fl.map fun f => askV f x).toArray)
    (he : ∀ f ∈ fl, ∀ args w, (callFunc f args).run Tryz.prog w = .ok (.enter f args) w)
    (hq : ∀ (k : Nat) (f : Nat) (b : Bool), fl[k]? = some f → bs[k]? = some b → Asks w f x b) :
    Calls Tryz.prog 114 #[.slice (some ⟨g, 0, none⟩) 4 4] w fun e w' => e = .returned (.bool (allOf bs)) ∧ Below w.heap.size w w' := by
  have hmf : ∀ (fn : Fn) (first cap : Array Value) (w : World), (Instr.makeFunc fn first cap).run Tryz.prog w = .ok (.func fn first cap) w := fun _ _ _ _ => rfl
  have HB := hide hB
  have HE := hide he
  have HQ := hide hq
  have HL := hide hl
  have HBS := hide hbs
  have hg := hB.lt
  clear hB he hq hl hbs
  go_enter_defers Tryz.func114, Tryz.ntmps114
  go_wp2_with fail
  obtain ⟨w1, hw1⟩ : ∃ W, (((w.alloc (.cells #[.slice (some ⟨g, 0, none⟩) 4 4] 267)).alloc (.cells #[.bool false] 4)).alloc (.cells #[.int .i64 0] 3)) = W := ⟨_, rfl⟩
  have h1 : AllW w g 0 w1 := by
    rw [← hw1]
    refine ⟨((Blk.new _ _ _).alloc _).alloc _, (Blk.new' (by simp)).alloc _, Blk.new' (by simp), (((Below.refl _ _).alloc (Nat.le_refl _) _).alloc (by simp) _).alloc (by simp; omega) _⟩
  rw [hw1]
  have H1 := hide h1
  clear hw1 h1
  go_loopw [9] (fun i wr => ∃ k : Nat, k ≤ 4 ∧ i = .int .i64 k ∧ allOf (bs.take k) = true ∧ AllW w g k wr) (fun i _ => 4 - (RowKit.intOf i).toNat)
  case atStart => exact ⟨0, by omega, rfl, rfl, H1.out⟩
  case round =>
    obtain ⟨k, hk, rfl, hall, hW⟩ := hrel
    have HA := hide hall
    have HW := hide hW
    by_cases hlt : k < 4
    · obtain ⟨f, hf⟩ := get_of (l := fl) (k := k) (by rw [HL.out]; exact hlt)
      obtain ⟨b, hb⟩ := get_of (l := bs) (k := k) (by rw [HBS.out]; exact hlt)
      have hc := (HB.out.below hW.b HB.out.lt).cell k
      rw [List.getElem?_toArray, List.getElem?_map, hf] at hc
      simp only [Option.map_some, askV] at hc
      have eg := HE.out f (List.mem_of_getElem? hf)
      have HC := hide (HQ.out k f b hf hb wr hW.b)
      have HT := hide (take_of hb)
      have hk0 : (0 : Int) ≤ (k : Int) := by omega
      have hk1 : (k : Int) < 4 := by omega
      have hnz : wr.heap.size = wr.heap.size := rfl
      clear hall hW hf hnz
      cases b
      · have HF := hide (show allOf bs = false by
          simp only [allOf, List.all_eq_false]
          exact ⟨false, List.mem_of_getElem? hb, by simp⟩)
        clear hb
        go_wp2_with (with_reducible refine (HC.out).mono ?_
                     rintro e w2 ⟨rfl, hb2⟩
                     have H2 := hide (HW.out.below hb2)
                     clear hb2)
        refine leaves_cons (f := 152) (args := #[.pointer (some ⟨w.heap.size + 1 + 1, 0, none⟩), .pointer (some ⟨w.heap.size, 0, none⟩), .pointer (some ⟨w.heap.size + 1, 0, none⟩)]) (by simp) (by simp [go_sem]) ?_
        refine (allD_any _ _ _ k _ 4 4 .returning _ H2.out.n H2.out.a _ H2.out.o).mono ?_
        rintro e u' w'' ⟨rfl, rfl, rfl⟩
        have hk4 : ((k : Int) == ((4 : Nat) : Int)) = false := by simp; omega
        rw [hk4]
        have ob := (H2.out.o.set_ 0 (.bool false)).cell 0
        simp at ob
        have HBE := hide (H2.out.b.setCell (p := ⟨w.heap.size + 1, 0, none⟩) (by simp) (.bool false))
        simp only [Leaves, settle, results, Tryz.results114, go_sem]
        simp [ob]
        exact ⟨HF.out, HBE.out⟩
      · clear hb
        go_wp2_with (with_reducible refine (HC.out).mono ?_
                     rintro e w2 ⟨rfl, hb2⟩
                     have H2 := hide (HW.out.below hb2)
                     have z0 := H2.out.n.cell 0
                     have z1 := H2.out.n.frozen 0
                     simp at z0
                     clear hb2)
        go_roundw
        case rel => exact ⟨k + 1, by omega, by go_num, by rw [HT.out, allOf, List.all_append]; have := HA.out; rw [allOf] at this; rw [this]; rfl, H2.out.next⟩
        case measure => simp [RowKit.intOf]; omega
    · obtain rfl : k = 4 := by omega
      clear hall hW
      go_wp2_with fail
      refine leaves_cons (f := 152) (args := #[.pointer (some ⟨w.heap.size + 1 + 1, 0, none⟩), .pointer (some ⟨w.heap.size, 0, none⟩), .pointer (some ⟨w.heap.size + 1, 0, none⟩)]) (by simp) (by simp [go_sem]) ?_
      refine (allD_any _ _ _ ((4 : Nat) : Int) _ 4 4 .returning _ HW.out.n HW.out.a _ HW.out.o).mono ?_
      rintro e u' w'' ⟨rfl, rfl, rfl⟩
      have hk4 : (((4 : Nat) : Int) == ((4 : Nat) : Int)) = true := by simp
      rw [hk4]
      have hall := HA.out
      rw [List.take_of_length_le (by rw [HBS.out]; omega)] at hall
      have ob := (HW.out.o.set_ 0 (.bool true)).cell 0
      simp at ob
      have HBE := hide (HW.out.b.setCell (p := ⟨w.heap.size + 1, 0, none⟩) (by simp) (.bool true))
      simp only [Leaves, settle, results, Tryz.results114, go_sem]
      simp [ob]
      exact ⟨hall, HBE.out⟩

/-- What a policy says. -/
structure Tm where
  f : Int
  t : Int
  k : Int
  v : Int
  a : Int
  z : Int
  A : Option Addr
  l : List Cv
  cap : Nat
def tmC (x : Tm) : Array Value := #[.int .i64 x.f, .int .i64 x.t, .int .i64 x.k, .int .i64 x.v, .int .i64 x.a, .int .i64 x.z, .slice x.A x.l.length x.cap]
def manyB (x : Tm) : Bool := decide (1 ≤ manyI x.f x.t ∧ manyI x.f x.t ≤ 1100)
def termsB (x : Tm) : Bool := allOf [spanB x.f x.t, manyB x, riskB x.k x.v x.a x.z, coversB x.l]
section
variable {w : World} {g : Nat} {x : Tm}
theorem tm_cells (hB : Blk w g 61 (tmC x)) : w.cell? ⟨g, 0, none⟩ = some (.int .i64 x.f) ∧ w.cell? ⟨g, 1, none⟩ = some (.int .i64 x.t) ∧ w.cell? ⟨g, 2, none⟩ = some (.int .i64 x.k) ∧ w.cell? ⟨g, 3, none⟩ = some (.int .i64 x.v) ∧ w.cell? ⟨g, 4, none⟩ = some (.int .i64 x.a) ∧ w.cell? ⟨g, 5, none⟩ = some (.int .i64 x.z) ∧ w.cell? ⟨g, 6, none⟩ = some (.slice x.A x.l.length x.cap) :=
  ⟨hB.cell 0, hB.cell 1, hB.cell 2, hB.cell 3, hB.cell 4, hB.cell 5, hB.cell 6⟩
theorem ask1 (hB : Blk w g 61 (tmC x)) : Asks w 115 g (spanB x.f x.t) := fun W hW => by
  obtain ⟨c0, c1, c2, c3, c4, c5, c6⟩ := tm_cells (hB.below hW hB.lt)
  clear hB
  go_enter Tryz.func115, Tryz.ntmps115
  go_wp2_with fail
  refine (span_any _ _ _).mono ?_
  rintro e w1 ⟨rfl, h1⟩
  have H1 := hide h1
  clear h1
  go_wp2_with fail
  go_ret
  exact ⟨rfl, H1.out⟩
set_option maxHeartbeats 1000000 in
theorem ask2 (hB : Blk w g 61 (tmC x)) : Asks w 116 g (manyB x) := fun W hW => by
  have HB := hide (hB.below hW hB.lt)
  obtain ⟨c0, c1, c2, c3, c4, c5, c6⟩ := tm_cells HB.out
  clear hB
  obtain ⟨m, hm⟩ : ∃ m, manyI x.f x.t = m := ⟨_, rfl⟩
  have HM := hide hm
  have hMB := hide (show manyB x = decide (1 ≤ m ∧ m ≤ 1100) by rw [manyB, hm])
  have HC := hide (fun W => many_any x.f x.t W)
  rw [hm] at HC
  clear hm
  by_cases h1 : 1 ≤ m
  · go_enter Tryz.func116, Tryz.ntmps116
    go_wp2_with fail
    refine (HC.out _).mono ?_
    rintro e w1 ⟨rfl, b1⟩
    obtain ⟨d0, d1, d2, d3, d4, d5, d6⟩ := tm_cells (HB.out.below b1 HB.out.lt)
    have H1 := hide b1
    clear b1 c0 c1 c2 c3 c4 c5 c6
    go_wp2_with fail
    refine (HC.out _).mono ?_
    rintro e w2 ⟨rfl, b2⟩
    have H2 := hide (chain H1.out b2)
    clear b2
    go_wp2_with fail
    go_ret
    exact ⟨ret_bool (by rw [hMB.out, Bool.eq_iff_iff]; simp; omega), H2.out⟩
  · have hF := hide (show manyB x = false by rw [hMB.out]; simp; omega)
    have h1' : ¬ (1 : Int) ≤ m := h1
    go_enter Tryz.func116, Tryz.ntmps116
    go_wp2_with fail
    refine (HC.out _).mono ?_
    rintro e w1 ⟨rfl, b1⟩
    have H1 := hide b1
    clear b1
    go_wp2_with fail
    go_ret
    exact ⟨ret_bool hF.out.symm, H1.out⟩
theorem ask3 (hB : Blk w g 61 (tmC x)) : Asks w 117 g (riskB x.k x.v x.a x.z) := fun W hW => by
  obtain ⟨c0, c1, c2, c3, c4, c5, c6⟩ := tm_cells (hB.below hW hB.lt)
  clear hB
  go_enter Tryz.func117, Tryz.ntmps117
  go_wp2_with fail
  refine (risk_any _ _ _ _ _).mono ?_
  rintro e w1 ⟨rfl, h1⟩
  have H1 := hide h1
  clear h1
  go_wp2_with fail
  go_ret
  exact ⟨rfl, H1.out⟩
theorem ask4 (hB : Blk w g 61 (tmC x)) (hs : SV w 5 x.A x.l.length x.cap (x.l.map encCv)) (ho : ∀ c ∈ x.l, okCv c) : Asks w 119 g (coversB x.l) := fun W hW => by
  obtain ⟨c0, c1, c2, c3, c4, c5, c6⟩ := tm_cells (hB.below hW hB.lt)
  have HS := hide (hs.below hW)
  have HO := hide ho
  clear hB hs ho
  go_enter Tryz.func119, Tryz.ntmps119
  go_wp2_with fail
  refine (covers_any _ _ _ x.l _ HS.out HO.out).mono ?_
  rintro e w1 ⟨rfl, h1⟩
  have H1 := hide h1
  clear h1
  go_wp2_with fail
  go_ret
  exact ⟨rfl, H1.out⟩
end
set_option maxHeartbeats 1000000 in
theorem terms_any (x : Tm) (w : World) (hs : SV w 5 x.A x.l.length x.cap (x.l.map encCv)) (ho : ∀ c ∈ x.l, okCv c) :
    Calls Tryz.prog 69 #[.agg #[.int .i64 x.f, .int .i64 x.t, .int .i64 x.k, .int .i64 x.v, .int .i64 x.a, .int .i64 x.z, .slice x.A x.l.length x.cap]] w fun e w' => e = .returned (.bool (termsB x)) ∧ Below w.heap.size w w' := by
  have hmf : ∀ (fn : Fn) (first cap : Array Value) (w : World), (Instr.makeFunc fn first cap).run Tryz.prog w = .ok (.func fn first cap) w := fun _ _ _ _ => rfl
  have HS := hide hs
  have HO := hide ho
  clear hs ho
  go_enter Tryz.func69, Tryz.ntmps69
  go_wp2_with fail
  have hB0 : Blk (w.alloc (.cells (tmC x) 61)) w.heap.size 61 (tmC x) := Blk.new _ _ _
  have h1 := (Below.refl w.heap.size w).alloc (Nat.le_refl _) (.cells (tmC x) 61)
  have hb1 : Below w.heap.size w ((w.alloc (.cells (tmC x) 61)).alloc (.cells #[askV 115 w.heap.size, askV 116 w.heap.size, askV 117 w.heap.size, askV 119 w.heap.size] 24)) := h1.alloc (by simp) _
  have hB := hB0.alloc (.cells #[askV 115 w.heap.size, askV 116 w.heap.size, askV 117 w.heap.size, askV 119 w.heap.size] 24)
  have hS := HS.out.below hb1
  refine (termsAll_any [115, 116, 117, 119] [spanB x.f x.t, manyB x, riskB x.k x.v x.a x.z, coversB x.l] w.heap.size (w.heap.size + 1) _ rfl rfl (Blk.new' (by simp)) (fun f hf => ?_) (fun k f b hk hb => ?_)).mono ?_
  · simp only [List.mem_cons, List.not_mem_nil, or_false] at hf
    rcases hf with rfl | rfl | rfl | rfl
    · exact Go.Proofs.enters_of Tryz.func115 (by kernel_rfl) rfl
    · exact Go.Proofs.enters_of Tryz.func116 (by kernel_rfl) rfl
    · exact Go.Proofs.enters_of Tryz.func117 (by kernel_rfl) rfl
    · exact Go.Proofs.enters_of Tryz.func119 (by kernel_rfl) rfl
  · match k, hk, hb with
    | 0, hk, hb => simp at hk hb; subst hk hb; exact ask1 hB
    | 1, hk, hb => simp at hk hb; subst hk hb; exact ask2 hB
    | 2, hk, hb => simp at hk hb; subst hk hb; exact ask3 hB
    | 3, hk, hb => simp at hk hb; subst hk hb; exact ask4 hB hS HO.out
    | k + 4, hk, hb => simp at hk
  · rintro e w1 ⟨rfl, b1⟩
    have H1 := hide (chain hb1 b1)
    clear b1 hb1 hB hB0 h1 hS
    go_wp2_with fail
    go_ret
    exact ⟨rfl, H1.out⟩
end Go.Proofs.YtmfohnchnbgbaaaGreatDoor

/- Bands: the contracts of the program's and the document's functions, as in layer 6. -/
namespace Go.Proofs.YtmfohnchnbgbaaaGreatDoor
open Go.RowKit

abbrev Bd := Int × Int
def encBd (x : Bd) : List Value := [.int .i64 x.1, .int .i64 x.2]
def rise (last : Int) : List Bd → Bool
  | [] => true
  | x :: r => if x.1 ≤ last ∨ 200 < x.1 ∨ x.2 < 0 ∨ 100000 < x.2 then false else rise x.1 r
def bandI (age : Int) : List Bd → Int
  | [] => 10000
  | x :: r => if x.1 < age then bandI age r else x.2
def bandsB (l : List Bd) : Bool := rise (-1) l && decide (l.length ≤ 100)
theorem Sl.bd {w : World} {B k : Nat} {A : Option Addr} {l : List Bd} {u p : Int} (h : Sl w B 2 A (l.map encBd)) (hx : l[k]? = some (u, p)) :
    ∃ b off, A = some ⟨b, off, none⟩ ∧ b < B ∧ w.cell? ⟨b, off + k * 2, none⟩ = some (.int .i64 u) ∧ w.cell? ⟨b, off + k * 2 + 1, none⟩ = some (.int .i64 p) := by
  obtain ⟨b, off, hA, hb, hc⟩ := h k (encBd (u, p)) (by simp [hx])
  exact ⟨b, off, hA, hb, hc 0 _ rfl, hc 1 _ rfl⟩

set_option maxHeartbeats 400000 in
theorem bands_any (A : Option Addr) (c : Nat) (l : List Bd) (w : World) (hl : Sl w w.heap.size 2 A (l.map encBd)) (hm : l.length ≤ 9223372036854775807) :
    Calls Tryz.prog 155 #[.slice A l.length c] w fun e w' => e = .returned (.bool (bandsB l)) ∧ Below w.heap.size w w' := by
  go_enter Tryz.func155, Tryz.ntmps155
  go_wp2
  go_loopw [3, 8] (fun t i wr => ∃ (k : Nat) (last : Int), k ≤ l.length ∧ i = .int .i64 k ∧ t = .int .i64 last ∧ rise last (l.drop k) = rise (-1) l ∧ Below w.heap.size w wr) (fun _ i _ => l.length - (intOf i).toNat)
  case atStart => exact ⟨0, -1, Nat.zero_le _, rfl, rfl, rfl, Below.refl _ _⟩
  case round =>
    obtain ⟨k, last, hk, rfl, rfl, hr, hb⟩ := hrel
    by_cases hlt : k < l.length
    · obtain ⟨⟨u, p⟩, hx⟩ := get_of hlt
      obtain ⟨b, off, rfl, hbl, hc0, hc1⟩ := (hl.below hb).bd hx
      have hs := hb.size
      rw [drop_of hx] at hr
      have H := hide hr
      clear hr hx
      go_wp2
      all_goals first
        | (go_ret
           exact ⟨ret_bool (by have h := H.out; rw [rise, if_pos (by omega)] at h; simp [bandsB, ← h]), by repeat (first | exact hb | refine Below.alloc ?_ hs _ | refine Below.setCell ?_ (by simp; omega) _)⟩)
        | (go_roundw
           case rel => exact ⟨k + 1, u, by omega, by go_num, rfl, by have h := H.out; rw [rise, if_neg (by omega)] at h; exact h, by repeat (first | exact hb | refine Below.alloc ?_ hs _ | refine Below.setCell ?_ (by simp; omega) _)⟩
           case measure => simp [intOf]; omega)
    · obtain rfl : k = l.length := by omega
      have hr' : rise (-1) l = true := by rw [← hr]; simp [rise]
      have H := hide hr'
      clear hr hr' hlt
      go_wp2
      go_ret
      exact ⟨ret_bool (by rw [bandsB, H.out, Bool.eq_iff_iff]; simp; omega), hb⟩

def lastOf (l : List Bd) (k : Nat) : Int := if k = 0 then -1 else ((l[k - 1]?).getD (0, 0)).1
theorem lastOf_zero (l : List Bd) : lastOf l 0 = -1 := rfl
theorem lastOf_succ {l : List Bd} {k : Nat} {x : Bd} (h : l[k]? = some x) : lastOf l (k + 1) = x.1 := by simp [lastOf, h]

end Go.Proofs.YtmfohnchnbgbaaaGreatDoor

/- Versions and tariffs: how they lie; whether numbers may be factors. -/
namespace Go.Proofs.YtmfohnchnbgbaaaGreatDoor
open Go.ChangeShapes Go.WideShapes Go.ChangeAt Go.RowKit

/-- A version, where it lies. -/
structure Vw where
  f : Int
  b0 : Int
  b1 : Int
  b2 : Int
  b3 : Int
  aA : Option Addr
  age : List Bd
  aC : Nat
  zA : Option Addr
  zone : List Int
  zC : Nat
  pA : Option Addr
  peril : List Int
  pC : Nat
  mn : Int
def encV (v : Vw) : List Value := [.int .i64 v.f, .int .i64 v.b0, .int .i64 v.b1, .int .i64 v.b2, .int .i64 v.b3, .slice v.aA v.age.length v.aC, .slice v.zA v.zone.length v.zC, .slice v.pA v.peril.length v.pC, .int .i64 v.mn]
/-- A version. -/
structure Ver where
  f : Int
  b0 : Int
  b1 : Int
  b2 : Int
  b3 : Int
  age : List Bd
  zone : List Int
  peril : List Int
  mn : Int
def Vw.v (x : Vw) : Ver := ⟨x.f, x.b0, x.b1, x.b2, x.b3, x.age, x.zone, x.peril, x.mn⟩
structure VOK (w : World) (v : Vw) : Prop where
  age : SV w 2 v.aA v.age.length v.aC (v.age.map encBd)
  zone : SV w 1 v.zA v.zone.length v.zC (v.zone.map encI)
  peril : SV w 1 v.pA v.peril.length v.pC (v.peril.map encI)
theorem VOK.below {w w' : World} {v : Vw} (h : VOK w v) (hb : Below w.heap.size w w') : VOK w' v := ⟨h.age.below hb, h.zone.below hb, h.peril.below hb⟩
/-- A slice of versions. -/
structure TV (w : World) (A : Option Addr) (n cap : Nat) (M : List Vw) : Prop where
  sv : SV w 9 A n cap (M.map encV)
  rows : ∀ v ∈ M, VOK w v
theorem TV.below {w w' : World} {A : Option Addr} {n cap : Nat} {M : List Vw} (h : TV w A n cap M) (hb : Below w.heap.size w w') : TV w' A n cap M := ⟨h.sv.below hb, fun v hv => (h.rows v hv).below hb⟩
theorem TV.len {w : World} {A : Option Addr} {n cap : Nat} {M : List Vw} (h : TV w A n cap M) : M.length = n := by have := h.sv.len; simpa using this
def allV (M : List Vw) : List Ver := M.map Vw.v

theorem cells_band : Tryz.prog.cellsOf 228 = 2 := by kernel_rfl
theorem cells_ver : Tryz.prog.cellsOf 114 = 9 := by kernel_rfl
theorem cells_tar : Tryz.prog.cellsOf 67 = 1 := by kernel_rfl
theorem leaves_band : leaves Tryz.prog 2 228 = some [.int .i64, .int .i64] := by kernel_rfl
theorem leaves_ver : leaves Tryz.prog 3 114 = some [.int .i64, .int .i64, .int .i64, .int .i64, .int .i64, .slice 228, .slice 3, .slice 3, .int .i64] := by kernel_rfl
theorem leaves_tar : leaves Tryz.prog 2 67 = some [.slice 114] := by kernel_rfl
def okVw (v : Vw) : Prop := ok64 v.f ∧ ok64 v.mn
section
variable {H : Type} {enc : TypeId × Value → H} {W : World} {r : Reach} {b0 : Nat} {v : Value} {d : DataW H} {p : List MemPlace}
theorem rows_ints_Tar (h : LeafOk enc Tryz.prog W (.slice 3) v) : ∃ (A : Option Addr) (l : List Int) (cap : Nat), v = .slice A l.length cap ∧ SV W 1 A l.length cap (l.map encI) := by
  obtain ⟨A, l, cap, hv, h1, h2, h3, _, h5⟩ := rows_of enc Tryz.prog W (α := Int) 1 1 encI ok64 leaves_int cells_int rfl (by omega) (fun cs hl => by
    obtain ⟨n1, l1, rfl, w1, h1⟩ := leaf_int enc _ _ hl
    obtain rfl := allLeaf_nil enc _ _ h1
    exact ⟨n1, rfl, wf64 w1⟩) h
  exact ⟨A, l, cap, hv, ⟨h3, List.length_map _, h1, h2, h5⟩⟩
theorem rows_bands (h : LeafOk enc Tryz.prog W (.slice 228) v) : ∃ (A : Option Addr) (l : List Bd) (cap : Nat), v = .slice A l.length cap ∧ SV W 2 A l.length cap (l.map encBd) := by
  obtain ⟨A, l, cap, hv, h1, h2, h3, _, h5⟩ := rows_of enc Tryz.prog W (α := Bd) 2 2 encBd (fun _ => True) leaves_band cells_band rfl (by omega) (fun cs hl => by
    obtain ⟨n1, l1, rfl, w1, h1⟩ := leaf_int enc _ _ hl
    obtain ⟨n2, l2, rfl, w2, h2⟩ := leaf_int enc _ _ h1
    obtain rfl := allLeaf_nil enc _ _ h2
    exact ⟨(n1, n2), rfl, trivial⟩) h
  exact ⟨A, l, cap, hv, ⟨h3, List.length_map _, h1, h2, h5⟩⟩
theorem ver_leaf {cs : List Value} (hl : AllLeaf enc Tryz.prog W [.int .i64, .int .i64, .int .i64, .int .i64, .int .i64, .slice 228, .slice 3, .slice 3, .int .i64] cs) : ∃ v : Vw, cs = encV v ∧ VOK W v ∧ okVw v := by
  obtain ⟨f, l1, rfl, wf, h1⟩ := leaf_int enc _ _ hl
  obtain ⟨b0, l2, rfl, _, h2⟩ := leaf_int enc _ _ h1
  obtain ⟨b1, l3, rfl, _, h3⟩ := leaf_int enc _ _ h2
  obtain ⟨b2, l4, rfl, _, h4⟩ := leaf_int enc _ _ h3
  obtain ⟨b3, l5, rfl, _, h5⟩ := leaf_int enc _ _ h4
  obtain ⟨va, l6, rfl, ka, h6⟩ := allLeaf_cons enc _ _ h5
  obtain ⟨vz, l7, rfl, kz, h7⟩ := allLeaf_cons enc _ _ h6
  obtain ⟨vp, l8, rfl, kp, h8⟩ := allLeaf_cons enc _ _ h7
  obtain ⟨mn, l9, rfl, wm, h9⟩ := leaf_int enc _ _ h8
  obtain rfl := allLeaf_nil enc _ _ h9
  obtain ⟨aA, age, aC, rfl, ha⟩ := rows_bands ka
  obtain ⟨zA, zone, zC, rfl, hz⟩ := rows_ints_Tar kz
  obtain ⟨pA, peril, pC, rfl, hp⟩ := rows_ints_Tar kp
  exact ⟨⟨f, b0, b1, b2, b3, aA, age, aC, zA, zone, zC, pA, peril, pC, mn⟩, rfl, ⟨ha, hz, hp⟩, wf64 wf, wf64 wm⟩
set_option maxRecDepth 100000 in
theorem open_version (hv : Value.okWide Tryz.prog W r b0 114 v) (h : DataW.Trod enc Tryz.prog W 0 (fun _ => true) true 114 v d p) :
    ∃ x : Vw, v = .agg #[.int .i64 x.f, .int .i64 x.b0, .int .i64 x.b1, .int .i64 x.b2, .int .i64 x.b3, .slice x.aA x.age.length x.aC, .slice x.zA x.zone.length x.zC, .slice x.pA x.peril.length x.pC, .int .i64 x.mn] ∧ VOK W x ∧ okVw x := by
  obtain ⟨l, rfl, hl⟩ := top_agg enc Tryz.prog W 3 Tryz.underlying114 leaves_ver cells_ver hv h
  obtain ⟨x, rfl, h1, h2⟩ := ver_leaf hl
  exact ⟨x, rfl, h1, h2⟩
set_option maxRecDepth 100000 in
theorem open_tariff (hv : Value.okWide Tryz.prog W r b0 67 v) (h : DataW.Trod enc Tryz.prog W 0 (fun _ => true) true 67 v d p) :
    ∃ (A : Option Addr) (M : List Vw) (cap : Nat), v = .agg #[.slice A M.length cap] ∧ TV W A M.length cap M ∧ ∀ x ∈ M, okVw x := by
  obtain ⟨l, rfl, hl⟩ := top_agg enc Tryz.prog W 2 Tryz.underlying67 leaves_tar cells_tar hv h
  obtain ⟨v1, l1, rfl, k1, h1⟩ := allLeaf_cons enc _ _ hl
  obtain rfl := allLeaf_nil enc _ _ h1
  obtain ⟨A, M, cap, rfl, g1, g2, g3, g4, g5⟩ := rows_of enc Tryz.prog W (α := Vw) 3 9 encV (fun v => VOK W v ∧ okVw v) leaves_ver cells_ver rfl (by omega) (fun cs hl => by
    obtain ⟨x, rfl, h1, h2⟩ := ver_leaf hl
    exact ⟨x, rfl, h1, h2⟩) k1
  exact ⟨A, M, cap, rfl, ⟨⟨g3, List.length_map _, g1, g2, g5⟩, fun v hv => (g4 v hv).1⟩, fun v hv => (g4 v hv).2⟩
end

/-! ### Factors -/
def facB (l : List Int) : Bool := l.all fun x => decide (0 ≤ x ∧ x ≤ 100000)
theorem fac1_any (x : Int) (w : World) : Calls Tryz.prog 172 #[.int .i64 x] w fun e w' => e = .returned (.bool (!decide (0 ≤ x ∧ x ≤ 100000))) ∧ w = w' := by
  go_enter Tryz.func172, Tryz.ntmps172
  go_wp2
  all_goals
    go_ret
    exact ⟨ret_bool (by rw [Bool.eq_iff_iff]; simp <;> omega), rfl⟩
theorem facB_take {l : List Int} {k : Nat} {x : Int} (h : l[k]? = some x) : facB (l.take (k + 1)) = (facB (l.take k) && decide (0 ≤ x ∧ x ≤ 100000)) := by rw [take_of h]; simp [facB]
theorem facB_no {l : List Int} {k : Nat} {x : Int} (h : l[k]? = some x) (hx : ¬(0 ≤ x ∧ x ≤ 100000)) : facB l = false := by
  rw [facB, List.all_eq_false]
  exact ⟨x, List.mem_of_getElem? h, by simpa using hx⟩
set_option maxHeartbeats 1000000 in
theorem idx_any (A : Option Addr) (cap : Nat) (l : List Int) (w : World) (hs : SV w 1 A l.length cap (l.map encI)) :
    Calls Tryz.prog 177 #[.slice A l.length cap, .func (.func 172) #[] #[]] w fun e w' => (∃ i : Int, e = .returned (.int .i64 i) ∧ (decide (0 ≤ i) = !facB l)) ∧ w = w' := by
  have HS := hide hs
  have hmx := hs.le
  have hmy := hs.most
  unfold maxLen at hmy
  clear hs
  go_enter Tryz.func177, Tryz.ntmps177
  go_wp2_with fail
  go_loop [8] (fun i => ∃ k : Nat, k ≤ l.length ∧ i = .int .i64 k ∧ facB (l.take k) = true) (fun i => l.length - (intOf i).toNat)
  case atStart => exact ⟨0, Nat.zero_le _, rfl, rfl⟩
  case round =>
    obtain ⟨k, hk, rfl, hok⟩ := hrel
    have HOK := hide hok
    clear hok
    by_cases hlt : k < l.length
    · obtain ⟨x, hx⟩ := get_of hlt
      obtain ⟨bb, off, rfl, hbl, hc⟩ := HS.out.sl.i hx
      have hk0 : (0 : Int) ≤ (k : Int) := by omega
      have hk1 : (k : Int) < (l.length : Int) := by omega
      have HX := hide hx
      clear hx
      go_wp2_with fail
      refine (fac1_any x _).mono ?_
      rintro e w' ⟨rfl, rfl⟩
      by_cases hg : 0 ≤ x ∧ x ≤ 100000
      · have hd : decide (0 ≤ x ∧ x ≤ 100000) = true := by simp; omega
        have HT := hide (show facB (l.take (k + 1)) = true by rw [facB_take HX.out, HOK.out, hd]; rfl)
        rw [hd]
        clear hd hg
        go_wp2_with fail
        go_round
        case rel => exact ⟨k + 1, by omega, by go_num, HT.out⟩
        case measure => simp [intOf]; omega
      · have hd : decide (0 ≤ x ∧ x ≤ 100000) = false := by simp; omega
        have HT := hide (facB_no HX.out hg)
        rw [hd]
        clear hd hg
        go_wp2_with fail
        go_ret
        exact ⟨⟨k, rfl, by rw [HT.out]; simp⟩, rfl⟩
    · obtain rfl : k = l.length := by omega
      rw [List.take_length] at HOK
      go_wp2_with fail
      go_ret
      exact ⟨⟨-1, rfl, by rw [HOK.out]; rfl⟩, rfl⟩
theorem cont_any (A : Option Addr) (cap : Nat) (l : List Int) (w : World) (hs : SV w 1 A l.length cap (l.map encI)) :
    Calls Tryz.prog 171 #[.slice A l.length cap, .func (.func 172) #[] #[]] w fun e w' => e = .returned (.bool (!facB l)) ∧ w = w' := by
  have HS := hide hs
  clear hs
  go_enter Tryz.func171, Tryz.ntmps171
  go_wp2_with fail
  refine (idx_any A cap l _ HS.out).mono ?_
  rintro e w1 ⟨⟨i, rfl, hi⟩, rfl⟩
  have HI := hide hi
  clear hi
  go_wp2_with fail
  go_ret
  exact ⟨ret_bool HI.out, rfl⟩
theorem factors_any_Tar (A : Option Addr) (cap n : Nat) (l : List Int) (w : World) (hs : SV w 1 A n cap (l.map encI)) :
    Calls Tryz.prog 154 #[.slice A n cap] w fun e w' => e = .returned (.bool (facB l)) ∧ w = w' := by
  have hn : l.length = n := by have := hs.len; simpa using this
  subst hn
  have HS := hide hs
  clear hs
  go_enter Tryz.func154, Tryz.ntmps154
  go_wp2_with fail
  refine (cont_any A cap l _ HS.out).mono ?_
  rintro e w1 ⟨rfl, rfl⟩
  go_wp2_with fail
  go_ret
  exact ⟨ret_bool (by simp), rfl⟩
end Go.Proofs.YtmfohnchnbgbaaaGreatDoor

/- Whether a version may be: the program's and the document's answer. -/
namespace Go.Proofs.YtmfohnchnbgbaaaGreatDoor
open Go.RowKit

def numsB (v : Ver) : Bool := decide (1 ≤ v.f ∧ v.f ≤ 292194 ∧ 0 ≤ v.mn ∧ v.mn ≤ 1000000000000000)
def lensB (v : Ver) : Bool := decide (v.age.length ≤ 100 ∧ 1 ≤ v.zone.length ∧ v.zone.length ≤ 100 ∧ v.peril.length = 8)
theorem numsB_iff (x : Vw) : numsB x.v = true ↔ (1 ≤ x.f ∧ x.f ≤ 292194 ∧ 0 ≤ x.mn ∧ x.mn ≤ 1000000000000000) := by unfold numsB; exact decide_eq_true_iff
theorem lensB_iff (x : Vw) : lensB x.v = true ↔ (x.age.length ≤ 100 ∧ 1 ≤ x.zone.length ∧ x.zone.length ≤ 100 ∧ x.peril.length = 8) := by unfold lensB; exact decide_eq_true_iff
/-- Whether a version may be. -/
def versionB (v : Ver) : Bool := numsB v && (lensB v && (facB [v.b0, v.b1, v.b2, v.b3] && (facB v.zone && (facB v.peril && bandsB v.age))))
def boxV (x : Vw) : Array Value := #[.int .i64 x.f, .int .i64 x.b0, .int .i64 x.b1, .int .i64 x.b2, .int .i64 x.b3, .slice x.aA x.age.length x.aC, .slice x.zA x.zone.length x.zC, .slice x.pA x.peril.length x.pC, .int .i64 x.mn]
theorem base_sv {w : World} {g : Nat} {x : Vw} (h : Blk w g 114 (boxV x)) : SV w 1 (some ⟨g, 1, none⟩) 4 4 ([x.b0, x.b1, x.b2, x.b3].map encI) := by
  refine ⟨fun i row hr => ⟨g, 1, rfl, h.lt, fun j u hu => ?_⟩, rfl, Nat.le_refl _, by simp [maxLen], fun h => by cases h⟩
  have hi := lt_of_get hr
  simp at hi
  rw [List.getElem?_map] at hr
  obtain ⟨n, hn, rfl⟩ := Option.map_eq_some_iff.1 hr
  have : j = 0 := by have := lt_of_get hu; simp [encI] at this; exact this
  subst this
  simp [encI] at hu; subst hu
  rw [h.cell]
  rcases (show i = 0 ∨ i = 1 ∨ i = 2 ∨ i = 3 by omega) with rfl | rfl | rfl | rfl <;> (simp at hn; subst hn; rfl)

set_option maxRecDepth 100000 in
set_option maxHeartbeats 4000000 in
theorem version_any (x : Vw) (w : World) (hs : VOK w x) :
    Calls Tryz.prog 128 #[.agg #[.int .i64 x.f, .int .i64 x.b0, .int .i64 x.b1, .int .i64 x.b2, .int .i64 x.b3, .slice x.aA x.age.length x.aC, .slice x.zA x.zone.length x.zC, .slice x.pA x.peril.length x.pC, .int .i64 x.mn]] w
      fun e w' => e = .returned (.bool (versionB x.v)) ∧ Below w.heap.size w w' := by
  have HS := hide hs
  clear hs
  have hw1 : ∃ W, w.alloc (.cells (boxV x) 114) = W := ⟨_, rfl⟩
  obtain ⟨w1, hw1⟩ := hw1
  have hB : Blk w1 w.heap.size 114 (boxV x) := by rw [← hw1]; exact Blk.new _ _ _
  have hb1 : Below w.heap.size w w1 := by rw [← hw1]; exact (Below.refl _ _).alloc (Nat.le_refl _) _
  have HB := hide hB
  have H1 := hide hb1
  have HW := hide hw1
  clear hB hb1 hw1
  by_cases hn : numsB x.v = true
  case neg =>
    have HV := hide (show versionB x.v = false by rw [versionB, Bool.eq_false_iff.2 hn]; rfl)
    rw [numsB_iff] at hn
    rcases (show x.f < 1 ∨ (1 ≤ x.f ∧ 292194 < x.f) ∨ (1 ≤ x.f ∧ x.f ≤ 292194 ∧ x.mn < 0) ∨ (1 ≤ x.f ∧ x.f ≤ 292194 ∧ 0 ≤ x.mn ∧ 1000000000000000 < x.mn) by omega) with g | ⟨g, g2⟩ | ⟨g, g2, g3⟩ | ⟨g, g2, g3, g4⟩
    all_goals
      clear hn
      go_enter Tryz.func128, Tryz.ntmps128
      go_wp2_with fail
      go_ret
      exact ⟨ret_bool HV.out.symm, (Below.refl _ _).alloc (Nat.le_refl _) _⟩
  have HN := hide hn
  rw [numsB_iff] at hn
  obtain ⟨n1, n2, n3, n4⟩ := hn
  by_cases hl : lensB x.v = true
  case neg =>
    have HV := hide (show versionB x.v = false by rw [versionB, HN.out, Bool.eq_false_iff.2 hl]; rfl)
    rw [lensB_iff] at hl
    rcases (show 100 < x.age.length ∨ (x.age.length ≤ 100 ∧ x.zone.length < 1) ∨ (x.age.length ≤ 100 ∧ 1 ≤ x.zone.length ∧ 100 < x.zone.length) ∨ (x.age.length ≤ 100 ∧ 1 ≤ x.zone.length ∧ x.zone.length ≤ 100 ∧ x.peril.length ≠ 8) by omega) with g | ⟨g, g2⟩ | ⟨g, g2, g3⟩ | ⟨g, g2, g3, g4⟩
    all_goals
      clear hl
      try (have g5 : ((x.peril.length : Int) != 8) = true := by simp; omega)
      try clear g4
      go_enter Tryz.func128, Tryz.ntmps128
      go_wp2_with fail
      go_ret
      exact ⟨ret_bool HV.out.symm, (Below.refl _ _).alloc (Nat.le_refl _) _⟩
  have HL := hide hl
  rw [lensB_iff] at hl
  obtain ⟨l1, l2, l3, l4⟩ := hl
  have l4' : ((x.peril.length : Int) != 8) = false := by simp; omega
  have HL4 := hide l4
  clear l4
  go_enter Tryz.func128, Tryz.ntmps128
  go_upto_region 5 with fail
  rw [show w.alloc (.cells #[.int .i64 x.f, .int .i64 x.b0, .int .i64 x.b1, .int .i64 x.b2, .int .i64 x.b3, .slice x.aA x.age.length x.aC, .slice x.zA x.zone.length x.zC, .slice x.pA x.peril.length x.pC, .int .i64 x.mn] 114) = w1 from HW.out]
  have c5 := HB.out.cell 5
  have c6 := HB.out.cell 6
  have c7 := HB.out.cell 7
  have cl := HB.out.lt
  simp [boxV] at c5 c6 c7
  have HS1 := hide (HS.out.below H1.out)
  go_wp2_with fail
  refine (factors_any_Tar _ _ 4 [x.b0, x.b1, x.b2, x.b3] _ (base_sv HB.out)).mono ?_
  rintro e w2 ⟨rfl, rfl⟩
  cases h1 : facB [x.b0, x.b1, x.b2, x.b3]
  · have HV := hide (show versionB x.v = false by rw [versionB, HN.out, HL.out, show facB [x.v.b0, x.v.b1, x.v.b2, x.v.b3] = false from h1]; rfl)
    clear h1
    go_wp2_with fail
    go_ret
    exact ⟨ret_bool HV.out.symm, H1.out⟩
  have K1 := hide h1
  clear h1
  go_wp2_with fail
  refine (factors_any_Tar _ _ _ x.zone _ HS1.out.zone).mono ?_
  rintro e w2 ⟨rfl, rfl⟩
  cases h2 : facB x.zone
  · have HV := hide (show versionB x.v = false by rw [versionB, HN.out, HL.out, show facB [x.v.b0, x.v.b1, x.v.b2, x.v.b3] = true from K1.out, show facB x.v.zone = false from h2]; rfl)
    clear h2
    go_wp2_with fail
    go_ret
    exact ⟨ret_bool HV.out.symm, H1.out⟩
  have K2 := hide h2
  clear h2
  go_wp2_with fail
  refine (factors_any_Tar _ _ _ x.peril _ HS1.out.peril).mono ?_
  rintro e w2 ⟨rfl, rfl⟩
  cases h3 : facB x.peril
  · have HV := hide (show versionB x.v = false by rw [versionB, HN.out, HL.out, show facB [x.v.b0, x.v.b1, x.v.b2, x.v.b3] = true from K1.out, show facB x.v.zone = true from K2.out, show facB x.v.peril = false from h3]; rfl)
    clear h3
    go_wp2_with fail
    go_ret
    exact ⟨ret_bool HV.out.symm, H1.out⟩
  have K3 := hide h3
  clear h3
  go_wp2_with fail
  refine (bands_any x.aA x.aC x.age _ HS1.out.age.sl (by omega)).mono ?_
  rintro e w2 ⟨rfl, hb2⟩
  have HV := hide (show versionB x.v = bandsB x.age by rw [versionB, HN.out, HL.out, show facB [x.v.b0, x.v.b1, x.v.b2, x.v.b3] = true from K1.out, show facB x.v.zone = true from K2.out, show facB x.v.peril = true from K3.out]; rfl)
  go_wp2_with fail
  go_ret
  exact ⟨ret_bool HV.out.symm, chain H1.out hb2⟩
end Go.Proofs.YtmfohnchnbgbaaaGreatDoor

/- Bits: the length of a number, its leading zeros, a product of two words. (The first two were filled out of the shelf's templates.) -/
namespace Go.Proofs.YtmfohnchnbgbaaaGreatDoor
open Go.RowKit

theorem tab_at (i : Int) (h0 : 0 ≤ i) (h1 : i ≤ 255) {h : i.toNat < Go.Lib.len8tab.size} : (((Go.Lib.len8tab[i.toNat]'h).toNat : Nat) : Int) = (Go.Lib.bitLen i.toNat : Int) := by
  rw [← Go.Lib.len8_of i h0 h1, Go.Lib.len8, getElem?_pos Go.Lib.len8tab i.toNat h]
  rfl
theorem wrap_small {n : Int} (h0 : 0 ≤ n) (h1 : n ≤ 100) : wrap64 n = n := by unfold wrap64; omega
theorem len_fin {x c k : Nat} {i : Int} {h : i.toNat < Go.Lib.len8tab.size} (h0 : 0 ≤ i) (h1 : i ≤ 255) (hc : c ≤ 56) (hi : i.toNat = k) (hs : Go.Lib.bitLen x = c + Go.Lib.bitLen k) : wrap64 ((c : Int) + wrap64 (((Go.Lib.len8tab[i.toNat]'h).toNat : Nat) : Int)) = (Go.Lib.bitLen x : Int) := by
  have l := Go.Lib.bitLen_le8' i h0 h1
  rw [tab_at i h0 h1, hs, ← hi]
  rw [wrap_small (n := (Go.Lib.bitLen i.toNat : Int)) (by omega) (by omega), wrap_small (by omega) (by omega)]
  omega
theorem len_fin0 {i : Int} {h : i.toNat < Go.Lib.len8tab.size} (h0 : 0 ≤ i) (h1 : i ≤ 255) : wrap64 (wrap64 (((Go.Lib.len8tab[i.toNat]'h).toNat : Nat) : Int)) = (Go.Lib.bitLen i.toNat : Int) := by
  have l := Go.Lib.bitLen_le8' i h0 h1
  rw [tab_at i h0 h1, wrap_small (n := (Go.Lib.bitLen i.toNat : Int)) (by omega) (by omega), wrap_small (by omega) (by omega)]
set_option maxHeartbeats 1000000 in
set_option maxRecDepth 100000 in
theorem len64_any (x : Int) (w : World) (h0 : 0 ≤ x) (h1 : x ≤ 18446744073709551615) :
    Calls Tryz.prog 179 #[.int .u64 x] w fun e w' => e = .returned (.int .i64 (Go.Lib.bitLen x.toNat)) ∧ w' = w := by
  have hsz : ((Go.Lib.len8tab.size : Nat) : Int) = 256 := by rw [Go.Lib.len8tab_size]; rfl
  go_enter Tryz.func179, Tryz.ntmps179
  go_wp2
  all_goals (go_ret; refine ⟨congrArg Ending.returned (congrArg (Value.int IntKind.i64) ?_), rfl⟩)
  · exact len_fin (c := 56) (k := x.toNat / 72057594037927936) (by omega) (by omega) (by omega) (by omega) (Go.Lib.bitLen_shift56 x.toNat (by omega) (by omega))
  · exact len_fin (c := 48) (k := x.toNat / 281474976710656) (by omega) (by omega) (by omega) (by omega) (Go.Lib.bitLen_shift48 x.toNat (by omega) (by omega))
  · exact len_fin (c := 40) (k := x.toNat / 1099511627776) (by omega) (by omega) (by omega) (by omega) (Go.Lib.bitLen_shift40 x.toNat (by omega) (by omega))
  · exact len_fin (c := 32) (k := x.toNat / 4294967296) (by omega) (by omega) (by omega) (by omega) (Go.Lib.bitLen_shift32 x.toNat (by omega) (by omega))
  · exact len_fin (c := 24) (k := x.toNat / 16777216) (by omega) (by omega) (by omega) (by omega) (Go.Lib.bitLen_shift24 x.toNat (by omega) (by omega))
  · exact len_fin (c := 16) (k := x.toNat / 65536) (by omega) (by omega) (by omega) (by omega) (Go.Lib.bitLen_shift16 x.toNat (by omega) (by omega))
  · exact len_fin (c := 8) (k := x.toNat / 256) (by omega) (by omega) (by omega) (by omega) (Go.Lib.bitLen_shift8 x.toNat (by omega) (by omega))
  · exact len_fin0 (by omega) (by omega)

theorem bitLen_le64 (x : Int) (h0 : 0 ≤ x) (h1 : x ≤ 18446744073709551615) : Go.Lib.bitLen x.toNat ≤ 64 := Go.Lib.bitLen_le x.toNat 64 (by omega) (by omega)

theorem lz64_any (x : Int) (w : World) (h0 : 0 ≤ x) (h1 : x ≤ 18446744073709551615) :
    Calls Tryz.prog 174 #[.int .u64 x] w fun e w' => e = .returned (.int .i64 (64 - (Go.Lib.bitLen x.toNat : Int))) ∧ w' = w := by
  have l := bitLen_le64 x h0 h1
  have e8 : (64 - (Go.Lib.bitLen x.toNat : Int) + 9223372036854775808) % 18446744073709551616 - 9223372036854775808 = 64 - (Go.Lib.bitLen x.toNat : Int) := by omega
  go_enter Tryz.func174, Tryz.ntmps174
  go_wp2_with (go_at_call 179; refine (len64_any x _ h0 h1).mono ?_; rintro e w' ⟨rfl, rfl⟩)
  go_ret
  refine ⟨?_, rfl⟩
  rw [← e8]
  rfl


set_option maxHeartbeats 1000000 in
theorem mul64_any (x y : Nat) (hx : x < 18446744073709551616) (hy : y < 18446744073709551616) (w : World) :
    Calls Tryz.prog 160 #[.int .u64 x, .int .u64 y] w fun e w' => e = .returned (.tuple #[.int .u64 ((x * y / 18446744073709551616 : Nat) : Int), .int .u64 ((x * y % 18446744073709551616 : Nat) : Int)]) ∧ w' = w := by
  obtain ⟨g1, g2, g3, g4⟩ := Go.Lib.mul64_hi x y hx hy
  have a1 := Go.Lib.half_mul_le (a := x / 4294967296) (b := y / 4294967296) (by omega) (by omega)
  have a2 := Go.Lib.half_mul_le (a := x / 4294967296) (b := y % 4294967296) (by omega) (by omega)
  have a3 := Go.Lib.half_mul_le (a := x % 4294967296) (b := y / 4294967296) (by omega) (by omega)
  have b1 : x / 4294967296 * (y / 4294967296) < 18446744073709551616 := by omega
  have b2 : x / 4294967296 * (y % 4294967296) < 18446744073709551616 := by omega
  have b3 : x % 4294967296 * (y / 4294967296) < 18446744073709551616 := by omega
  have hq : x * y / 18446744073709551616 < 18446744073709551616 := by
    refine Nat.div_lt_of_lt_mul ?_
    exact Nat.mul_lt_mul'' hx hy
  have h8 : x / 4294967296 * (y / 4294967296) + (x / 4294967296 * (y % 4294967296) + x % 4294967296 * (y % 4294967296) / 4294967296) / 4294967296 + ((x / 4294967296 * (y % 4294967296) + x % 4294967296 * (y % 4294967296) / 4294967296) % 4294967296 + x % 4294967296 * (y / 4294967296)) / 4294967296 < 18446744073709551616 := by rw [g4]; exact hq
  have h9 : x / 4294967296 * (y / 4294967296) + (x / 4294967296 * (y % 4294967296) + x % 4294967296 * (y % 4294967296) / 4294967296) / 4294967296 < 18446744073709551616 := Nat.lt_of_le_of_lt (Nat.le_add_right _ _) h8
  go_enter Tryz.func160, Tryz.ntmps160
  go_wp2
  simp only [Mul64.maskN x hx, Mul64.maskN y hy, Mul64.divN, Mul64.mulN, Mul64.addN, Mul64.wrapN _ g1, Mul64.wrapN _ b2, Mul64.wrapN _ g2, Mul64.maskN _ g2, Mul64.wrapN _ b3, Mul64.wrapN _ g3, Mul64.wrapN _ b1, Mul64.wrapN _ h9, Mul64.wrapN _ h8, Mul64.wrapM (x * y)]
  rw [g4]
  go_ret2
  exact ⟨rfl, rfl⟩

theorem bitLen_spec : ∀ (x : Nat), x ≠ 0 → x < 2 ^ 64 → 2 ^ (Go.Lib.bitLen x - 1) ≤ x ∧ x < 2 ^ Go.Lib.bitLen x ∧ 1 ≤ Go.Lib.bitLen x := by
  intro x
  induction x using Nat.strongRecOn with
  | _ x ih =>
    intro h0 h
    rw [Go.Lib.bitLen_half x h0 h]
    rcases Nat.eq_zero_or_pos (x / 2) with h2 | h2
    · rw [h2]
      have : x = 1 := by omega
      subst this
      decide
    · obtain ⟨i1, i2, i3⟩ := ih (x / 2) (by omega) (by omega) (by omega)
      obtain ⟨n, hn⟩ : ∃ n, Go.Lib.bitLen (x / 2) = n + 1 := ⟨Go.Lib.bitLen (x / 2) - 1, by omega⟩
      rw [hn] at i1 i2 ⊢
      have e1 : 1 + (n + 1) - 1 = n + 1 := by omega
      rw [e1]
      rw [Nat.add_sub_cancel] at i1
      refine ⟨?_, ?_, by omega⟩
      · rw [Nat.pow_succ]; omega
      · rw [Nat.add_comm 1, Nat.pow_succ 2 (n + 1)]; omega
/-- A number moved up as far as it goes. -/
theorem shift_up {y : Nat} (h0 : y ≠ 0) (h : y < 2 ^ 64) : 9223372036854775808 ≤ y * 2 ^ (64 - Go.Lib.bitLen y) ∧ y * 2 ^ (64 - Go.Lib.bitLen y) < 18446744073709551616 := by
  obtain ⟨h1, h2, h3⟩ := bitLen_spec y h0 h
  have h4 : Go.Lib.bitLen y ≤ 64 := Go.Lib.bitLen_le y 64 (by omega) h
  have hp : 0 < 2 ^ (64 - Go.Lib.bitLen y) := Nat.two_pow_pos _
  constructor
  · have := Nat.mul_le_mul_right (2 ^ (64 - Go.Lib.bitLen y)) h1
    rw [← Nat.pow_add, show Go.Lib.bitLen y - 1 + (64 - Go.Lib.bitLen y) = 63 by omega] at this
    exact this
  · have := Nat.mul_lt_mul_of_pos_right h2 hp
    rw [← Nat.pow_add, show Go.Lib.bitLen y + (64 - Go.Lib.bitLen y) = 64 by omega] at this
    exact this
end Go.Proofs.YtmfohnchnbgbaaaGreatDoor

/- The arithmetic under a division of two words by one (Knuth's), with plain numbers. -/
namespace Go.Proofs.YtmfohnchnbgbaaaGreatDoor

/-- A product of a number of two halves. -/
theorem half_split (q y1 y0 : Nat) : q * (4294967296 * y1 + y0) = 4294967296 * (q * y1) + q * y0 := by
  rw [Nat.mul_add, Nat.mul_left_comm]

/-- One digit's trial: q is at least the digit, and what is left over of un is rh. -/
structure Trial (un u1 y1 y0 q rh : Nat) : Prop where
  left : q * y1 + rh = un
  high : 4294967296 * un + u1 < (q + 1) * (4294967296 * y1 + y0)
/-- The bounds at hand. -/
structure DigB (un u1 y1 y0 : Nat) : Prop where
  y1l : 2147483648 ≤ y1
  y1h : y1 < 4294967296
  y0h : y0 < 4294967296
  u1h : u1 < 4294967296
  lt : un < 4294967296 * y1 + y0

section
variable {un u1 y1 y0 q rh : Nat}
theorem trial_start (B : DigB un u1 y1 y0) : Trial un u1 y1 y0 (un / y1) (un % y1) := by
  have hy : 0 < y1 := by have := B.y1l; omega
  have h1 : un / y1 * y1 + un % y1 = un := by rw [Nat.mul_comm]; exact Nat.div_add_mod un y1
  have h2 := Nat.mod_lt un hy
  refine ⟨h1, ?_⟩
  rw [half_split, Nat.add_mul, Nat.one_mul]
  have h3 := B.u1h
  generalize (un / y1 + 1) * y0 = z
  generalize un / y1 * y1 = p at *
  generalize un % y1 = r at *
  omega
/-- q is never far off. -/
theorem trial_le (B : DigB un u1 y1 y0) (T : Trial un u1 y1 y0 q rh) : q ≤ 4294967297 := by
  have h1 := T.left
  have h2 := B.lt
  have h3 := B.y0h
  have h4 := B.y1l
  rcases Nat.lt_or_ge q 4294967298 with h | h
  · omega
  · exfalso
    have h5 : 4294967298 * y1 ≤ q * y1 := Nat.mul_le_mul_right _ h
    generalize q * y1 = p at *
    omega
theorem small_mul {a b : Nat} (ha : a ≤ 4294967297) (hb : b < 4294967296) : a * b ≤ 18446744073709551615 := by
  have h : a * b ≤ 4294967297 * 4294967295 := Nat.mul_le_mul ha (by omega)
  generalize a * b = p at *
  omega
theorem trial_big (B : DigB un u1 y1 y0) (T : Trial un u1 y1 y0 q rh) (h : 4294967296 ≤ q ∨ 4294967296 * rh + u1 < q * y0) : 4294967296 * un + u1 < q * (4294967296 * y1 + y0) := by
  have h1 := T.left
  have h2 := B.lt
  have h3 := B.u1h
  rcases h with h | h
  · have h5 : 4294967296 * (4294967296 * y1 + y0) ≤ q * (4294967296 * y1 + y0) := Nat.mul_le_mul_right _ h
    generalize q * (4294967296 * y1 + y0) = p at *
    omega
  · rw [half_split]
    generalize q * y1 = p at *
    generalize q * y0 = z at *
    omega
theorem trial_step (B : DigB un u1 y1 y0) (T : Trial un u1 y1 y0 q rh) (h : 4294967296 ≤ q ∨ 4294967296 * rh + u1 < q * y0) : 1 ≤ q ∧ Trial un u1 y1 y0 (q - 1) (rh + y1) := by
  have hb := trial_big B T h
  have hq : 1 ≤ q := by
    rcases Nat.eq_zero_or_pos q with h0 | h0
    · subst h0
      rw [Nat.zero_mul] at hb
      exact absurd hb (Nat.not_lt_zero _)
    · exact h0
  refine ⟨hq, ?_, ?_⟩
  · have h1 := T.left
    obtain ⟨p, rfl⟩ : ∃ p, q = p + 1 := ⟨q - 1, by omega⟩
    rw [Nat.add_sub_cancel]
    rw [Nat.add_mul, Nat.one_mul] at h1
    generalize p * y1 = z at *
    omega
  · rw [Nat.sub_add_cancel hq]
    exact hb
/-- The digit is found. -/
theorem trial_end (T : Trial un u1 y1 y0 q rh) (h : (q < 4294967296 ∧ q * y0 ≤ 4294967296 * rh + u1) ∨ (q ≤ 4294967296 ∧ 4294967296 ≤ rh ∧ y0 < 4294967296)) :
    q * (4294967296 * y1 + y0) ≤ 4294967296 * un + u1 ∧ 4294967296 * un + u1 - q * (4294967296 * y1 + y0) < 4294967296 * y1 + y0 := by
  have h1 := T.left
  have h2 := T.high
  have h3 : q * (4294967296 * y1 + y0) ≤ 4294967296 * un + u1 := by
    rw [half_split]
    rcases h with ⟨_, h⟩ | ⟨ha, hb, hc⟩
    · generalize q * y1 = p at *
      generalize q * y0 = z at *
      omega
    · have h5 : q * y0 ≤ 4294967296 * 4294967295 := Nat.mul_le_mul ha (by omega)
      generalize q * y1 = p at *
      generalize q * y0 = z at *
      omega
  refine ⟨h3, ?_⟩
  rw [Nat.add_mul, Nat.one_mul] at h2
  generalize q * (4294967296 * y1 + y0) = p at *
  omega
end

/-- Both digits. -/
theorem two_digits {un u1 u0 y q1 q0 r1 : Nat} (hr : r1 = 4294967296 * un + u1 - q1 * y) (h1 : q1 * y ≤ 4294967296 * un + u1) (h0 : q0 * y ≤ 4294967296 * r1 + u0) (h0' : 4294967296 * r1 + u0 - q0 * y < y) :
    (18446744073709551616 * un + (4294967296 * u1 + u0)) / y = 4294967296 * q1 + q0 ∧ (18446744073709551616 * un + (4294967296 * u1 + u0)) % y = 4294967296 * r1 + u0 - q0 * y := by
  have hy : 0 < y := Nat.lt_of_le_of_lt (Nat.zero_le _) h0'
  have e : 18446744073709551616 * un + (4294967296 * u1 + u0) = (4294967296 * r1 + u0 - q0 * y) + (4294967296 * q1 + q0) * y := by
    rw [Nat.add_mul, Nat.mul_assoc]
    generalize q1 * y = a at *
    generalize q0 * y = b at *
    omega
  rw [e]
  constructor
  · rw [Nat.add_mul_div_right _ _ hy, Nat.div_eq_of_lt h0', Nat.zero_add]
  · rw [Nat.add_mul_mod_self_right, Nat.mod_eq_of_lt h0']
/-- Back from the shifted numbers. -/
theorem unshift {u y k : Nat} (hk : 0 < k) : (u * k) / (y * k) = u / y ∧ (u * k) % (y * k) / k = u % y := by
  refine ⟨Nat.mul_div_mul_right _ _ hk, ?_⟩
  rw [Nat.mul_mod_mul_right, Nat.mul_div_cancel _ hk]
end Go.Proofs.YtmfohnchnbgbaaaGreatDoor
