/- Part 2 of the proof. -/
import Derived.ProofKit
import Derived.OpenShut
import Derived.ChangeOld
import Derived.Carry
import Derived.Deep.Slices
import Derived.Test.YtmfohnchnbgbaaaGreatKnM01
/- More words for memory: rows owned by the call, stored into, and kept behind stores elsewhere. -/
namespace Go.Proofs.YtmfohnchnbgbaaaGreat
open Go.RowKit

theorem grown_set (w : World) (a : Addr) (u : Value) : w.grownBy (w.setCell a u) (some a.block) :=
  ⟨rfl, rfl, rfl, by simp, fun k _ hk => heap_setCell_other w a k u (fun e => hk (by rw [e]))⟩
theorem OwnS.far {w : World} {B : Nat} {e : TypeId} {sz n cap : Nat} {A : Option Addr} {rows : List (List Value)} (h : OwnS w B e sz A n cap rows) {p : Addr} (hp : ∀ k, blk A = some k → k ≠ p.block) (u : Value) : OwnS (w.setCell p u) B e sz A n cap rows := by
  refine h.kept (grown_set w p u) ?_
  cases hA : blk A with
  | none => exact .inl rfl
  | some k => exact .inr (fun he => hp k hA (by simpa using he))
theorem OwnS.mono {w : World} {B B' : Nat} {e : TypeId} {sz n cap : Nat} {A : Option Addr} {rows : List (List Value)} (h : OwnS w B e sz A n cap rows) (hB : B' ≤ B) : OwnS w B' e sz A n cap rows := by
  refine ⟨⟨h.own.1, ?_⟩, h.len, h.ok⟩
  rcases h.own.2 with h2 | ⟨g, c, cur, h1, h2, h3⟩
  · exact .inl h2
  · exact .inr ⟨g, c, cur, h1, by omega, h3⟩
theorem sl_of_blk {W : World} {g sz : Nat} {e : TypeId} {cs : Array Value} (h : Blk W g e cs) : Sl W W.heap.size sz (some ⟨g, 0, none⟩) [cs.toList] := by
  intro i row hr
  match i, hr with
  | 0, hr =>
    simp at hr
    subst hr
    exact ⟨_, _, rfl, h.lt, fun j u hu => by rw [Nat.zero_mul, Nat.zero_add, Nat.zero_add, h.cell j, ← Array.getElem?_toList]; exact hu⟩
theorem set_flat {sz : Nat} : ∀ {rows : List (List Value)}, RowsOk sz rows → ∀ (i j : Nat) (row : List Value) (u : Value), rows[i]? = some row → j < sz → (rows.set i (row.set j u)).flatten = rows.flatten.set (i * sz + j) u
  | [], _, i, j, row, u, h, _ => by simp at h
  | r :: rows, ho, i, j, row, u, h, hj => by
    have hr := (ho r (by simp)).1
    cases i with
    | zero =>
      simp at h; subst h
      rw [List.set_cons_zero, List.flatten_cons, List.flatten_cons, Nat.zero_mul, Nat.zero_add, List.set_append_left _ _ (by omega)]
    | succ i =>
      rw [List.set_cons_succ, List.flatten_cons, List.flatten_cons, List.set_append_right _ _ (by rw [hr, Nat.add_mul]; omega), hr, show (i + 1) * sz + j - sz = i * sz + j by rw [Nat.add_mul]; omega,
        set_flat (rows := rows) (fun q hq => ho q (by simp [hq])) i j row u (by simpa using h) hj]
/-- A store into a row of an owned slice. -/
theorem OwnS.set_ {w : World} {B : Nat} {e : TypeId} {sz n cap g : Nat} {rows : List (List Value)} (h : OwnS w B e sz (some ⟨g, 0, none⟩) n cap rows) {i j : Nat} {row : List Value} (hr : rows[i]? = some row) (hj : j < sz) {u : Value} (hu : u.oneCell' = true) :
    OwnS (w.setCell ⟨g, i * sz + j, none⟩ u) B e sz (some ⟨g, 0, none⟩) n cap (rows.set i (row.set j u)) := by
  refine ⟨?_, by rw [List.length_set]; exact h.len, fun r hr' => ?_⟩
  · rw [set_flat h.ok i j row u hr hj]
    exact (h.own.stored (i * sz + j) u).1
  · rcases List.mem_or_eq_of_mem_set hr' with h1 | h1
    · exact h.ok r h1
    · subst h1
      have hrow := h.ok row (List.mem_of_getElem? hr)
      refine ⟨by rw [List.length_set]; exact hrow.1, fun v hv => ?_⟩
      rcases List.mem_or_eq_of_mem_set hv with h2 | h2
      · exact hrow.2 v h2
      · subst h2; exact hu
theorem OwnS.frozen {w : World} {B : Nat} {e : TypeId} {sz n cap g : Nat} {rows : List (List Value)} (h : OwnS w B e sz (some ⟨g, 0, none⟩) n cap rows) (j : Nat) : w.frozen? ⟨g, j, none⟩ = false := h.own.frozenAt j
/-- The first rows of an owned slice. -/
theorem OwnS.firsts {w : World} {B : Nat} {e : TypeId} {sz n cap : Nat} {A : Option Addr} {rows : List (List Value)} (h : OwnS w B e sz A n cap rows) {k : Nat} (hk : k ≤ n) : OwnS w B e sz A k cap (rows.take k) := by
  have hl : (rows.take k).length = k := by rw [List.length_take, h.len]; omega
  have hok : RowsOk sz (rows.take k) := fun r hr => h.ok r (List.mem_of_mem_take hr)
  refine ⟨⟨by rw [flat_len hok, hl], ?_⟩, hl, hok⟩
  have hcap := h.cap_le
  rcases h.own.2 with ⟨h1, h2⟩ | ⟨g, c, cur, h1, h2, h3, h4, h5, h6, h7⟩
  · cases h1
    have : k = 0 := by omega
    subst this
    exact .inl ⟨rfl, rfl⟩
  · cases h1
    refine .inr ⟨g, cap, cur, rfl, h2, h3, by omega, h5, h6, ?_⟩
    have hm : k * sz ≤ n * sz := Nat.mul_le_mul_right _ hk
    have e1 : (rows.flatten).take (k * sz) = (rows.take k).flatten := by
      conv => lhs; rw [← List.take_append_drop k rows]
      rw [List.flatten_append, List.take_append_of_le_length (by rw [flat_len hok, hl]; exact Nat.le_refl _), List.take_of_length_le (by rw [flat_len hok, hl]; exact Nat.le_refl _)]
    rw [← e1, ← h7, List.take_take, Nat.min_eq_left hm]
end Go.Proofs.YtmfohnchnbgbaaaGreat

/- What an argument that can be read looks like, whatever its type is made of: leaves (integers, bools, slices), in order. And the last step of a law whose call writes nothing that was there. -/
namespace Go.Proofs.YtmfohnchnbgbaaaGreat
open Go.ChangeShapes Go.WideShapes Go.ChangeAt Go.RowKit

inductive Leaf where
  | int (k : IntKind)
  | bool
  | slice (e : TypeId)

def leavesOf (rec : TypeId → Option (List Leaf)) (P : Program) : List Field → Nat → Option (List Leaf)
  | [], _ => some []
  | f :: fs, acc =>
    if f.offset = acc then
      match rec f.type with
      | some l => if l.length = P.cellsOf f.type then (leavesOf rec P fs (acc + l.length)).map (l ++ ·) else none
      | none => none
    else none

def rep (l : List Leaf) : Nat → List Leaf
  | 0 => []
  | n + 1 => l ++ rep l n

def leaves (P : Program) : Nat → TypeId → Option (List Leaf)
  | 0, _ => none
  | fuel + 1, t =>
    match P.underlying t with
    | some .bool => some [.bool]
    | some (.int k) => some [.int k]
    | some (.slice e) => some [.slice e]
    | some (.struct fs) => leavesOf (leaves P fuel) P fs.toList 0
    | some (.array n e) =>
      match leaves P fuel e with
      | some l => if l.length = P.cellsOf e then some (rep l n) else none
      | none => none
    | _ => none

section
variable {H : Type} (enc : TypeId × Value → H) (P : Program) (w : World)

/-- What a leaf's cell is. -/
def LeafOk (k : Leaf) (c : Value) : Prop :=
  match k with
  | .int k => ∃ n, c = .int k n ∧ (Lit.int k n).wf = true
  | .bool => ∃ b, c = .bool b
  | .slice e => ∃ (A : Option Addr) (n cap : Nat), c = .slice A n cap ∧ n ≤ cap ∧ cap ≤ maxLen ∧ (A = none → cap = 0) ∧
      ∀ i, i < n → ∃ (a : Addr) (cs' : List Value) (fuel : Nat) (x : DataW H × List MemPlace), A = some a ∧ cs'.length = P.cellsOf e ∧
        (∀ j u, cs'[j]? = some u → w.cell? (a.add (i * P.cellsOf e + j)) = some u) ∧ DataW.trod enc P w 0 (fun _ => true) true fuel e cs' = some x

def AllLeaf : List Leaf → List Value → Prop
  | [], [] => True
  | k :: ks, c :: cs => LeafOk enc P w k c ∧ AllLeaf ks cs
  | _, _ => False

theorem allLeaf_append : ∀ {k1 k2 : List Leaf} {c1 c2 : List Value}, AllLeaf enc P w k1 c1 → AllLeaf enc P w k2 c2 → AllLeaf enc P w (k1 ++ k2) (c1 ++ c2)
  | [], _, [], _, _, h => h
  | [], _, _ :: _, _, h, _ => h.elim
  | _ :: _, _, [], _, h, _ => h.elim
  | _ :: _, _, _ :: _, _, h, h' => ⟨h.1, allLeaf_append h.2 h'⟩

theorem allLeaf_cons {k : Leaf} {ks : List Leaf} {cs : List Value} (h : AllLeaf enc P w (k :: ks) cs) : ∃ c cs', cs = c :: cs' ∧ LeafOk enc P w k c ∧ AllLeaf enc P w ks cs' := by
  cases cs with
  | nil => exact h.elim
  | cons c cs' => exact ⟨c, cs', rfl, h.1, h.2⟩
theorem allLeaf_nil {cs : List Value} (h : AllLeaf enc P w [] cs) : cs = [] := by
  cases cs with
  | nil => rfl
  | cons c cs' => exact h.elim

theorem leaf_int {k : IntKind} {ks : List Leaf} {cs : List Value} (h : AllLeaf enc P w (.int k :: ks) cs) : ∃ (n : Int) (cs' : List Value), cs = .int k n :: cs' ∧ (Lit.int k n).wf = true ∧ AllLeaf enc P w ks cs' := by
  obtain ⟨c, cs', rfl, ⟨n, rfl, hw⟩, h'⟩ := allLeaf_cons enc P w h
  exact ⟨n, cs', rfl, hw, h'⟩
theorem leaf_bool {ks : List Leaf} {cs : List Value} (h : AllLeaf enc P w (.bool :: ks) cs) : ∃ (b : Bool) (cs' : List Value), cs = .bool b :: cs' ∧ AllLeaf enc P w ks cs' := by
  obtain ⟨c, cs', rfl, ⟨b, rfl⟩, h'⟩ := allLeaf_cons enc P w h
  exact ⟨b, cs', rfl, h'⟩

theorem fields_leaf {m : Nat} {rec : TypeId → Option (List Leaf)}
    (hrec : ∀ (t : TypeId) (cs : List Value) (x : DataW H × List MemPlace) (ks : List Leaf), ks.length = cs.length → DataW.trod enc P w 0 (fun _ => true) true m t cs = some x → rec t = some ks → AllLeaf enc P w ks cs)
    (cs : List Value) : ∀ (fs : List Field) (acc : Nat) (ks : List Leaf), leavesOf rec P fs acc = some ks → cs.length = acc + ks.length →
    (∀ f ∈ fs, ∃ x, DataW.trod enc P w 0 (fun _ => true) true m f.type ((cs.drop f.offset).take (P.cellsOf f.type)) = some x) → AllLeaf enc P w ks (cs.drop acc)
  | [], acc, ks, hk, hl, _ => by
    simp only [leavesOf, Option.some.injEq] at hk
    subst hk
    rw [List.drop_eq_nil_of_le (by simpa using Nat.le_of_eq hl)]
    trivial
  | f :: fs, acc, ks, hk, hl, hf => by
    simp only [leavesOf] at hk
    split at hk
    · rename_i ho
      split at hk
      · rename_i l hr
        split at hk
        · rename_i hll
          obtain ⟨ks', hk', rfl⟩ := Option.map_eq_some_iff.1 hk
          obtain ⟨x, hx⟩ := hf f (by simp)
          rw [ho, ← hll] at hx
          have h1 := hrec _ _ _ _ (by rw [List.length_take, List.length_drop, hl]; simp) hx hr
          have h2 := fields_leaf hrec cs fs (acc + l.length) ks' hk' (by rw [hl]; simp; omega) (fun g hg => hf g (by simp [hg]))
          have : cs.drop acc = (cs.drop acc).take l.length ++ cs.drop (acc + l.length) := by
            rw [← List.drop_drop, List.take_append_drop]
          rw [this]
          exact allLeaf_append enc P w h1 h2
        · cases hk
      · cases hk
    · cases hk

theorem rep_leaf {l : List Leaf} {sz : Nat} (hsz : l.length = sz) : ∀ (n : Nat) (cs : List Value), cs.length = n * sz → (∀ i, i < n → AllLeaf enc P w l ((cs.drop (i * sz)).take sz)) → AllLeaf enc P w (rep l n) cs
  | 0, cs, hl, _ => by
    have : cs = [] := List.eq_nil_of_length_eq_zero (by simpa using hl)
    subst this
    trivial
  | n + 1, cs, hl, h => by
    have h0 := h 0 (by omega)
    simp only [Nat.zero_mul, List.drop_zero] at h0
    have h1 := rep_leaf hsz n (cs.drop sz) (by rw [List.length_drop, hl, Nat.add_mul]; omega) (fun i hi => by
      have := h (i + 1) (by omega)
      rw [List.drop_drop]
      rwa [show sz + i * sz = (i + 1) * sz by rw [Nat.add_mul]; omega])
    have e : cs = cs.take sz ++ cs.drop sz := (List.take_append_drop _ _).symm
    rw [e]
    exact allLeaf_append enc P w h0 h1

set_option maxRecDepth 100000 in
theorem open_leaves : ∀ (fuel : Nat) (m : Nat) (t : TypeId) (cs : List Value) (x : DataW H × List MemPlace) (ks : List Leaf), ks.length = cs.length →
    DataW.trod enc P w 0 (fun _ => true) true m t cs = some x → leaves P fuel t = some ks → AllLeaf enc P w ks cs
  | 0, _, _, _, _, _, _, _, hk => by simp [leaves] at hk
  | fuel + 1, m, t, cs, x, ks, hlen, h, hk => by
    simp only [leaves] at hk
    split at hk
    · rename_i hu
      obtain ⟨b, rfl, _⟩ := DataW.trod_bool hu h
      cases hk
      exact ⟨⟨b, rfl⟩, trivial⟩
    · rename_i k hu
      obtain ⟨n, rfl, _, hw⟩ := DataW.trod_int hu h
      cases hk
      exact ⟨⟨n, rfl, hw⟩, trivial⟩
    · rename_i e hu
      cases hk
      rcases Deep.open_slice hu h with ⟨rfl, _⟩ | ⟨a, len, cap, mm, n, D, Pl, rfl, hb, hl, hm, hmm, _, hi⟩
      · exact ⟨⟨none, 0, 0, rfl, Nat.le_refl _, Nat.zero_le _, fun _ => rfl, fun i hi => absurd hi (by omega)⟩, trivial⟩
      · refine ⟨⟨some a, len, cap, rfl, hl, hm, (fun h => by cases h), fun i hlt => ?_⟩, trivial⟩
        obtain ⟨cs', hc, ht⟩ := hi i (by simp at hmm; omega)
        obtain ⟨_, hcl, hat⟩ := World.cells?_some hc
        exact ⟨a, cs', n, _, rfl, hcl, fun j u hu => by
          have := hat j (by have := lt_of_get hu; omega)
          rw [← Deep.add_add, this, hu], ht⟩
    · rename_i fs hu
      obtain ⟨xs, n, rfl, _, hcl, hxl, hf⟩ := DataW.trod_struct hu h
      have := fields_leaf enc P w (m := n) (rec := leaves P fuel) (fun t cs x ks hl ht hk => open_leaves fuel n t cs x ks hl ht hk) cs fs.toList 0 ks hk (by omega) (fun f hfm => by
        obtain ⟨i, hi, he⟩ := List.getElem_of_mem hfm
        have hfi : fs[i]? = some f := by
          rw [← Array.getElem?_toList, List.getElem?_eq_getElem hi, he]
        have hx : i < xs.length := by simpa [hxl] using hi
        exact ⟨xs[i], by rw [hf i f hfi, List.getElem?_eq_getElem hx]⟩)
      simpa using this
    · rename_i n e hu
      obtain ⟨xs, m', rfl, _, hcl, hxl, hf⟩ := DataW.trod_array hu h
      split at hk
      · rename_i l hr
        split at hk
        · rename_i hll
          cases hk
          have hrl : ∀ n, (rep l n).length = n * l.length := by
            intro n
            induction n with
            | zero => simp [rep]
            | succ n ih => rw [rep, List.length_append, ih, Nat.add_mul]; omega
          have hcs : cs.length = n * P.cellsOf e := by rw [← hlen, hrl, hll]
          exact rep_leaf enc P w hll n cs hcs (fun i hi => by
            have hx : i < xs.length := by omega
            have hle : (i + 1) * P.cellsOf e ≤ n * P.cellsOf e := Nat.mul_le_mul_right _ (by omega)
            rw [Nat.add_mul] at hle
            exact open_leaves fuel m' e _ xs[i] l (by rw [List.length_take, List.length_drop, hcs, hll]; omega) (by rw [hf i hi, List.getElem?_eq_getElem hx]) hr)
        · cases hk
      · cases hk
    · cases hk

theorem wf64 {n : Int} (h : (Lit.int .i64 n).wf = true) : -9223372036854775808 ≤ n ∧ n ≤ 9223372036854775807 := by
  simpa [Lit.wf, IntKind.min, IntKind.max, IntKind.signed, IntKind.bits] using h

theorem top_agg {r : Reach} {b0 : Nat} {t : TypeId} {fs : Array Field} {v : Value} {d : DataW H} {p : List MemPlace} {ks : List Leaf} (fuel : Nat) (hs : P.underlying t = some (.struct fs))
    (hk : leaves P fuel t = some ks) (hC : P.cellsOf t = ks.length) (hv : Value.okWide P w r b0 t v) (h : DataW.Trod enc P w 0 (fun _ => true) true t v d p) : ∃ l : List Value, v = .agg l.toArray ∧ AllLeaf enc P w ks l := by
  obtain ⟨cs, rfl, hsz⟩ := okWide_struct hs hv
  obtain ⟨l⟩ := cs
  obtain ⟨m, hm⟩ := h
  exact ⟨l, rfl, open_leaves enc P w fuel m t l _ ks (by simp at hsz; omega) (by simpa [Value.cells] using hm) hk⟩
theorem top_arr {r : Reach} {b0 : Nat} {t e : TypeId} {n : Nat} {v : Value} {d : DataW H} {p : List MemPlace} {ks : List Leaf} (fuel : Nat) (hs : P.underlying t = some (.array n e))
    (hk : leaves P fuel t = some ks) (hC : P.cellsOf t = ks.length) (hv : Value.okWide P w r b0 t v) (h : DataW.Trod enc P w 0 (fun _ => true) true t v d p) : ∃ l : List Value, v = .agg l.toArray ∧ AllLeaf enc P w ks l := by
  simp only [Value.okWide, hs] at hv
  obtain ⟨cs, rfl, hsz, _⟩ := hv
  obtain ⟨l⟩ := cs
  obtain ⟨m, hm⟩ := h
  exact ⟨l, rfl, open_leaves enc P w fuel m t l _ ks (by simp at hsz; omega) (by simpa [Value.cells] using hm) hk⟩
theorem top_slice {r : Reach} {b0 : Nat} {t e : TypeId} {v : Value} {d : DataW H} {p : List MemPlace} (hs : P.underlying t = some (.slice e))
    (hv : Value.okWide P w r b0 t v) (h : DataW.Trod enc P w 0 (fun _ => true) true t v d p) : LeafOk enc P w (.slice e) v := by
  obtain ⟨a, n, c, rfl⟩ := okWide_slice hs hv
  obtain ⟨m, hm⟩ := h
  exact (open_leaves enc P w 1 m t [.slice a n c] _ [.slice e] rfl (by simpa [Value.cells] using hm) (by simp [leaves, hs])).1

theorem list_of {α : Type} {n : Nat} {p : Nat → α → Prop} (h : ∀ i, i < n → ∃ x, p i x) : ∃ l : List α, l.length = n ∧ ∀ i x, l[i]? = some x → p i x := by
  induction n with
  | zero => exact ⟨[], rfl, fun i x hx => by simp at hx⟩
  | succ n ih =>
    obtain ⟨l, hl, hp⟩ := ih (fun i hi => h i (by omega))
    obtain ⟨x, hx⟩ := h n (by omega)
    refine ⟨l ++ [x], by simp [hl], fun i y hy => ?_⟩
    by_cases hi : i < l.length
    · rw [List.getElem?_append_left hi] at hy
      exact hp i y hy
    · have := lt_of_get hy
      simp at this
      obtain rfl : i = l.length := by omega
      simp at hy
      subst hy
      rw [hl]
      exact hx

/-- A slice that came in is a list: of each element's leaves an element of a plain type is made. -/
theorem rows_of {α : Type} {e : TypeId} {v : Value} {ks : List Leaf} (fuel sz : Nat) (f : α → List Value) (ok : α → Prop) (hk : leaves P fuel e = some ks) (hC : P.cellsOf e = sz) (hn : ks.length = sz) (h0 : 0 < sz)
    (hf : ∀ cs, AllLeaf enc P w ks cs → ∃ x, cs = f x ∧ ok x) (h : LeafOk enc P w (.slice e) v) :
    ∃ (A : Option Addr) (l : List α) (cap : Nat), v = .slice A l.length cap ∧ l.length ≤ cap ∧ cap ≤ maxLen ∧ Sl w w.heap.size sz A (l.map f) ∧ (∀ x ∈ l, ok x) ∧ (A = none → cap = 0) := by
  obtain ⟨A, n, cap, rfl, hnc, hcm, hnil, hi⟩ := h
  obtain ⟨l, hl, hp⟩ := list_of (α := α) (n := n) (p := fun i x => ok x ∧ (f x).length = sz ∧ ∃ a : Addr, A = some a ∧ ∀ j u, (f x)[j]? = some u → w.cell? (a.add (i * sz + j)) = some u) (fun i hlt => by
    obtain ⟨a, cs', m, x, rfl, hcl, hcell, ht⟩ := hi i hlt
    obtain ⟨y, rfl, hok⟩ := hf cs' (open_leaves enc P w fuel m e cs' x ks (by omega) ht hk)
    exact ⟨y, hok, by omega, a, rfl, fun j u hu => by rw [← hC]; exact hcell j u hu⟩)
  refine ⟨A, l, cap, by rw [hl], by omega, hcm, ?_, fun x hx => ?_, hnil⟩
  · intro i row hr
    rw [List.getElem?_map] at hr
    obtain ⟨x, hx, rfl⟩ := Option.map_eq_some_iff.1 hr
    obtain ⟨_, hlen, a, rfl, hcell⟩ := hp i x hx
    obtain ⟨x0, hx0⟩ := get_of (l := l) (k := 0) (by have := lt_of_get hx; omega)
    obtain ⟨_, hlen0, a0, he0, hcell0⟩ := hp 0 x0 hx0
    cases he0
    obtain ⟨u0, hu0⟩ := get_of (l := f x0) (k := 0) (by omega)
    have hc0 := hcell0 0 u0 hu0
    have hspot := World.cell?_spot hc0
    have hblk := block_lt_of_cell hc0
    obtain ⟨b, off, spot⟩ := a
    have hs : spot = none := by simpa [Addr.add] using hspot
    subst hs
    have hadd : ∀ q, (Addr.mk b off none).add q = ⟨b, off + q, none⟩ := fun q => by
      unfold Addr.add
      split
      · rename_i h; simp_all
      · rfl
    refine ⟨b, off, rfl, ?_, fun j u hu => ?_⟩
    · rw [hadd] at hblk
      exact hblk
    · rw [← hadd]
      exact hcell j u hu
  · obtain ⟨i, hi, he⟩ := List.getElem_of_mem hx
    exact (hp i x (by rw [List.getElem?_eq_getElem hi, he])).1
end

/-- The last step of a law. -/
theorem trodAll_below {H : Type} {enc : TypeId × Value → H} {P : Program} {W W' : World} (hl : laidOutB P = true) (hb : Below W.heap.size W W') : ∀ (ts : List TypeId) (vs : List Value) (ds : List (DataW H)) (ps : List MemPlace),
    ts.all (fun t => P.readableRec t && decide (t < P.types.size)) = true → DataW.TrodAll enc P W 0 (fun _ => true) true ts vs ds ps →
    DataW.TrodAll enc P W' 0 (fun b => decide (b < W.heap.size)) true ts vs ds ps
  | [], vs, ds, ps, _, h => by
    obtain ⟨rfl, rfl, rfl⟩ := trodAll_nil h
    exact trodAll_mk0
  | t :: ts, vs, ds, ps, hall, h => by
    obtain ⟨v, vs', d, ds', p, q, rfl, rfl, rfl, h0, hr⟩ := trodAll_cons h
    simp only [List.all_cons, Bool.and_eq_true, decide_eq_true_eq] at hall
    have hlt : ∀ x ∈ p, x.block < W.heap.size := by
      obtain ⟨m, hm⟩ := h0
      exact DataW.trod_lt m _ _ _ hm
    exact trodAll_cons_mk (Below.trod hl hall.1.1 hall.1.2 h0 hb hlt) (trodAll_below hl hb ts vs' ds' q (by simpa using hall.2) hr)

theorem law_post {H : Type} {enc : TypeId × Value → H} {P : Program} {f : Func} {s : ChangeSpec} {W W' : World} {args : Array Value} {ds gs : List (DataW H)} {before : List MemPlace} {tb : TypeId}
    (laid : laidOutB P = true) (hpar : f.params.toList.all (fun t => P.readableRec t && decide (t < P.types.size)) = true) (hres : f.resultTypes = #[tb]) (htb : P.underlying tb = some .bool) (hvars : s.vars = [])
    (hs : s.fn H (ds ++ gs) = { results := [.lit (.bool true)], args := ds }) (hW : DataW.Whole enc P f.params.toList s.vars false W args.toList ds gs before) (hb : Below W.heap.size W W') :
    s.post enc P f false true false false W args (.bool true) W' := by
  have hW' := hW
  obtain ⟨p, q, hA, hV, rfl, _, _⟩ := hW
  rw [hvars] at hV
  obtain ⟨rfl, rfl⟩ := trodVars_none hV
  refine ⟨ds, [], _, [], p, [], hW', ?_, ?_, ?_, hb.frame _, fun h => by cases h⟩
  · rw [hs, hres]
    exact trodAll_mk1 (shut_bool htb true)
  · rw [hs]
    exact trodAll_below laid hb _ _ _ _ hpar hA
  · rw [hs, hvars]
    rfl
end Go.Proofs.YtmfohnchnbgbaaaGreat
