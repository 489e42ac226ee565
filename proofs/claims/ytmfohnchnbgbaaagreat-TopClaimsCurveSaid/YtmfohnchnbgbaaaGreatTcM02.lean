/- Part 2 of the proof. -/
import Derived.ProofKit
import Derived.OpenShut
import Derived.ChangeOld
import Derived.Carry
import Derived.Deep.Slices
import Derived.Test.YtmfohnchnbgbaaaGreatRows
import Derived.Deep.RegionWith
import Derived.Test.YtmfohnchnbgbaaaGreatTcM01
/- What an argument that can be read looks like, whatever its type is made of: leaves (integers, bools, slices), in order. And the last step of a law whose call writes nothing that was there. -/
namespace Go.Proofs.YtmfohnchnbgbaaaGreat
open Go.ChangeShapes Go.WideShapes Go.ChangeAt Go.RowKit

inductive Leaf where
  | int (k : IntKind)
  | bool
  | slice (e : TypeId)

def leavesOf (rec : TypeId → Option (List Leaf)) (P : Program) : List Field → Nat → Option (List Leaf)
  | [], _ => some []
  | f :: fs, acc =>
    if f.offset = acc then
      match rec f.type with
      | some l => if l.length = P.cellsOf f.type then (leavesOf rec P fs (acc + l.length)).map (l ++ ·) else none
      | none => none
    else none

def rep (l : List Leaf) : Nat → List Leaf
  | 0 => []
  | n + 1 => l ++ rep l n

def leaves (P : Program) : Nat → TypeId → Option (List Leaf)
  | 0, _ => none
  | fuel + 1, t =>
    match P.underlying t with
    | some .bool => some [.bool]
    | some (.int k) => some [.int k]
    | some (.slice e) => some [.slice e]
    | some (.struct fs) => leavesOf (leaves P fuel) P fs.toList 0
    | some (.array n e) =>
      match leaves P fuel e with
      | some l => if l.length = P.cellsOf e then some (rep l n) else none
      | none => none
    | _ => none

section
variable {H : Type} (enc : TypeId × Value → H) (P : Program) (w : World)

/-- What a leaf's cell is. -/
def LeafOk (k : Leaf) (c : Value) : Prop :=
  match k with
  | .int k => ∃ n, c = .int k n ∧ (Lit.int k n).wf = true
  | .bool => ∃ b, c = .bool b
  | .slice e => ∃ (A : Option Addr) (n cap : Nat), c = .slice A n cap ∧ n ≤ cap ∧ cap ≤ maxLen ∧ (A = none → cap = 0) ∧
      ∀ i, i < n → ∃ (a : Addr) (cs' : List Value) (fuel : Nat) (x : DataW H × List MemPlace), A = some a ∧ cs'.length = P.cellsOf e ∧
        (∀ j u, cs'[j]? = some u → w.cell? (a.add (i * P.cellsOf e + j)) = some u) ∧ DataW.trod enc P w 0 (fun _ => true) true fuel e cs' = some x

def AllLeaf : List Leaf → List Value → Prop
  | [], [] => True
  | k :: ks, c :: cs => LeafOk enc P w k c ∧ AllLeaf ks cs
  | _, _ => False

theorem allLeaf_append : ∀ {k1 k2 : List Leaf} {c1 c2 : List Value}, AllLeaf enc P w k1 c1 → AllLeaf enc P w k2 c2 → AllLeaf enc P w (k1 ++ k2) (c1 ++ c2)
  | [], _, [], _, _, h => h
  | [], _, _ :: _, _, h, _ => h.elim
  | _ :: _, _, [], _, h, _ => h.elim
  | _ :: _, _, _ :: _, _, h, h' => ⟨h.1, allLeaf_append h.2 h'⟩

theorem allLeaf_cons {k : Leaf} {ks : List Leaf} {cs : List Value} (h : AllLeaf enc P w (k :: ks) cs) : ∃ c cs', cs = c :: cs' ∧ LeafOk enc P w k c ∧ AllLeaf enc P w ks cs' := by
  cases cs with
  | nil => exact h.elim
  | cons c cs' => exact ⟨c, cs', rfl, h.1, h.2⟩
theorem allLeaf_nil {cs : List Value} (h : AllLeaf enc P w [] cs) : cs = [] := by
  cases cs with
  | nil => rfl
  | cons c cs' => exact h.elim

theorem leaf_int {k : IntKind} {ks : List Leaf} {cs : List Value} (h : AllLeaf enc P w (.int k :: ks) cs) : ∃ (n : Int) (cs' : List Value), cs = .int k n :: cs' ∧ (Lit.int k n).wf = true ∧ AllLeaf enc P w ks cs' := by
  obtain ⟨c, cs', rfl, ⟨n, rfl, hw⟩, h'⟩ := allLeaf_cons enc P w h
  exact ⟨n, cs', rfl, hw, h'⟩
theorem fields_leaf {m : Nat} {rec : TypeId → Option (List Leaf)}
    (hrec : ∀ (t : TypeId) (cs : List Value) (x : DataW H × List MemPlace) (ks : List Leaf), ks.length = cs.length → DataW.trod enc P w 0 (fun _ => true) true m t cs = some x → rec t = some ks → AllLeaf enc P w ks cs)
    (cs : List Value) : ∀ (fs : List Field) (acc : Nat) (ks : List Leaf), leavesOf rec P fs acc = some ks → cs.length = acc + ks.length →
    (∀ f ∈ fs, ∃ x, DataW.trod enc P w 0 (fun _ => true) true m f.type ((cs.drop f.offset).take (P.cellsOf f.type)) = some x) → AllLeaf enc P w ks (cs.drop acc)
  | [], acc, ks, hk, hl, _ => by
    simp only [leavesOf, Option.some.injEq] at hk
    subst hk
    rw [List.drop_eq_nil_of_le (by simpa using Nat.le_of_eq hl)]
    trivial
  | f :: fs, acc, ks, hk, hl, hf => by
    simp only [leavesOf] at hk
    split at hk
    · rename_i ho
      split at hk
      · rename_i l hr
        split at hk
        · rename_i hll
          obtain ⟨ks', hk', rfl⟩ := Option.map_eq_some_iff.1 hk
          obtain ⟨x, hx⟩ := hf f (by simp)
          rw [ho, ← hll] at hx
          have h1 := hrec _ _ _ _ (by rw [List.length_take, List.length_drop, hl]; simp) hx hr
          have h2 := fields_leaf hrec cs fs (acc + l.length) ks' hk' (by rw [hl]; simp; omega) (fun g hg => hf g (by simp [hg]))
          have : cs.drop acc = (cs.drop acc).take l.length ++ cs.drop (acc + l.length) := by
            rw [← List.drop_drop, List.take_append_drop]
          rw [this]
          exact allLeaf_append enc P w h1 h2
        · cases hk
      · cases hk
    · cases hk

theorem rep_leaf {l : List Leaf} {sz : Nat} (hsz : l.length = sz) : ∀ (n : Nat) (cs : List Value), cs.length = n * sz → (∀ i, i < n → AllLeaf enc P w l ((cs.drop (i * sz)).take sz)) → AllLeaf enc P w (rep l n) cs
  | 0, cs, hl, _ => by
    have : cs = [] := List.eq_nil_of_length_eq_zero (by simpa using hl)
    subst this
    trivial
  | n + 1, cs, hl, h => by
    have h0 := h 0 (by omega)
    simp only [Nat.zero_mul, List.drop_zero] at h0
    have h1 := rep_leaf hsz n (cs.drop sz) (by rw [List.length_drop, hl, Nat.add_mul]; omega) (fun i hi => by
      have := h (i + 1) (by omega)
      rw [List.drop_drop]
      rwa [show sz + i * sz = (i + 1) * sz by rw [Nat.add_mul]; omega])
    have e : cs = cs.take sz ++ cs.drop sz := (List.take_append_drop _ _).symm
    rw [e]
    exact allLeaf_append enc P w h0 h1

set_option maxRecDepth 100000 in
theorem open_leaves : ∀ (fuel : Nat) (m : Nat) (t : TypeId) (cs : List Value) (x : DataW H × List MemPlace) (ks : List Leaf), ks.length = cs.length →
    DataW.trod enc P w 0 (fun _ => true) true m t cs = some x → leaves P fuel t = some ks → AllLeaf enc P w ks cs
  | 0, _, _, _, _, _, _, _, hk => by simp [leaves] at hk
  | fuel + 1, m, t, cs, x, ks, hlen, h, hk => by
    simp only [leaves] at hk
    split at hk
    · rename_i hu
      obtain ⟨b, rfl, _⟩ := DataW.trod_bool hu h
      cases hk
      exact ⟨⟨b, rfl⟩, trivial⟩
    · rename_i k hu
      obtain ⟨n, rfl, _, hw⟩ := DataW.trod_int hu h
      cases hk
      exact ⟨⟨n, rfl, hw⟩, trivial⟩
    · rename_i e hu
      cases hk
      rcases Deep.open_slice hu h with ⟨rfl, _⟩ | ⟨a, len, cap, mm, n, D, Pl, rfl, hb, hl, hm, hmm, _, hi⟩
      · exact ⟨⟨none, 0, 0, rfl, Nat.le_refl _, Nat.zero_le _, fun _ => rfl, fun i hi => absurd hi (by omega)⟩, trivial⟩
      · refine ⟨⟨some a, len, cap, rfl, hl, hm, (fun h => by cases h), fun i hlt => ?_⟩, trivial⟩
        obtain ⟨cs', hc, ht⟩ := hi i (by simp at hmm; omega)
        obtain ⟨_, hcl, hat⟩ := World.cells?_some hc
        exact ⟨a, cs', n, _, rfl, hcl, fun j u hu => by
          have := hat j (by have := lt_of_get hu; omega)
          rw [← Deep.add_add, this, hu], ht⟩
    · rename_i fs hu
      obtain ⟨xs, n, rfl, _, hcl, hxl, hf⟩ := DataW.trod_struct hu h
      have := fields_leaf enc P w (m := n) (rec := leaves P fuel) (fun t cs x ks hl ht hk => open_leaves fuel n t cs x ks hl ht hk) cs fs.toList 0 ks hk (by omega) (fun f hfm => by
        obtain ⟨i, hi, he⟩ := List.getElem_of_mem hfm
        have hfi : fs[i]? = some f := by
          rw [← Array.getElem?_toList, List.getElem?_eq_getElem hi, he]
        have hx : i < xs.length := by simpa [hxl] using hi
        exact ⟨xs[i], by rw [hf i f hfi, List.getElem?_eq_getElem hx]⟩)
      simpa using this
    · rename_i n e hu
      obtain ⟨xs, m', rfl, _, hcl, hxl, hf⟩ := DataW.trod_array hu h
      split at hk
      · rename_i l hr
        split at hk
        · rename_i hll
          cases hk
          have hrl : ∀ n, (rep l n).length = n * l.length := by
            intro n
            induction n with
            | zero => simp [rep]
            | succ n ih => rw [rep, List.length_append, ih, Nat.add_mul]; omega
          have hcs : cs.length = n * P.cellsOf e := by rw [← hlen, hrl, hll]
          exact rep_leaf enc P w hll n cs hcs (fun i hi => by
            have hx : i < xs.length := by omega
            have hle : (i + 1) * P.cellsOf e ≤ n * P.cellsOf e := Nat.mul_le_mul_right _ (by omega)
            rw [Nat.add_mul] at hle
            exact open_leaves fuel m' e _ xs[i] l (by rw [List.length_take, List.length_drop, hcs, hll]; omega) (by rw [hf i hi, List.getElem?_eq_getElem hx]) hr)
        · cases hk
      · cases hk
    · cases hk

theorem wf64 {n : Int} (h : (Lit.int .i64 n).wf = true) : -9223372036854775808 ≤ n ∧ n ≤ 9223372036854775807 := by
  simpa [Lit.wf, IntKind.min, IntKind.max, IntKind.signed, IntKind.bits] using h

theorem top_agg {r : Reach} {b0 : Nat} {t : TypeId} {fs : Array Field} {v : Value} {d : DataW H} {p : List MemPlace} {ks : List Leaf} (fuel : Nat) (hs : P.underlying t = some (.struct fs))
    (hk : leaves P fuel t = some ks) (hC : P.cellsOf t = ks.length) (hv : Value.okWide P w r b0 t v) (h : DataW.Trod enc P w 0 (fun _ => true) true t v d p) : ∃ l : List Value, v = .agg l.toArray ∧ AllLeaf enc P w ks l := by
  obtain ⟨cs, rfl, hsz⟩ := okWide_struct hs hv
  obtain ⟨l⟩ := cs
  obtain ⟨m, hm⟩ := h
  exact ⟨l, rfl, open_leaves enc P w fuel m t l _ ks (by simp at hsz; omega) (by simpa [Value.cells] using hm) hk⟩
theorem top_slice {r : Reach} {b0 : Nat} {t e : TypeId} {v : Value} {d : DataW H} {p : List MemPlace} (hs : P.underlying t = some (.slice e))
    (hv : Value.okWide P w r b0 t v) (h : DataW.Trod enc P w 0 (fun _ => true) true t v d p) : LeafOk enc P w (.slice e) v := by
  obtain ⟨a, n, c, rfl⟩ := okWide_slice hs hv
  obtain ⟨m, hm⟩ := h
  exact (open_leaves enc P w 1 m t [.slice a n c] _ [.slice e] rfl (by simpa [Value.cells] using hm) (by simp [leaves, hs])).1

theorem list_of {α : Type} {n : Nat} {p : Nat → α → Prop} (h : ∀ i, i < n → ∃ x, p i x) : ∃ l : List α, l.length = n ∧ ∀ i x, l[i]? = some x → p i x := by
  induction n with
  | zero => exact ⟨[], rfl, fun i x hx => by simp at hx⟩
  | succ n ih =>
    obtain ⟨l, hl, hp⟩ := ih (fun i hi => h i (by omega))
    obtain ⟨x, hx⟩ := h n (by omega)
    refine ⟨l ++ [x], by simp [hl], fun i y hy => ?_⟩
    by_cases hi : i < l.length
    · rw [List.getElem?_append_left hi] at hy
      exact hp i y hy
    · have := lt_of_get hy
      simp at this
      obtain rfl : i = l.length := by omega
      simp at hy
      subst hy
      rw [hl]
      exact hx

/-- A slice that came in is a list: of each element's leaves an element of a plain type is made. -/
theorem rows_of {α : Type} {e : TypeId} {v : Value} {ks : List Leaf} (fuel sz : Nat) (f : α → List Value) (ok : α → Prop) (hk : leaves P fuel e = some ks) (hC : P.cellsOf e = sz) (hn : ks.length = sz) (h0 : 0 < sz)
    (hf : ∀ cs, AllLeaf enc P w ks cs → ∃ x, cs = f x ∧ ok x) (h : LeafOk enc P w (.slice e) v) :
    ∃ (A : Option Addr) (l : List α) (cap : Nat), v = .slice A l.length cap ∧ l.length ≤ cap ∧ cap ≤ maxLen ∧ Sl w w.heap.size sz A (l.map f) ∧ (∀ x ∈ l, ok x) ∧ (A = none → cap = 0) := by
  obtain ⟨A, n, cap, rfl, hnc, hcm, hnil, hi⟩ := h
  obtain ⟨l, hl, hp⟩ := list_of (α := α) (n := n) (p := fun i x => ok x ∧ (f x).length = sz ∧ ∃ a : Addr, A = some a ∧ ∀ j u, (f x)[j]? = some u → w.cell? (a.add (i * sz + j)) = some u) (fun i hlt => by
    obtain ⟨a, cs', m, x, rfl, hcl, hcell, ht⟩ := hi i hlt
    obtain ⟨y, rfl, hok⟩ := hf cs' (open_leaves enc P w fuel m e cs' x ks (by omega) ht hk)
    exact ⟨y, hok, by omega, a, rfl, fun j u hu => by rw [← hC]; exact hcell j u hu⟩)
  refine ⟨A, l, cap, by rw [hl], by omega, hcm, ?_, fun x hx => ?_, hnil⟩
  · intro i row hr
    rw [List.getElem?_map] at hr
    obtain ⟨x, hx, rfl⟩ := Option.map_eq_some_iff.1 hr
    obtain ⟨_, hlen, a, rfl, hcell⟩ := hp i x hx
    obtain ⟨x0, hx0⟩ := get_of (l := l) (k := 0) (by have := lt_of_get hx; omega)
    obtain ⟨_, hlen0, a0, he0, hcell0⟩ := hp 0 x0 hx0
    cases he0
    obtain ⟨u0, hu0⟩ := get_of (l := f x0) (k := 0) (by omega)
    have hc0 := hcell0 0 u0 hu0
    have hspot := World.cell?_spot hc0
    have hblk := block_lt_of_cell hc0
    obtain ⟨b, off, spot⟩ := a
    have hs : spot = none := by simpa [Addr.add] using hspot
    subst hs
    have hadd : ∀ q, (Addr.mk b off none).add q = ⟨b, off + q, none⟩ := fun q => by
      unfold Addr.add
      split
      · rename_i h; simp_all
      · rfl
    refine ⟨b, off, rfl, ?_, fun j u hu => ?_⟩
    · rw [hadd] at hblk
      exact hblk
    · rw [← hadd]
      exact hcell j u hu
  · obtain ⟨i, hi, he⟩ := List.getElem_of_mem hx
    exact (hp i x (by rw [List.getElem?_eq_getElem hi, he])).1
end

/-- The last step of a law. -/
theorem trodAll_below {H : Type} {enc : TypeId × Value → H} {P : Program} {W W' : World} (hl : laidOutB P = true) (hb : Below W.heap.size W W') : ∀ (ts : List TypeId) (vs : List Value) (ds : List (DataW H)) (ps : List MemPlace),
    ts.all (fun t => P.readableRec t && decide (t < P.types.size)) = true → DataW.TrodAll enc P W 0 (fun _ => true) true ts vs ds ps →
    DataW.TrodAll enc P W' 0 (fun b => decide (b < W.heap.size)) true ts vs ds ps
  | [], vs, ds, ps, _, h => by
    obtain ⟨rfl, rfl, rfl⟩ := trodAll_nil h
    exact trodAll_mk0
  | t :: ts, vs, ds, ps, hall, h => by
    obtain ⟨v, vs', d, ds', p, q, rfl, rfl, rfl, h0, hr⟩ := trodAll_cons h
    simp only [List.all_cons, Bool.and_eq_true, decide_eq_true_eq] at hall
    have hlt : ∀ x ∈ p, x.block < W.heap.size := by
      obtain ⟨m, hm⟩ := h0
      exact DataW.trod_lt m _ _ _ hm
    exact trodAll_cons_mk (Below.trod hl hall.1.1 hall.1.2 h0 hb hlt) (trodAll_below hl hb ts vs' ds' q (by simpa using hall.2) hr)

theorem law_post {H : Type} {enc : TypeId × Value → H} {P : Program} {f : Func} {s : ChangeSpec} {W W' : World} {args : Array Value} {ds gs : List (DataW H)} {before : List MemPlace} {tb : TypeId}
    (laid : laidOutB P = true) (hpar : f.params.toList.all (fun t => P.readableRec t && decide (t < P.types.size)) = true) (hres : f.resultTypes = #[tb]) (htb : P.underlying tb = some .bool) (hvars : s.vars = [])
    (hs : s.fn H (ds ++ gs) = { results := [.lit (.bool true)], args := ds }) (hW : DataW.Whole enc P f.params.toList s.vars false W args.toList ds gs before) (hb : Below W.heap.size W W') :
    s.post enc P f false true false false W args (.bool true) W' := by
  have hW' := hW
  obtain ⟨p, q, hA, hV, rfl, _, _⟩ := hW
  rw [hvars] at hV
  obtain ⟨rfl, rfl⟩ := trodVars_none hV
  refine ⟨ds, [], _, [], p, [], hW', ?_, ?_, ?_, hb.frame _, fun h => by cases h⟩
  · rw [hs, hres]
    exact trodAll_mk1 (shut_bool htb true)
  · rw [hs]
    exact trodAll_below laid hb _ _ _ _ hpar hA
  · rw [hs, hvars]
    rfl
end Go.Proofs.YtmfohnchnbgbaaaGreat

/- Triangles: a slice of slices read as a list of rows; which triangles may be. -/
namespace Go.Proofs.YtmfohnchnbgbaaaGreat
open Go.ChangeShapes Go.WideShapes Go.ChangeAt Go.RowKit

theorem own : ownKnob Tryz.prog.godebug = none := by kernel_rfl
theorem laidOut : laidOutB Tryz.prog = true := by kernel_rfl

/-- A row, where it lies. -/
structure Rw where
  A : Option Addr
  l : List Int
  cap : Nat
def encI (n : Int) : List Value := [.int .i64 n]
def encRw (r : Rw) : List Value := [.slice r.A r.l.length r.cap]
def ok64 (n : Int) : Prop := -9223372036854775808 ≤ n ∧ n ≤ 9223372036854775807
/-- A slice of slices reads as rows. -/
structure MV (w : World) (A : Option Addr) (n cap : Nat) (M : List Rw) : Prop where
  sv : SV w 1 A n cap (M.map encRw)
  rows : ∀ r ∈ M, SV w 1 r.A r.l.length r.cap (r.l.map encI)
theorem MV.below {w w' : World} {A : Option Addr} {n cap : Nat} {M : List Rw} (h : MV w A n cap M) (hb : Below w.heap.size w w') : MV w' A n cap M :=
  ⟨h.sv.below hb, fun r hr => (h.rows r hr).below hb⟩
theorem MV.len {w : World} {A : Option Addr} {n cap : Nat} {M : List Rw} (h : MV w A n cap M) : M.length = n := by have := h.sv.len; simpa using this
theorem Sl.i {w : World} {B k : Nat} {A : Option Addr} {l : List Int} {n : Int} (h : Sl w B 1 A (l.map encI)) (hx : l[k]? = some n) :
    ∃ b off, A = some ⟨b, off, none⟩ ∧ b < B ∧ w.cell? ⟨b, off + k, none⟩ = some (.int .i64 n) := by
  obtain ⟨b, off, hA, hb, hc⟩ := h k (encI n) (by simp [hx])
  exact ⟨b, off, hA, hb, by simpa using hc 0 _ rfl⟩
theorem Sl.rw {w : World} {B k : Nat} {A : Option Addr} {M : List Rw} {r : Rw} (h : Sl w B 1 A (M.map encRw)) (hx : M[k]? = some r) :
    ∃ b off, A = some ⟨b, off, none⟩ ∧ b < B ∧ w.cell? ⟨b, off + k, none⟩ = some (.slice r.A r.l.length r.cap) := by
  obtain ⟨b, off, hA, hb, hc⟩ := h k (encRw r) (by simp [hx])
  exact ⟨b, off, hA, hb, by simpa using hc 0 _ rfl⟩

section
variable {H : Type} {enc : TypeId × Value → H} {W : World} {r : Reach} {b0 : Nat} {v : Value} {d : DataW H} {p : List MemPlace}
end

def okV (v : Int) : Bool := decide (0 ≤ v ∧ v ≤ 100000000000000000)
def goodRow (n : Nat) (l : List Int) : Bool := decide (l.length = n) && l.all okV
def rowsB : Nat → List (List Int) → Bool
  | _, [] => true
  | n, l :: c => goodRow n l && rowsB (n - 1) c
theorem rowsB_iff : ∀ (c : List (List Int)) (n : Nat), rowsB n c = true ↔ ∀ i l, c[i]? = some l → goodRow (n - i) l = true
  | [], n => by simp [rowsB]
  | l :: c, n => by
    rw [rowsB, Bool.and_eq_true, rowsB_iff c (n - 1)]
    constructor
    · rintro ⟨h1, h2⟩ i x hx
      cases i with
      | zero => simp at hx; subst hx; simpa using h1
      | succ i => rw [show n - (i + 1) = n - 1 - i by omega]; exact h2 i x (by simpa using hx)
    · intro h
      exact ⟨by simpa using h 0 l rfl, fun i x hx => by rw [show n - 1 - i = n - (i + 1) by omega]; exact h (i + 1) x (by simpa using hx)⟩
def boundsB (f : Int) (n : Nat) : Bool := decide (1 ≤ n ∧ n ≤ 20 ∧ 1601 ≤ f ∧ f ≤ 2401 - n)
/-- Which triangles may be. -/
def rightC (f : Int) (c : List (List Int)) : Bool := boundsB f c.length && rowsB c.length c
theorem rightC_no {f : Int} {c : List (List Int)} {i : Nat} {l : List Int} (hx : c[i]? = some l) (h : goodRow (c.length - i) l = false) : rightC f c = false := by
  rw [rightC, Bool.and_eq_false_iff]
  right
  rw [Bool.eq_false_iff]
  intro hr
  have := (rowsB_iff c c.length).1 hr i l hx
  rw [h] at this; cases this

def allM (M : List Rw) : List (List Int) := M.map (·.l)
theorem allM_len (M : List Rw) : (allM M).length = M.length := List.length_map _
theorem allM_get {M : List Rw} {i : Nat} {r : Rw} (h : M[i]? = some r) : (allM M)[i]? = some r.l := by simp [allM, h]
theorem okV_all {l : List Int} {k : Nat} {x : Int} (h : l[k]? = some x) : (l.take (k + 1)).all okV = ((l.take k).all okV && okV x) := by rw [take_of h]; simp
theorem okV_no {l : List Int} {k : Nat} {x : Int} {n : Nat} (h : l[k]? = some x) (hx : okV x = false) : goodRow n l = false := by
  rw [goodRow, Bool.and_eq_false_iff]
  right
  rw [List.all_eq_false]
  exact ⟨x, List.mem_of_getElem? h, by simp [hx]⟩

set_option maxRecDepth 100000 in
set_option maxHeartbeats 2000000 in
theorem right_any (f : Int) (A : Option Addr) (cap : Nat) (M : List Rw) (w : World) (hs : MV w A M.length cap M) (hf : ok64 f) :
    Calls Tryz.prog 32 #[.agg #[.int .i64 f, .slice A M.length cap]] w fun e w' => e = .returned (.bool (rightC f (allM M))) ∧ Below w.heap.size w w' := by
  have HS := hide hs
  clear hs
  obtain ⟨hf0, hf1⟩ := hf
  have hmx := HS.out.sv.le
  have hmy := HS.out.sv.most
  unfold maxLen at hmy
  cases hbd : boundsB f M.length
  · have HR := hide (show rightC f (allM M) = false by rw [rightC, allM_len, hbd]; rfl)
    simp only [boundsB, decide_eq_false_iff_not] at hbd
    rcases (show M.length < 1 ∨ (1 ≤ M.length ∧ 20 < M.length) ∨ (1 ≤ M.length ∧ M.length ≤ 20 ∧ f < 1601) ∨ (1 ≤ M.length ∧ M.length ≤ 20 ∧ 1601 ≤ f ∧ 2401 - (M.length : Int) < f) by omega) with h | ⟨h, h'⟩ | ⟨h, h', h2⟩ | ⟨h, h', h2, h3⟩
    all_goals
      clear hbd
      go_enter Tryz.func32, Tryz.ntmps32
      go_wp2_with fail
      go_ret
      exact ⟨ret_bool HR.out.symm, (Below.refl _ _).alloc (Nat.le_refl _) _⟩
  have HB := hide hbd
  simp only [boundsB, decide_eq_true_eq] at hbd
  obtain ⟨h1, h2, h3, h4⟩ := hbd
  go_enter Tryz.func32, Tryz.ntmps32
  go_wp2_with fail
  go_loop [33] (fun i => ∃ k : Nat, k ≤ M.length ∧ i = .int .i64 k ∧ ∀ j r, j < k → M[j]? = some r → goodRow (M.length - j) r.l = true) (fun i => M.length - (intOf i).toNat)
  case atStart => exact ⟨0, Nat.zero_le _, rfl, fun j r hj => absurd hj (by omega)⟩
  case round =>
    obtain ⟨k, hk, rfl, hall⟩ := hrel
    have HA := hide hall
    clear hall
    by_cases hlt : k < M.length
    · obtain ⟨⟨B, l, bc⟩, hx⟩ := get_of hlt
      obtain ⟨bb, off, rfl, hbl, hc⟩ := HS.out.sv.sl.rw hx
      have hrow := HS.out.rows _ (List.mem_of_getElem? hx)
      simp only at hc hrow
      have hle := hrow.le
      have hmo := hrow.most
      unfold maxLen at hmo
      have hk0 : (0 : Int) ≤ (k : Int) := by omega
      have hk1 : (k : Int) < (M.length : Int) := by omega
      have HX := hide hx
      have HR := hide hrow
      clear hx hrow
      by_cases hlen : l.length = M.length - k
      · have hlenI : (l.length : Int) = (M.length : Int) - (k : Int) := by omega
        have hne : ((l.length : Int) != (M.length : Int) - (k : Int)) = false := by simp [hlenI]
        have HLE := hide hlen
        clear hlen hlenI
        go_wp2_with fail
        go_loop [46] (fun i => ∃ q : Nat, q ≤ l.length ∧ i = .int .i64 q ∧ (l.take q).all okV = true) (fun i => l.length - (intOf i).toNat)
        case atStart => exact ⟨0, Nat.zero_le _, rfl, rfl⟩
        case round =>
          obtain ⟨q, hq, rfl, hqa⟩ := hrel
          have HQ := hide hqa
          clear hqa
          by_cases hql : q < l.length
          · obtain ⟨v, hv⟩ := get_of hql
            obtain ⟨b2, off2, rfl, hbl2, hcv⟩ := HR.out.sl.i hv
            have hq0 : (0 : Int) ≤ (q : Int) := by omega
            have hq1 : (q : Int) < (l.length : Int) := by omega
            have HT := hide (okV_all hv)
            have HV := hide hv
            clear hv
            rcases (show v < 0 ∨ (0 ≤ v ∧ 100000000000000000 < v) ∨ (0 ≤ v ∧ v ≤ 100000000000000000) by omega) with h0 | ⟨h0, h5⟩ | ⟨h0, h5⟩
            · have HNO := hide (rightC_no (f := f) (allM_get HX.out) (okV_no HV.out (by simp [okV]; omega)))
              go_wp2_with fail
              go_ret
              exact ⟨ret_bool HNO.out.symm, (Below.refl _ _).alloc (Nat.le_refl _) _⟩
            · have HNO := hide (rightC_no (f := f) (allM_get HX.out) (okV_no HV.out (by simp [okV]; omega)))
              go_wp2_with fail
              go_ret
              exact ⟨ret_bool HNO.out.symm, (Below.refl _ _).alloc (Nat.le_refl _) _⟩
            · go_wp2_with fail
              go_round
              case rel => exact ⟨q + 1, by omega, by go_num, by rw [HT.out, HQ.out]; simp [okV]; omega⟩
              case measure => simp [intOf]; omega
          · obtain rfl : q = l.length := by omega
            rw [List.take_length] at HQ
            have hgood : ∀ j r, j < k + 1 → M[j]? = some r → goodRow (M.length - j) r.l = true := by
              intro j r hj hr
              by_cases hjk : j < k
              · exact HA.out j r hjk hr
              · obtain rfl : j = k := by omega
                rw [HX.out] at hr
                cases hr
                simp only [goodRow, HQ.out, Bool.and_true, decide_eq_true_eq]
                exact HLE.out
            have HG := hide hgood
            clear hgood
            go_wp2_with fail
            go_round
            case rel => exact ⟨k + 1, by omega, by go_num, HG.out⟩
            case measure => simp [intOf]; omega
      · have hne : ((l.length : Int) != (M.length : Int) - (k : Int)) = true := by simp; omega
        have hno := rightC_no (f := f) (allM_get HX.out) (by rw [allM_len, goodRow]; simp [hlen])
        have HNO := hide hno
        clear hno hlen
        go_wp2_with fail
        go_ret
        exact ⟨ret_bool HNO.out.symm, (Below.refl _ _).alloc (Nat.le_refl _) _⟩
    · obtain rfl : k = M.length := by omega
      have hyes : rightC f (allM M) = true := by
        rw [rightC, allM_len, HB.out, Bool.true_and, rowsB_iff]
        intro i l hl
        rw [allM, List.getElem?_map] at hl
        obtain ⟨r, hr, rfl⟩ := Option.map_eq_some_iff.1 hl
        exact HA.out i r (lt_of_get hr) hr
      have HY := hide hyes
      clear hyes
      go_wp2_with fail
      go_ret
      exact ⟨ret_bool HY.out.symm, (Below.refl _ _).alloc (Nat.le_refl _) _⟩
end Go.Proofs.YtmfohnchnbgbaaaGreat

/- Whether a claim and an act may be: the program's and the document's answer are one Bool of the numbers. -/
namespace Go.Proofs.YtmfohnchnbgbaaaGreat
open Go.RowKit

structure Cl where
  id : Int
  pol : Int
  per : Int
  loss : Int
  bkd : Int
  ev : Int
structure Ac where
  b : Int
  k : Int
  m : Int
def Cl.cells (c : Cl) : List Value := [.int .i64 c.id, .int .i64 c.pol, .int .i64 c.per, .int .i64 c.loss, .int .i64 c.bkd, .int .i64 c.ev]
def encAc (a : Ac) : List Value := [.int .i64 a.b, .int .i64 a.k, .int .i64 a.m]

def wiB (n lo hi : Int) : Bool := decide (lo ≤ n ∧ n ≤ hi)
def formedB (c : Cl) : Bool := wiB c.id 1 1000000000 && wiB c.pol 1 1000000000 && wiB c.ev 0 1000000000 && wiB c.loss 1 292194 && wiB c.bkd 1 292194 && wiB c.per 0 7
def rightB_Claim (a : Ac) : Bool := wiB a.b 1 292194 && wiB a.k 1 5 && wiB a.m 0 (if a.k = 4 ∨ a.k = 5 then 0 else 1000000000000000)

theorem within_any (n lo hi : Int) (w : World) :
    Calls Tryz.prog 126 #[.int .i64 n, .int .i64 lo, .int .i64 hi] w fun e w' => e = .returned (.bool (wiB n lo hi)) ∧ w = w' := by
  go_enter Tryz.func126, Tryz.ntmps126
  go_wp2
  all_goals
    go_ret
    exact ⟨ret_bool (by rw [Bool.eq_iff_iff]; simp [wiB]; omega), rfl⟩

set_option maxHeartbeats 1000000 in
theorem formed_any (c : Cl) (w : World) :
    Calls Tryz.prog 171 #[.agg #[.int .i64 c.id, .int .i64 c.pol, .int .i64 c.per, .int .i64 c.loss, .int .i64 c.bkd, .int .i64 c.ev]] w fun e w' => e = .returned (.bool (formedB c)) ∧ Below w.heap.size w w' := by
  go_enter Tryz.func171, Tryz.ntmps171
  go_wp2_with (go_at_call 126; refine (within_any _ _ _ _).mono ?_; rintro e w' ⟨rfl, rfl⟩)
  all_goals
    go_ret
    exact ⟨ret_bool (by rw [Bool.eq_iff_iff]; simp [formedB, *]), (Below.refl _ _).alloc (Nat.le_refl _) _⟩

set_option maxHeartbeats 1000000 in
theorem right_any_Claim (b k m : Int) (w : World) :
    Calls Tryz.prog 208 #[.agg #[.int .i64 b, .int .i64 k, .int .i64 m]] w fun e w' => e = .returned (.bool (rightB_Claim ⟨b, k, m⟩)) ∧ Below w.heap.size w w' := by
  by_cases h4 : k = 4
  · subst h4
    go_enter Tryz.func208, Tryz.ntmps208
    go_wp2_with (go_at_call 126; refine (within_any _ _ _ _).mono ?_; rintro e w' ⟨rfl, rfl⟩)
    all_goals
      go_ret
      exact ⟨ret_bool (by rw [Bool.eq_iff_iff]; simp [rightB_Claim, *]), (Below.refl _ _).alloc (Nat.le_refl _) _⟩
  by_cases h5 : k = 5
  · subst h5
    go_enter Tryz.func208, Tryz.ntmps208
    go_wp2_with (go_at_call 126; refine (within_any _ _ _ _).mono ?_; rintro e w' ⟨rfl, rfl⟩)
    all_goals
      go_ret
      exact ⟨ret_bool (by rw [Bool.eq_iff_iff]; simp [rightB_Claim, *]), (Below.refl _ _).alloc (Nat.le_refl _) _⟩
  · have h4' : (k == 4) = false := by simpa using h4
    have h5' : (k == 5) = false := by simpa using h5
    go_enter Tryz.func208, Tryz.ntmps208
    go_wp2_with (go_at_call 126; refine (within_any _ _ _ _).mono ?_; rintro e w' ⟨rfl, rfl⟩)
    all_goals
      go_ret
      exact ⟨ret_bool (by rw [Bool.eq_iff_iff]; simp [rightB_Claim, *]), (Below.refl _ _).alloc (Nat.le_refl _) _⟩

theorem kinds (k : Int) : k = 1 ∨ k = 2 ∨ k = 3 ∨ k = 4 ∨ k = 5 ∨ (k < 1 ∨ 5 < k) := by omega

end Go.Proofs.YtmfohnchnbgbaaaGreat
