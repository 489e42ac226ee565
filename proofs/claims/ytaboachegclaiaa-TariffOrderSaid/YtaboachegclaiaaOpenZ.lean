/- What an argument that can be read looks like, its reach told too: each slice's bytes are within the reach. -/
import Derived.Test.YtaboachegclaiaaOpen
import Derived.SizedLaws
namespace Go.Proofs.Ytaboachegclaiaa
open Go.ChangeShapes Go.WideShapes Go.ChangeAt Go.RowKit

theorem weights_mem_all {H : Type} {P : Program} {e : TypeId} : ∀ {ds : List (DataW H)} {d : DataW H}, d ∈ ds → ∀ n ∈ d.weights P e, n ∈ DataW.weightsAll P e ds
  | [], _, h, _, _ => by cases h
  | a :: r, d, h, n, hn => by
    simp only [DataW.weightsAll, List.mem_append]
    rcases List.mem_cons.1 h with h1 | h1
    · subst h1; exact .inl hn
    · exact .inr (weights_mem_all h1 n hn)
/-- Every weight of a datum is within the reach. -/
def Small {H : Type} (P : Program) (t : TypeId) (d : DataW H) : Prop := ∀ n ∈ d.weights P t, n ≤ reachBytes
theorem small_of {H : Type} {P : Program} {ts : List TypeId} {ds : List (DataW H)} (h : (DataW.weightsEach P ts ds).all (· ≤ reachBytes) = true) {j : Nat} {t : TypeId} {d : DataW H} (ht : ts[j]? = some t) (hd : ds[j]? = some d) : Small P t d := fun n hn => by
  have := List.all_eq_true.1 h _ (DataW.weights_mem_each ht hd n hn)
  simpa using this

section
variable {H : Type} (enc : TypeId × Value → H) (P : Program) (w : World)

/-- What a leaf's cell is. -/
def LeafOkZ (k : Leaf) (c : Value) : Prop :=
  match k with
  | .int k => ∃ n, c = .int k n ∧ (Lit.int k n).wf = true
  | .bool => ∃ b, c = .bool b
  | .slice e => ∃ (A : Option Addr) (n cap : Nat), c = .slice A n cap ∧ n ≤ cap ∧ cap ≤ maxLen ∧ (A = none → cap = 0) ∧ cap * P.bytesOf e ≤ reachBytes ∧
      ∀ i, i < n → ∃ (a : Addr) (cs' : List Value) (fuel : Nat) (x : DataW H × List MemPlace), A = some a ∧ cs'.length = P.cellsOf e ∧
        (∀ j u, cs'[j]? = some u → w.cell? (a.add (i * P.cellsOf e + j)) = some u) ∧ DataW.trod enc P w 0 (fun _ => true) true fuel e cs' = some x ∧ Small P e x.1

def AllLeafZ : List Leaf → List Value → Prop
  | [], [] => True
  | k :: ks, c :: cs => LeafOkZ enc P w k c ∧ AllLeafZ ks cs
  | _, _ => False

theorem allLeaf_appendZ : ∀ {k1 k2 : List Leaf} {c1 c2 : List Value}, AllLeafZ enc P w k1 c1 → AllLeafZ enc P w k2 c2 → AllLeafZ enc P w (k1 ++ k2) (c1 ++ c2)
  | [], _, [], _, _, h => h
  | [], _, _ :: _, _, h, _ => h.elim
  | _ :: _, _, [], _, h, _ => h.elim
  | _ :: _, _, _ :: _, _, h, h' => ⟨h.1, allLeaf_appendZ h.2 h'⟩

theorem allLeaf_consZ {k : Leaf} {ks : List Leaf} {cs : List Value} (h : AllLeafZ enc P w (k :: ks) cs) : ∃ c cs', cs = c :: cs' ∧ LeafOkZ enc P w k c ∧ AllLeafZ enc P w ks cs' := by
  cases cs with
  | nil => exact h.elim
  | cons c cs' => exact ⟨c, cs', rfl, h.1, h.2⟩
theorem allLeaf_nilZ {cs : List Value} (h : AllLeafZ enc P w [] cs) : cs = [] := by
  cases cs with
  | nil => rfl
  | cons c cs' => exact h.elim

theorem leaf_intZ {k : IntKind} {ks : List Leaf} {cs : List Value} (h : AllLeafZ enc P w (.int k :: ks) cs) : ∃ (n : Int) (cs' : List Value), cs = .int k n :: cs' ∧ (Lit.int k n).wf = true ∧ AllLeafZ enc P w ks cs' := by
  obtain ⟨c, cs', rfl, ⟨n, rfl, hw⟩, h'⟩ := allLeaf_consZ enc P w h
  exact ⟨n, cs', rfl, hw, h'⟩
theorem leaf_boolZ {ks : List Leaf} {cs : List Value} (h : AllLeafZ enc P w (.bool :: ks) cs) : ∃ (b : Bool) (cs' : List Value), cs = .bool b :: cs' ∧ AllLeafZ enc P w ks cs' := by
  obtain ⟨c, cs', rfl, ⟨b, rfl⟩, h'⟩ := allLeaf_consZ enc P w h
  exact ⟨b, cs', rfl, h'⟩

theorem fields_leafZ {m : Nat} {rec : TypeId → Option (List Leaf)}
    (hrec : ∀ (t : TypeId) (cs : List Value) (x : DataW H × List MemPlace) (ks : List Leaf), ks.length = cs.length → DataW.trod enc P w 0 (fun _ => true) true m t cs = some x → Small P t x.1 → rec t = some ks → AllLeafZ enc P w ks cs)
    (cs : List Value) : ∀ (fs : List Field) (acc : Nat) (ks : List Leaf), leavesOf rec P fs acc = some ks → cs.length = acc + ks.length →
    (∀ f ∈ fs, ∃ x, DataW.trod enc P w 0 (fun _ => true) true m f.type ((cs.drop f.offset).take (P.cellsOf f.type)) = some x ∧ Small P f.type x.1) → AllLeafZ enc P w ks (cs.drop acc)
  | [], acc, ks, hk, hl, _ => by
    simp only [leavesOf, Option.some.injEq] at hk
    subst hk
    rw [List.drop_eq_nil_of_le (by simpa using Nat.le_of_eq hl)]
    trivial
  | f :: fs, acc, ks, hk, hl, hf => by
    simp only [leavesOf] at hk
    split at hk
    · rename_i ho
      split at hk
      · rename_i l hr
        split at hk
        · rename_i hll
          obtain ⟨ks', hk', rfl⟩ := Option.map_eq_some_iff.1 hk
          obtain ⟨x, hx, hxs⟩ := hf f (by simp)
          rw [ho, ← hll] at hx
          have h1 := hrec _ _ _ _ (by rw [List.length_take, List.length_drop, hl]; simp) hx hxs hr
          have h2 := fields_leafZ hrec cs fs (acc + l.length) ks' hk' (by rw [hl]; simp; omega) (fun g hg => hf g (by simp [hg]))
          have : cs.drop acc = (cs.drop acc).take l.length ++ cs.drop (acc + l.length) := by
            rw [← List.drop_drop, List.take_append_drop]
          rw [this]
          exact allLeaf_appendZ enc P w h1 h2
        · cases hk
      · cases hk
    · cases hk

theorem rep_leafZ {l : List Leaf} {sz : Nat} (hsz : l.length = sz) : ∀ (n : Nat) (cs : List Value), cs.length = n * sz → (∀ i, i < n → AllLeafZ enc P w l ((cs.drop (i * sz)).take sz)) → AllLeafZ enc P w (rep l n) cs
  | 0, cs, hl, _ => by
    have : cs = [] := List.eq_nil_of_length_eq_zero (by simpa using hl)
    subst this
    trivial
  | n + 1, cs, hl, h => by
    have h0 := h 0 (by omega)
    simp only [Nat.zero_mul, List.drop_zero] at h0
    have h1 := rep_leafZ hsz n (cs.drop sz) (by rw [List.length_drop, hl, Nat.add_mul]; omega) (fun i hi => by
      have := h (i + 1) (by omega)
      rw [List.drop_drop]
      rwa [show sz + i * sz = (i + 1) * sz by rw [Nat.add_mul]; omega])
    have e : cs = cs.take sz ++ cs.drop sz := (List.take_append_drop _ _).symm
    rw [e]
    exact allLeaf_appendZ enc P w h0 h1

theorem open_leavesZ : ∀ (fuel : Nat) (m : Nat) (t : TypeId) (cs : List Value) (x : DataW H × List MemPlace) (ks : List Leaf), ks.length = cs.length →
    DataW.trod enc P w 0 (fun _ => true) true m t cs = some x → Small P t x.1 → leaves P fuel t = some ks → AllLeafZ enc P w ks cs
  | 0, _, _, _, _, _, _, _, _, hk => by simp [leaves] at hk
  | fuel + 1, m, t, cs, x, ks, hlen, h, hsm, hk => by
    simp only [leaves] at hk
    split at hk
    · rename_i hu
      obtain ⟨b, rfl, _⟩ := DataW.trod_bool hu h
      cases hk
      exact ⟨⟨b, rfl⟩, trivial⟩
    · rename_i k hu
      obtain ⟨n, rfl, _, hw⟩ := DataW.trod_int hu h
      cases hk
      exact ⟨⟨n, rfl, hw⟩, trivial⟩
    · rename_i e hu
      cases hk
      rcases Deep.open_slice hu h with ⟨rfl, _⟩ | ⟨a, len, cap, mm, n, D, Pl, rfl, hb, hl, hm, hmm, rfl, hi⟩
      · exact ⟨⟨none, 0, 0, rfl, Nat.le_refl _, Nat.zero_le _, fun _ => rfl, by simp, fun i hi => absurd hi (by omega)⟩, trivial⟩
      · simp at hmm
        subst hmm
        refine ⟨⟨some a, len, mm, rfl, hl, hm, (fun h => by cases h), ?_, fun i hlt => ?_⟩, trivial⟩
        · refine hsm _ ?_
          simp only [DataW.weights, hu, List.length_map, List.length_range]
          rw [show len + (mm - len) = mm by omega]
          exact List.mem_cons_self
        obtain ⟨cs', hc, ht⟩ := hi i (by omega)
        obtain ⟨_, hcl, hat⟩ := World.cells?_some hc
        exact ⟨a, cs', n, _, rfl, hcl, fun j u hu => by
          have := hat j (by have := lt_of_get hu; omega)
          rw [← Deep.add_add, this, hu], ht, fun q hq => hsm q (by
            simp only [DataW.weights, hu]
            refine List.mem_cons_of_mem _ (List.mem_append_left _ (weights_mem_all (d := D i) ?_ q hq))
            exact List.mem_map.2 ⟨i, List.mem_range.2 hlt, rfl⟩)⟩
    · rename_i fs hu
      obtain ⟨xs, n, rfl, rfl, hcl, hxl, hf⟩ := DataW.trod_struct hu h
      have := fields_leafZ enc P w (m := n) (rec := leaves P fuel) (fun t cs x ks hl ht hs hk => open_leavesZ fuel n t cs x ks hl ht hs hk) cs fs.toList 0 ks hk (by omega) (fun f hfm => by
        obtain ⟨i, hi, he⟩ := List.getElem_of_mem hfm
        have hfi : fs[i]? = some f := by
          rw [← Array.getElem?_toList, List.getElem?_eq_getElem hi, he]
        have hx : i < xs.length := by simpa [hxl] using hi
        exact ⟨xs[i], by rw [hf i f hfi, List.getElem?_eq_getElem hx], fun q hq => hsm q (by
          show q ∈ (DataW.agg (xs.map (·.1))).weights P t
          simp only [DataW.weights, hu]
          exact DataW.weights_mem_each (j := i) (t := f.type) (d := xs[i].1) (by rw [List.getElem?_map, Array.getElem?_toList, hfi]; rfl) (by rw [List.getElem?_map, List.getElem?_eq_getElem hx]; rfl) q hq)⟩)
      simpa using this
    · rename_i n e hu
      obtain ⟨xs, m', rfl, rfl, hcl, hxl, hf⟩ := DataW.trod_array hu h
      split at hk
      · rename_i l hr
        split at hk
        · rename_i hll
          cases hk
          have hrl : ∀ n, (rep l n).length = n * l.length := by
            intro n
            induction n with
            | zero => simp [rep]
            | succ n ih => rw [rep, List.length_append, ih, Nat.add_mul]; omega
          have hcs : cs.length = n * P.cellsOf e := by rw [← hlen, hrl, hll]
          exact rep_leafZ enc P w hll n cs hcs (fun i hi => by
            have hx : i < xs.length := by omega
            have hle : (i + 1) * P.cellsOf e ≤ n * P.cellsOf e := Nat.mul_le_mul_right _ (by omega)
            rw [Nat.add_mul] at hle
            exact open_leavesZ fuel m' e _ xs[i] l (by rw [List.length_take, List.length_drop, hcs, hll]; omega) (by rw [hf i hi, List.getElem?_eq_getElem hx]) (fun q hq => hsm q (by
              show q ∈ (DataW.agg (xs.map (·.1))).weights P t
              simp only [DataW.weights, hu]
              exact weights_mem_all (d := xs[i].1) (List.mem_map.2 ⟨xs[i], List.getElem_mem hx, rfl⟩) q hq)) hr)
        · cases hk
      · cases hk
    · cases hk

theorem top_aggZ {r : Reach} {b0 : Nat} {t : TypeId} {fs : Array Field} {v : Value} {d : DataW H} {p : List MemPlace} {ks : List Leaf} (fuel : Nat) (hs : P.underlying t = some (.struct fs))
    (hk : leaves P fuel t = some ks) (hC : P.cellsOf t = ks.length) (hv : Value.okWide P w r b0 t v) (h : DataW.Trod enc P w 0 (fun _ => true) true t v d p) (hsm : Small P t d) : ∃ l : List Value, v = .agg l.toArray ∧ AllLeafZ enc P w ks l := by
  obtain ⟨cs, rfl, hsz⟩ := okWide_struct hs hv
  obtain ⟨l⟩ := cs
  obtain ⟨m, hm⟩ := h
  exact ⟨l, rfl, open_leavesZ enc P w fuel m t l _ ks (by simp at hsz; omega) (by simpa [Value.cells] using hm) hsm hk⟩
/-- A slice that came in is a list: of each element's leaves an element of a plain type is made. -/
theorem rowsZ_of {α : Type} {e : TypeId} {v : Value} {ks : List Leaf} (fuel sz : Nat) (f : α → List Value) (ok : α → Prop) (hk : leaves P fuel e = some ks) (hC : P.cellsOf e = sz) (hn : ks.length = sz) (h0 : 0 < sz)
    (hf : ∀ cs, AllLeafZ enc P w ks cs → ∃ x, cs = f x ∧ ok x) (h : LeafOkZ enc P w (.slice e) v) :
    ∃ (A : Option Addr) (l : List α) (cap : Nat), v = .slice A l.length cap ∧ l.length ≤ cap ∧ cap ≤ maxLen ∧ Sl w w.heap.size sz A (l.map f) ∧ (∀ x ∈ l, ok x) ∧ (A = none → cap = 0) ∧ cap * P.bytesOf e ≤ reachBytes := by
  obtain ⟨A, n, cap, rfl, hnc, hcm, hnil, hbt, hi⟩ := h
  obtain ⟨l, hl, hp⟩ := list_of (α := α) (n := n) (p := fun i x => ok x ∧ (f x).length = sz ∧ ∃ a : Addr, A = some a ∧ ∀ j u, (f x)[j]? = some u → w.cell? (a.add (i * sz + j)) = some u) (fun i hlt => by
    obtain ⟨a, cs', m, x, rfl, hcl, hcell, ht, hsm⟩ := hi i hlt
    obtain ⟨y, rfl, hok⟩ := hf cs' (open_leavesZ enc P w fuel m e cs' x ks (by omega) ht hsm hk)
    exact ⟨y, hok, by omega, a, rfl, fun j u hu => by rw [← hC]; exact hcell j u hu⟩)
  refine ⟨A, l, cap, by rw [hl], by omega, hcm, ?_, fun x hx => ?_, hnil, hbt⟩
  · intro i row hr
    rw [List.getElem?_map] at hr
    obtain ⟨x, hx, rfl⟩ := Option.map_eq_some_iff.1 hr
    obtain ⟨_, hlen, a, rfl, hcell⟩ := hp i x hx
    obtain ⟨x0, hx0⟩ := get_of (l := l) (k := 0) (by have := lt_of_get hx; omega)
    obtain ⟨_, hlen0, a0, he0, hcell0⟩ := hp 0 x0 hx0
    cases he0
    obtain ⟨u0, hu0⟩ := get_of (l := f x0) (k := 0) (by omega)
    have hc0 := hcell0 0 u0 hu0
    have hspot := World.cell?_spot hc0
    have hblk := block_lt_of_cell hc0
    obtain ⟨b, off, spot⟩ := a
    have hs : spot = none := by simpa [Addr.add] using hspot
    subst hs
    have hadd : ∀ q, (Addr.mk b off none).add q = ⟨b, off + q, none⟩ := fun q => by
      unfold Addr.add
      split
      · rename_i h; simp_all
      · rfl
    refine ⟨b, off, rfl, ?_, fun j u hu => ?_⟩
    · rw [hadd] at hblk
      exact hblk
    · rw [← hadd]
      exact hcell j u hu
  · obtain ⟨i, hi, he⟩ := List.getElem_of_mem hx
    exact (hp i x (by rw [List.getElem?_eq_getElem hi, he])).1
end
end Go.Proofs.Ytaboachegclaiaa
