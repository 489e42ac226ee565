/- What was known on a day: the closure, IndexFunc, DeleteFunc. -/
import Derived.Test.YtmeneojgdbjlnaaClaimC
import Derived.Test.YtmeneojgdbjlnaaMem2
import Derived.Laws.CopyRow
namespace Go.Proofs.Ytmeneojgdbjlnaa
open Go.RowKit

section
variable {P : Program} {w : World} {t e : TypeId} {sz bytes B g n cap : Nat} {rows : List (List Value)}
theorem run_clear_own (T : ElT P t e sz bytes) (h1 : ∀ i z, P.info? e = some i → i.zero = some z → ∀ v ∈ z.cells.toList, v.oneCell' = true) (h : OwnS w B e sz (some ⟨g, 0, none⟩) n cap rows) {k m c o : Nat} (hk : k < n) (hm : m = n - k) (ho : o = k * sz) :
    ∃ W', (∀ ty : TypeId, (Builtin.clear_ #[t] ty #[.slice (some ⟨g, o, none⟩) m c]).run P w = .ok (.tuple #[]) W') ∧ OwnS W' B e sz (some ⟨g, 0, none⟩) k cap (rows.take k) ∧ w.grownBy W' (some g) := by
  obtain ⟨ht, ⟨i, z, hi, hz, hsize, hby, hzs⟩, hsz⟩ := T
  subst ho
  have hzv : ∀ w, (zeroValue e).run P w = .ok z w := fun w => by simp [zeroValue, typeInfo, hi, hz]
  have hvs : (Builtin.zeroCells z.cells m).toList.length = m * sz := by simp [Builtin.zeroCells, hzs]
  have hone : ∀ v ∈ (Builtin.zeroCells z.cells m).toList, v.oneCell' = true := by
    intro v hv
    simp only [Builtin.zeroCells, Array.toList_map, List.mem_map] at hv
    obtain ⟨q, _, rfl⟩ := hv
    refine h1 i z hi hz _ ?_
    rw [getElem!_pos z.cells (q % z.cells.size) (Nat.mod_lt _ (by omega))]
    simp
  have hf := h.firsts (k := k) (by omega)
  rcases h.own.2 with ⟨h', _⟩ | ⟨g', cap', cur, h', hB, hg, hnc, hcm, hcs, htake⟩
  · simp at h'
  · simp only [Value.slice.injEq, Option.some.injEq, Addr.mk.injEq, and_true, true_and] at h'
    obtain ⟨rfl, rfl⟩ := h'
    have hle : k * sz + m * sz ≤ cap * sz := by
      rw [← Nat.add_mul]; exact Nat.mul_le_mul_right _ (by omega)
    have hst := run_storeCells_at (P := P) g (k * sz) e (Builtin.zeroCells z.cells m).toList 0 cur w hg (by rw [hvs]; omega) hone
    simp only [Nat.add_zero] at hst
    refine ⟨w.setRow g (cur.toList.take (k * sz) ++ (Builtin.zeroCells z.cells m).toList ++ cur.toList.drop (k * sz + (Builtin.zeroCells z.cells m).toList.length)).toArray, ?_, ?_, ?_⟩
    · intro ty
      obtain ⟨q, rfl⟩ : ∃ q, m = q + 1 := ⟨m - 1, by omega⟩
      simp only [Builtin.clear_]
      simp [run_underlying ht, hzv, hst]
    · refine ⟨⟨hf.own.1, .inr ⟨g, cap, _, rfl, hB, setRow_heap w g cur _ e _ hg, by omega, hcm, ?_, ?_⟩⟩, hf.len, hf.ok⟩
      · have h2 : (Builtin.zeroCells z.cells m).toList.length = m * sz := hvs
        have h3 : cur.toList.length = cap * sz := by rw [Array.length_toList, hcs]
        simp only [List.size_toArray, List.length_append, List.length_take, List.length_drop, h2, h3]
        omega
      · have h3 : cur.toList.length = cap * sz := by rw [Array.length_toList, hcs]
        have h4 : (cur.toList.take (k * sz)).length = k * sz := by rw [List.length_take, h3]; omega
        simp only [List.append_assoc]
        rw [List.take_append_of_le_length (by omega), List.take_of_length_le (by omega)]
        rcases hf.own.2 with ⟨h5, _⟩ | ⟨g5, c5, cur5, h5, _, hg5, _, _, _, ht5⟩
        · simp at h5
        · simp only [Value.slice.injEq, Option.some.injEq, Addr.mk.injEq, and_true, true_and] at h5
          obtain ⟨rfl, rfl⟩ := h5
          rw [hg] at hg5
          cases hg5
          exact ht5
    · exact ⟨rfl, rfl, rfl, by simp, fun j _ hj => setRow_other w g j _ (fun e => hj (by rw [e]))⟩
end

theorem acZero : ∀ i z, Try.prog.info? 25 = some i → i.zero = some z → ∀ v ∈ z.cells.toList, v.oneCell' = true := by
  intro i z hi hz v hv
  have h : (Try.prog.info? 25).map (fun i => i.zero) = some (some (.agg #[.int .i64 0, .int .i64 0, .int .i64 0])) := by kernel_rfl
  rw [hi] at h
  simp only [Option.map_some, Option.some.injEq] at h
  rw [hz] at h
  cases h
  simp [Value.cells] at hv
  rcases hv with rfl | rfl | rfl <;> rfl

theorem late_any (b k m d : Int) (q : Nat) (w : World) (h : w.cell? ⟨q, 0, none⟩ = some (.int .i64 d)) :
    Calls Try.prog 32 #[.agg #[.int .i64 b, .int .i64 k, .int .i64 m], .pointer (some ⟨q, 0, none⟩)] w fun e w' => e = .returned (.bool (decide (d < b))) ∧ Below w.heap.size w w' := by
  have hq := block_lt_of_cell h
  go_enter Try.func32, Try.ntmps32
  go_wp2
  go_ret
  exact ⟨rfl, (Below.refl _ _).alloc (Nat.le_refl _) _⟩

theorem all_take' {α : Type} {p : α → Bool} {l : List α} {k : Nat} {x : α} (h : l[k]? = some x) : (l.take (k + 1)).all p = ((l.take k).all p && p x) := by rw [take_of h]; simp
/-- The first act that is later than a day. -/
def FirstLate (d : Int) (l : List Ac) (r : Int) : Prop := (r = -1 ∧ l.all (fun a => decide (a.b ≤ d)) = true) ∨ ∃ (k : Nat) (x : Ac), r = k ∧ l[k]? = some x ∧ d < x.b ∧ (l.take k).all (fun a => decide (a.b ≤ d)) = true
def IndexPost (w : World) (d : Int) (l : List Ac) (e : Ending) (w' : World) : Prop := ∃ r : Int, e = .returned (.int .i64 r) ∧ FirstLate d l r ∧ Below w.heap.size w w'

set_option maxHeartbeats 1000000 in
theorem index_any (A : Option Addr) (cap : Nat) (l : List Ac) (d : Int) (q : Nat) (w : World) (hl : Sl w w.heap.size 3 A (l.map encAc)) (hm : l.length ≤ 9223372036854775806) (hq : w.cell? ⟨q, 0, none⟩ = some (.int .i64 d)) :
    Calls Try.prog 38 #[.slice A l.length cap, .func (Fn.func 32) #[] #[.pointer (some ⟨q, 0, none⟩)]] w (IndexPost w d l) := by
  have HL := hide hl
  have HQ := hide hq
  clear hl hq
  go_enter Try.func38, Try.ntmps38
  go_wp2_with fail
  go_loopw [8] (fun i wr => ∃ k : Nat, k ≤ l.length ∧ i = .int .i64 k ∧ (l.take k).all (fun a => decide (a.b ≤ d)) = true ∧ Below w.heap.size w wr) (fun i _ => l.length - (intOf i).toNat)
  case atStart => exact ⟨0, Nat.zero_le _, rfl, rfl, Below.refl _ _⟩
  case round =>
    obtain ⟨k, hk, rfl, hall, hb⟩ := hrel
    have HA := hide hall
    clear hall
    by_cases hlt : k < l.length
    · obtain ⟨⟨ab, ak, am⟩, hx⟩ := get_of hlt
      obtain ⟨bb, off, rfl, hbl, hc0, hc1, hc2⟩ := ((HL.out.below hb).more hb.size).ac hx
      simp only at hc0 hc1 hc2
      have HX := hide hx
      have HT := hide (all_take' (p := fun a : Ac => decide (a.b ≤ d)) hx)
      clear hx
      go_wp2_with fail
      refine (late_any ab ak am d q _ (kept hb HQ.out)).mono ?_
      rintro e w2 ⟨rfl, hb2⟩
      have hb' := chain hb hb2
      rcases Int.lt_or_le d ab with hd | hd
      · go_wp2_with fail
        go_ret
        exact ⟨(k : Int), rfl, .inr ⟨k, _, rfl, HX.out, hd, HA.out⟩, hb'⟩
      · go_wp2_with fail
        go_roundw
        case rel => exact ⟨k + 1, by omega, by go_num, by rw [HT.out, HA.out]; simpa using hd, hb'⟩
        case measure => simp [intOf]; omega
    · obtain rfl : k = l.length := by omega
      rw [List.take_length] at HA
      go_wp2_with fail
      go_ret
      exact ⟨-1, rfl, .inl ⟨rfl, HA.out⟩, hb⟩
end Go.Proofs.Ytmeneojgdbjlnaa
