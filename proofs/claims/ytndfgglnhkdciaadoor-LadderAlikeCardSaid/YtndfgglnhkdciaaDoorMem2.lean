/- More words for memory: rows owned by the call, stored into, and kept behind stores elsewhere. -/
import Derived.Test.YtndfgglnhkdciaaDoorApp
namespace Go.Proofs.YtndfgglnhkdciaaDoor
open Go.RowKit

theorem grown_set (w : World) (a : Addr) (u : Value) : w.grownBy (w.setCell a u) (some a.block) :=
  ⟨rfl, rfl, rfl, by simp, fun k _ hk => heap_setCell_other w a k u (fun e => hk (by rw [e]))⟩
theorem OwnS.far {w : World} {B : Nat} {e : TypeId} {sz n cap : Nat} {A : Option Addr} {rows : List (List Value)} (h : OwnS w B e sz A n cap rows) {p : Addr} (hp : ∀ k, blk A = some k → k ≠ p.block) (u : Value) : OwnS (w.setCell p u) B e sz A n cap rows := by
  refine h.kept (grown_set w p u) ?_
  cases hA : blk A with
  | none => exact .inl rfl
  | some k => exact .inr (fun he => hp k hA (by simpa using he))
theorem OwnS.mono {w : World} {B B' : Nat} {e : TypeId} {sz n cap : Nat} {A : Option Addr} {rows : List (List Value)} (h : OwnS w B e sz A n cap rows) (hB : B' ≤ B) : OwnS w B' e sz A n cap rows := by
  refine ⟨⟨h.own.1, ?_⟩, h.len, h.ok⟩
  rcases h.own.2 with h2 | ⟨g, c, cur, h1, h2, h3⟩
  · exact .inl h2
  · exact .inr ⟨g, c, cur, h1, by omega, h3⟩
theorem sl_of_blk {W : World} {g sz : Nat} {e : TypeId} {cs : Array Value} (h : Blk W g e cs) : Sl W W.heap.size sz (some ⟨g, 0, none⟩) [cs.toList] := by
  intro i row hr
  match i, hr with
  | 0, hr =>
    simp at hr
    subst hr
    exact ⟨_, _, rfl, h.lt, fun j u hu => by rw [Nat.zero_mul, Nat.zero_add, Nat.zero_add, h.cell j, ← Array.getElem?_toList]; exact hu⟩
theorem set_flat {sz : Nat} : ∀ {rows : List (List Value)}, RowsOk sz rows → ∀ (i j : Nat) (row : List Value) (u : Value), rows[i]? = some row → j < sz → (rows.set i (row.set j u)).flatten = rows.flatten.set (i * sz + j) u
  | [], _, i, j, row, u, h, _ => by simp at h
  | r :: rows, ho, i, j, row, u, h, hj => by
    have hr := (ho r (by simp)).1
    cases i with
    | zero =>
      simp at h; subst h
      rw [List.set_cons_zero, List.flatten_cons, List.flatten_cons, Nat.zero_mul, Nat.zero_add, List.set_append_left _ _ (by omega)]
    | succ i =>
      rw [List.set_cons_succ, List.flatten_cons, List.flatten_cons, List.set_append_right _ _ (by rw [hr, Nat.add_mul]; omega), hr, show (i + 1) * sz + j - sz = i * sz + j by rw [Nat.add_mul]; omega,
        set_flat (rows := rows) (fun q hq => ho q (by simp [hq])) i j row u (by simpa using h) hj]
/-- A store into a row of an owned slice. -/
theorem OwnS.set_ {w : World} {B : Nat} {e : TypeId} {sz n cap g : Nat} {rows : List (List Value)} (h : OwnS w B e sz (some ⟨g, 0, none⟩) n cap rows) {i j : Nat} {row : List Value} (hr : rows[i]? = some row) (hj : j < sz) {u : Value} (hu : u.oneCell' = true) :
    OwnS (w.setCell ⟨g, i * sz + j, none⟩ u) B e sz (some ⟨g, 0, none⟩) n cap (rows.set i (row.set j u)) := by
  refine ⟨?_, by rw [List.length_set]; exact h.len, fun r hr' => ?_⟩
  · rw [set_flat h.ok i j row u hr hj]
    exact (h.own.stored (i * sz + j) u).1
  · rcases List.mem_or_eq_of_mem_set hr' with h1 | h1
    · exact h.ok r h1
    · subst h1
      have hrow := h.ok row (List.mem_of_getElem? hr)
      refine ⟨by rw [List.length_set]; exact hrow.1, fun v hv => ?_⟩
      rcases List.mem_or_eq_of_mem_set hv with h2 | h2
      · exact hrow.2 v h2
      · subst h2; exact hu
theorem OwnS.frozen {w : World} {B : Nat} {e : TypeId} {sz n cap g : Nat} {rows : List (List Value)} (h : OwnS w B e sz (some ⟨g, 0, none⟩) n cap rows) (j : Nat) : w.frozen? ⟨g, j, none⟩ = false := h.own.frozenAt j
/-- The first rows of an owned slice. -/
theorem OwnS.firsts {w : World} {B : Nat} {e : TypeId} {sz n cap : Nat} {A : Option Addr} {rows : List (List Value)} (h : OwnS w B e sz A n cap rows) {k : Nat} (hk : k ≤ n) : OwnS w B e sz A k cap (rows.take k) := by
  have hl : (rows.take k).length = k := by rw [List.length_take, h.len]; omega
  have hok : RowsOk sz (rows.take k) := fun r hr => h.ok r (List.mem_of_mem_take hr)
  refine ⟨⟨by rw [flat_len hok, hl], ?_⟩, hl, hok⟩
  have hcap := h.cap_le
  rcases h.own.2 with ⟨h1, h2⟩ | ⟨g, c, cur, h1, h2, h3, h4, h5, h6, h7⟩
  · cases h1
    have : k = 0 := by omega
    subst this
    exact .inl ⟨rfl, rfl⟩
  · cases h1
    refine .inr ⟨g, cap, cur, rfl, h2, h3, by omega, h5, h6, ?_⟩
    have hm : k * sz ≤ n * sz := Nat.mul_le_mul_right _ hk
    have e1 : (rows.flatten).take (k * sz) = (rows.take k).flatten := by
      conv => lhs; rw [← List.take_append_drop k rows]
      rw [List.flatten_append, List.take_append_of_le_length (by rw [flat_len hok, hl]; exact Nat.le_refl _), List.take_of_length_le (by rw [flat_len hok, hl]; exact Nat.le_refl _)]
    rw [← e1, ← h7, List.take_take, Nat.min_eq_left hm]
end Go.Proofs.YtndfgglnhkdciaaDoor
