/- Amounts gone on with: the program's grow and all. -/
import Derived.Test.YtndfgglnhkdciaaDoorLadK
namespace Go.Proofs.YtndfgglnhkdciaaDoor
open Go.RowKit

/-- Factors are of their size. -/
def OkF (l : List (Nat × Nat)) : Prop := ∀ x ∈ l, x.1 ≤ 2000000000000000000 ∧ x.2 ≤ 2000000000000000000 ∧ 0 < x.2
theorem okF_facL {c : List (List Int)} (h : OkC c) : OkF (facL c) := fun x hx => by
  obtain ⟨k, _, rfl⟩ := List.mem_map.1 hx
  exact facK_le h k
theorem okF_drop {l : List (Nat × Nat)} (h : OkF l) (k : Nat) : OkF (l.drop k) := fun x hx => h x (List.mem_of_mem_drop hx)
theorem Sl.rt {w : World} {B k : Nat} {A : Option Addr} {l : List (Nat × Nat)} {x : Nat × Nat} (h : Sl w B 2 A (l.map encRt)) (hx : l[k]? = some x) :
    ∃ b off, A = some ⟨b, off, none⟩ ∧ b < B ∧ w.cell? ⟨b, off + k * 2, none⟩ = some (.int .i64 (x.1 : Int)) ∧ w.cell? ⟨b, off + k * 2 + 1, none⟩ = some (.int .i64 (x.2 : Int)) := by
  obtain ⟨b, off, hA, hb, hc⟩ := h k (encRt x) (by simp [hx])
  exact ⟨b, off, hA, hb, hc 0 _ rfl, hc 1 _ rfl⟩
/-- The error that a code is. -/
def errV (k : Int) : Value := if k = 0 then .nilIface else .iface 58 (.agg #[.int .i64 k])
theorem grow_code : ∀ (l : List (Nat × Nat)) (a : Nat), (growN a l).2 = 0 ∨ ((growN a l).2 = 5 ∧ (growN a l).1 = 0)
  | [], a => .inl rfl
  | r :: l, a => by
    rw [growN]
    split
    · exact grow_code l _
    · rename_i h
      rcases evE_cases a r.1 r.2 with h1 | h1
      · exact absurd h1 h
      · exact .inr ⟨h1, rfl⟩
theorem grow_le : ∀ (l : List (Nat × Nat)) (a : Nat), a ≤ 4000000000000000000 → (growN a l).1 ≤ 4000000000000000000
  | [], a, h => h
  | r :: l, a, h => by
    rw [growN]
    split
    · exact grow_le l _ (evQ_le _ _ _)
    · simp

set_option maxRecDepth 100000 in
set_option maxHeartbeats 2000000 in
theorem grow_any (amt : Nat) (A : Option Addr) (n cap : Nat) (l : List (Nat × Nat)) (w : World) (hs : SV w 2 A n cap (l.map encRt)) (hl : OkF l) (ha : amt ≤ 4000000000000000000) :
    Calls Tryd.prog 26 #[.int .i64 amt, .slice A n cap] w
      fun e w' => e = .returned (.tuple #[.int .i64 ((growN amt l).1 : Nat), errV (growN amt l).2]) ∧ Below w.heap.size w w' := by
  have hn : l.length = n := by have := hs.len; simpa using this
  subst hn
  have HS := hide hs
  have hmx := hs.le
  have hmy := hs.most
  unfold maxLen at hmy
  have HL := hide hl
  clear hs hl
  go_enter Tryd.func26, Tryd.ntmps26
  go_wp2_with fail
  go_loopw [0, 12] (fun a i wr => ∃ (j x : Nat), j ≤ l.length ∧ i = .int .i64 j ∧ a = .int .i64 x ∧ x ≤ 4000000000000000000 ∧ growN x (l.drop j) = growN amt l ∧ Below w.heap.size w wr) (fun _ i _ => l.length - (RowKit.intOf i).toNat)
  case atStart => exact ⟨0, amt, Nat.zero_le _, rfl, rfl, ha, rfl, Below.refl _ _⟩
  case round =>
    obtain ⟨j, x, hj, rfl, rfl, hx, hg, hb⟩ := hrel
    have HB := hide hb
    by_cases hlt : j < l.length
    · obtain ⟨r, hr⟩ := get_of hlt
      obtain ⟨bb, off, rfl, hbl, c0, c1⟩ := (HS.out.sl.below hb).rt hr
      have hr1 := HL.out r (List.mem_of_getElem? hr)
      obtain ⟨n, d⟩ := r
      obtain ⟨q1, q2, q3⟩ := hr1
      simp only at c0 c1 q1 q2 q3
      have hk0 : (0 : Int) ≤ (j : Int) := by omega
      have hk1 : (j : Int) < (l.length : Int) := by omega
      rw [drop_of hr, growN] at hg
      have HG := hide hg
      clear hr hg hb
      go_wp2_with fail
      refine (even_any x n d (by omega) (by omega) (by omega) q3 _).mono ?_
      rintro e w2 ⟨rfl, hb2⟩
      have H2 := hide (chain (HB.out.alloc HB.out.size _) hb2)
      have hqb := evQ_le x n d
      obtain ⟨q, hq⟩ : ∃ z, evQ x n d = z := ⟨_, rfl⟩
      obtain ⟨k, hk⟩ : ∃ z, evE x n d = z := ⟨_, rfl⟩
      have hkc := evE_cases x n d
      simp only [hk, hq] at HG hqb hkc ⊢
      clear hb2 hq hk c0 c1
      rcases hkc with rfl | rfl
      · rw [if_pos rfl] at HG
        go_wp2_with fail
        go_roundw
        case rel => exact ⟨j + 1, q, by omega, by go_num, rfl, hqb, HG.out, H2.out⟩
        case measure => simp [RowKit.intOf]; omega
      · rw [if_neg (by decide)] at HG
        go_wp2_with fail
        go_ret2
        rw [← HG.out]
        exact ⟨rfl, H2.out⟩
    · obtain rfl : j = l.length := by omega
      have hk1 : ¬ (((l.length : Nat) : Int) < (l.length : Int)) := by omega
      rw [List.drop_length] at hg
      have HG := hide hg
      clear hg
      go_wp2_with fail
      go_ret2
      rw [← HG.out]
      exact ⟨rfl, HB.out⟩
end Go.Proofs.YtndfgglnhkdciaaDoor
