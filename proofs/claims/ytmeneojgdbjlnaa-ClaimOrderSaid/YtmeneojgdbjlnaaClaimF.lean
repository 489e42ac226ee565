/- ClaimF: Same of two files that are one; Tame; the document's Put. -/
import Derived.Test.YtmeneojgdbjlnaaClaimE
import Derived.BigQuiet
import Derived.Deep.QuietTactic
import Derived.BigRegion
namespace Go.Proofs.Ytmeneojgdbjlnaa
open Go.RowKit

def tameB (l : List Ac) : Bool := l.all (fun a => decide (-1000000000000000 ≤ a.m ∧ a.m ≤ 1000000000000000)) && decide (l.length ≤ 100)
theorem all_take {α : Type} {p : α → Bool} {l : List α} {k : Nat} {x : α} (h : l[k]? = some x) : (l.take (k + 1)).all p = ((l.take k).all p && p x) := by rw [take_of h]; simp
theorem all_false {α : Type} {p : α → Bool} {l : List α} {k : Nat} {x : α} (h : l[k]? = some x) (hp : p x = false) : l.all p = false := by
  rw [List.all_eq_false]; exact ⟨x, List.mem_of_getElem? h, by simp [hp]⟩

set_option maxHeartbeats 1000000 in
theorem tame_any (c : Cl) (A : Option Addr) (cap : Nat) (l : List Ac) (w : World) (hl : Sl w w.heap.size 3 A (l.map encAc)) (hm : l.length ≤ 9223372036854775807) :
    Calls Try.prog 15 #[.agg #[.int .i64 c.id, .int .i64 c.pol, .int .i64 c.per, .int .i64 c.loss, .int .i64 c.bkd, .int .i64 c.ev, .slice A l.length cap]] w
      fun e w' => e = .returned (.bool (tameB l)) ∧ Below w.heap.size w w' := by
  have HL := hide hl
  clear hl
  go_enter Try.func15, Try.ntmps15
  go_wp2
  go_loop [3] (fun i => ∃ k : Nat, k ≤ l.length ∧ i = .int .i64 k ∧ (l.take k).all (fun a => decide (-1000000000000000 ≤ a.m ∧ a.m ≤ 1000000000000000)) = true) (fun i => l.length - (intOf i).toNat)
  case atStart => exact ⟨0, Nat.zero_le _, rfl, rfl⟩
  case round =>
    obtain ⟨k, hk, rfl, hall⟩ := hrel
    have HA := hide hall
    clear hall
    by_cases hlt : k < l.length
    · obtain ⟨⟨ab, ak, am⟩, hx⟩ := get_of hlt
      obtain ⟨bb, off, rfl, hbl, hc0, hc1, hc2⟩ := HL.out.ac hx
      simp only at hc0 hc1 hc2
      have HX := hide (all_take (p := fun a : Ac => decide (-1000000000000000 ≤ a.m ∧ a.m ≤ 1000000000000000)) hx)
      have HF := hide (all_false (p := fun a : Ac => decide (-1000000000000000 ≤ a.m ∧ a.m ≤ 1000000000000000)) hx)
      clear hx
      rcases (show am < -1000000000000000 ∨ (-1000000000000000 ≤ am ∧ 1000000000000000 < am) ∨ (-1000000000000000 ≤ am ∧ am ≤ 1000000000000000) by omega) with h1 | ⟨h1, h2⟩ | ⟨h1, h2⟩
      · go_wp2
        go_ret
        exact ⟨ret_bool (by rw [tameB, HF.out (by simp; omega)]; rfl), (Below.refl _ _).alloc (Nat.le_refl _) _⟩
      · go_wp2
        go_ret
        exact ⟨ret_bool (by rw [tameB, HF.out (by simp; omega)]; rfl), (Below.refl _ _).alloc (Nat.le_refl _) _⟩
      · go_wp2
        go_round
        case rel => exact ⟨k + 1, by omega, by go_num, by rw [HX.out, HA.out]; simp; omega⟩
        case measure => simp [intOf]; omega
    · obtain rfl : k = l.length := by omega
      rw [List.take_length] at HA
      go_wp2
      go_ret
      exact ⟨ret_bool (by rw [tameB, HA.out, Bool.true_and]; rw [Bool.eq_iff_iff]; simp; omega), (Below.refl _ _).alloc (Nat.le_refl _) _⟩

set_option maxHeartbeats 1000000 in
theorem same_any (c : Cl) (A A' : Option Addr) (cap cap' : Nat) (l : List Ac) (w : World) (hl : Sl w w.heap.size 3 A (l.map encAc)) (hl' : Sl w w.heap.size 3 A' (l.map encAc)) (hm : l.length ≤ 9223372036854775807) :
    Calls Try.prog 18 #[.agg #[.int .i64 c.id, .int .i64 c.pol, .int .i64 c.per, .int .i64 c.loss, .int .i64 c.bkd, .int .i64 c.ev, .slice A l.length cap], .agg #[.int .i64 c.id, .int .i64 c.pol, .int .i64 c.per, .int .i64 c.loss, .int .i64 c.bkd, .int .i64 c.ev, .slice A' l.length cap']] w
      fun e w' => e = .returned (.bool true) ∧ Below w.heap.size w w' := by
  have HL := hide hl
  have HL' := hide hl'
  clear hl hl'
  go_enter Try.func18, Try.ntmps18
  go_wp2
  go_loopw [5] (fun i wr => ∃ k : Nat, k ≤ l.length ∧ i = .int .i64 k ∧ Blk wr w.heap.size 32 (boxC c A l.length cap) ∧ Blk wr (w.heap.size + 1) 32 (boxC c A' l.length cap') ∧ Below w.heap.size w wr) (fun i _ => l.length - (intOf i).toNat)
  case atStart => exact ⟨0, Nat.zero_le _, rfl, (Blk.new' rfl).alloc _, Blk.new' (by simp), ((Below.refl _ _).alloc (Nat.le_refl _) _).alloc (by simp) _⟩
  case round =>
    obtain ⟨k, hk, rfl, hb1, hb2, hbl⟩ := hrel
    have q6 := hb1.cell 6
    have r6 := hb2.cell 6
    simp [boxC] at q6 r6
    by_cases hlt : k < l.length
    · obtain ⟨⟨ab, ak, am⟩, hx⟩ := get_of hlt
      obtain ⟨bb, off, rfl, hbb, hc0, hc1, hc2⟩ := ((HL.out.below hbl).more hbl.size).ac hx
      obtain ⟨bb', off', rfl, hbb', hd0, hd1, hd2⟩ := ((HL'.out.below hbl).more hbl.size).ac hx
      simp only at hc0 hc1 hc2 hd0 hd1 hd2
      have hlt' : (k : Int) < (l.length : Int) := by omega
      have hk0 : (0 : Int) ≤ (k : Int) := by omega
      clear hx
      go_wp2_with fail
      go_quiet (fail)
      go_wp2_with fail
      go_roundw
      case rel => exact ⟨k + 1, by omega, by go_num, hb1.drewN _, hb2.drewN _, bel_drewN hbl _⟩
      case measure => simp [intOf]; omega
    · obtain rfl : k = l.length := by omega
      go_wp2_with fail
      go_ret
      exact ⟨rfl, hbl⟩
end Go.Proofs.Ytmeneojgdbjlnaa
