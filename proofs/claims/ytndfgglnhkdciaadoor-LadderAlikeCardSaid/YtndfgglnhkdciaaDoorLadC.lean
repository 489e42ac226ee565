/- The same rows of numbers. -/
import Derived.Test.YtndfgglnhkdciaaDoorTriB
import Derived.BigQuiet
import Derived.Deep.QuietTactic
namespace Go.Proofs.YtndfgglnhkdciaaDoor
open Go.RowKit

set_option maxHeartbeats 1000000 in
theorem sameI_any (A A' : Option Addr) (n cap cap' : Nat) (l : List Int) (w : World) (hs : SV w 1 A n cap (l.map encI)) (hs' : SV w 1 A' n cap' (l.map encI)) (hm : n ≤ 9223372036854775806) :
    Calls Tryd.prog 17 #[.slice A n cap, .slice A' n cap'] w fun e w' => e = .returned (.bool true) ∧ Below w.heap.size w w' := by
  have hn : l.length = n := by have := hs.len; simpa using this
  subst hn
  have HL := hide hs.sl
  have HL' := hide hs'.sl
  clear hs hs'
  go_enter Tryd.func17, Tryd.ntmps17
  go_wp2_with fail
  go_loopw [5] (fun i wr => ∃ k : Nat, k ≤ l.length ∧ i = .int .i64 k ∧ Below w.heap.size w wr) (fun i _ => l.length - (intOf i).toNat)
  case atStart => exact ⟨0, Nat.zero_le _, rfl, Below.refl _ _⟩
  case round =>
    obtain ⟨k, hk, rfl, hb⟩ := hrel
    by_cases hlt : k < l.length
    · obtain ⟨v, hx⟩ := get_of hlt
      obtain ⟨bb, off, rfl, hbl, hc⟩ := ((HL.out.below hb).more hb.size).i hx
      obtain ⟨bb', off', rfl, hbl', hd⟩ := ((HL'.out.below hb).more hb.size).i hx
      have hk0 : (0 : Int) ≤ (k : Int) := by omega
      have hk1 : (k : Int) < (l.length : Int) := by omega
      clear hx
      go_wp2_with fail
      go_quiet (fail)
      go_wp2_with fail
      go_roundw
      case rel => exact ⟨k + 1, by omega, by go_num, bel_drewN hb _⟩
      case measure => simp [intOf]; omega
    · obtain rfl : k = l.length := by omega
      go_wp2_with fail
      go_ret
      exact ⟨rfl, hb⟩
end Go.Proofs.YtndfgglnhkdciaaDoor
