/- Bands: the contracts of the program's and the document's functions, as in layer 6. -/
import Derived.Test.YtaboachegclaiaaRows
import Derived.Test.YtaboachegclaiaaMem
import Derived.ProofKit
import Derived.BigQuiet
import Derived.Deep.QuietTactic
import Derived.ScopeJumps
import Derived.WalkMore
namespace Go.Proofs.Ytaboachegclaiaa
open Go.RowKit

abbrev Bd := Int × Int
def encBd (x : Bd) : List Value := [.int .i64 x.1, .int .i64 x.2]
def rise (last : Int) : List Bd → Bool
  | [] => true
  | x :: r => if x.1 ≤ last ∨ 200 < x.1 ∨ x.2 < 0 ∨ 100000 < x.2 then false else rise x.1 r
def bandI (age : Int) : List Bd → Int
  | [] => 10000
  | x :: r => if x.1 < age then bandI age r else x.2
def bandsB (l : List Bd) : Bool := rise (-1) l && decide (l.length ≤ 100)
theorem Sl.bd {w : World} {B k : Nat} {A : Option Addr} {l : List Bd} {u p : Int} (h : Sl w B 2 A (l.map encBd)) (hx : l[k]? = some (u, p)) :
    ∃ b off, A = some ⟨b, off, none⟩ ∧ b < B ∧ w.cell? ⟨b, off + k * 2, none⟩ = some (.int .i64 u) ∧ w.cell? ⟨b, off + k * 2 + 1, none⟩ = some (.int .i64 p) := by
  obtain ⟨b, off, hA, hb, hc⟩ := h k (encBd (u, p)) (by simp [hx])
  exact ⟨b, off, hA, hb, hc 0 _ rfl, hc 1 _ rfl⟩

set_option maxHeartbeats 400000 in
theorem bands_any (A : Option Addr) (c : Nat) (l : List Bd) (w : World) (hl : Sl w w.heap.size 2 A (l.map encBd)) (hm : l.length ≤ 9223372036854775807) :
    Calls Try.prog 21 #[.slice A l.length c] w fun e w' => e = .returned (.bool (bandsB l)) ∧ Below w.heap.size w w' := by
  go_enter Try.func21, Try.ntmps21
  go_wp2
  go_loopw [3, 8] (fun t i wr => ∃ (k : Nat) (last : Int), k ≤ l.length ∧ i = .int .i64 k ∧ t = .int .i64 last ∧ rise last (l.drop k) = rise (-1) l ∧ Below w.heap.size w wr) (fun _ i _ => l.length - (intOf i).toNat)
  case atStart => exact ⟨0, -1, Nat.zero_le _, rfl, rfl, rfl, Below.refl _ _⟩
  case round =>
    obtain ⟨k, last, hk, rfl, rfl, hr, hb⟩ := hrel
    by_cases hlt : k < l.length
    · obtain ⟨⟨u, p⟩, hx⟩ := get_of hlt
      obtain ⟨b, off, rfl, hbl, hc0, hc1⟩ := (hl.below hb).bd hx
      have hs := hb.size
      rw [drop_of hx] at hr
      have H := hide hr
      clear hr hx
      go_wp2
      all_goals first
        | (go_ret
           exact ⟨ret_bool (by have h := H.out; rw [rise, if_pos (by omega)] at h; simp [bandsB, ← h]), by repeat (first | exact hb | refine Below.alloc ?_ hs _ | refine Below.setCell ?_ (by simp; omega) _)⟩)
        | (go_roundw
           case rel => exact ⟨k + 1, u, by omega, by go_num, rfl, by have h := H.out; rw [rise, if_neg (by omega)] at h; exact h, by repeat (first | exact hb | refine Below.alloc ?_ hs _ | refine Below.setCell ?_ (by simp; omega) _)⟩
           case measure => simp [intOf]; omega)
    · obtain rfl : k = l.length := by omega
      have hr' : rise (-1) l = true := by rw [← hr]; simp [rise]
      have H := hide hr'
      clear hr hr' hlt
      go_wp2
      go_ret
      exact ⟨ret_bool (by rw [bandsB, H.out, Bool.eq_iff_iff]; simp; omega), hb⟩

def lastOf (l : List Bd) (k : Nat) : Int := if k = 0 then -1 else ((l[k - 1]?).getD (0, 0)).1
theorem lastOf_zero (l : List Bd) : lastOf l 0 = -1 := rfl
theorem lastOf_succ {l : List Bd} {k : Nat} {x : Bd} (h : l[k]? = some x) : lastOf l (k + 1) = x.1 := by simp [lastOf, h]

set_option maxHeartbeats 400000 in
theorem bandsR_any (A : Option Addr) (c : Nat) (l : List Bd) (w : World) (hl : Sl w w.heap.size 2 A (l.map encBd)) (hm : l.length ≤ 9223372036854775807) :
    Calls Try.prog 22 #[.slice A l.length c] w fun e w' => e = .returned (.bool (bandsB l)) ∧ Below w.heap.size w w' := by
  by_cases hbig : 100 < l.length
  · go_enter Try.func22, Try.ntmps22
    go_wp2
    go_ret
    exact ⟨ret_bool (by rw [bandsB, Bool.eq_iff_iff]; simp; omega), Below.refl _ _⟩
  · have hsmall : l.length ≤ 100 := by omega
    clear hbig
    go_enter Try.func22, Try.ntmps22
    go_wp2
    go_loopw [3] (fun i wr => ∃ k : Nat, k ≤ l.length ∧ i = .int .i64 k ∧ -1 ≤ lastOf l k ∧ rise (lastOf l k) (l.drop k) = rise (-1) l ∧ Below w.heap.size w wr) (fun i _ => l.length - (intOf i).toNat)
    case atStart => exact ⟨0, Nat.zero_le _, rfl, by simp [lastOf], rfl, Below.refl _ _⟩
    case round =>
      obtain ⟨k, hk, rfl, hlast, hr, hb⟩ := hrel
      by_cases hlt : k < l.length
      · obtain ⟨⟨u, p⟩, hx⟩ := get_of hlt
        obtain ⟨b, off, rfl, hbl, hc0, hc1⟩ := (hl.below hb).bd hx
        have hs := hb.size
        rw [drop_of hx] at hr
        have hls := lastOf_succ hx
        rcases Nat.eq_zero_or_pos k with rfl | hpos
        · rw [lastOf_zero] at hr
          simp only [Nat.zero_mul, Nat.add_zero] at hc0 hc1
          have H := hide hr
          have HL := hide hls
          clear hr hx hls hlast
          go_wp2
          all_goals first
            | (go_ret
               exact ⟨ret_bool (by have h := H.out; rw [rise, if_pos (by omega)] at h; simp [bandsB, ← h]), hb⟩)
            | (go_roundw
               case rel => exact ⟨1, by omega, rfl, by rw [HL.out]; omega, by have h := H.out; rw [rise, if_neg (by omega)] at h; rw [HL.out]; exact h, hb⟩
               case measure => simp [intOf]; omega)
        · obtain ⟨j, rfl⟩ : ∃ j, k = j + 1 := ⟨k - 1, by omega⟩
          obtain ⟨⟨u', p'⟩, hx'⟩ := get_of (show j < l.length by omega)
          obtain ⟨b', off', he, _, hc0', _⟩ := (hl.below hb).bd hx'
          simp only [Option.some.injEq, Addr.mk.injEq] at he
          obtain ⟨rfl, rfl, _⟩ := he
          rw [lastOf_succ hx'] at hr hlast
          have H := hide hr
          have HL := hide hls
          clear hr hx hx' hls
          go_wp2
          all_goals first
            | (go_ret
               exact ⟨ret_bool (by have h := H.out; rw [rise, if_pos (by omega)] at h; simp [bandsB, ← h]), hb⟩)
            | (go_quiet (fail)
               go_wp2
               all_goals first
                 | (go_ret
                    exact ⟨ret_bool (by have h := H.out; rw [rise, if_pos (by omega)] at h; simp [bandsB, ← h]), by repeat (first | exact hb | refine bel_drewN ?_ _)⟩)
                 | (go_roundw
                    case rel => exact ⟨j + 2, by omega, by go_num, by rw [HL.out]; omega, by have h := H.out; rw [rise, if_neg (by omega)] at h; rw [HL.out]; exact h, by repeat (first | exact hb | refine bel_drewN ?_ _)⟩
                    case measure => simp [intOf]; omega))
      · obtain rfl : k = l.length := by omega
        have hr' : rise (-1) l = true := by rw [← hr]; simp [rise]
        have H := hide hr'
        clear hr hr' hlt hlast
        go_wp2
        go_ret
        exact ⟨ret_bool (by rw [bandsB, H.out, Bool.eq_iff_iff]; simp; omega), hb⟩
end Go.Proofs.Ytaboachegclaiaa
