/- Part 46 of the proof. -/
import Derived.Test.YtmfohnchnbgbaaaGreatDoorRows
import Derived.ProofKit
import Derived.BigQuiet
import Derived.Deep.QuietTactic
import Derived.Deep.RegionWith
import Derived.Deep.DeepCutAuto
import Derived.Deep.RegionHeld3
import Derived.Test.YtmfohnchnbgbaaaGreatDoorYpM01
import Derived.Test.YtmfohnchnbgbaaaGreatDoorYpM11
import Derived.Test.YtmfohnchnbgbaaaGreatDoorYpM45
/- An amount dealt out in two equal parts. -/
namespace Go.Proofs.YtmfohnchnbgbaaaGreatDoor
open Go.RowKit Go.Lib

theorem make_cap2 (W : World) : (Instr.makeSlice 36 (.int .i64 0) (.int .i64 2)).run Tryz.prog W = .ok (.slice (some ⟨W.heap.size, 0, none⟩) 0 2) (W.alloc (.cells #[.int .i64 0, .int .i64 0] 3)) := by
  obtain ⟨i, h1, h2, h3, h4⟩ := info_parts (P := Tryz.prog) (e := 3) (z := .int .i64 0) (size := 1) (bytes := 8) (by kernel_rfl)
  have := run_makeSlice (P := Tryz.prog) W 36 3 i (.int .i64 0) Tryz.underlying36 h1 h2 .i64 .i64 0 2 (by omega) (by omega) (by rw [h3]; decide) (by omega) (by omega)
  have e : madeCells #[Value.int .i64 0] 2 = #[.int .i64 0, .int .i64 0] := by
    apply Array.ext'
    rw [toList_madeCells_one]
    rfl
  rw [this, h3]
  show Result.ok _ (W.alloc (.cells (madeCells #[Value.int .i64 0] 2) _)) = _
  rw [e]
  rfl
/-- A block of numbers reads as rows of one. -/
theorem sl_ints {W : World} {g : Nat} {e : TypeId} {l : List Int} {cs : Array Value} (h : Blk W g e cs) (hc : cs.toList = l.map (Value.int .i64)) : Sl W W.heap.size 1 (some ⟨g, 0, none⟩) (l.map encI) := by
  intro i row hr
  rw [List.getElem?_map] at hr
  obtain ⟨x, hx, rfl⟩ := Option.map_eq_some_iff.1 hr
  refine ⟨g, 0, rfl, h.lt, fun j u hu => ?_⟩
  rcases j with _ | j
  · simp [encI] at hu
    subst hu
    rw [h.cell, ← Array.getElem?_toList, hc]
    simp [hx]
  · simp [encI] at hu
/-- The first so many sums. -/
def sumsU (k : Nat) : List Int := (List.range k).map fun j => ((j + 1 : Nat) : Int)
theorem sumsU_succ (k : Nat) : sumsU (k + 1) = sumsU k ++ [((k + 1 : Nat) : Int)] := by simp [sumsU, List.range_succ]
def outC : Nat → Array Value
  | 0 => #[.int .i64 0, .int .i64 0]
  | 1 => #[.int .i64 5000, .int .i64 0]
  | _ => #[.int .i64 5000, .int .i64 5000]

set_option maxRecDepth 100000 in
set_option maxHeartbeats 4000000 in
theorem split_any (A : Option Addr) (cap : Nat) (w : World) (hs : SV w 1 A 2 cap ([1, 1].map encI)) :
    Calls Tryz.prog 87 #[.int .i64 10000, .slice A 2 cap] w fun e w' => ∃ g, e = .returned (.tuple #[.slice (some ⟨g, 0, none⟩) 2 2, .int .i64 0]) ∧ Blk w' g 3 #[.int .i64 5000, .int .i64 5000] ∧ w.heap.size ≤ g ∧ Below w.heap.size w w' := by
  have HS := hide hs
  clear hs
  go_enter Tryz.func87, Tryz.ntmps87
  go_wp2_with fail
  refine (runner_any _).mono ?_
  rintro e w1 ⟨rfl, hR, h1⟩
  have hmk := make_cap2 w1
  obtain ⟨w2, hw2⟩ : ∃ W, w1.alloc (.cells #[.int .i64 0, .int .i64 0] 3) = W := ⟨_, rfl⟩
  have ho2 : OwnS w2 w1.heap.size 3 1 (some ⟨w1.heap.size, 0, none⟩) 0 2 [] := by
    rw [← hw2]
    exact ⟨World.ownsRow_made (base := w1.heap.size) (size := 1) w1 #[.int .i64 0, .int .i64 0] 2 (Nat.le_refl _) (by simp [maxLen]) rfl, rfl, RowsOk.nil_⟩
  have h2 : Below w.heap.size w w2 := by rw [← hw2]; exact h1.alloc h1.size _
  have hR2 : Blk w2 w.heap.size 3 #[.int .i64 0] := by rw [← hw2]; exact hR.alloc _
  have hlt := hR.lt
  have hsz2 : w1.heap.size ≤ w2.heap.size := by rw [← hw2]; simp
  have H2 := hide h2
  have HR2 := hide hR2
  have HO2 := hide ho2
  rw [hw2] at hmk
  clear h1 hR h2 hR2 ho2 hw2
  go_wp2_with fail
  clear hmk
  go_loopw [7, 8, 35] (fun ov s i wr => ∃ (k : Nat) (A' : Option Addr) (c' : Nat), k ≤ 2 ∧ i = .int .i64 k ∧ ov = .bool false ∧ s = .slice A' k c' ∧ OwnS wr w1.heap.size 3 1 A' k c' ((sumsU k).map encI) ∧ Blk wr w.heap.size 3 #[.int .i64 k] ∧ Below w.heap.size w wr ∧ w1.heap.size ≤ wr.heap.size) (fun _ _ i _ => 2 - (RowKit.intOf i).toNat)
  case atStart => exact ⟨0, _, _, by omega, rfl, rfl, rfl, HO2.out, HR2.out, H2.out, hsz2⟩
  case round =>
    obtain ⟨k, A', c', hk, rfl, rfl, rfl, ho, hR, hb, hsz⟩ := hrel
    have HO := hide ho
    have HR := hide hR
    have HB := hide hb
    clear ho hR
    by_cases hlt2 : k < 2
    · obtain ⟨b, off, rfl, hbl, c0⟩ := (HS.out.below hb).sl.i (l := [1, 1]) (k := k) (n := 1) (by rcases (show k = 0 ∨ k = 1 by omega) with rfl | rfl <;> rfl)
      have hk0 : (0 : Int) ≤ (k : Int) := by omega
      have hk1 : (k : Int) < 2 := by omega
      clear hb
      go_wp2_with fail
      refine (run1_any w.heap.size k 1 _ HR.out (by omega) (by omega) (by omega)).mono ?_
      rintro e w4 ⟨rfl, rfl⟩
      have HO3 := hide (HO.out.far (p := ⟨w.heap.size, 0, none⟩) (fun q hq => by have := (HO.out.lt q hq).1; simp; omega) (.int .i64 ((k : Int) + 1)))
      have hR3 := HR.out.set_ 0 (.int .i64 ((k : Int) + 1))
      simp at hR3
      have HR3 := hide hR3
      have HB3 := hide (HB.out.setCell (p := ⟨w.heap.size, 0, none⟩) (Nat.le_refl _) (.int .i64 ((k : Int) + 1)))
      obtain ⟨W4, hW4⟩ : ∃ W, wr.setCell ⟨w.heap.size, 0, none⟩ (.int .i64 ((k : Int) + 1)) = W := ⟨_, rfl⟩
      have hsz4 : w1.heap.size ≤ W4.heap.size := by rw [← hW4]; simpa using hsz
      rw [hW4] at HO3 HR3 HB3 ⊢
      have hw4 : W4.heap.size = W4.heap.size := rfl
      clear hR3 hW4 c0 hbl
      go_wp2_with (at_builtin
                   refine wpList_app rfl (.tmp 53) (.tmp 55) 36 rfl elInt (B := w1.heap.size) (A2 := some ⟨_, 0, none⟩) (news := [((k : Int) + 1)].map encI) rfl (HO3.out.alloc _) rfl rfl ?_ (okI [(k : Int) + 1]) ?_ ?_ ?_ ?_
                   · exact sl_of_blk (cs := #[.int .i64 ((k : Int) + 1)]) (Blk.new _ _ _)
                   · simp only [maxLen]; omega
                   · omega
                   · simp; omega
                   intro A5 c5 w5 ho5 hg5 ha5
                   have HO5 := hide ho5
                   have hbg := (((Below.refl W4.heap.size W4).alloc (Nat.le_refl _) (.cells #[.int .i64 ((k : Int) + 1)] 3)))
                   have HR5 := hide (Blk.grown (HR3.out.alloc _) hg5 (fun he => by have := (HO3.out.lt _ he.symm).1; omega))
                   have HB5 := hide ((HB3.out.alloc HB3.out.size _).grown hg5 (by have := HB3.out.size; simp; omega) (fun q hq => by have := (HO3.out.lt q hq).1; omega))
                   have hsz5 := hg5.size
                   simp at hsz5
                   clear ho5 hg5 ha5 hbg)
      go_roundw
      case rel => exact ⟨k + 1, A5, c5, by omega, by go_num, rfl, rfl, by rw [sumsU_succ, List.map_append]; exact HO5.out, HR5.out, HB5.out, by omega⟩
      case measure => simp [RowKit.intOf]; omega
    · obtain rfl : k = 2 := by omega
      rename World => W0
      rw [show ((2 : Nat) : Int) = 2 from rfl]
      have hs1 := HO.out.sl
      obtain ⟨b, off, rfl, hbl, c0⟩ := hs1.i (l := sumsU 2) (k := 0) (n := 1) rfl
      obtain ⟨b', off', he, -, c1⟩ := hs1.i (l := sumsU 2) (k := 1) (n := 2) rfl
      cases he
      rw [Nat.add_zero] at c0
      have hmk := make_ints 2 [0, 0] rfl (by decide) rfl W0
      simp only [List.length_cons, List.length_nil, Nat.zero_add, Nat.reduceAdd] at hmk
      obtain ⟨w5, hw5⟩ : ∃ W, W0.alloc (.cells (cellsI [0, 0]) 3) = W := ⟨_, rfl⟩
      have hB5 : Blk w5 W0.heap.size 3 (outC 0) := by rw [← hw5]; exact Blk.new _ _ _
      have hb5 : Below W0.heap.size W0 w5 := by rw [← hw5]; exact (Below.refl _ _).alloc (Nat.le_refl _) _
      rw [hw5] at hmk
      have HB5 := hide hB5
      have H5 := hide hb5
      have H6 := hide (chain HB.out hb5)
      have hbsz := HB.out.size
      clear hb hw5 hB5 hb5
      have HS1 := hide hs1
      clear hs1
      go_wp2_with fail
      clear hmk
      go_loopw [15, 84] (fun d i ws => ∃ k : Nat, k ≤ 2 ∧ i = .int .i64 k ∧ d = .int .i64 (5000 * k) ∧ Blk ws W0.heap.size 3 (outC k) ∧ Below W0.heap.size W0 ws) (fun _ i _ => 2 - (RowKit.intOf i).toNat)
      case atStart => exact ⟨0, by omega, rfl, rfl, HB5.out, H5.out⟩
      case round =>
        obtain ⟨k, hk, rfl, rfl, hO, hbs⟩ := hrel
        have HO2 := hide hO
        have HBS := hide hbs
        have HBS2 := hide (chain HB.out hbs)
        by_cases hlt3 : k < 2
        · obtain ⟨b2, off2, he, -, c2⟩ := HS1.out.i (l := sumsU 2) (k := k) (n := (k : Int) + 1) (by rcases (show k = 0 ∨ k = 1 by omega) with rfl | rfl <;> rfl)
          cases he
          have y2 := kept hbs c2
          have hz0 : (HO2.out.cell k) = (HO2.out.cell k) := rfl
          have hd := down_any 10000 (k + 1) 2 (by decide) (by omega) (by decide) (by decide) (by omega)
          rw [show 10000 * (k + 1) / 2 = 5000 * (k + 1) by omega] at hd
          have hd2 : ∀ W, Calls Tryz.prog 136 #[.int .i64 10000, .int .i64 ((k : Int) + 1), .int .i64 2] W fun e w' => e = .returned (.tuple #[.int .i64 (5000 * (k : Int) + 5000), .int .i64 0]) ∧ Below W.heap.size W w' := fun W => by
            have h := hd W
            rw [show (((5000 * (k + 1) : Nat)) : Int) = 5000 * (k : Int) + 5000 by omega, show ((k + 1 : Nat) : Int) = (k : Int) + 1 by omega] at h
            exact h
          have HD := hide hd2
          have hk0 : (0 : Int) ≤ (k : Int) := by omega
          have hk1 : (k : Int) < 2 := by omega
          clear hd hd2 hO hbs hz0 c2
          go_wp2_with fail
          refine (HD.out _).mono ?_
          rintro e w6 ⟨rfl, h6⟩
          have hO6 := HO2.out.below h6 HO2.out.lt
          have hcel := hO6.cell k
          obtain ⟨u, hu⟩ : ∃ u, (outC k)[k]? = some u := by rcases (show k = 0 ∨ k = 1 by omega) with rfl | rfl <;> exact ⟨_, rfl⟩
          rw [hu] at hcel
          have v0 := hO6.frozen k
          have H7 := hide (chain HBS.out h6)
          have HO6 := hide hO6
          clear h6 hO6 hu
          go_wp2_with fail
          go_roundw
          case rel => exact ⟨k + 1, by omega, by go_num, by go_num, by
            have h9 := HO6.out.set_ k (.int .i64 5000)
            have e9 : (outC k).setIfInBounds k (.int .i64 5000) = outC (k + 1) := by rcases (show k = 0 ∨ k = 1 by omega) with rfl | rfl <;> rfl
            rw [e9] at h9
            rw [show (5000 * (k : Int) + 5000 - 5000 * (k : Int)) = 5000 by omega]
            exact h9, H7.out.setCell (p := ⟨W0.heap.size, k, none⟩) (Nat.le_refl _) _⟩
          case measure => simp [RowKit.intOf]; omega
        · obtain rfl : k = 2 := by omega
          clear hO hbs
          go_wp2_with fail
          go_ret2
          exact ⟨W0.heap.size, rfl, HO2.out, HB.out.size, chain HB.out HBS.out⟩
set_option maxRecDepth 100000 in
set_option maxHeartbeats 400000 in
theorem equal_any (w : World) :
    Calls Tryz.prog 47 #[.int .i64 10000, .int .i64 2] w fun e w' => ∃ g, e = .returned (.slice (some ⟨g, 0, none⟩) 2 2) ∧ Blk w' g 3 #[.int .i64 5000, .int .i64 5000] ∧ w.heap.size ≤ g ∧ Below w.heap.size w w' := by
  have hS : SV (w.alloc (.cells #[.int .i64 1] 3)) 1 (some ⟨w.heap.size, 0, none⟩) 1 1 ([1].map encI) := ⟨sl_ints (l := [1]) (Blk.new _ _ _) rfl, rfl, by omega, by simp [maxLen], fun h => by cases h⟩
  have HR := hide (repeat_any _ _ _ hS)
  clear hS
  go_enter Tryz.func47, Tryz.ntmps47
  go_wp2_with fail
  refine HR.out.mono ?_
  rintro e w2 ⟨rfl, hB2, h2⟩
  have H2 := hide (chain1 h2)
  have hsz : (w.alloc (.cells #[.int .i64 1] 3)).heap.size = w.heap.size + 1 := by simp
  rw [hsz] at hB2 ⊢
  have hS2 : SV w2 1 (some ⟨w.heap.size + 1, 0, none⟩) 2 2 ([1, 1].map encI) := ⟨sl_ints (l := [1, 1]) hB2 rfl, rfl, by omega, by simp [maxLen], fun h => by cases h⟩
  have HSP := hide (split_any _ _ _ hS2)
  clear h2 hB2 hS2 hsz
  go_wp2_with fail
  refine HSP.out.mono ?_
  rintro e w3 ⟨g, rfl, hB3, hg, h3⟩
  have H3 := hide (chain H2.out h3)
  have HB3 := hide hB3
  have HG := hide (Nat.le_trans H2.out.size hg)
  clear h3 hB3 hg
  go_wp2_with fail
  go_ret
  exact ⟨g, rfl, HB3.out, HG.out, H3.out⟩
end Go.Proofs.YtmfohnchnbgbaaaGreatDoor

/- Days of the calendar: plain numbers, and the smallest functions. -/
namespace Go.Proofs.YtmfohnchnbgbaaaGreatDoor
open Go.RowKit
set_option maxRecDepth 100000

def lensC (y : Int) : Array Value := #[.int .i64 31, .int .i64 (28 + leapI y), .int .i64 31, .int .i64 30, .int .i64 31, .int .i64 30, .int .i64 31, .int .i64 31, .int .i64 30, .int .i64 31, .int .i64 30, .int .i64 31]
set_option maxHeartbeats 1000000 in
theorem leap_any (y : Int) (w : World) : Calls Tryz.prog 138 #[.int .i64 y] w fun e w' => e = .returned (.bool (leapB y)) ∧ w = w' := by
  go_enter Tryz.func138, Tryz.ntmps138
  go_wp2
  all_goals
    go_ret
    exact ⟨ret_bool (by simp only [tmod_zero] at *; rw [Bool.eq_iff_iff]; simp [leapB, tmod_zero]; try omega), rfl⟩

theorem leapI_t {y : Int} (h : leapB y = true) : leapI y = 1 := by simp [leapI, h]
theorem leapI_f {y : Int} (h : leapB y = false) : leapI y = 0 := by simp [leapI, h]

set_option maxHeartbeats 1000000 in
theorem lengths_any (y : Int) (w : World) : Calls Tryz.prog 90 #[.int .i64 y] w fun e w' => e = .returned (.agg (lensC y)) ∧ Below w.heap.size w w' := by
  cases hb : leapB y with
  | true =>
    have HL := hide (leapI_t hb)
    go_enter Tryz.func90, Tryz.ntmps90
    go_wp2_with (go_at_call 138; refine (leap_any _ _).mono ?_; rintro e w' ⟨rfl, rfl⟩)
    have e : lensC y = #[.int .i64 31, .int .i64 29, .int .i64 31, .int .i64 30, .int .i64 31, .int .i64 30, .int .i64 31, .int .i64 31, .int .i64 30, .int .i64 31, .int .i64 30, .int .i64 31] := by rw [lensC, HL.out]; rfl
    rw [e]
    exact ret_row (p := 2) (ty := 191) (g := w.heap.size) (t := 191) rfl rfl rfl ((Blk.new w _ _).alloc _) Tryz.underlying191 rfl (by kernel_rfl) ⟨rfl, ((Below.refl _ _).alloc (Nat.le_refl _) _).alloc (by simp) _⟩
  | false =>
    have HL := hide (leapI_f hb)
    go_enter Tryz.func90, Tryz.ntmps90
    go_wp2_with (go_at_call 138; refine (leap_any _ _).mono ?_; rintro e w' ⟨rfl, rfl⟩)
    have e : lensC y = #[.int .i64 31, .int .i64 28, .int .i64 31, .int .i64 30, .int .i64 31, .int .i64 30, .int .i64 31, .int .i64 31, .int .i64 30, .int .i64 31, .int .i64 30, .int .i64 31] := by rw [lensC, HL.out]; rfl
    rw [e]
    exact ret_row (p := 2) (ty := 191) (g := w.heap.size) (t := 191) rfl rfl rfl ((Blk.new w _ _).alloc _) Tryz.underlying191 rfl (by kernel_rfl) ⟨rfl, ((Below.refl _ _).alloc (Nat.le_refl _) _).alloc (by simp) _⟩

theorem ixl0 (y : Int) (w : World) : (Instr.index 191 (.agg (lensC y)) (.int .i64 0)).run Tryz.prog w = .ok (.int .i64 (31)) w := by kernel_rfl
theorem ixl1 (y : Int) (w : World) : (Instr.index 191 (.agg (lensC y)) (.int .i64 1)).run Tryz.prog w = .ok (.int .i64 (28 + leapI y)) w := by kernel_rfl
theorem ixl2 (y : Int) (w : World) : (Instr.index 191 (.agg (lensC y)) (.int .i64 2)).run Tryz.prog w = .ok (.int .i64 (31)) w := by kernel_rfl
theorem ixl3 (y : Int) (w : World) : (Instr.index 191 (.agg (lensC y)) (.int .i64 3)).run Tryz.prog w = .ok (.int .i64 (30)) w := by kernel_rfl
theorem ixl4 (y : Int) (w : World) : (Instr.index 191 (.agg (lensC y)) (.int .i64 4)).run Tryz.prog w = .ok (.int .i64 (31)) w := by kernel_rfl
theorem ixl5 (y : Int) (w : World) : (Instr.index 191 (.agg (lensC y)) (.int .i64 5)).run Tryz.prog w = .ok (.int .i64 (30)) w := by kernel_rfl
theorem ixl6 (y : Int) (w : World) : (Instr.index 191 (.agg (lensC y)) (.int .i64 6)).run Tryz.prog w = .ok (.int .i64 (31)) w := by kernel_rfl
theorem ixl7 (y : Int) (w : World) : (Instr.index 191 (.agg (lensC y)) (.int .i64 7)).run Tryz.prog w = .ok (.int .i64 (31)) w := by kernel_rfl
theorem ixl8 (y : Int) (w : World) : (Instr.index 191 (.agg (lensC y)) (.int .i64 8)).run Tryz.prog w = .ok (.int .i64 (30)) w := by kernel_rfl
theorem ixl9 (y : Int) (w : World) : (Instr.index 191 (.agg (lensC y)) (.int .i64 9)).run Tryz.prog w = .ok (.int .i64 (31)) w := by kernel_rfl
theorem ixl10 (y : Int) (w : World) : (Instr.index 191 (.agg (lensC y)) (.int .i64 10)).run Tryz.prog w = .ok (.int .i64 (30)) w := by kernel_rfl
theorem ixl11 (y : Int) (w : World) : (Instr.index 191 (.agg (lensC y)) (.int .i64 11)).run Tryz.prog w = .ok (.int .i64 (31)) w := by kernel_rfl
theorem index_lens (y m : Int) (h1 : 1 ≤ m) (h2 : m ≤ 12) (w : World) : (Instr.index 191 (.agg (lensC y)) (.int .i64 (m - 1))).run Tryz.prog w = .ok (.int .i64 (lenM y m)) w := by
  have hm : m = 1 ∨ m = 2 ∨ m = 3 ∨ m = 4 ∨ m = 5 ∨ m = 6 ∨ m = 7 ∨ m = 8 ∨ m = 9 ∨ m = 10 ∨ m = 11 ∨ m = 12 := by omega
  rcases hm with rfl | rfl | rfl | rfl | rfl | rfl | rfl | rfl | rfl | rfl | rfl | rfl
  · exact ixl0 y w
  · exact ixl1 y w
  · exact ixl2 y w
  · exact ixl3 y w
  · exact ixl4 y w
  · exact ixl5 y w
  · exact ixl6 y w
  · exact ixl7 y w
  · exact ixl8 y w
  · exact ixl9 y w
  · exact ixl10 y w
  · exact ixl11 y w

end Go.Proofs.YtmfohnchnbgbaaaGreatDoor

/- Days and their numbers: the program's functions. -/
namespace Go.Proofs.YtmfohnchnbgbaaaGreatDoor
open Go.RowKit
set_option maxRecDepth 100000

set_option maxHeartbeats 1000000 in
theorem right_any_Day (y m d : Int) (w : World) : Calls Tryz.prog 139 #[.agg #[.int .i64 y, .int .i64 m, .int .i64 d]] w fun e w' => e = .returned (.bool (rightB y m d)) ∧ Below w.heap.size w w' := by
  by_cases h : 1601 ≤ y ∧ y ≤ 2400 ∧ 1 ≤ m ∧ m ≤ 12
  · obtain ⟨h1, h2, h3, h4⟩ := h
    have hix := index_lens y m h3 h4
    have hlb := lenM_bd y m
    by_cases hd : 1 ≤ d
    · go_enter Tryz.func139, Tryz.ntmps139
      go_wp2_with fail
      have hwr : IntKind.i64.wrap (m - 1) = m - 1 := IntWalk.i64_in _ (by omega)
      go_region_held3 (fun w' => w'.cell? ⟨w.heap.size, 0, none⟩ = some (.int .i64 y) ∧ w'.cell? ⟨w.heap.size, 1, none⟩ = some (.int .i64 m) ∧ w'.cell? ⟨w.heap.size, 2, none⟩ = some (.int .i64 d)) (go_keep)
        (first | (go_at_call 90; refine (lengths_any _ _).mono ?_; rintro e w1 ⟨rfl, hb1⟩; have q0 : w1.cell? ⟨w.heap.size, 0, none⟩ = some (.int .i64 y) := kept hb1 (by simp); have q1 : w1.cell? ⟨w.heap.size, 1, none⟩ = some (.int .i64 m) := kept hb1 (by simp); have q2 : w1.cell? ⟨w.heap.size, 2, none⟩ = some (.int .i64 d) := kept hb1 (by simp)))
      clear hwr
      go_wp2_with fail
      go_ret
      exact ⟨ret_bool (by rw [Bool.eq_iff_iff]; simp [rightB]; omega), chain ((Below.refl _ _).alloc (Nat.le_refl _) _).drew hb1⟩
    · have hd' : decide (1 ≤ d) = false := by simp; omega
      go_enter Tryz.func139, Tryz.ntmps139
      go_wp2_with fail
      go_quiet (fail)
      go_wp2_with fail
      go_ret
      exact ⟨ret_bool (by rw [Bool.eq_iff_iff]; simp [rightB]; omega), bel_drewN ((Below.refl _ _).alloc (Nat.le_refl _) _) _⟩
  · go_enter Tryz.func139, Tryz.ntmps139
    have h' : y < 1601 ∨ (1601 ≤ y ∧ 2400 < y) ∨ (1601 ≤ y ∧ y ≤ 2400 ∧ m < 1) ∨ (1601 ≤ y ∧ y ≤ 2400 ∧ 1 ≤ m ∧ 12 < m) := by omega
    clear h
    rcases h' with h | ⟨h, h'⟩ | ⟨h, h', h''⟩ | ⟨h, h', h'', h'''⟩
    all_goals
      go_wp2_with fail
      go_ret
      exact ⟨ret_bool (by rw [Bool.eq_iff_iff]; simp [rightB]; omega), (Below.refl _ _).alloc (Nat.le_refl _) _⟩

theorem lengths_lit (y : Int) (w : World) : Calls Tryz.prog 90 #[.int .i64 y] w fun e w' => e = .returned (.agg #[.int .i64 31, .int .i64 (28 + leapI y), .int .i64 31, .int .i64 30, .int .i64 31, .int .i64 30, .int .i64 31, .int .i64 31, .int .i64 30, .int .i64 31, .int .i64 30, .int .i64 31]) ∧ Below w.heap.size w w' := lengths_any y w
theorem one12 (y : Int) : ∀ v : Value, v ∈ ([.int .i64 31, .int .i64 (28 + leapI y), .int .i64 31, .int .i64 30, .int .i64 31, .int .i64 30, .int .i64 31, .int .i64 31, .int .i64 30, .int .i64 31, .int .i64 30, .int .i64 31] : List Value) → v.oneCell' = true := by
  intro v hv
  simp at hv
  rcases hv with rfl | rfl | rfl | rfl | rfl | rfl | rfl | rfl | rfl | rfl | rfl | rfl <;> rfl
theorem inf12 (y : Int) : Option.map (fun x => x.size) (Tryz.prog.info? 191) = some ([.int .i64 31, .int .i64 (28 + leapI y), .int .i64 31, .int .i64 30, .int .i64 31, .int .i64 30, .int .i64 31, .int .i64 31, .int .i64 30, .int .i64 31, .int .i64 30, .int .i64 31] : List Value).length := by kernel_rfl
theorem setCells_box {W : World} {b b' o i : Nat} {vs : List Value} (h : b' ≠ b) : (W.setCells b o vs).cell? ⟨b', i, none⟩ = W.cell? ⟨b', i, none⟩ := World.cell?_setCells_out b vs o W _ (fun e => absurd e h)
theorem there12 (W : World) (t : TypeId) (y : Int) : (W.alloc (.cells #[.int .i64 0, .int .i64 0, .int .i64 0, .int .i64 0, .int .i64 0, .int .i64 0, .int .i64 0, .int .i64 0, .int .i64 0, .int .i64 0, .int .i64 0, .int .i64 0] t)).there W.heap.size 0 ([.int .i64 31, .int .i64 (28 + leapI y), .int .i64 31, .int .i64 30, .int .i64 31, .int .i64 30, .int .i64 31, .int .i64 31, .int .i64 30, .int .i64 31, .int .i64 30, .int .i64 31] : List Value).length := by
  intro j hj
  simp at hj
  have hb : Blk (W.alloc (.cells #[.int .i64 0, .int .i64 0, .int .i64 0, .int .i64 0, .int .i64 0, .int .i64 0, .int .i64 0, .int .i64 0, .int .i64 0, .int .i64 0, .int .i64 0, .int .i64 0] t)) W.heap.size t #[.int .i64 0, .int .i64 0, .int .i64 0, .int .i64 0, .int .i64 0, .int .i64 0, .int .i64 0, .int .i64 0, .int .i64 0, .int .i64 0, .int .i64 0, .int .i64 0] := Blk.new W t _
  rw [Nat.zero_add, hb.cell, hb.frozen]
  refine ⟨?_, rfl⟩
  simp; omega
theorem there12b {W w1 : World} {t : TypeId} {y : Int} (h : Below (W.alloc (.cells #[.int .i64 0, .int .i64 0, .int .i64 0, .int .i64 0, .int .i64 0, .int .i64 0, .int .i64 0, .int .i64 0, .int .i64 0, .int .i64 0, .int .i64 0, .int .i64 0] t)).heap.size (W.alloc (.cells #[.int .i64 0, .int .i64 0, .int .i64 0, .int .i64 0, .int .i64 0, .int .i64 0, .int .i64 0, .int .i64 0, .int .i64 0, .int .i64 0, .int .i64 0, .int .i64 0] t)) w1) : w1.there W.heap.size 0 ([.int .i64 31, .int .i64 (28 + leapI y), .int .i64 31, .int .i64 30, .int .i64 31, .int .i64 30, .int .i64 31, .int .i64 31, .int .i64 30, .int .i64 31, .int .i64 30, .int .i64 31] : List Value).length := by
  intro j hj
  have h0 := there12 W t y j hj
  rw [h.cell (p := ⟨W.heap.size, 0 + j, none⟩) (by simp), h.frozen (p := ⟨W.heap.size, 0 + j, none⟩) (by simp)]
  exact h0
theorem there12c {W w1 : World} {t : TypeId} {y : Int} (h : Below (W.alloc (.cells #[.int .i64 0, .int .i64 0, .int .i64 0, .int .i64 0, .int .i64 0, .int .i64 0, .int .i64 0, .int .i64 0, .int .i64 0, .int .i64 0, .int .i64 0, .int .i64 0] t)).drew.heap.size (W.alloc (.cells #[.int .i64 0, .int .i64 0, .int .i64 0, .int .i64 0, .int .i64 0, .int .i64 0, .int .i64 0, .int .i64 0, .int .i64 0, .int .i64 0, .int .i64 0, .int .i64 0] t)).drew w1) : w1.there W.heap.size 0 ([.int .i64 31, .int .i64 (28 + leapI y), .int .i64 31, .int .i64 30, .int .i64 31, .int .i64 30, .int .i64 31, .int .i64 31, .int .i64 30, .int .i64 31, .int .i64 30, .int .i64 31] : List Value).length := there12b (bel_undrew h)
theorem lens_at (y : Int) (k : Nat) (h : k < 12) : (lensC y)[k]? = some (.int .i64 (lenM y (k + 1))) := by
  have hk : k = 0 ∨ k = 1 ∨ k = 2 ∨ k = 3 ∨ k = 4 ∨ k = 5 ∨ k = 6 ∨ k = 7 ∨ k = 8 ∨ k = 9 ∨ k = 10 ∨ k = 11 := by omega
  rcases hk with rfl | rfl | rfl | rfl | rfl | rfl | rfl | rfl | rfl | rfl | rfl | rfl <;> simp [lensC, lenM]
def NumRel (w : World) (y m d : Int) (t4 t5 : Value) (wx : World) : Prop :=
  ∃ G, t4 = .pointer (some ⟨G, 0, none⟩) ∧ t5 = .int .i64 (aheadI y + d) ∧ Blk wx G 191 (lensC y) ∧ wx.cell? ⟨w.heap.size, 1, none⟩ = some (.int .i64 m) ∧ Below w.heap.size w wx

theorem bel_setCells {B g : Nat} {a : World} (hg : B ≤ g) : ∀ (vs : List Value) (o : Nat) (W : World), Below B a W → Below B a (W.setCells g o vs)
  | [], _, _, h => h
  | v :: vs, o, _, h => bel_setCells hg vs (o + 1) _ (h.setCell (p := ⟨g, o, none⟩) hg v)
theorem blk_setCells {g : Nat} {t : TypeId} : ∀ (vs : List Value) (o : Nat) (W : World) (cs : Array Value), Blk W g t cs → ∃ cs' : Array Value, Blk (W.setCells g o vs) g t cs' ∧ cs'.toList = cs.toList.take o ++ (vs.take (cs.size - o)) ++ cs.toList.drop (o + vs.length)
  | [], o, W, cs, h => ⟨cs, h, by simp⟩
  | v :: vs, o, W, cs, h => by
    obtain ⟨cs', h1, h2⟩ := blk_setCells vs (o + 1) _ _ (h.set_ o v)
    refine ⟨cs', h1, ?_⟩
    rw [h2]
    simp only [Array.toList_setIfInBounds, Array.size_setIfInBounds]
    by_cases ho : o < cs.size
    · rw [List.take_set, List.drop_set_of_lt (by omega), List.take_succ_eq_append_getElem (by simpa using ho), List.set_append_right _ _ (by simp; omega)]
      have e : cs.size - o = (cs.size - (o + 1)) + 1 := by omega
      rw [e, List.take_succ_cons]
      simp [Nat.min_eq_left (Nat.le_of_lt ho), Nat.add_comm, Nat.add_left_comm]
    · rw [List.set_eq_of_length_le (by simp; omega)]
      have e : cs.size - o = 0 := by omega
      have e' : cs.size - (o + 1) = 0 := by omega
      rw [e, e']
      simp only [List.take_zero, List.append_nil, List.length_cons]
      rw [List.take_of_length_le (by simp; omega), List.take_of_length_le (by simp; omega), List.drop_eq_nil_of_le (by simp; omega), List.drop_eq_nil_of_le (by simp; omega)]
theorem blk_all {g : Nat} {t : TypeId} {W : World} {cs : Array Value} {vs : List Value} (h : Blk W g t cs) (hl : vs.length = cs.size) : Blk (W.setCells g 0 vs) g t vs.toArray := by
  obtain ⟨cs', h1, h2⟩ := blk_setCells vs 0 W cs h
  have e : cs' = vs.toArray := by
    apply Array.toList_inj.1
    rw [h2]
    simp only [List.take_zero, List.nil_append, Nat.sub_zero, Nat.zero_add]
    rw [List.take_of_length_le (by omega), List.drop_eq_nil_of_le (by simp; omega)]
    simp
  rw [← e]
  exact h1
theorem numRelA {w w1 : World} {y m d : Int} (hb : Below w.heap.size w w1) (hc : w1.cell? ⟨w.heap.size, 1, none⟩ = some (.int .i64 m)) (hz : w.heap.size < w1.heap.size) :
    NumRel w y m d (.pointer (some ⟨w1.heap.size, 0, none⟩)) (.int .i64 (aheadI y + d)) ((w1.alloc (.cells #[.int .i64 0, .int .i64 0, .int .i64 0, .int .i64 0, .int .i64 0, .int .i64 0, .int .i64 0, .int .i64 0, .int .i64 0, .int .i64 0, .int .i64 0, .int .i64 0] 191)).setCells w1.heap.size 0 [.int .i64 31, .int .i64 (28 + leapI y), .int .i64 31, .int .i64 30, .int .i64 31, .int .i64 30, .int .i64 31, .int .i64 31, .int .i64 30, .int .i64 31, .int .i64 30, .int .i64 31]) :=
  ⟨_, rfl, rfl, blk_all (Blk.new w1 _ _) rfl, by rw [setCells_box (by omega), World.cell?_alloc_past _ _ _ hz, hc], bel_setCells (by omega) _ _ _ (hb.alloc hb.size _)⟩
theorem numRelB {w w1 : World} {y m d : Int} {g : Nat} (hg : w.heap.size < g) (hz : Blk w1 g 191 #[.int .i64 0, .int .i64 0, .int .i64 0, .int .i64 0, .int .i64 0, .int .i64 0, .int .i64 0, .int .i64 0, .int .i64 0, .int .i64 0, .int .i64 0, .int .i64 0]) (hb : Below w.heap.size w w1) (hc : w1.cell? ⟨w.heap.size, 1, none⟩ = some (.int .i64 m)) :
    NumRel w y m d (.pointer (some ⟨g, 0, none⟩)) (.int .i64 (aheadI y + d)) (w1.setCells g 0 [.int .i64 31, .int .i64 (28 + leapI y), .int .i64 31, .int .i64 30, .int .i64 31, .int .i64 30, .int .i64 31, .int .i64 31, .int .i64 30, .int .i64 31, .int .i64 30, .int .i64 31]) :=
  ⟨_, rfl, rfl, blk_all hz rfl, by rw [setCells_box (by omega), hc], bel_setCells (by omega) _ _ _ hb⟩

set_option maxHeartbeats 4000000 in
theorem number_yes (y m d : Int) (w : World) (hr : rightB y m d = true) : Calls Tryz.prog 91 #[.agg #[.int .i64 y, .int .i64 m, .int .i64 d]] w fun e w' => e = .returned (.tuple #[.int .i64 (numI y m d), .int .i64 0]) ∧ Below w.heap.size w w' := by
  have hr' := hr
  simp only [rightB, decide_eq_true_eq] at hr'
  obtain ⟨h1, h2, h3, h4, h5, h6⟩ := hr'
  have hlb := lenM_bd y m
  have hab := ahead_bd y h1 (by omega)
  have HR := hide hr
  clear hr
  go_enter Tryz.func91, Tryz.ntmps91
  go_wp2_with fail
  refine (right_any_Day _ _ _ _).mono ?_
  rw [HR.out]
  rintro e w0 ⟨rfl, hb0⟩
  have k0 : w0.cell? ⟨w.heap.size, 0, none⟩ = some (.int .i64 y) := kept hb0 (by simp)
  have k1 : w0.cell? ⟨w.heap.size, 1, none⟩ = some (.int .i64 m) := kept hb0 (by simp)
  have k2 : w0.cell? ⟨w.heap.size, 2, none⟩ = some (.int .i64 d) := kept hb0 (by simp)
  have hz0 : w.heap.size < w0.heap.size := block_lt_of_cell k0
  have b0 := chain1 hb0
  clear hb0
  go_wp2_with fail
  go_cut [4, 5] (fun t4 t5 wx => NumRel w y m d t4 t5 wx)
  case first =>
    have hwr : IntKind.i64.wrap (aheadI y + d) = aheadI y + d := IntWalk.i64_in _ (by omega)
    have hone := one12 y
    have hinf := inf12 y
    go_region_held3 (fun w' => w'.cell? ⟨w.heap.size, 0, none⟩ = some (.int .i64 y) ∧ w'.cell? ⟨w.heap.size, 1, none⟩ = some (.int .i64 m) ∧ w'.cell? ⟨w.heap.size, 2, none⟩ = some (.int .i64 d))
      (first | go_keep | (refine ⟨?_, ?_, ?_⟩ <;> (rw [setCells_box (by first | omega | (simp; omega))]; first | assumption | (simp [*]; done))))
      (first
        | (go_at_call 90
           refine (lengths_lit _ _).mono ?_
           rintro e w1 ⟨rfl, hb1⟩
           have q0 : w1.cell? ⟨w.heap.size, 0, none⟩ = some (.int .i64 y) := kept hb1 (by simp [*])
           have q1 : w1.cell? ⟨w.heap.size, 1, none⟩ = some (.int .i64 m) := kept hb1 (by simp [*])
           have q2 : w1.cell? ⟨w.heap.size, 2, none⟩ = some (.int .i64 d) := kept hb1 (by simp [*])
           have hz1 : w.heap.size < w1.heap.size := block_lt_of_cell q0
           have ht1 := there12 w1 191 y
           try have gz := there12c (y := y) hb1)
        | (go_at_call 23; refine (ahead_any _ (by omega) (by omega) _).mono ?_; rintro e w' ⟨rfl, rfl⟩))
    all_goals
      clear hwr hone hinf
      go_wp2_with fail
      go_meet
      first
        | with_reducible exact numRelA (chain b0.drew hb1) q1 hz1
        | with_reducible exact numRelB hz0 ((Blk.new w0 _ _).drew.below hb1 (by simp)) (chain (b0.alloc b0.size _).drew hb1) q1
  case rest =>
    obtain ⟨G, rfl, rfl, hG, hc1, hb⟩ := hcut
    go_wp2_with fail
    go_loop [5, 22] (fun t i => ∃ k : Nat, (k : Int) ≤ m - 1 ∧ i = .int .i64 k ∧ t = .int .i64 (aheadI y + d + cumM y (k + 1))) (fun _ i => (m - intOf i).toNat)
    case atStart => exact ⟨0, by omega, rfl, by simp [cumM]⟩
    case round =>
      obtain ⟨k, hk, rfl, rfl⟩ := hrel
      have hcb := cum_bd y (k + 1) (by omega)
      by_cases hlt : (k : Int) < m - 1
      · have hcs := hide (cumM_succ y (k + 1) (by omega) (by omega))
        have hcell : (lensC y)[k]? = some (.int .i64 (lenM y (k + 1))) := lens_at y k (by omega)
        have hce := hG.cell k
        rw [hcell] at hce
        have hlk := lenM_bd y (k + 1)
        clear hcell
        go_wp2_with fail
        go_round
        case rel => exact ⟨k + 1, by omega, by go_num, by have := hcs.out; go_num⟩
        case measure => simp [intOf]; omega
      · obtain rfl : m = k + 1 := by omega
        go_wp2_with fail
        go_ret2
        exact ⟨by rw [numI, show aheadI y + cumM y (↑k + 1) + d = aheadI y + d + cumM y (↑k + 1) by omega]; rfl, hb⟩

end Go.Proofs.YtmfohnchnbgbaaaGreatDoor
