/- Part 46 of the proof. -/
import Derived.Test.YtmfohnchnbgbaaaGreatRows
import Derived.ProofKit
import Derived.BigQuiet
import Derived.Deep.QuietTactic
import Derived.Deep.RegionWith
import Derived.Deep.DeepCutAuto
import Derived.Test.YtmfohnchnbgbaaaGreatKnM01
import Derived.Test.YtmfohnchnbgbaaaGreatKnM13
import Derived.Test.YtmfohnchnbgbaaaGreatKnM45
/- An amount dealt out in two equal parts. -/
namespace Go.Proofs.YtmfohnchnbgbaaaGreat
open Go.RowKit Go.Lib

theorem make_cap2 (W : World) : (Instr.makeSlice 39 (.int .i64 0) (.int .i64 2)).run Tryz.prog W = .ok (.slice (some ⟨W.heap.size, 0, none⟩) 0 2) (W.alloc (.cells #[.int .i64 0, .int .i64 0] 3)) := by
  obtain ⟨i, h1, h2, h3, h4⟩ := info_parts (P := Tryz.prog) (e := 3) (z := .int .i64 0) (size := 1) (bytes := 8) (by kernel_rfl)
  have := run_makeSlice (P := Tryz.prog) W 39 3 i (.int .i64 0) Tryz.underlying39 h1 h2 .i64 .i64 0 2 (by omega) (by omega) (by rw [h3]; decide) (by omega) (by omega)
  have e : madeCells #[Value.int .i64 0] 2 = #[.int .i64 0, .int .i64 0] := by
    apply Array.ext'
    rw [toList_madeCells_one]
    rfl
  rw [this, h3]
  show Result.ok _ (W.alloc (.cells (madeCells #[Value.int .i64 0] 2) _)) = _
  rw [e]
  rfl
/-- A block of numbers reads as rows of one. -/
theorem sl_ints {W : World} {g : Nat} {e : TypeId} {l : List Int} {cs : Array Value} (h : Blk W g e cs) (hc : cs.toList = l.map (Value.int .i64)) : Sl W W.heap.size 1 (some ⟨g, 0, none⟩) (l.map encI) := by
  intro i row hr
  rw [List.getElem?_map] at hr
  obtain ⟨x, hx, rfl⟩ := Option.map_eq_some_iff.1 hr
  refine ⟨g, 0, rfl, h.lt, fun j u hu => ?_⟩
  rcases j with _ | j
  · simp [encI] at hu
    subst hu
    rw [h.cell, ← Array.getElem?_toList, hc]
    simp [hx]
  · simp [encI] at hu
/-- The first so many sums. -/
def sumsU (k : Nat) : List Int := (List.range k).map fun j => ((j + 1 : Nat) : Int)
theorem sumsU_succ (k : Nat) : sumsU (k + 1) = sumsU k ++ [((k + 1 : Nat) : Int)] := by simp [sumsU, List.range_succ]
theorem sumsU_len (k : Nat) : (sumsU k).length = k := by simp [sumsU]
def outC : Nat → Array Value
  | 0 => #[.int .i64 0, .int .i64 0]
  | 1 => #[.int .i64 5000, .int .i64 0]
  | _ => #[.int .i64 5000, .int .i64 5000]

set_option maxRecDepth 100000 in
set_option maxHeartbeats 4000000 in
theorem split_any (A : Option Addr) (cap : Nat) (w : World) (hs : SV w 1 A 2 cap ([1, 1].map encI)) :
    Calls Tryz.prog 134 #[.int .i64 10000, .slice A 2 cap] w fun e w' => ∃ g, e = .returned (.tuple #[.slice (some ⟨g, 0, none⟩) 2 2, .int .i64 0]) ∧ Blk w' g 3 #[.int .i64 5000, .int .i64 5000] ∧ w.heap.size ≤ g ∧ Below w.heap.size w w' := by
  have HS := hide hs
  clear hs
  go_enter Tryz.func134, Tryz.ntmps134
  go_wp2_with fail
  refine (runner_any _).mono ?_
  rintro e w1 ⟨rfl, hR, h1⟩
  have hmk := make_cap2 w1
  obtain ⟨w2, hw2⟩ : ∃ W, w1.alloc (.cells #[.int .i64 0, .int .i64 0] 3) = W := ⟨_, rfl⟩
  have ho2 : OwnS w2 w1.heap.size 3 1 (some ⟨w1.heap.size, 0, none⟩) 0 2 [] := by
    rw [← hw2]
    exact ⟨World.ownsRow_made (base := w1.heap.size) (size := 1) w1 #[.int .i64 0, .int .i64 0] 2 (Nat.le_refl _) (by simp [maxLen]) rfl, rfl, RowsOk.nil_⟩
  have h2 : Below w.heap.size w w2 := by rw [← hw2]; exact h1.alloc h1.size _
  have hR2 : Blk w2 w.heap.size 3 #[.int .i64 0] := by rw [← hw2]; exact hR.alloc _
  have hlt := hR.lt
  have hsz2 : w1.heap.size ≤ w2.heap.size := by rw [← hw2]; simp
  have H2 := hide h2
  have HR2 := hide hR2
  have HO2 := hide ho2
  rw [hw2] at hmk
  clear h1 hR h2 hR2 ho2 hw2
  go_wp2_with fail
  clear hmk
  go_loopw [7, 8, 35] (fun ov s i wr => ∃ (k : Nat) (A' : Option Addr) (c' : Nat), k ≤ 2 ∧ i = .int .i64 k ∧ ov = .bool false ∧ s = .slice A' k c' ∧ OwnS wr w1.heap.size 3 1 A' k c' ((sumsU k).map encI) ∧ Blk wr w.heap.size 3 #[.int .i64 k] ∧ Below w.heap.size w wr ∧ w1.heap.size ≤ wr.heap.size) (fun _ _ i _ => 2 - (RowKit.intOf i).toNat)
  case atStart => exact ⟨0, _, _, by omega, rfl, rfl, rfl, HO2.out, HR2.out, H2.out, hsz2⟩
  case round =>
    obtain ⟨k, A', c', hk, rfl, rfl, rfl, ho, hR, hb, hsz⟩ := hrel
    have HO := hide ho
    have HR := hide hR
    have HB := hide hb
    clear ho hR
    by_cases hlt2 : k < 2
    · obtain ⟨b, off, rfl, hbl, c0⟩ := (HS.out.below hb).sl.i (l := [1, 1]) (k := k) (n := 1) (by rcases (show k = 0 ∨ k = 1 by omega) with rfl | rfl <;> rfl)
      have hk0 : (0 : Int) ≤ (k : Int) := by omega
      have hk1 : (k : Int) < 2 := by omega
      clear hb
      go_wp2_with fail
      refine (run1_any w.heap.size k 1 _ HR.out (by omega) (by omega) (by omega)).mono ?_
      rintro e w4 ⟨rfl, rfl⟩
      have HO3 := hide (HO.out.far (p := ⟨w.heap.size, 0, none⟩) (fun q hq => by have := (HO.out.lt q hq).1; simp; omega) (.int .i64 ((k : Int) + 1)))
      have hR3 := HR.out.set_ 0 (.int .i64 ((k : Int) + 1))
      simp at hR3
      have HR3 := hide hR3
      have HB3 := hide (HB.out.setCell (p := ⟨w.heap.size, 0, none⟩) (Nat.le_refl _) (.int .i64 ((k : Int) + 1)))
      obtain ⟨W4, hW4⟩ : ∃ W, wr.setCell ⟨w.heap.size, 0, none⟩ (.int .i64 ((k : Int) + 1)) = W := ⟨_, rfl⟩
      have hsz4 : w1.heap.size ≤ W4.heap.size := by rw [← hW4]; simpa using hsz
      rw [hW4] at HO3 HR3 HB3 ⊢
      have hw4 : W4.heap.size = W4.heap.size := rfl
      clear hR3 hW4 c0 hbl
      go_wp2_with (at_builtin
                   refine wpList_app rfl (.tmp 53) (.tmp 55) 39 rfl elInt (B := w1.heap.size) (A2 := some ⟨_, 0, none⟩) (news := [((k : Int) + 1)].map encI) rfl (HO3.out.alloc _) rfl rfl ?_ (okI [(k : Int) + 1]) ?_ ?_ ?_ ?_
                   · exact sl_of_blk (cs := #[.int .i64 ((k : Int) + 1)]) (Blk.new _ _ _)
                   · simp only [maxLen]; omega
                   · omega
                   · simp; omega
                   intro A5 c5 w5 ho5 hg5 ha5
                   have HO5 := hide ho5
                   have hbg := (((Below.refl W4.heap.size W4).alloc (Nat.le_refl _) (.cells #[.int .i64 ((k : Int) + 1)] 3)))
                   have HR5 := hide (Blk.grown (HR3.out.alloc _) hg5 (fun he => by have := (HO3.out.lt _ he.symm).1; omega))
                   have HB5 := hide ((HB3.out.alloc HB3.out.size _).grown hg5 (by have := HB3.out.size; simp; omega) (fun q hq => by have := (HO3.out.lt q hq).1; omega))
                   have hsz5 := hg5.size
                   simp at hsz5
                   clear ho5 hg5 ha5 hbg)
      go_roundw
      case rel => exact ⟨k + 1, A5, c5, by omega, by go_num, rfl, rfl, by rw [sumsU_succ, List.map_append]; exact HO5.out, HR5.out, HB5.out, by omega⟩
      case measure => simp [RowKit.intOf]; omega
    · obtain rfl : k = 2 := by omega
      rename World => W0
      rw [show ((2 : Nat) : Int) = 2 from rfl]
      have hs1 := HO.out.sl
      obtain ⟨b, off, rfl, hbl, c0⟩ := hs1.i (l := sumsU 2) (k := 0) (n := 1) rfl
      obtain ⟨b', off', he, -, c1⟩ := hs1.i (l := sumsU 2) (k := 1) (n := 2) rfl
      cases he
      rw [Nat.add_zero] at c0
      have hmk := make_ints 2 [0, 0] rfl (by decide) rfl W0
      simp only [List.length_cons, List.length_nil, Nat.zero_add, Nat.reduceAdd] at hmk
      obtain ⟨w5, hw5⟩ : ∃ W, W0.alloc (.cells (cellsI [0, 0]) 3) = W := ⟨_, rfl⟩
      have hB5 : Blk w5 W0.heap.size 3 (outC 0) := by rw [← hw5]; exact Blk.new _ _ _
      have hb5 : Below W0.heap.size W0 w5 := by rw [← hw5]; exact (Below.refl _ _).alloc (Nat.le_refl _) _
      rw [hw5] at hmk
      have HB5 := hide hB5
      have H5 := hide hb5
      have H6 := hide (chain HB.out hb5)
      have hbsz := HB.out.size
      clear hb hw5 hB5 hb5
      have HS1 := hide hs1
      clear hs1
      go_wp2_with fail
      clear hmk
      go_loopw [15, 84] (fun d i ws => ∃ k : Nat, k ≤ 2 ∧ i = .int .i64 k ∧ d = .int .i64 (5000 * k) ∧ Blk ws W0.heap.size 3 (outC k) ∧ Below W0.heap.size W0 ws) (fun _ i _ => 2 - (RowKit.intOf i).toNat)
      case atStart => exact ⟨0, by omega, rfl, rfl, HB5.out, H5.out⟩
      case round =>
        obtain ⟨k, hk, rfl, rfl, hO, hbs⟩ := hrel
        have HO2 := hide hO
        have HBS := hide hbs
        have HBS2 := hide (chain HB.out hbs)
        by_cases hlt3 : k < 2
        · obtain ⟨b2, off2, he, -, c2⟩ := HS1.out.i (l := sumsU 2) (k := k) (n := (k : Int) + 1) (by rcases (show k = 0 ∨ k = 1 by omega) with rfl | rfl <;> rfl)
          cases he
          have y2 := kept hbs c2
          have hz0 : (HO2.out.cell k) = (HO2.out.cell k) := rfl
          have hd := down_any 10000 (k + 1) 2 (by decide) (by omega) (by decide) (by decide) (by omega)
          rw [show 10000 * (k + 1) / 2 = 5000 * (k + 1) by omega] at hd
          have hd2 : ∀ W, Calls Tryz.prog 180 #[.int .i64 10000, .int .i64 ((k : Int) + 1), .int .i64 2] W fun e w' => e = .returned (.tuple #[.int .i64 (5000 * (k : Int) + 5000), .int .i64 0]) ∧ Below W.heap.size W w' := fun W => by
            have h := hd W
            rw [show (((5000 * (k + 1) : Nat)) : Int) = 5000 * (k : Int) + 5000 by omega, show ((k + 1 : Nat) : Int) = (k : Int) + 1 by omega] at h
            exact h
          have HD := hide hd2
          have hk0 : (0 : Int) ≤ (k : Int) := by omega
          have hk1 : (k : Int) < 2 := by omega
          clear hd hd2 hO hbs hz0 c2
          go_wp2_with fail
          refine (HD.out _).mono ?_
          rintro e w6 ⟨rfl, h6⟩
          have hO6 := HO2.out.below h6 HO2.out.lt
          have hcel := hO6.cell k
          obtain ⟨u, hu⟩ : ∃ u, (outC k)[k]? = some u := by rcases (show k = 0 ∨ k = 1 by omega) with rfl | rfl <;> exact ⟨_, rfl⟩
          rw [hu] at hcel
          have v0 := hO6.frozen k
          have H7 := hide (chain HBS.out h6)
          have HO6 := hide hO6
          clear h6 hO6 hu
          go_wp2_with fail
          go_roundw
          case rel => exact ⟨k + 1, by omega, by go_num, by go_num, by
            have h9 := HO6.out.set_ k (.int .i64 5000)
            have e9 : (outC k).setIfInBounds k (.int .i64 5000) = outC (k + 1) := by rcases (show k = 0 ∨ k = 1 by omega) with rfl | rfl <;> rfl
            rw [e9] at h9
            rw [show (5000 * (k : Int) + 5000 - 5000 * (k : Int)) = 5000 by omega]
            exact h9, H7.out.setCell (p := ⟨W0.heap.size, k, none⟩) (Nat.le_refl _) _⟩
          case measure => simp [RowKit.intOf]; omega
        · obtain rfl : k = 2 := by omega
          clear hO hbs
          go_wp2_with fail
          go_ret2
          exact ⟨W0.heap.size, rfl, HO2.out, HB.out.size, chain HB.out HBS.out⟩
set_option maxRecDepth 100000 in
set_option maxHeartbeats 400000 in
theorem equal_any (w : World) :
    Calls Tryz.prog 74 #[.int .i64 10000, .int .i64 2] w fun e w' => ∃ g, e = .returned (.slice (some ⟨g, 0, none⟩) 2 2) ∧ Blk w' g 3 #[.int .i64 5000, .int .i64 5000] ∧ w.heap.size ≤ g ∧ Below w.heap.size w w' := by
  have hS : SV (w.alloc (.cells #[.int .i64 1] 3)) 1 (some ⟨w.heap.size, 0, none⟩) 1 1 ([1].map encI) := ⟨sl_ints (l := [1]) (Blk.new _ _ _) rfl, rfl, by omega, by simp [maxLen], fun h => by cases h⟩
  have HR := hide (repeat_any _ _ _ hS)
  clear hS
  go_enter Tryz.func74, Tryz.ntmps74
  go_wp2_with fail
  refine HR.out.mono ?_
  rintro e w2 ⟨rfl, hB2, h2⟩
  have H2 := hide (chain1 h2)
  have hsz : (w.alloc (.cells #[.int .i64 1] 3)).heap.size = w.heap.size + 1 := by simp
  rw [hsz] at hB2 ⊢
  have hS2 : SV w2 1 (some ⟨w.heap.size + 1, 0, none⟩) 2 2 ([1, 1].map encI) := ⟨sl_ints (l := [1, 1]) hB2 rfl, rfl, by omega, by simp [maxLen], fun h => by cases h⟩
  have HSP := hide (split_any _ _ _ hS2)
  clear h2 hB2 hS2 hsz
  go_wp2_with fail
  refine HSP.out.mono ?_
  rintro e w3 ⟨g, rfl, hB3, hg, h3⟩
  have H3 := hide (chain H2.out h3)
  have HB3 := hide hB3
  have HG := hide (Nat.le_trans H2.out.size hg)
  clear h3 hB3 hg
  go_wp2_with fail
  go_ret
  exact ⟨g, rfl, HB3.out, HG.out, H3.out⟩
end Go.Proofs.YtmfohnchnbgbaaaGreat

/- Days of the calendar: plain numbers, and the smallest functions. -/
namespace Go.Proofs.YtmfohnchnbgbaaaGreat
open Go.RowKit
set_option maxRecDepth 100000

def lensC (y : Int) : Array Value := #[.int .i64 31, .int .i64 (28 + leapI y), .int .i64 31, .int .i64 30, .int .i64 31, .int .i64 30, .int .i64 31, .int .i64 31, .int .i64 30, .int .i64 31, .int .i64 30, .int .i64 31]
set_option maxHeartbeats 1000000 in
theorem leap_any (y : Int) (w : World) : Calls Tryz.prog 182 #[.int .i64 y] w fun e w' => e = .returned (.bool (leapB y)) ∧ w = w' := by
  go_enter Tryz.func182, Tryz.ntmps182
  go_wp2
  all_goals
    go_ret
    exact ⟨ret_bool (by simp only [tmod_zero] at *; rw [Bool.eq_iff_iff]; simp [leapB, tmod_zero]; try omega), rfl⟩

theorem leapI_t {y : Int} (h : leapB y = true) : leapI y = 1 := by simp [leapI, h]
theorem leapI_f {y : Int} (h : leapB y = false) : leapI y = 0 := by simp [leapI, h]

set_option maxHeartbeats 1000000 in
theorem lengths_any (y : Int) (w : World) : Calls Tryz.prog 137 #[.int .i64 y] w fun e w' => e = .returned (.agg (lensC y)) ∧ Below w.heap.size w w' := by
  cases hb : leapB y with
  | true =>
    have HL := hide (leapI_t hb)
    go_enter Tryz.func137, Tryz.ntmps137
    go_wp2_with (go_at_call 182; refine (leap_any _ _).mono ?_; rintro e w' ⟨rfl, rfl⟩)
    have e : lensC y = #[.int .i64 31, .int .i64 29, .int .i64 31, .int .i64 30, .int .i64 31, .int .i64 30, .int .i64 31, .int .i64 31, .int .i64 30, .int .i64 31, .int .i64 30, .int .i64 31] := by rw [lensC, HL.out]; rfl
    rw [e]
    exact ret_row (p := 2) (ty := 241) (g := w.heap.size) (t := 241) rfl rfl rfl ((Blk.new w _ _).alloc _) Tryz.underlying241 rfl (by kernel_rfl) ⟨rfl, ((Below.refl _ _).alloc (Nat.le_refl _) _).alloc (by simp) _⟩
  | false =>
    have HL := hide (leapI_f hb)
    go_enter Tryz.func137, Tryz.ntmps137
    go_wp2_with (go_at_call 182; refine (leap_any _ _).mono ?_; rintro e w' ⟨rfl, rfl⟩)
    have e : lensC y = #[.int .i64 31, .int .i64 28, .int .i64 31, .int .i64 30, .int .i64 31, .int .i64 30, .int .i64 31, .int .i64 31, .int .i64 30, .int .i64 31, .int .i64 30, .int .i64 31] := by rw [lensC, HL.out]; rfl
    rw [e]
    exact ret_row (p := 2) (ty := 241) (g := w.heap.size) (t := 241) rfl rfl rfl ((Blk.new w _ _).alloc _) Tryz.underlying241 rfl (by kernel_rfl) ⟨rfl, ((Below.refl _ _).alloc (Nat.le_refl _) _).alloc (by simp) _⟩

theorem ixl0 (y : Int) (w : World) : (Instr.index 241 (.agg (lensC y)) (.int .i64 0)).run Tryz.prog w = .ok (.int .i64 (31)) w := by kernel_rfl
theorem ixl1 (y : Int) (w : World) : (Instr.index 241 (.agg (lensC y)) (.int .i64 1)).run Tryz.prog w = .ok (.int .i64 (28 + leapI y)) w := by kernel_rfl
theorem ixl2 (y : Int) (w : World) : (Instr.index 241 (.agg (lensC y)) (.int .i64 2)).run Tryz.prog w = .ok (.int .i64 (31)) w := by kernel_rfl
theorem ixl3 (y : Int) (w : World) : (Instr.index 241 (.agg (lensC y)) (.int .i64 3)).run Tryz.prog w = .ok (.int .i64 (30)) w := by kernel_rfl
theorem ixl4 (y : Int) (w : World) : (Instr.index 241 (.agg (lensC y)) (.int .i64 4)).run Tryz.prog w = .ok (.int .i64 (31)) w := by kernel_rfl
theorem ixl5 (y : Int) (w : World) : (Instr.index 241 (.agg (lensC y)) (.int .i64 5)).run Tryz.prog w = .ok (.int .i64 (30)) w := by kernel_rfl
theorem ixl6 (y : Int) (w : World) : (Instr.index 241 (.agg (lensC y)) (.int .i64 6)).run Tryz.prog w = .ok (.int .i64 (31)) w := by kernel_rfl
theorem ixl7 (y : Int) (w : World) : (Instr.index 241 (.agg (lensC y)) (.int .i64 7)).run Tryz.prog w = .ok (.int .i64 (31)) w := by kernel_rfl
theorem ixl8 (y : Int) (w : World) : (Instr.index 241 (.agg (lensC y)) (.int .i64 8)).run Tryz.prog w = .ok (.int .i64 (30)) w := by kernel_rfl
theorem ixl9 (y : Int) (w : World) : (Instr.index 241 (.agg (lensC y)) (.int .i64 9)).run Tryz.prog w = .ok (.int .i64 (31)) w := by kernel_rfl
theorem ixl10 (y : Int) (w : World) : (Instr.index 241 (.agg (lensC y)) (.int .i64 10)).run Tryz.prog w = .ok (.int .i64 (30)) w := by kernel_rfl
theorem ixl11 (y : Int) (w : World) : (Instr.index 241 (.agg (lensC y)) (.int .i64 11)).run Tryz.prog w = .ok (.int .i64 (31)) w := by kernel_rfl
theorem index_lens (y m : Int) (h1 : 1 ≤ m) (h2 : m ≤ 12) (w : World) : (Instr.index 241 (.agg (lensC y)) (.int .i64 (m - 1))).run Tryz.prog w = .ok (.int .i64 (lenM y m)) w := by
  have hm : m = 1 ∨ m = 2 ∨ m = 3 ∨ m = 4 ∨ m = 5 ∨ m = 6 ∨ m = 7 ∨ m = 8 ∨ m = 9 ∨ m = 10 ∨ m = 11 ∨ m = 12 := by omega
  rcases hm with rfl | rfl | rfl | rfl | rfl | rfl | rfl | rfl | rfl | rfl | rfl | rfl
  · exact ixl0 y w
  · exact ixl1 y w
  · exact ixl2 y w
  · exact ixl3 y w
  · exact ixl4 y w
  · exact ixl5 y w
  · exact ixl6 y w
  · exact ixl7 y w
  · exact ixl8 y w
  · exact ixl9 y w
  · exact ixl10 y w
  · exact ixl11 y w

end Go.Proofs.YtmfohnchnbgbaaaGreat
