/- How one year of development develops: the program's. -/
import Derived.Test.YtndfgglnhkdciaaDoorLadH
import Derived.Deep.RegionLaw
namespace Go.Proofs.YtndfgglnhkdciaaDoor
open Go.RowKit

set_option maxRecDepth 100000 in
set_option maxHeartbeats 2000000 in
theorem factor_any (f : Int) (A : Option Addr) (cap k : Nat) (M : List Rw) (w : World) (hs : MV w A M.length cap M) (ho : OkC (allM M)) (hk : k ≤ 20) :
    Calls Tryd.prog 21 #[.agg #[.int .i64 f, .slice A M.length cap], .int .i64 k] w fun e w' => e = .returned (.agg #[.int .i64 ((facK (allM M) k).1 : Nat), .int .i64 ((facK (allM M) k).2 : Nat)]) ∧ Below w.heap.size w w' := by
  have HS := hide hs
  have HO := hide ho
  have hm20 : M.length ≤ 20 := by have := ho.1; rwa [allM_len] at this
  clear hs ho
  go_enter Tryd.func21, Tryd.ntmps21
  go_wp2_with fail
  obtain ⟨w1, hw1⟩ : ∃ W, ((w.alloc (.cells #[.int .i64 f, .slice A M.length cap] 24)).alloc (.cells #[.int .i64 0, .int .i64 0] 32)).alloc (.cells #[.int .i64 0, .int .i64 0] 32) = W := ⟨_, rfl⟩
  have hR1 : Blk w1 (w.heap.size + 1) 32 #[.int .i64 0, .int .i64 0] := by rw [← hw1]; exact (Blk.new' (by simp)).alloc _
  have hS1 : Blk w1 (w.heap.size + 1 + 1) 32 #[.int .i64 0, .int .i64 0] := by rw [← hw1]; exact Blk.new' (by simp)
  have h1 : Below w.heap.size w w1 := by rw [← hw1]; exact (((Below.refl _ _).alloc (Nat.le_refl _) _).alloc (by simp) _).alloc (by simp; omega) _
  rw [hw1]
  clear hw1
  go_loopw [11] (fun q wr => ∃ j : Nat, j ≤ M.length ∧ q = .int .i64 j ∧ Below w.heap.size w wr ∧ Blk wr (w.heap.size + 1) 32 #[.int .i64 0, .int .i64 0] ∧ Blk wr (w.heap.size + 1 + 1) 32 #[.int .i64 ((colS k ((allM M).take j)).1 : Nat), .int .i64 ((colS k ((allM M).take j)).2 : Nat)]) (fun q _ => M.length - (RowKit.intOf q).toNat)
  case atStart => exact ⟨0, Nat.zero_le _, rfl, h1, hR1, hS1⟩
  case round =>
    clear h1 hR1 hS1
    obtain ⟨j, hj, rfl, hb, hR, hS⟩ := hrel
    have HB := hide hb
    have HR := hide hR
    have HSS := hide hS
    by_cases hlt : j < M.length
    · obtain ⟨r, hr⟩ := get_of hlt
      obtain ⟨bb, off, rfl, hbl, c0⟩ := (HS.out.below hb).sv.sl.rw hr
      have hk0 : (0 : Int) ≤ (j : Int) := by omega
      have hk1 : (j : Int) < (M.length : Int) := by omega
      have hrow := HS.out.rows r (List.mem_of_getElem? hr)
      have hrm : r.l ∈ allM M := List.mem_map.2 ⟨r, List.mem_of_getElem? hr, rfl⟩
      have hlen : r.l.length ≤ 9223372036854775807 := by have := hrow.le; have := hrow.most; unfold maxLen at this; omega
      have HT := hide (colS_take (k := k) (allM_get hr))
      have hcl := colS_le (c := (allM M).take j) k (fun l hl => HO.out.2 l (List.mem_of_mem_take hl))
      rw [List.length_take] at hcl
      obtain ⟨n, hn⟩ : ∃ z, (colS k ((allM M).take j)).1 = z := ⟨_, rfl⟩
      obtain ⟨d, hd⟩ : ∃ z, (colS k ((allM M).take j)).2 = z := ⟨_, rfl⟩
      rw [hn, hd] at hcl HSS HT
      have hnb : n ≤ 2000000000000000000 := by omega
      have hdb : d ≤ 2000000000000000000 := by omega
      by_cases hlong : k + 1 < r.l.length
      · have hlong' : (k : Int) + 1 < (r.l.length : Int) := by omega
        obtain ⟨x, hx⟩ := get_of hlong
        obtain ⟨y, hy⟩ := get_of (l := r.l) (k := k) (by omega)
        obtain ⟨b1, o1, hA1, hb1, x0⟩ := hrow.sl.i hx
        obtain ⟨b2, o2, hA2, hb2, y0⟩ := hrow.sl.i hy
        rw [hA1] at hA2
        cases hA2
        have x0 := kept hb x0
        have y0 := kept hb y0
        have hxn := celN_eq (HO.out.2 r.l hrm) hx
        have hyn := celN_eq (HO.out.2 r.l hrm) hy
        have hxb := celN_le (HO.out.2 r.l hrm) (k + 1)
        have hyb := celN_le (HO.out.2 r.l hrm) k
        rw [hxn] at x0
        rw [hyn] at y0
        obtain ⟨cx, hcx⟩ : ∃ z, celN r.l (k + 1) = z := ⟨_, rfl⟩
        obtain ⟨cy, hcy⟩ : ∃ z, celN r.l k = z := ⟨_, rfl⟩
        rw [hcx] at x0 hxb HT
        rw [hcy] at y0 hyb HT
        rw [if_pos hlong] at HT
        rw [hA1] at c0
        have s0 := HSS.out.cell 0
        have s1 := HSS.out.cell 1
        have f0 := HSS.out.frozen 0
        have f1 := HSS.out.frozen 1
        simp at s0 s1
        have hki : (0 : Int) ≤ (k : Int) := by omega
        have hki1 : (0 : Int) ≤ (k : Int) + 1 := by omega
        have hki2 : (k : Int) < (r.l.length : Int) := by omega
        have hw1 : IntKind.i64.wrap ((k : Int) + 1) = (k : Int) + 1 := IntWalk.i64_in _ (by omega)
        have hw2 : IntKind.i64.wrap ((n : Int) + (cx : Int)) = (n : Int) + (cx : Int) := IntWalk.i64_in _ (by omega)
        have hw3 : IntKind.i64.wrap ((d : Int) + (cy : Int)) = (d : Int) + (cy : Int) := IntWalk.i64_in _ (by omega)
        clear hr hb hR hS hrow hrm hn hd hx hy hxn hyn hcx hcy hA1 hcl
        go_wp2_with fail
        go_region_law (fail)
        all_goals
          go_wp2_with fail
          go_region_law (fail)
        all_goals
          go_wp2_with fail
          go_roundw
          case rel =>
            refine ⟨j + 1, by omega, by go_num, ?_, ?_, ?_⟩
            · exact (((HB.out.setCell (p := ⟨w.heap.size + 1 + 1, 0, none⟩) (by simp only; omega) _).setCell (p := ⟨w.heap.size + 1 + 1, 1, none⟩) (by simp only; omega) _).drew).drew
            · exact (((HR.out.far (by simp) _).far (by simp) _).drew).drew
            · have h := (((HSS.out.set_ 0 (.int .i64 ((n : Int) + (cx : Int)))).set_ 1 (.int .i64 ((d : Int) + (cy : Int)))).drew).drew
              rw [HT.out]
              simpa using h
          case measure => simp [RowKit.intOf]; omega
      · have hlong' : ¬ (k : Int) + 1 < (r.l.length : Int) := by omega
        rw [if_neg hlong] at HT
        have HRW := hide HR.out
        clear hr hb hR hS hrow hrm hcl
        go_wp2_with fail
        go_roundw
        case rel => exact ⟨j + 1, by omega, by go_num, HB.out, HRW.out, by rw [HT.out, hn, hd]; exact HSS.out⟩
        case measure => simp [RowKit.intOf]; omega
    · obtain rfl : j = M.length := by omega
      have hk1 : ¬ (((M.length : Nat) : Int) < (M.length : Int)) := by omega
      rw [List.take_of_length_le (by rw [allM_len]; exact Nat.le_refl _)] at HSS
      obtain ⟨n, hn⟩ : ∃ z, (colS k (allM M)).1 = z := ⟨_, rfl⟩
      obtain ⟨d, hd⟩ : ∃ z, (colS k (allM M)).2 = z := ⟨_, rfl⟩
      rw [hn, hd] at HSS
      have s0 := HSS.out.cell 0
      have s1 := HSS.out.cell 1
      have r0 := HR.out.cell 0
      have r1 := HR.out.cell 1
      have f0 := HR.out.frozen 0
      have f1 := HR.out.frozen 1
      simp at s0 s1 r0 r1
      by_cases hd0 : d = 0
      · have HF := hide (show facK (allM M) k = (1, 1) by unfold facK; rw [hd, if_pos hd0])
        have hd0' : ((d : Int) == 0) = true := by simp [hd0]
        clear hn hd hd0 hb hR hS
        go_wp2_with fail
        refine ret_row (g := w.heap.size + 1) (t := 32) (cs := #[.int .i64 1, .int .i64 1]) rfl rfl rfl ?_ Tryd.underlying32 rfl (by kernel_rfl) ⟨by rw [HF.out]; rfl, ?_⟩
        · have h := (HR.out.set_ 0 (.int .i64 1)).set_ 1 (.int .i64 1)
          simpa using h
        · exact (HB.out.setCell (p := ⟨w.heap.size + 1, 0, none⟩) (by simp only; omega) _).setCell (p := ⟨w.heap.size + 1, 1, none⟩) (by simp only; omega) _
      · have HF := hide (show facK (allM M) k = (n, d) by unfold facK; rw [hd, if_neg hd0, ← hn, ← hd])
        have hd0' : ((d : Int) == 0) = false := by simp; omega
        clear hn hd hd0 hb hR hS
        go_wp2_with fail
        refine ret_row (g := w.heap.size + 1) (t := 32) (cs := #[.int .i64 (n : Int), .int .i64 (d : Int)]) rfl rfl rfl ?_ Tryd.underlying32 rfl (by kernel_rfl) ⟨by rw [HF.out], ?_⟩
        · have h := (HR.out.set_ 0 (.int .i64 (n : Int))).set_ 1 (.int .i64 (d : Int))
          simpa using h
        · exact (HB.out.setCell (p := ⟨w.heap.size + 1, 0, none⟩) (by simp only; omega) _).setCell (p := ⟨w.heap.size + 1, 1, none⟩) (by simp only; omega) _
end Go.Proofs.YtndfgglnhkdciaaDoor
