/- How years develop: the document's. -/
import Derived.Test.YtndfgglnhkdciaaDoorLadJ
namespace Go.Proofs.YtndfgglnhkdciaaDoor
open Go.RowKit

theorem colS_short {k : Nat} : ∀ {c : List (List Int)}, (∀ l ∈ c, l.length ≤ k + 1) → colS k c = (0, 0)
  | [], _ => rfl
  | l :: r, h => by
    rw [colS, if_neg (by have := h l (by simp); omega)]
    exact colS_short (c := r) (fun m hm => h m (by simp [hm]))
theorem colS_right {f : Int} {c : List (List Int)} (h : rightC f c = true) (k : Nat) : colS k c = colS k (c.take (c.length - (k + 1))) := by
  have h2 : colS k (c.drop (c.length - (k + 1))) = (0, 0) := by
    refine colS_short fun l hl => ?_
    obtain ⟨i, hi, he⟩ := List.getElem_of_mem hl
    rw [List.length_drop] at hi
    have h3 : c[c.length - (k + 1) + i]? = some l := by
      rw [← he, List.getElem_drop, List.getElem?_eq_getElem]
    have h4 := right_row h h3
    omega
  conv => lhs; rw [← List.take_append_drop (c.length - (k + 1)) c, colS_app, h2]
  simp

set_option maxRecDepth 100000 in
set_option maxHeartbeats 2000000 in
theorem factorsR_any (f : Int) (A : Option Addr) (cap : Nat) (M : List Rw) (w : World) (hs : MV w A M.length cap M) (hf : ok64 f) :
    Calls Tryd.prog 12 #[.agg #[.int .i64 f, .slice A M.length cap]] w (FacP w w (rightC f (allM M)) (facL (allM M)) (facL (allM M)).length) := by
  have HS := hide hs
  clear hs
  obtain ⟨r, hr⟩ : ∃ b, rightC f (allM M) = b := ⟨_, rfl⟩
  have HR := hide hr
  rw [hr]
  clear hr
  go_enter Tryd.func12, Tryd.ntmps12
  go_wp2_with fail
  refine (rightR_b (w0 := w) HS.out ((Below.refl _ _).alloc (Nat.le_refl _) _) ((Below.refl _ _).alloc (Nat.le_refl _) _) hf rfl HR.out).mono ?_
  rintro e w1 ⟨rfl, h1, hb1⟩
  cases r
  · clear hb1
    go_wp2_with fail
    go_ret2
    exact ⟨fun _ => rfl, fun h => (by cases h), h1, h1⟩
  have hok := right_okC HR.out
  have hbd := right_bounds HR.out
  rw [allM_len] at hbd
  have t0 := kept hb1 (b := w.heap.size) (o := 0) (u := .int .i64 f) (by simp)
  have t1 := kept hb1 (b := w.heap.size) (o := 1) (u := .slice A M.length cap) (by simp)
  have htl := block_lt_of_cell t0
  have H1 := hide h1
  have HOK := hide hok
  obtain ⟨m, hm⟩ : ∃ m, M.length = m + 1 := ⟨M.length - 1, by omega⟩
  have hml : (facL (allM M)).length = m := by rw [facL_len, allM_len, hm]; rfl
  have HML := hide hml
  have hmb : m ≤ 19 := by omega
  have HM := hide hm
  have hmi : (M.length : Int) = (m : Int) + 1 := by omega
  rw [hml]
  clear hb1 h1 hok hml
  go_wp2_with fail
  have T0 := hide t0
  have T1 := hide t1
  clear t0 t1
  go_loopw [6, 7] (fun o q wr => ∃ (j : Nat) (A' : Option Addr) (c' : Nat), j ≤ m ∧ q = .int .i64 j ∧ o = .slice A' j c' ∧ OwnS wr w1.heap.size 32 2 A' j c' (((facL (allM M)).take j).map encRt) ∧ Below w1.heap.size w1 wr) (fun _ q _ => m - (RowKit.intOf q).toNat)
  case atStart => exact ⟨0, none, 0, Nat.zero_le _, rfl, rfl, OwnS.nil_ _ _ _ _, Below.refl _ _⟩
  case round =>
    obtain ⟨j, A', c', hj, rfl, rfl, hown, hb⟩ := hrel
    have t0 := kept hb T0.out
    have t1 := kept hb T1.out
    have htl2 := block_lt_of_cell t0
    have HB := hide hb
    have HO := hide hown
    by_cases hlt : j < m
    · have hlt' : (j : Int) + 1 < (m : Int) + 1 := by omega
      have HG := hide (take_of (facL_get (c := allM M) (k := j) (by rw [allM_len, HM.out]; exact hlt)))
      have HSW := hide (HS.out.below (chain H1.out HB.out))
      clear hb hown
      go_wp2_with fail
      go_loop [8, 9, 10] (fun u d i => ∃ k : Nat, k + j + 1 ≤ m + 1 ∧ i = .int .i64 k ∧ u = .int .i64 ((colS j ((allM M).take k)).1 : Nat) ∧ d = .int .i64 ((colS j ((allM M).take k)).2 : Nat)) (fun _ _ i => m + 1 - (RowKit.intOf i).toNat)
      case atStart => exact ⟨0, by omega, rfl, rfl, rfl⟩
      case round =>
        obtain ⟨k, hk, rfl, rfl, rfl⟩ := hrel
        by_cases hlt2 : k + j + 1 < m + 1
        · have hlt2' : (k : Int) + (j : Int) + 1 < (m : Int) + 1 := by omega
          obtain ⟨r, hr⟩ := get_of (l := M) (k := k) (by omega)
          have hrl := right_row HR.out (allM_get hr)
          rw [allM_len] at hrl
          obtain ⟨bb, off, hA0, hbl, c0⟩ := HSW.out.sv.sl.rw hr
          have hrow := HSW.out.rows r (List.mem_of_getElem? hr)
          have hrm : r.l ∈ allM M := List.mem_map.2 ⟨r, List.mem_of_getElem? hr, rfl⟩
          have HT := hide (colS_take (k := j) (allM_get hr))
          rw [if_pos (by omega)] at HT
          have hcl := colS_le (c := (allM M).take k) j (fun l hl => HOK.out.2 l (List.mem_of_mem_take hl))
          rw [List.length_take] at hcl
          obtain ⟨n, hn⟩ : ∃ z, (colS j ((allM M).take k)).1 = z := ⟨_, rfl⟩
          obtain ⟨d, hd⟩ : ∃ z, (colS j ((allM M).take k)).2 = z := ⟨_, rfl⟩
          rw [hn, hd] at hcl HT ⊢
          have hnb : n ≤ 2000000000000000000 := by omega
          have hdb : d ≤ 2000000000000000000 := by omega
          obtain ⟨x, hx⟩ := get_of (l := r.l) (k := j + 1) (by omega)
          obtain ⟨y, hy⟩ := get_of (l := r.l) (k := j) (by omega)
          obtain ⟨b1, o1, hA1, hb1, x0⟩ := hrow.sl.i hx
          obtain ⟨b2, o2, hA2, hb2, y0⟩ := hrow.sl.i hy
          rw [hA1] at hA2
          cases hA2
          have hxn := celN_eq (HOK.out.2 r.l hrm) hx
          have hyn := celN_eq (HOK.out.2 r.l hrm) hy
          have hxb := celN_le (HOK.out.2 r.l hrm) (j + 1)
          have hyb := celN_le (HOK.out.2 r.l hrm) j
          rw [hxn] at x0
          rw [hyn] at y0
          obtain ⟨cx, hcx⟩ : ∃ z, celN r.l (j + 1) = z := ⟨_, rfl⟩
          obtain ⟨cy, hcy⟩ : ∃ z, celN r.l j = z := ⟨_, rfl⟩
          rw [hcx] at x0 hxb HT
          rw [hcy] at y0 hyb HT
          rw [hA1] at c0
          rw [hA0] at t1
          have hki : (0 : Int) ≤ (k : Int) := by omega
          have hki3 : (k : Int) < (m : Int) + 1 := by omega
          have hki2 : (0 : Int) ≤ (j : Int) := by omega
          have hki1 : (0 : Int) ≤ (j : Int) + 1 := by omega
          have hki4 : (j : Int) < (r.l.length : Int) := by omega
          have hki5 : (j : Int) + 1 < (r.l.length : Int) := by omega
          clear hr hrow hrm hn hd hx hy hxn hyn hcx hcy hA1 hcl hrl
          go_wp2_with fail
          go_round
          case rel => exact ⟨k + 1, by omega, by go_num, by rw [HT.out]; first | rfl | (congr 1; omega), by rw [HT.out]; first | rfl | (congr 1; omega)⟩
          case measure => simp [RowKit.intOf]; omega
        · have hlt2' : ¬ (k : Int) + (j : Int) + 1 < (m : Int) + 1 := by omega
          have hke : k = (allM M).length - (j + 1) := by rw [allM_len]; omega
          have hfin : colS j ((allM M).take k) = colS j (allM M) := by rw [hke]; exact (colS_right HR.out j).symm
          rw [hfin]
          obtain ⟨n, hn⟩ : ∃ z, (colS j (allM M)).1 = z := ⟨_, rfl⟩
          obtain ⟨d, hd⟩ : ∃ z, (colS j (allM M)).2 = z := ⟨_, rfl⟩
          rw [hn, hd]
          have HF : Hid (facK (allM M) j = if d = 0 then (1, 1) else (n, d)) := by
            unfold facK
            rw [hd]
            by_cases h0 : d = 0
            · rw [if_pos h0, if_pos h0]; trivial
            · rw [if_neg h0, if_neg h0, ← hn, ← hd]; trivial
          clear hke hfin hn hd
          by_cases hd0 : d = 0
          · have hd0' : ((d : Int) == 0) = true := by simp [hd0]
            rw [if_pos hd0] at HF
            clear hd0
            have hown2 := HO.out.alloc (.cells #[.int .i64 (1 : Int), .int .i64 (1 : Int)] 32)
            have hbz := HB.out.size
            have hb3 := HB.out.alloc hbz (.cells #[.int .i64 (1 : Int), .int .i64 (1 : Int)] 32)
            go_wp2_with (at_builtin; refine wpList_app rfl (.tmp 55) (.tmp 59) 27 rfl elRt (B := w1.heap.size) (news := [(1, 1)].map encRt) rfl hown2 rfl rfl (sl_rt 1 1) (okRt _) (by unfold maxLen; omega) (by omega) (by simp; omega) ?_; intro A2 c2 w3 ho hg hA)
            have HO2 := hide ho
            have H3 := hide (hb3.grown hg (by simp; omega) (fun k e => (hown2.lt k e).1))
            clear ho hg hA hown2 hb3
            go_roundw
            case rel => exact ⟨j + 1, A2, c2, by omega, by go_num, rfl, by rw [HG.out, HF.out, List.map_append]; exact HO2.out, H3.out⟩
            case measure => simp [RowKit.intOf]; omega
          · have hd0' : ((d : Int) == 0) = false := by simp; omega
            rw [if_neg hd0] at HF
            clear hd0
            have hown2 := HO.out.alloc (.cells #[.int .i64 (n : Int), .int .i64 (d : Int)] 32)
            have hbz := HB.out.size
            have hb3 := HB.out.alloc hbz (.cells #[.int .i64 (n : Int), .int .i64 (d : Int)] 32)
            go_wp2_with (at_builtin; refine wpList_app rfl (.tmp 55) (.tmp 59) 27 rfl elRt (B := w1.heap.size) (news := [(n, d)].map encRt) rfl hown2 rfl rfl (sl_rt n d) (okRt _) (by unfold maxLen; omega) (by omega) (by simp; omega) ?_; intro A2 c2 w3 ho hg hA)
            have HO2 := hide ho
            have H3 := hide (hb3.grown hg (by simp; omega) (fun k e => (hown2.lt k e).1))
            clear ho hg hA hown2 hb3
            go_roundw
            case rel => exact ⟨j + 1, A2, c2, by omega, by go_num, rfl, by rw [HG.out, HF.out, List.map_append]; exact HO2.out, H3.out⟩
            case measure => simp [RowKit.intOf]; omega
    · obtain rfl : j = m := by omega
      have hlt' : ¬ (j : Int) + 1 < (j : Int) + 1 := by omega
      go_wp2_with fail
      go_ret2
      have h9 := chain H1.out hb
      refine ⟨fun h => (by cases h), fun _ => ⟨A', c', by rw [HML.out]; rfl, ?_⟩, h9, h9⟩
      rw [List.take_of_length_le (by rw [HML.out]; exact Nat.le_refl _)] at hown
      rw [HML.out]
      exact hown.mono H1.out.size
end Go.Proofs.YtndfgglnhkdciaaDoor
