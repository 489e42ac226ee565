/- What years become: the document's. -/
import Derived.Test.YtndfgglnhkdciaaDoorLadX
namespace Go.Proofs.YtndfgglnhkdciaaDoor
open Go.RowKit

set_option maxRecDepth 100000 in
set_option maxHeartbeats 4000000 in
theorem ultR_any (f : Int) (A : Option Addr) (cap : Nat) (M : List Rw) (w : World) (hs : MV w A M.length cap M) (hf : ok64 f) :
    Calls Tryd.prog 14 #[.agg #[.int .i64 f, .slice A M.length cap]] w (UltP w w (ultC f (allM M)) (ultC f (allM M)).1.length) := by
  have HS := hide hs
  clear hs
  go_enter Tryd.func14, Tryd.ntmps14
  go_wp2_with fail
  obtain ⟨wa, hwa⟩ : ∃ W, w.alloc (.cells #[.int .i64 f, .slice A M.length cap] 24) = W := ⟨_, rfl⟩
  have ka : Blk wa w.heap.size 24 #[.int .i64 f, .slice A M.length cap] := by rw [← hwa]; exact Blk.new _ _ _
  have ba : Below w.heap.size w wa := by rw [← hwa]; exact (Below.refl _ _).alloc (Nat.le_refl _) _
  rw [hwa]
  obtain ⟨X, hX⟩ : ∃ X, w.heap.size = X := ⟨_, rfl⟩
  rw [hX] at ka ⊢
  have HX := hide hX
  refine (factorsR_any f A cap M _ (HS.out.below ba) hf).mono ?_
  rintro e w1 ⟨hno, hyes, hb, -⟩
  obtain ⟨r, hr⟩ : ∃ b, rightC f (allM M) = b := ⟨_, rfl⟩
  have HR := hide hr
  rw [hr] at hno hyes
  have H1 := hide (chain ba hb)
  have HK := hide (ka.below hb ka.lt)
  have hsz1 : w.heap.size ≤ wa.heap.size := ba.size
  clear hr hwa ka ba hX
  cases r
  · obtain rfl := hno rfl
    clear hno hyes hb
    go_wp2_with fail
    go_ret2
    rw [ultC, if_neg (by rw [HR.out]; decide)]
    exact ⟨none, 0, rfl, OwnS.nil_ _ _ _ _, H1.out, H1.out⟩
  obtain ⟨B, c', rfl, hown⟩ := hyes rfl
  have hok := right_okC HR.out
  have hbd := right_bounds HR.out
  rw [allM_len] at hbd
  obtain ⟨F, hF⟩ : ∃ F, facL (allM M) = F := ⟨_, rfl⟩
  have hOF : OkF F := by rw [← hF]; exact okF_facL hok
  obtain ⟨nF, hnF⟩ : ∃ n, F.length = n := ⟨_, rfl⟩
  have hMn : M.length = nF + 1 := by rw [← hnF, ← hF, facL_len, allM_len]; omega
  have HU := hide (show ultC f (allM M) = allN F (allM M) by rw [ultC, if_pos HR.out, hF])
  have HSF := hide hown.sv
  rw [hF, hnF] at HSF
  rw [hF, hnF]
  have HOK := hide hok
  have HOF := hide hOF
  have HNF := hide hnF
  have hnF20 : nF ≤ 19 := by omega
  have hmi : (M.length : Int) - 1 = (nF : Int) := by omega
  have HMN := hide hMn
  have x0 := HK.out.cell 0
  have x1 := HK.out.cell 1
  simp only [List.getElem?_toArray, List.getElem?_cons_zero, List.getElem?_cons_succ] at x0 x1
  clear hno hyes hb hown hok hF hOF hnF hMn
  go_wp2_with fail
  clear x0 x1
  go_loopw [7, 8] (fun o q wr => ∃ (j : Nat) (A' : Option Addr) (c2 : Nat) (out : List Nat), j ≤ M.length ∧ out.length = j ∧ q = .int .i64 j ∧ o = .slice A' j c2 ∧ OwnS wr w1.heap.size 3 1 A' j c2 ((castL out).map encI) ∧ AllRel F (allM M) j out ∧ Below w1.heap.size w1 wr) (fun _ q _ => M.length - (RowKit.intOf q).toNat)
  case atStart => exact ⟨0, none, 0, [], Nat.zero_le _, rfl, rfl, rfl, OwnS.nil_ _ _ _ _, AllRel.start _ _, Below.refl _ _⟩
  case round =>
    obtain ⟨j, A', c2, out, hj, hol, rfl, rfl, hown, hrel2, hb⟩ := hrel
    have HB := hide hb
    have HO := hide hown
    have HREL := hide hrel2
    have HOL := hide hol
    have HKR := hide (HK.out.below hb HK.out.lt)
    have x0 := HKR.out.cell 0
    have x1 := HKR.out.cell 1
    simp only [List.getElem?_toArray, List.getElem?_cons_zero, List.getElem?_cons_succ] at x0 x1
    clear hown hrel2 hol
    by_cases hlt : j < M.length
    · obtain ⟨r, hrr⟩ := get_of hlt
      have hbr := chain H1.out hb
      obtain ⟨bb, off, rfl, hbl, c0⟩ := (HS.out.sv.sl.below hbr).rw hrr
      have hrl := (right_row HR.out (allM_get hrr)).1
      rw [allM_len] at hrl
      have hrow := (HS.out.rows r (List.mem_of_getElem? hrr)).below hbr
      have hrm : r.l ∈ allM M := List.mem_map.2 ⟨r, List.mem_of_getElem? hrr, rfl⟩
      obtain ⟨p, hp⟩ : ∃ p, r.l.length = p + 1 := ⟨r.l.length - 1, by omega⟩
      obtain ⟨v, hv⟩ := get_of (l := r.l) (k := p) (by omega)
      obtain ⟨b1, o1, hA1, hb1, y0⟩ := hrow.sl.i hv
      have hvn := celN_eq (HOK.out.2 r.l hrm) hv
      have hvb := celN_le (HOK.out.2 r.l hrm) p
      have hpn : p + j = nF := by have := HMN.out; omega
      obtain ⟨a, ha⟩ : ∃ a, celN r.l p = a := ⟨_, rfl⟩
      rw [hvn, ha] at y0
      rw [ha] at hvb
      obtain ⟨g, hg⟩ : ∃ g, growN a (F.drop p) = g := ⟨_, rfl⟩
      obtain ⟨xx, kx⟩ := g
      have hg2 : growN (celN r.l (r.l.length - 1)) (F.drop (r.l.length - 1)) = (xx, kx) := by rw [hp, Nat.add_sub_cancel, ha, hg]
      have HG := hide hg
      have HG2 := hide hg2
      have HGET := hide (allM_get hrr)
      have hk0 : (0 : Int) ≤ (j : Int) := by omega
      have hk1 : (j : Int) < (M.length : Int) := by omega
      have hlen : (r.l.length : Int) = (p : Int) + 1 := by omega
      have hpj : (nF : Int) - (j : Int) = (p : Int) := by omega
      have hM20 : M.length ≤ 20 := by have := HMN.out; omega
      rw [hA1, hp] at c0
      have hp0 : (0 : Int) ≤ (p : Int) := by omega
      have hp1 : (p : Int) < (p : Int) + 1 := by omega
      clear hb hrr hrow hrm hv hvn ha hg hg2 hA1 hp hrl hlen hbr hpn
      go_wp2_with fail
      clear x0 x1 c0 y0
      go_loopw [9, 10] (fun a q ws => ∃ (k x : Nat), p ≤ k ∧ k ≤ nF ∧ q = .int .i64 k ∧ a = .int .i64 x ∧ x ≤ 4000000000000000000 ∧ growN x (F.drop k) = (xx, kx) ∧ Below wr.heap.size wr ws) (fun _ q _ => nF - (RowKit.intOf q).toNat)
      case atStart => exact ⟨p, a, Nat.le_refl _, by omega, rfl, rfl, by omega, HG.out, Below.refl _ _⟩
      case round =>
        obtain ⟨k, x, hpk, hkn, rfl, rfl, hx, hgx, hbs⟩ := hrel
        have HBS := hide hbs
        by_cases hkl : k < nF
        · obtain ⟨⟨fn, fd⟩, hfk⟩ := get_of (l := F) (k := k) (by rw [HNF.out]; exact hkl)
          obtain ⟨q1, q2, q3⟩ := HOF.out _ (List.mem_of_getElem? hfk)
          obtain ⟨b2, o2, rfl, hb2, y0, y1⟩ := (HSF.out.below (chain HB.out hbs)).sl.rt hfk
          have hcc := HSF.out.le
          simp only at y0 y1 q1 q2 q3
          rw [drop_of hfk, growN] at hgx
          have hkk0 : (0 : Int) ≤ (k : Int) := by omega
          have hkk1 : (k : Int) + 1 < (M.length : Int) := by have := HMN.out; omega
          have hkk2 : (k : Int) < (nF : Int) := by omega
          have hqb := evQ_le x fn fd
          have hkc := evE_cases x fn fd
          obtain ⟨q, hq⟩ : ∃ z, evQ x fn fd = z := ⟨_, rfl⟩
          obtain ⟨kk, hkq⟩ : ∃ z, evE x fn fd = z := ⟨_, rfl⟩
          have EVB := hide (fun (W : World) (hW : Below wr.heap.size wr W) => (evenR_any x fn fd (by omega) (by omega) (by omega) q3 W).mono (R' := fun e w' => e = .returned (.tuple #[.int .i64 (q : Int), .int .i64 kk]) ∧ Below wr.heap.size wr w') (fun e w' ⟨h, h2⟩ => ⟨by rw [h, hq, hkq], chain hW h2⟩))
          simp only [hq, hkq] at hgx hqb hkc
          have HGX := hide hgx
          clear hgx hfk hq hkq hbs
          go_upto_region 13 with fail
          refine wp_region_class (fun W => Below wr.heap.size wr W) (by kernel_rfl) (by kernel_rfl) (Below.refl _ _).drew ?_
          repeat (first
            | go_big_quiet_skip
            | (go_big_quiet_want
               first
                 | (go_big_quiet_op
                    go_big_quiet_on)
                 | (refine quiet_call (v := .tuple #[.int .i64 (q : Int), .int .i64 kk]) (f := 25) (args := #[.int .i64 (x : Int), .int .i64 (fn : Int), .int .i64 (fd : Int)]) ?_ ?_ ?_
                    · intro W hW
                      have y0 := kept hW y0
                      have y1 := kept hW y1
                      clear hW
                      go_simp
                      done
                    · intro W hW
                      exact EVB.out W hW
                    simp only [Act.put, List.setIfInBounds_toArray, List.set_cons_zero, List.set_cons_succ]
                    go_big_quiet_on)
                 | (refine quiet_yield (v := ?_) ?_ ?_
                    rotate_left
                    · intro W hW
                      have y0 := kept hW y0
                      have y1 := kept hW y1
                      clear hW
                      go_simp
                      try with_reducible rfl
                    simp only [Act.put, List.setIfInBounds_toArray, List.set_cons_zero, List.set_cons_succ]
                    go_big_quiet_on)))
          refine wpQuiet_nil ?_
          intro W hW
          have HW := hide (chain HBS.out hW)
          clear hW y0 y1
          rcases hkc with rfl | rfl
          · have HGY := hide (show growN q (F.drop (k + 1)) = (xx, kx) by have := HGX.out; rw [if_pos rfl] at this; exact this)
            go_wp2_with fail
            go_roundw
            case rel => exact ⟨k + 1, q, by omega, by omega, by go_num, rfl, hqb, HGY.out, HW.out⟩
            case measure => simp [RowKit.intOf]; omega
          · have HGY := hide (show (0, (5 : Int)) = (xx, kx) by have := HGX.out; rw [if_neg (by decide)] at this; exact this)
            obtain ⟨rfl, rfl⟩ : 0 = xx ∧ (5 : Int) = kx := by simpa using HGY.out
            have HN := hide (HREL.out.stop_ HGET.out HG2.out)
            have h9 := chain H1.out (chain HB.out HW.out)
            go_wp2_with fail
            go_ret2
            rw [HU.out, HN.out]
            exact ⟨none, 0, rfl, OwnS.nil_ _ _ _ _, h9, h9⟩
        · obtain rfl : k = nF := by omega
          rw [List.drop_of_length_le (by rw [HNF.out]; exact Nat.le_refl _)] at hgx
          obtain ⟨rfl, rfl⟩ : x = xx ∧ (0 : Int) = kx := by simpa [growN] using hgx
          have hkk1 : ¬ (k : Int) + 1 < (M.length : Int) := by have := HMN.out; omega
          have hkk0 : (0 : Int) ≤ (k : Int) := by omega
          have hown2 := (HO.out.below hbs).alloc (.cells #[.int .i64 (x : Int)] 3)
          have hbr := chain HB.out hbs
          have hsz9 : w1.heap.size ≤ wr.heap.size := hbr.size
          have hb3 := hbr.alloc hbr.size (.cells #[.int .i64 (x : Int)] 3)
          have HN := hide (HREL.out.next HGET.out HG2.out)
          clear hbs hgx
          go_wp2_with (at_builtin; refine wpList_app rfl (.tmp 69) (.tmp 71) 33 rfl elInt (B := w1.heap.size) (news := (castL [x]).map encI) rfl hown2 rfl rfl (sl_of_blk (Blk.new wr 3 #[.int .i64 (x : Int)])) (okI _) (by unfold maxLen; omega) (by omega) (by simp; omega) ?_; intro A2 c3 w3 ho hg hA)
          have HO2 := hide ho
          have H3 := hide (hb3.grown hg (by simp; omega) (fun k e => (hown2.lt k e).1))
          clear ho hg hA hown2 hb3
          go_roundw
          case rel => exact ⟨j + 1, A2, c3, out ++ [x], by omega, by simp [HOL.out], by go_num, rfl, by rw [castL, List.map_append, List.map_append]; exact HO2.out, HN.out, H3.out⟩
          case measure => simp [RowKit.intOf]; omega
    · obtain rfl : j = M.length := by omega
      have hk1 : ¬ (((M.length : Nat) : Int) < (M.length : Int)) := by omega
      have HN := hide (show allN F (allM M) = (out, 0) from AllRel.done (by rw [allM_len]; exact HREL.out))
      go_wp2_with fail
      go_ret2
      rw [HU.out, HN.out]
      have h9 := chain H1.out HB.out
      exact ⟨A', c2, by simp only [HOL.out]; rfl, by simp only [HOL.out]; exact HO.out.mono H1.out.size, h9, h9⟩
end Go.Proofs.YtndfgglnhkdciaaDoor
