/- All years gone on with: the program's. -/
import Derived.Test.YtndfgglnhkdciaaDoorLadL
import Derived.BigQuiet
import Derived.Test.YtndfgglnhkdciaaDoorCls
namespace Go.Proofs.YtndfgglnhkdciaaDoor
open Go.RowKit Go.BigFrame

def castL (l : List Nat) : List Int := l.map fun x : Nat => (x : Int)
theorem castL_len (l : List Nat) : (castL l).length = l.length := List.length_map _
/-- What all rows become, as the program gives it. -/
def AllP (w : World) (s : List Nat × Int) (e : Ending) (w' : World) : Prop :=
  (s.2 = 0 → ∃ A' c', e = .returned (.tuple #[.slice A' s.1.length c', .nilIface]) ∧ OwnS w' w.heap.size 3 1 A' s.1.length c' ((castL s.1).map encI)) ∧
  (s.2 ≠ 0 → ∃ i : Nat, e = .returned (.tuple #[.slice none 0 0, .iface 56 (.agg #[.int .i64 (i : Int), .iface 58 (.agg #[.int .i64 s.2])])])) ∧ Below w.heap.size w w'
theorem allN_code (F : List (Nat × Nat)) : ∀ (c : List (List Int)), (allN F c).2 = 0 ∨ ((allN F c).2 = 5 ∧ (allN F c).1 = [])
  | [] => .inl rfl
  | l :: r => by
    simp only [allN]
    split
    · rcases allN_code F r with h | ⟨h, h'⟩
      · rw [h, if_pos rfl]; exact .inl rfl
      · rw [h, if_neg (by decide)]; exact .inr ⟨rfl, rfl⟩
    · rename_i h
      rcases grow_code (F.drop (l.length - 1)) (celN l (l.length - 1)) with h1 | ⟨h1, _⟩
      · exact absurd h1 h
      · rw [h1]; exact .inr ⟨rfl, rfl⟩
/-- j rows have been gone on with. -/
def AllRel (F : List (Nat × Nat)) (c : List (List Int)) (j : Nat) (out : List Nat) : Prop := allN F c = (let s := allN F (c.drop j); if s.2 = 0 then (out ++ s.1, 0) else ([], s.2))
theorem AllRel.start (F : List (Nat × Nat)) (c : List (List Int)) : AllRel F c 0 [] := by
  unfold AllRel
  rw [List.drop_zero]
  rcases allN_code F c with h | ⟨h, h'⟩
  · simp only [h, if_pos]; exact Prod.ext rfl h
  · simp only [h]
    exact Prod.ext h' h
theorem AllRel.next {F : List (Nat × Nat)} {c : List (List Int)} {j x : Nat} {out : List Nat} {l : List Int} (h : AllRel F c j out) (hl : c[j]? = some l) (hg : growN (celN l (l.length - 1)) (F.drop (l.length - 1)) = (x, 0)) : AllRel F c (j + 1) (out ++ [x]) := by
  unfold AllRel at h ⊢
  rw [drop_of hl] at h
  simp only [allN, hg, if_pos] at h
  rw [h]
  rcases allN_code F (c.drop (j + 1)) with h1 | ⟨h1, _⟩
  · simp [h1]
  · simp [h1]
theorem AllRel.stop_ {F : List (Nat × Nat)} {c : List (List Int)} {j x : Nat} {out : List Nat} {l : List Int} (h : AllRel F c j out) (hl : c[j]? = some l) (hg : growN (celN l (l.length - 1)) (F.drop (l.length - 1)) = (x, 5)) : allN F c = ([], 5) := by
  unfold AllRel at h
  rw [drop_of hl] at h
  simp only [allN, hg] at h
  rw [h]; rfl
theorem AllRel.done {F : List (Nat × Nat)} {c : List (List Int)} {out : List Nat} (h : AllRel F c c.length out) : allN F c = (out, 0) := by
  unfold AllRel at h
  rw [List.drop_length] at h
  rw [h]; simp [allN]

/-- What l[k:] reads as. -/
theorem hsCut {w : World} {B : Option Addr} {n cap p : Nat} {F : List (Nat × Nat)} (h : SV w 2 B n cap (F.map encRt)) (hp : p ≤ n) : SV w 2 (if cap = p then B else B.map (·.add (p * 2))) (n - p) (cap - p) ((F.drop p).map encRt) := by
  have hl := h.len
  have hle := h.le
  have hm := h.most
  have hFl : F.length = n := by simpa using hl
  refine ⟨?_, by rw [List.length_map, List.length_drop, hFl], by omega, by omega, fun hn => ?_⟩
  · rw [List.map_drop]
    exact h.sl.cut (by rw [hl]; exact hle)
  · split at hn
    · rename_i h0; omega
    · cases B with
      | none => have := h.nil rfl; omega
      | some a => simp at hn
theorem grow_b {w0 w wa : World} {amt n cap x : Nat} {k : Int} {A : Option Addr} {l : List (Nat × Nat)} (hs : SV wa 2 A n cap (l.map encRt)) (hl : OkF l) (ha : amt ≤ 4000000000000000000) (hb : Below wa.heap.size wa w) (h : Below w0.heap.size w0 w) (hg : growN amt l = (x, k)) :
    Calls Tryd.prog 26 #[.int .i64 amt, .slice A n cap] w fun e w' => e = .returned (.tuple #[.int .i64 (x : Int), errV k]) ∧ Below w0.heap.size w0 w' := by
  refine (grow_any amt A n cap l w (hs.below hb) hl ha).mono ?_
  rintro e w' ⟨rfl, hb'⟩
  rw [hg]
  exact ⟨rfl, chain h hb'⟩

set_option maxRecDepth 100000 in
set_option maxHeartbeats 4000000 in
theorem all_any (f : Int) (A B : Option Addr) (cap nF capF : Nat) (M : List Rw) (F : List (Nat × Nat)) (w : World) (hs : MV w A M.length cap M) (hsF : SV w 2 B nF capF (F.map encRt)) (hF : OkF F) (hr : rightC f (allM M) = true) (hnF : M.length = nF + 1) :
    Calls Tryd.prog 23 #[.agg #[.int .i64 f, .slice A M.length cap], .slice B nF capF] w (AllP w (allN F (allM M))) := by
  have HS := hide hs
  have HSF := hide hsF
  have HF := hide hF
  have HR := hide hr
  have hok := right_okC hr
  have hbd := right_bounds hr
  rw [allM_len] at hbd
  have HOK := hide hok
  have hmF := hsF.le
  have hmF2 := hsF.most
  unfold maxLen at hmF2
  have HNF := hide hnF
  have hnF20 : nF ≤ 19 := by omega
  clear hs hsF hF hr hok hnF
  go_enter Tryd.func23, Tryd.ntmps23
  go_wp2_with fail
  obtain ⟨w1, hw1⟩ : ∃ W, w.alloc (.cells #[.int .i64 f, .slice A M.length cap] 24) = W := ⟨_, rfl⟩
  have h1 : Below w.heap.size w w1 := by rw [← hw1]; exact (Below.refl _ _).alloc (Nat.le_refl _) _
  rw [hw1]
  have H1 := hide h1
  clear hw1 h1
  go_loopw [6, 15] (fun o q wr => ∃ (j : Nat) (A' : Option Addr) (c' : Nat) (out : List Nat), j ≤ M.length ∧ out.length = j ∧ q = .int .i64 j ∧ o = .slice A' j c' ∧ OwnS wr w.heap.size 3 1 A' j c' ((castL out).map encI) ∧ AllRel F (allM M) j out ∧ Below w.heap.size w wr) (fun _ q _ => M.length - (RowKit.intOf q).toNat)
  case atStart => exact ⟨0, none, 0, [], Nat.zero_le _, rfl, rfl, rfl, OwnS.nil_ _ _ _ _, AllRel.start _ _, H1.out⟩
  case round =>
    obtain ⟨j, A', c', out, hj, hol, rfl, rfl, hown, hrel2, hb⟩ := hrel
    have HB := hide hb
    have HO := hide hown
    have HREL := hide hrel2
    have HOL := hide hol
    clear hown hrel2 hol
    by_cases hlt : j < M.length
    · obtain ⟨r, hrr⟩ := get_of hlt
      obtain ⟨bb, off, rfl, hbl, c0⟩ := (HS.out.sv.sl.below hb).rw hrr
      have hrl := right_row HR.out (allM_get hrr)
      rw [allM_len] at hrl
      have hrow := HS.out.rows r (List.mem_of_getElem? hrr)
      have hrm : r.l ∈ allM M := List.mem_map.2 ⟨r, List.mem_of_getElem? hrr, rfl⟩
      obtain ⟨p, hp⟩ : ∃ p, r.l.length = p + 1 := ⟨r.l.length - 1, by omega⟩
      obtain ⟨v, hv⟩ := get_of (l := r.l) (k := p) (by omega)
      obtain ⟨b1, o1, hA1, hb1, x0⟩ := hrow.sl.i hv
      have hvn := celN_eq (HOK.out.2 r.l hrm) hv
      have hvb := celN_le (HOK.out.2 r.l hrm) p
      have hpn : p ≤ nF := by have := HNF.out; omega
      have hcut := hsCut HSF.out hpn
      obtain ⟨Bc, hBc⟩ : ∃ z, (if capF = p then B else B.map (·.add (p * 2))) = z := ⟨_, rfl⟩
      rw [hBc] at hcut
      obtain ⟨a, ha⟩ : ∃ a, celN r.l p = a := ⟨_, rfl⟩
      rw [hvn, ha] at x0
      rw [ha] at hvb
      obtain ⟨g, hg⟩ : ∃ g, growN a (F.drop p) = g := ⟨_, rfl⟩
      obtain ⟨x, k⟩ := g
      have hgc : k = 0 ∨ k = 5 := by
        have := grow_code (F.drop p) a
        rw [hg] at this
        rcases this with h | ⟨h, _⟩
        · exact .inl h
        · exact .inr h
      have hg2 : growN (celN r.l (r.l.length - 1)) (F.drop (r.l.length - 1)) = (x, k) := by rw [hp, Nat.add_sub_cancel, ha, hg]
      have HG := hide hg
      have HG2 := hide hg2
      have HGET := hide (allM_get hrr)
      have HCUT := hide hcut
      have hk0 : (0 : Int) ≤ (j : Int) := by omega
      have hk1 : (j : Int) < (M.length : Int) := by omega
      have hlen : (r.l.length : Int) = (p : Int) + 1 := by omega
      have x0w := kept hb x0
      rw [hA1] at c0
      rw [hp] at c0
      have hp0 : (0 : Int) ≤ (p : Int) := by omega
      have hp1 : (p : Int) < (p : Int) + 1 := by omega
      have hp2 : (p : Int) ≤ (nF : Int) := by omega
      have hp3 : (nF : Int) ≤ (capF : Int) := by omega
      have hp4 : p ≤ 20 := by omega
      have hdrop : OkF (F.drop p) := okF_drop HF.out p
      have HD := hide hdrop
      clear hb hrr hrow hrm hv hvn ha hg hg2 hcut hA1 hp hrl hlen hdrop x0
      rcases hgc with rfl | rfl
      · go_upto_region 6 with fail
        refine wp_region_class (fun W => Below wr.heap.size wr W) (by kernel_rfl) (by kernel_rfl) (Below.refl _ _).drew ?_
        repeat (first
          | go_big_quiet_skip
          | (go_big_quiet_want
             first
               | (go_big_quiet_op
                  go_big_quiet_on)
               | (refine quiet_call (v := .tuple #[.int .i64 (x : Int), .nilIface]) (f := 26) (args := #[.int .i64 (a : Int), .slice Bc (nF - p) (capF - p)]) ?_ ?_ ?_
                  · intro W hW
                    have x0w := kept hW x0w
                    clear hW
                    go_simp
                    done
                  · intro W hW
                    exact grow_b HCUT.out HD.out (by omega) (chain HB.out hW) hW HG.out
                  simp only [Act.put, List.setIfInBounds_toArray, List.set_cons_zero, List.set_cons_succ]
                  go_big_quiet_on)
               | (refine quiet_yield (v := ?_) ?_ ?_
                  rotate_left
                  · intro W hW
                    have x0w := kept hW x0w
                    clear hW
                    go_simp
                    try with_reducible rfl
                  simp only [Act.put, List.setIfInBounds_toArray, List.set_cons_zero, List.set_cons_succ]
                  go_big_quiet_on)))
        refine wpQuiet_nil ?_
        intro W hW
        have HW := hide (chain HB.out hW)
        have hown2 := (HO.out.below hW).alloc (.cells #[.int .i64 (x : Int)] 3)
        have hbz := HW.out.size
        have hb3 := HW.out.alloc hbz (.cells #[.int .i64 (x : Int)] 3)
        have HN := hide (HREL.out.next HGET.out HG2.out)
        clear hW c0 x0w
        go_wp2_with (at_builtin; refine wpList_app rfl (.tmp 40) (.tmp 42) 33 rfl elInt (B := w.heap.size) (news := (castL [x]).map encI) rfl hown2 rfl rfl (sl_of_blk (Blk.new W 3 #[.int .i64 (x : Int)])) (okI _) (by unfold maxLen; omega) (by omega) (by simp; omega) ?_; intro A2 c2 w3 ho hg hA)
        have HO2 := hide ho
        have H3 := hide (hb3.grown hg (by simp; omega) (fun k e => (hown2.lt k e).1))
        clear ho hg hA hown2 hb3
        go_roundw
        case rel => exact ⟨j + 1, A2, c2, out ++ [x], by omega, by simp [HOL.out], by go_num, rfl, by rw [castL, List.map_append, List.map_append]; exact HO2.out, HN.out, H3.out⟩
        case measure => simp [RowKit.intOf]; omega
      · go_upto_region 6 with fail
        refine wp_region_class (fun W => Below wr.heap.size wr W) (by kernel_rfl) (by kernel_rfl) (Below.refl _ _).drew ?_
        repeat (first
          | go_big_quiet_skip
          | (go_big_quiet_want
             first
               | (go_big_quiet_op
                  go_big_quiet_on)
               | (refine quiet_call (v := .tuple #[.int .i64 (x : Int), .iface 58 (.agg #[.int .i64 5])]) (f := 26) (args := #[.int .i64 (a : Int), .slice Bc (nF - p) (capF - p)]) ?_ ?_ ?_
                  · intro W hW
                    have x0w := kept hW x0w
                    clear hW
                    go_simp
                    done
                  · intro W hW
                    exact grow_b HCUT.out HD.out (by omega) (chain HB.out hW) hW HG.out
                  simp only [Act.put, List.setIfInBounds_toArray, List.set_cons_zero, List.set_cons_succ]
                  go_big_quiet_on)
               | (refine quiet_yield (v := ?_) ?_ ?_
                  rotate_left
                  · intro W hW
                    have x0w := kept hW x0w
                    clear hW
                    go_simp
                    try with_reducible rfl
                  simp only [Act.put, List.setIfInBounds_toArray, List.set_cons_zero, List.set_cons_succ]
                  go_big_quiet_on)))
        refine wpQuiet_nil ?_
        intro W hW
        have HW := hide (chain HB.out hW)
        have HN := hide (HREL.out.stop_ HGET.out HG2.out)
        clear hW c0 x0w
        go_wp2_with fail
        go_ret2
        rw [HN.out]
        exact ⟨fun h => absurd h (by decide), fun _ => ⟨j, rfl⟩, HW.out⟩
    · obtain rfl : j = M.length := by omega
      have hk1 : ¬ (((M.length : Nat) : Int) < (M.length : Int)) := by omega
      have HN := hide (show allN F (allM M) = (out, 0) from AllRel.done (by rw [allM_len]; exact HREL.out))
      go_wp2_with fail
      go_ret2
      rw [HN.out]
      refine ⟨fun _ => ⟨A', c', by simp only [HOL.out]; rfl, by simp only [HOL.out]; exact HO.out⟩, fun h => absurd rfl h, HB.out⟩
end Go.Proofs.YtndfgglnhkdciaaDoor
