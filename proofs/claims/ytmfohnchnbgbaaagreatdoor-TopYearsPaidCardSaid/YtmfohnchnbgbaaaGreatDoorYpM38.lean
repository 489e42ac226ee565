/- Part 38 of the proof. -/
import Derived.BigQuiet
import Derived.LaidEql
import Derived.Stop.Asserts
import Derived.RowKitTokens
import Derived.Test.YtmfohnchnbgbaaaGreatDoorYpM04
import Derived.Test.YtmfohnchnbgbaaaGreatDoorYpM37
/- All years gone on with: the program's. -/
namespace Go.Proofs.YtmfohnchnbgbaaaGreatDoor
open Go.RowKit Go.BigFrame

def castL (l : List Nat) : List Int := l.map fun x : Nat => (x : Int)
theorem castL_len (l : List Nat) : (castL l).length = l.length := List.length_map _
/-- What all rows become, as the program gives it. -/
def AllP (w : World) (s : List Nat × Int) (e : Ending) (w' : World) : Prop :=
  (s.2 = 0 → ∃ A' c', e = .returned (.tuple #[.slice A' s.1.length c', .nilIface]) ∧ OwnS w' w.heap.size 3 1 A' s.1.length c' ((castL s.1).map encI)) ∧
  (s.2 ≠ 0 → ∃ i : Nat, e = .returned (.tuple #[.slice none 0 0, .iface 142 (.agg #[.int .i64 (i : Int), .iface 144 (.agg #[.int .i64 s.2])])])) ∧ Below w.heap.size w w'
theorem allN_code (F : List (Nat × Nat)) : ∀ (c : List (List Int)), (allN F c).2 = 0 ∨ ((allN F c).2 = 5 ∧ (allN F c).1 = [])
  | [] => .inl rfl
  | l :: r => by
    simp only [allN]
    split
    · rcases allN_code F r with h | ⟨h, h'⟩
      · rw [h, if_pos rfl]; exact .inl rfl
      · rw [h, if_neg (by decide)]; exact .inr ⟨rfl, rfl⟩
    · rename_i h
      rcases grow_code (F.drop (l.length - 1)) (celN l (l.length - 1)) with h1 | ⟨h1, _⟩
      · exact absurd h1 h
      · rw [h1]; exact .inr ⟨rfl, rfl⟩
/-- j rows have been gone on with. -/
def AllRel (F : List (Nat × Nat)) (c : List (List Int)) (j : Nat) (out : List Nat) : Prop := allN F c = (let s := allN F (c.drop j); if s.2 = 0 then (out ++ s.1, 0) else ([], s.2))
theorem AllRel.start (F : List (Nat × Nat)) (c : List (List Int)) : AllRel F c 0 [] := by
  unfold AllRel
  rw [List.drop_zero]
  rcases allN_code F c with h | ⟨h, h'⟩
  · simp only [h, if_pos]; exact Prod.ext rfl h
  · simp only [h]
    exact Prod.ext h' h
theorem AllRel.next {F : List (Nat × Nat)} {c : List (List Int)} {j x : Nat} {out : List Nat} {l : List Int} (h : AllRel F c j out) (hl : c[j]? = some l) (hg : growN (celN l (l.length - 1)) (F.drop (l.length - 1)) = (x, 0)) : AllRel F c (j + 1) (out ++ [x]) := by
  unfold AllRel at h ⊢
  rw [drop_of hl] at h
  simp only [allN, hg, if_pos] at h
  rw [h]
  rcases allN_code F (c.drop (j + 1)) with h1 | ⟨h1, _⟩
  · simp [h1]
  · simp [h1]
theorem AllRel.stop_ {F : List (Nat × Nat)} {c : List (List Int)} {j x : Nat} {out : List Nat} {l : List Int} (h : AllRel F c j out) (hl : c[j]? = some l) (hg : growN (celN l (l.length - 1)) (F.drop (l.length - 1)) = (x, 5)) : allN F c = ([], 5) := by
  unfold AllRel at h
  rw [drop_of hl] at h
  simp only [allN, hg] at h
  rw [h]; rfl
theorem AllRel.done {F : List (Nat × Nat)} {c : List (List Int)} {out : List Nat} (h : AllRel F c c.length out) : allN F c = (out, 0) := by
  unfold AllRel at h
  rw [List.drop_length] at h
  rw [h]; simp [allN]

/-- What l[k:] reads as. -/
theorem hsCut {w : World} {B : Option Addr} {n cap p : Nat} {F : List (Nat × Nat)} (h : SV w 2 B n cap (F.map encRt)) (hp : p ≤ n) : SV w 2 (if cap = p then B else B.map (·.add (p * 2))) (n - p) (cap - p) ((F.drop p).map encRt) := by
  have hl := h.len
  have hle := h.le
  have hm := h.most
  have hFl : F.length = n := by simpa using hl
  refine ⟨?_, by rw [List.length_map, List.length_drop, hFl], by omega, by omega, fun hn => ?_⟩
  · rw [List.map_drop]
    exact h.sl.cut (by rw [hl]; exact hle)
  · split at hn
    · rename_i h0; omega
    · cases B with
      | none => have := h.nil rfl; omega
      | some a => simp at hn
theorem grow_b {w0 w wa : World} {amt n cap x : Nat} {k : Int} {A : Option Addr} {l : List (Nat × Nat)} (hs : SV wa 2 A n cap (l.map encRt)) (hl : OkF l) (ha : amt ≤ 4000000000000000000) (hb : Below wa.heap.size wa w) (h : Below w0.heap.size w0 w) (hg : growN amt l = (x, k)) :
    Calls Tryz.prog 52 #[.int .i64 amt, .slice A n cap] w fun e w' => e = .returned (.tuple #[.int .i64 (x : Int), errV k]) ∧ Below w0.heap.size w0 w' := by
  refine (grow_any amt A n cap l w (hs.below hb) hl ha).mono ?_
  rintro e w' ⟨rfl, hb'⟩
  rw [hg]
  exact ⟨rfl, chain h hb'⟩

set_option maxRecDepth 100000 in
set_option maxHeartbeats 4000000 in
theorem all_any (f : Int) (A B : Option Addr) (cap nF capF : Nat) (M : List Rw) (F : List (Nat × Nat)) (w : World) (hs : MV w A M.length cap M) (hsF : SV w 2 B nF capF (F.map encRt)) (hF : OkF F) (hr : rightC f (allM M) = true) (hnF : M.length = nF + 1) :
    Calls Tryz.prog 27 #[.agg #[.int .i64 f, .slice A M.length cap], .slice B nF capF] w (AllP w (allN F (allM M))) := by
  have HS := hide hs
  have HSF := hide hsF
  have HF := hide hF
  have HR := hide hr
  have hok := right_okC hr
  have hbd := right_bounds hr
  rw [allM_len] at hbd
  have HOK := hide hok
  have hmF := hsF.le
  have hmF2 := hsF.most
  unfold maxLen at hmF2
  have HNF := hide hnF
  have hnF20 : nF ≤ 19 := by omega
  clear hs hsF hF hr hok hnF
  go_enter Tryz.func27, Tryz.ntmps27
  go_wp2_with fail
  obtain ⟨w1, hw1⟩ : ∃ W, w.alloc (.cells #[.int .i64 f, .slice A M.length cap] 33) = W := ⟨_, rfl⟩
  have h1 : Below w.heap.size w w1 := by rw [← hw1]; exact (Below.refl _ _).alloc (Nat.le_refl _) _
  rw [hw1]
  have H1 := hide h1
  clear hw1 h1
  go_loopw [6, 15] (fun o q wr => ∃ (j : Nat) (A' : Option Addr) (c' : Nat) (out : List Nat), j ≤ M.length ∧ out.length = j ∧ q = .int .i64 j ∧ o = .slice A' j c' ∧ OwnS wr w.heap.size 3 1 A' j c' ((castL out).map encI) ∧ AllRel F (allM M) j out ∧ Below w.heap.size w wr) (fun _ q _ => M.length - (RowKit.intOf q).toNat)
  case atStart => exact ⟨0, none, 0, [], Nat.zero_le _, rfl, rfl, rfl, OwnS.nil_ _ _ _ _, AllRel.start _ _, H1.out⟩
  case round =>
    obtain ⟨j, A', c', out, hj, hol, rfl, rfl, hown, hrel2, hb⟩ := hrel
    have HB := hide hb
    have HO := hide hown
    have HREL := hide hrel2
    have HOL := hide hol
    clear hown hrel2 hol
    by_cases hlt : j < M.length
    · obtain ⟨r, hrr⟩ := get_of hlt
      obtain ⟨bb, off, rfl, hbl, c0⟩ := (HS.out.sv.sl.below hb).rw hrr
      have hrl := right_row HR.out (allM_get hrr)
      rw [allM_len] at hrl
      have hrow := HS.out.rows r (List.mem_of_getElem? hrr)
      have hrm : r.l ∈ allM M := List.mem_map.2 ⟨r, List.mem_of_getElem? hrr, rfl⟩
      obtain ⟨p, hp⟩ : ∃ p, r.l.length = p + 1 := ⟨r.l.length - 1, by omega⟩
      obtain ⟨v, hv⟩ := get_of (l := r.l) (k := p) (by omega)
      obtain ⟨b1, o1, hA1, hb1, x0⟩ := hrow.sl.i hv
      have hvn := celN_eq (HOK.out.2 r.l hrm) hv
      have hvb := celN_le (HOK.out.2 r.l hrm) p
      have hpn : p ≤ nF := by have := HNF.out; omega
      have hcut := hsCut HSF.out hpn
      obtain ⟨Bc, hBc⟩ : ∃ z, (if capF = p then B else B.map (·.add (p * 2))) = z := ⟨_, rfl⟩
      rw [hBc] at hcut
      obtain ⟨a, ha⟩ : ∃ a, celN r.l p = a := ⟨_, rfl⟩
      rw [hvn, ha] at x0
      rw [ha] at hvb
      obtain ⟨g, hg⟩ : ∃ g, growN a (F.drop p) = g := ⟨_, rfl⟩
      obtain ⟨x, k⟩ := g
      have hgc : k = 0 ∨ k = 5 := by
        have := grow_code (F.drop p) a
        rw [hg] at this
        rcases this with h | ⟨h, _⟩
        · exact .inl h
        · exact .inr h
      have hg2 : growN (celN r.l (r.l.length - 1)) (F.drop (r.l.length - 1)) = (x, k) := by rw [hp, Nat.add_sub_cancel, ha, hg]
      have HG := hide hg
      have HG2 := hide hg2
      have HGET := hide (allM_get hrr)
      have HCUT := hide hcut
      have hk0 : (0 : Int) ≤ (j : Int) := by omega
      have hk1 : (j : Int) < (M.length : Int) := by omega
      have hlen : (r.l.length : Int) = (p : Int) + 1 := by omega
      have x0w := kept hb x0
      rw [hA1] at c0
      rw [hp] at c0
      have hp0 : (0 : Int) ≤ (p : Int) := by omega
      have hp1 : (p : Int) < (p : Int) + 1 := by omega
      have hp2 : (p : Int) ≤ (nF : Int) := by omega
      have hp3 : (nF : Int) ≤ (capF : Int) := by omega
      have hp4 : p ≤ 20 := by omega
      have hdrop : OkF (F.drop p) := okF_drop HF.out p
      have HD := hide hdrop
      clear hb hrr hrow hrm hv hvn ha hg hg2 hcut hA1 hp hrl hlen hdrop x0
      rcases hgc with rfl | rfl
      · go_upto_region 6 with fail
        refine wp_region_class (fun W => Below wr.heap.size wr W) (by kernel_rfl) (by kernel_rfl) (Below.refl _ _).drew ?_
        repeat (first
          | go_big_quiet_skip
          | (go_big_quiet_want
             first
               | (go_big_quiet_op
                  go_big_quiet_on)
               | (refine quiet_call (v := .tuple #[.int .i64 (x : Int), .nilIface]) (f := 52) (args := #[.int .i64 (a : Int), .slice Bc (nF - p) (capF - p)]) ?_ ?_ ?_
                  · intro W hW
                    have x0w := kept hW x0w
                    clear hW
                    go_simp
                    done
                  · intro W hW
                    exact grow_b HCUT.out HD.out (by omega) (chain HB.out hW) hW HG.out
                  simp only [Act.put, List.setIfInBounds_toArray, List.set_cons_zero, List.set_cons_succ]
                  go_big_quiet_on)
               | (refine quiet_yield (v := ?_) ?_ ?_
                  rotate_left
                  · intro W hW
                    have x0w := kept hW x0w
                    clear hW
                    go_simp
                    try with_reducible rfl
                  simp only [Act.put, List.setIfInBounds_toArray, List.set_cons_zero, List.set_cons_succ]
                  go_big_quiet_on)))
        refine wpQuiet_nil ?_
        intro W hW
        have HW := hide (chain HB.out hW)
        have hown2 := (HO.out.below hW).alloc (.cells #[.int .i64 (x : Int)] 3)
        have hbz := HW.out.size
        have hb3 := HW.out.alloc hbz (.cells #[.int .i64 (x : Int)] 3)
        have HN := hide (HREL.out.next HGET.out HG2.out)
        clear hW c0 x0w
        go_wp2_with (at_builtin; refine wpList_app rfl (.tmp 40) (.tmp 42) 36 rfl elInt (B := w.heap.size) (news := (castL [x]).map encI) rfl hown2 rfl rfl (sl_of_blk (Blk.new W 3 #[.int .i64 (x : Int)])) (okI _) (by unfold maxLen; omega) (by omega) (by simp; omega) ?_; intro A2 c2 w3 ho hg hA)
        have HO2 := hide ho
        have H3 := hide (hb3.grown hg (by simp; omega) (fun k e => (hown2.lt k e).1))
        clear ho hg hA hown2 hb3
        go_roundw
        case rel => exact ⟨j + 1, A2, c2, out ++ [x], by omega, by simp [HOL.out], by go_num, rfl, by rw [castL, List.map_append, List.map_append]; exact HO2.out, HN.out, H3.out⟩
        case measure => simp [RowKit.intOf]; omega
      · go_upto_region 6 with fail
        refine wp_region_class (fun W => Below wr.heap.size wr W) (by kernel_rfl) (by kernel_rfl) (Below.refl _ _).drew ?_
        repeat (first
          | go_big_quiet_skip
          | (go_big_quiet_want
             first
               | (go_big_quiet_op
                  go_big_quiet_on)
               | (refine quiet_call (v := .tuple #[.int .i64 (x : Int), .iface 144 (.agg #[.int .i64 5])]) (f := 52) (args := #[.int .i64 (a : Int), .slice Bc (nF - p) (capF - p)]) ?_ ?_ ?_
                  · intro W hW
                    have x0w := kept hW x0w
                    clear hW
                    go_simp
                    done
                  · intro W hW
                    exact grow_b HCUT.out HD.out (by omega) (chain HB.out hW) hW HG.out
                  simp only [Act.put, List.setIfInBounds_toArray, List.set_cons_zero, List.set_cons_succ]
                  go_big_quiet_on)
               | (refine quiet_yield (v := ?_) ?_ ?_
                  rotate_left
                  · intro W hW
                    have x0w := kept hW x0w
                    clear hW
                    go_simp
                    try with_reducible rfl
                  simp only [Act.put, List.setIfInBounds_toArray, List.set_cons_zero, List.set_cons_succ]
                  go_big_quiet_on)))
        refine wpQuiet_nil ?_
        intro W hW
        have HW := hide (chain HB.out hW)
        have HN := hide (HREL.out.stop_ HGET.out HG2.out)
        clear hW c0 x0w
        go_wp2_with fail
        go_ret2
        rw [HN.out]
        exact ⟨fun h => absurd h (by decide), fun _ => ⟨j, rfl⟩, HW.out⟩
    · obtain rfl : j = M.length := by omega
      have hk1 : ¬ (((M.length : Nat) : Int) < (M.length : Int)) := by omega
      have HN := hide (show allN F (allM M) = (out, 0) from AllRel.done (by rw [allM_len]; exact HREL.out))
      go_wp2_with fail
      go_ret2
      rw [HN.out]
      refine ⟨fun _ => ⟨A', c', by simp only [HOL.out]; rfl, by simp only [HOL.out]; exact HO.out⟩, fun h => absurd rfl h, HB.out⟩
end Go.Proofs.YtmfohnchnbgbaaaGreatDoor

/- errors.As at this program's errors. -/
namespace Go.Proofs.YtmfohnchnbgbaaaGreatDoor
open Go.RowKit Go.Extern.Stop Go.Stop Go.Extern

theorem as_nil (t : Value) (w : World) : Calls Tryz.prog 53 #[.nilIface, t] w fun e w' => e = .returned (.bool false) ∧ w' = w := by
  go_enter Tryz.func53, Tryz.ntmps53
  go_wp2
  go_ret
  exact ⟨rfl, rfl⟩

/-! ### Closed facts on the model's entries for internal/reflectlite, at this program's types -/
theorem rl_valueOf60 (t : Addr) (w : World) : (ReflectliteValue.unpack (.iface 146 (.pointer (some t)))).run Tryz.prog w
    = .ok (.agg #[.pointer (some ⟨3, 146, none⟩), .pointer (some ⟨w.heap.size, 0, none⟩), .int .u64 150]) (w.alloc (.cells #[.pointer (some t)] 146)) := by kernel_rfl
theorem rl_type60 (a : Addr) (w : World) : (ReflectliteValue.methodAny (ReflectliteValue.valueError "reflectlite.Value.Type" 0) (fun t _ _ _ => ReflectliteType.toType t) #[.agg #[.pointer (some ⟨3, 146, none⟩), .pointer (some a), .int .u64 150]]).run Tryz.prog w
    = .ok (.iface 249 (.agg #[.pointer (some ⟨3, 146, none⟩)])) w := by kernel_rfl
theorem rl_kind60 (w : World) : ((ReflectliteType.abiMethod fun t => (fun a : Nat => Value.int IntKind.u8 (a : Int)) <$> Rtype.kind t) #[.pointer (some ⟨3, 146, none⟩)]).run Tryz.prog w = .ok (.int .u8 22) w := by kernel_rfl
theorem rl_kind58 (w : World) : ((ReflectliteType.abiMethod fun t => (fun a : Nat => Value.int IntKind.u8 (a : Int)) <$> Rtype.kind t) #[.pointer (some ⟨3, 144, none⟩)]).run Tryz.prog w = .ok (.int .u8 25) w := by kernel_rfl
theorem rlm (z : Sem Value) (f : TypeId → Addr → Nat → Nat → Sem Value) (v : Value) :
    ReflectliteValue.method z f #[v] = (do match ← ReflectliteValue.parts v with | none => z | some (t, a, fl) => f t a fl (fl % 32)) := rfl
theorem rl_parts60 (a : Addr) (w : World) : (ReflectliteValue.parts (.agg #[.pointer (some ⟨3, 146, none⟩), .pointer (some a), .int .u64 150])).run Tryz.prog w = .ok (some (146, a, 150)) w := by kernel_rfl
theorem rl_isNil60 (a p : Addr) (W : World) (ha : W.cell? a = some (.pointer (some p))) :
    (ReflectliteValue.method (ReflectliteValue.valueError "reflectlite.Value.IsNil" 0) ReflectliteValue.isNil #[.agg #[.pointer (some ⟨3, 146, none⟩), .pointer (some a), .int .u64 150]]).run Tryz.prog W = .ok (.bool false) W := by
  rw [rlm]
  simp only [Sem.run_bind, rl_parts60, Result.andThen]
  simp [ReflectliteValue.isNil, loadVar, isAgg, underlying, Tryz.underlying146, ha, Result.andThen]
theorem rl_elem60 (w : World) : (ReflectliteType.method ReflectliteType.elem #[.agg #[.pointer (some ⟨3, 146, none⟩)]]).run Tryz.prog w = .ok (.iface 249 (.agg #[.pointer (some ⟨3, 144, none⟩)])) w := by kernel_rfl
theorem rl_implements58 (w : World) : (ReflectliteType.relation "Implements" ReflectliteType.implements_ #[.agg #[.pointer (some ⟨3, 144, none⟩)], .iface 249 (.agg #[.pointer (some ⟨3, 90, none⟩)])]).run Tryz.prog w = .ok (.bool true) w := by kernel_rfl
theorem rl_typeOf (T : TypeId) (v : Value) (w : World) (h : T = 144 ∨ T = 142) : (ReflectliteType.typeOf #[.iface T v]).run Tryz.prog w = .ok (.iface 249 (.agg #[.pointer (some ⟨3, T, none⟩)])) w := by
  rcases h with rfl | rfl <;> kernel_rfl
theorem rl_assign58 (w : World) : (ReflectliteType.relation "AssignableTo" ReflectliteType.assignableTo #[.agg #[.pointer (some ⟨3, 144, none⟩)], .iface 249 (.agg #[.pointer (some ⟨3, 144, none⟩)])]).run Tryz.prog w = .ok (.bool true) w := by kernel_rfl
theorem rl_assign56 (w : World) : (ReflectliteType.relation "AssignableTo" ReflectliteType.assignableTo #[.agg #[.pointer (some ⟨3, 142, none⟩)], .iface 249 (.agg #[.pointer (some ⟨3, 144, none⟩)])]).run Tryz.prog w = .ok (.bool false) w := by kernel_rfl
theorem rl_valueOf58 (n : Int) (w : World) : (ReflectliteValue.unpack (.iface 144 (.agg #[.int .i64 n]))).run Tryz.prog w
    = .ok (.agg #[.pointer (some ⟨3, 144, none⟩), .pointer (some ⟨w.heap.size, 0, none⟩), .int .u64 153]) (w.alloc (.cells #[.int .i64 n] 144)) := by kernel_rfl
theorem rl_elemOf60 (w : World) : (Rtype.elem? 146).run Tryz.prog w = .ok (some 144) w := by kernel_rfl
theorem rl_mk58 (p : Addr) (w : World) : (ReflectliteValue.mk 144 p ReflectliteValue.flagAddr).run Tryz.prog w = .ok (.agg #[.pointer (some ⟨3, 144, none⟩), .pointer (some p), .int .u64 409]) w := by kernel_rfl
theorem rl_elemV60 (a p : Addr) (W : World) (ha : W.cell? a = some (.pointer (some p))) :
    (ReflectliteValue.method (ReflectliteValue.valueError "reflectlite.Value.Elem" 0) ReflectliteValue.elem #[.agg #[.pointer (some ⟨3, 146, none⟩), .pointer (some a), .int .u64 150]]).run Tryz.prog W
      = .ok (.agg #[.pointer (some ⟨3, 144, none⟩), .pointer (some p), .int .u64 409]) W := by
  rw [rlm]
  simp only [Sem.run_bind, rl_parts60, Result.andThen]
  simp [ReflectliteValue.elem, loadVar, isAgg, underlying, Tryz.underlying146, ha, Result.andThen, rl_elemOf60, rl_mk58]
theorem rl_methodKind (h : Value) (w : World) : (Go.method 417 249 (.agg #[h]) "Kind").run Tryz.prog w = .ok (195, h) w := by kernel_rfl
theorem rl_methodElem (h : Value) (w : World) : (Go.method 417 249 (.agg #[h]) "Elem").run Tryz.prog w = .ok (207, .agg #[h]) w := by kernel_rfl
theorem rl_methodImplements (h : Value) (w : World) : (Go.method 417 249 (.agg #[h]) "Implements").run Tryz.prog w = .ok (208, .agg #[h]) w := by kernel_rfl
theorem rl_methodAssignableTo (h : Value) (w : World) : (Go.method 417 249 (.agg #[h]) "AssignableTo").run Tryz.prog w = .ok (205, .agg #[h]) w := by kernel_rfl
theorem rl_methodUnwrap (a b : Value) (w : World) : (Go.method 417 142 (.agg #[a, b]) "Unwrap").run Tryz.prog w = .ok (199, .agg #[a, b]) w := by kernel_rfl
theorem rls (v x : Value) : ReflectliteValue.set #[v, x] = (do
    let (some (dst, a, fl), some (src, b, _)) := (← ReflectliteValue.parts v, ← ReflectliteValue.parts x)
      | unsupported (.noEntry "extern/(internal/reflectlite.Value).Set.zeroValue")
    if fl / ReflectliteValue.flagAddr % 2 == 0 then unsupported (.noEntry "extern/(internal/reflectlite.Value).Set.unaddressable")
    let val ← loadVar src b
    if ← Rtype.directlyAssignable dst src then storeVar dst a val
    else if ← Rtype.implements dst src then
      if (← Rtype.kind src) == 20 then
        match val with
        | .nilIface => unsupported (.noEntry "extern/reflectlite: a nil value of one interface type handed on as a value of another")
        | _ => storeVar dst a val
      else storeVar dst a (.iface src val)
    else panicString ("reflectlite.Set: value of type " ++ (← Rtype.spelt src) ++ " is not assignable to type " ++ (← Rtype.spelt dst))
    pure (.tuple #[])) := rfl
theorem rl_parts58a (a : Addr) (w : World) : (ReflectliteValue.parts (.agg #[.pointer (some ⟨3, 144, none⟩), .pointer (some a), .int .u64 409])).run Tryz.prog w = .ok (some (144, a, 409)) w := by kernel_rfl
theorem rl_parts58 (a : Addr) (w : World) : (ReflectliteValue.parts (.agg #[.pointer (some ⟨3, 144, none⟩), .pointer (some a), .int .u64 153])).run Tryz.prog w = .ok (some (144, a, 153)) w := by kernel_rfl
theorem rl_direct58 (w : World) : (Rtype.directlyAssignable 144 144).run Tryz.prog w = .ok true w := by kernel_rfl
/-- (Value).Set: the fault at t gets what the Value's own variable at b holds. -/
theorem rl_set58 (t b : Nat) (n : Int) (old : Value) (W : World) (hb : Blk W b 144 #[.int .i64 n]) (ht : W.cell? ⟨t, 0, none⟩ = some old) (hf : W.frozen? ⟨t, 0, none⟩ = false) :
    (ReflectliteValue.set #[.agg #[.pointer (some ⟨3, 144, none⟩), .pointer (some ⟨t, 0, none⟩), .int .u64 409], .agg #[.pointer (some ⟨3, 144, none⟩), .pointer (some ⟨b, 0, none⟩), .int .u64 153]]).run Tryz.prog W
      = .ok (.tuple #[]) (W.setCell ⟨t, 0, none⟩ (.int .i64 n)) := by
  rw [rls]
  simp only [Sem.run_bind, rl_parts58a, rl_parts58, Result.andThen]
  simp [ReflectliteValue.flagAddr, run_loadVar_row W b 144 144 #[.int .i64 n] (0, 0) _ hb Tryz.underlying144 rfl (by kernel_rfl), Result.andThen, rl_direct58, storeVar, Value.cells, storeCells, Addr.add]
  rw [run_store Tryz.prog W ⟨t, 0, none⟩ _ _ (by rfl)]
  simp [ht, hf]
end Go.Proofs.YtmfohnchnbgbaaaGreatDoor

/- errors.As at this program's errors: the walk. -/
namespace Go.Proofs.YtmfohnchnbgbaaaGreatDoor
open Go.RowKit Go.Extern.Stop Go.Stop Go.Extern

theorem at_noAs (v : Value) (xT : TypeId) (w : World) : (Instr.typeAssert (.iface 142 v) xT 254 true).run Tryz.prog w = .ok (.tuple #[.nilIface, .bool false]) w := run_typeAssert_lacksB Tryz.underlying254 (by kernel_rfl) (by kernel_rfl) v xT w
theorem at_unwraps (v : Value) (xT : TypeId) (w : World) : (Instr.typeAssert (.iface 142 v) xT 257 true).run Tryz.prog w = .ok (.tuple #[.iface 142 v, .bool true]) w := run_typeAssert_hasB Tryz.underlying257 (by kernel_rfl) v xT w
set_option maxRecDepth 100000 in
set_option maxHeartbeats 4000000 in
theorem as_any (i : Int) (t : Nat) (w : World) (hg : w.cell? ⟨0, 0, none⟩ = some (.iface 249 (.agg #[.pointer (some ⟨3, 90, none⟩)]))) (ht : Blk w t 144 #[.int .i64 0]) :
    Calls Tryz.prog 53 #[.iface 142 (.agg #[.int .i64 i, .iface 144 (.agg #[.int .i64 5])]), .iface 146 (.pointer (some ⟨t, 0, none⟩))] w
      fun e w' => e = .returned (.bool true) ∧ Blk w' t 144 #[.int .i64 5] ∧ Below t w w' := by
  have x31 := @run_callFunc_extern Tryz.prog 92 _ (fun args => ReflectliteValue.unpack (args.getD 0 (.tuple #[]))) Tryz.func92 (by kernel_rfl) (by kernel_rfl) (by kernel_rfl) (by kernel_rfl)
  have x32 := @run_callFunc_extern Tryz.prog 93 _ (ReflectliteValue.methodAny (ReflectliteValue.valueError "reflectlite.Value.Type" 0) (fun t _ _ _ => ReflectliteType.toType t)) Tryz.func93 (by kernel_rfl) (by kernel_rfl) (by kernel_rfl) (by kernel_rfl)
  have x33 := @run_callFunc_extern Tryz.prog 94 _ (ReflectliteValue.method (ReflectliteValue.valueError "reflectlite.Value.IsNil" 0) ReflectliteValue.isNil) Tryz.func94 (by kernel_rfl) (by kernel_rfl) (by kernel_rfl) (by kernel_rfl)
  have x71 := @run_callFunc_extern Tryz.prog 207 _ (ReflectliteType.method ReflectliteType.elem) Tryz.func207 (by kernel_rfl) (by kernel_rfl) (by kernel_rfl) (by kernel_rfl)
  have x72 := @run_callFunc_extern Tryz.prog 208 _ (ReflectliteType.relation "Implements" ReflectliteType.implements_) Tryz.func208 (by kernel_rfl) (by kernel_rfl) (by kernel_rfl) (by kernel_rfl)
  have x37 := @run_callFunc_extern Tryz.prog 140 _ ReflectliteType.typeOf Tryz.func140 (by kernel_rfl) (by kernel_rfl) (by kernel_rfl) (by kernel_rfl)
  have x69 := @run_callFunc_extern Tryz.prog 205 _ (ReflectliteType.relation "AssignableTo" ReflectliteType.assignableTo) Tryz.func205 (by kernel_rfl) (by kernel_rfl) (by kernel_rfl) (by kernel_rfl)
  have x38 := @run_callFunc_extern Tryz.prog 141 _ (ReflectliteValue.method (ReflectliteValue.valueError "reflectlite.Value.Elem" 0) ReflectliteValue.elem) Tryz.func141 (by kernel_rfl) (by kernel_rfl) (by kernel_rfl) (by kernel_rfl)
  have x59 := @run_callFunc_extern Tryz.prog 195 _ (ReflectliteType.abiMethod fun t => do pure (.int .u8 (← Rtype.kind t))) Tryz.func195 (by kernel_rfl) (by kernel_rfl) (by kernel_rfl) (by kernel_rfl)
  have x39 := @run_callFunc_extern Tryz.prog 142 _ ReflectliteValue.set Tryz.func142 (by kernel_rfl) (by kernel_rfl) (by kernel_rfl) (by kernel_rfl)
  have f1 := rl_valueOf60
  have f2 := rl_type60
  have f3 := rl_kind60
  have f4 := rl_kind58
  have f5 := rl_elem60
  have f6 := rl_implements58
  have f7 := rl_assign58
  have f8 := rl_assign56
  have f9 := rl_valueOf58
  have tO1 := fun v w => rl_typeOf 144 v w (Or.inl rfl)
  have tO2 := fun v w => rl_typeOf 142 v w (Or.inr rfl)
  have a1 := at_noAs
  have a2 := at_unwraps
  have g1 := rl_methodKind
  have g2 := rl_methodElem
  have g3 := rl_methodImplements
  have g4 := rl_methodAssignableTo
  have g5 := rl_methodUnwrap
  have hlt : 0 < w.heap.size := block_lt_of_cell hg
  have htl := ht.lt
  have n8 := rl_isNil60 ⟨w.heap.size, 0, none⟩ ⟨t, 0, none⟩ ((w.alloc (.cells #[.pointer (some ⟨t, 0, none⟩)] 146)).alloc (.cells #[.pointer (some ⟨3, 146, none⟩), .pointer (some ⟨w.heap.size, 0, none⟩), .int .u64 150] 197)) (by simp)
  have hg2 : ((w.alloc (.cells #[.pointer (some ⟨t, 0, none⟩)] 146)).alloc (.cells #[.pointer (some ⟨3, 146, none⟩), .pointer (some ⟨w.heap.size, 0, none⟩), .int .u64 150] 197)).cell? ⟨0, 0, none⟩ = some (.iface 249 (.agg #[.pointer (some ⟨3, 90, none⟩)])) := by
    rw [World.cell?_alloc_lt _ _ ⟨0, 0, none⟩ (by simp), World.cell?_alloc_lt _ _ ⟨0, 0, none⟩ hlt]; exact hg
  have el := rl_elemV60 ⟨w.heap.size, 0, none⟩ ⟨t, 0, none⟩ ((((w.alloc (.cells #[.pointer (some ⟨t, 0, none⟩)] 146)).alloc (.cells #[.pointer (some ⟨3, 146, none⟩), .pointer (some ⟨w.heap.size, 0, none⟩), .int .u64 150] 197)).alloc (.cells #[.pointer (some ⟨3, 146, none⟩), .pointer (some ⟨w.heap.size, 0, none⟩), .int .u64 150] 197)).alloc (.cells #[.int .i64 i, .iface 144 (.agg #[.int .i64 5])] 142)) (by rw [World.cell?_alloc_lt _ _ ⟨w.heap.size, 0, none⟩ (by simp; omega), World.cell?_alloc_lt _ _ ⟨w.heap.size, 0, none⟩ (by simp; omega)]; simp)
  have st := rl_set58 t (w.heap.size + 1 + 1 + 1 + 1) 5 (.int .i64 0) (((((w.alloc (.cells #[.pointer (some ⟨t, 0, none⟩)] 146)).alloc (.cells #[.pointer (some ⟨3, 146, none⟩), .pointer (some ⟨w.heap.size, 0, none⟩), .int .u64 150] 197)).alloc (.cells #[.pointer (some ⟨3, 146, none⟩), .pointer (some ⟨w.heap.size, 0, none⟩), .int .u64 150] 197)).alloc (.cells #[.int .i64 i, .iface 144 (.agg #[.int .i64 5])] 142)).alloc (.cells #[.int .i64 5] 144))
    (Blk.new' (by simp))
    (by rw [World.cell?_alloc_lt _ _ ⟨t, 0, none⟩ (by simp; omega), World.cell?_alloc_lt _ _ ⟨t, 0, none⟩ (by simp; omega), World.cell?_alloc_lt _ _ ⟨t, 0, none⟩ (by simp; omega), World.cell?_alloc_lt _ _ ⟨t, 0, none⟩ (by simp; omega), World.cell?_alloc_lt _ _ ⟨t, 0, none⟩ htl]; exact ht.cell 0)
    (by rw [World.frozen?_alloc_old _ _ ⟨t, 0, none⟩ (by simp; omega), World.frozen?_alloc_old _ _ ⟨t, 0, none⟩ (by simp; omega), World.frozen?_alloc_old _ _ ⟨t, 0, none⟩ (by simp; omega), World.frozen?_alloc_old _ _ ⟨t, 0, none⟩ (by simp; omega), World.frozen?_alloc_old _ _ ⟨t, 0, none⟩ (Nat.ne_of_lt htl)]; exact ht.frozen 0)
  go_enter Tryz.func53, Tryz.ntmps53
  go_wp2
  refine wp_loop_rounds 2 ?_
  rw [rounds_succ]
  go_wp2
  rw [rounds_succ]
  go_wp2
  go_ret
  refine ⟨rfl, ?_, ?_⟩
  · have b := (((((ht.alloc (.cells #[.pointer (some ⟨t, 0, none⟩)] 146)).alloc (.cells #[.pointer (some ⟨3, 146, none⟩), .pointer (some ⟨w.heap.size, 0, none⟩), .int .u64 150] 197)).alloc (.cells #[.pointer (some ⟨3, 146, none⟩), .pointer (some ⟨w.heap.size, 0, none⟩), .int .u64 150] 197)).alloc (.cells #[.int .i64 i, .iface 144 (.agg #[.int .i64 5])] 142)).alloc (.cells #[.int .i64 5] 144)).set_ 0 (.int .i64 5)
    exact b
  · refine Below.setCell (p := ⟨t, 0, none⟩) ?_ (Nat.le_refl t) _
    exact (((((Below.refl t w).alloc (by omega) _).alloc (by simp; omega) _).alloc (by simp; omega) _).alloc (by simp; omega) _).alloc (by simp; omega) _
end Go.Proofs.YtmfohnchnbgbaaaGreatDoor

/- The call's error that another error bears; and what years become. -/
namespace Go.Proofs.YtmfohnchnbgbaaaGreatDoor
open Go.RowKit

/-- What reflectlite's own variable for 'error' reads as when the call begins. -/
def Hdl (w : World) : Prop := w.cell? ⟨0, 0, none⟩ = some (.iface 249 (.agg #[.pointer (some ⟨3, 90, none⟩)]))
theorem Hdl.below {w w' : World} (h : Hdl w) (hb : Below w.heap.size w w') : Hdl w' := kept hb h

set_option maxRecDepth 100000 in
theorem found_nil (w : World) : Calls Tryz.prog 28 #[.nilIface] w fun e w' => e = .returned (.int .i64 0) ∧ Below w.heap.size w w' := by
  go_enter Tryz.func28, Tryz.ntmps28
  go_wp2_with fail
  refine (as_nil _ _).mono ?_
  rintro e w1 ⟨rfl, rfl⟩
  go_wp2_with fail
  go_ret
  exact ⟨rfl, (Below.refl _ _).alloc (Nat.le_refl _) _⟩
set_option maxRecDepth 100000 in
theorem found_at (i : Int) (w : World) (hg : Hdl w) : Calls Tryz.prog 28 #[.iface 142 (.agg #[.int .i64 i, .iface 144 (.agg #[.int .i64 5])])] w fun e w' => e = .returned (.int .i64 5) ∧ Below w.heap.size w w' := by
  have hlt : 0 < w.heap.size := block_lt_of_cell hg
  go_enter Tryz.func28, Tryz.ntmps28
  go_wp2_with fail
  refine (as_any i w.heap.size _ (by rw [World.cell?_alloc_lt _ _ ⟨0, 0, none⟩ hlt]; exact hg) (Blk.new _ _ _)).mono ?_
  rintro e w1 ⟨rfl, hblk, hb⟩
  have c0 := hblk.cell 0
  simp only [List.getElem?_toArray, List.getElem?_cons_zero] at c0
  have hb2 : Below w.heap.size w w1 := ((Below.refl _ _).alloc (Nat.le_refl _) _).trans hb
  clear hb hblk
  go_wp2_with fail
  go_ret
  exact ⟨rfl, hb2⟩

/-- What years become, or why not. -/
def ultC (f : Int) (c : List (List Int)) : List Nat × Int := if rightC f c = true then allN (facL c) c else ([], 1)
def UltP (w0 w : World) (s : List Nat × Int) (n : Nat) (e : Ending) (w' : World) : Prop :=
  ∃ A' c', e = .returned (.tuple #[.slice A' n c', .int .i64 s.2]) ∧ OwnS w' w0.heap.size 3 1 A' n c' ((castL s.1).map encI) ∧ Below w0.heap.size w0 w' ∧ Below w.heap.size w w'

set_option maxRecDepth 100000 in
set_option maxHeartbeats 2000000 in
theorem ult_any (f : Int) (A : Option Addr) (cap : Nat) (M : List Rw) (w : World) (hs : MV w A M.length cap M) (hf : ok64 f) (hg : Hdl w) :
    Calls Tryz.prog 8 #[.agg #[.int .i64 f, .slice A M.length cap]] w (UltP w w (ultC f (allM M)) (ultC f (allM M)).1.length) := by
  have HS := hide hs
  have HG := hide hg
  clear hs hg
  go_enter Tryz.func8, Tryz.ntmps8
  go_wp2_with fail
  refine (factors_any f A cap M _ (HS.out.below ((Below.refl _ _).alloc (Nat.le_refl _) _)) hf).mono ?_
  rintro e w1 ⟨hno, hyes, hb, -⟩
  obtain ⟨r, hr⟩ : ∃ b, rightC f (allM M) = b := ⟨_, rfl⟩
  have HR := hide hr
  rw [hr] at hno hyes
  clear hr
  have h1 : Below w.heap.size w w1 := chain1 hb
  cases r
  · obtain rfl := hno rfl
    clear hno hyes hb
    go_wp2_with fail
    go_ret2
    rw [ultC, if_neg (by rw [HR.out]; decide)]
    exact ⟨none, 0, rfl, OwnS.nil_ _ _ _ _, h1, h1⟩
  obtain ⟨A', c', rfl, hown⟩ := hyes rfl
  have t0 := kept hb (b := w.heap.size) (o := 0) (u := .int .i64 f) (by simp)
  have t1 := kept hb (b := w.heap.size) (o := 1) (u := .slice A M.length cap) (by simp)
  have H1 := hide h1
  have hok := right_okC HR.out
  have hbd := right_bounds HR.out
  rw [allM_len] at hbd
  obtain ⟨nF, hnF⟩ : ∃ n, (facL (allM M)).length = n := ⟨_, rfl⟩
  have HOWN := hide hown
  rw [hnF] at HOWN
  rw [hnF]
  have hMn : M.length = nF + 1 := by rw [← hnF, facL_len, allM_len]; omega
  have HOK := hide hok
  have HM := hide hMn
  clear hno hyes hb hown h1 hok hnF hMn
  go_wp2_with fail
  refine (all_any f A A' cap nF c' M (facL (allM M)) _ (HS.out.below H1.out) HOWN.out.sv (okF_facL HOK.out) HR.out HM.out).mono ?_
  rintro e w2 ⟨hz, hnz, hb2⟩
  have h2 := chain H1.out hb2
  have hU : ultC f (allM M) = allN (facL (allM M)) (allM M) := by rw [ultC, if_pos HR.out]
  have hcode := allN_code (facL (allM M)) (allM M)
  obtain ⟨s, hs⟩ : ∃ s, allN (facL (allM M)) (allM M) = s := ⟨_, rfl⟩
  rw [hs] at hz hnz hcode hU
  obtain ⟨L, k⟩ := s
  have H2 := hide h2
  have HB2 := hide hb2
  rcases hcode with hk | ⟨hk, hL⟩
  · simp only at hk
    subst hk
    obtain ⟨A2, c2, rfl, ho⟩ := hz rfl
    have HO := hide ho
    have HU := hide hU
    clear hz hnz ho hU hs h2 hb2
    go_wp2_with fail
    refine (found_nil _).mono ?_
    rintro e w3 ⟨rfl, hb3⟩
    have h3 := chain H2.out hb3
    have ho3 := (HO.out.below hb3).mono H1.out.size
    clear hb3
    go_wp2_with fail
    go_ret2
    rw [HU.out]
    exact ⟨A2, c2, rfl, ho3, h3, h3⟩
  · simp only at hk hL
    subst hk hL
    obtain ⟨i, rfl⟩ := hnz (by decide)
    have HU := hide hU
    clear hz hnz hU hs h2 hb2
    go_wp2_with fail
    refine (found_at i _ (HG.out.below H2.out)).mono ?_
    rintro e w3 ⟨rfl, hb3⟩
    have h3 := chain H2.out hb3
    clear hb3
    go_wp2_with fail
    go_ret2
    rw [HU.out]
    exact ⟨none, 0, rfl, OwnS.nil_ _ _ _ _, h3, h3⟩
end Go.Proofs.YtmfohnchnbgbaaaGreatDoor
