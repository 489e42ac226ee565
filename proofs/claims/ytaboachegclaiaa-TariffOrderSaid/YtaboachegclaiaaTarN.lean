/- The document's Right. A drawn region over a class of worlds, walked once. -/
import Derived.Test.YtaboachegclaiaaTarM
import Derived.BigQuiet
namespace Go.Proofs.Ytaboachegclaiaa
open Go.RowKit Go.BigFrame

section
variable {P : Program} {ops : Array Oper} {C : World → Prop} {a : Act} {o : Oper} {K : Act → Prop} {v : Value}
theorem quiet_yield (h : ∀ w, C w → (execOp a.eval o).run P w = .ok (.value v) w) (hk : K (a.put o.dst v)) : o.quiet P a C K :=
  ⟨v, fun w hw => by unfold Oper.quietAt; rw [h w hw]; exact ⟨rfl, rfl⟩, hk⟩
theorem quiet_call {f : FuncId} {args : Array Value} (h : ∀ w, C w → (execOp a.eval o).run P w = .ok (.enter f args) w) (hc : ∀ w, C w → Calls P f args w fun e w'' => e = .returned v ∧ C w'') (hk : K (a.put o.dst v)) : o.quiet P a C K :=
  ⟨v, fun w hw => by unfold Oper.quietAt; rw [h w hw]; exact ⟨rfl, hc w hw⟩, hk⟩
theorem wp_region_class {id : Nat} {Q : Exit → Act → World → Prop} {w : World} {l : List Oper} (C : World → Prop) (hm : P.follows .mixedOrders = true) (hB : Region.lexB .any l.toArray = true) (hC : C w.drew)
    (h : wpQuiet P l.toArray C (fun a' => ∀ w', C w' → Q .normal a' w') l a) : (Code.region id l.toArray true).wp P Q a w :=
  wp_region_quiet hm hB hC (by simpa using h)
end

theorem versionR_v {x : Vw} {w0 w : World} {b : Bool} (hs : VOK w0 x) (h0 : Below w0.heap.size w0 w) (hv : versionB x.v = b) :
    Calls Try.prog 11 #[.agg #[.int .i64 x.f, .int .i64 x.b0, .int .i64 x.b1, .int .i64 x.b2, .int .i64 x.b3, .slice x.aA x.age.length x.aC, .slice x.zA x.zone.length x.zC, .slice x.pA x.peril.length x.pC, .int .i64 x.mn]] w
      fun e w' => e = .returned (.bool b) ∧ Below w0.heap.size w0 w' :=
  (versionR_any x w (hs.below h0)).mono fun _ _ ⟨he, hb⟩ => ⟨by rw [he, hv], chain h0 hb⟩

set_option maxRecDepth 100000 in
set_option maxHeartbeats 4000000 in
theorem rightR_any (A : Option Addr) (cap : Nat) (M : List Vw) (w : World) (hs : TV w A M.length cap M) (ho : ∀ x ∈ M, okVw x) :
    Calls Try.prog 13 #[.agg #[.slice A M.length cap]] w fun e w' => e = .returned (.bool (rightT (allV M))) ∧ Below w.heap.size w w' := by
  have HS := hide hs
  have hmx := hs.sv.le
  have hmy := hs.sv.most
  unfold maxLen at hmy
  have HO := hide ho
  clear hs ho
  go_enter Try.func13, Try.ntmps13
  go_wp2_with fail
  go_loopw [3] (fun q wr => ∃ (k : Nat), k ≤ M.length ∧ q = .int .i64 k ∧ risesV 0 ((allV M).take k) = true ∧ Below w.heap.size w wr ∧ Blk wr w.heap.size 29 #[.slice A M.length cap]) (fun q _ => M.length - (RowKit.intOf q).toNat)
  case atStart => exact ⟨0, Nat.zero_le _, rfl, rfl, (Below.refl _ _).alloc (Nat.le_refl _) _, Blk.new _ _ _⟩
  case round =>
    obtain ⟨k, hk, rfl, hok, hb, hT⟩ := hrel
    have HOK := hide hok
    have HB := hide hb
    have HT := hide hT
    have t0 := hT.cell 0
    simp at t0
    clear hok hT
    by_cases hlt : k < M.length
    · obtain ⟨x, hx⟩ := get_of hlt
      obtain ⟨bb, off, hAe, hbl, c0, c1, c2, c3, c4, c5, c6, c7, c8⟩ := (HS.out.below hb).sv.sl.vw hx
      subst hAe
      have hk0 : (0 : Int) ≤ (k : Int) := by omega
      have hk1 : (k : Int) < (M.length : Int) := by omega
      have hxo := (HO.out x (List.mem_of_getElem? hx)).1
      have HTK := hide (rises_take (last := 0) (allV_get hx))
      have HX := hide hx
      obtain ⟨vb, hvb⟩ : ∃ b, versionB x.v = b := ⟨_, rfl⟩
      have HVB := hide hvb
      have HVX := hide ((HS.out.rows x (List.mem_of_getElem? hx)).below hb)
      clear hvb hx hb
      by_cases hk00 : k = 0
      · subst hk00
        simp only [Nat.zero_mul, Nat.add_zero] at c0 c1 c2 c3 c4 c5 c6 c7 c8
        clear hk
        cases vb
        · go_wp2_with fail
          refine wp_region_class (fun W => Below wr.heap.size wr W) (by kernel_rfl) (by kernel_rfl) (Below.refl _ _).drew ?_
          repeat (first
            | go_big_quiet_skip
            | (go_big_quiet_want
               first
                 | (go_big_quiet_op
                    go_big_quiet_on)
                 | (refine quiet_call (v := .bool false) (f := 11) (args := #[.agg #[.int .i64 x.f, .int .i64 x.b0, .int .i64 x.b1, .int .i64 x.b2, .int .i64 x.b3, .slice x.aA x.age.length x.aC, .slice x.zA x.zone.length x.zC, .slice x.pA x.peril.length x.pC, .int .i64 x.mn]]) ?_ ?_ ?_
                    · intro W hW
                      go_simp
                      done
                    · intro W hW
                      exact versionR_v HVX.out hW HVB.out
                    simp only [Act.put, List.setIfInBounds_toArray, List.set_cons_zero, List.set_cons_succ]
                    go_big_quiet_on)
                 | (refine quiet_yield (v := ?_) ?_ ?_
                    rotate_left
                    · intro W hW
                      have t0 := kept hW t0
                      have c0 := kept hW c0
                      have c1 := kept hW c1
                      have c2 := kept hW c2
                      have c3 := kept hW c3
                      have c4 := kept hW c4
                      have c5 := kept hW c5
                      have c6 := kept hW c6
                      have c7 := kept hW c7
                      have c8 := kept hW c8
                      clear hW
                      go_simp
                      try with_reducible rfl
                    simp only [Act.put, List.setIfInBounds_toArray, List.set_cons_zero, List.set_cons_succ]
                    go_big_quiet_on)))
          refine wpQuiet_nil ?_
          intro W hW
          have hTW := HT.out.below hW HT.out.lt
          have hBW := chain HB.out hW
          clear HB HT t0 c0 c1 c2 c3 c4 c5 c6 c7 c8
          have HTW := hide hTW
          have HBW := hide hBW
          clear hTW hBW hW
          have HV := hide (show rightT (allV M) = false by
            rw [rightT, rises_no (k := 0 + 1) (by rw [HTK.out, show versionB x.v = false from HVB.out]; simp), Bool.and_false])
          go_wp2_with fail
          go_ret
          exact ⟨ret_bool HV.out.symm, HBW.out⟩
        · go_wp2_with fail
          refine wp_region_class (fun W => Below wr.heap.size wr W) (by kernel_rfl) (by kernel_rfl) (Below.refl _ _).drew ?_
          repeat (first
            | go_big_quiet_skip
            | (go_big_quiet_want
               first
                 | (go_big_quiet_op
                    go_big_quiet_on)
                 | (refine quiet_call (v := .bool true) (f := 11) (args := #[.agg #[.int .i64 x.f, .int .i64 x.b0, .int .i64 x.b1, .int .i64 x.b2, .int .i64 x.b3, .slice x.aA x.age.length x.aC, .slice x.zA x.zone.length x.zC, .slice x.pA x.peril.length x.pC, .int .i64 x.mn]]) ?_ ?_ ?_
                    · intro W hW
                      go_simp
                      done
                    · intro W hW
                      exact versionR_v HVX.out hW HVB.out
                    simp only [Act.put, List.setIfInBounds_toArray, List.set_cons_zero, List.set_cons_succ]
                    go_big_quiet_on)
                 | (refine quiet_yield (v := ?_) ?_ ?_
                    rotate_left
                    · intro W hW
                      have t0 := kept hW t0
                      have c0 := kept hW c0
                      have c1 := kept hW c1
                      have c2 := kept hW c2
                      have c3 := kept hW c3
                      have c4 := kept hW c4
                      have c5 := kept hW c5
                      have c6 := kept hW c6
                      have c7 := kept hW c7
                      have c8 := kept hW c8
                      clear hW
                      go_simp
                      try with_reducible rfl
                    simp only [Act.put, List.setIfInBounds_toArray, List.set_cons_zero, List.set_cons_succ]
                    go_big_quiet_on)))
          refine wpQuiet_nil ?_
          intro W hW
          have hTW := HT.out.below hW HT.out.lt
          have hBW := chain HB.out hW
          clear HB HT t0 c0 c1 c2 c3 c4 c5 c6 c7 c8
          have HTW := hide hTW
          have HBW := hide hBW
          clear hTW hBW hW
          have HR := hide (show risesV 0 ((allV M).take (0 + 1)) = true by
            have h9 := version_f HVB.out
            rw [HTK.out, show versionB x.v = true from HVB.out]
            simp [risesV]
            exact decide_eq_false (by omega))
          go_wp2_with fail
          go_roundw
          case rel => exact ⟨1, by omega, rfl, HR.out, HBW.out, HTW.out⟩
          case measure => simp [RowKit.intOf]; omega
      · obtain ⟨j, rfl⟩ : ∃ j, k = j + 1 := ⟨k - 1, by omega⟩
        obtain ⟨y, hy⟩ := get_of (l := M) (k := j) (by omega)
        obtain ⟨bb', off', hAe', _, p0, _⟩ := (HS.out.below HB.out).sv.sl.vw hy
        cases hAe'
        have hyo := (HO.out y (List.mem_of_getElem? hy)).1
        have hk01 : (0 : Int) < (j : Int) + 1 := by omega
        have hk02 : (0 : Int) ≤ (j : Int) + 1 := by omega
        have hk03 : (j : Int) + 1 < (M.length : Int) := by omega
        have hj2 : (j : Int) < (M.length : Int) := by omega
        have hj3 : (0 : Int) ≤ (j : Int) := by omega
        have hjw : IntKind.i64.wrap (j : Int) = (j : Int) := IntWalk.i64_in _ (by omega)
        have HLS := hide (lastF_take (allV_get hy))
        have HY := hide hy
        clear hy
        cases vb
        · go_wp2_with fail
          refine wp_region_class (fun W => Below wr.heap.size wr W) (by kernel_rfl) (by kernel_rfl) (Below.refl _ _).drew ?_
          repeat (first
            | go_big_quiet_skip
            | (go_big_quiet_want
               first
                 | (go_big_quiet_op
                    go_big_quiet_on)
                 | (refine quiet_call (v := .bool false) (f := 11) (args := #[.agg #[.int .i64 x.f, .int .i64 x.b0, .int .i64 x.b1, .int .i64 x.b2, .int .i64 x.b3, .slice x.aA x.age.length x.aC, .slice x.zA x.zone.length x.zC, .slice x.pA x.peril.length x.pC, .int .i64 x.mn]]) ?_ ?_ ?_
                    · intro W hW
                      go_simp
                      done
                    · intro W hW
                      exact versionR_v HVX.out hW HVB.out
                    simp only [Act.put, List.setIfInBounds_toArray, List.set_cons_zero, List.set_cons_succ]
                    go_big_quiet_on)
                 | (refine quiet_yield (v := ?_) ?_ ?_
                    rotate_left
                    · intro W hW
                      have t0 := kept hW t0
                      have c0 := kept hW c0
                      have c1 := kept hW c1
                      have c2 := kept hW c2
                      have c3 := kept hW c3
                      have c4 := kept hW c4
                      have c5 := kept hW c5
                      have c6 := kept hW c6
                      have c7 := kept hW c7
                      have c8 := kept hW c8
                      have p0 := kept hW p0
                      clear hW
                      go_simp
                      try with_reducible rfl
                    simp only [Act.put, List.setIfInBounds_toArray, List.set_cons_zero, List.set_cons_succ]
                    go_big_quiet_on)))
          refine wpQuiet_nil ?_
          intro W hW
          have hTW := HT.out.below hW HT.out.lt
          have hBW := chain HB.out hW
          clear HB HT t0 c0 c1 c2 c3 c4 c5 c6 c7 c8 p0
          have HTW := hide hTW
          have HBW := hide hBW
          clear hTW hBW hW
          have HV := hide (show rightT (allV M) = false by
            rw [rightT, rises_no (k := j + 1 + 1) (by rw [HTK.out, show versionB x.v = false from HVB.out]; simp), Bool.and_false])
          go_wp2_with fail
          go_ret
          exact ⟨ret_bool HV.out.symm, HBW.out⟩
        · by_cases hxy : x.f ≤ y.f
          · go_wp2_with fail
            refine wp_region_class (fun W => Below wr.heap.size wr W) (by kernel_rfl) (by kernel_rfl) (Below.refl _ _).drew ?_
            repeat (first
              | go_big_quiet_skip
              | (go_big_quiet_want
                 first
                   | (go_big_quiet_op
                      go_big_quiet_on)
                   | (refine quiet_call (v := .bool true) (f := 11) (args := #[.agg #[.int .i64 x.f, .int .i64 x.b0, .int .i64 x.b1, .int .i64 x.b2, .int .i64 x.b3, .slice x.aA x.age.length x.aC, .slice x.zA x.zone.length x.zC, .slice x.pA x.peril.length x.pC, .int .i64 x.mn]]) ?_ ?_ ?_
                      · intro W hW
                        go_simp
                        done
                      · intro W hW
                        exact versionR_v HVX.out hW HVB.out
                      simp only [Act.put, List.setIfInBounds_toArray, List.set_cons_zero, List.set_cons_succ]
                      go_big_quiet_on)
                   | (refine quiet_yield (v := ?_) ?_ ?_
                      rotate_left
                      · intro W hW
                        have t0 := kept hW t0
                        have c0 := kept hW c0
                        have c1 := kept hW c1
                        have c2 := kept hW c2
                        have c3 := kept hW c3
                        have c4 := kept hW c4
                        have c5 := kept hW c5
                        have c6 := kept hW c6
                        have c7 := kept hW c7
                        have c8 := kept hW c8
                        have p0 := kept hW p0
                        clear hW
                        go_simp
                        try with_reducible rfl
                      simp only [Act.put, List.setIfInBounds_toArray, List.set_cons_zero, List.set_cons_succ]
                      go_big_quiet_on)))
            refine wpQuiet_nil ?_
            intro W hW
            have hTW := HT.out.below hW HT.out.lt
            have hBW := chain HB.out hW
            clear HB HT t0 c0 c1 c2 c3 c4 c5 c6 c7 c8 p0
            have HTW := hide hTW
            have HBW := hide hBW
            clear hTW hBW hW
            have HV := hide (show rightT (allV M) = false by
              rw [rightT, rises_no (k := j + 1 + 1) (by
                rw [HTK.out, show ((((allV M).take (j + 1)).getLast?.map (·.f)).getD 0) = y.f from HLS.out]
                simp [show x.v.f ≤ y.f from hxy]), Bool.and_false])
            go_wp2_with fail
            go_ret
            exact ⟨ret_bool HV.out.symm, HBW.out⟩
          · go_wp2_with fail
            refine wp_region_class (fun W => Below wr.heap.size wr W) (by kernel_rfl) (by kernel_rfl) (Below.refl _ _).drew ?_
            repeat (first
              | go_big_quiet_skip
              | (go_big_quiet_want
                 first
                   | (go_big_quiet_op
                      go_big_quiet_on)
                   | (refine quiet_call (v := .bool true) (f := 11) (args := #[.agg #[.int .i64 x.f, .int .i64 x.b0, .int .i64 x.b1, .int .i64 x.b2, .int .i64 x.b3, .slice x.aA x.age.length x.aC, .slice x.zA x.zone.length x.zC, .slice x.pA x.peril.length x.pC, .int .i64 x.mn]]) ?_ ?_ ?_
                      · intro W hW
                        go_simp
                        done
                      · intro W hW
                        exact versionR_v HVX.out hW HVB.out
                      simp only [Act.put, List.setIfInBounds_toArray, List.set_cons_zero, List.set_cons_succ]
                      go_big_quiet_on)
                   | (refine quiet_yield (v := ?_) ?_ ?_
                      rotate_left
                      · intro W hW
                        have t0 := kept hW t0
                        have c0 := kept hW c0
                        have c1 := kept hW c1
                        have c2 := kept hW c2
                        have c3 := kept hW c3
                        have c4 := kept hW c4
                        have c5 := kept hW c5
                        have c6 := kept hW c6
                        have c7 := kept hW c7
                        have c8 := kept hW c8
                        have p0 := kept hW p0
                        clear hW
                        go_simp
                        try with_reducible rfl
                      simp only [Act.put, List.setIfInBounds_toArray, List.set_cons_zero, List.set_cons_succ]
                      go_big_quiet_on)))
            refine wpQuiet_nil ?_
            intro W hW
            have hTW := HT.out.below hW HT.out.lt
            have hBW := chain HB.out hW
            clear HB HT t0 c0 c1 c2 c3 c4 c5 c6 c7 c8 p0
            have HTW := hide hTW
            have HBW := hide hBW
            clear hTW hBW hW
            have HR := hide (show risesV 0 ((allV M).take (j + 1 + 1)) = true by
              rw [HTK.out, HOK.out, show ((((allV M).take (j + 1)).getLast?.map (·.f)).getD 0) = y.f from HLS.out, show versionB x.v = true from HVB.out]
              have h9 : ¬ x.v.f ≤ y.f := by show ¬ x.f ≤ y.f; omega
              simp [h9])
            go_wp2_with fail
            go_roundw
            case rel => exact ⟨j + 2, by omega, by go_num, HR.out, HBW.out, HTW.out⟩
            case measure => simp [RowKit.intOf]; omega
    · obtain rfl : k = M.length := by omega
      have hk1 : ¬ (((M.length : Nat) : Int) < (M.length : Int)) := by omega
      rw [List.take_of_length_le (by rw [allV_len]; exact Nat.le_refl _)] at HOK
      have HV := hide (show rightT (allV M) = decide ((M.length : Int) ≤ 100) by
        rw [rightT, HOK.out, Bool.and_true, allV_len]
        exact decide_eq_decide.2 (by omega))
      go_wp2_with fail
      go_ret
      exact ⟨ret_bool HV.out.symm, HB.out⟩
end Go.Proofs.Ytaboachegclaiaa
