/- The same tariffs. -/
import Derived.Test.YtaboachegclaiaaTarR
namespace Go.Proofs.Ytaboachegclaiaa
open Go.RowKit Go.BigFrame

set_option maxRecDepth 100000 in
set_option maxHeartbeats 4000000 in
theorem sameT_any (A A' : Option Addr) (cap cap' : Nat) (M M' : List Vw) (w : World) (hs : TV w A M.length cap M) (hs' : TV w A' M.length cap' M') (he : allV M = allV M') (hm : ∀ x ∈ M, LenV x) :
    Calls Try.prog 18 #[.agg #[.slice A M.length cap], .agg #[.slice A' M.length cap']] w fun e w' => e = .returned (.bool true) ∧ Below w.heap.size w w' := by
  have HS := hide hs
  have HS' := hide hs'
  have hmx := hs.sv.le
  have hmy := hs.sv.most
  unfold maxLen at hmy
  have hll : M'.length = M.length := by rw [← allV_len, ← allV_len, he]
  have HE := hide he
  have HM := hide hm
  clear hs hs' he hm
  go_enter Try.func18, Try.ntmps18
  go_wp2_with fail
  go_loopw [5] (fun q wr => ∃ (k : Nat), k ≤ M.length ∧ q = .int .i64 k ∧ Below w.heap.size w wr ∧ Blk wr w.heap.size 29 #[.slice A M.length cap] ∧ Blk wr (w.heap.size + 1) 29 #[.slice A' M.length cap']) (fun q _ => M.length - (RowKit.intOf q).toNat)
  case atStart => exact ⟨0, Nat.zero_le _, rfl, ((Below.refl _ _).alloc (Nat.le_refl _) _).alloc (by simp) _, (Blk.new _ _ _).alloc _, Blk.new' (by simp)⟩
  case round =>
    obtain ⟨k, hk, rfl, hb, hT, hT'⟩ := hrel
    have HB := hide hb
    have HT := hide hT
    have HT' := hide hT'
    have t0 := hT.cell 0
    have s0 := hT'.cell 0
    simp at t0 s0
    clear hT hT'
    by_cases hlt : k < M.length
    · obtain ⟨x, hx⟩ := get_of hlt
      obtain ⟨y, hy⟩ := get_of (l := M') (k := k) (by omega)
      obtain ⟨bb, off, hAe, hbl, c0, c1, c2, c3, c4, c5, c6, c7, c8⟩ := (HS.out.below hb).sv.sl.vw hx
      obtain ⟨bb', off', hAe', hbl', d0, d1, d2, d3, d4, d5, d6, d7, d8⟩ := (HS'.out.below hb).sv.sl.vw hy
      subst hAe hAe'
      have hk0 : (0 : Int) ≤ (k : Int) := by omega
      have hk1 : (k : Int) < (M.length : Int) := by omega
      have hxy : x.v = y.v := by
        have h1 := allV_get hx
        rw [HE.out, allV_get hy] at h1
        exact (Option.some.inj h1).symm
      have HXY := hide hxy
      have HLX := hide (HM.out x (List.mem_of_getElem? hx))
      have HVX := hide ((HS.out.rows x (List.mem_of_getElem? hx)).below hb)
      have HVY := hide ((HS'.out.rows y (List.mem_of_getElem? hy)).below hb)
      clear hx hy hb hxy
      go_wp2_with fail
      refine wp_region_class (fun W => Below wr.heap.size wr W) (by kernel_rfl) (by kernel_rfl) (Below.refl _ _).drew ?_
      repeat (first
        | go_big_quiet_skip
        | (go_big_quiet_want
           first
             | (go_big_quiet_op
                go_big_quiet_on)
             | (refine quiet_call (v := .bool true) (f := 16) (args := #[.agg #[.int .i64 x.f, .int .i64 x.b0, .int .i64 x.b1, .int .i64 x.b2, .int .i64 x.b3, .slice x.aA x.age.length x.aC, .slice x.zA x.zone.length x.zC, .slice x.pA x.peril.length x.pC, .int .i64 x.mn], .agg #[.int .i64 y.f, .int .i64 y.b0, .int .i64 y.b1, .int .i64 y.b2, .int .i64 y.b3, .slice y.aA y.age.length y.aC, .slice y.zA y.zone.length y.zC, .slice y.pA y.peril.length y.pC, .int .i64 y.mn]]) ?_ ?_ ?_
                · intro W hW
                  have t0 := kept hW t0
                  have s0 := kept hW s0
                  have c0 := kept hW c0
                  have c1 := kept hW c1
                  have c2 := kept hW c2
                  have c3 := kept hW c3
                  have c4 := kept hW c4
                  have c5 := kept hW c5
                  have c6 := kept hW c6
                  have c7 := kept hW c7
                  have c8 := kept hW c8
                  have d0 := kept hW d0
                  have d1 := kept hW d1
                  have d2 := kept hW d2
                  have d3 := kept hW d3
                  have d4 := kept hW d4
                  have d5 := kept hW d5
                  have d6 := kept hW d6
                  have d7 := kept hW d7
                  have d8 := kept hW d8
                  clear hW
                  go_simp
                  done
                · intro W hW
                  exact (sameV_b HVX.out hW HVY.out hW hW HXY.out HLX.out).mono fun _ _ ⟨a, b, _⟩ => ⟨a, b⟩
                simp only [Act.put, List.setIfInBounds_toArray, List.set_cons_zero, List.set_cons_succ]
                go_big_quiet_on)
             | (refine quiet_yield (v := ?_) ?_ ?_
                rotate_left
                · intro W hW
                  have t0 := kept hW t0
                  have s0 := kept hW s0
                  have c0 := kept hW c0
                  have c1 := kept hW c1
                  have c2 := kept hW c2
                  have c3 := kept hW c3
                  have c4 := kept hW c4
                  have c5 := kept hW c5
                  have c6 := kept hW c6
                  have c7 := kept hW c7
                  have c8 := kept hW c8
                  have d0 := kept hW d0
                  have d1 := kept hW d1
                  have d2 := kept hW d2
                  have d3 := kept hW d3
                  have d4 := kept hW d4
                  have d5 := kept hW d5
                  have d6 := kept hW d6
                  have d7 := kept hW d7
                  have d8 := kept hW d8
                  clear hW
                  go_simp
                  try with_reducible rfl
                simp only [Act.put, List.setIfInBounds_toArray, List.set_cons_zero, List.set_cons_succ]
                go_big_quiet_on)))
      refine wpQuiet_nil ?_
      intro W hW
      have hTW := HT.out.below hW HT.out.lt
      have hTW' := HT'.out.below hW HT'.out.lt
      have hBW := chain HB.out hW
      clear HB HT HT' t0 s0 c0 c1 c2 c3 c4 c5 c6 c7 c8 d0 d1 d2 d3 d4 d5 d6 d7 d8 hW
      have HTW := hide hTW
      have HTW' := hide hTW'
      have HBW := hide hBW
      clear hTW hTW' hBW
      go_wp2_with fail
      go_roundw
      case rel => exact ⟨k + 1, by omega, by go_num, HBW.out, HTW.out, HTW'.out⟩
      case measure => simp [RowKit.intOf]; omega
    · obtain rfl : k = M.length := by omega
      have hk1 : ¬ (((M.length : Nat) : Int) < (M.length : Int)) := by omega
      go_wp2_with fail
      go_ret
      exact ⟨rfl, HB.out⟩
theorem sameT_b {w0 w wa wb : World} {A A' : Option Addr} {n cap cap' : Nat} {M M' : List Vw} (hs : TV wa A n cap M) (ha : Below wa.heap.size wa w) (hs' : TV wb A' n cap' M') (hb : Below wb.heap.size wb w) (h : Below w0.heap.size w0 w) (he : allV M = allV M') (hm : FitL (allV M)) :
    Calls Try.prog 18 #[.agg #[.slice A n cap], .agg #[.slice A' n cap']] w fun e w' => e = .returned (.bool true) ∧ Below w0.heap.size w0 w' ∧ Below w.heap.size w w' := by
  have hM := hs.len
  subst hM
  refine (sameT_any A A' cap cap' M M' w (hs.below ha) (hs'.below hb) he (fit_M hm rfl)).mono ?_
  rintro e w' ⟨rfl, hb⟩
  exact ⟨rfl, chain h hb, hb⟩
end Go.Proofs.Ytaboachegclaiaa
