/- TriAll: the last diagonal of a triangle is, together, all that was booked. -/
import Derived.Test.YtclcjonogjinfaaTriR
namespace Go.Proofs.Ytclcjonogjinfaa
open Go.ChangeShapes Go.WideShapes Go.ChangeAt Go.RowKit
set_option linter.unusedVariables false

set_option maxRecDepth 100000 in
set_option maxHeartbeats 4000000 in
theorem triAll_walk (w : World) (A : Option Addr) (l : List R3) (cap : Nat) (hs : SV w 3 A l.length cap (l.map enc3)) (_ho : ∀ x ∈ l, ok3 x) :
    Calls Try.prog 5 #[.slice A l.length cap] w fun e w' => e = .returned (.bool true) ∧ Below w.heap.size w w' := by
  go_enter Try.func5, Try.ntmps5
  have HS := hide hs
  have hmo := hs.most
  have hle := hs.le
  unfold maxLen at hmo
  clear hs
  by_cases hfw : l.length ≤ 200
  case neg =>
    have hfd : decide (l.length ≤ 200) = false := by simp; omega
    go_wp2_with fail
    refine (few_any A l.length cap _ (by omega)).mono ?_
    rintro e w1 ⟨rfl, rfl⟩
    rw [hfd]
    go_wp2_with fail
    refine (alive_b (Below.refl w.heap.size w)).mono ?_
    rintro e w2 ⟨rfl, h2, hb2⟩
    go_wp2_with fail
    go_ret
    exact ⟨rfl, h2⟩
  have hfd : decide (l.length ≤ 200) = true := by simp; omega
  go_wp2_with fail
  refine (few_any A l.length cap _ (by omega)).mono ?_
  rintro e w1 ⟨rfl, rfl⟩
  rw [hfd]
  clear hfd
  go_wp2_with fail
  by_cases hE : ofE l = 0
  case neg =>
    obtain ⟨E, hEe⟩ : ∃ E, ofE l = E := ⟨_, rfl⟩
    have hE0 : (E != 0) = true := by rw [← hEe]; simp; exact hE
    refine (of_no HS.out (Below.refl _ _) hEe (by rw [← hEe]; exact hE)).mono ?_
    rintro e w1 ⟨rfl, h1, hb1⟩
    clear hE hEe hb1
    go_wp2_with fail
    refine (alive_b (h1.alloc h1.size _)).mono ?_
    rintro e w2 ⟨rfl, h2, hb2⟩
    have c1 := kept hb2 (b := w1.heap.size) (o := 1) (u := .slice none 0 0) (by simp)
    clear hb2
    go_wp2_with fail
    go_ret
    exact ⟨rfl, h2⟩
  obtain ⟨F, hF⟩ : ∃ F, fromL l = F := ⟨_, rfl⟩
  obtain ⟨C, hC⟩ : ∃ C, ofC l = C := ⟨_, rfl⟩
  obtain ⟨m, hm⟩ : ∃ m, C.length = m := ⟨_, rfl⟩
  refine (of_yes HS.out (Below.refl _ _) hE hF hC hm).mono ?_
  rintro e w1 ⟨A1, c1, R, rfl, hmv, hR, h1, hb1⟩
  obtain ⟨hn, hck, ho, hsh, hrt, hy1, hy2, hf1, hf2, hcl⟩ := made hE
  have hdg := diag_sum hE
  rw [hF] at hf1 hf2 hdg hrt
  rw [hC] at hdg hrt hcl
  have HFL := hide (fun x hx => fits_all hck hn (x := x) hx)
  have HDG := hide hdg
  have HMV := hide hmv
  have HR := hide hR
  have H1 := hide h1
  clear hb1 hE hF hC hm hn hck ho hsh hrt hcl hdg hmv hR h1 hy1 hy2
  go_wp2_with fail
  obtain ⟨w2, hw2⟩ : ∃ W, w1.alloc (.cells #[.int .i64 F, .slice A1 m c1] 24) = W := ⟨_, rfl⟩
  have hB : Blk w2 w1.heap.size 24 #[.int .i64 F, .slice A1 m c1] := by rw [← hw2]; exact Blk.new _ _ _
  have h2 : Below w1.heap.size w1 w2 := by rw [← hw2]; exact (Below.refl _ _).alloc (Nat.le_refl _) _
  rw [hw2]
  obtain ⟨X, hX⟩ : ∃ X, w1.heap.size = X := ⟨_, rfl⟩
  rw [hX] at hB ⊢
  have HB := hide hB
  have HM2 := hide (HMV.out.below h2)
  have H2 := hide (chain H1.out h2)
  clear hw2 hB h2 hX HMV H1
  go_loopw [5, 31] (fun s i wr => ∃ (k : Nat) (S : Int), k ≤ l.length ∧ i = .int .i64 k ∧ s = .int .i64 S ∧ S = sumM (l.take k) ∧ Below w2.heap.size w2 wr) (fun _ i _ => l.length - (intOf i).toNat)
  case atStart => exact ⟨0, 0, Nat.zero_le _, rfl, rfl, rfl, Below.refl _ _⟩
  case round =>
    obtain ⟨k, S, hk, rfl, rfl, hS, hb⟩ := hrel
    have hbd := sumI_bd (B := 1000000000000000) (l := (l.take k).map (·.m)) (fun v hv => by
      obtain ⟨y, hy, rfl⟩ := List.mem_map.1 hv
      exact (HFL.out y (List.mem_of_mem_take hy)).2.2.2.2)
    rw [List.length_map, List.length_take] at hbd
    have hS0 : 0 ≤ S ∧ S ≤ 200000000000000000 := by rw [hS, sumM]; omega
    obtain ⟨hS1, hS2⟩ := hS0
    clear hbd
    by_cases hlt : k < l.length
    · obtain ⟨⟨xa, xb, xm⟩, hx⟩ := get_of hlt
      obtain ⟨bb, off, rfl, hbl, ca, cb, cm⟩ := (HS.out.below (chain H2.out hb)).sl.r3 hx
      simp only at ca cb cm
      obtain ⟨xm0, xm1⟩ := (HFL.out _ (List.mem_of_getElem? hx)).2.2.2.2
      simp only at xm0 xm1
      have hk0 : (0 : Int) ≤ (k : Int) := by omega
      have hk1 : (k : Int) < (l.length : Int) := by omega
      have HT := hide (show sumM (l.take (k + 1)) = S + xm by rw [sumM, List.map_take, sumI_take (v := xm) (by rw [List.getElem?_map, hx]; rfl), ← List.map_take, hS, sumM])
      have HB2 := hide hb
      have hsz := hb.size
      clear hx hS hb
      go_wp2_with fail
      go_roundw
      case rel => exact ⟨k + 1, S + xm, by omega, by go_num, rfl, by rw [HT.out], HB2.out.alloc hsz _⟩
      case measure => simp [intOf]; omega
    · obtain rfl : k = l.length := by omega
      rw [List.take_length] at hS
      have hB3 := HB.out.below hb HB.out.lt
      have x0 := hB3.cell 0
      have x1 := hB3.cell 1
      simp at x0 x1
      have HM3 := hide (HM2.out.below hb)
      have H3 := hide (chain H2.out hb)
      obtain ⟨D, hD⟩ : ∃ D, diagL F C = D := ⟨_, rfl⟩
      obtain ⟨q, hq⟩ : ∃ q, D.length = q := ⟨_, rfl⟩
      have HDB := hide (fun v (hv : v ∈ D) => diag_bd (f := F) (c := C) (by rw [hD]; exact hv))
      have hq20 : q ≤ 20 := by rw [← hq, ← hD]; exact diag_len
      have hDS := HDG.out
      rw [hD, ← hS] at hDS
      have HDS := hide hDS
      have HD := hide (show diagL F (allM R) = D by rw [HR.out]; exact hD)
      have HQ := hide hq
      clear hS hB3 hD hq hDS hb
      go_wp2_with fail
      refine (diag_b HM3.out (Below.refl _ _) (by unfold ok64; omega) HD.out HQ.out).mono ?_
      rintro e w4 ⟨A4, c4, rfl, hs4, h4, _⟩
      have H4 := hide (chain H3.out h4)
      have HS4 := hide hs4
      clear h4 hs4
      go_wp2_with fail
      go_loopw [6, 43] (fun s i wr => ∃ (k : Nat) (S' : Int), k ≤ q ∧ i = .int .i64 k ∧ s = .int .i64 S' ∧ S' = sumI (D.take k) ∧ w4 = wr) (fun _ i _ => q - (intOf i).toNat)
      case atStart => exact ⟨0, 0, Nat.zero_le _, rfl, rfl, rfl, rfl⟩
      case round =>
        obtain ⟨k, S', hk, rfl, rfl, hS, rfl⟩ := hrel
        have hbd := sumI_bd (B := 100000000000000000) (l := D.take k) (fun v hv => HDB.out v (List.mem_of_mem_take hv))
        rw [List.length_take, HQ.out] at hbd
        have hS0 : 0 ≤ S' ∧ S' ≤ 2000000000000000000 := by rw [hS]; omega
        obtain ⟨hS1', hS2'⟩ := hS0
        clear hbd
        by_cases hlt : k < q
        · obtain ⟨v, hv⟩ := get_of (l := D) (k := k) (by rw [HQ.out]; exact hlt)
          obtain ⟨bb, off, rfl, hbl, cv⟩ := HS4.out.sl.i hv
          obtain ⟨v0, v1⟩ := HDB.out v (List.mem_of_getElem? hv)
          have hk0 : (0 : Int) ≤ (k : Int) := by omega
          have hk1 : (k : Int) < (q : Int) := by omega
          have HT := hide (show sumI (D.take (k + 1)) = S' + v by rw [sumI_take hv, hS])
          clear hv hS
          go_wp2_with fail
          go_roundw
          case rel => exact ⟨k + 1, S' + v, by omega, by go_num, rfl, by rw [HT.out], trivial⟩
          case measure => simp [intOf]; omega
        · obtain rfl : k = q := by omega
          rw [List.take_of_length_le (by rw [HQ.out]; exact Nat.le_refl _), HDS.out] at hS
          subst hS
          go_wp2_with fail
          refine (alive_b H4.out).mono ?_
          rintro e w5 ⟨rfl, h5, hb5⟩
          go_wp2_with fail
          go_ret
          exact ⟨rfl, h5⟩

theorem triAll_lifted (os : Os) (started : os.Started) (H : Type) (enc : TypeId × Value → H) :
    ReturnsInHanded {} Try.checked os 5 .any (Rows.triAllSpec.pre6 enc Try.prog Try.f5 Rows.triAllRow.domain false) (Rows.triAllSpec.post enc Try.prog Try.f5 false true false false) := by
  refine returnsInHanded_of_change (C := Try.checked) own started (by kernel_rfl) Try.func5
    (ChangeSpec.witness6 (enc := enc) (C := Try.checked) false ⟨#[], #[.slice none 0 0], []⟩ 8 (by kernel_rfl) (by kernel_rfl) (by kernel_rfl) (by kernel_rfl)) ?_
  intro W base args ds gs before hval0 hW hcnd _
  have hval : ∀ (j : Nat) t v, Try.f5.params[j]? = some t → args[j]? = some v → Value.okWide Try.prog W .any base t v := hval0
  have hW' := hW
  obtain ⟨p, q, hA0, hV, rfl, hfz, hnd⟩ := hW
  have hA : DataW.TrodAll enc Try.prog W 0 (fun _ => true) true Try.f5.params.toList args.toList ds p := hA0
  rw [Try.params5] at hA hval
  obtain ⟨v0, vs0, d0, ds0, p0, q0, hargs, rfl, rfl, h0, r0⟩ := trodAll_cons hA
  obtain ⟨rfl, rfl, rfl⟩ := trodAll_nil r0
  obtain rfl : args = #[v0] := by cases args; simp_all
  obtain ⟨rfl, rfl⟩ := trodVars_none hV
  obtain ⟨A0, l0, p0, rfl, hs0, ho0⟩ := open_r3s (hval 0 30 v0 rfl rfl) h0
  refine (triAll_walk W A0 l0 p0 hs0 ho0).mono fun e W' ⟨he, hb⟩ => ?_
  subst he
  exact ⟨_, rfl, law_post laidOut (by kernel_rfl) rfl Try.underlying4 rfl rfl hW' hb⟩

/-- THE STATEMENT. -/
theorem triAll_holds : Rows.TriAllSaid :=
  OpenClaim.holds_of_wide 5 Try.f5 rfl rfl rfl rfl rfl rfl rfl ⟨rfl, rfl, rfl, rfl, rfl⟩ rfl rfl rfl rfl rfl (by kernel_rfl) Try.func5 (by kernel_rfl)
    (of_decide_eq_true (by kernel_rfl)) (by unfold Func.isWrapper; first | (rw [if_pos (by decide +kernel)]; kernel_rfl) | (rw [if_neg (by decide +kernel)]; exact ⟨rfl, rfl⟩))
    (fun os started H enc _ => triAll_lifted os started H enc)
end Go.Proofs.Ytclcjonogjinfaa
