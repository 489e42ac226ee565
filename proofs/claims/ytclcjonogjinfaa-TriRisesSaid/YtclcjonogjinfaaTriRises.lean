/- TriRises: no row of a triangle that was made of rows falls; it begins with the first year of a loss. -/
import Derived.Test.YtclcjonogjinfaaTriR
namespace Go.Proofs.Ytclcjonogjinfaa
open Go.ChangeShapes Go.WideShapes Go.ChangeAt Go.RowKit
set_option linter.unusedVariables false

set_option maxRecDepth 100000 in
set_option maxHeartbeats 4000000 in
theorem triRises_walk (w : World) (A : Option Addr) (l : List R3) (cap : Nat) (hs : SV w 3 A l.length cap (l.map enc3)) (_ho : ∀ x ∈ l, ok3 x) :
    Calls Try.prog 6 #[.slice A l.length cap] w fun e w' => e = .returned (.bool true) ∧ Below w.heap.size w w' := by
  go_enter Try.func6, Try.ntmps6
  have HS := hide hs
  have hmo := hs.most
  have hle := hs.le
  unfold maxLen at hmo
  clear hs
  by_cases hfw : l.length ≤ 200
  case neg =>
    have hfd : decide (l.length ≤ 200) = false := by simp; omega
    go_wp2_with fail
    refine (few_any A l.length cap _ (by omega)).mono ?_
    rintro e w1 ⟨rfl, rfl⟩
    rw [hfd]
    go_wp2_with fail
    refine (alive_b (Below.refl w.heap.size w)).mono ?_
    rintro e w2 ⟨rfl, h2, hb2⟩
    go_wp2_with fail
    go_ret
    exact ⟨rfl, h2⟩
  have hfd : decide (l.length ≤ 200) = true := by simp; omega
  go_wp2_with fail
  refine (few_any A l.length cap _ (by omega)).mono ?_
  rintro e w1 ⟨rfl, rfl⟩
  rw [hfd]
  clear hfd
  go_wp2_with fail
  by_cases hE : ofE l = 0
  case neg =>
    obtain ⟨E, hEe⟩ : ∃ E, ofE l = E := ⟨_, rfl⟩
    have hE0 : (E != 0) = true := by rw [← hEe]; simp; exact hE
    refine (of_no HS.out (Below.refl _ _) hEe (by rw [← hEe]; exact hE)).mono ?_
    rintro e w1 ⟨rfl, h1, hb1⟩
    clear hE hEe hb1
    go_wp2_with fail
    refine (alive_b (h1.alloc h1.size _)).mono ?_
    rintro e w2 ⟨rfl, h2, hb2⟩
    go_wp2_with fail
    go_ret
    exact ⟨rfl, h2⟩
  obtain ⟨F, hF⟩ : ∃ F, fromL l = F := ⟨_, rfl⟩
  obtain ⟨C, hC⟩ : ∃ C, ofC l = C := ⟨_, rfl⟩
  obtain ⟨m, hm⟩ : ∃ m, C.length = m := ⟨_, rfl⟩
  refine (of_yes HS.out (Below.refl _ _) hE hF hC hm).mono ?_
  rintro e w1 ⟨A1, c1, R, rfl, hmv, hR, h1, hb1⟩
  obtain ⟨hn, hck, ho, hsh, hrt, hy1, hy2, hf1, hf2, hcl⟩ := made hE
  have hri := rising_made hE
  rw [hF] at hf1
  rw [hC] at hri hcl
  have HRI := hide hri
  have HMV := hide hmv
  have HR := hide hR
  have H1 := hide h1
  have hm20 : m ≤ 20 := by omega
  have HSH := hide (show ∀ (i : Nat) (r : List Int), C[i]? = some r → r.length ≤ 20 ∧ ∀ v ∈ r, 0 ≤ v ∧ v ≤ 100000000000000000 from fun i r hr => by
    rw [hC] at hsh
    have := hsh.2 i r hr
    exact ⟨by omega, this.2⟩)
  clear hb1 hE hF hC hm hn hck ho hsh hrt hcl hmv hR h1 hy1 hy2 hri hf2
  go_wp2_with fail
  obtain ⟨w2, hw2⟩ : ∃ W, w1.alloc (.cells #[.int .i64 F, .slice A1 m c1] 24) = W := ⟨_, rfl⟩
  have hB : Blk w2 w1.heap.size 24 #[.int .i64 F, .slice A1 m c1] := by rw [← hw2]; exact Blk.new _ _ _
  have h2 : Below w1.heap.size w1 w2 := by rw [← hw2]; exact (Below.refl _ _).alloc (Nat.le_refl _) _
  rw [hw2]
  obtain ⟨X, hX⟩ : ∃ X, w1.heap.size = X := ⟨_, rfl⟩
  rw [hX] at hB ⊢
  have HB := hide hB
  have HM2 := hide (HMV.out.below h2)
  have H2 := hide (chain H1.out h2)
  clear hw2 hB h2 hX HMV H1
  have x0 := HB.out.cell 0
  have x1 := HB.out.cell 1
  simp at x0 x1
  go_wp2_with fail
  go_loopw [23] (fun i wr => ∃ (k : Nat), k ≤ m ∧ i = .int .i64 k ∧ Below w2.heap.size w2 wr) (fun i _ => m - (intOf i).toNat)
  case atStart => exact ⟨0, Nat.zero_le _, rfl, Below.refl _ _⟩
  case round =>
    obtain ⟨k, hk, rfl, hb⟩ := hrel
    clear x0 x1
    have HB2 := hide hb
    by_cases hlt : k < m
    · obtain ⟨⟨B2, r, bc⟩, hx⟩ := get_of (l := R) (k := k) (by rw [HM2.out.len]; exact hlt)
      have hmw := HM2.out.below hb
      obtain ⟨bb, off, rfl, hbl, hc⟩ := hmw.sv.sl.rw hx
      have hrow := hmw.rows _ (List.mem_of_getElem? hx)
      have hCk : C[k]? = some r := by rw [← HR.out]; exact allM_get hx
      obtain ⟨hr20, hrv⟩ := HSH.out k r hCk
      have HRS := hide (HRI.out r (List.mem_of_getElem? hCk))
      simp only at hc hrow
      have hk0 : (0 : Int) ≤ (k : Int) := by omega
      have hk1 : (k : Int) < (m : Int) := by omega
      have HROW := hide hrow
      have HRV := hide hrv
      clear hb hmw hx hrow hCk hrv
      go_wp2_with fail
      go_loopw [7] (fun i wq => ∃ (q : Nat), 1 ≤ q ∧ (q ≤ r.length ∨ q = 1) ∧ i = .int .i64 q ∧ Below wr.heap.size wr wq) (fun i _ => r.length - (intOf i).toNat)
      case atStart => exact ⟨1, by omega, .inr rfl, rfl, Below.refl _ _⟩
      case round =>
        obtain ⟨q, hq1, hq2, rfl, hbq⟩ := hrel
        by_cases hql : q < r.length
        · obtain ⟨v, hv⟩ := get_of hql
          obtain ⟨u, hu⟩ := get_of (l := r) (k := q - 1) (by omega)
          have hle2 : u ≤ v := HRS.out (q - 1) u v hu (by rw [show q - 1 + 1 = q by omega]; exact hv)
          have hrow2 := HROW.out.below hbq
          obtain ⟨b3, o3, rfl, hbl3, cv⟩ := hrow2.sl.i hv
          obtain ⟨b4, o4, he, hbl4, cu⟩ := hrow2.sl.i hu
          cases he
          have hq0 : (0 : Int) ≤ (q : Int) := by omega
          have hqi : (q : Int) < (r.length : Int) := by omega
          have hqm : (0 : Int) ≤ (q : Int) - 1 := by omega
          have hqn : (q : Int) - 1 < (r.length : Int) := by omega
          have hcast : ((q : Int) - 1).toNat = q - 1 := by omega
          have hcmp : decide (v < u) = false := by simp; omega
          have hwr : IntKind.i64.wrap ((q : Int) - 1) = (q : Int) - 1 := IntWalk.i64_in _ (by omega)
          have HBQ := hide hbq
          clear hv hu hrow2 hbq
          go_wp2_with fail
          go_quiet (fail)
          go_wp2_with fail
          go_roundw
          case rel => exact ⟨q + 1, by omega, by omega, by go_num, bel_drewN HBQ.out _⟩
          case measure => simp [intOf]; omega
        · go_wp2_with fail
          go_roundw
          case rel => exact ⟨k + 1, by omega, by go_num, chain HB2.out hbq⟩
          case measure => simp [intOf]; omega
    · obtain rfl : k = m := by omega
      have x0 := (HB.out.below hb HB.out.lt).cell 0
      simp at x0
      have xl := (HB.out.below hb HB.out.lt).lt
      have H3 := hide (chain H2.out hb)
      clear hb
      go_wp2_with fail
      refine (alive_b H3.out).mono ?_
      rintro e w5 ⟨rfl, h5, hb5⟩
      have x0 := kept hb5 x0
      go_wp2_with fail
      go_ret
      exact ⟨rfl, h5⟩

theorem triRises_lifted (os : Os) (started : os.Started) (H : Type) (enc : TypeId × Value → H) :
    ReturnsInHanded {} Try.checked os 6 .any (Rows.triRisesSpec.pre6 enc Try.prog Try.f6 Rows.triRisesRow.domain false) (Rows.triRisesSpec.post enc Try.prog Try.f6 false true false false) := by
  refine returnsInHanded_of_change (C := Try.checked) own started (by kernel_rfl) Try.func6
    (ChangeSpec.witness6 (enc := enc) (C := Try.checked) false ⟨#[], #[.slice none 0 0], []⟩ 8 (by kernel_rfl) (by kernel_rfl) (by kernel_rfl) (by kernel_rfl)) ?_
  intro W base args ds gs before hval0 hW hcnd _
  have hval : ∀ (j : Nat) t v, Try.f6.params[j]? = some t → args[j]? = some v → Value.okWide Try.prog W .any base t v := hval0
  have hW' := hW
  obtain ⟨p, q, hA0, hV, rfl, hfz, hnd⟩ := hW
  have hA : DataW.TrodAll enc Try.prog W 0 (fun _ => true) true Try.f6.params.toList args.toList ds p := hA0
  rw [Try.params6] at hA hval
  obtain ⟨v0, vs0, d0, ds0, p0, q0, hargs, rfl, rfl, h0, r0⟩ := trodAll_cons hA
  obtain ⟨rfl, rfl, rfl⟩ := trodAll_nil r0
  obtain rfl : args = #[v0] := by cases args; simp_all
  obtain ⟨rfl, rfl⟩ := trodVars_none hV
  obtain ⟨A0, l0, p0, rfl, hs0, ho0⟩ := open_r3s (hval 0 30 v0 rfl rfl) h0
  refine (triRises_walk W A0 l0 p0 hs0 ho0).mono fun e W' ⟨he, hb⟩ => ?_
  subst he
  exact ⟨_, rfl, law_post laidOut (by kernel_rfl) rfl Try.underlying4 rfl rfl hW' hb⟩

/-- THE STATEMENT. -/
theorem triRises_holds : Rows.TriRisesSaid :=
  OpenClaim.holds_of_wide 6 Try.f6 rfl rfl rfl rfl rfl rfl rfl ⟨rfl, rfl, rfl, rfl, rfl⟩ rfl rfl rfl rfl rfl (by kernel_rfl) Try.func6 (by kernel_rfl)
    (of_decide_eq_true (by kernel_rfl)) (by unfold Func.isWrapper; first | (rw [if_pos (by decide +kernel)]; kernel_rfl) | (rw [if_neg (by decide +kernel)]; exact ⟨rfl, rfl⟩))
    (fun os started H enc _ => triRises_lifted os started H enc)
end Go.Proofs.Ytclcjonogjinfaa
