/- DayBack: each day has one number, and each number one day. -/
import Derived.Test.YtbkpflgceppkdaaDayOpen
namespace Go.Proofs.Ytbkpflgceppkdaa
open Go.ChangeShapes Go.WideShapes Go.ChangeAt Go.RowKit
set_option linter.unusedVariables false

set_option maxRecDepth 100000 in
set_option maxHeartbeats 1000000 in
theorem dayBack_walk (w : World) (n : Int) (_wn : (Lit.int .u32 n).wf = true) (y m d : Int) :
    Calls Try.prog 5 #[.int .u32 n, .agg #[.int .i64 y, .int .i64 m, .int .i64 d]] w fun e w' => e = .returned (.bool true) ∧ Below w.heap.size w w' := by
  go_enter Try.func5, Try.ntmps5
  go_wp2_with fail
  refine (awake_any _).mono ?_
  rintro e w1 ⟨rfl, hb1⟩
  have bn : 0 ≤ n ∧ n ≤ 4294967295 := wf_u32 _wn
  have k0 : w1.cell? ⟨w.heap.size, 0, none⟩ = some (.int .i64 y) := kept hb1 (by simp)
  have k1 : w1.cell? ⟨w.heap.size, 1, none⟩ = some (.int .i64 m) := kept hb1 (by simp)
  have k2 : w1.cell? ⟨w.heap.size, 2, none⟩ = some (.int .i64 d) := kept hb1 (by simp)
  have h1 : Below w.heap.size w w1 := chain1 hb1
  clear hb1
  go_wp2_with fail
  refine (in_any _ _ bn.1 bn.2).mono ?_
  rintro e wq ⟨rfl, rfl⟩
  obtain ⟨k, hk⟩ : ∃ k, 1 + n % 292194 = k := ⟨_, rfl⟩
  rw [hk]
  have hk1 : 1 ≤ k := by omega
  have hk2 : k ≤ 292194 := by omega
  have ek : okE k = 0 := by rw [okE, if_pos ⟨hk1, hk2⟩]
  obtain ⟨hr, he⟩ := ofI_ok hk1 hk2
  have HR := hide hr
  have HE := hide he
  clear hr he
  go_wp2_with fail
  refine (of_val _ _).mono ?_
  rw [ek]
  rintro e w2 ⟨rfl, q⟩
  have c0 := kept q k0
  have c1 := kept q k1
  have c2 := kept q k2
  have h2 := chain h1 q
  have hz : w.heap.size < w2.heap.size := block_lt_of_cell c0
  clear q h1 k0 k1 k2
  go_wp2_with fail
  refine (number_yes _ _ _ _ HR.out).mono ?_
  rw [HE.out]
  rintro e w3 ⟨rfl, q⟩
  have k0 := kept q (kept ((Below.refl _ _).alloc (Nat.le_refl _) _) c0)
  have k1 := kept q (kept ((Below.refl _ _).alloc (Nat.le_refl _) _) c1)
  have k2 := kept q (kept ((Below.refl _ _).alloc (Nat.le_refl _) _) c2)
  have h3 := chain (h2.alloc h2.size _) q
  clear q h2 c0 c1 c2 hz
  have hz : w.heap.size < w3.heap.size := block_lt_of_cell k0
  cases hr : rightB y m d
  · go_wp2_with fail
    refine (number_no _ _ _ _ hr).mono ?_
    rintro e w4 ⟨rfl, q⟩
    have h4 := chain h3 q
    clear q h3 k0 k1 k2 hz
    go_wp2_with fail
    go_ret
    exact ⟨ret_bool (by first | rfl | (simp; omega) | simp), h4⟩
  · obtain ⟨b1, b2⟩ := num_bd hr
    have HO := hide (ofI_eq hr)
    go_wp2_with fail
    refine (number_yes _ _ _ _ hr).mono ?_
    rintro e w4 ⟨rfl, q⟩
    have c0 := kept q k0
    have c1 := kept q k1
    have c2 := kept q k2
    have h4 := chain h3 q
    clear q h3 k0 k1 k2 hz
    have ei : okE (numI y m d) = 0 := by rw [okE, if_pos ⟨b1, b2⟩]
    go_wp2_with fail
    refine (of_val _ _).mono ?_
    rw [ei, HO.out]
    rintro e w5 ⟨rfl, q⟩
    have k0 := kept q c0
    have k1 := kept q c1
    have k2 := kept q c2
    have h5 := chain h4 q
    clear q h4 c0 c1 c2 ei hr HO
    have hz : w.heap.size < w5.heap.size := block_lt_of_cell k0
    obtain ⟨i, hi⟩ : ∃ i, numI y m d = i := ⟨_, rfl⟩
    rw [hi] at b1 b2 ⊢
    clear hi
    go_wp2_with fail
    go_ret
    exact ⟨ret_bool (by first | rfl | (simp; omega) | simp), h5.alloc h5.size _⟩

theorem dayBack_lifted (os : Os) (started : os.Started) (H : Type) (enc : TypeId × Value → H) :
    ReturnsInHanded {} Try.checked os 5 .any (Rows.dayBackSpec.pre6 enc Try.prog Try.f5 Rows.dayBackRow.domain false) (Rows.dayBackSpec.post enc Try.prog Try.f5 false true false false) := by
  refine returnsInHanded_of_change (C := Try.checked) own started (by kernel_rfl) Try.func5
    (ChangeSpec.witness6 (enc := enc) (C := Try.checked) false ⟨#[], #[.int .u32 0, .agg #[.int .i64 0, .int .i64 0, .int .i64 0]], []⟩ 8 (by kernel_rfl) (by kernel_rfl) (by kernel_rfl) (by kernel_rfl)) ?_
  intro W base args ds gs before hval0 hW hcnd _
  have hval : ∀ (j : Nat) t v, Try.f5.params[j]? = some t → args[j]? = some v → Value.okWide Try.prog W .any base t v := hval0
  have hW' := hW
  obtain ⟨p, q, hA0, hV, rfl, hfz, hnd⟩ := hW
  have hA : DataW.TrodAll enc Try.prog W 0 (fun _ => true) true Try.f5.params.toList args.toList ds p := hA0
  rw [Try.params5] at hA hval
  obtain ⟨v0, vs0, d0, ds0, p0, q0, hargs, rfl, rfl, h0, r0⟩ := trodAll_cons hA
  obtain ⟨v1, vs1, d1, ds1, p1, q1, rfl, rfl, rfl, h1, r1⟩ := trodAll_cons r0
  obtain ⟨rfl, rfl, rfl⟩ := trodAll_nil r1
  obtain rfl : args = #[v0, v1] := by cases args; simp_all
  obtain ⟨rfl, rfl⟩ := trodVars_none hV
  obtain ⟨x0, rfl, rfl, rfl, wx0⟩ := open_int Try.underlying32 (hval 0 32 v0 rfl rfl) h0
  obtain ⟨y1, m1, d1, rfl⟩ := open_civil (hval 1 23 v1 rfl rfl) h1
  refine (dayBack_walk W x0 wx0 y1 m1 d1).mono fun e W' ⟨he, hb⟩ => ?_
  subst he
  exact ⟨_, rfl, law_post laidOut (by kernel_rfl) rfl Try.underlying4 rfl rfl hW' hb⟩

/-- THE STATEMENT. -/
theorem dayBack_holds : Rows.DayBackSaid :=
  OpenClaim.holds_of_wide 5 Try.f5 rfl rfl rfl rfl rfl rfl rfl ⟨rfl, rfl, rfl, rfl, rfl⟩ rfl rfl rfl rfl rfl (by kernel_rfl) Try.func5 (by kernel_rfl)
    (of_decide_eq_true (by kernel_rfl)) (by unfold Func.isWrapper; first | (rw [if_pos (by decide +kernel)]; kernel_rfl) | (rw [if_neg (by decide +kernel)]; exact ⟨rfl, rfl⟩))
    (fun os started H enc _ => dayBack_lifted os started H enc)
end Go.Proofs.Ytbkpflgceppkdaa
