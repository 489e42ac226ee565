/- DayYears: a year's days, and how many leap years there are. -/
import Derived.Test.YtbkpflgceppkdaaDayOpen
namespace Go.Proofs.Ytbkpflgceppkdaa
open Go.ChangeShapes Go.WideShapes Go.ChangeAt Go.RowKit
set_option linter.unusedVariables false

theorem year_facts {k : Int} (h1 : 1 ≤ k) (h2 : k ≤ 292194) : 1601 ≤ (ofI k).1 ∧ (ofI k).1 ≤ 2400 ∧ fiE (ofI k).1 = 0 ∧ fiE ((ofI k).1 + 1) = 0 ∧ fiV (ofI k).1 ≤ k ∧ k < fiV ((ofI k).1 + 1) ∧ fiV ((ofI k).1 + 1) - fiV (ofI k).1 = 365 + leapI (ofI k).1 ∧ 1 ≤ fiV (ofI k).1 ∧ fiV ((ofI k).1 + 1) ≤ 292195 := by
  obtain ⟨r, e⟩ := ofI_ok h1 h2
  have i := in_year r
  rw [e] at i
  have r0 := right_iff.1 r
  have hl := leap_of_ahead (ofI k).1
  have b1 := ahead_bd (ofI k).1 (by omega) (by omega)
  have b2 := ahead_bd ((ofI k).1 + 1) (by omega) (by omega)
  unfold fiE fiV
  rw [if_pos (by omega), if_pos (by omega), if_pos (by omega), if_pos (by omega)]
  omega
theorem first_facts {v : Int} (h1 : 1601 ≤ v) (h2 : v ≤ 2001) : fiE v = 0 ∧ fiE (v + 400) = 0 ∧ fiV (v + 400) - fiV v = 146097 ∧ 1 ≤ fiV v ∧ fiV (v + 400) ≤ 292195 := by
  have b1 := ahead_bd v (by omega) (by omega)
  have b2 := ahead_bd (v + 400) (by omega) (by omega)
  have ha : aheadI (v + 400) = aheadI v + 146097 := by unfold aheadI; omega
  unfold fiE fiV
  rw [if_pos (by omega), if_pos (by omega), if_pos (by omega), if_pos (by omega)]
  omega
/-- How many leap years there are from v to i. -/
def lpsI (v i : Int) : Int := aheadI i - aheadI v - 365 * (i - v)
theorem lps_end (v : Int) : lpsI v (v + 400) = 97 := by unfold lpsI aheadI; omega
theorem lps_start (v : Int) : lpsI v v = 0 := by unfold lpsI; omega
theorem lps_step (v i : Int) : lpsI v (i + 1) = lpsI v i + leapI i := by
  have := leap_of_ahead i
  unfold lpsI; omega
theorem lps_bd {v i : Int} (h : v ≤ i) : ∀ k : Nat, i = v + k → 0 ≤ lpsI v i ∧ lpsI v i ≤ k := by
  intro k
  induction k generalizing i with
  | zero => intro e; rw [show i = v by omega, lps_start]; omega
  | succ k ih =>
    intro e
    have := ih (i := i - 1) (by omega) (by omega)
    have s := lps_step v (i - 1)
    rw [show i - 1 + 1 = i by omega] at s
    have := leap_01 (i - 1)
    omega

set_option maxRecDepth 100000 in
set_option maxHeartbeats 1000000 in
theorem dayYears_walk (w : World) (n : Int) (_wn : (Lit.int .u32 n).wf = true) (y : Int) (_wy : (Lit.int .u16 y).wf = true) :
    Calls Try.prog 11 #[.int .u32 n, .int .u16 y] w fun e w' => e = .returned (.bool true) ∧ Below w.heap.size w w' := by
  go_enter Try.func11, Try.ntmps11
  go_wp2_with fail
  refine (awake_any _).mono ?_
  rintro e w1 ⟨rfl, hb1⟩
  have bn : 0 ≤ n ∧ n ≤ 4294967295 := wf_u32 _wn
  have by' : 0 ≤ y ∧ y ≤ 65535 := wf_u16 _wy
  go_wp2_with fail
  refine (in_any _ _ bn.1 bn.2).mono ?_
  rintro e wq ⟨rfl, rfl⟩
  obtain ⟨k, hk⟩ : ∃ k, 1 + n % 292194 = k := ⟨_, rfl⟩
  rw [hk]
  have hk1 : 1 ≤ k := by omega
  have hk2 : k ≤ 292194 := by omega
  have ek : okE k = 0 := by rw [okE, if_pos ⟨hk1, hk2⟩]
  obtain ⟨f1, f2, f3, f4, f5, f6, f7, f8, f9⟩ := year_facts hk1 hk2
  go_wp2_with fail
  refine (year_v _ _).mono ?_
  rintro e wq ⟨rfl, rfl⟩
  rw [ek]
  obtain ⟨u, hu⟩ : ∃ u, (ofI k).1 = u := ⟨_, rfl⟩
  rw [hu] at f1 f2 f3 f4 f5 f6 f7 f8 f9 ⊢
  clear hu
  go_wp2_with fail
  refine (first_v _ _).mono ?_
  rintro e wq ⟨rfl, rfl⟩
  rw [f3]
  go_wp2_with fail
  refine (first_v _ _).mono ?_
  rintro e wq ⟨rfl, rfl⟩
  rw [f4]
  obtain ⟨a, ha⟩ : ∃ a, fiV u = a := ⟨_, rfl⟩
  obtain ⟨b, hb⟩ : ∃ b, fiV (u + 1) = b := ⟨_, rfl⟩
  rw [ha] at f5 f7 f8 ⊢
  rw [hb] at f6 f7 f9 ⊢
  clear ha hb f3 f4
  obtain ⟨v, hv⟩ : ∃ v, 1601 + y % 401 = v := ⟨_, rfl⟩
  obtain ⟨g1, g2, g3, g4, g5⟩ := first_facts (v := v) (by omega) (by omega)
  have hv1 : 1601 ≤ v := by omega
  have hv2 : v ≤ 2001 := by omega
  have hw : IntKind.u16.wrap (y.tmod 401) = y % 401 := by rw [Int.tmod_eq_emod_of_nonneg by'.1]; exact IntWalk.u16_in _ (by omega)
  have hlast : b - a = 365 + leapI u := f7
  go_wp2_with fail
  refine (leap_any _ _).mono ?_
  rintro e wq ⟨rfl, rfl⟩
  cases hlu : leapB u
  all_goals
    have hl01 : b - a = 365 + (if leapB u = true then 1 else 0) := by rw [f7, leapI]
    rw [hlu] at hl01
    simp at hl01
    clear f7 hlast
    go_wp2_with fail
    refine (first_v _ _).mono ?_
    rintro e wq ⟨rfl, rfl⟩
    rw [g1]
    go_wp2_with fail
    refine (first_v _ _).mono ?_
    rintro e wq ⟨rfl, rfl⟩
    rw [g2]
    obtain ⟨c, hc⟩ : ∃ c, fiV v = c := ⟨_, rfl⟩
    obtain ⟨d, hd⟩ : ∃ d, fiV (v + 400) = d := ⟨_, rfl⟩
    rw [hc] at g3 g4 ⊢
    rw [hd] at g3 g5 ⊢
    clear hc hd g1 g2 hw
    go_wp2_with fail
    go_loop [19, 20] (fun t i => ∃ q : Int, v ≤ q ∧ q ≤ v + 400 ∧ i = .int .i64 q ∧ t = .int .i64 (lpsI v q)) (fun _ i => (v + 400 - intOf i).toNat)
    case atStart => exact ⟨v, by omega, by omega, rfl, by rw [lps_start]⟩
    case round =>
      obtain ⟨q, hq1, hq2, rfl, rfl⟩ := hrel
      have hbd := lps_bd hq1 (q - v).toNat (by omega)
      have HE := hide (fun h : q = v + 400 => (by rw [h, lps_end] : lpsI v q = 97))
      have HS := hide (lps_step v q)
      obtain ⟨L, hL⟩ : ∃ L, lpsI v q = L := ⟨_, rfl⟩
      have HL := hide hL
      rw [hL] at hbd ⊢
      clear hL
      by_cases hlt : q < v + 400
      · go_wp2_with fail
        refine (leap_any _ _).mono ?_
        rintro e wq ⟨rfl, rfl⟩
        cases hlq : leapB q with
        | false =>
          go_wp2_with fail
          go_round
          case rel => exact ⟨q + 1, by omega, by omega, rfl, by rw [HS.out, HL.out, leapI_f hlq]; simp⟩
          case measure => simp [intOf]; omega
        | true =>
          go_wp2_with fail
          go_round
          case rel => exact ⟨q + 1, by omega, by omega, rfl, by rw [HS.out, HL.out, leapI_t hlq]⟩
          case measure => simp [intOf]; omega
      · obtain rfl : L = 97 := by rw [← HL.out]; exact HE.out (by omega)
        have g3' : (d - c == 146097) = true := by simpa using g3
        have hl' : (b - a == 365) = true ∨ (b - a == 366) = true := by
          first | exact .inl (by simpa using hl01) | exact .inr (by simpa using hl01)
        clear hbd
        go_wp2_with fail
        go_ret
        exact ⟨ret_bool (by first | rfl | (simp; omega) | simp), hb1⟩

theorem dayYears_lifted (os : Os) (started : os.Started) (H : Type) (enc : TypeId × Value → H) :
    ReturnsInHanded {} Try.checked os 11 .any (Rows.dayYearsSpec.pre6 enc Try.prog Try.f11 Rows.dayYearsRow.domain false) (Rows.dayYearsSpec.post enc Try.prog Try.f11 false true false false) := by
  refine returnsInHanded_of_change (C := Try.checked) own started (by kernel_rfl) Try.func11
    (ChangeSpec.witness6 (enc := enc) (C := Try.checked) false ⟨#[], #[.int .u32 0, .int .u16 0], []⟩ 8 (by kernel_rfl) (by kernel_rfl) (by kernel_rfl) (by kernel_rfl)) ?_
  intro W base args ds gs before hval0 hW hcnd _
  have hval : ∀ (j : Nat) t v, Try.f11.params[j]? = some t → args[j]? = some v → Value.okWide Try.prog W .any base t v := hval0
  have hW' := hW
  obtain ⟨p, q, hA0, hV, rfl, hfz, hnd⟩ := hW
  have hA : DataW.TrodAll enc Try.prog W 0 (fun _ => true) true Try.f11.params.toList args.toList ds p := hA0
  rw [Try.params11] at hA hval
  obtain ⟨v0, vs0, d0, ds0, p0, q0, hargs, rfl, rfl, h0, r0⟩ := trodAll_cons hA
  obtain ⟨v1, vs1, d1, ds1, p1, q1, rfl, rfl, rfl, h1, r1⟩ := trodAll_cons r0
  obtain ⟨rfl, rfl, rfl⟩ := trodAll_nil r1
  obtain rfl : args = #[v0, v1] := by cases args; simp_all
  obtain ⟨rfl, rfl⟩ := trodVars_none hV
  obtain ⟨x0, rfl, rfl, rfl, wx0⟩ := open_int Try.underlying32 (hval 0 32 v0 rfl rfl) h0
  obtain ⟨x1, rfl, rfl, rfl, wx1⟩ := open_int Try.underlying39 (hval 1 39 v1 rfl rfl) h1
  refine (dayYears_walk W x0 wx0 x1 wx1).mono fun e W' ⟨he, hb⟩ => ?_
  subst he
  exact ⟨_, rfl, law_post laidOut (by kernel_rfl) rfl Try.underlying4 rfl rfl hW' hb⟩

/-- THE STATEMENT. -/
theorem dayYears_holds : Rows.DayYearsSaid :=
  OpenClaim.holds_of_wide 11 Try.f11 rfl rfl rfl rfl rfl rfl rfl ⟨rfl, rfl, rfl, rfl, rfl⟩ rfl rfl rfl rfl rfl (by kernel_rfl) Try.func11 (by kernel_rfl)
    (of_decide_eq_true (by kernel_rfl)) (by unfold Func.isWrapper; first | (rw [if_pos (by decide +kernel)]; kernel_rfl) | (rw [if_neg (by decide +kernel)]; exact ⟨rfl, rfl⟩))
    (fun os started H enc _ => dayYears_lifted os started H enc)
end Go.Proofs.Ytbkpflgceppkdaa
