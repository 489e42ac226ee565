/- RiskBetween: between two neighbouring ages of a table all have one factor. For all bands, and any two ages. -/
import Derived.Test.YtiflfhfcdohncaaRiskOpen
namespace Go.Proofs.Ytiflfhfcdohncaa
open Go.ChangeShapes Go.WideShapes Go.ChangeAt Go.RowKit
set_option linter.unusedVariables false


theorem between (a b : Int) (hab : a ≤ b) : ∀ l : List Bd, (∀ x ∈ l, ¬(a ≤ x.1 ∧ x.1 < b)) → bandI a l = bandI b l
  | [], _ => rfl
  | x :: r, h => by
    have hx := h x (by simp)
    have ih := between a b hab r (fun y hy => h y (by simp [hy]))
    rw [bandI, bandI, ih]
    by_cases h1 : x.1 < a
    · rw [if_pos h1, if_pos (by omega)]
    · rw [if_neg h1, if_neg (by omega)]

set_option maxHeartbeats 400000 in
theorem riskBetween_walk (w : World) (A : Option Addr) (l : List Bd) (c : Nat) (hc : l.length ≤ c) (hm : c ≤ maxLen) (hl : Sl w w.heap.size 2 A (l.map encBd)) (a : Int) (_wa : (Lit.int .i64 a).wf = true) (b : Int) (_wb : (Lit.int .i64 b).wf = true) :
    Calls Try.prog 5 #[.slice A l.length c, .int .i64 a, .int .i64 b] w fun e w' => e = .returned (.bool true) ∧ Below w.heap.size w w' := by
  unfold maxLen at hm
  have hlen : l.length ≤ 9223372036854775807 := by omega
  have HL := hide hl
  clear hl
  go_enter Try.func5, Try.ntmps5
  go_wp2_with fail
  refine (awake_any _).mono ?_
  rintro e w1 ⟨rfl, hb1⟩
  by_cases hbig : 100 < l.length
  · go_wp2_with fail
    go_ret
    exact ⟨rfl, hb1⟩
  by_cases hab : b < a
  · go_wp2_with fail
    go_ret
    exact ⟨rfl, hb1⟩
  go_wp2_with fail
  go_loop [8] (fun i => ∃ k : Nat, k ≤ l.length ∧ i = .int .i64 k ∧ ∀ x ∈ l.take k, ¬(a ≤ x.1 ∧ x.1 < b)) (fun i => l.length - (intOf i).toNat)
  case atStart => exact ⟨0, Nat.zero_le _, rfl, by simp⟩
  case round =>
    obtain ⟨k, hk, rfl, hr⟩ := hrel
    have HR := hide hr
    clear hr
    by_cases hlt : k < l.length
    · obtain ⟨⟨u, p⟩, hx⟩ := get_of hlt
      obtain ⟨bb, off, rfl, hbl, hc0, hc1⟩ := ((HL.out.below hb1).more hb1.size).bd hx
      have HX := hide hx
      clear hx
      go_wp2_with fail
      all_goals first
        | (go_ret
           exact ⟨rfl, hb1⟩)
        | (go_round
           case rel => exact ⟨k + 1, by omega, by go_num, by
             intro x hm'
             rw [take_of HX.out, List.mem_append] at hm'
             rcases hm' with h | h
             · exact HR.out x h
             · simp at h; subst h; simp only; omega⟩
           case measure => simp [intOf]; omega)
    · have hall : ∀ x ∈ l, ¬(a ≤ x.1 ∧ x.1 < b) := by
        have h := HR.out
        rwa [List.take_of_length_le (by omega)] at h
      have heq := hide (between a b (by omega) l hall)
      clear hall
      go_wp2_with fail
      refine (band_any A c l a _ ((HL.out.below hb1).more hb1.size) hlen hc).mono ?_
      rintro e w2 ⟨rfl, hb2⟩
      have h2 := chain hb1 hb2
      clear hb1 hb2
      go_wp2_with fail
      refine (band_any A c l b _ ((HL.out.below h2).more h2.size) hlen hc).mono ?_
      rintro e w3 ⟨rfl, hb3⟩
      have h3 := chain h2 hb3
      clear h2 hb3
      go_wp2_with fail
      go_ret
      exact ⟨ret_bool (by simp [heq.out]), h3⟩

theorem riskBetween_lifted (os : Os) (started : os.Started) (H : Type) (enc : TypeId × Value → H) :
    ReturnsInHanded {} Try.checked os 5 .any (Rows.riskBetweenSpec.pre6 enc Try.prog Try.f5 Rows.riskBetweenRow.domain false) (Rows.riskBetweenSpec.post enc Try.prog Try.f5 false true false false) := by
  refine returnsInHanded_of_change (C := Try.checked) own started (by kernel_rfl) Try.func5
    (ChangeSpec.witness6 (enc := enc) (C := Try.checked) false ⟨#[], #[.slice none 0 0, .int .i64 0, .int .i64 0], []⟩ 8 (by kernel_rfl) (by kernel_rfl) (by kernel_rfl) (by kernel_rfl)) ?_
  intro W base args ds gs before hval0 hW hcnd _
  have hval : ∀ (j : Nat) t v, Try.f5.params[j]? = some t → args[j]? = some v → Value.okWide Try.prog W .any base t v := hval0
  have hW' := hW
  obtain ⟨p, q, hA0, hV, rfl, hfz, hnd⟩ := hW
  have hA : DataW.TrodAll enc Try.prog W 0 (fun _ => true) true Try.f5.params.toList args.toList ds p := hA0
  rw [Try.params5] at hA hval
  obtain ⟨v0, vs0, d0, ds0, p0, q0, hargs, rfl, rfl, h0, r0⟩ := trodAll_cons hA
  obtain ⟨v1, vs1, d1, ds1, p1, q1, rfl, rfl, rfl, h1, r1⟩ := trodAll_cons r0
  obtain ⟨v2, vs2, d2, ds2, p2, q2, rfl, rfl, rfl, h2, r2⟩ := trodAll_cons r1
  obtain ⟨rfl, rfl, rfl⟩ := trodAll_nil r2
  obtain rfl : args = #[v0, v1, v2] := by cases args; simp_all
  obtain ⟨rfl, rfl⟩ := trodVars_none hV
  obtain ⟨A0, l0, c0, rfl, hc0, hm0, hl0⟩ := open_bands (hval 0 26 v0 rfl rfl) h0
  obtain ⟨x1, rfl, rfl, rfl, wx1⟩ := open_int Try.underlying3 (hval 1 3 v1 rfl rfl) h1
  obtain ⟨x2, rfl, rfl, rfl, wx2⟩ := open_int Try.underlying3 (hval 2 3 v2 rfl rfl) h2
  refine (riskBetween_walk W A0 l0 c0 hc0 hm0 hl0 x1 wx1 x2 wx2).mono fun e W' ⟨he, hb⟩ => ?_
  subst he
  exact ⟨_, rfl, law_post laidOut (by kernel_rfl) rfl Try.underlying4 rfl rfl hW' hb⟩

/-- THE STATEMENT. -/
theorem riskBetween_holds : Rows.RiskBetweenSaid :=
  OpenClaim.holds_of_wide 5 Try.f5 rfl rfl rfl rfl rfl rfl rfl ⟨rfl, rfl, rfl, rfl, rfl⟩ rfl rfl rfl rfl rfl (by kernel_rfl) Try.func5 (by kernel_rfl)
    (of_decide_eq_true (by kernel_rfl)) (by unfold Func.isWrapper; first | (rw [if_pos (by decide +kernel)]; kernel_rfl) | (rw [if_neg (by decide +kernel)]; exact ⟨rfl, rfl⟩))
    (fun os started H enc _ => riskBetween_lifted os started H enc)
end Go.Proofs.Ytiflfhfcdohncaa
