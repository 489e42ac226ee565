/- RiskLeast: the band of an age is that with the least age that is not below it, of right bands. For all bands and ages. -/
import Derived.Test.YtiflfhfcdohncaaRiskOpen
import Derived.BigQuiet
import Derived.Deep.QuietTactic
namespace Go.Proofs.Ytiflfhfcdohncaa
open Go.ChangeShapes Go.WideShapes Go.ChangeAt Go.RowKit
set_option linter.unusedVariables false


def pos (age : Int) : List Bd → Nat
  | [] => 0
  | x :: r => if x.1 < age then pos age r + 1 else 0
theorem pos_le (age : Int) : ∀ l : List Bd, pos age l ≤ l.length
  | [] => Nat.le_refl _
  | x :: r => by
    rw [pos]
    split
    · have := pos_le age r
      simp; omega
    · omega
theorem pos_lt (age : Int) : ∀ (l : List Bd) (k : Nat) (x : Bd), k < pos age l → l[k]? = some x → x.1 < age
  | [], k, x, _, h => by simp at h
  | y :: r, k, x, hk, h => by
    rw [pos] at hk
    split at hk
    · rename_i hy
      cases k with
      | zero => simp at h; subst h; exact hy
      | succ k => exact pos_lt age r k x (by omega) (by simpa using h)
    · omega
theorem pos_at (age : Int) : ∀ (l : List Bd) (x : Bd), l[pos age l]? = some x → age ≤ x.1
  | [], x, h => by simp at h
  | y :: r, x, h => by
    rw [pos] at h
    split at h
    · exact pos_at age r x (by simpa using h)
    · simp at h; subst h; omega
theorem band_pos (age : Int) : ∀ l : List Bd, bandI age l = match l[pos age l]? with | some x => x.2 | none => 10000
  | [] => rfl
  | y :: r => by
    rw [bandI, pos]
    split
    · rw [band_pos age r]; simp
    · simp
theorem rise_gt : ∀ (last : Int) (l : List Bd) (k : Nat) (x : Bd), rise last l = true → l[k]? = some x → last < x.1 ∧ x.1 ≤ 200 ∧ 0 ≤ x.2 ∧ x.2 ≤ 100000
  | last, [], k, x, _, h => by simp at h
  | last, y :: r, k, x, hr, h => by
    rw [rise] at hr
    split at hr
    · cases hr
    · cases k with
      | zero => simp at h; subst h; omega
      | succ k =>
        have := rise_gt y.1 r k x hr (by simpa using h)
        omega
theorem rise_two : ∀ (last : Int) (l : List Bd) (i j : Nat) (x y : Bd), rise last l = true → i < j → l[i]? = some x → l[j]? = some y → x.1 < y.1
  | last, [], i, j, x, y, _, _, h, _ => by simp at h
  | last, z :: r, i, j, x, y, hr, hij, hx, hy => by
    rw [rise] at hr
    split at hr
    · cases hr
    · cases j with
      | zero => omega
      | succ j =>
        cases i with
        | zero => simp at hx; subst hx; exact (rise_gt _ r j y hr (by simpa using hy)).1
        | succ i => exact rise_two _ r i j x y hr (by omega) (by simpa using hx) (by simpa using hy)
theorem bandI_at : ∀ (last : Int) (l : List Bd) (k : Nat) (x : Bd), rise last l = true → l[k]? = some x → bandI x.1 l = x.2
  | last, [], k, x, _, h => by simp at h
  | last, z :: r, k, x, hr, h => by
    have hr' := hr
    rw [rise] at hr
    split at hr
    · cases hr
    · rw [bandI]
      cases k with
      | zero => simp at h; subst h; rw [if_neg (by omega)]
      | succ k =>
        rw [if_pos (rise_two last (z :: r) 0 (k + 1) z x hr' (by omega) rfl h)]
        exact bandI_at z.1 r k x hr (by simpa using h)

def atOf (f k : Nat) : Int := if f < k then (f : Int) else -1
theorem atOf_pos {f k : Nat} (h : f < k) : atOf f k = f := if_pos h
theorem atOf_neg {f k : Nat} (h : ¬ f < k) : atOf f k = -1 := if_neg h

set_option maxHeartbeats 1000000 in
theorem riskLeast_walk (w : World) (A : Option Addr) (l : List Bd) (c : Nat) (hc : l.length ≤ c) (hm : c ≤ maxLen) (hl : Sl w w.heap.size 2 A (l.map encBd)) (age : Int) (_wa : (Lit.int .i64 age).wf = true) :
    Calls Try.prog 6 #[.slice A l.length c, .int .i64 age] w fun e w' => e = .returned (.bool true) ∧ Below w.heap.size w w' := by
  unfold maxLen at hm
  have hlen : l.length ≤ 9223372036854775807 := by omega
  have HL := hide hl
  clear hl
  go_enter Try.func6, Try.ntmps6
  go_wp2_with fail
  refine (awake_any _).mono ?_
  rintro e w1 ⟨rfl, hb1⟩
  by_cases hbig : 100 < l.length
  · go_wp2_with fail
    go_ret
    exact ⟨rfl, hb1⟩
  go_wp2_with fail
  refine (bands_any A c l _ ((HL.out.below hb1).more hb1.size) hlen).mono ?_
  rintro e w2 ⟨rfl, hb2⟩
  have h2 := chain hb1 hb2
  clear hb1 hb2
  by_cases hri0 : bandsB l = false
  · go_wp2_with fail
    go_ret
    exact ⟨rfl, h2⟩
  have hri : bandsB l = true := by simpa using hri0
  clear hri0
  have hrise : rise (-1) l = true := by
    rw [bandsB, Bool.and_eq_true] at hri
    exact hri.1
  have HRI := hide hrise
  clear hrise
  go_wp2_with fail
  refine (band_any A c l age _ ((HL.out.below h2).more h2.size) hlen hc).mono ?_
  rintro e w3 ⟨rfl, hb3⟩
  have h3 := chain h2 hb3
  clear h2 hb3
  go_wp2_with fail
  obtain ⟨f, hf⟩ : ∃ f, f = pos age l := ⟨_, rfl⟩
  have HF := hide hf
  have hfl : f ≤ l.length := by rw [hf]; exact pos_le age l
  clear hf
  go_loopw [7, 8] (fun t i wr => ∃ k : Nat, k ≤ l.length ∧ i = .int .i64 k ∧ t = .int .i64 (atOf f k) ∧ Below w.heap.size w wr) (fun _ i _ => l.length - (intOf i).toNat)
  case atStart => exact ⟨0, Nat.zero_le _, rfl, by simp [atOf], h3⟩
  case round =>
    clear h3
    obtain ⟨k, hk, rfl, rfl, h3⟩ := hrel
    by_cases hlt : k < l.length
    · obtain ⟨⟨u, p⟩, hx⟩ := get_of hlt
      obtain ⟨bb, off, rfl, hbl, hc0, hc1⟩ := ((HL.out.below h3).more h3.size).bd hx
      rcases Nat.lt_trichotomy k f with h | h | h
      · have hu : u < age := pos_lt age l k (u, p) (by rw [← HF.out]; exact h) hx
        have hk1 := hide (atOf_neg (f := f) (k := k + 1) (by omega))
        rw [atOf_neg (f := f) (k := k) (by omega)]
        clear hx
        go_wp2_with fail
        go_roundw
        case rel => exact ⟨k + 1, by omega, by go_num, by rw [hk1.out], h3⟩
        case measure => simp [intOf]; omega
      · subst h
        have hu : age ≤ u := pos_at age l (u, p) (by rw [← HF.out]; exact hx)
        have hk1 := hide (atOf_pos (f := k) (k := k + 1) (by omega))
        rw [atOf_neg (f := k) (k := k) (by omega)]
        clear hx
        go_wp2_with fail
        go_roundw
        case rel => exact ⟨k + 1, by omega, by go_num, by rw [hk1.out], h3⟩
        case measure => simp [intOf]; omega
      · obtain ⟨⟨u', p'⟩, hx'⟩ := get_of (show f < l.length by omega)
        obtain ⟨bb', off', he, _, hc0', _⟩ := ((HL.out.below h3).more h3.size).bd hx'
        simp only [Option.some.injEq, Addr.mk.injEq] at he
        obtain ⟨rfl, rfl, _⟩ := he
        have hu' : age ≤ u' := pos_at age l (u', p') (by rw [← HF.out]; exact hx')
        have huu : u' < u := rise_two (-1) l f k _ _ HRI.out h hx' hx
        have hk1 := hide (atOf_pos (f := f) (k := k + 1) (by omega))
        rw [atOf_pos (f := f) (k := k) h]
        clear hx hx'
        go_wp2_with fail
        go_quiet (fail)
        go_wp2_with fail
        go_roundw
        case rel => exact ⟨k + 1, by omega, by go_num, by rw [hk1.out], bel_drewN h3 _⟩
        case measure => simp [intOf]; omega
    · obtain rfl : k = l.length := by omega
      by_cases hff : f < l.length
      · obtain ⟨⟨u, p⟩, hx⟩ := get_of hff
        obtain ⟨bb, off, rfl, hbl, hc0, hc1⟩ := ((HL.out.below h3).more h3.size).bd hx
        have hbp := band_pos age l
        rw [← HF.out, hx] at hbp
        simp only at hbp
        have hba := bandI_at (-1) l f (u, p) HRI.out hx
        simp only at hba
        obtain ⟨_, hu1, hp0, hp1⟩ := rise_gt (-1) l f (u, p) HRI.out hx
        simp only at hu1 hp0 hp1
        rw [atOf_pos hff]
        have HBA := hide hba
        clear hx hba
        go_wp2_with fail
        refine (band_any _ c l u _ ((HL.out.below h3).more h3.size) hlen hc).mono ?_
        rw [HBA.out]
        rintro e w4 ⟨rfl, hb4⟩
        go_wp2_with fail
        go_ret
        exact ⟨rfl, chain h3 hb4⟩
      · obtain rfl : f = l.length := by omega
        have hbp := band_pos age l
        rw [← HF.out, List.getElem?_eq_none (Nat.le_refl _)] at hbp
        simp only at hbp
        rw [atOf_neg (Nat.lt_irrefl _)]
        go_wp2_with fail
        go_ret
        exact ⟨rfl, h3⟩

theorem riskLeast_lifted (os : Os) (started : os.Started) (H : Type) (enc : TypeId × Value → H) :
    ReturnsInHanded {} Try.checked os 6 .any (Rows.riskLeastSpec.pre6 enc Try.prog Try.f6 Rows.riskLeastRow.domain false) (Rows.riskLeastSpec.post enc Try.prog Try.f6 false true false false) := by
  refine returnsInHanded_of_change (C := Try.checked) own started (by kernel_rfl) Try.func6
    (ChangeSpec.witness6 (enc := enc) (C := Try.checked) false ⟨#[], #[.slice none 0 0, .int .i64 0], []⟩ 8 (by kernel_rfl) (by kernel_rfl) (by kernel_rfl) (by kernel_rfl)) ?_
  intro W base args ds gs before hval0 hW hcnd _
  have hval : ∀ (j : Nat) t v, Try.f6.params[j]? = some t → args[j]? = some v → Value.okWide Try.prog W .any base t v := hval0
  have hW' := hW
  obtain ⟨p, q, hA0, hV, rfl, hfz, hnd⟩ := hW
  have hA : DataW.TrodAll enc Try.prog W 0 (fun _ => true) true Try.f6.params.toList args.toList ds p := hA0
  rw [Try.params6] at hA hval
  obtain ⟨v0, vs0, d0, ds0, p0, q0, hargs, rfl, rfl, h0, r0⟩ := trodAll_cons hA
  obtain ⟨v1, vs1, d1, ds1, p1, q1, rfl, rfl, rfl, h1, r1⟩ := trodAll_cons r0
  obtain ⟨rfl, rfl, rfl⟩ := trodAll_nil r1
  obtain rfl : args = #[v0, v1] := by cases args; simp_all
  obtain ⟨rfl, rfl⟩ := trodVars_none hV
  obtain ⟨A0, l0, c0, rfl, hc0, hm0, hl0⟩ := open_bands (hval 0 26 v0 rfl rfl) h0
  obtain ⟨x1, rfl, rfl, rfl, wx1⟩ := open_int Try.underlying3 (hval 1 3 v1 rfl rfl) h1
  refine (riskLeast_walk W A0 l0 c0 hc0 hm0 hl0 x1 wx1).mono fun e W' ⟨he, hb⟩ => ?_
  subst he
  exact ⟨_, rfl, law_post laidOut (by kernel_rfl) rfl Try.underlying4 rfl rfl hW' hb⟩

/-- THE STATEMENT. -/
theorem riskLeast_holds : Rows.RiskLeastSaid :=
  OpenClaim.holds_of_wide 6 Try.f6 rfl rfl rfl rfl rfl rfl rfl ⟨rfl, rfl, rfl, rfl, rfl⟩ rfl rfl rfl rfl rfl (by kernel_rfl) Try.func6 (by kernel_rfl)
    (of_decide_eq_true (by kernel_rfl)) (by unfold Func.isWrapper; first | (rw [if_pos (by decide +kernel)]; kernel_rfl) | (rw [if_neg (by decide +kernel)]; exact ⟨rfl, rfl⟩))
    (fun os started H enc _ => riskLeast_lifted os started H enc)
end Go.Proofs.Ytiflfhfcdohncaa
