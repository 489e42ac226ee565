/- Arguments with their reach; few versions. -/
import Derived.Test.YtaboachegclaiaaOpenZ
import Derived.Test.YtaboachegclaiaaTarL
namespace Go.Proofs.Ytaboachegclaiaa
open Go.ChangeShapes Go.WideShapes Go.ChangeAt Go.RowKit

theorem bytes_int : Try.prog.bytesOf 3 = 8 := by kernel_rfl
theorem bytes_band : Try.prog.bytesOf 63 = 16 := by kernel_rfl
theorem bytes_ver : Try.prog.bytesOf 26 = 120 := by kernel_rfl
/-- The slices of a version are within the reach. -/
def FitV (x : Vw) : Prop := x.age.length ≤ 17592186044416 ∧ x.zone.length ≤ 17592186044416 ∧ x.peril.length ≤ 17592186044416
section
variable {H : Type} {enc : TypeId × Value → H} {W : World} {r : Reach} {b0 : Nat} {v : Value} {d : DataW H} {p : List MemPlace}
theorem rowsZ_ints (h : LeafOkZ enc Try.prog W (.slice 3) v) : ∃ (A : Option Addr) (l : List Int) (cap : Nat), v = .slice A l.length cap ∧ SV W 1 A l.length cap (l.map encI) ∧ l.length ≤ 17592186044416 := by
  obtain ⟨A, l, cap, hv, h1, h2, h3, _, h5, h6⟩ := rowsZ_of enc Try.prog W (α := Int) 1 1 encI ok64 leaves_int cells_int rfl (by omega) (fun cs hl => by
    obtain ⟨n1, l1, rfl, w1, h1⟩ := leaf_intZ enc _ _ hl
    obtain rfl := allLeaf_nilZ enc _ _ h1
    exact ⟨n1, rfl, wf64 w1⟩) h
  rw [bytes_int] at h6
  unfold reachBytes at h6
  exact ⟨A, l, cap, hv, ⟨h3, List.length_map _, h1, h2, h5⟩, by omega⟩
theorem rowsZ_bands (h : LeafOkZ enc Try.prog W (.slice 63) v) : ∃ (A : Option Addr) (l : List Bd) (cap : Nat), v = .slice A l.length cap ∧ SV W 2 A l.length cap (l.map encBd) ∧ l.length ≤ 17592186044416 := by
  obtain ⟨A, l, cap, hv, h1, h2, h3, _, h5, h6⟩ := rowsZ_of enc Try.prog W (α := Bd) 2 2 encBd (fun _ => True) leaves_band cells_band rfl (by omega) (fun cs hl => by
    obtain ⟨n1, l1, rfl, w1, h1⟩ := leaf_intZ enc _ _ hl
    obtain ⟨n2, l2, rfl, w2, h2⟩ := leaf_intZ enc _ _ h1
    obtain rfl := allLeaf_nilZ enc _ _ h2
    exact ⟨(n1, n2), rfl, trivial⟩) h
  rw [bytes_band] at h6
  unfold reachBytes at h6
  exact ⟨A, l, cap, hv, ⟨h3, List.length_map _, h1, h2, h5⟩, by omega⟩
theorem verZ_leaf {cs : List Value} (hl : AllLeafZ enc Try.prog W [.int .i64, .int .i64, .int .i64, .int .i64, .int .i64, .slice 63, .slice 3, .slice 3, .int .i64] cs) : ∃ v : Vw, cs = encV v ∧ VOK W v ∧ okVw v ∧ FitV v := by
  obtain ⟨f, l1, rfl, wf, h1⟩ := leaf_intZ enc _ _ hl
  obtain ⟨b0, l2, rfl, _, h2⟩ := leaf_intZ enc _ _ h1
  obtain ⟨b1, l3, rfl, _, h3⟩ := leaf_intZ enc _ _ h2
  obtain ⟨b2, l4, rfl, _, h4⟩ := leaf_intZ enc _ _ h3
  obtain ⟨b3, l5, rfl, _, h5⟩ := leaf_intZ enc _ _ h4
  obtain ⟨va, l6, rfl, ka, h6⟩ := allLeaf_consZ enc _ _ h5
  obtain ⟨vz, l7, rfl, kz, h7⟩ := allLeaf_consZ enc _ _ h6
  obtain ⟨vp, l8, rfl, kp, h8⟩ := allLeaf_consZ enc _ _ h7
  obtain ⟨mn, l9, rfl, wm, h9⟩ := leaf_intZ enc _ _ h8
  obtain rfl := allLeaf_nilZ enc _ _ h9
  obtain ⟨aA, age, aC, rfl, ha, ha2⟩ := rowsZ_bands ka
  obtain ⟨zA, zone, zC, rfl, hz, hz2⟩ := rowsZ_ints kz
  obtain ⟨pA, peril, pC, rfl, hp, hp2⟩ := rowsZ_ints kp
  exact ⟨⟨f, b0, b1, b2, b3, aA, age, aC, zA, zone, zC, pA, peril, pC, mn⟩, rfl, ⟨ha, hz, hp⟩, ⟨wf64 wf, wf64 wm⟩, ha2, hz2, hp2⟩
theorem openZ_version (hv : Value.okWide Try.prog W r b0 26 v) (h : DataW.Trod enc Try.prog W 0 (fun _ => true) true 26 v d p) (hsm : Small Try.prog 26 d) :
    ∃ x : Vw, v = .agg #[.int .i64 x.f, .int .i64 x.b0, .int .i64 x.b1, .int .i64 x.b2, .int .i64 x.b3, .slice x.aA x.age.length x.aC, .slice x.zA x.zone.length x.zC, .slice x.pA x.peril.length x.pC, .int .i64 x.mn] ∧ VOK W x ∧ okVw x ∧ FitV x := by
  obtain ⟨l, rfl, hl⟩ := top_aggZ enc Try.prog W 3 Try.underlying26 leaves_ver cells_ver hv h hsm
  obtain ⟨x, rfl, h1, h2, h3⟩ := verZ_leaf hl
  exact ⟨x, rfl, h1, h2, h3⟩
/-- What is known of a tariff that came in. -/
structure TIn (W : World) (A : Option Addr) (cap : Nat) (M : List Vw) : Prop where
  tv : TV W A M.length cap M
  ok : ∀ x ∈ M, okVw x ∧ FitV x
  room : M.length * 120 ≤ 140737488351232
theorem openZ_tariff (hv : Value.okWide Try.prog W r b0 29 v) (h : DataW.Trod enc Try.prog W 0 (fun _ => true) true 29 v d p) (hsm : Small Try.prog 29 d) :
    ∃ (A : Option Addr) (M : List Vw) (cap : Nat), v = .agg #[.slice A M.length cap] ∧ TIn W A cap M := by
  obtain ⟨l, rfl, hl⟩ := top_aggZ enc Try.prog W 2 Try.underlying29 leaves_tar cells_tar hv h hsm
  obtain ⟨v1, l1, rfl, k1, h1⟩ := allLeaf_consZ enc _ _ hl
  obtain rfl := allLeaf_nilZ enc _ _ h1
  obtain ⟨A, M, cap, rfl, g1, g2, g3, g4, g5, g6⟩ := rowsZ_of enc Try.prog W (α := Vw) 3 9 encV (fun v => VOK W v ∧ okVw v ∧ FitV v) leaves_ver cells_ver rfl (by omega) (fun cs hl => by
    obtain ⟨x, rfl, h1, h2⟩ := verZ_leaf hl
    exact ⟨x, rfl, h1, h2⟩) k1
  rw [bytes_ver] at g6
  unfold reachBytes at g6
  exact ⟨A, M, cap, rfl, ⟨⟨g3, List.length_map _, g1, g2, g5⟩, fun v hv => (g4 v hv).1⟩, fun v hv => (g4 v hv).2, by omega⟩
end

/-! ### Few -/
def sumV : List Vw → Int
  | [] => 0
  | x :: r => (x.age.length + x.zone.length + x.peril.length : Int) + sumV r
theorem sumV_app : ∀ (a b : List Vw), sumV (a ++ b) = sumV a + sumV b
  | [], b => by simp [sumV]
  | x :: r, b => by rw [List.cons_append, sumV, sumV, sumV_app r b]; omega
theorem sumV_take {M : List Vw} {k : Nat} {x : Vw} (h : M[k]? = some x) : sumV (M.take (k + 1)) = sumV (M.take k) + (x.age.length + x.zone.length + x.peril.length : Int) := by rw [take_of h, sumV_app, sumV, sumV]; omega
theorem sumV_le : ∀ {M : List Vw}, (∀ x ∈ M, FitV x) → 0 ≤ sumV M ∧ sumV M ≤ M.length * 52776558133248
  | [], _ => ⟨Int.le_refl _, Int.le_refl _⟩
  | x :: r, h => by
    obtain ⟨h1, h2⟩ := sumV_le (M := r) (fun y hy => h y (by simp [hy]))
    obtain ⟨f1, f2, f3⟩ := h x (by simp)
    rw [sumV, List.length_cons]
    constructor
    · omega
    · push_cast; omega
def fewB (M : List Vw) : Bool := decide (M.length ≤ 110) && decide (sumV M ≤ 3000)

set_option maxRecDepth 100000 in
set_option maxHeartbeats 4000000 in
theorem few_any (A : Option Addr) (cap : Nat) (M : List Vw) (w : World) (hs : TV w A M.length cap M) (hf : ∀ x ∈ M, FitV x) :
    Calls Try.prog 8 #[.slice A M.length cap] w fun e w' => e = .returned (.bool (fewB M)) ∧ Below w.heap.size w w' := by
  have HS := hide hs
  have hmx := hs.sv.le
  have hmy := hs.sv.most
  unfold maxLen at hmy
  have HF := hide hf
  clear hs hf
  go_enter Try.func8, Try.ntmps8
  go_wp2_with fail
  go_loopw [3, 8] (fun n q wr => ∃ (k : Nat) (m : Int), k ≤ M.length ∧ q = .int .i64 k ∧ n = .int .i64 m ∧ (-9223372036854775808 ≤ m ∧ m ≤ 9223372036854775807) ∧ (M.length ≤ 110 → m = sumV (M.take k)) ∧ Below w.heap.size w wr) (fun _ q _ => M.length - (intOf q).toNat)
  case atStart => exact ⟨0, 0, Nat.zero_le _, rfl, rfl, by omega, fun _ => rfl, Below.refl _ _⟩
  case round =>
    obtain ⟨k, m, hk, rfl, rfl, hm, hms, hb⟩ := hrel
    have HM := hide hms
    have HB := hide hb
    clear hms
    by_cases hlt : k < M.length
    · obtain ⟨x, hx⟩ := get_of hlt
      obtain ⟨bb, off, rfl, hbl, c0, c1, c2, c3, c4, c5, c6, c7, c8⟩ := (HS.out.below hb).sv.sl.vw hx
      have hk0 : (0 : Int) ≤ (k : Int) := by omega
      have hk1 : (k : Int) < (M.length : Int) := by omega
      obtain ⟨f1, f2, f3⟩ := HF.out x (List.mem_of_getElem? hx)
      have HT := hide (sumV_take hx)
      have HX := hide hx
      clear hx hb
      by_cases hl : M.length ≤ 110
      · have hms := HM.out hl
        obtain ⟨g1, g2⟩ := sumV_le (M := M.take k) (fun y hy => HF.out y (List.mem_of_mem_take hy))
        rw [← hms, List.length_take, Nat.min_eq_left hk] at g2
        rw [← hms] at g1
        have g3 : m ≤ 5805421394657280 := by omega
        have HMS := hide hms
        clear hms g2 HM
        go_wp2_with fail
        go_roundw
        case rel => exact ⟨k + 1, _, by omega, by go_num, rfl, by omega, fun _ => by rw [HT.out, ← HMS.out], HB.out.alloc HB.out.size _⟩
        case measure => simp [intOf]; omega
      · go_wp2_with fail
        go_roundw
        case rel => exact ⟨k + 1, _, by omega, by go_num, rfl, by unfold wrap64; omega, fun h => absurd h hl, HB.out.alloc HB.out.size _⟩
        case measure => simp [intOf]; omega
    · obtain rfl : k = M.length := by omega
      have hk1 : ¬ (((M.length : Nat) : Int) < (M.length : Int)) := by omega
      by_cases hl : M.length ≤ 110
      · have hms := HM.out hl
        rw [List.take_of_length_le (Nat.le_refl _)] at hms
        have HV := hide (show fewB M = decide (m ≤ 3000) by rw [fewB, decide_eq_true hl, hms]; rfl)
        clear hms
        have hl' : (M.length : Int) ≤ 110 := by omega
        go_wp2_with fail
        go_ret
        exact ⟨ret_bool HV.out.symm, HB.out⟩
      · have HV := hide (show fewB M = false by rw [fewB, decide_eq_false hl]; rfl)
        have hl' : ¬ ((M.length : Int) ≤ 110) := by omega
        go_wp2_with fail
        go_ret
        exact ⟨ret_bool HV.out.symm, HB.out⟩
theorem few_len {M : List Vw} (hf : ∀ x ∈ M, FitV x) (h : fewB M = true) : M.length ≤ 110 ∧ ∀ x ∈ M, LenV x := by
  rw [fewB, Bool.and_eq_true, decide_eq_true_eq, decide_eq_true_eq] at h
  refine ⟨h.1, fun x hx => ?_⟩
  have : ∀ (M : List Vw), (∀ x ∈ M, FitV x) → x ∈ M → (x.age.length : Int) + x.zone.length + x.peril.length ≤ sumV M := by
    intro M hf hx
    induction M with
    | nil => cases hx
    | cons a r ih =>
      have h0 := (sumV_le (M := r) (fun y hy => hf y (by simp [hy]))).1
      rw [sumV]
      rcases List.mem_cons.1 hx with h1 | h1
      · subst h1; omega
      · have := ih (fun y hy => hf y (by simp [hy])) h1; omega
  have := this M hf hx
  unfold LenV
  omega
end Go.Proofs.Ytaboachegclaiaa
