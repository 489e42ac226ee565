/- Days as plain numbers; the contracts with a value each; the laws' arguments, opened; their common example. -/
import Derived.Test.YtbkpflgceppkdaaDayD
import Derived.Test.YtbkpflgceppkdaaOpen
import Derived.Deep.RegionWith
namespace Go.Proofs.Ytbkpflgceppkdaa
open Go.ChangeShapes Go.WideShapes Go.ChangeAt Go.RowKit

theorem own : ownKnob Try.prog.godebug = none := by kernel_rfl
theorem laidOut : laidOutB Try.prog = true := by kernel_rfl
theorem cells_civil : Try.prog.cellsOf 23 = 3 := by kernel_rfl
theorem leaves_civil : leaves Try.prog 2 23 = some [.int .i64, .int .i64, .int .i64] := by kernel_rfl
section
variable {H : Type} {enc : TypeId × Value → H} {W : World} {r : Reach} {b0 : Nat} {v : Value} {d : DataW H} {p : List MemPlace}
theorem open_civil (hv : Value.okWide Try.prog W r b0 23 v) (h : DataW.Trod enc Try.prog W 0 (fun _ => true) true 23 v d p) :
    ∃ y m d : Int, v = .agg #[.int .i64 y, .int .i64 m, .int .i64 d] := by
  obtain ⟨l, rfl, hl⟩ := top_agg enc Try.prog W 2 Try.underlying23 leaves_civil cells_civil hv h
  obtain ⟨k, l1, rfl, _, h1⟩ := leaf_int enc _ _ hl
  obtain ⟨n, l2, rfl, _, h2⟩ := leaf_int enc _ _ h1
  obtain ⟨a, l3, rfl, _, h3⟩ := leaf_int enc _ _ h2
  obtain rfl := allLeaf_nil enc _ _ h3
  exact ⟨k, n, a, rfl⟩
end

theorem wf_u32 {n : Int} (h : (Lit.int .u32 n).wf = true) : 0 ≤ n ∧ n ≤ 4294967295 := by
  simpa [Lit.wf, IntKind.min, IntKind.max, IntKind.signed, IntKind.bits] using h
theorem wf_u16 {n : Int} (h : (Lit.int .u16 n).wf = true) : 0 ≤ n ∧ n ≤ 65535 := by
  simpa [Lit.wf, IntKind.min, IntKind.max, IntKind.signed, IntKind.bits] using h
theorem cum13 (y : Int) : cumM y 13 = 365 + leapI y := by simp [cumM]
theorem cum_mono (y m : Int) (h1 : 1 ≤ m) : ∀ k : Nat, m + k ≤ 13 → cumM y m ≤ cumM y (m + k)
  | 0, _ => by simp
  | k + 1, h => by
    have ih := cum_mono y m h1 k (by omega)
    have := cumM_succ y (m + k) (by omega) (by omega)
    have hb := lenM_bd y (m + k)
    rw [show m + ((k + 1 : Nat) : Int) = m + k + 1 by omega]
    omega
theorem cum_lt (y : Int) {m m' : Int} (h1 : 1 ≤ m) (h : m < m') (h2 : m' ≤ 13) : cumM y m + lenM y m ≤ cumM y m' := by
  obtain ⟨k, hk⟩ : ∃ k : Nat, m' = m + 1 + k := ⟨(m' - m - 1).toNat, by omega⟩
  have := cum_mono y (m + 1) (by omega) k (by omega)
  rw [cumM_succ y m h1 (by omega)] at this
  rw [hk]; exact this
theorem right_iff {y m d : Int} : rightB y m d = true ↔ (1601 ≤ y ∧ y ≤ 2400 ∧ 1 ≤ m ∧ m ≤ 12 ∧ 1 ≤ d ∧ d ≤ lenM y m) := by simp [rightB]
theorem in_year {y m d : Int} (h : rightB y m d = true) : aheadI y < numI y m d ∧ numI y m d ≤ aheadI (y + 1) := by
  rw [right_iff] at h
  obtain ⟨_, _, h3, h4, h5, h6⟩ := h
  have h7 := cum_lt y h3 (show m < 13 by omega) (by omega)
  have h8 := cum_bd y m (by omega)
  rw [cum13] at h7
  have h9 := leap_of_ahead y
  unfold numI; omega
theorem num_bd {y m d : Int} (h : rightB y m d = true) : 1 ≤ numI y m d ∧ numI y m d ≤ 292194 := by
  have h1 := in_year h
  rw [right_iff] at h
  have h2 := ahead_bd y (by omega) (by omega)
  have h3 := ahead_bd (y + 1) (by omega) (by omega)
  omega
/-- Which of two days comes first. -/
def firstP (y m d y' m' d' : Int) : Prop := y < y' ∨ (y = y' ∧ (m < m' ∨ (m = m' ∧ d < d')))
theorem num_lt {y m d y' m' d' : Int} (h : rightB y m d = true) (h' : rightB y' m' d' = true) (hl : firstP y m d y' m' d') : numI y m d < numI y' m' d' := by
  have i := in_year h
  have i' := in_year h'
  rw [right_iff] at h h'
  rcases hl with hl | ⟨rfl, hl | ⟨rfl, hl⟩⟩
  · rcases Int.lt_or_le (y + 1) y' with h1 | h1
    · have := ahead_lt (by omega) h1
      omega
    · obtain rfl : y' = y + 1 := by omega
      omega
  · have := cum_lt y (by omega) hl (by omega)
    unfold numI; omega
  · unfold numI; omega
theorem uniq {y m d y' m' d' : Int} (h : rightB y m d = true) (h' : rightB y' m' d' = true) (e : numI y m d = numI y' m' d') : y = y' ∧ m = m' ∧ d = d' := by
  by_cases h1 : firstP y m d y' m' d'
  · have := num_lt h h' h1; omega
  · by_cases h2 : firstP y' m' d' y m d
    · have := num_lt h' h h2; omega
    · unfold firstP at h1 h2; omega
theorem of_ex (n : Int) (h1 : 1 ≤ n) (h2 : n ≤ 292194) : ∃ p : Int × Int × Int, rightB p.1 p.2.1 p.2.2 = true ∧ numI p.1 p.2.1 p.2.2 = n := by
  obtain ⟨a, b, c, d⟩ := yearI_ok n h1 h2
  obtain ⟨y, hy⟩ : ∃ y, yearI n = y := ⟨_, rfl⟩
  rw [hy] at a b c d
  have hl := leap_of_ahead y
  have h01 := leap_01 y
  have key : ∀ m : Int, 1 ≤ m → m ≤ 12 → cumM y m < n - aheadI y → n - aheadI y ≤ cumM y m + lenM y m → ∃ p : Int × Int × Int, rightB p.1 p.2.1 p.2.2 = true ∧ numI p.1 p.2.1 p.2.2 = n :=
    fun m g1 g2 g3 g4 => ⟨(y, m, n - aheadI y - cumM y m), right_iff.2 (by simp only; omega), by simp only [numI]; omega⟩
  have hd : ∀ k : Nat, k ≤ 12 → n - aheadI y ≤ cumM y (k + 1) → ∃ p : Int × Int × Int, rightB p.1 p.2.1 p.2.2 = true ∧ numI p.1 p.2.1 p.2.2 = n := by
    intro k
    induction k with
    | zero => intro _ h; rw [show ((0 : Nat) : Int) + 1 = 1 by omega, cum1] at h; omega
    | succ k ih =>
      intro hk h
      rcases Int.lt_or_le (cumM y (k + 1)) (n - aheadI y) with g | g
      · have hs := cumM_succ y (k + 1) (by omega) (by omega)
        rw [show ((k + 1 : Nat) : Int) + 1 = (k : Int) + 1 + 1 by omega, hs] at h
        exact key (k + 1) (by omega) (by omega) g h
      · exact ih (by omega) g
  exact hd 12 (by omega) (by rw [show ((12 : Nat) : Int) + 1 = 13 by omega, cum13]; omega)

/-- The day of a number; nought where there is none. -/
noncomputable def ofI (n : Int) : Int × Int × Int := if h : 1 ≤ n ∧ n ≤ 292194 then Classical.choose (of_ex n h.1 h.2) else (0, 0, 0)
theorem ofI_ok {n : Int} (h1 : 1 ≤ n) (h2 : n ≤ 292194) : rightB (ofI n).1 (ofI n).2.1 (ofI n).2.2 = true ∧ numI (ofI n).1 (ofI n).2.1 (ofI n).2.2 = n := by
  unfold ofI; rw [dif_pos ⟨h1, h2⟩]; exact Classical.choose_spec (of_ex n h1 h2)
theorem ofI_no {n : Int} (h : ¬(1 ≤ n ∧ n ≤ 292194)) : ofI n = (0, 0, 0) := by unfold ofI; rw [dif_neg h]
theorem ofI_eq {y m d : Int} (h : rightB y m d = true) : ofI (numI y m d) = (y, m, d) := by
  obtain ⟨b1, b2⟩ := num_bd h
  obtain ⟨r, e⟩ := ofI_ok b1 b2
  obtain ⟨e1, e2, e3⟩ := uniq r h e
  exact Prod.ext e1 (Prod.ext e2 e3)
def okE (n : Int) : Int := if 1 ≤ n ∧ n ≤ 292194 then 0 else 3
def numV (y m d : Int) : Int := if rightB y m d = true then numI y m d else 0
def numE (y m d : Int) : Int := if rightB y m d = true then 0 else 3
noncomputable def ofV (n : Int) : Value := .agg #[.int .i64 (ofI n).1, .int .i64 (ofI n).2.1, .int .i64 (ofI n).2.2]
noncomputable def shV (n s : Int) : Int := if 1 ≤ n ∧ n ≤ 292194 then (shiftP (ofI n).1 (ofI n).2.1 (ofI n).2.2 s).1 else 0
noncomputable def shE (n s : Int) : Int := if 1 ≤ n ∧ n ≤ 292194 then (shiftP (ofI n).1 (ofI n).2.1 (ofI n).2.2 s).2 else 3

theorem number_val (y m d : Int) (w : World) : Calls Try.prog 13 #[.agg #[.int .i64 y, .int .i64 m, .int .i64 d]] w fun e w' => e = .returned (.tuple #[.int .i64 (numV y m d), .int .i64 (numE y m d)]) ∧ Below w.heap.size w w' := by
  cases h : rightB y m d
  · simp only [numV, numE, h]; exact number_no y m d w h
  · simp only [numV, numE, h]; exact number_yes y m d w h
theorem numberR_val (y m d : Int) (w : World) : Calls Try.prog 14 #[.agg #[.int .i64 y, .int .i64 m, .int .i64 d]] w fun e w' => e = .returned (.tuple #[.int .i64 (numV y m d), .int .i64 (numE y m d)]) ∧ Below w.heap.size w w' := by
  cases h : rightB y m d
  · simp only [numV, numE, h]; exact numberR_no y m d w h
  · simp only [numV, numE, h]; exact numberR_yes y m d w h
theorem of_post {n : Int} {w w' : World} {e : Ending} (h : OfPost n w e w') : e = .returned (.tuple #[.agg #[.int .i64 (ofI n).1, .int .i64 (ofI n).2.1, .int .i64 (ofI n).2.2], .int .i64 0]) ∧ Below w.heap.size w w' := by
  obtain ⟨y, m, d, rfl, hr, rfl, hb⟩ := h
  rw [ofI_eq hr]; exact ⟨rfl, hb⟩
theorem of_val (n : Int) (w : World) : Calls Try.prog 20 #[.int .i64 n] w fun e w' => e = .returned (.tuple #[.agg #[.int .i64 (ofI n).1, .int .i64 (ofI n).2.1, .int .i64 (ofI n).2.2], .int .i64 (okE n)]) ∧ Below w.heap.size w w' := by
  by_cases h : 1 ≤ n ∧ n ≤ 292194
  · rw [okE, if_pos h]; exact (of_yes n w h.1 h.2).mono fun _ _ => of_post
  · rw [okE, if_neg h, ofI_no h]; exact of_no n w h
theorem ofR_val (n : Int) (w : World) : Calls Try.prog 21 #[.int .i64 n] w fun e w' => e = .returned (.tuple #[.agg #[.int .i64 (ofI n).1, .int .i64 (ofI n).2.1, .int .i64 (ofI n).2.2], .int .i64 (okE n)]) ∧ Below w.heap.size w w' := by
  by_cases h : 1 ≤ n ∧ n ≤ 292194
  · rw [okE, if_pos h]; exact (ofR_yes n w h.1 h.2).mono fun _ _ => of_post
  · rw [okE, if_neg h, ofI_no h]; exact ofR_no n w h
theorem shift_val (n s : Int) (w : World) (ws : -9223372036854775808 ≤ s ∧ s ≤ 9223372036854775807) : Calls Try.prog 17 #[.int .i64 n, .int .i64 s] w fun e w' => e = .returned (.tuple #[.int .i64 (shV n s), .int .i64 (shE n s)]) ∧ Below w.heap.size w w' := by
  by_cases h : 1 ≤ n ∧ n ≤ 292194
  · rw [shV, shE, if_pos h, if_pos h]
    refine (shift_yes n s w h.1 h.2 ws).mono fun _ _ hp => ?_
    obtain ⟨y, m, d, hr, rfl, rfl, hb⟩ := hp
    rw [ofI_eq hr]; exact ⟨rfl, hb⟩
  · rw [shV, shE, if_neg h, if_neg h]; exact shift_no n s w h
theorem year_eq {n : Int} (h1 : 1 ≤ n) (h2 : n ≤ 292194) : yearI n = (ofI n).1 := by
  obtain ⟨a, b, c, d⟩ := yearI_ok n h1 h2
  obtain ⟨r, e⟩ := ofI_ok h1 h2
  have i := in_year r
  rw [e] at i
  rw [right_iff] at r
  exact year_uniq a r.1 c d i.1 i.2
theorem year_v (n : Int) (w : World) : Calls Try.prog 22 #[.int .i64 n] w fun e w' => e = .returned (.tuple #[.int .i64 (ofI n).1, .int .i64 (okE n)]) ∧ w = w' := by
  by_cases h : 1 ≤ n ∧ n ≤ 292194
  · rw [okE, if_pos h, ← year_eq h.1 h.2]; exact year_val n w h.1 h.2
  · rw [okE, if_neg h, ofI_no h]; exact year_bad n w h
def fiV (y : Int) : Int := if 1601 ≤ y ∧ y ≤ 2401 then aheadI y + 1 else 0
def fiE (y : Int) : Int := if 1601 ≤ y ∧ y ≤ 2401 then 0 else 3
theorem first_v (y : Int) (w : World) : Calls Try.prog 23 #[.int .i64 y] w fun e w' => e = .returned (.tuple #[.int .i64 (fiV y), .int .i64 (fiE y)]) ∧ w = w' := by
  refine (first_any y w).mono fun _ _ ⟨h, hw⟩ => ⟨?_, hw⟩
  rw [h]; unfold fiV fiE; split <;> rfl
theorem firstR_v (y : Int) (w : World) : Calls Try.prog 24 #[.int .i64 y] w fun e w' => e = .returned (.tuple #[.int .i64 (fiV y), .int .i64 (fiE y)]) ∧ Below w.heap.size w w' := by
  refine (firstR_any y w).mono fun _ _ ⟨h, hw⟩ => ⟨?_, hw⟩
  rw [h]; unfold fiV fiE; split <;> rfl

theorem aw1 : rightB 2000 2 29 = true := by decide
theorem aw2 : numV 2000 2 29 = 145791 ∧ numE 2000 2 29 = 0 := by decide
theorem aw3 : ofI 365 = (1601, 12, 31) := ofI_eq (y := 1601) (m := 12) (d := 31) (by decide)
theorem aw4 : ofI 31 = (1601, 1, 31) := ofI_eq (y := 1601) (m := 1) (d := 31) (by decide)
theorem aw5 : shV 31 1 = 59 ∧ shE 31 1 = 0 := by
  unfold shV shE; rw [aw4, if_pos (by omega), if_pos (by omega)]; decide
theorem aw6 : okE 365 = 0 := by decide
theorem aw7 : leapB 2000 = true := by decide
set_option maxHeartbeats 400000 in
theorem awake_any (w : World) : Calls Try.prog 12 #[] w fun e w' => e = .returned (.bool true) ∧ Below w.heap.size w w' := by
  go_enter Try.func12, Try.ntmps12
  go_wp2_with fail
  refine (number_val _ _ _ _).mono ?_
  rw [aw2.1, aw2.2]
  rintro e w1 ⟨rfl, hb1⟩
  go_wp2_with fail
  refine (shift_val _ _ _ (by omega)).mono ?_
  rw [aw5.1, aw5.2]
  rintro e w2 ⟨rfl, hb2⟩
  have h2 := chain hb1 hb2
  clear hb1 hb2
  go_wp2_with fail
  refine (of_val _ _).mono ?_
  rw [aw3, aw6]
  rintro e w3 ⟨rfl, hb3⟩
  go_wp2_with (go_at_call 15; refine (leap_any _ _).mono ?_; rw [aw7]; rintro e w' ⟨rfl, rfl⟩)
  go_ret
  exact ⟨rfl, (chain h2 hb3).alloc (chain h2 hb3).size _⟩
end Go.Proofs.Ytbkpflgceppkdaa
