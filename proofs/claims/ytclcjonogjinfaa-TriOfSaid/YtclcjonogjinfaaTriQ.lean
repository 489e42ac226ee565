/- The contracts of layer 21, from a world in which the arguments were read. -/
import Derived.Test.YtclcjonogjinfaaTriP
import Derived.Deep.RegionHeld3
namespace Go.Proofs.Ytclcjonogjinfaa
open Go.RowKit

/-- A contract's Below, from the base on. -/
theorem from_base {w0 w w' : World} (hb : Below w0.heap.size w0 w) (h : Below w.heap.size w w') : Below w0.heap.size w0 w' ∧ Below w.heap.size w w' := ⟨chain hb h, h⟩
section
variable {w0 w : World} {f : Int} {A : Option Addr} {n cap : Nat} {M : List Rw}
theorem alive_b (hb : Below w0.heap.size w0 w) : Calls Try.prog 10 #[] w fun e w' => e = .returned (.bool true) ∧ Below w0.heap.size w0 w' ∧ Below w.heap.size w w' :=
  (alive_any w).mono fun _ _ ⟨he, h⟩ => ⟨he, from_base hb h⟩
theorem small_b {v : Bool} (hs : MV w0 A n cap M) (hb : Below w0.heap.size w0 w) (hv : smallB (allM M) = v) : Calls Try.prog 9 #[.agg #[.int .i64 f, .slice A n cap]] w fun e w' => e = .returned (.bool v) ∧ Below w0.heap.size w0 w' ∧ Below w.heap.size w w' := by
  obtain rfl := hs.len
  subst hv
  exact (small_any f A cap M w (hs.below hb)).mono fun _ _ ⟨he, h⟩ => ⟨he, from_base hb h⟩
theorem right_b {v : Bool} (hs : MV w0 A n cap M) (hb : Below w0.heap.size w0 w) (hf : ok64 f) (hv : rightC f (allM M) = v) : Calls Try.prog 11 #[.agg #[.int .i64 f, .slice A n cap]] w fun e w' => e = .returned (.bool v) ∧ Below w0.heap.size w0 w' ∧ Below w.heap.size w w' := by
  obtain rfl := hs.len
  subst hv
  exact (right_any f A cap M w (hs.below hb) hf).mono fun _ _ ⟨he, h⟩ => ⟨he, from_base hb h⟩
theorem rightR_b {v : Bool} (hs : MV w0 A n cap M) (hb : Below w0.heap.size w0 w) (hf : ok64 f) (hv : rightC f (allM M) = v) : Calls Try.prog 12 #[.agg #[.int .i64 f, .slice A n cap]] w fun e w' => e = .returned (.bool v) ∧ Below w0.heap.size w0 w' ∧ Below w.heap.size w w' := by
  obtain rfl := hs.len
  subst hv
  exact (rightR_any f A cap M w (hs.below hb) hf).mono fun _ _ ⟨he, h⟩ => ⟨he, from_base hb h⟩
def DiagB (w0 w : World) (D : List Int) (m : Nat) (e : Ending) (w' : World) : Prop := ∃ A' c', e = .returned (.slice A' m c') ∧ SV w' 1 A' m c' (D.map encI) ∧ Below w0.heap.size w0 w' ∧ Below w.heap.size w w'
theorem diag_b {D : List Int} {m : Nat} (hs : MV w0 A n cap M) (hb : Below w0.heap.size w0 w) (hf : ok64 f) (hD : diagL f (allM M) = D) (hm : D.length = m) : Calls Try.prog 14 #[.agg #[.int .i64 f, .slice A n cap]] w (DiagB w0 w D m) := by
  obtain rfl := hs.len
  subst hD hm
  exact (diag_any f A cap M w (hs.below hb) hf).mono fun _ _ ⟨A', c', he, h1, h⟩ => ⟨A', c', he, h1, from_base hb h⟩
theorem diagR_b {D : List Int} {m : Nat} (hs : MV w0 A n cap M) (hb : Below w0.heap.size w0 w) (hf : ok64 f) (hD : diagL f (allM M) = D) (hm : D.length = m) : Calls Try.prog 15 #[.agg #[.int .i64 f, .slice A n cap]] w (DiagB w0 w D m) := by
  obtain rfl := hs.len
  subst hD hm
  exact (diagR_any f A cap M w (hs.below hb) hf).mono fun _ _ ⟨A', c', he, h1, h⟩ => ⟨A', c', he, h1, from_base hb h⟩
theorem sameI_b {w1 w2 : World} {A A' : Option Addr} {c c' : Nat} {l : List Int} (hs : SV w1 1 A n c (l.map encI)) (hb1 : Below w1.heap.size w1 w) (hs' : SV w2 1 A' n c' (l.map encI)) (hb2 : Below w2.heap.size w2 w) (hb : Below w0.heap.size w0 w) (hm : n ≤ 9223372036854775806) :
    Calls Try.prog 13 #[.slice A n c, .slice A' n c'] w fun e w' => e = .returned (.bool true) ∧ Below w0.heap.size w0 w' ∧ Below w.heap.size w w' :=
  (sameI_any A A' n c c' l w (hs.below hb1) (hs'.below hb2) hm).mono fun _ _ ⟨he, h⟩ => ⟨he, from_base hb h⟩
end
theorem diag_len {f : Int} {c : List (List Int)} : (diagL f c).length ≤ 20 := by
  unfold diagL
  split
  · rename_i h
    rw [List.length_map]
    rw [rightC, Bool.and_eq_true] at h
    have := h.1
    simp only [boundsB, decide_eq_true_eq] at this
    omega
  · simp
end Go.Proofs.Ytclcjonogjinfaa
