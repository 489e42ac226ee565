/- More contracts from a base: few, the same versions, the same tariffs; the first step of a law. -/
import Derived.Test.YtaboachegclaiaaTarN
import Derived.Test.YtaboachegclaiaaTarO
namespace Go.Proofs.Ytaboachegclaiaa
open Go.RowKit Go.BigFrame

section
variable {w0 w wa wb : World} {A A' : Option Addr} {n cap cap' : Nat} {M M' : List Vw} {l : List Ver}
theorem alive_b (h : Below w0.heap.size w0 w) : Calls Try.prog 9 #[] w fun e w' => e = .returned (.bool true) ∧ Below w0.heap.size w0 w' ∧ Below w.heap.size w w' :=
  (alive_any w).mono fun _ _ ⟨he, hb⟩ => ⟨he, chain h hb, hb⟩
theorem few_b {r : Bool} (hs : TV wa A n cap M) (ha : Below wa.heap.size wa w) (h : Below w0.heap.size w0 w) (hf : ∀ x ∈ M, FitV x) (hr : fewB M = r) : Calls Try.prog 8 #[.slice A n cap] w
    fun e w' => e = .returned (.bool r) ∧ Below w0.heap.size w0 w' ∧ Below w.heap.size w w' := by
  have hM := hs.len
  subst hM
  refine (few_any A cap M w (hs.below ha) hf).mono ?_
  rintro e w' ⟨rfl, hb⟩
  exact ⟨by rw [hr], chain h hb, hb⟩
theorem rightR_b {r : Bool} (hs : TV wa A n cap M) (ha : Below wa.heap.size wa w) (h : Below w0.heap.size w0 w) (ho : ∀ x ∈ M, okVw x) (hl : allV M = l) (hr : rightT l = r) : Calls Try.prog 13 #[.agg #[.slice A n cap]] w
    fun e w' => e = .returned (.bool r) ∧ Below w0.heap.size w0 w' ∧ Below w.heap.size w w' := by
  have hM := hs.len
  subst hM
  refine (rightR_any A cap M w (hs.below ha) ho).mono ?_
  rintro e w' ⟨rfl, hb⟩
  exact ⟨by rw [hl, hr], chain h hb, hb⟩
theorem versionR_b {x : Vw} {r : Bool} (hs : VOK wa x) (ha : Below wa.heap.size wa w) (h : Below w0.heap.size w0 w) (hr : versionB x.v = r) : Calls Try.prog 11 #[.agg #[.int .i64 x.f, .int .i64 x.b0, .int .i64 x.b1, .int .i64 x.b2, .int .i64 x.b3, .slice x.aA x.age.length x.aC, .slice x.zA x.zone.length x.zC, .slice x.pA x.peril.length x.pC, .int .i64 x.mn]] w
    fun e w' => e = .returned (.bool r) ∧ Below w0.heap.size w0 w' ∧ Below w.heap.size w w' := by
  refine (versionR_any x w (hs.below ha)).mono ?_
  rintro e w' ⟨rfl, hb⟩
  exact ⟨by rw [hr], chain h hb, hb⟩
theorem sameV_b {x y : Vw} (hs : VOK wa x) (ha : Below wa.heap.size wa w) (hs' : VOK wb y) (hb' : Below wb.heap.size wb w) (h : Below w0.heap.size w0 w) (he : x.v = y.v) (hm : LenV x) : Calls Try.prog 16 #[.agg #[.int .i64 x.f, .int .i64 x.b0, .int .i64 x.b1, .int .i64 x.b2, .int .i64 x.b3, .slice x.aA x.age.length x.aC, .slice x.zA x.zone.length x.zC, .slice x.pA x.peril.length x.pC, .int .i64 x.mn], .agg #[.int .i64 y.f, .int .i64 y.b0, .int .i64 y.b1, .int .i64 y.b2, .int .i64 y.b3, .slice y.aA y.age.length y.aC, .slice y.zA y.zone.length y.zC, .slice y.pA y.peril.length y.pC, .int .i64 y.mn]] w
    fun e w' => e = .returned (.bool true) ∧ Below w0.heap.size w0 w' ∧ Below w.heap.size w w' := by
  refine (sameV_any x y w (hs.below ha) (hs'.below hb') he hm).mono ?_
  rintro e w' ⟨rfl, hb⟩
  exact ⟨rfl, chain h hb, hb⟩
end

/-- A version ahead of all others, as append leaves it. -/
theorem cons_tv {w w1 w' : World} {A A' : Option Addr} {cap cap' m : Nat} {M N : List Vw} (hs : TV w A M.length cap M) (hN : ∀ x ∈ N, VOK w x) (hb : Below w.heap.size w w1)
    (ho : OwnS w' w.heap.size 26 9 A' (m + M.length) cap' (N.map encV ++ M.map encV)) {m' : Nat} (hg : w1.grownBy w' (some m')) (hm : w.heap.size ≤ m') : TV w' A' (m + M.length) cap' (N ++ M) ∧ Below w.heap.size w w' := by
  have h1 : Below w.heap.size w w' := hb.grown hg hb.size (fun k e => by cases e; exact hm)
  refine ⟨⟨by have := ho.sv; rwa [← List.map_append] at this, fun x hx => ?_⟩, h1⟩
  rcases List.mem_append.1 hx with h | h
  · exact (hN x h).below h1
  · exact (hs.rows x h).below h1
theorem few_cons {x : Vw} {M : List Vw} (hf : ∀ y ∈ x :: M, FitV y) (h : fewB (x :: M) = true) : M.length ≤ 110 ∧ LenV x ∧ ∀ y ∈ M, LenV y := by
  obtain ⟨h1, h2⟩ := few_len hf h
  exact ⟨by simp at h1; omega, h2 x (by simp), fun y hy => h2 y (by simp [hy])⟩
theorem atL_mem {l : List Ver} {d : Int} {v : Ver} (h : atL l d = some v) : v ∈ l := by
  rw [atL] at h
  exact (List.mem_filter.1 (List.mem_of_getLast? h)).1
theorem fit_allV {M : List Vw} (h : ∀ y ∈ M, LenV y) : FitL (allV M) := fun y hy => by
  obtain ⟨x, hx, rfl⟩ := List.mem_map.1 hy
  exact h x hx
end Go.Proofs.Ytaboachegclaiaa
