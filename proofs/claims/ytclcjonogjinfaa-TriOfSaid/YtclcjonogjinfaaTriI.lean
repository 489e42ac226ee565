/- An amount put into a triangle: the document's walk. -/
import Derived.Test.YtclcjonogjinfaaTriH
import Derived.Deep.RegionLaw
namespace Go.Proofs.Ytclcjonogjinfaa
open Go.RowKit

/-- What Put leaves. -/
def PutT (w : World) (P : Nat → Prop) (f : Int) (c : List (List Int)) (code : Int) (e : Ending) (w' : World) : Prop :=
  Below w.heap.size w w' ∧ ((code ≠ 0 ∧ e = .returned (.tuple #[.agg #[.int .i64 0, .slice none 0 0], .int .i64 code])) ∨
    (code = 0 ∧ ∃ A' c' R, e = .returned (.tuple #[.agg #[.int .i64 f, .slice A' R.length c'], .int .i64 0]) ∧ MV w' A' R.length c' R ∧ allM R = c ∧ (∀ kk, blk A' = some kk → w.heap.size ≤ kk) ∧ ∀ r ∈ R, ∀ kk, blk r.A = some kk → P kk))
def zeroT : Array Value := #[.int .i64 0, .slice none 0 0]
theorem noT_post {w wx : World} {P : Nat → Prop} {f : Int} {c : List (List Int)} {fn : Func} {a : Act} {code : Int} {tr : Tmp} (hz : Blk wx (w.heap.size + 1) 24 zeroT) (hb : Below w.heap.size w wx) (hc : code ≠ 0)
    (hr : fn.results = #[.cell 8 24, .tmp tr]) (hd : a.defers = []) (hp : a.tmps.getD 8 undef = .pointer (some ⟨w.heap.size + 1, 0, none⟩)) (hx : a.tmps.getD tr undef = .int .i64 code) :
    bodyPost Try.prog fn (PutT w P f c code) .ret a ((wx.setCell ⟨w.heap.size + 1, 0, none⟩ (.int .i64 0)).setCell ⟨w.heap.size + 1, 1, none⟩ (.slice none 0 0)) := by
  have h2 : Blk ((wx.setCell ⟨w.heap.size + 1, 0, none⟩ (.int .i64 0)).setCell ⟨w.heap.size + 1, 1, none⟩ (.slice none 0 0)) (w.heap.size + 1) 24 zeroT := by
    have := (hz.set_ 0 (.int .i64 0)).set_ 1 (.slice none 0 0)
    simpa [zeroT] using this
  exact ret_row2 hr hd hp hx h2 Try.underlying24 rfl (by kernel_rfl) ⟨(hb.setCell (p := ⟨w.heap.size + 1, 0, none⟩) (by simp) _).setCell (p := ⟨w.heap.size + 1, 1, none⟩) (by simp) _, .inl ⟨hc, rfl⟩⟩

set_option maxRecDepth 100000 in
set_option maxHeartbeats 4000000 in
theorem putT_no (P : Nat → Prop) (f : Int) (A : Option Addr) (cap : Nat) (M : List Rw) (y dev amt : Int) (w : World) (hs : MV w A M.length cap M) (hf : ok64 f) (h : putE f (allM M) y dev amt = 1) :
    Calls Try.prog 26 #[.agg #[.int .i64 f, .slice A M.length cap], .int .i64 y, .int .i64 dev, .int .i64 amt] w (PutT w P f (putR f (allM M) y dev amt) 1) := by
  have HS := hide hs
  clear hs
  have hcases : rightC f (allM M) = false ∨ (rightC f (allM M) = true ∧ y < f) ∨ (rightC f (allM M) = true ∧ f ≤ y ∧ f + M.length ≤ y) ∨ (rightC f (allM M) = true ∧ f ≤ y ∧ y < f + M.length ∧ amt < 0) ∨ (rightC f (allM M) = true ∧ f ≤ y ∧ y < f + M.length ∧ 0 ≤ amt ∧ 1000000000000000 < amt) ∨
      (rightC f (allM M) = true ∧ f ≤ y ∧ y < f + M.length ∧ 0 ≤ amt ∧ amt ≤ 1000000000000000 ∧ dev < 0) ∨ (rightC f (allM M) = true ∧ f ≤ y ∧ y < f + M.length ∧ 0 ≤ amt ∧ amt ≤ 1000000000000000 ∧ 0 ≤ dev ∧ M.length - (y - f) ≤ dev) := by
    cases hr : rightC f (allM M)
    · exact .inl rfl
    · right
      unfold putE at h
      rw [hr, allM_len] at h
      by_cases hb : (true = false ∨ y < f ∨ f + (M.length : Int) ≤ y ∨ dev < 0 ∨ (M.length : Int) - (y - f) ≤ dev ∨ amt < 0 ∨ 1000000000000000 < amt)
      · simp only [true_and]; simp at hb; omega
      · rw [if_neg hb] at h; split at h <;> omega
  have HBD : Hid (rightC f (allM M) = true → 1 ≤ M.length ∧ M.length ≤ 20 ∧ 1601 ≤ f ∧ f ≤ 2401 - M.length) := fun hr => by
    rw [rightC, Bool.and_eq_true, allM_len] at hr; have := hr.1; simpa only [boundsB, decide_eq_true_eq] using this
  clear h
  go_enter Try.func26, Try.ntmps26
  go_wp2_with fail
  refine (rightR_any f A cap M _ (HS.out.below (((Below.refl _ _).alloc (Nat.le_refl _) _).alloc (by simp) _)) hf).mono ?_
  rintro e w1 ⟨rfl, hb1⟩
  have hz := Blk.below (Blk.new (w.alloc (.cells (triC f A M.length cap) 24)) 24 zeroT) hb1 (by simp)
  simp at hz
  have k0 := kept hb1 (b := w.heap.size) (o := 0) (u := .int .i64 f) (by simp)
  have k1 := kept hb1 (b := w.heap.size) (o := 1) (u := .slice A M.length cap) (by simp)
  have h1 : Below w.heap.size w w1 := chain (((Below.refl w.heap.size w).alloc (Nat.le_refl _) _).alloc (by simp) _) hb1
  have z0 := hz.cell 0
  have z1 := hz.cell 1
  have t0 := hz.frozen 0
  have t1 := hz.frozen 1
  simp [zeroT] at z0 z1
  have hzl := hz.lt
  clear hb1
  rcases hcases with hr | ⟨hr, g1⟩ | ⟨hr, g1, g2⟩ | ⟨hr, g1, g2, g3⟩ | ⟨hr, g1, g2, g3, g4⟩ | ⟨hr, g1, g2, g3, g4, g5⟩ | ⟨hr, g1, g2, g3, g4, g5, g6⟩
  · rw [hr]
    go_wp2_with fail
    exact noT_post hz h1 (by decide) rfl rfl rfl rfl
  iterate 5
    · obtain ⟨b1, b2, b3, b4⟩ := HBD.out hr
      rw [hr]
      go_wp2_with fail
      exact noT_post hz h1 (by decide) rfl rfl rfl rfl
  · obtain ⟨b1, b2, b3, b4⟩ := HBD.out hr
    obtain ⟨⟨B, l, bc⟩, hx⟩ := get_of (l := M) (k := (y - f).toNat) (by omega)
    have hlen := (right_row hr (allM_get hx)).1
    rw [allM_len] at hlen
    obtain ⟨bb, off, rfl, hbl, hc⟩ := (HS.out.below h1).sv.sl.rw hx
    simp only at hc hlen
    have hq0 : (0 : Int) ≤ y - f := by omega
    have hq1 : y - f < (M.length : Int) := by omega
    have hld : (l.length : Int) ≤ dev := by omega
    rw [hr]
    clear hx hlen
    go_wp2_with fail
    exact noT_post (code := 1) hz h1 (by decide) rfl rfl rfl rfl
end Go.Proofs.Ytclcjonogjinfaa
