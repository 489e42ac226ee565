/- The call's error that another error bears; and what years become. -/
import Derived.Test.YtndfgglnhkdciaaDoorLadS
namespace Go.Proofs.YtndfgglnhkdciaaDoor
open Go.RowKit

/-- What reflectlite's own variable for 'error' reads as when the call begins. -/
def Hdl (w : World) : Prop := w.cell? ⟨0, 0, none⟩ = some (.iface 82 (.agg #[.pointer (some ⟨3, 47, none⟩)]))
theorem Hdl.below {w w' : World} (h : Hdl w) (hb : Below w.heap.size w w') : Hdl w' := kept hb h

set_option maxRecDepth 100000 in
theorem found_nil (w : World) : Calls Tryd.prog 24 #[.nilIface] w fun e w' => e = .returned (.int .i64 0) ∧ Below w.heap.size w w' := by
  go_enter Tryd.func24, Tryd.ntmps24
  go_wp2_with fail
  refine (as_nil _ _).mono ?_
  rintro e w1 ⟨rfl, rfl⟩
  go_wp2_with fail
  go_ret
  exact ⟨rfl, (Below.refl _ _).alloc (Nat.le_refl _) _⟩
set_option maxRecDepth 100000 in
theorem found_at (i : Int) (w : World) (hg : Hdl w) : Calls Tryd.prog 24 #[.iface 56 (.agg #[.int .i64 i, .iface 58 (.agg #[.int .i64 5])])] w fun e w' => e = .returned (.int .i64 5) ∧ Below w.heap.size w w' := by
  have hlt : 0 < w.heap.size := block_lt_of_cell hg
  go_enter Tryd.func24, Tryd.ntmps24
  go_wp2_with fail
  refine (as_any i w.heap.size _ (by rw [World.cell?_alloc_lt _ _ ⟨0, 0, none⟩ hlt]; exact hg) (Blk.new _ _ _)).mono ?_
  rintro e w1 ⟨rfl, hblk, hb⟩
  have c0 := hblk.cell 0
  simp only [List.getElem?_toArray, List.getElem?_cons_zero] at c0
  have hb2 : Below w.heap.size w w1 := ((Below.refl _ _).alloc (Nat.le_refl _) _).trans hb
  clear hb hblk
  go_wp2_with fail
  go_ret
  exact ⟨rfl, hb2⟩

/-- What years become, or why not. -/
def ultC (f : Int) (c : List (List Int)) : List Nat × Int := if rightC f c = true then allN (facL c) c else ([], 1)
def UltP (w0 w : World) (s : List Nat × Int) (n : Nat) (e : Ending) (w' : World) : Prop :=
  ∃ A' c', e = .returned (.tuple #[.slice A' n c', .int .i64 s.2]) ∧ OwnS w' w0.heap.size 3 1 A' n c' ((castL s.1).map encI) ∧ Below w0.heap.size w0 w' ∧ Below w.heap.size w w'

set_option maxRecDepth 100000 in
set_option maxHeartbeats 2000000 in
theorem ult_any (f : Int) (A : Option Addr) (cap : Nat) (M : List Rw) (w : World) (hs : MV w A M.length cap M) (hf : ok64 f) (hg : Hdl w) :
    Calls Tryd.prog 13 #[.agg #[.int .i64 f, .slice A M.length cap]] w (UltP w w (ultC f (allM M)) (ultC f (allM M)).1.length) := by
  have HS := hide hs
  have HG := hide hg
  clear hs hg
  go_enter Tryd.func13, Tryd.ntmps13
  go_wp2_with fail
  refine (factors_any f A cap M _ (HS.out.below ((Below.refl _ _).alloc (Nat.le_refl _) _)) hf).mono ?_
  rintro e w1 ⟨hno, hyes, hb, -⟩
  obtain ⟨r, hr⟩ : ∃ b, rightC f (allM M) = b := ⟨_, rfl⟩
  have HR := hide hr
  rw [hr] at hno hyes
  clear hr
  have h1 : Below w.heap.size w w1 := chain1 hb
  cases r
  · obtain rfl := hno rfl
    clear hno hyes hb
    go_wp2_with fail
    go_ret2
    rw [ultC, if_neg (by rw [HR.out]; decide)]
    exact ⟨none, 0, rfl, OwnS.nil_ _ _ _ _, h1, h1⟩
  obtain ⟨A', c', rfl, hown⟩ := hyes rfl
  have t0 := kept hb (b := w.heap.size) (o := 0) (u := .int .i64 f) (by simp)
  have t1 := kept hb (b := w.heap.size) (o := 1) (u := .slice A M.length cap) (by simp)
  have H1 := hide h1
  have hok := right_okC HR.out
  have hbd := right_bounds HR.out
  rw [allM_len] at hbd
  obtain ⟨nF, hnF⟩ : ∃ n, (facL (allM M)).length = n := ⟨_, rfl⟩
  have HOWN := hide hown
  rw [hnF] at HOWN
  rw [hnF]
  have hMn : M.length = nF + 1 := by rw [← hnF, facL_len, allM_len]; omega
  have HOK := hide hok
  have HM := hide hMn
  clear hno hyes hb hown h1 hok hnF hMn
  go_wp2_with fail
  refine (all_any f A A' cap nF c' M (facL (allM M)) _ (HS.out.below H1.out) HOWN.out.sv (okF_facL HOK.out) HR.out HM.out).mono ?_
  rintro e w2 ⟨hz, hnz, hb2⟩
  have h2 := chain H1.out hb2
  have hU : ultC f (allM M) = allN (facL (allM M)) (allM M) := by rw [ultC, if_pos HR.out]
  have hcode := allN_code (facL (allM M)) (allM M)
  obtain ⟨s, hs⟩ : ∃ s, allN (facL (allM M)) (allM M) = s := ⟨_, rfl⟩
  rw [hs] at hz hnz hcode hU
  obtain ⟨L, k⟩ := s
  have H2 := hide h2
  have HB2 := hide hb2
  rcases hcode with hk | ⟨hk, hL⟩
  · simp only at hk
    subst hk
    obtain ⟨A2, c2, rfl, ho⟩ := hz rfl
    have HO := hide ho
    have HU := hide hU
    clear hz hnz ho hU hs h2 hb2
    go_wp2_with fail
    refine (found_nil _).mono ?_
    rintro e w3 ⟨rfl, hb3⟩
    have h3 := chain H2.out hb3
    have ho3 := (HO.out.below hb3).mono H1.out.size
    clear hb3
    go_wp2_with fail
    go_ret2
    rw [HU.out]
    exact ⟨A2, c2, rfl, ho3, h3, h3⟩
  · simp only at hk hL
    subst hk hL
    obtain ⟨i, rfl⟩ := hnz (by decide)
    have HU := hide hU
    clear hz hnz hU hs h2 hb2
    go_wp2_with fail
    refine (found_at i _ (HG.out.below H2.out)).mono ?_
    rintro e w3 ⟨rfl, hb3⟩
    have h3 := chain H2.out hb3
    clear hb3
    go_wp2_with fail
    go_ret2
    rw [HU.out]
    exact ⟨none, 0, rfl, OwnS.nil_ _ _ _ _, h3, h3⟩
end Go.Proofs.YtndfgglnhkdciaaDoor
