/- ClaimStands: how any file stands, and how it was known on any day. -/
import Derived.Test.YtmeneojgdbjlnaaClaimL
namespace Go.Proofs.Ytmeneojgdbjlnaa
open Go.ChangeShapes Go.WideShapes Go.ChangeAt Go.RowKit
set_option linter.unusedVariables false

set_option maxRecDepth 100000 in
set_option maxHeartbeats 4000000 in
theorem claimStands_walk (w : World) (c : Cl) (A : Option Addr) (l : List Ac) (cap : Nat) (hs : SV w 3 A l.length cap (l.map encAc)) (d : Int) (_wd : (Lit.int .i64 d).wf = true) :
    Calls Try.prog 8 #[.agg #[.int .i64 c.id, .int .i64 c.pol, .int .i64 c.per, .int .i64 c.loss, .int .i64 c.bkd, .int .i64 c.ev, .slice A l.length cap], .int .i64 d] w fun e w' => e = .returned (.bool true) ∧ Below w.heap.size w w' := by
  go_enter Try.func8, Try.ntmps8
  have HS := hide hs
  clear hs
  go_wp2_with fail
  refine (awake_b ((Below.refl w.heap.size w).alloc (Nat.le_refl _) _)).mono ?_
  rintro e w1 ⟨rfl, h1, hb1⟩
  have c0 := kept hb1 (b := w.heap.size) (o := 0) (u := .int .i64 c.id) (by simp)
  have c1 := kept hb1 (b := w.heap.size) (o := 1) (u := .int .i64 c.pol) (by simp)
  have c2 := kept hb1 (b := w.heap.size) (o := 2) (u := .int .i64 c.per) (by simp)
  have c3 := kept hb1 (b := w.heap.size) (o := 3) (u := .int .i64 c.loss) (by simp)
  have c4 := kept hb1 (b := w.heap.size) (o := 4) (u := .int .i64 c.bkd) (by simp)
  have c5 := kept hb1 (b := w.heap.size) (o := 5) (u := .int .i64 c.ev) (by simp)
  have c6 := kept hb1 (b := w.heap.size) (o := 6) (u := .slice A l.length cap) (by simp)
  have hz := hb1.size
  simp at hz
  clear hb1
  by_cases hbig : 100 < l.length
  · go_wp2_with fail
    go_ret
    exact ⟨rfl, h1⟩
  obtain ⟨p, hp⟩ : ∃ p, standP l = p := ⟨_, rfl⟩
  obtain ⟨l', hl'⟩ : ∃ x, atL d l = x := ⟨_, rfl⟩
  obtain ⟨n', hn'⟩ : ∃ x, l'.length = x := ⟨_, rfl⟩
  have hm' : n' ≤ 9223372036854775807 := by have := atL_len d l; rw [hl', hn'] at this; omega
  have HP := hide hp
  have HL := hide hl'
  have HN := hide hn'
  clear hp hl' hn'
  go_wp2_with fail
  go_region_held3 (fun w' => w'.cell? ⟨w.heap.size, 0, none⟩ = some (.int .i64 c.id) ∧ w'.cell? ⟨w.heap.size, 1, none⟩ = some (.int .i64 c.pol) ∧ w'.cell? ⟨w.heap.size, 2, none⟩ = some (.int .i64 c.per) ∧ w'.cell? ⟨w.heap.size, 3, none⟩ = some (.int .i64 c.loss) ∧ w'.cell? ⟨w.heap.size, 4, none⟩ = some (.int .i64 c.bkd) ∧ w'.cell? ⟨w.heap.size, 5, none⟩ = some (.int .i64 c.ev) ∧ w'.cell? ⟨w.heap.size, 6, none⟩ = some (.slice A l.length cap)) (first | with_reducible exact ⟨c0, c1, c2, c3, c4, c5, c6⟩ | go_keep)
    (first
     | (go_at_call 22
        refine (Stand_b HS.out h1.drew (by omega) HP.out).mono ?_
        rintro e w2 ⟨rfl, h2, hb2⟩
        have c0 := kept hb2 c0
        have c1 := kept hb2 c1
        have c2 := kept hb2 c2
        have c3 := kept hb2 c3
        have c4 := kept hb2 c4
        have c5 := kept hb2 c5
        have c6 := kept hb2 c6)
     | (go_at_call 23
        refine (StandR_b HS.out h2 (by omega) HP.out).mono ?_
        rintro e w3 ⟨rfl, h3, hb3⟩
        have c0 := kept hb3 c0
        have c1 := kept hb3 c1
        have c2 := kept hb3 c2
        have c3 := kept hb3 c3
        have c4 := kept hb3 c4
        have c5 := kept hb3 c5
        have c6 := kept hb3 c6)
     | (go_at_call 24
        refine (at_b HS.out h3 (by omega) HL.out HN.out).mono ?_
        rintro e w4 ⟨A4, q4, rfl, hs4, h4, hb4⟩
        have c0 := kept hb4 c0
        have c1 := kept hb4 c1
        have c2 := kept hb4 c2
        have c3 := kept hb4 c3
        have c4 := kept hb4 c4
        have c5 := kept hb4 c5
        have c6 := kept hb4 c6)
     | (go_at_call 25
        refine (atR_b HS.out h4 (by omega) HL.out HN.out).mono ?_
        rintro e w5 ⟨A5, q5, rfl, hs5, h5, hb5⟩
        have c0 := kept hb5 c0
        have c1 := kept hb5 c1
        have c2 := kept hb5 c2
        have c3 := kept hb5 c3
        have c4 := kept hb5 c4
        have c5 := kept hb5 c5
        have c6 := kept hb5 c6)
     | (go_at_call 18
        refine (same_b hs4 hb5 hs5 (Below.refl _ _) h5 hm').mono ?_
        rintro e w6 ⟨rfl, h6, hb6⟩
        have c0 := kept hb6 c0
        have c1 := kept hb6 c1
        have c2 := kept hb6 c2
        have c3 := kept hb6 c3
        have c4 := kept hb6 c4
        have c5 := kept hb6 c5
        have c6 := kept hb6 c6))
  go_wp2_with fail
  go_ret
  exact ⟨rfl, h6⟩

theorem claimStands_lifted (os : Os) (started : os.Started) (H : Type) (enc : TypeId × Value → H) :
    ReturnsInHanded {} Try.checked os 8 .any (Rows.claimStandsSpec.pre6 enc Try.prog Try.f8 Rows.claimStandsRow.domain false) (Rows.claimStandsSpec.post enc Try.prog Try.f8 false true false false) := by
  refine returnsInHanded_of_change (C := Try.checked) own started (by kernel_rfl) Try.func8
    (ChangeSpec.witness6 (enc := enc) (C := Try.checked) false ⟨#[], #[.agg #[.int .i64 0, .int .i64 0, .int .i64 0, .int .i64 0, .int .i64 0, .int .i64 0, .slice none 0 0], .int .i64 0], []⟩ 8 (by kernel_rfl) (by kernel_rfl) (by kernel_rfl) (by kernel_rfl)) ?_
  intro W base args ds gs before hval0 hW hcnd _
  have hval : ∀ (j : Nat) t v, Try.f8.params[j]? = some t → args[j]? = some v → Value.okWide Try.prog W .any base t v := hval0
  have hW' := hW
  obtain ⟨p, q, hA0, hV, rfl, hfz, hnd⟩ := hW
  have hA : DataW.TrodAll enc Try.prog W 0 (fun _ => true) true Try.f8.params.toList args.toList ds p := hA0
  rw [Try.params8] at hA hval
  obtain ⟨v0, vs0, d0, ds0, p0, q0, hargs, rfl, rfl, h0, r0⟩ := trodAll_cons hA
  obtain ⟨v1, vs1, d1, ds1, p1, q1, rfl, rfl, rfl, h1, r1⟩ := trodAll_cons r0
  obtain ⟨rfl, rfl, rfl⟩ := trodAll_nil r1
  obtain rfl : args = #[v0, v1] := by cases args; simp_all
  obtain ⟨rfl, rfl⟩ := trodVars_none hV
  obtain ⟨c0, A0, l0, p0, rfl, hs0⟩ := open_file (hval 0 32 v0 rfl rfl) h0
  obtain ⟨x1, rfl, rfl, rfl, wx1⟩ := open_int Try.underlying3 (hval 1 3 v1 rfl rfl) h1
  refine (claimStands_walk W c0 A0 l0 p0 hs0 x1 wx1).mono fun e W' ⟨he, hb⟩ => ?_
  subst he
  exact ⟨_, rfl, law_post laidOut (by kernel_rfl) rfl Try.underlying4 rfl rfl hW' hb⟩

/-- THE STATEMENT. -/
theorem claimStands_holds : Rows.ClaimStandsSaid :=
  OpenClaim.holds_of_wide 8 Try.f8 rfl rfl rfl rfl rfl rfl rfl ⟨rfl, rfl, rfl, rfl, rfl⟩ rfl rfl rfl rfl rfl (by kernel_rfl) Try.func8 (by kernel_rfl)
    (of_decide_eq_true (by kernel_rfl)) (by unfold Func.isWrapper; first | (rw [if_pos (by decide +kernel)]; kernel_rfl) | (rw [if_neg (by decide +kernel)]; exact ⟨rfl, rfl⟩))
    (fun os started H enc _ => claimStands_lifted os started H enc)
end Go.Proofs.Ytmeneojgdbjlnaa
