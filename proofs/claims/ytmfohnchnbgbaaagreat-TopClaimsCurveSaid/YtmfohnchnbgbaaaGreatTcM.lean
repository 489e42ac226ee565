/- Proved: whatever the cover, the files and the day, TopClaimsCurve returns true, and its arguments read behind the call as they did ahead of it. Conditions: none beyond those that the given row states. -/
import Derived.Deep.RegionWith
import Derived.Laws.EntriesVeiled
import Derived.Test.YtmfohnchnbgbaaaGreatTcM02
import Derived.Test.YtmfohnchnbgbaaaGreatTcM04
import Derived.Test.YtmfohnchnbgbaaaGreatTcM13
import Derived.Test.YtmfohnchnbgbaaaGreatTcM32
/- Covers and files as they are given. -/
namespace Go.Proofs.YtmfohnchnbgbaaaGreat
open Go.ChangeShapes Go.WideShapes Go.ChangeAt Go.RowKit
set_option linter.unusedVariables false
set_option maxRecDepth 1000000

theorem cells_covZ : Tryz.prog.cellsOf 23 = 5 := by kernel_rfl
theorem leaves_covZ : leaves Tryz.prog 2 23 = some [.int .i64, .int .i64, .int .i64, .int .i64, .int .i64] := by kernel_rfl
section
variable {H : Type} {enc : TypeId × Value → H} {W : World} {r : Reach} {b0 : Nat} {v : Value} {d : DataW H} {p : List MemPlace}
theorem open_coverZ (hv : Value.okWide Tryz.prog W r b0 23 v) (h : DataW.Trod enc Tryz.prog W 0 (fun _ => true) true 23 v d p) :
    ∃ c : Cv, v = .agg #[.int .i64 c.p, .int .i64 c.lim, .int .i64 c.agg, .int .i64 c.ded, .int .i64 c.sh] ∧ okCv c := by
  obtain ⟨l, rfl, hl⟩ := top_agg enc Tryz.prog W 2 Tryz.underlying23 leaves_covZ cells_covZ hv h
  obtain ⟨n1, l1, rfl, w1, h1⟩ := leaf_int enc _ _ hl
  obtain ⟨n2, l2, rfl, w2, h2⟩ := leaf_int enc _ _ h1
  obtain ⟨n3, l3, rfl, w3, h3⟩ := leaf_int enc _ _ h2
  obtain ⟨n4, l4, rfl, w4, h4⟩ := leaf_int enc _ _ h3
  obtain ⟨n5, l5, rfl, w5, h5⟩ := leaf_int enc _ _ h4
  obtain rfl := allLeaf_nil enc _ _ h5
  exact ⟨⟨n1, n2, n3, n4, n5⟩, rfl, wf64 w1, wf64 w2, wf64 w3, wf64 w4, wf64 w5⟩
theorem open_files (hv : Value.okWide Tryz.prog W r b0 24 v) (h : DataW.Trod enc Tryz.prog W 0 (fun _ => true) true 24 v d p) :
    ∃ (A : Option Addr) (L : List Fl) (cap : Nat), v = .slice A L.length cap ∧ FV W A L.length cap L := by
  obtain ⟨A, L, cap, rfl, g1, g2, g3, g4, g5⟩ := rows_of enc Tryz.prog W (α := Fl) 3 7 encFl (fun x => SV W 3 x.A x.l.length x.cap (x.l.map encAc)) leaves_file cells_file rfl (by omega) (fun cs hl => by
    obtain ⟨n1, l1, rfl, _, h1⟩ := leaf_int enc _ _ hl
    obtain ⟨n2, l2, rfl, _, h2⟩ := leaf_int enc _ _ h1
    obtain ⟨n3, l3, rfl, _, h3⟩ := leaf_int enc _ _ h2
    obtain ⟨n4, l4, rfl, _, h4⟩ := leaf_int enc _ _ h3
    obtain ⟨n5, l5, rfl, _, h5⟩ := leaf_int enc _ _ h4
    obtain ⟨n6, l6, rfl, _, h6⟩ := leaf_int enc _ _ h5
    obtain ⟨v7, l7, rfl, h7, h8⟩ := allLeaf_cons enc _ _ h6
    obtain rfl := allLeaf_nil enc _ _ h8
    obtain ⟨A, l, cap, rfl, hs⟩ := rows_acts h7
    exact ⟨⟨⟨n1, n2, n3, n4, n5, n6⟩, A, l, cap⟩, rfl, hs⟩) (top_slice enc _ _ Tryz.underlying24 hv h)
  exact ⟨A, L, cap, rfl, ⟨⟨g3, List.length_map _, g1, g2, g5⟩, g4⟩⟩
end
end Go.Proofs.YtmfohnchnbgbaaaGreat

/- TopClaimsCurve: what the curve says was paid by a day is the last diagonal of the triangle of all that was booked by then. The statement. -/
namespace Go.Proofs.YtmfohnchnbgbaaaGreat
open Go.ChangeShapes Go.WideShapes Go.ChangeAt Go.RowKit
set_option linter.unusedVariables false
set_option maxRecDepth 100000

theorem topClaimsCurve_walk (w : World) (c : Cv) (oc : okCv c) (A : Option Addr) (L : List Fl) (cap : Nat) (fv : FV w A L.length cap L) (d : Int) (hd : (Lit.int .i64 d).wf = true) :
    Calls Tryz.prog 4 #[.agg #[.int .i64 c.p, .int .i64 c.lim, .int .i64 c.agg, .int .i64 c.ded, .int .i64 c.sh], .slice A L.length cap, .int .i64 d] w fun e w' => e = .returned (.bool true) ∧ Below w.heap.size w w' :=
  topClaimsCurve_w w c A L.length cap L d oc fv

theorem topClaimsCurve_lifted (os : Os) (started : os.Started) (H : Type) (enc : TypeId × Value → H) :
    ReturnsInHanded {} Tryz.checked os 4 .any (Rows.topClaimsCurveSpec.pre6 enc Tryz.prog Tryz.f4 Rows.topClaimsCurveRow.domain false) (Rows.topClaimsCurveSpec.post enc Tryz.prog Tryz.f4 false true false false) := by
  refine returnsInHanded_of_change (C := Tryz.checked) own started (by kernel_rfl) Tryz.func4
    (ChangeSpec.witness6 (enc := enc) (C := Tryz.checked) false ⟨#[], #[.agg #[.int .i64 0, .int .i64 0, .int .i64 0, .int .i64 0, .int .i64 0], .slice none 0 0, .int .i64 0], []⟩ 8 (by kernel_rfl) (by kernel_rfl) (by kernel_rfl) (by kernel_rfl)) ?_
  intro W base args ds gs before hval0 hW hcnd _
  have hval : ∀ (j : Nat) t v, Tryz.f4.params[j]? = some t → args[j]? = some v → Value.okWide Tryz.prog W .any base t v := hval0
  have hW' := hW
  obtain ⟨p, q, hA0, hV, rfl, hfz, hnd⟩ := hW
  have hA : DataW.TrodAll enc Tryz.prog W 0 (fun _ => true) true Tryz.f4.params.toList args.toList ds p := hA0
  rw [Tryz.params4] at hA hval
  obtain ⟨v0, vs0, d0, ds0, p0, q0, hargs, rfl, rfl, h0, r0⟩ := trodAll_cons hA
  obtain ⟨v1, vs1, d1, ds1, p1, q1, rfl, rfl, rfl, h1, r1⟩ := trodAll_cons r0
  obtain ⟨v2, vs2, d2, ds2, p2, q2, rfl, rfl, rfl, h2, r2⟩ := trodAll_cons r1
  obtain ⟨rfl, rfl, rfl⟩ := trodAll_nil r2
  obtain rfl : args = #[v0, v1, v2] := by cases args; simp_all
  obtain ⟨rfl, rfl⟩ := trodVars_none hV
  obtain ⟨c0, rfl, oc0⟩ := open_coverZ (hval 0 23 v0 rfl rfl) h0
  obtain ⟨A1, L1, cap1, rfl, fv1⟩ := open_files (hval 1 24 v1 rfl rfl) h1
  obtain ⟨x2, rfl, rfl, rfl, wx2⟩ := open_int Tryz.underlying3 (hval 2 3 v2 rfl rfl) h2
  refine (topClaimsCurve_walk W c0 oc0 A1 L1 cap1 fv1 x2 wx2).mono fun e W' ⟨he, hb⟩ => ?_
  subst he
  exact ⟨_, rfl, law_post laidOut (by kernel_rfl) rfl Tryz.underlying4 rfl rfl hW' hb⟩

/-- THE STATEMENT. -/
theorem topClaimsCurve_holds : Rows.TopClaimsCurveSaid :=
  OpenClaim.holds_of_wide 4 Tryz.f4 rfl rfl rfl rfl rfl rfl rfl ⟨rfl, rfl, rfl, rfl, rfl⟩ rfl rfl rfl rfl rfl (by kernel_rfl) Tryz.func4 (by kernel_rfl)
    (of_decide_eq_true (by kernel_rfl)) (by unfold Func.isWrapper; first | (rw [if_pos (by decide +kernel)]; kernel_rfl) | (rw [if_neg (by decide +kernel)]; exact ⟨rfl, rfl⟩))
    (fun os started H enc _ => topClaimsCurve_lifted os started H enc)

end Go.Proofs.YtmfohnchnbgbaaaGreat
