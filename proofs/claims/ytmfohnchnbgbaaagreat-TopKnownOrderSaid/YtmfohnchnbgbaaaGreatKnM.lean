/- Proved: whatever the history, the tariff and the day, TopKnownOrder returns true, and its arguments read behind the call as they did ahead of it. Conditions: none beyond those that the given row states. -/
import Derived.Deep.RegionWith
import Derived.Laws.EntriesVeiled
import Derived.Test.YtmfohnchnbgbaaaGreatKnM02
import Derived.Test.YtmfohnchnbgbaaaGreatKnM51
/- TopKnownOrder: histories as they are given; the statement. -/
namespace Go.Proofs.YtmfohnchnbgbaaaGreat
open Go.ChangeShapes Go.WideShapes Go.ChangeAt Go.RowKit
set_option linter.unusedVariables false
set_option maxRecDepth 1000000

theorem cells_covH : Tryz.prog.cellsOf 23 = 5 := by kernel_rfl
theorem cells_chgH : Tryz.prog.cellsOf 71 = 9 := by kernel_rfl
theorem cells_his : Tryz.prog.cellsOf 65 = 10 := by kernel_rfl
theorem leaves_covH : leaves Tryz.prog 2 23 = some [.int .i64, .int .i64, .int .i64, .int .i64, .int .i64] := by kernel_rfl
theorem leaves_chgH : leaves Tryz.prog 3 71 = some [.int .i64, .int .i64, .int .i64, .int .i64, .int .i64, .int .i64, .int .i64, .slice 23, .int .i64] := by kernel_rfl
theorem leaves_his : leaves Tryz.prog 4 65 = some [.int .i64, .int .i64, .int .i64, .int .i64, .int .i64, .int .i64, .int .i64, .int .i64, .slice 23, .slice 71] := by kernel_rfl
section
variable {H : Type} {enc : TypeId × Value → H} {W : World} {r : Reach} {b0 : Nat} {v : Value} {d : DataW H} {p : List MemPlace}
theorem rows_covs (h : LeafOk enc Tryz.prog W (.slice 23) v) : ∃ (A : Option Addr) (l : List Cv) (cap : Nat), v = .slice A l.length cap ∧ SV W 5 A l.length cap (l.map encCv) ∧ ∀ c ∈ l, okCv c := by
  obtain ⟨A, l, cap, hv, h1, h2, h3, h4, h5⟩ := rows_of enc Tryz.prog W (α := Cv) 2 5 encCv okCv leaves_covH cells_covH rfl (by omega) (fun cs hl => by
    obtain ⟨n1, l1, rfl, w1, h1⟩ := leaf_int enc _ _ hl
    obtain ⟨n2, l2, rfl, w2, h2⟩ := leaf_int enc _ _ h1
    obtain ⟨n3, l3, rfl, w3, h3⟩ := leaf_int enc _ _ h2
    obtain ⟨n4, l4, rfl, w4, h4⟩ := leaf_int enc _ _ h3
    obtain ⟨n5, l5, rfl, w5, h5⟩ := leaf_int enc _ _ h4
    obtain rfl := allLeaf_nil enc _ _ h5
    exact ⟨⟨n1, n2, n3, n4, n5⟩, rfl, wf64 w1, wf64 w2, wf64 w3, wf64 w4, wf64 w5⟩) h
  exact ⟨A, l, cap, hv, ⟨h3, List.length_map _, h1, h2, h5⟩, h4⟩
theorem chg_leaf {cs : List Value} (hl : AllLeaf enc Tryz.prog W [.int .i64, .int .i64, .int .i64, .int .i64, .int .i64, .int .i64, .int .i64, .slice 23, .int .i64] cs) : ∃ c : Ch, cs = encCh c ∧ SV W 5 c.A c.l.length c.cap (c.l.map encCv) ∧ okCh c := by
  obtain ⟨n1, l1, rfl, w1, h1⟩ := leaf_int enc _ _ hl
  obtain ⟨n2, l2, rfl, w2, h2⟩ := leaf_int enc _ _ h1
  obtain ⟨n3, l3, rfl, w3, h3⟩ := leaf_int enc _ _ h2
  obtain ⟨n4, l4, rfl, w4, h4⟩ := leaf_int enc _ _ h3
  obtain ⟨n5, l5, rfl, w5, h5⟩ := leaf_int enc _ _ h4
  obtain ⟨n6, l6, rfl, w6, h6⟩ := leaf_int enc _ _ h5
  obtain ⟨n7, l7, rfl, w7, h7⟩ := leaf_int enc _ _ h6
  obtain ⟨vc, l8, rfl, kc, h8⟩ := allLeaf_cons enc _ _ h7
  obtain ⟨n9, l9, rfl, w9, h9⟩ := leaf_int enc _ _ h8
  obtain rfl := allLeaf_nil enc _ _ h9
  obtain ⟨A, l, cap, rfl, hs, ho⟩ := rows_covs kc
  exact ⟨⟨n1, n2, n3, n4, n5, n6, n7, A, l, cap, n9⟩, rfl, hs, wf64 w3, ho⟩
theorem open_history (hv : Value.okWide Tryz.prog W r b0 65 v) (h : DataW.Trod enc Tryz.prog W 0 (fun _ => true) true 65 v d p) :
    ∃ x : Hi, v = .agg #[.int .i64 x.id, .int .i64 x.bk, .int .i64 x.tm.f, .int .i64 x.tm.t, .int .i64 x.tm.k, .int .i64 x.tm.v, .int .i64 x.tm.a, .int .i64 x.tm.z, .slice x.tm.A x.tm.l.length x.tm.cap, .slice x.A x.cs.length x.cap] ∧ HV W x := by
  obtain ⟨l, rfl, hl⟩ := top_agg enc Tryz.prog W 4 Tryz.underlying65 leaves_his cells_his hv h
  obtain ⟨n1, l1, rfl, _, h1⟩ := leaf_int enc _ _ hl
  obtain ⟨n2, l2, rfl, _, h2⟩ := leaf_int enc _ _ h1
  obtain ⟨n3, l3, rfl, _, h3⟩ := leaf_int enc _ _ h2
  obtain ⟨n4, l4, rfl, _, h4⟩ := leaf_int enc _ _ h3
  obtain ⟨n5, l5, rfl, _, h5⟩ := leaf_int enc _ _ h4
  obtain ⟨n6, l6, rfl, _, h6⟩ := leaf_int enc _ _ h5
  obtain ⟨n7, l7, rfl, _, h7⟩ := leaf_int enc _ _ h6
  obtain ⟨n8, l8, rfl, _, h8⟩ := leaf_int enc _ _ h7
  obtain ⟨vc, l9, rfl, kc, h9⟩ := allLeaf_cons enc _ _ h8
  obtain ⟨vh, l10, rfl, kh, h10⟩ := allLeaf_cons enc _ _ h9
  obtain rfl := allLeaf_nil enc _ _ h10
  obtain ⟨A, l, cap, rfl, hs, ho⟩ := rows_covs kc
  obtain ⟨A2, cs, cap2, rfl, g1, g2, g3, g4, g5⟩ := rows_of enc Tryz.prog W (α := Ch) 3 9 encCh (fun c => SV W 5 c.A c.l.length c.cap (c.l.map encCv) ∧ okCh c) leaves_chgH cells_chgH rfl (by omega) (fun cs hl => by
    obtain ⟨x, rfl, h1, h2⟩ := chg_leaf hl
    exact ⟨x, rfl, h1, h2⟩) kh
  exact ⟨⟨n1, n2, ⟨n3, n4, n5, n6, n7, n8, A, l, cap⟩, A2, cs, cap2⟩, rfl, ⟨hs, ho, ⟨g3, List.length_map _, g1, g2, g5⟩, fun c hc => (g4 c hc).1, fun c hc => (g4 c hc).2⟩⟩
end
theorem topKnownOrder_walk (w : World) (h : Hi) (hv : HV w h) (V : Option Addr) (M : List Vw) (cap : Nat) (hT : TV w V M.length cap M) (hO : ∀ x ∈ M, okVw x) (u : Int) (hu : (Lit.int .i64 u).wf = true) :
    Calls Tryz.prog 5 #[.agg #[.int .i64 h.id, .int .i64 h.bk, .int .i64 h.tm.f, .int .i64 h.tm.t, .int .i64 h.tm.k, .int .i64 h.tm.v, .int .i64 h.tm.a, .int .i64 h.tm.z, .slice h.tm.A h.tm.l.length h.tm.cap, .slice h.A h.cs.length h.cap], .agg #[.slice V M.length cap], .int .i64 u] w fun e w' => e = .returned (.bool true) ∧ Below w.heap.size w w' :=
  topKnownOrder_w w h V cap M u hv hT

theorem topKnownOrder_lifted (os : Os) (started : os.Started) (H : Type) (enc : TypeId × Value → H) :
    ReturnsInHanded {} Tryz.checked os 5 .any (Rows.topKnownOrderSpec.pre6 enc Tryz.prog Tryz.f5 Rows.topKnownOrderRow.domain false) (Rows.topKnownOrderSpec.post enc Tryz.prog Tryz.f5 false true false false) := by
  refine returnsInHanded_of_change (C := Tryz.checked) own started (by kernel_rfl) Tryz.func5
    (ChangeSpec.witness6 (enc := enc) (C := Tryz.checked) false ⟨#[], #[.agg #[.int .i64 0, .int .i64 0, .int .i64 0, .int .i64 0, .int .i64 0, .int .i64 0, .int .i64 0, .int .i64 0, .slice none 0 0, .slice none 0 0], .agg #[.slice none 0 0], .int .i64 0], []⟩ 8 (by kernel_rfl) (by kernel_rfl) (by kernel_rfl) (by kernel_rfl)) ?_
  intro W base args ds gs before hval0 hW hcnd _
  have hval : ∀ (j : Nat) t v, Tryz.f5.params[j]? = some t → args[j]? = some v → Value.okWide Tryz.prog W .any base t v := hval0
  have hW' := hW
  obtain ⟨p, q, hA0, hV, rfl, hfz, hnd⟩ := hW
  have hA : DataW.TrodAll enc Tryz.prog W 0 (fun _ => true) true Tryz.f5.params.toList args.toList ds p := hA0
  rw [Tryz.params5] at hA hval
  obtain ⟨v0, vs0, d0, ds0, p0, q0, hargs, rfl, rfl, h0, r0⟩ := trodAll_cons hA
  obtain ⟨v1, vs1, d1, ds1, p1, q1, rfl, rfl, rfl, h1, r1⟩ := trodAll_cons r0
  obtain ⟨v2, vs2, d2, ds2, p2, q2, rfl, rfl, rfl, h2, r2⟩ := trodAll_cons r1
  obtain ⟨rfl, rfl, rfl⟩ := trodAll_nil r2
  obtain rfl : args = #[v0, v1, v2] := by cases args; simp_all
  obtain ⟨rfl, rfl⟩ := trodVars_none hV
  obtain ⟨x0, rfl, hv0⟩ := open_history (hval 0 65 v0 rfl rfl) h0
  obtain ⟨V1, M1, cap1, rfl, hT1, hO1⟩ := open_tariff (hval 1 68 v1 rfl rfl) h1
  obtain ⟨x2, rfl, rfl, rfl, wx2⟩ := open_int Tryz.underlying3 (hval 2 3 v2 rfl rfl) h2
  refine (topKnownOrder_walk W x0 hv0 V1 M1 cap1 hT1 hO1 x2 wx2).mono fun e W' ⟨he, hb⟩ => ?_
  subst he
  exact ⟨_, rfl, law_post laidOut (by kernel_rfl) rfl Tryz.underlying4 rfl rfl hW' hb⟩

/-- THE STATEMENT. -/
theorem topKnownOrder_holds : Rows.TopKnownOrderSaid :=
  OpenClaim.holds_of_wide 5 Tryz.f5 rfl rfl rfl rfl rfl rfl rfl ⟨rfl, rfl, rfl, rfl, rfl⟩ rfl rfl rfl rfl rfl (by kernel_rfl) Tryz.func5 (by kernel_rfl)
    (of_decide_eq_true (by kernel_rfl)) (by unfold Func.isWrapper; first | (rw [if_pos (by decide +kernel)]; kernel_rfl) | (rw [if_neg (by decide +kernel)]; exact ⟨rfl, rfl⟩))
    (fun os started H enc _ => topKnownOrder_lifted os started H enc)
end Go.Proofs.YtmfohnchnbgbaaaGreat
