/- The arguments of the laws of layer 18, opened. -/
import Derived.Test.YtmeneojgdbjlnaaClaimPut
import Derived.Test.YtmeneojgdbjlnaaOpen
import Derived.Deep.RegionWith
namespace Go.Proofs.Ytmeneojgdbjlnaa
open Go.ChangeShapes Go.WideShapes Go.ChangeAt Go.RowKit

theorem own : ownKnob Try.prog.godebug = none := by kernel_rfl
theorem laidOut : laidOutB Try.prog = true := by kernel_rfl
theorem cells_claim : Try.prog.cellsOf 23 = 6 := by kernel_rfl
theorem cells_act : Try.prog.cellsOf 25 = 3 := by kernel_rfl
theorem cells_file : Try.prog.cellsOf 32 = 7 := by kernel_rfl
theorem leaves_claim : leaves Try.prog 2 23 = some [.int .i64, .int .i64, .int .i64, .int .i64, .int .i64, .int .i64] := by kernel_rfl
theorem leaves_act : leaves Try.prog 2 25 = some [.int .i64, .int .i64, .int .i64] := by kernel_rfl
theorem leaves_file : leaves Try.prog 3 32 = some [.int .i64, .int .i64, .int .i64, .int .i64, .int .i64, .int .i64, .slice 25] := by kernel_rfl

section
variable {H : Type} {enc : TypeId × Value → H} {W : World} {r : Reach} {b0 : Nat} {v : Value} {d : DataW H} {p : List MemPlace}
theorem open_claim (hv : Value.okWide Try.prog W r b0 23 v) (h : DataW.Trod enc Try.prog W 0 (fun _ => true) true 23 v d p) :
    ∃ c : Cl, v = .agg #[.int .i64 c.id, .int .i64 c.pol, .int .i64 c.per, .int .i64 c.loss, .int .i64 c.bkd, .int .i64 c.ev] := by
  obtain ⟨l, rfl, hl⟩ := top_agg enc Try.prog W 2 Try.underlying23 leaves_claim cells_claim hv h
  obtain ⟨n1, l1, rfl, _, h1⟩ := leaf_int enc _ _ hl
  obtain ⟨n2, l2, rfl, _, h2⟩ := leaf_int enc _ _ h1
  obtain ⟨n3, l3, rfl, _, h3⟩ := leaf_int enc _ _ h2
  obtain ⟨n4, l4, rfl, _, h4⟩ := leaf_int enc _ _ h3
  obtain ⟨n5, l5, rfl, _, h5⟩ := leaf_int enc _ _ h4
  obtain ⟨n6, l6, rfl, _, h6⟩ := leaf_int enc _ _ h5
  obtain rfl := allLeaf_nil enc _ _ h6
  exact ⟨⟨n1, n2, n3, n4, n5, n6⟩, rfl⟩
theorem open_act (hv : Value.okWide Try.prog W r b0 25 v) (h : DataW.Trod enc Try.prog W 0 (fun _ => true) true 25 v d p) :
    ∃ b k m : Int, v = .agg #[.int .i64 b, .int .i64 k, .int .i64 m] ∧ (Lit.int .i64 b).wf = true ∧ (Lit.int .i64 k).wf = true ∧ (Lit.int .i64 m).wf = true := by
  obtain ⟨l, rfl, hl⟩ := top_agg enc Try.prog W 2 Try.underlying25 leaves_act cells_act hv h
  obtain ⟨n1, l1, rfl, w1, h1⟩ := leaf_int enc _ _ hl
  obtain ⟨n2, l2, rfl, w2, h2⟩ := leaf_int enc _ _ h1
  obtain ⟨n3, l3, rfl, w3, h3⟩ := leaf_int enc _ _ h2
  obtain rfl := allLeaf_nil enc _ _ h3
  exact ⟨n1, n2, n3, rfl, w1, w2, w3⟩
theorem rows_acts {v : Value} (h : LeafOk enc Try.prog W (.slice 25) v) :
    ∃ (A : Option Addr) (l : List Ac) (cap : Nat), v = .slice A l.length cap ∧ SV W 3 A l.length cap (l.map encAc) := by
  obtain ⟨A, l, cap, hv, h1, h2, h3, _, h5⟩ := rows_of enc Try.prog W (α := Ac) 2 3 encAc (fun _ => True) leaves_act cells_act rfl (by omega) (fun cs hl => by
    obtain ⟨n1, l1, rfl, w1, h1⟩ := leaf_int enc _ _ hl
    obtain ⟨n2, l2, rfl, w2, h2⟩ := leaf_int enc _ _ h1
    obtain ⟨n3, l3, rfl, w3, h3⟩ := leaf_int enc _ _ h2
    obtain rfl := allLeaf_nil enc _ _ h3
    exact ⟨⟨n1, n2, n3⟩, rfl, trivial⟩) h
  exact ⟨A, l, cap, hv, ⟨h3, List.length_map _, h1, h2, h5⟩⟩
theorem open_acts (hv : Value.okWide Try.prog W r b0 30 v) (h : DataW.Trod enc Try.prog W 0 (fun _ => true) true 30 v d p) :
    ∃ (A : Option Addr) (l : List Ac) (cap : Nat), v = .slice A l.length cap ∧ SV W 3 A l.length cap (l.map encAc) :=
  rows_acts (top_slice enc _ _ Try.underlying30 hv h)
theorem open_file (hv : Value.okWide Try.prog W r b0 32 v) (h : DataW.Trod enc Try.prog W 0 (fun _ => true) true 32 v d p) :
    ∃ (c : Cl) (A : Option Addr) (l : List Ac) (cap : Nat), v = .agg #[.int .i64 c.id, .int .i64 c.pol, .int .i64 c.per, .int .i64 c.loss, .int .i64 c.bkd, .int .i64 c.ev, .slice A l.length cap] ∧ SV W 3 A l.length cap (l.map encAc) := by
  obtain ⟨l, rfl, hl⟩ := top_agg enc Try.prog W 3 Try.underlying32 leaves_file cells_file hv h
  obtain ⟨n1, l1, rfl, _, h1⟩ := leaf_int enc _ _ hl
  obtain ⟨n2, l2, rfl, _, h2⟩ := leaf_int enc _ _ h1
  obtain ⟨n3, l3, rfl, _, h3⟩ := leaf_int enc _ _ h2
  obtain ⟨n4, l4, rfl, _, h4⟩ := leaf_int enc _ _ h3
  obtain ⟨n5, l5, rfl, _, h5⟩ := leaf_int enc _ _ h4
  obtain ⟨n6, l6, rfl, _, h6⟩ := leaf_int enc _ _ h5
  obtain ⟨v7, l7, rfl, h7, h8⟩ := allLeaf_cons enc _ _ h6
  obtain rfl := allLeaf_nil enc _ _ h8
  obtain ⟨A, l, cap, rfl, hs⟩ := rows_acts h7
  exact ⟨⟨n1, n2, n3, n4, n5, n6⟩, A, l, cap, rfl, hs⟩
end
end Go.Proofs.Ytmeneojgdbjlnaa
