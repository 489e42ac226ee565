/-
  No cell of these rows narrows 'for every input' (looked for: loops, veiled, ifaces, maps, wideKeys, modest, calm, conditions, laid).
  DERIVED. THE GIVEN ROWS OF THIS SEAT. 4 by the template 'for every input the law returns true; each argument reads behind the call as it read before'; 0 by the template 'total and deterministic' (their statements: YtmfohnchnbgbaaaGreatTotals.lean).
  GIVEN WITH THE SEED: the statements are not yours to turn. If you find one false, say at which input.
  Laid BY PROGRAM, IN A SANDBOX (cutbox-rows.mjs): the forced cells as the released guide's own fill.sh prints them over the translation a20676990d8ada72… (all of the seat's roots in one cut). By AI agents, Wed Nov 11 2026. No macro, syntax, notation, axiom, sorry.
-/
import Derived.Test.YtmfohnchnbgbaaaGreatChecked
import GoSem.Claim
import GoSem.ClaimJoined
import GoSem.ClaimMapViews
import Derived.JoinedTies
import Derived.KernelRfl
namespace Go.Proofs.YtmfohnchnbgbaaaGreat
/- THE CELL 'sum', in the pinned program and in every row, IS THE sha256 OF THE DUMP (.gsa) THAT YtmfohnchnbgbaaaGreatProg.lean LOADS. Nothing in Lean hashes anything: it is a label: what it is worth is what the hold of that sum in a sandbox is worth. -/
noncomputable def Tryz.pinned : Pinned := { name := "ytmfohnchnbgbaaagreat", sum := "a20676990d8ada72fcdcf64d929ee54fc6caa22f60025cf574e7f65197a84e31", checked := Tryz.checked }
namespace Rows
def none {H : Type} : Left H := { results := [], args := [] }

/-- 'bordereautop.TopClaimsTriangle': WHATEVER THE INPUT: true; the input reads as it did. -/
def topClaimsTriangleSpec : ChangeSpec := { name := "topClaimsTriangle", fn := fun _ => fun
  | [d1, d2] => { results := [.lit (.bool true)], args := [d1, d2] }
  | _ => none }
def topClaimsTriangleRow : OpenClaim := { program := "ytmfohnchnbgbaaagreat", sum := "a20676990d8ada72fcdcf64d929ee54fc6caa22f60025cf574e7f65197a84e31", func := "bordereau/bordereautop.TopClaimsTriangle", spec := "topClaimsTriangle", unfollowed := true, recurses := true, named := ["math/bits.divideError", "math/bits.overflowError"], apart := false }
def TopClaimsTriangleSaid : Prop := topClaimsTriangleRow.holds Tryz.pinned (OpenSpec.ofChange topClaimsTriangleSpec)

/-- ITS FALSE NEIGHBOUR: 'it returns false'. Refute it at one input. -/
def topClaimsTriangleWrong : ChangeSpec := { name := "topClaimsTriangle", fn := fun _ => fun
  | [d1, d2] => { results := [.lit (.bool false)], args := [d1, d2] }
  | _ => none }
def TopClaimsTriangleWrongFalsely : Prop := topClaimsTriangleRow.holds Tryz.pinned (OpenSpec.ofChange topClaimsTriangleWrong)

/-- 'bordereautop.TopClaimsCurve': WHATEVER THE INPUT: true; the input reads as it did. -/
def topClaimsCurveSpec : ChangeSpec := { name := "topClaimsCurve", fn := fun _ => fun
  | [d1, d2, d3] => { results := [.lit (.bool true)], args := [d1, d2, d3] }
  | _ => none }
def topClaimsCurveRow : OpenClaim := { program := "ytmfohnchnbgbaaagreat", sum := "a20676990d8ada72fcdcf64d929ee54fc6caa22f60025cf574e7f65197a84e31", func := "bordereau/bordereautop.TopClaimsCurve", spec := "topClaimsCurve", unfollowed := true, recurses := true, named := ["math/bits.divideError", "math/bits.overflowError"], apart := false }
def TopClaimsCurveSaid : Prop := topClaimsCurveRow.holds Tryz.pinned (OpenSpec.ofChange topClaimsCurveSpec)

/-- ITS FALSE NEIGHBOUR: 'it returns false'. Refute it at one input. -/
def topClaimsCurveWrong : ChangeSpec := { name := "topClaimsCurve", fn := fun _ => fun
  | [d1, d2, d3] => { results := [.lit (.bool false)], args := [d1, d2, d3] }
  | _ => none }
def TopClaimsCurveWrongFalsely : Prop := topClaimsCurveRow.holds Tryz.pinned (OpenSpec.ofChange topClaimsCurveWrong)

/-- 'bordereautop.TopKnownOrder': WHATEVER THE INPUT: true; the input reads as it did. -/
def topKnownOrderSpec : ChangeSpec := { name := "topKnownOrder", fn := fun _ => fun
  | [d1, d2, d3] => { results := [.lit (.bool true)], args := [d1, d2, d3] }
  | _ => none }
def topKnownOrderRow : OpenClaim := { program := "ytmfohnchnbgbaaagreat", sum := "a20676990d8ada72fcdcf64d929ee54fc6caa22f60025cf574e7f65197a84e31", func := "bordereau/bordereautop.TopKnownOrder", spec := "topKnownOrder", unfollowed := true, recurses := true, named := ["math/bits.divideError", "math/bits.overflowError"], apart := false }
def TopKnownOrderSaid : Prop := topKnownOrderRow.holds Tryz.pinned (OpenSpec.ofChange topKnownOrderSpec)

/-- ITS FALSE NEIGHBOUR: 'it returns false'. Refute it at one input. -/
def topKnownOrderWrong : ChangeSpec := { name := "topKnownOrder", fn := fun _ => fun
  | [d1, d2, d3] => { results := [.lit (.bool false)], args := [d1, d2, d3] }
  | _ => none }
def TopKnownOrderWrongFalsely : Prop := topKnownOrderRow.holds Tryz.pinned (OpenSpec.ofChange topKnownOrderWrong)

/-- 'bordereautop.TopPremiumDays': WHATEVER THE INPUT: true; the input reads as it did. -/
def topPremiumDaysSpec : ChangeSpec := { name := "topPremiumDays", fn := fun _ => fun
  | [d1, d2, d3] => { results := [.lit (.bool true)], args := [d1, d2, d3] }
  | _ => none }
def topPremiumDaysRow : OpenClaim := { program := "ytmfohnchnbgbaaagreat", sum := "a20676990d8ada72fcdcf64d929ee54fc6caa22f60025cf574e7f65197a84e31", func := "bordereau/bordereautop.TopPremiumDays", spec := "topPremiumDays", unfollowed := true, recurses := true, named := ["math/bits.divideError", "math/bits.overflowError"], apart := false }
def TopPremiumDaysSaid : Prop := topPremiumDaysRow.holds Tryz.pinned (OpenSpec.ofChange topPremiumDaysSpec)

/-- ITS FALSE NEIGHBOUR: 'it returns false'. Refute it at one input. -/
def topPremiumDaysWrong : ChangeSpec := { name := "topPremiumDays", fn := fun _ => fun
  | [d1, d2, d3] => { results := [.lit (.bool false)], args := [d1, d2, d3] }
  | _ => none }
def TopPremiumDaysWrongFalsely : Prop := topPremiumDaysRow.holds Tryz.pinned (OpenSpec.ofChange topPremiumDaysWrong)

/- THE SECOND FORM. 'bulk': how many values and letters a reading holds, each counted each time it is reached (what is shared counts as often as it is met; a slice's spare places count too). A statement '..UptoSaid' is the law's where the arguments, and the package variables that the reading takes, are together of bulk at most 1048576: NARROWER than '..Said'. Prove '..Said' where nothing that the law and all that it calls make is longer than what came in: it says more and counts as full. Else prove '..UptoSaid'. A law counts once. -/
mutual
def uptoBulk {H : Type} : DataW H → Nat
  | .lit (.string bytes) => bytes.length + 1
  | .lit _ => 1
  | .nil => 1
  | .ptr d => uptoBulk d + 1
  | .slice elems spare => uptoBulkAll elems + uptoBulkAll spare + 1
  | .agg parts => uptoBulkAll parts + 1
  | .iface _ d => uptoBulk d + 1
  | .map entries => uptoBulkEntries entries + 1
  | .held _ => 1
def uptoBulkAll {H : Type} : List (DataW H) → Nat
  | [] => 0
  | d :: r => uptoBulk d + uptoBulkAll r
def uptoBulkEntries {H : Type} : List (Lit × DataW H) → Nat
  | [] => 0
  | x :: r => uptoBulkEntry x + uptoBulkEntries r
def uptoBulkEntry {H : Type} : Lit × DataW H → Nat
  | (.string bytes, d) => bytes.length + uptoBulk d + 1
  | (_, d) => uptoBulk d + 1
 end
def uptoSmall : (H : Type) → List (DataW H) → Bool := fun _ ds => decide (uptoBulkAll ds ≤ 1048576)
def OpenSpec.upto (s : _root_.Go.ChangeSpec) : _root_.Go.OpenSpec := { _root_.Go.OpenSpec.ofChange s with cond := some uptoSmall }

/-- 'bordereautop.TopClaimsTriangle', WHERE WHAT IT READS IS OF BULK AT MOST 1048576: true; the input reads as it did. -/
def topClaimsTriangleUptoRow : OpenClaim := { program := "ytmfohnchnbgbaaagreat", sum := "a20676990d8ada72fcdcf64d929ee54fc6caa22f60025cf574e7f65197a84e31", func := "bordereau/bordereautop.TopClaimsTriangle", spec := "topClaimsTriangle", unfollowed := true, recurses := true, named := ["math/bits.divideError", "math/bits.overflowError"], apart := false, narrowed := true }
def TopClaimsTriangleUptoSaid : Prop := topClaimsTriangleUptoRow.holds Tryz.pinned (OpenSpec.upto topClaimsTriangleSpec)

/-- 'bordereautop.TopClaimsCurve', WHERE WHAT IT READS IS OF BULK AT MOST 1048576: true; the input reads as it did. -/
def topClaimsCurveUptoRow : OpenClaim := { program := "ytmfohnchnbgbaaagreat", sum := "a20676990d8ada72fcdcf64d929ee54fc6caa22f60025cf574e7f65197a84e31", func := "bordereau/bordereautop.TopClaimsCurve", spec := "topClaimsCurve", unfollowed := true, recurses := true, named := ["math/bits.divideError", "math/bits.overflowError"], apart := false, narrowed := true }
def TopClaimsCurveUptoSaid : Prop := topClaimsCurveUptoRow.holds Tryz.pinned (OpenSpec.upto topClaimsCurveSpec)

/-- 'bordereautop.TopKnownOrder', WHERE WHAT IT READS IS OF BULK AT MOST 1048576: true; the input reads as it did. -/
def topKnownOrderUptoRow : OpenClaim := { program := "ytmfohnchnbgbaaagreat", sum := "a20676990d8ada72fcdcf64d929ee54fc6caa22f60025cf574e7f65197a84e31", func := "bordereau/bordereautop.TopKnownOrder", spec := "topKnownOrder", unfollowed := true, recurses := true, named := ["math/bits.divideError", "math/bits.overflowError"], apart := false, narrowed := true }
def TopKnownOrderUptoSaid : Prop := topKnownOrderUptoRow.holds Tryz.pinned (OpenSpec.upto topKnownOrderSpec)

/-- 'bordereautop.TopPremiumDays', WHERE WHAT IT READS IS OF BULK AT MOST 1048576: true; the input reads as it did. -/
def topPremiumDaysUptoRow : OpenClaim := { program := "ytmfohnchnbgbaaagreat", sum := "a20676990d8ada72fcdcf64d929ee54fc6caa22f60025cf574e7f65197a84e31", func := "bordereau/bordereautop.TopPremiumDays", spec := "topPremiumDays", unfollowed := true, recurses := true, named := ["math/bits.divideError", "math/bits.overflowError"], apart := false, narrowed := true }
def TopPremiumDaysUptoSaid : Prop := topPremiumDaysUptoRow.holds Tryz.pinned (OpenSpec.upto topPremiumDaysSpec)

end Rows
end Go.Proofs.YtmfohnchnbgbaaaGreat
