/-
  No cell of these rows narrows 'for every input' (looked for: loops, veiled, ifaces, maps, wideKeys, modest, calm, conditions, laid).
  DERIVED. THE GIVEN ROWS OF THIS SEAT. 6 by the template 'for every input the law returns true; each argument reads behind the call as it read before'; 0 by the template 'total and deterministic' (their statements: YtiflfhfcdohncaaTotals.lean).
  GIVEN WITH THE SEED: the statements are not yours to turn. If you find one false, say at which input.
  Laid BY PROGRAM, IN A SANDBOX (cutbox-rows.mjs): the forced cells as the released guide's own fill.sh prints them over the translation b7fae95d2e015eaa… (all of the seat's roots in one cut). By AI agents, Wed Nov 11 2026. No macro, syntax, notation, axiom, sorry.
-/
import Derived.Test.YtiflfhfcdohncaaChecked
import GoSem.Claim
import GoSem.ClaimJoined
import GoSem.ClaimMapViews
import Derived.JoinedTies
import Derived.KernelRfl
namespace Go.Proofs.Ytiflfhfcdohncaa
/- THE CELL 'sum', in the pinned program and in every row, IS THE sha256 OF THE DUMP (.gsa) THAT YtiflfhfcdohncaaProg.lean LOADS. Nothing in Lean hashes anything: it is a label: what it is worth is what the hold of that sum in a sandbox is worth. -/
noncomputable def Try.pinned : Pinned := { name := "ytiflfhfcdohncaa", sum := "b7fae95d2e015eaa4fa703bec0263257467e28b7cac8b8b766d5f587968f042e", checked := Try.checked }
namespace Rows
def none {H : Type} : Left H := { results := [], args := [] }

/-- 'bordereaulaw06.RiskTells': WHATEVER THE INPUT: true; the input reads as it did. -/
def riskTellsSpec : ChangeSpec := { name := "riskTells", fn := fun _ => fun
  | [d] => { results := [.lit (.bool true)], args := [d] }
  | _ => none }
def riskTellsRow : OpenClaim := { program := "ytiflfhfcdohncaa", sum := "b7fae95d2e015eaa4fa703bec0263257467e28b7cac8b8b766d5f587968f042e", func := "bordereau/bordereaulaw06.RiskTells", spec := "riskTells", apart := false }
def RiskTellsSaid : Prop := riskTellsRow.holds Try.pinned (OpenSpec.ofChange riskTellsSpec)

/-- ITS FALSE NEIGHBOUR: 'it returns false'. Refute it at one input. -/
def riskTellsWrong : ChangeSpec := { name := "riskTells", fn := fun _ => fun
  | [d] => { results := [.lit (.bool false)], args := [d] }
  | _ => none }
def RiskTellsWrongFalsely : Prop := riskTellsRow.holds Try.pinned (OpenSpec.ofChange riskTellsWrong)

/-- 'bordereaulaw06.RiskBands': WHATEVER THE INPUT: true; the input reads as it did. -/
def riskBandsSpec : ChangeSpec := { name := "riskBands", fn := fun _ => fun
  | [d1, d2] => { results := [.lit (.bool true)], args := [d1, d2] }
  | _ => none }
def riskBandsRow : OpenClaim := { program := "ytiflfhfcdohncaa", sum := "b7fae95d2e015eaa4fa703bec0263257467e28b7cac8b8b766d5f587968f042e", func := "bordereau/bordereaulaw06.RiskBands", spec := "riskBands", apart := false }
def RiskBandsSaid : Prop := riskBandsRow.holds Try.pinned (OpenSpec.ofChange riskBandsSpec)

/-- ITS FALSE NEIGHBOUR: 'it returns false'. Refute it at one input. -/
def riskBandsWrong : ChangeSpec := { name := "riskBands", fn := fun _ => fun
  | [d1, d2] => { results := [.lit (.bool false)], args := [d1, d2] }
  | _ => none }
def RiskBandsWrongFalsely : Prop := riskBandsRow.holds Try.pinned (OpenSpec.ofChange riskBandsWrong)

/-- 'bordereaulaw06.RiskBetween': WHATEVER THE INPUT: true; the input reads as it did. -/
def riskBetweenSpec : ChangeSpec := { name := "riskBetween", fn := fun _ => fun
  | [d1, d2, d3] => { results := [.lit (.bool true)], args := [d1, d2, d3] }
  | _ => none }
def riskBetweenRow : OpenClaim := { program := "ytiflfhfcdohncaa", sum := "b7fae95d2e015eaa4fa703bec0263257467e28b7cac8b8b766d5f587968f042e", func := "bordereau/bordereaulaw06.RiskBetween", spec := "riskBetween", apart := false }
def RiskBetweenSaid : Prop := riskBetweenRow.holds Try.pinned (OpenSpec.ofChange riskBetweenSpec)

/-- ITS FALSE NEIGHBOUR: 'it returns false'. Refute it at one input. -/
def riskBetweenWrong : ChangeSpec := { name := "riskBetween", fn := fun _ => fun
  | [d1, d2, d3] => { results := [.lit (.bool false)], args := [d1, d2, d3] }
  | _ => none }
def RiskBetweenWrongFalsely : Prop := riskBetweenRow.holds Try.pinned (OpenSpec.ofChange riskBetweenWrong)

/-- 'bordereaulaw06.RiskLeast': WHATEVER THE INPUT: true; the input reads as it did. -/
def riskLeastSpec : ChangeSpec := { name := "riskLeast", fn := fun _ => fun
  | [d1, d2] => { results := [.lit (.bool true)], args := [d1, d2] }
  | _ => none }
def riskLeastRow : OpenClaim := { program := "ytiflfhfcdohncaa", sum := "b7fae95d2e015eaa4fa703bec0263257467e28b7cac8b8b766d5f587968f042e", func := "bordereau/bordereaulaw06.RiskLeast", spec := "riskLeast", apart := false }
def RiskLeastSaid : Prop := riskLeastRow.holds Try.pinned (OpenSpec.ofChange riskLeastSpec)

/-- ITS FALSE NEIGHBOUR: 'it returns false'. Refute it at one input. -/
def riskLeastWrong : ChangeSpec := { name := "riskLeast", fn := fun _ => fun
  | [d1, d2] => { results := [.lit (.bool false)], args := [d1, d2] }
  | _ => none }
def RiskLeastWrongFalsely : Prop := riskLeastRow.holds Try.pinned (OpenSpec.ofChange riskLeastWrong)

/-- 'bordereaulaw06.RiskMore': WHATEVER THE INPUT: true; the input reads as it did. -/
def riskMoreSpec : ChangeSpec := { name := "riskMore", fn := fun _ => fun
  | [d1, d2, d3] => { results := [.lit (.bool true)], args := [d1, d2, d3] }
  | _ => none }
def riskMoreRow : OpenClaim := { program := "ytiflfhfcdohncaa", sum := "b7fae95d2e015eaa4fa703bec0263257467e28b7cac8b8b766d5f587968f042e", func := "bordereau/bordereaulaw06.RiskMore", spec := "riskMore", apart := false }
def RiskMoreSaid : Prop := riskMoreRow.holds Try.pinned (OpenSpec.ofChange riskMoreSpec)

/-- ITS FALSE NEIGHBOUR: 'it returns false'. Refute it at one input. -/
def riskMoreWrong : ChangeSpec := { name := "riskMore", fn := fun _ => fun
  | [d1, d2, d3] => { results := [.lit (.bool false)], args := [d1, d2, d3] }
  | _ => none }
def RiskMoreWrongFalsely : Prop := riskMoreRow.holds Try.pinned (OpenSpec.ofChange riskMoreWrong)

/-- 'bordereaulaw06.RiskEdges': WHATEVER THE INPUT: true; the input reads as it did. -/
def riskEdgesSpec : ChangeSpec := { name := "riskEdges", fn := fun _ => fun
  | [d1, d2, d3, d4, d5, d6, d7] => { results := [.lit (.bool true)], args := [d1, d2, d3, d4, d5, d6, d7] }
  | _ => none }
def riskEdgesRow : OpenClaim := { program := "ytiflfhfcdohncaa", sum := "b7fae95d2e015eaa4fa703bec0263257467e28b7cac8b8b766d5f587968f042e", func := "bordereau/bordereaulaw06.RiskEdges", spec := "riskEdges", apart := false }
def RiskEdgesSaid : Prop := riskEdgesRow.holds Try.pinned (OpenSpec.ofChange riskEdgesSpec)

/-- ITS FALSE NEIGHBOUR: 'it returns false'. Refute it at one input. -/
def riskEdgesWrong : ChangeSpec := { name := "riskEdges", fn := fun _ => fun
  | [d1, d2, d3, d4, d5, d6, d7] => { results := [.lit (.bool false)], args := [d1, d2, d3, d4, d5, d6, d7] }
  | _ => none }
def RiskEdgesWrongFalsely : Prop := riskEdgesRow.holds Try.pinned (OpenSpec.ofChange riskEdgesWrong)

/- THE SECOND FORM. 'bulk': how many values and letters a reading holds, each counted each time it is reached (what is shared counts as often as it is met; a slice's spare places count too). A statement '..UptoSaid' is the law's where the arguments, and the package variables that the reading takes, are together of bulk at most 1048576: NARROWER than '..Said'. Prove '..Said' where nothing that the law and all that it calls make is longer than what came in: it says more and counts as full. Else prove '..UptoSaid'. A law counts once. -/
mutual
def uptoBulk {H : Type} : DataW H → Nat
  | .lit (.string bytes) => bytes.length + 1
  | .lit _ => 1
  | .nil => 1
  | .ptr d => uptoBulk d + 1
  | .slice elems spare => uptoBulkAll elems + uptoBulkAll spare + 1
  | .agg parts => uptoBulkAll parts + 1
  | .iface _ d => uptoBulk d + 1
  | .map entries => uptoBulkEntries entries + 1
  | .held _ => 1
def uptoBulkAll {H : Type} : List (DataW H) → Nat
  | [] => 0
  | d :: r => uptoBulk d + uptoBulkAll r
def uptoBulkEntries {H : Type} : List (Lit × DataW H) → Nat
  | [] => 0
  | x :: r => uptoBulkEntry x + uptoBulkEntries r
def uptoBulkEntry {H : Type} : Lit × DataW H → Nat
  | (.string bytes, d) => bytes.length + uptoBulk d + 1
  | (_, d) => uptoBulk d + 1
 end
def uptoSmall : (H : Type) → List (DataW H) → Bool := fun _ ds => decide (uptoBulkAll ds ≤ 1048576)
def OpenSpec.upto (s : _root_.Go.ChangeSpec) : _root_.Go.OpenSpec := { _root_.Go.OpenSpec.ofChange s with cond := some uptoSmall }

/-- 'bordereaulaw06.RiskTells', WHERE WHAT IT READS IS OF BULK AT MOST 1048576: true; the input reads as it did. -/
def riskTellsUptoRow : OpenClaim := { program := "ytiflfhfcdohncaa", sum := "b7fae95d2e015eaa4fa703bec0263257467e28b7cac8b8b766d5f587968f042e", func := "bordereau/bordereaulaw06.RiskTells", spec := "riskTells", apart := false, narrowed := true }
def RiskTellsUptoSaid : Prop := riskTellsUptoRow.holds Try.pinned (OpenSpec.upto riskTellsSpec)

/-- 'bordereaulaw06.RiskBands', WHERE WHAT IT READS IS OF BULK AT MOST 1048576: true; the input reads as it did. -/
def riskBandsUptoRow : OpenClaim := { program := "ytiflfhfcdohncaa", sum := "b7fae95d2e015eaa4fa703bec0263257467e28b7cac8b8b766d5f587968f042e", func := "bordereau/bordereaulaw06.RiskBands", spec := "riskBands", apart := false, narrowed := true }
def RiskBandsUptoSaid : Prop := riskBandsUptoRow.holds Try.pinned (OpenSpec.upto riskBandsSpec)

/-- 'bordereaulaw06.RiskBetween', WHERE WHAT IT READS IS OF BULK AT MOST 1048576: true; the input reads as it did. -/
def riskBetweenUptoRow : OpenClaim := { program := "ytiflfhfcdohncaa", sum := "b7fae95d2e015eaa4fa703bec0263257467e28b7cac8b8b766d5f587968f042e", func := "bordereau/bordereaulaw06.RiskBetween", spec := "riskBetween", apart := false, narrowed := true }
def RiskBetweenUptoSaid : Prop := riskBetweenUptoRow.holds Try.pinned (OpenSpec.upto riskBetweenSpec)

/-- 'bordereaulaw06.RiskLeast', WHERE WHAT IT READS IS OF BULK AT MOST 1048576: true; the input reads as it did. -/
def riskLeastUptoRow : OpenClaim := { program := "ytiflfhfcdohncaa", sum := "b7fae95d2e015eaa4fa703bec0263257467e28b7cac8b8b766d5f587968f042e", func := "bordereau/bordereaulaw06.RiskLeast", spec := "riskLeast", apart := false, narrowed := true }
def RiskLeastUptoSaid : Prop := riskLeastUptoRow.holds Try.pinned (OpenSpec.upto riskLeastSpec)

/-- 'bordereaulaw06.RiskMore', WHERE WHAT IT READS IS OF BULK AT MOST 1048576: true; the input reads as it did. -/
def riskMoreUptoRow : OpenClaim := { program := "ytiflfhfcdohncaa", sum := "b7fae95d2e015eaa4fa703bec0263257467e28b7cac8b8b766d5f587968f042e", func := "bordereau/bordereaulaw06.RiskMore", spec := "riskMore", apart := false, narrowed := true }
def RiskMoreUptoSaid : Prop := riskMoreUptoRow.holds Try.pinned (OpenSpec.upto riskMoreSpec)

/-- 'bordereaulaw06.RiskEdges', WHERE WHAT IT READS IS OF BULK AT MOST 1048576: true; the input reads as it did. -/
def riskEdgesUptoRow : OpenClaim := { program := "ytiflfhfcdohncaa", sum := "b7fae95d2e015eaa4fa703bec0263257467e28b7cac8b8b766d5f587968f042e", func := "bordereau/bordereaulaw06.RiskEdges", spec := "riskEdges", apart := false, narrowed := true }
def RiskEdgesUptoSaid : Prop := riskEdgesUptoRow.holds Try.pinned (OpenSpec.upto riskEdgesSpec)

end Rows
end Go.Proofs.Ytiflfhfcdohncaa
