/-
  No cell of these rows narrows 'for every input' (looked for: loops, veiled, ifaces, maps, wideKeys, modest, calm, conditions, laid).
  DERIVED. THE GIVEN ROWS OF THIS SEAT. 6 by the template 'for every input the law returns true; each argument reads behind the call as it read before'; 0 by the template 'total and deterministic' (their statements: YtclcjonogjinfaaTotals.lean).
  GIVEN WITH THE SEED: the statements are not yours to turn. If you find one false, say at which input.
  Laid BY PROGRAM, IN A SANDBOX (cutbox-rows.mjs): the forced cells as the released guide's own fill.sh prints them over the translation 90ebcae7112ec0a6… (all of the seat's roots in one cut). By AI agents, Wed Nov 11 2026. No macro, syntax, notation, axiom, sorry.
-/
import Derived.Test.YtclcjonogjinfaaChecked
import GoSem.Claim
import GoSem.ClaimJoined
import GoSem.ClaimMapViews
import Derived.JoinedTies
import Derived.KernelRfl
namespace Go.Proofs.Ytclcjonogjinfaa
/- THE CELL 'sum', in the pinned program and in every row, IS THE sha256 OF THE DUMP (.gsa) THAT YtclcjonogjinfaaProg.lean LOADS. Nothing in Lean hashes anything: it is a label: what it is worth is what the hold of that sum in a sandbox is worth. -/
noncomputable def Try.pinned : Pinned := { name := "ytclcjonogjinfaa", sum := "90ebcae7112ec0a644781600df79e164749a4aa7192d35cc0414695419b7b6a2", checked := Try.checked }
namespace Rows
def none {H : Type} : Left H := { results := [], args := [] }

/-- 'bordereaulaw21.TriRight': WHATEVER THE INPUT: true; the input reads as it did. -/
def triRightSpec : ChangeSpec := { name := "triRight", fn := fun _ => fun
  | [d] => { results := [.lit (.bool true)], args := [d] }
  | _ => none }
def triRightRow : OpenClaim := { program := "ytclcjonogjinfaa", sum := "90ebcae7112ec0a644781600df79e164749a4aa7192d35cc0414695419b7b6a2", func := "bordereau/bordereaulaw21.TriRight", spec := "triRight", apart := false }
def TriRightSaid : Prop := triRightRow.holds Try.pinned (OpenSpec.ofChange triRightSpec)

/-- ITS FALSE NEIGHBOUR: 'it returns false'. Refute it at one input. -/
def triRightWrong : ChangeSpec := { name := "triRight", fn := fun _ => fun
  | [d] => { results := [.lit (.bool false)], args := [d] }
  | _ => none }
def TriRightWrongFalsely : Prop := triRightRow.holds Try.pinned (OpenSpec.ofChange triRightWrong)

/-- 'bordereaulaw21.TriOf': WHATEVER THE INPUT: true; the input reads as it did. -/
def triOfSpec : ChangeSpec := { name := "triOf", fn := fun _ => fun
  | [d] => { results := [.lit (.bool true)], args := [d] }
  | _ => none }
def triOfRow : OpenClaim := { program := "ytclcjonogjinfaa", sum := "90ebcae7112ec0a644781600df79e164749a4aa7192d35cc0414695419b7b6a2", func := "bordereau/bordereaulaw21.TriOf", spec := "triOf", apart := false }
def TriOfSaid : Prop := triOfRow.holds Try.pinned (OpenSpec.ofChange triOfSpec)

/-- ITS FALSE NEIGHBOUR: 'it returns false'. Refute it at one input. -/
def triOfWrong : ChangeSpec := { name := "triOf", fn := fun _ => fun
  | [d] => { results := [.lit (.bool false)], args := [d] }
  | _ => none }
def TriOfWrongFalsely : Prop := triOfRow.holds Try.pinned (OpenSpec.ofChange triOfWrong)

/-- 'bordereaulaw21.TriAll': WHATEVER THE INPUT: true; the input reads as it did. -/
def triAllSpec : ChangeSpec := { name := "triAll", fn := fun _ => fun
  | [d] => { results := [.lit (.bool true)], args := [d] }
  | _ => none }
def triAllRow : OpenClaim := { program := "ytclcjonogjinfaa", sum := "90ebcae7112ec0a644781600df79e164749a4aa7192d35cc0414695419b7b6a2", func := "bordereau/bordereaulaw21.TriAll", spec := "triAll", apart := false }
def TriAllSaid : Prop := triAllRow.holds Try.pinned (OpenSpec.ofChange triAllSpec)

/-- ITS FALSE NEIGHBOUR: 'it returns false'. Refute it at one input. -/
def triAllWrong : ChangeSpec := { name := "triAll", fn := fun _ => fun
  | [d] => { results := [.lit (.bool false)], args := [d] }
  | _ => none }
def TriAllWrongFalsely : Prop := triAllRow.holds Try.pinned (OpenSpec.ofChange triAllWrong)

/-- 'bordereaulaw21.TriRises': WHATEVER THE INPUT: true; the input reads as it did. -/
def triRisesSpec : ChangeSpec := { name := "triRises", fn := fun _ => fun
  | [d] => { results := [.lit (.bool true)], args := [d] }
  | _ => none }
def triRisesRow : OpenClaim := { program := "ytclcjonogjinfaa", sum := "90ebcae7112ec0a644781600df79e164749a4aa7192d35cc0414695419b7b6a2", func := "bordereau/bordereaulaw21.TriRises", spec := "triRises", apart := false }
def TriRisesSaid : Prop := triRisesRow.holds Try.pinned (OpenSpec.ofChange triRisesSpec)

/-- ITS FALSE NEIGHBOUR: 'it returns false'. Refute it at one input. -/
def triRisesWrong : ChangeSpec := { name := "triRises", fn := fun _ => fun
  | [d] => { results := [.lit (.bool false)], args := [d] }
  | _ => none }
def TriRisesWrongFalsely : Prop := triRisesRow.holds Try.pinned (OpenSpec.ofChange triRisesWrong)

/-- 'bordereaulaw21.TriTurned': WHATEVER THE INPUT: true; the input reads as it did. -/
def triTurnedSpec : ChangeSpec := { name := "triTurned", fn := fun _ => fun
  | [d1, d2] => { results := [.lit (.bool true)], args := [d1, d2] }
  | _ => none }
def triTurnedRow : OpenClaim := { program := "ytclcjonogjinfaa", sum := "90ebcae7112ec0a644781600df79e164749a4aa7192d35cc0414695419b7b6a2", func := "bordereau/bordereaulaw21.TriTurned", spec := "triTurned", apart := false }
def TriTurnedSaid : Prop := triTurnedRow.holds Try.pinned (OpenSpec.ofChange triTurnedSpec)

/-- ITS FALSE NEIGHBOUR: 'it returns false'. Refute it at one input. -/
def triTurnedWrong : ChangeSpec := { name := "triTurned", fn := fun _ => fun
  | [d1, d2] => { results := [.lit (.bool false)], args := [d1, d2] }
  | _ => none }
def TriTurnedWrongFalsely : Prop := triTurnedRow.holds Try.pinned (OpenSpec.ofChange triTurnedWrong)

/-- 'bordereaulaw21.TriMore': WHATEVER THE INPUT: true; the input reads as it did. -/
def triMoreSpec : ChangeSpec := { name := "triMore", fn := fun _ => fun
  | [d1, d2] => { results := [.lit (.bool true)], args := [d1, d2] }
  | _ => none }
def triMoreRow : OpenClaim := { program := "ytclcjonogjinfaa", sum := "90ebcae7112ec0a644781600df79e164749a4aa7192d35cc0414695419b7b6a2", func := "bordereau/bordereaulaw21.TriMore", spec := "triMore", apart := false }
def TriMoreSaid : Prop := triMoreRow.holds Try.pinned (OpenSpec.ofChange triMoreSpec)

/-- ITS FALSE NEIGHBOUR: 'it returns false'. Refute it at one input. -/
def triMoreWrong : ChangeSpec := { name := "triMore", fn := fun _ => fun
  | [d1, d2] => { results := [.lit (.bool false)], args := [d1, d2] }
  | _ => none }
def TriMoreWrongFalsely : Prop := triMoreRow.holds Try.pinned (OpenSpec.ofChange triMoreWrong)

/- THE SECOND FORM. 'bulk': how many values and letters a reading holds, each counted each time it is reached (what is shared counts as often as it is met; a slice's spare places count too). A statement '..UptoSaid' is the law's where the arguments, and the package variables that the reading takes, are together of bulk at most 1048576: NARROWER than '..Said'. Prove '..Said' where nothing that the law and all that it calls make is longer than what came in: it says more and counts as full. Else prove '..UptoSaid'. A law counts once. -/
mutual
def uptoBulk {H : Type} : DataW H → Nat
  | .lit (.string bytes) => bytes.length + 1
  | .lit _ => 1
  | .nil => 1
  | .ptr d => uptoBulk d + 1
  | .slice elems spare => uptoBulkAll elems + uptoBulkAll spare + 1
  | .agg parts => uptoBulkAll parts + 1
  | .iface _ d => uptoBulk d + 1
  | .map entries => uptoBulkEntries entries + 1
  | .held _ => 1
def uptoBulkAll {H : Type} : List (DataW H) → Nat
  | [] => 0
  | d :: r => uptoBulk d + uptoBulkAll r
def uptoBulkEntries {H : Type} : List (Lit × DataW H) → Nat
  | [] => 0
  | x :: r => uptoBulkEntry x + uptoBulkEntries r
def uptoBulkEntry {H : Type} : Lit × DataW H → Nat
  | (.string bytes, d) => bytes.length + uptoBulk d + 1
  | (_, d) => uptoBulk d + 1
 end
def uptoSmall : (H : Type) → List (DataW H) → Bool := fun _ ds => decide (uptoBulkAll ds ≤ 1048576)
def OpenSpec.upto (s : _root_.Go.ChangeSpec) : _root_.Go.OpenSpec := { _root_.Go.OpenSpec.ofChange s with cond := some uptoSmall }

/-- 'bordereaulaw21.TriRight', WHERE WHAT IT READS IS OF BULK AT MOST 1048576: true; the input reads as it did. -/
def triRightUptoRow : OpenClaim := { program := "ytclcjonogjinfaa", sum := "90ebcae7112ec0a644781600df79e164749a4aa7192d35cc0414695419b7b6a2", func := "bordereau/bordereaulaw21.TriRight", spec := "triRight", apart := false, narrowed := true }
def TriRightUptoSaid : Prop := triRightUptoRow.holds Try.pinned (OpenSpec.upto triRightSpec)

/-- 'bordereaulaw21.TriOf', WHERE WHAT IT READS IS OF BULK AT MOST 1048576: true; the input reads as it did. -/
def triOfUptoRow : OpenClaim := { program := "ytclcjonogjinfaa", sum := "90ebcae7112ec0a644781600df79e164749a4aa7192d35cc0414695419b7b6a2", func := "bordereau/bordereaulaw21.TriOf", spec := "triOf", apart := false, narrowed := true }
def TriOfUptoSaid : Prop := triOfUptoRow.holds Try.pinned (OpenSpec.upto triOfSpec)

/-- 'bordereaulaw21.TriAll', WHERE WHAT IT READS IS OF BULK AT MOST 1048576: true; the input reads as it did. -/
def triAllUptoRow : OpenClaim := { program := "ytclcjonogjinfaa", sum := "90ebcae7112ec0a644781600df79e164749a4aa7192d35cc0414695419b7b6a2", func := "bordereau/bordereaulaw21.TriAll", spec := "triAll", apart := false, narrowed := true }
def TriAllUptoSaid : Prop := triAllUptoRow.holds Try.pinned (OpenSpec.upto triAllSpec)

/-- 'bordereaulaw21.TriRises', WHERE WHAT IT READS IS OF BULK AT MOST 1048576: true; the input reads as it did. -/
def triRisesUptoRow : OpenClaim := { program := "ytclcjonogjinfaa", sum := "90ebcae7112ec0a644781600df79e164749a4aa7192d35cc0414695419b7b6a2", func := "bordereau/bordereaulaw21.TriRises", spec := "triRises", apart := false, narrowed := true }
def TriRisesUptoSaid : Prop := triRisesUptoRow.holds Try.pinned (OpenSpec.upto triRisesSpec)

/-- 'bordereaulaw21.TriTurned', WHERE WHAT IT READS IS OF BULK AT MOST 1048576: true; the input reads as it did. -/
def triTurnedUptoRow : OpenClaim := { program := "ytclcjonogjinfaa", sum := "90ebcae7112ec0a644781600df79e164749a4aa7192d35cc0414695419b7b6a2", func := "bordereau/bordereaulaw21.TriTurned", spec := "triTurned", apart := false, narrowed := true }
def TriTurnedUptoSaid : Prop := triTurnedUptoRow.holds Try.pinned (OpenSpec.upto triTurnedSpec)

/-- 'bordereaulaw21.TriMore', WHERE WHAT IT READS IS OF BULK AT MOST 1048576: true; the input reads as it did. -/
def triMoreUptoRow : OpenClaim := { program := "ytclcjonogjinfaa", sum := "90ebcae7112ec0a644781600df79e164749a4aa7192d35cc0414695419b7b6a2", func := "bordereau/bordereaulaw21.TriMore", spec := "triMore", apart := false, narrowed := true }
def TriMoreUptoSaid : Prop := triMoreUptoRow.holds Try.pinned (OpenSpec.upto triMoreSpec)

end Rows
end Go.Proofs.Ytclcjonogjinfaa
