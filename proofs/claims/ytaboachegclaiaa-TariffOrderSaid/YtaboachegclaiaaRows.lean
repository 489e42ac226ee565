/-
  No cell of these rows narrows 'for every input' (looked for: loops, veiled, ifaces, maps, wideKeys, modest, calm, conditions, laid).
  DERIVED. THE GIVEN ROWS OF THIS SEAT. 5 by the template 'for every input the law returns true; each argument reads behind the call as it read before'; 0 by the template 'total and deterministic' (their statements: YtaboachegclaiaaTotals.lean).
  GIVEN WITH THE SEED: the statements are not yours to turn. If you find one false, say at which input.
  Laid BY PROGRAM, IN A SANDBOX (cutbox-rows.mjs): the forced cells as the released guide's own fill.sh prints them over the translation fce7832f6a3ff91e… (all of the seat's roots in one cut). By AI agents, Wed Nov 11 2026. No macro, syntax, notation, axiom, sorry.
-/
import Derived.Test.YtaboachegclaiaaChecked
import GoSem.Claim
import GoSem.ClaimJoined
import GoSem.ClaimMapViews
import Derived.JoinedTies
import Derived.KernelRfl
namespace Go.Proofs.Ytaboachegclaiaa
/- THE CELL 'sum', in the pinned program and in every row, IS THE sha256 OF THE DUMP (.gsa) THAT YtaboachegclaiaaProg.lean LOADS. Nothing in Lean hashes anything: it is a label: what it is worth is what the hold of that sum in a sandbox is worth. -/
noncomputable def Try.pinned : Pinned := { name := "ytaboachegclaiaa", sum := "fce7832f6a3ff91ed33f6c0347703c9182b5fc5950d39d70efc185673123ae2b", checked := Try.checked }
namespace Rows
def none {H : Type} : Left H := { results := [], args := [] }

/-- 'bordereaulaw07.TariffVersions': WHATEVER THE INPUT: true; the input reads as it did. -/
def tariffVersionsSpec : ChangeSpec := { name := "tariffVersions", fn := fun _ => fun
  | [d1, d2] => { results := [.lit (.bool true)], args := [d1, d2] }
  | _ => none }
def tariffVersionsRow : OpenClaim := { program := "ytaboachegclaiaa", sum := "fce7832f6a3ff91ed33f6c0347703c9182b5fc5950d39d70efc185673123ae2b", func := "bordereau/bordereaulaw07.TariffVersions", spec := "tariffVersions", inPlace := ["slices.overlaps[bordereau/api.Version]"], unfollowed := true, recurses := true, apart := false }
def TariffVersionsSaid : Prop := tariffVersionsRow.holds Try.pinned (OpenSpec.ofChange tariffVersionsSpec)

/-- ITS FALSE NEIGHBOUR: 'it returns false'. Refute it at one input. -/
def tariffVersionsWrong : ChangeSpec := { name := "tariffVersions", fn := fun _ => fun
  | [d1, d2] => { results := [.lit (.bool false)], args := [d1, d2] }
  | _ => none }
def TariffVersionsWrongFalsely : Prop := tariffVersionsRow.holds Try.pinned (OpenSpec.ofChange tariffVersionsWrong)

/-- 'bordereaulaw07.TariffAt': WHATEVER THE INPUT: true; the input reads as it did. -/
def tariffAtSpec : ChangeSpec := { name := "tariffAt", fn := fun _ => fun
  | [d1, d2] => { results := [.lit (.bool true)], args := [d1, d2] }
  | _ => none }
def tariffAtRow : OpenClaim := { program := "ytaboachegclaiaa", sum := "fce7832f6a3ff91ed33f6c0347703c9182b5fc5950d39d70efc185673123ae2b", func := "bordereau/bordereaulaw07.TariffAt", spec := "tariffAt", inPlace := ["slices.overlaps[bordereau/api.Version]"], unfollowed := true, recurses := true, apart := false }
def TariffAtSaid : Prop := tariffAtRow.holds Try.pinned (OpenSpec.ofChange tariffAtSpec)

/-- ITS FALSE NEIGHBOUR: 'it returns false'. Refute it at one input. -/
def tariffAtWrong : ChangeSpec := { name := "tariffAt", fn := fun _ => fun
  | [d1, d2] => { results := [.lit (.bool false)], args := [d1, d2] }
  | _ => none }
def TariffAtWrongFalsely : Prop := tariffAtRow.holds Try.pinned (OpenSpec.ofChange tariffAtWrong)

/-- 'bordereaulaw07.TariffBehind': WHATEVER THE INPUT: true; the input reads as it did. -/
def tariffBehindSpec : ChangeSpec := { name := "tariffBehind", fn := fun _ => fun
  | [d1, d2, d3] => { results := [.lit (.bool true)], args := [d1, d2, d3] }
  | _ => none }
def tariffBehindRow : OpenClaim := { program := "ytaboachegclaiaa", sum := "fce7832f6a3ff91ed33f6c0347703c9182b5fc5950d39d70efc185673123ae2b", func := "bordereau/bordereaulaw07.TariffBehind", spec := "tariffBehind", inPlace := ["slices.overlaps[bordereau/api.Version]"], unfollowed := true, recurses := true, apart := false }
def TariffBehindSaid : Prop := tariffBehindRow.holds Try.pinned (OpenSpec.ofChange tariffBehindSpec)

/-- ITS FALSE NEIGHBOUR: 'it returns false'. Refute it at one input. -/
def tariffBehindWrong : ChangeSpec := { name := "tariffBehind", fn := fun _ => fun
  | [d1, d2, d3] => { results := [.lit (.bool false)], args := [d1, d2, d3] }
  | _ => none }
def TariffBehindWrongFalsely : Prop := tariffBehindRow.holds Try.pinned (OpenSpec.ofChange tariffBehindWrong)

/-- 'bordereaulaw07.TariffOrder': WHATEVER THE INPUT: true; the input reads as it did. -/
def tariffOrderSpec : ChangeSpec := { name := "tariffOrder", fn := fun _ => fun
  | [d1, d2, d3] => { results := [.lit (.bool true)], args := [d1, d2, d3] }
  | _ => none }
def tariffOrderRow : OpenClaim := { program := "ytaboachegclaiaa", sum := "fce7832f6a3ff91ed33f6c0347703c9182b5fc5950d39d70efc185673123ae2b", func := "bordereau/bordereaulaw07.TariffOrder", spec := "tariffOrder", inPlace := ["slices.overlaps[bordereau/api.Version]"], unfollowed := true, recurses := true, apart := false }
def TariffOrderSaid : Prop := tariffOrderRow.holds Try.pinned (OpenSpec.ofChange tariffOrderSpec)

/-- ITS FALSE NEIGHBOUR: 'it returns false'. Refute it at one input. -/
def tariffOrderWrong : ChangeSpec := { name := "tariffOrder", fn := fun _ => fun
  | [d1, d2, d3] => { results := [.lit (.bool false)], args := [d1, d2, d3] }
  | _ => none }
def TariffOrderWrongFalsely : Prop := tariffOrderRow.holds Try.pinned (OpenSpec.ofChange tariffOrderWrong)

/-- 'bordereaulaw07.TariffLast': WHATEVER THE INPUT: true; the input reads as it did. -/
def tariffLastSpec : ChangeSpec := { name := "tariffLast", fn := fun _ => fun
  | [d1, d2, d3] => { results := [.lit (.bool true)], args := [d1, d2, d3] }
  | _ => none }
def tariffLastRow : OpenClaim := { program := "ytaboachegclaiaa", sum := "fce7832f6a3ff91ed33f6c0347703c9182b5fc5950d39d70efc185673123ae2b", func := "bordereau/bordereaulaw07.TariffLast", spec := "tariffLast", inPlace := ["slices.overlaps[bordereau/api.Version]"], unfollowed := true, recurses := true, apart := false }
def TariffLastSaid : Prop := tariffLastRow.holds Try.pinned (OpenSpec.ofChange tariffLastSpec)

/-- ITS FALSE NEIGHBOUR: 'it returns false'. Refute it at one input. -/
def tariffLastWrong : ChangeSpec := { name := "tariffLast", fn := fun _ => fun
  | [d1, d2, d3] => { results := [.lit (.bool false)], args := [d1, d2, d3] }
  | _ => none }
def TariffLastWrongFalsely : Prop := tariffLastRow.holds Try.pinned (OpenSpec.ofChange tariffLastWrong)

/- THE SECOND FORM. 'bulk': how many values and letters a reading holds, each counted each time it is reached (what is shared counts as often as it is met; a slice's spare places count too). A statement '..UptoSaid' is the law's where the arguments, and the package variables that the reading takes, are together of bulk at most 1048576: NARROWER than '..Said'. Prove '..Said' where nothing that the law and all that it calls make is longer than what came in: it says more and counts as full. Else prove '..UptoSaid'. A law counts once. -/
mutual
def uptoBulk {H : Type} : DataW H → Nat
  | .lit (.string bytes) => bytes.length + 1
  | .lit _ => 1
  | .nil => 1
  | .ptr d => uptoBulk d + 1
  | .slice elems spare => uptoBulkAll elems + uptoBulkAll spare + 1
  | .agg parts => uptoBulkAll parts + 1
  | .iface _ d => uptoBulk d + 1
  | .map entries => uptoBulkEntries entries + 1
  | .held _ => 1
def uptoBulkAll {H : Type} : List (DataW H) → Nat
  | [] => 0
  | d :: r => uptoBulk d + uptoBulkAll r
def uptoBulkEntries {H : Type} : List (Lit × DataW H) → Nat
  | [] => 0
  | x :: r => uptoBulkEntry x + uptoBulkEntries r
def uptoBulkEntry {H : Type} : Lit × DataW H → Nat
  | (.string bytes, d) => bytes.length + uptoBulk d + 1
  | (_, d) => uptoBulk d + 1
 end
def uptoSmall : (H : Type) → List (DataW H) → Bool := fun _ ds => decide (uptoBulkAll ds ≤ 1048576)
def OpenSpec.upto (s : _root_.Go.ChangeSpec) : _root_.Go.OpenSpec := { _root_.Go.OpenSpec.ofChange s with cond := some uptoSmall }

/-- 'bordereaulaw07.TariffVersions', WHERE WHAT IT READS IS OF BULK AT MOST 1048576: true; the input reads as it did. -/
def tariffVersionsUptoRow : OpenClaim := { program := "ytaboachegclaiaa", sum := "fce7832f6a3ff91ed33f6c0347703c9182b5fc5950d39d70efc185673123ae2b", func := "bordereau/bordereaulaw07.TariffVersions", spec := "tariffVersions", inPlace := ["slices.overlaps[bordereau/api.Version]"], unfollowed := true, recurses := true, apart := false, narrowed := true }
def TariffVersionsUptoSaid : Prop := tariffVersionsUptoRow.holds Try.pinned (OpenSpec.upto tariffVersionsSpec)

/-- 'bordereaulaw07.TariffAt', WHERE WHAT IT READS IS OF BULK AT MOST 1048576: true; the input reads as it did. -/
def tariffAtUptoRow : OpenClaim := { program := "ytaboachegclaiaa", sum := "fce7832f6a3ff91ed33f6c0347703c9182b5fc5950d39d70efc185673123ae2b", func := "bordereau/bordereaulaw07.TariffAt", spec := "tariffAt", inPlace := ["slices.overlaps[bordereau/api.Version]"], unfollowed := true, recurses := true, apart := false, narrowed := true }
def TariffAtUptoSaid : Prop := tariffAtUptoRow.holds Try.pinned (OpenSpec.upto tariffAtSpec)

/-- 'bordereaulaw07.TariffBehind', WHERE WHAT IT READS IS OF BULK AT MOST 1048576: true; the input reads as it did. -/
def tariffBehindUptoRow : OpenClaim := { program := "ytaboachegclaiaa", sum := "fce7832f6a3ff91ed33f6c0347703c9182b5fc5950d39d70efc185673123ae2b", func := "bordereau/bordereaulaw07.TariffBehind", spec := "tariffBehind", inPlace := ["slices.overlaps[bordereau/api.Version]"], unfollowed := true, recurses := true, apart := false, narrowed := true }
def TariffBehindUptoSaid : Prop := tariffBehindUptoRow.holds Try.pinned (OpenSpec.upto tariffBehindSpec)

/-- 'bordereaulaw07.TariffOrder', WHERE WHAT IT READS IS OF BULK AT MOST 1048576: true; the input reads as it did. -/
def tariffOrderUptoRow : OpenClaim := { program := "ytaboachegclaiaa", sum := "fce7832f6a3ff91ed33f6c0347703c9182b5fc5950d39d70efc185673123ae2b", func := "bordereau/bordereaulaw07.TariffOrder", spec := "tariffOrder", inPlace := ["slices.overlaps[bordereau/api.Version]"], unfollowed := true, recurses := true, apart := false, narrowed := true }
def TariffOrderUptoSaid : Prop := tariffOrderUptoRow.holds Try.pinned (OpenSpec.upto tariffOrderSpec)

/-- 'bordereaulaw07.TariffLast', WHERE WHAT IT READS IS OF BULK AT MOST 1048576: true; the input reads as it did. -/
def tariffLastUptoRow : OpenClaim := { program := "ytaboachegclaiaa", sum := "fce7832f6a3ff91ed33f6c0347703c9182b5fc5950d39d70efc185673123ae2b", func := "bordereau/bordereaulaw07.TariffLast", spec := "tariffLast", inPlace := ["slices.overlaps[bordereau/api.Version]"], unfollowed := true, recurses := true, apart := false, narrowed := true }
def TariffLastUptoSaid : Prop := tariffLastUptoRow.holds Try.pinned (OpenSpec.upto tariffLastSpec)

end Rows
end Go.Proofs.Ytaboachegclaiaa
