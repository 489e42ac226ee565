/-
  No cell of these rows narrows 'for every input' (looked for: loops, veiled, ifaces, maps, wideKeys, modest, calm, conditions, laid).
  DERIVED. THE GIVEN ROWS OF THIS SEAT. 7 by the template 'for every input the law returns true; each argument reads behind the call as it read before'; 0 by the template 'total and deterministic' (their statements: YtmeneojgdbjlnaaTotals.lean).
  GIVEN WITH THE SEED: the statements are not yours to turn. If you find one false, say at which input.
  Laid BY PROGRAM, IN A SANDBOX (cutbox-rows.mjs): the forced cells as the released guide's own fill.sh prints them over the translation e54057d16b29176d… (all of the seat's roots in one cut). By AI agents, Wed Nov 11 2026. No macro, syntax, notation, axiom, sorry.
-/
import Derived.Test.YtmeneojgdbjlnaaChecked
import GoSem.Claim
import GoSem.ClaimJoined
import GoSem.ClaimMapViews
import Derived.JoinedTies
import Derived.KernelRfl
namespace Go.Proofs.Ytmeneojgdbjlnaa
/- THE CELL 'sum', in the pinned program and in every row, IS THE sha256 OF THE DUMP (.gsa) THAT YtmeneojgdbjlnaaProg.lean LOADS. Nothing in Lean hashes anything: it is a label: what it is worth is what the hold of that sum in a sandbox is worth. -/
noncomputable def Try.pinned : Pinned := { name := "ytmeneojgdbjlnaa", sum := "e54057d16b29176d71423921f5be57a5ab920519898f1c8f53f8977db73810a1", checked := Try.checked }
namespace Rows
def none {H : Type} : Left H := { results := [], args := [] }

/-- 'bordereaulaw18.ClaimTells': WHATEVER THE INPUT: true; the input reads as it did. -/
def claimTellsSpec : ChangeSpec := { name := "claimTells", fn := fun _ => fun
  | [d1, d2] => { results := [.lit (.bool true)], args := [d1, d2] }
  | _ => none }
def claimTellsRow : OpenClaim := { program := "ytmeneojgdbjlnaa", sum := "e54057d16b29176d71423921f5be57a5ab920519898f1c8f53f8977db73810a1", func := "bordereau/bordereaulaw18.ClaimTells", spec := "claimTells", unfollowed := true, recurses := true, apart := false }
def ClaimTellsSaid : Prop := claimTellsRow.holds Try.pinned (OpenSpec.ofChange claimTellsSpec)

/-- ITS FALSE NEIGHBOUR: 'it returns false'. Refute it at one input. -/
def claimTellsWrong : ChangeSpec := { name := "claimTells", fn := fun _ => fun
  | [d1, d2] => { results := [.lit (.bool false)], args := [d1, d2] }
  | _ => none }
def ClaimTellsWrongFalsely : Prop := claimTellsRow.holds Try.pinned (OpenSpec.ofChange claimTellsWrong)

/-- 'bordereaulaw18.ClaimPuts': WHATEVER THE INPUT: true; the input reads as it did. -/
def claimPutsSpec : ChangeSpec := { name := "claimPuts", fn := fun _ => fun
  | [d1, d2] => { results := [.lit (.bool true)], args := [d1, d2] }
  | _ => none }
def claimPutsRow : OpenClaim := { program := "ytmeneojgdbjlnaa", sum := "e54057d16b29176d71423921f5be57a5ab920519898f1c8f53f8977db73810a1", func := "bordereau/bordereaulaw18.ClaimPuts", spec := "claimPuts", unfollowed := true, recurses := true, apart := false }
def ClaimPutsSaid : Prop := claimPutsRow.holds Try.pinned (OpenSpec.ofChange claimPutsSpec)

/-- ITS FALSE NEIGHBOUR: 'it returns false'. Refute it at one input. -/
def claimPutsWrong : ChangeSpec := { name := "claimPuts", fn := fun _ => fun
  | [d1, d2] => { results := [.lit (.bool false)], args := [d1, d2] }
  | _ => none }
def ClaimPutsWrongFalsely : Prop := claimPutsRow.holds Try.pinned (OpenSpec.ofChange claimPutsWrong)

/-- 'bordereaulaw18.ClaimAdds': WHATEVER THE INPUT: true; the input reads as it did. -/
def claimAddsSpec : ChangeSpec := { name := "claimAdds", fn := fun _ => fun
  | [d1, d2, d3] => { results := [.lit (.bool true)], args := [d1, d2, d3] }
  | _ => none }
def claimAddsRow : OpenClaim := { program := "ytmeneojgdbjlnaa", sum := "e54057d16b29176d71423921f5be57a5ab920519898f1c8f53f8977db73810a1", func := "bordereau/bordereaulaw18.ClaimAdds", spec := "claimAdds", unfollowed := true, recurses := true, apart := false }
def ClaimAddsSaid : Prop := claimAddsRow.holds Try.pinned (OpenSpec.ofChange claimAddsSpec)

/-- ITS FALSE NEIGHBOUR: 'it returns false'. Refute it at one input. -/
def claimAddsWrong : ChangeSpec := { name := "claimAdds", fn := fun _ => fun
  | [d1, d2, d3] => { results := [.lit (.bool false)], args := [d1, d2, d3] }
  | _ => none }
def ClaimAddsWrongFalsely : Prop := claimAddsRow.holds Try.pinned (OpenSpec.ofChange claimAddsWrong)

/-- 'bordereaulaw18.ClaimBounds': WHATEVER THE INPUT: true; the input reads as it did. -/
def claimBoundsSpec : ChangeSpec := { name := "claimBounds", fn := fun _ => fun
  | [d1, d2, d3] => { results := [.lit (.bool true)], args := [d1, d2, d3] }
  | _ => none }
def claimBoundsRow : OpenClaim := { program := "ytmeneojgdbjlnaa", sum := "e54057d16b29176d71423921f5be57a5ab920519898f1c8f53f8977db73810a1", func := "bordereau/bordereaulaw18.ClaimBounds", spec := "claimBounds", unfollowed := true, recurses := true, apart := false }
def ClaimBoundsSaid : Prop := claimBoundsRow.holds Try.pinned (OpenSpec.ofChange claimBoundsSpec)

/-- ITS FALSE NEIGHBOUR: 'it returns false'. Refute it at one input. -/
def claimBoundsWrong : ChangeSpec := { name := "claimBounds", fn := fun _ => fun
  | [d1, d2, d3] => { results := [.lit (.bool false)], args := [d1, d2, d3] }
  | _ => none }
def ClaimBoundsWrongFalsely : Prop := claimBoundsRow.holds Try.pinned (OpenSpec.ofChange claimBoundsWrong)

/-- 'bordereaulaw18.ClaimOrder': WHATEVER THE INPUT: true; the input reads as it did. -/
def claimOrderSpec : ChangeSpec := { name := "claimOrder", fn := fun _ => fun
  | [d1, d2] => { results := [.lit (.bool true)], args := [d1, d2] }
  | _ => none }
def claimOrderRow : OpenClaim := { program := "ytmeneojgdbjlnaa", sum := "e54057d16b29176d71423921f5be57a5ab920519898f1c8f53f8977db73810a1", func := "bordereau/bordereaulaw18.ClaimOrder", spec := "claimOrder", unfollowed := true, recurses := true, apart := false }
def ClaimOrderSaid : Prop := claimOrderRow.holds Try.pinned (OpenSpec.ofChange claimOrderSpec)

/-- ITS FALSE NEIGHBOUR: 'it returns false'. Refute it at one input. -/
def claimOrderWrong : ChangeSpec := { name := "claimOrder", fn := fun _ => fun
  | [d1, d2] => { results := [.lit (.bool false)], args := [d1, d2] }
  | _ => none }
def ClaimOrderWrongFalsely : Prop := claimOrderRow.holds Try.pinned (OpenSpec.ofChange claimOrderWrong)

/-- 'bordereaulaw18.ClaimStands': WHATEVER THE INPUT: true; the input reads as it did. -/
def claimStandsSpec : ChangeSpec := { name := "claimStands", fn := fun _ => fun
  | [d1, d2] => { results := [.lit (.bool true)], args := [d1, d2] }
  | _ => none }
def claimStandsRow : OpenClaim := { program := "ytmeneojgdbjlnaa", sum := "e54057d16b29176d71423921f5be57a5ab920519898f1c8f53f8977db73810a1", func := "bordereau/bordereaulaw18.ClaimStands", spec := "claimStands", unfollowed := true, recurses := true, apart := false }
def ClaimStandsSaid : Prop := claimStandsRow.holds Try.pinned (OpenSpec.ofChange claimStandsSpec)

/-- ITS FALSE NEIGHBOUR: 'it returns false'. Refute it at one input. -/
def claimStandsWrong : ChangeSpec := { name := "claimStands", fn := fun _ => fun
  | [d1, d2] => { results := [.lit (.bool false)], args := [d1, d2] }
  | _ => none }
def ClaimStandsWrongFalsely : Prop := claimStandsRow.holds Try.pinned (OpenSpec.ofChange claimStandsWrong)

/-- 'bordereaulaw18.ClaimKnown': WHATEVER THE INPUT: true; the input reads as it did. -/
def claimKnownSpec : ChangeSpec := { name := "claimKnown", fn := fun _ => fun
  | [d1, d2, d3, d4, d5] => { results := [.lit (.bool true)], args := [d1, d2, d3, d4, d5] }
  | _ => none }
def claimKnownRow : OpenClaim := { program := "ytmeneojgdbjlnaa", sum := "e54057d16b29176d71423921f5be57a5ab920519898f1c8f53f8977db73810a1", func := "bordereau/bordereaulaw18.ClaimKnown", spec := "claimKnown", unfollowed := true, recurses := true, apart := false }
def ClaimKnownSaid : Prop := claimKnownRow.holds Try.pinned (OpenSpec.ofChange claimKnownSpec)

/-- ITS FALSE NEIGHBOUR: 'it returns false'. Refute it at one input. -/
def claimKnownWrong : ChangeSpec := { name := "claimKnown", fn := fun _ => fun
  | [d1, d2, d3, d4, d5] => { results := [.lit (.bool false)], args := [d1, d2, d3, d4, d5] }
  | _ => none }
def ClaimKnownWrongFalsely : Prop := claimKnownRow.holds Try.pinned (OpenSpec.ofChange claimKnownWrong)

/- THE SECOND FORM. 'bulk': how many values and letters a reading holds, each counted each time it is reached (what is shared counts as often as it is met; a slice's spare places count too). A statement '..UptoSaid' is the law's where the arguments, and the package variables that the reading takes, are together of bulk at most 1048576: NARROWER than '..Said'. Prove '..Said' where nothing that the law and all that it calls make is longer than what came in: it says more and counts as full. Else prove '..UptoSaid'. A law counts once. -/
mutual
def uptoBulk {H : Type} : DataW H → Nat
  | .lit (.string bytes) => bytes.length + 1
  | .lit _ => 1
  | .nil => 1
  | .ptr d => uptoBulk d + 1
  | .slice elems spare => uptoBulkAll elems + uptoBulkAll spare + 1
  | .agg parts => uptoBulkAll parts + 1
  | .iface _ d => uptoBulk d + 1
  | .map entries => uptoBulkEntries entries + 1
  | .held _ => 1
def uptoBulkAll {H : Type} : List (DataW H) → Nat
  | [] => 0
  | d :: r => uptoBulk d + uptoBulkAll r
def uptoBulkEntries {H : Type} : List (Lit × DataW H) → Nat
  | [] => 0
  | x :: r => uptoBulkEntry x + uptoBulkEntries r
def uptoBulkEntry {H : Type} : Lit × DataW H → Nat
  | (.string bytes, d) => bytes.length + uptoBulk d + 1
  | (_, d) => uptoBulk d + 1
 end
def uptoSmall : (H : Type) → List (DataW H) → Bool := fun _ ds => decide (uptoBulkAll ds ≤ 1048576)
def OpenSpec.upto (s : _root_.Go.ChangeSpec) : _root_.Go.OpenSpec := { _root_.Go.OpenSpec.ofChange s with cond := some uptoSmall }

/-- 'bordereaulaw18.ClaimTells', WHERE WHAT IT READS IS OF BULK AT MOST 1048576: true; the input reads as it did. -/
def claimTellsUptoRow : OpenClaim := { program := "ytmeneojgdbjlnaa", sum := "e54057d16b29176d71423921f5be57a5ab920519898f1c8f53f8977db73810a1", func := "bordereau/bordereaulaw18.ClaimTells", spec := "claimTells", unfollowed := true, recurses := true, apart := false, narrowed := true }
def ClaimTellsUptoSaid : Prop := claimTellsUptoRow.holds Try.pinned (OpenSpec.upto claimTellsSpec)

/-- 'bordereaulaw18.ClaimPuts', WHERE WHAT IT READS IS OF BULK AT MOST 1048576: true; the input reads as it did. -/
def claimPutsUptoRow : OpenClaim := { program := "ytmeneojgdbjlnaa", sum := "e54057d16b29176d71423921f5be57a5ab920519898f1c8f53f8977db73810a1", func := "bordereau/bordereaulaw18.ClaimPuts", spec := "claimPuts", unfollowed := true, recurses := true, apart := false, narrowed := true }
def ClaimPutsUptoSaid : Prop := claimPutsUptoRow.holds Try.pinned (OpenSpec.upto claimPutsSpec)

/-- 'bordereaulaw18.ClaimAdds', WHERE WHAT IT READS IS OF BULK AT MOST 1048576: true; the input reads as it did. -/
def claimAddsUptoRow : OpenClaim := { program := "ytmeneojgdbjlnaa", sum := "e54057d16b29176d71423921f5be57a5ab920519898f1c8f53f8977db73810a1", func := "bordereau/bordereaulaw18.ClaimAdds", spec := "claimAdds", unfollowed := true, recurses := true, apart := false, narrowed := true }
def ClaimAddsUptoSaid : Prop := claimAddsUptoRow.holds Try.pinned (OpenSpec.upto claimAddsSpec)

/-- 'bordereaulaw18.ClaimBounds', WHERE WHAT IT READS IS OF BULK AT MOST 1048576: true; the input reads as it did. -/
def claimBoundsUptoRow : OpenClaim := { program := "ytmeneojgdbjlnaa", sum := "e54057d16b29176d71423921f5be57a5ab920519898f1c8f53f8977db73810a1", func := "bordereau/bordereaulaw18.ClaimBounds", spec := "claimBounds", unfollowed := true, recurses := true, apart := false, narrowed := true }
def ClaimBoundsUptoSaid : Prop := claimBoundsUptoRow.holds Try.pinned (OpenSpec.upto claimBoundsSpec)

/-- 'bordereaulaw18.ClaimOrder', WHERE WHAT IT READS IS OF BULK AT MOST 1048576: true; the input reads as it did. -/
def claimOrderUptoRow : OpenClaim := { program := "ytmeneojgdbjlnaa", sum := "e54057d16b29176d71423921f5be57a5ab920519898f1c8f53f8977db73810a1", func := "bordereau/bordereaulaw18.ClaimOrder", spec := "claimOrder", unfollowed := true, recurses := true, apart := false, narrowed := true }
def ClaimOrderUptoSaid : Prop := claimOrderUptoRow.holds Try.pinned (OpenSpec.upto claimOrderSpec)

/-- 'bordereaulaw18.ClaimStands', WHERE WHAT IT READS IS OF BULK AT MOST 1048576: true; the input reads as it did. -/
def claimStandsUptoRow : OpenClaim := { program := "ytmeneojgdbjlnaa", sum := "e54057d16b29176d71423921f5be57a5ab920519898f1c8f53f8977db73810a1", func := "bordereau/bordereaulaw18.ClaimStands", spec := "claimStands", unfollowed := true, recurses := true, apart := false, narrowed := true }
def ClaimStandsUptoSaid : Prop := claimStandsUptoRow.holds Try.pinned (OpenSpec.upto claimStandsSpec)

/-- 'bordereaulaw18.ClaimKnown', WHERE WHAT IT READS IS OF BULK AT MOST 1048576: true; the input reads as it did. -/
def claimKnownUptoRow : OpenClaim := { program := "ytmeneojgdbjlnaa", sum := "e54057d16b29176d71423921f5be57a5ab920519898f1c8f53f8977db73810a1", func := "bordereau/bordereaulaw18.ClaimKnown", spec := "claimKnown", unfollowed := true, recurses := true, apart := false, narrowed := true }
def ClaimKnownUptoSaid : Prop := claimKnownUptoRow.holds Try.pinned (OpenSpec.upto claimKnownSpec)

end Rows
end Go.Proofs.Ytmeneojgdbjlnaa
