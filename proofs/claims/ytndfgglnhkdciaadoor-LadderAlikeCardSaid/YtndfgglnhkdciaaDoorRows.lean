/-
  NARROWER THAN 'FOR EVERY INPUT', by the rows' own cells (each row's printed sentence says how): LadderFactors: laid · LadderTells: laid · LadderFirst: laid · LadderAlike: laid · LadderRises: laid · LadderStill: laid.
  DERIVED. THE GIVEN ROWS OF THIS SEAT. 6 by the template 'for every input the law returns true; each argument reads behind the call as it read before'; 0 by the template 'total and deterministic' (their statements: YtndfgglnhkdciaaDoorTotals.lean).
  GIVEN WITH THE SEED: the statements are not yours to turn. If you find one false, say at which input.
  Laid BY PROGRAM, IN A SANDBOX (cutbox-rows.mjs): the forced cells as the released guide's own fill.sh prints them over the translation 390495c2a1b3d5b6… (all of the seat's roots in one cut). By AI agents, Wed Nov 11 2026. No macro, syntax, notation, axiom, sorry.
-/
import Derived.Test.YtndfgglnhkdciaaDoorChecked
import GoSem.Claim
import GoSem.ClaimJoined
import GoSem.ClaimMapViews
import Derived.JoinedTies
import Derived.KernelRfl
namespace Go.Proofs.YtndfgglnhkdciaaDoor
/- THE CELL 'sum', in the pinned program and in every row, IS THE sha256 OF THE DUMP (.gsa) THAT YtndfgglnhkdciaaDoorProg.lean LOADS. Nothing in Lean hashes anything: it is a label: what it is worth is what the hold of that sum in a sandbox is worth. -/
noncomputable def Tryd.pinned : Pinned := { name := "ytndfgglnhkdciaadoor", sum := "390495c2a1b3d5b63b508fd28be2a2d797d6645d58b552ded4802b0bb1bb0391", checked := Tryd.checked }
namespace Rows
def none {H : Type} : Left H := { results := [], args := [] }

/- WHAT THE LISTED PACKAGE-LEVEL VARIABLES READ AS WHEN THE CALL BEGINS. Each datum BY PROGRAM (the guide's laid-datum.mjs) off the statement by which the dump's own 'gosem.cut.vars' lays the variable. In a bare row this is a premise. The card (YtndfgglnhkdciaaDoorCards.lean) ties it to the program's text. -/
def laid_errors_errorType {H : Type} : DataW H := .iface "internal/reflectlite.rtype" (.agg [.ptr (.lit (.string [101, 114, 114, 111, 114]))])

/-- 'bordereaulaw22.LadderFactors': WHATEVER THE INPUT: true; the input reads as it did. -/
def ladderFactorsSpec : ChangeSpec := { name := "ladderFactors", fn := fun _ => fun
  | [d] => { results := [.lit (.bool true)], args := [d] }
  | _ => none }
def ladderFactorsRow : OpenClaim := { program := "ytndfgglnhkdciaadoor", sum := "390495c2a1b3d5b63b508fd28be2a2d797d6645d58b552ded4802b0bb1bb0391", func := "bordereau/bordereaulaw22.LadderFactors", spec := "ladderFactors", inPlace := ["internal/reflectlite.ValueOf", "(internal/reflectlite.Value).Type", "(internal/reflectlite.Value).IsNil", "internal/reflectlite.TypeOf", "(internal/reflectlite.Value).Elem", "(internal/reflectlite.Value).Set"], unfollowed := true, recurses := true, named := ["math/bits.divideError", "math/bits.overflowError", "errors.errorType"], apart := false, laid := [("errors.errorType", laid_errors_errorType)] }
def LadderFactorsSaid : Prop := ladderFactorsRow.holds Tryd.pinned (OpenSpec.ofChange ladderFactorsSpec)

/-- ITS FALSE NEIGHBOUR: 'it returns false'. Refute it at one input. -/
def ladderFactorsWrong : ChangeSpec := { name := "ladderFactors", fn := fun _ => fun
  | [d] => { results := [.lit (.bool false)], args := [d] }
  | _ => none }
def LadderFactorsWrongFalsely : Prop := ladderFactorsRow.holds Tryd.pinned (OpenSpec.ofChange ladderFactorsWrong)

/-- 'bordereaulaw22.LadderTells': WHATEVER THE INPUT: true; the input reads as it did. -/
def ladderTellsSpec : ChangeSpec := { name := "ladderTells", fn := fun _ => fun
  | [d] => { results := [.lit (.bool true)], args := [d] }
  | _ => none }
def ladderTellsRow : OpenClaim := { program := "ytndfgglnhkdciaadoor", sum := "390495c2a1b3d5b63b508fd28be2a2d797d6645d58b552ded4802b0bb1bb0391", func := "bordereau/bordereaulaw22.LadderTells", spec := "ladderTells", inPlace := ["internal/reflectlite.ValueOf", "(internal/reflectlite.Value).Type", "(internal/reflectlite.Value).IsNil", "internal/reflectlite.TypeOf", "(internal/reflectlite.Value).Elem", "(internal/reflectlite.Value).Set"], unfollowed := true, recurses := true, named := ["math/bits.divideError", "math/bits.overflowError", "errors.errorType"], apart := false, laid := [("errors.errorType", laid_errors_errorType)] }
def LadderTellsSaid : Prop := ladderTellsRow.holds Tryd.pinned (OpenSpec.ofChange ladderTellsSpec)

/-- ITS FALSE NEIGHBOUR: 'it returns false'. Refute it at one input. -/
def ladderTellsWrong : ChangeSpec := { name := "ladderTells", fn := fun _ => fun
  | [d] => { results := [.lit (.bool false)], args := [d] }
  | _ => none }
def LadderTellsWrongFalsely : Prop := ladderTellsRow.holds Tryd.pinned (OpenSpec.ofChange ladderTellsWrong)

/-- 'bordereaulaw22.LadderFirst': WHATEVER THE INPUT: true; the input reads as it did. -/
def ladderFirstSpec : ChangeSpec := { name := "ladderFirst", fn := fun _ => fun
  | [d] => { results := [.lit (.bool true)], args := [d] }
  | _ => none }
def ladderFirstRow : OpenClaim := { program := "ytndfgglnhkdciaadoor", sum := "390495c2a1b3d5b63b508fd28be2a2d797d6645d58b552ded4802b0bb1bb0391", func := "bordereau/bordereaulaw22.LadderFirst", spec := "ladderFirst", inPlace := ["internal/reflectlite.ValueOf", "(internal/reflectlite.Value).Type", "(internal/reflectlite.Value).IsNil", "internal/reflectlite.TypeOf", "(internal/reflectlite.Value).Elem", "(internal/reflectlite.Value).Set"], unfollowed := true, recurses := true, named := ["math/bits.divideError", "math/bits.overflowError", "errors.errorType"], apart := false, laid := [("errors.errorType", laid_errors_errorType)] }
def LadderFirstSaid : Prop := ladderFirstRow.holds Tryd.pinned (OpenSpec.ofChange ladderFirstSpec)

/-- ITS FALSE NEIGHBOUR: 'it returns false'. Refute it at one input. -/
def ladderFirstWrong : ChangeSpec := { name := "ladderFirst", fn := fun _ => fun
  | [d] => { results := [.lit (.bool false)], args := [d] }
  | _ => none }
def LadderFirstWrongFalsely : Prop := ladderFirstRow.holds Tryd.pinned (OpenSpec.ofChange ladderFirstWrong)

/-- 'bordereaulaw22.LadderAlike': WHATEVER THE INPUT: true; the input reads as it did. -/
def ladderAlikeSpec : ChangeSpec := { name := "ladderAlike", fn := fun _ => fun
  | [d1, d2] => { results := [.lit (.bool true)], args := [d1, d2] }
  | _ => none }
def ladderAlikeRow : OpenClaim := { program := "ytndfgglnhkdciaadoor", sum := "390495c2a1b3d5b63b508fd28be2a2d797d6645d58b552ded4802b0bb1bb0391", func := "bordereau/bordereaulaw22.LadderAlike", spec := "ladderAlike", inPlace := ["internal/reflectlite.ValueOf", "(internal/reflectlite.Value).Type", "(internal/reflectlite.Value).IsNil", "internal/reflectlite.TypeOf", "(internal/reflectlite.Value).Elem", "(internal/reflectlite.Value).Set"], unfollowed := true, recurses := true, named := ["math/bits.divideError", "math/bits.overflowError", "errors.errorType"], apart := false, laid := [("errors.errorType", laid_errors_errorType)] }
def LadderAlikeSaid : Prop := ladderAlikeRow.holds Tryd.pinned (OpenSpec.ofChange ladderAlikeSpec)

/-- ITS FALSE NEIGHBOUR: 'it returns false'. Refute it at one input. -/
def ladderAlikeWrong : ChangeSpec := { name := "ladderAlike", fn := fun _ => fun
  | [d1, d2] => { results := [.lit (.bool false)], args := [d1, d2] }
  | _ => none }
def LadderAlikeWrongFalsely : Prop := ladderAlikeRow.holds Tryd.pinned (OpenSpec.ofChange ladderAlikeWrong)

/-- 'bordereaulaw22.LadderRises': WHATEVER THE INPUT: true; the input reads as it did. -/
def ladderRisesSpec : ChangeSpec := { name := "ladderRises", fn := fun _ => fun
  | [d] => { results := [.lit (.bool true)], args := [d] }
  | _ => none }
def ladderRisesRow : OpenClaim := { program := "ytndfgglnhkdciaadoor", sum := "390495c2a1b3d5b63b508fd28be2a2d797d6645d58b552ded4802b0bb1bb0391", func := "bordereau/bordereaulaw22.LadderRises", spec := "ladderRises", inPlace := ["internal/reflectlite.ValueOf", "(internal/reflectlite.Value).Type", "(internal/reflectlite.Value).IsNil", "internal/reflectlite.TypeOf", "(internal/reflectlite.Value).Elem", "(internal/reflectlite.Value).Set"], unfollowed := true, recurses := true, named := ["math/bits.divideError", "math/bits.overflowError", "errors.errorType"], apart := false, laid := [("errors.errorType", laid_errors_errorType)] }
def LadderRisesSaid : Prop := ladderRisesRow.holds Tryd.pinned (OpenSpec.ofChange ladderRisesSpec)

/-- ITS FALSE NEIGHBOUR: 'it returns false'. Refute it at one input. -/
def ladderRisesWrong : ChangeSpec := { name := "ladderRises", fn := fun _ => fun
  | [d] => { results := [.lit (.bool false)], args := [d] }
  | _ => none }
def LadderRisesWrongFalsely : Prop := ladderRisesRow.holds Tryd.pinned (OpenSpec.ofChange ladderRisesWrong)

/-- 'bordereaulaw22.LadderStill': WHATEVER THE INPUT: true; the input reads as it did. -/
def ladderStillSpec : ChangeSpec := { name := "ladderStill", fn := fun _ => fun
  | [d] => { results := [.lit (.bool true)], args := [d] }
  | _ => none }
def ladderStillRow : OpenClaim := { program := "ytndfgglnhkdciaadoor", sum := "390495c2a1b3d5b63b508fd28be2a2d797d6645d58b552ded4802b0bb1bb0391", func := "bordereau/bordereaulaw22.LadderStill", spec := "ladderStill", inPlace := ["internal/reflectlite.ValueOf", "(internal/reflectlite.Value).Type", "(internal/reflectlite.Value).IsNil", "internal/reflectlite.TypeOf", "(internal/reflectlite.Value).Elem", "(internal/reflectlite.Value).Set"], unfollowed := true, recurses := true, named := ["math/bits.divideError", "math/bits.overflowError", "errors.errorType"], apart := false, laid := [("errors.errorType", laid_errors_errorType)] }
def LadderStillSaid : Prop := ladderStillRow.holds Tryd.pinned (OpenSpec.ofChange ladderStillSpec)

/-- ITS FALSE NEIGHBOUR: 'it returns false'. Refute it at one input. -/
def ladderStillWrong : ChangeSpec := { name := "ladderStill", fn := fun _ => fun
  | [d] => { results := [.lit (.bool false)], args := [d] }
  | _ => none }
def LadderStillWrongFalsely : Prop := ladderStillRow.holds Tryd.pinned (OpenSpec.ofChange ladderStillWrong)

/- THE SECOND FORM. 'bulk': how many values and letters a reading holds, each counted each time it is reached (what is shared counts as often as it is met; a slice's spare places count too). A statement '..UptoSaid' is the law's where the arguments, and the package variables that the reading takes, are together of bulk at most 1048576: NARROWER than '..Said'. Prove '..Said' where nothing that the law and all that it calls make is longer than what came in: it says more and counts as full. Else prove '..UptoSaid'. A law counts once. -/
mutual
def uptoBulk {H : Type} : DataW H → Nat
  | .lit (.string bytes) => bytes.length + 1
  | .lit _ => 1
  | .nil => 1
  | .ptr d => uptoBulk d + 1
  | .slice elems spare => uptoBulkAll elems + uptoBulkAll spare + 1
  | .agg parts => uptoBulkAll parts + 1
  | .iface _ d => uptoBulk d + 1
  | .map entries => uptoBulkEntries entries + 1
  | .held _ => 1
def uptoBulkAll {H : Type} : List (DataW H) → Nat
  | [] => 0
  | d :: r => uptoBulk d + uptoBulkAll r
def uptoBulkEntries {H : Type} : List (Lit × DataW H) → Nat
  | [] => 0
  | x :: r => uptoBulkEntry x + uptoBulkEntries r
def uptoBulkEntry {H : Type} : Lit × DataW H → Nat
  | (.string bytes, d) => bytes.length + uptoBulk d + 1
  | (_, d) => uptoBulk d + 1
 end
def uptoSmall : (H : Type) → List (DataW H) → Bool := fun _ ds => decide (uptoBulkAll ds ≤ 1048576)
def OpenSpec.upto (s : _root_.Go.ChangeSpec) : _root_.Go.OpenSpec := { _root_.Go.OpenSpec.ofChange s with cond := some uptoSmall }

/-- 'bordereaulaw22.LadderFactors', WHERE WHAT IT READS IS OF BULK AT MOST 1048576: true; the input reads as it did. -/
def ladderFactorsUptoRow : OpenClaim := { program := "ytndfgglnhkdciaadoor", sum := "390495c2a1b3d5b63b508fd28be2a2d797d6645d58b552ded4802b0bb1bb0391", func := "bordereau/bordereaulaw22.LadderFactors", spec := "ladderFactors", inPlace := ["internal/reflectlite.ValueOf", "(internal/reflectlite.Value).Type", "(internal/reflectlite.Value).IsNil", "internal/reflectlite.TypeOf", "(internal/reflectlite.Value).Elem", "(internal/reflectlite.Value).Set"], unfollowed := true, recurses := true, named := ["math/bits.divideError", "math/bits.overflowError", "errors.errorType"], apart := false, laid := [("errors.errorType", laid_errors_errorType)], narrowed := true }
def LadderFactorsUptoSaid : Prop := ladderFactorsUptoRow.holds Tryd.pinned (OpenSpec.upto ladderFactorsSpec)

/-- 'bordereaulaw22.LadderTells', WHERE WHAT IT READS IS OF BULK AT MOST 1048576: true; the input reads as it did. -/
def ladderTellsUptoRow : OpenClaim := { program := "ytndfgglnhkdciaadoor", sum := "390495c2a1b3d5b63b508fd28be2a2d797d6645d58b552ded4802b0bb1bb0391", func := "bordereau/bordereaulaw22.LadderTells", spec := "ladderTells", inPlace := ["internal/reflectlite.ValueOf", "(internal/reflectlite.Value).Type", "(internal/reflectlite.Value).IsNil", "internal/reflectlite.TypeOf", "(internal/reflectlite.Value).Elem", "(internal/reflectlite.Value).Set"], unfollowed := true, recurses := true, named := ["math/bits.divideError", "math/bits.overflowError", "errors.errorType"], apart := false, laid := [("errors.errorType", laid_errors_errorType)], narrowed := true }
def LadderTellsUptoSaid : Prop := ladderTellsUptoRow.holds Tryd.pinned (OpenSpec.upto ladderTellsSpec)

/-- 'bordereaulaw22.LadderFirst', WHERE WHAT IT READS IS OF BULK AT MOST 1048576: true; the input reads as it did. -/
def ladderFirstUptoRow : OpenClaim := { program := "ytndfgglnhkdciaadoor", sum := "390495c2a1b3d5b63b508fd28be2a2d797d6645d58b552ded4802b0bb1bb0391", func := "bordereau/bordereaulaw22.LadderFirst", spec := "ladderFirst", inPlace := ["internal/reflectlite.ValueOf", "(internal/reflectlite.Value).Type", "(internal/reflectlite.Value).IsNil", "internal/reflectlite.TypeOf", "(internal/reflectlite.Value).Elem", "(internal/reflectlite.Value).Set"], unfollowed := true, recurses := true, named := ["math/bits.divideError", "math/bits.overflowError", "errors.errorType"], apart := false, laid := [("errors.errorType", laid_errors_errorType)], narrowed := true }
def LadderFirstUptoSaid : Prop := ladderFirstUptoRow.holds Tryd.pinned (OpenSpec.upto ladderFirstSpec)

/-- 'bordereaulaw22.LadderAlike', WHERE WHAT IT READS IS OF BULK AT MOST 1048576: true; the input reads as it did. -/
def ladderAlikeUptoRow : OpenClaim := { program := "ytndfgglnhkdciaadoor", sum := "390495c2a1b3d5b63b508fd28be2a2d797d6645d58b552ded4802b0bb1bb0391", func := "bordereau/bordereaulaw22.LadderAlike", spec := "ladderAlike", inPlace := ["internal/reflectlite.ValueOf", "(internal/reflectlite.Value).Type", "(internal/reflectlite.Value).IsNil", "internal/reflectlite.TypeOf", "(internal/reflectlite.Value).Elem", "(internal/reflectlite.Value).Set"], unfollowed := true, recurses := true, named := ["math/bits.divideError", "math/bits.overflowError", "errors.errorType"], apart := false, laid := [("errors.errorType", laid_errors_errorType)], narrowed := true }
def LadderAlikeUptoSaid : Prop := ladderAlikeUptoRow.holds Tryd.pinned (OpenSpec.upto ladderAlikeSpec)

/-- 'bordereaulaw22.LadderRises', WHERE WHAT IT READS IS OF BULK AT MOST 1048576: true; the input reads as it did. -/
def ladderRisesUptoRow : OpenClaim := { program := "ytndfgglnhkdciaadoor", sum := "390495c2a1b3d5b63b508fd28be2a2d797d6645d58b552ded4802b0bb1bb0391", func := "bordereau/bordereaulaw22.LadderRises", spec := "ladderRises", inPlace := ["internal/reflectlite.ValueOf", "(internal/reflectlite.Value).Type", "(internal/reflectlite.Value).IsNil", "internal/reflectlite.TypeOf", "(internal/reflectlite.Value).Elem", "(internal/reflectlite.Value).Set"], unfollowed := true, recurses := true, named := ["math/bits.divideError", "math/bits.overflowError", "errors.errorType"], apart := false, laid := [("errors.errorType", laid_errors_errorType)], narrowed := true }
def LadderRisesUptoSaid : Prop := ladderRisesUptoRow.holds Tryd.pinned (OpenSpec.upto ladderRisesSpec)

/-- 'bordereaulaw22.LadderStill', WHERE WHAT IT READS IS OF BULK AT MOST 1048576: true; the input reads as it did. -/
def ladderStillUptoRow : OpenClaim := { program := "ytndfgglnhkdciaadoor", sum := "390495c2a1b3d5b63b508fd28be2a2d797d6645d58b552ded4802b0bb1bb0391", func := "bordereau/bordereaulaw22.LadderStill", spec := "ladderStill", inPlace := ["internal/reflectlite.ValueOf", "(internal/reflectlite.Value).Type", "(internal/reflectlite.Value).IsNil", "internal/reflectlite.TypeOf", "(internal/reflectlite.Value).Elem", "(internal/reflectlite.Value).Set"], unfollowed := true, recurses := true, named := ["math/bits.divideError", "math/bits.overflowError", "errors.errorType"], apart := false, laid := [("errors.errorType", laid_errors_errorType)], narrowed := true }
def LadderStillUptoSaid : Prop := ladderStillUptoRow.holds Tryd.pinned (OpenSpec.upto ladderStillSpec)

end Rows
end Go.Proofs.YtndfgglnhkdciaaDoor
