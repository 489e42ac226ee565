/-
  No cell of these rows narrows 'for every input' (looked for: loops, veiled, ifaces, maps, wideKeys, modest, calm, conditions, laid).
  DERIVED. THE GIVEN ROWS OF THIS SEAT. 9 by the template 'for every input the law returns true; each argument reads behind the call as it read before'; 0 by the template 'total and deterministic' (their statements: YtbkpflgceppkdaaTotals.lean).
  GIVEN WITH THE SEED: the statements are not yours to turn. If you find one false, say at which input.
  Laid BY PROGRAM, IN A SANDBOX (cutbox-rows.mjs): the forced cells as the released guide's own fill.sh prints them over the translation 0a1cba931188798d… (all of the seat's roots in one cut). By AI agents, Wed Nov 11 2026. No macro, syntax, notation, axiom, sorry.
-/
import Derived.Test.YtbkpflgceppkdaaChecked
import GoSem.Claim
import GoSem.ClaimJoined
import GoSem.ClaimMapViews
import Derived.JoinedTies
import Derived.KernelRfl
namespace Go.Proofs.Ytbkpflgceppkdaa
/- THE CELL 'sum', in the pinned program and in every row, IS THE sha256 OF THE DUMP (.gsa) THAT YtbkpflgceppkdaaProg.lean LOADS. Nothing in Lean hashes anything: it is a label: what it is worth is what the hold of that sum in a sandbox is worth. -/
noncomputable def Try.pinned : Pinned := { name := "ytbkpflgceppkdaa", sum := "0a1cba931188798d27e4944cf93cb35254a31f73e920057c042102983997c670", checked := Try.checked }
namespace Rows
def none {H : Type} : Left H := { results := [], args := [] }

/-- 'bordereaulaw02.DayNumbers': WHATEVER THE INPUT: true; the input reads as it did. -/
def dayNumbersSpec : ChangeSpec := { name := "dayNumbers", fn := fun _ => fun
  | [d] => { results := [.lit (.bool true)], args := [d] }
  | _ => none }
def dayNumbersRow : OpenClaim := { program := "ytbkpflgceppkdaa", sum := "0a1cba931188798d27e4944cf93cb35254a31f73e920057c042102983997c670", func := "bordereau/bordereaulaw02.DayNumbers", spec := "dayNumbers", apart := false }
def DayNumbersSaid : Prop := dayNumbersRow.holds Try.pinned (OpenSpec.ofChange dayNumbersSpec)

/-- ITS FALSE NEIGHBOUR: 'it returns false'. Refute it at one input. -/
def dayNumbersWrong : ChangeSpec := { name := "dayNumbers", fn := fun _ => fun
  | [d] => { results := [.lit (.bool false)], args := [d] }
  | _ => none }
def DayNumbersWrongFalsely : Prop := dayNumbersRow.holds Try.pinned (OpenSpec.ofChange dayNumbersWrong)

/-- 'bordereaulaw02.DayShifts': WHATEVER THE INPUT: true; the input reads as it did. -/
def dayShiftsSpec : ChangeSpec := { name := "dayShifts", fn := fun _ => fun
  | [d1, d2] => { results := [.lit (.bool true)], args := [d1, d2] }
  | _ => none }
def dayShiftsRow : OpenClaim := { program := "ytbkpflgceppkdaa", sum := "0a1cba931188798d27e4944cf93cb35254a31f73e920057c042102983997c670", func := "bordereau/bordereaulaw02.DayShifts", spec := "dayShifts", apart := false }
def DayShiftsSaid : Prop := dayShiftsRow.holds Try.pinned (OpenSpec.ofChange dayShiftsSpec)

/-- ITS FALSE NEIGHBOUR: 'it returns false'. Refute it at one input. -/
def dayShiftsWrong : ChangeSpec := { name := "dayShifts", fn := fun _ => fun
  | [d1, d2] => { results := [.lit (.bool false)], args := [d1, d2] }
  | _ => none }
def DayShiftsWrongFalsely : Prop := dayShiftsRow.holds Try.pinned (OpenSpec.ofChange dayShiftsWrong)

/-- 'bordereaulaw02.DayBack': WHATEVER THE INPUT: true; the input reads as it did. -/
def dayBackSpec : ChangeSpec := { name := "dayBack", fn := fun _ => fun
  | [d1, d2] => { results := [.lit (.bool true)], args := [d1, d2] }
  | _ => none }
def dayBackRow : OpenClaim := { program := "ytbkpflgceppkdaa", sum := "0a1cba931188798d27e4944cf93cb35254a31f73e920057c042102983997c670", func := "bordereau/bordereaulaw02.DayBack", spec := "dayBack", apart := false }
def DayBackSaid : Prop := dayBackRow.holds Try.pinned (OpenSpec.ofChange dayBackSpec)

/-- ITS FALSE NEIGHBOUR: 'it returns false'. Refute it at one input. -/
def dayBackWrong : ChangeSpec := { name := "dayBack", fn := fun _ => fun
  | [d1, d2] => { results := [.lit (.bool false)], args := [d1, d2] }
  | _ => none }
def DayBackWrongFalsely : Prop := dayBackRow.holds Try.pinned (OpenSpec.ofChange dayBackWrong)

/-- 'bordereaulaw02.DayNext': WHATEVER THE INPUT: true; the input reads as it did. -/
def dayNextSpec : ChangeSpec := { name := "dayNext", fn := fun _ => fun
  | [d] => { results := [.lit (.bool true)], args := [d] }
  | _ => none }
def dayNextRow : OpenClaim := { program := "ytbkpflgceppkdaa", sum := "0a1cba931188798d27e4944cf93cb35254a31f73e920057c042102983997c670", func := "bordereau/bordereaulaw02.DayNext", spec := "dayNext", apart := false }
def DayNextSaid : Prop := dayNextRow.holds Try.pinned (OpenSpec.ofChange dayNextSpec)

/-- ITS FALSE NEIGHBOUR: 'it returns false'. Refute it at one input. -/
def dayNextWrong : ChangeSpec := { name := "dayNext", fn := fun _ => fun
  | [d] => { results := [.lit (.bool false)], args := [d] }
  | _ => none }
def DayNextWrongFalsely : Prop := dayNextRow.holds Try.pinned (OpenSpec.ofChange dayNextWrong)

/-- 'bordereaulaw02.DayOrder': WHATEVER THE INPUT: true; the input reads as it did. -/
def dayOrderSpec : ChangeSpec := { name := "dayOrder", fn := fun _ => fun
  | [d1, d2] => { results := [.lit (.bool true)], args := [d1, d2] }
  | _ => none }
def dayOrderRow : OpenClaim := { program := "ytbkpflgceppkdaa", sum := "0a1cba931188798d27e4944cf93cb35254a31f73e920057c042102983997c670", func := "bordereau/bordereaulaw02.DayOrder", spec := "dayOrder", apart := false }
def DayOrderSaid : Prop := dayOrderRow.holds Try.pinned (OpenSpec.ofChange dayOrderSpec)

/-- ITS FALSE NEIGHBOUR: 'it returns false'. Refute it at one input. -/
def dayOrderWrong : ChangeSpec := { name := "dayOrder", fn := fun _ => fun
  | [d1, d2] => { results := [.lit (.bool false)], args := [d1, d2] }
  | _ => none }
def DayOrderWrongFalsely : Prop := dayOrderRow.holds Try.pinned (OpenSpec.ofChange dayOrderWrong)

/-- 'bordereaulaw02.DayCycle': WHATEVER THE INPUT: true; the input reads as it did. -/
def dayCycleSpec : ChangeSpec := { name := "dayCycle", fn := fun _ => fun
  | [d] => { results := [.lit (.bool true)], args := [d] }
  | _ => none }
def dayCycleRow : OpenClaim := { program := "ytbkpflgceppkdaa", sum := "0a1cba931188798d27e4944cf93cb35254a31f73e920057c042102983997c670", func := "bordereau/bordereaulaw02.DayCycle", spec := "dayCycle", apart := false }
def DayCycleSaid : Prop := dayCycleRow.holds Try.pinned (OpenSpec.ofChange dayCycleSpec)

/-- ITS FALSE NEIGHBOUR: 'it returns false'. Refute it at one input. -/
def dayCycleWrong : ChangeSpec := { name := "dayCycle", fn := fun _ => fun
  | [d] => { results := [.lit (.bool false)], args := [d] }
  | _ => none }
def DayCycleWrongFalsely : Prop := dayCycleRow.holds Try.pinned (OpenSpec.ofChange dayCycleWrong)

/-- 'bordereaulaw02.DayMonths': WHATEVER THE INPUT: true; the input reads as it did. -/
def dayMonthsSpec : ChangeSpec := { name := "dayMonths", fn := fun _ => fun
  | [d1, d2, d3, d4] => { results := [.lit (.bool true)], args := [d1, d2, d3, d4] }
  | _ => none }
def dayMonthsRow : OpenClaim := { program := "ytbkpflgceppkdaa", sum := "0a1cba931188798d27e4944cf93cb35254a31f73e920057c042102983997c670", func := "bordereau/bordereaulaw02.DayMonths", spec := "dayMonths", apart := false }
def DayMonthsSaid : Prop := dayMonthsRow.holds Try.pinned (OpenSpec.ofChange dayMonthsSpec)

/-- ITS FALSE NEIGHBOUR: 'it returns false'. Refute it at one input. -/
def dayMonthsWrong : ChangeSpec := { name := "dayMonths", fn := fun _ => fun
  | [d1, d2, d3, d4] => { results := [.lit (.bool false)], args := [d1, d2, d3, d4] }
  | _ => none }
def DayMonthsWrongFalsely : Prop := dayMonthsRow.holds Try.pinned (OpenSpec.ofChange dayMonthsWrong)

/-- 'bordereaulaw02.DayTells': WHATEVER THE INPUT: true; the input reads as it did. -/
def dayTellsSpec : ChangeSpec := { name := "dayTells", fn := fun _ => fun
  | [d1, d2] => { results := [.lit (.bool true)], args := [d1, d2] }
  | _ => none }
def dayTellsRow : OpenClaim := { program := "ytbkpflgceppkdaa", sum := "0a1cba931188798d27e4944cf93cb35254a31f73e920057c042102983997c670", func := "bordereau/bordereaulaw02.DayTells", spec := "dayTells", apart := false }
def DayTellsSaid : Prop := dayTellsRow.holds Try.pinned (OpenSpec.ofChange dayTellsSpec)

/-- ITS FALSE NEIGHBOUR: 'it returns false'. Refute it at one input. -/
def dayTellsWrong : ChangeSpec := { name := "dayTells", fn := fun _ => fun
  | [d1, d2] => { results := [.lit (.bool false)], args := [d1, d2] }
  | _ => none }
def DayTellsWrongFalsely : Prop := dayTellsRow.holds Try.pinned (OpenSpec.ofChange dayTellsWrong)

/-- 'bordereaulaw02.DayYears': WHATEVER THE INPUT: true; the input reads as it did. -/
def dayYearsSpec : ChangeSpec := { name := "dayYears", fn := fun _ => fun
  | [d1, d2] => { results := [.lit (.bool true)], args := [d1, d2] }
  | _ => none }
def dayYearsRow : OpenClaim := { program := "ytbkpflgceppkdaa", sum := "0a1cba931188798d27e4944cf93cb35254a31f73e920057c042102983997c670", func := "bordereau/bordereaulaw02.DayYears", spec := "dayYears", apart := false }
def DayYearsSaid : Prop := dayYearsRow.holds Try.pinned (OpenSpec.ofChange dayYearsSpec)

/-- ITS FALSE NEIGHBOUR: 'it returns false'. Refute it at one input. -/
def dayYearsWrong : ChangeSpec := { name := "dayYears", fn := fun _ => fun
  | [d1, d2] => { results := [.lit (.bool false)], args := [d1, d2] }
  | _ => none }
def DayYearsWrongFalsely : Prop := dayYearsRow.holds Try.pinned (OpenSpec.ofChange dayYearsWrong)

/- THE SECOND FORM. 'bulk': how many values and letters a reading holds, each counted each time it is reached (what is shared counts as often as it is met; a slice's spare places count too). A statement '..UptoSaid' is the law's where the arguments, and the package variables that the reading takes, are together of bulk at most 1048576: NARROWER than '..Said'. Prove '..Said' where nothing that the law and all that it calls make is longer than what came in: it says more and counts as full. Else prove '..UptoSaid'. A law counts once. -/
mutual
def uptoBulk {H : Type} : DataW H → Nat
  | .lit (.string bytes) => bytes.length + 1
  | .lit _ => 1
  | .nil => 1
  | .ptr d => uptoBulk d + 1
  | .slice elems spare => uptoBulkAll elems + uptoBulkAll spare + 1
  | .agg parts => uptoBulkAll parts + 1
  | .iface _ d => uptoBulk d + 1
  | .map entries => uptoBulkEntries entries + 1
  | .held _ => 1
def uptoBulkAll {H : Type} : List (DataW H) → Nat
  | [] => 0
  | d :: r => uptoBulk d + uptoBulkAll r
def uptoBulkEntries {H : Type} : List (Lit × DataW H) → Nat
  | [] => 0
  | x :: r => uptoBulkEntry x + uptoBulkEntries r
def uptoBulkEntry {H : Type} : Lit × DataW H → Nat
  | (.string bytes, d) => bytes.length + uptoBulk d + 1
  | (_, d) => uptoBulk d + 1
 end
def uptoSmall : (H : Type) → List (DataW H) → Bool := fun _ ds => decide (uptoBulkAll ds ≤ 1048576)
def OpenSpec.upto (s : _root_.Go.ChangeSpec) : _root_.Go.OpenSpec := { _root_.Go.OpenSpec.ofChange s with cond := some uptoSmall }

/-- 'bordereaulaw02.DayNumbers', WHERE WHAT IT READS IS OF BULK AT MOST 1048576: true; the input reads as it did. -/
def dayNumbersUptoRow : OpenClaim := { program := "ytbkpflgceppkdaa", sum := "0a1cba931188798d27e4944cf93cb35254a31f73e920057c042102983997c670", func := "bordereau/bordereaulaw02.DayNumbers", spec := "dayNumbers", apart := false, narrowed := true }
def DayNumbersUptoSaid : Prop := dayNumbersUptoRow.holds Try.pinned (OpenSpec.upto dayNumbersSpec)

/-- 'bordereaulaw02.DayShifts', WHERE WHAT IT READS IS OF BULK AT MOST 1048576: true; the input reads as it did. -/
def dayShiftsUptoRow : OpenClaim := { program := "ytbkpflgceppkdaa", sum := "0a1cba931188798d27e4944cf93cb35254a31f73e920057c042102983997c670", func := "bordereau/bordereaulaw02.DayShifts", spec := "dayShifts", apart := false, narrowed := true }
def DayShiftsUptoSaid : Prop := dayShiftsUptoRow.holds Try.pinned (OpenSpec.upto dayShiftsSpec)

/-- 'bordereaulaw02.DayBack', WHERE WHAT IT READS IS OF BULK AT MOST 1048576: true; the input reads as it did. -/
def dayBackUptoRow : OpenClaim := { program := "ytbkpflgceppkdaa", sum := "0a1cba931188798d27e4944cf93cb35254a31f73e920057c042102983997c670", func := "bordereau/bordereaulaw02.DayBack", spec := "dayBack", apart := false, narrowed := true }
def DayBackUptoSaid : Prop := dayBackUptoRow.holds Try.pinned (OpenSpec.upto dayBackSpec)

/-- 'bordereaulaw02.DayNext', WHERE WHAT IT READS IS OF BULK AT MOST 1048576: true; the input reads as it did. -/
def dayNextUptoRow : OpenClaim := { program := "ytbkpflgceppkdaa", sum := "0a1cba931188798d27e4944cf93cb35254a31f73e920057c042102983997c670", func := "bordereau/bordereaulaw02.DayNext", spec := "dayNext", apart := false, narrowed := true }
def DayNextUptoSaid : Prop := dayNextUptoRow.holds Try.pinned (OpenSpec.upto dayNextSpec)

/-- 'bordereaulaw02.DayOrder', WHERE WHAT IT READS IS OF BULK AT MOST 1048576: true; the input reads as it did. -/
def dayOrderUptoRow : OpenClaim := { program := "ytbkpflgceppkdaa", sum := "0a1cba931188798d27e4944cf93cb35254a31f73e920057c042102983997c670", func := "bordereau/bordereaulaw02.DayOrder", spec := "dayOrder", apart := false, narrowed := true }
def DayOrderUptoSaid : Prop := dayOrderUptoRow.holds Try.pinned (OpenSpec.upto dayOrderSpec)

/-- 'bordereaulaw02.DayCycle', WHERE WHAT IT READS IS OF BULK AT MOST 1048576: true; the input reads as it did. -/
def dayCycleUptoRow : OpenClaim := { program := "ytbkpflgceppkdaa", sum := "0a1cba931188798d27e4944cf93cb35254a31f73e920057c042102983997c670", func := "bordereau/bordereaulaw02.DayCycle", spec := "dayCycle", apart := false, narrowed := true }
def DayCycleUptoSaid : Prop := dayCycleUptoRow.holds Try.pinned (OpenSpec.upto dayCycleSpec)

/-- 'bordereaulaw02.DayMonths', WHERE WHAT IT READS IS OF BULK AT MOST 1048576: true; the input reads as it did. -/
def dayMonthsUptoRow : OpenClaim := { program := "ytbkpflgceppkdaa", sum := "0a1cba931188798d27e4944cf93cb35254a31f73e920057c042102983997c670", func := "bordereau/bordereaulaw02.DayMonths", spec := "dayMonths", apart := false, narrowed := true }
def DayMonthsUptoSaid : Prop := dayMonthsUptoRow.holds Try.pinned (OpenSpec.upto dayMonthsSpec)

/-- 'bordereaulaw02.DayTells', WHERE WHAT IT READS IS OF BULK AT MOST 1048576: true; the input reads as it did. -/
def dayTellsUptoRow : OpenClaim := { program := "ytbkpflgceppkdaa", sum := "0a1cba931188798d27e4944cf93cb35254a31f73e920057c042102983997c670", func := "bordereau/bordereaulaw02.DayTells", spec := "dayTells", apart := false, narrowed := true }
def DayTellsUptoSaid : Prop := dayTellsUptoRow.holds Try.pinned (OpenSpec.upto dayTellsSpec)

/-- 'bordereaulaw02.DayYears', WHERE WHAT IT READS IS OF BULK AT MOST 1048576: true; the input reads as it did. -/
def dayYearsUptoRow : OpenClaim := { program := "ytbkpflgceppkdaa", sum := "0a1cba931188798d27e4944cf93cb35254a31f73e920057c042102983997c670", func := "bordereau/bordereaulaw02.DayYears", spec := "dayYears", apart := false, narrowed := true }
def DayYearsUptoSaid : Prop := dayYearsUptoRow.holds Try.pinned (OpenSpec.upto dayYearsSpec)

end Rows
end Go.Proofs.Ytbkpflgceppkdaa
