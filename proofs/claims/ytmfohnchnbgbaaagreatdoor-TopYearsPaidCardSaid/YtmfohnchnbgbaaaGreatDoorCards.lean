/-
  DERIVED. GIVEN WITH THE SEED: THE CARDS: each row of YtmfohnchnbgbaaaGreatDoorRows.lean that lists a variable, with what it lists TIED to the program's text (the seventh form; the later family's looks); each row that meets fmt, with fmt's text TOLD by the authors' own Lean function (tested against real Go, not proved from fmt's source: count such statements apart). THE CARD IS WHAT COUNTS. Prove the row's statement (the work); the ties are given (YtmfohnchnbgbaaaGreatDoorTie.lean); close each card by the builder's one call (the guide's Derived/Test/ToyasCard.lean, 'card_holds'). Laid BY PROGRAM, IN A SANDBOX (cutbox-door.mjs). By AI agents, Wed Nov 11 2026. No macro, syntax, notation, axiom, sorry.
-/
import Derived.Test.YtmfohnchnbgbaaaGreatDoorRows
import GoSem.ClaimSeven
namespace Go.Proofs.YtmfohnchnbgbaaaGreatDoor
namespace Rows

/-- THE TIED CARD OF 'bordereautop.TopYearsAlike'. -/
def topYearsAlikeCard : Claim7 := { stood := { row := topYearsAlikeRow, standIns := [], harness := (true, "a762175604726eaf503e19e7344a5bfdbaefc46709ac949de9124ca253a18e26"), looks := true }, kinds := [], alts := [], laidByText := true, laidKinds := [.handle], laidTests := true, laidLooks := .later }
def TopYearsAlikeCardSaid : Prop := Claim7.holds Tryz.pinned (.plain (OpenSpec.ofChange topYearsAlikeSpec)) topYearsAlikeCard

/-- THE TIED CARD OF 'bordereautop.TopYearsPaid'. -/
def topYearsPaidCard : Claim7 := { stood := { row := topYearsPaidRow, standIns := [], harness := (true, "a762175604726eaf503e19e7344a5bfdbaefc46709ac949de9124ca253a18e26"), looks := true }, kinds := [], alts := [], laidByText := true, laidKinds := [.handle], laidTests := true, laidLooks := .later }
def TopYearsPaidCardSaid : Prop := Claim7.holds Tryz.pinned (.plain (OpenSpec.ofChange topYearsPaidSpec)) topYearsPaidCard

/-- THE SECOND FORM's CARD OF 'bordereautop.TopYearsAlike'. -/
def topYearsAlikeUptoCard : Claim7 := { stood := { row := topYearsAlikeUptoRow, standIns := [], harness := (true, "a762175604726eaf503e19e7344a5bfdbaefc46709ac949de9124ca253a18e26"), looks := true }, kinds := [], alts := [], laidByText := true, laidKinds := [.handle], laidTests := true, laidLooks := .later }
def TopYearsAlikeUptoCardSaid : Prop := Claim7.holds Tryz.pinned (.plain (OpenSpec.upto topYearsAlikeSpec)) topYearsAlikeUptoCard

/-- THE SECOND FORM's CARD OF 'bordereautop.TopYearsPaid'. -/
def topYearsPaidUptoCard : Claim7 := { stood := { row := topYearsPaidUptoRow, standIns := [], harness := (true, "a762175604726eaf503e19e7344a5bfdbaefc46709ac949de9124ca253a18e26"), looks := true }, kinds := [], alts := [], laidByText := true, laidKinds := [.handle], laidTests := true, laidLooks := .later }
def TopYearsPaidUptoCardSaid : Prop := Claim7.holds Tryz.pinned (.plain (OpenSpec.upto topYearsPaidSpec)) topYearsPaidUptoCard
end Rows
end Go.Proofs.YtmfohnchnbgbaaaGreatDoor
