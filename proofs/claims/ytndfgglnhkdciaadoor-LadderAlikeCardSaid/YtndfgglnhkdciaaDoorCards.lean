/-
  DERIVED. GIVEN WITH THE SEED: THE CARDS: each row of YtndfgglnhkdciaaDoorRows.lean that lists a variable, with what it lists TIED to the program's text (the seventh form; the later family's looks); each row that meets fmt, with fmt's text TOLD by the authors' own Lean function (tested against real Go, not proved from fmt's source: count such statements apart). THE CARD IS WHAT COUNTS. Prove the row's statement (the work); the ties are given (YtndfgglnhkdciaaDoorTie.lean); close each card by the builder's one call (the guide's Derived/Test/ToyasCard.lean, 'card_holds'). Laid BY PROGRAM, IN A SANDBOX (cutbox-door.mjs). By AI agents, Wed Nov 11 2026. No macro, syntax, notation, axiom, sorry.
-/
import Derived.Test.YtndfgglnhkdciaaDoorRows
import GoSem.ClaimSeven
namespace Go.Proofs.YtndfgglnhkdciaaDoor
namespace Rows

/-- THE TIED CARD OF 'bordereaulaw22.LadderFactors'. -/
def ladderFactorsCard : Claim7 := { stood := { row := ladderFactorsRow, standIns := [], harness := (true, "bdcda131af11127666d7c96b4cf135cd643b2f670ab3ee630936f5b9de6127d0"), looks := true }, kinds := [], alts := [], laidByText := true, laidKinds := [.handle], laidTests := true, laidLooks := .later }
def LadderFactorsCardSaid : Prop := Claim7.holds Tryd.pinned (.plain (OpenSpec.ofChange ladderFactorsSpec)) ladderFactorsCard

/-- THE TIED CARD OF 'bordereaulaw22.LadderTells'. -/
def ladderTellsCard : Claim7 := { stood := { row := ladderTellsRow, standIns := [], harness := (true, "bdcda131af11127666d7c96b4cf135cd643b2f670ab3ee630936f5b9de6127d0"), looks := true }, kinds := [], alts := [], laidByText := true, laidKinds := [.handle], laidTests := true, laidLooks := .later }
def LadderTellsCardSaid : Prop := Claim7.holds Tryd.pinned (.plain (OpenSpec.ofChange ladderTellsSpec)) ladderTellsCard

/-- THE TIED CARD OF 'bordereaulaw22.LadderFirst'. -/
def ladderFirstCard : Claim7 := { stood := { row := ladderFirstRow, standIns := [], harness := (true, "bdcda131af11127666d7c96b4cf135cd643b2f670ab3ee630936f5b9de6127d0"), looks := true }, kinds := [], alts := [], laidByText := true, laidKinds := [.handle], laidTests := true, laidLooks := .later }
def LadderFirstCardSaid : Prop := Claim7.holds Tryd.pinned (.plain (OpenSpec.ofChange ladderFirstSpec)) ladderFirstCard

/-- THE TIED CARD OF 'bordereaulaw22.LadderAlike'. -/
def ladderAlikeCard : Claim7 := { stood := { row := ladderAlikeRow, standIns := [], harness := (true, "bdcda131af11127666d7c96b4cf135cd643b2f670ab3ee630936f5b9de6127d0"), looks := true }, kinds := [], alts := [], laidByText := true, laidKinds := [.handle], laidTests := true, laidLooks := .later }
def LadderAlikeCardSaid : Prop := Claim7.holds Tryd.pinned (.plain (OpenSpec.ofChange ladderAlikeSpec)) ladderAlikeCard

/-- THE TIED CARD OF 'bordereaulaw22.LadderRises'. -/
def ladderRisesCard : Claim7 := { stood := { row := ladderRisesRow, standIns := [], harness := (true, "bdcda131af11127666d7c96b4cf135cd643b2f670ab3ee630936f5b9de6127d0"), looks := true }, kinds := [], alts := [], laidByText := true, laidKinds := [.handle], laidTests := true, laidLooks := .later }
def LadderRisesCardSaid : Prop := Claim7.holds Tryd.pinned (.plain (OpenSpec.ofChange ladderRisesSpec)) ladderRisesCard

/-- THE TIED CARD OF 'bordereaulaw22.LadderStill'. -/
def ladderStillCard : Claim7 := { stood := { row := ladderStillRow, standIns := [], harness := (true, "bdcda131af11127666d7c96b4cf135cd643b2f670ab3ee630936f5b9de6127d0"), looks := true }, kinds := [], alts := [], laidByText := true, laidKinds := [.handle], laidTests := true, laidLooks := .later }
def LadderStillCardSaid : Prop := Claim7.holds Tryd.pinned (.plain (OpenSpec.ofChange ladderStillSpec)) ladderStillCard

/-- THE SECOND FORM's CARD OF 'bordereaulaw22.LadderFactors'. -/
def ladderFactorsUptoCard : Claim7 := { stood := { row := ladderFactorsUptoRow, standIns := [], harness := (true, "bdcda131af11127666d7c96b4cf135cd643b2f670ab3ee630936f5b9de6127d0"), looks := true }, kinds := [], alts := [], laidByText := true, laidKinds := [.handle], laidTests := true, laidLooks := .later }
def LadderFactorsUptoCardSaid : Prop := Claim7.holds Tryd.pinned (.plain (OpenSpec.upto ladderFactorsSpec)) ladderFactorsUptoCard

/-- THE SECOND FORM's CARD OF 'bordereaulaw22.LadderTells'. -/
def ladderTellsUptoCard : Claim7 := { stood := { row := ladderTellsUptoRow, standIns := [], harness := (true, "bdcda131af11127666d7c96b4cf135cd643b2f670ab3ee630936f5b9de6127d0"), looks := true }, kinds := [], alts := [], laidByText := true, laidKinds := [.handle], laidTests := true, laidLooks := .later }
def LadderTellsUptoCardSaid : Prop := Claim7.holds Tryd.pinned (.plain (OpenSpec.upto ladderTellsSpec)) ladderTellsUptoCard

/-- THE SECOND FORM's CARD OF 'bordereaulaw22.LadderFirst'. -/
def ladderFirstUptoCard : Claim7 := { stood := { row := ladderFirstUptoRow, standIns := [], harness := (true, "bdcda131af11127666d7c96b4cf135cd643b2f670ab3ee630936f5b9de6127d0"), looks := true }, kinds := [], alts := [], laidByText := true, laidKinds := [.handle], laidTests := true, laidLooks := .later }
def LadderFirstUptoCardSaid : Prop := Claim7.holds Tryd.pinned (.plain (OpenSpec.upto ladderFirstSpec)) ladderFirstUptoCard

/-- THE SECOND FORM's CARD OF 'bordereaulaw22.LadderAlike'. -/
def ladderAlikeUptoCard : Claim7 := { stood := { row := ladderAlikeUptoRow, standIns := [], harness := (true, "bdcda131af11127666d7c96b4cf135cd643b2f670ab3ee630936f5b9de6127d0"), looks := true }, kinds := [], alts := [], laidByText := true, laidKinds := [.handle], laidTests := true, laidLooks := .later }
def LadderAlikeUptoCardSaid : Prop := Claim7.holds Tryd.pinned (.plain (OpenSpec.upto ladderAlikeSpec)) ladderAlikeUptoCard

/-- THE SECOND FORM's CARD OF 'bordereaulaw22.LadderRises'. -/
def ladderRisesUptoCard : Claim7 := { stood := { row := ladderRisesUptoRow, standIns := [], harness := (true, "bdcda131af11127666d7c96b4cf135cd643b2f670ab3ee630936f5b9de6127d0"), looks := true }, kinds := [], alts := [], laidByText := true, laidKinds := [.handle], laidTests := true, laidLooks := .later }
def LadderRisesUptoCardSaid : Prop := Claim7.holds Tryd.pinned (.plain (OpenSpec.upto ladderRisesSpec)) ladderRisesUptoCard

/-- THE SECOND FORM's CARD OF 'bordereaulaw22.LadderStill'. -/
def ladderStillUptoCard : Claim7 := { stood := { row := ladderStillUptoRow, standIns := [], harness := (true, "bdcda131af11127666d7c96b4cf135cd643b2f670ab3ee630936f5b9de6127d0"), looks := true }, kinds := [], alts := [], laidByText := true, laidKinds := [.handle], laidTests := true, laidLooks := .later }
def LadderStillUptoCardSaid : Prop := Claim7.holds Tryd.pinned (.plain (OpenSpec.upto ladderStillSpec)) ladderStillUptoCard
end Rows
end Go.Proofs.YtndfgglnhkdciaaDoor
