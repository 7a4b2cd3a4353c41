/-
  DERIVED. GIVEN WITH THE SEED: THE CARDS: each row of YtiombgjkcfhibaaDoorRows.lean that lists a variable, with what it lists TIED to the program's text (the seventh form; the later family's looks); each row that meets fmt, with fmt's text TOLD by the authors' own Lean function (tested against real Go, not proved from fmt's source: count such statements apart). THE CARD IS WHAT COUNTS. Prove the row's statement (the work); the ties are given (YtiombgjkcfhibaaDoorTie.lean); close each card by the builder's one call (the guide's Derived/Test/ToyasCard.lean, 'card_holds'). Laid BY PROGRAM, IN A SANDBOX (cutbox-door.mjs). By AI agents, Wed Nov 11 2026. No macro, syntax, notation, axiom, sorry.
-/
import Derived.Test.YtiombgjkcfhibaaDoorRows
import GoSem.ClaimSeven
namespace Go.Proofs.YtiombgjkcfhibaaDoor
namespace Rows

/-- THE TIED CARD OF 'warehouselaw3.CivilDays'. -/
def civilDaysCard : Claim7 := { stood := { row := civilDaysRow, standIns := [], harness := (true, "162f1d46b1d3fcd731f221500eb774d30b6b36a05be351b64374994350d1e19f"), looks := false }, kinds := [], alts := [], laidByText := true, laidKinds := [.data], laidTests := true, laidLooks := .later }
def CivilDaysCardSaid : Prop := Claim7.holds Tryd.pinned (.plain (OpenSpec.ofChange civilDaysSpec)) civilDaysCard

/-- THE TIED CARD OF 'warehouselaw3.CivilWeeks'. -/
def civilWeeksCard : Claim7 := { stood := { row := civilWeeksRow, standIns := [], harness := (true, "162f1d46b1d3fcd731f221500eb774d30b6b36a05be351b64374994350d1e19f"), looks := false }, kinds := [], alts := [], laidByText := true, laidKinds := [.data], laidTests := true, laidLooks := .later }
def CivilWeeksCardSaid : Prop := Claim7.holds Tryd.pinned (.plain (OpenSpec.ofChange civilWeeksSpec)) civilWeeksCard

/-- THE TIED CARD OF 'warehouselaw3.CivilParses'. -/
def civilParsesCard : Claim7 := { stood := { row := civilParsesRow, standIns := [], harness := (true, "162f1d46b1d3fcd731f221500eb774d30b6b36a05be351b64374994350d1e19f"), looks := false }, kinds := [], alts := [], laidByText := true, laidKinds := [.data], laidTests := true, laidLooks := .later }
def CivilParsesCardSaid : Prop := Claim7.holds Tryd.pinned (.plain (OpenSpec.ofChange civilParsesSpec)) civilParsesCard

/-- THE TIED CARD OF 'warehouselaw3.CivilDates'. -/
def civilDatesCard : Claim7 := { stood := { row := civilDatesRow, standIns := [], harness := (true, "162f1d46b1d3fcd731f221500eb774d30b6b36a05be351b64374994350d1e19f"), looks := false }, kinds := [], alts := [], laidByText := true, laidKinds := [.data], laidTests := true, laidLooks := .later }
def CivilDatesCardSaid : Prop := Claim7.holds Tryd.pinned (.plain (OpenSpec.ofChange civilDatesSpec)) civilDatesCard

/-- THE TIED CARD OF 'warehouselaw3.CivilMonths'. -/
def civilMonthsCard : Claim7 := { stood := { row := civilMonthsRow, standIns := [], harness := (true, "162f1d46b1d3fcd731f221500eb774d30b6b36a05be351b64374994350d1e19f"), looks := false }, kinds := [], alts := [], laidByText := true, laidKinds := [.data], laidTests := true, laidLooks := .later }
def CivilMonthsCardSaid : Prop := Claim7.holds Tryd.pinned (.plain (OpenSpec.ofChange civilMonthsSpec)) civilMonthsCard

/-- THE TIED CARD OF 'warehouselaw3.CivilMoves'. -/
def civilMovesCard : Claim7 := { stood := { row := civilMovesRow, standIns := [], harness := (true, "162f1d46b1d3fcd731f221500eb774d30b6b36a05be351b64374994350d1e19f"), looks := false }, kinds := [], alts := [], laidByText := true, laidKinds := [.data], laidTests := true, laidLooks := .later }
def CivilMovesCardSaid : Prop := Claim7.holds Tryd.pinned (.plain (OpenSpec.ofChange civilMovesSpec)) civilMovesCard

/-- THE TIED CARD OF 'warehouselaw3.CivilFormats'. -/
def civilFormatsCard : Claim7 := { stood := { row := civilFormatsRow, standIns := [], harness := (true, "162f1d46b1d3fcd731f221500eb774d30b6b36a05be351b64374994350d1e19f"), looks := false }, kinds := [], alts := [], laidByText := true, laidKinds := [.data], laidTests := true, laidLooks := .later }
def CivilFormatsCardSaid : Prop := Claim7.holds Tryd.pinned (.plain (OpenSpec.ofChange civilFormatsSpec)) civilFormatsCard

/-- THE SECOND FORM's CARD OF 'warehouselaw3.CivilDays'. -/
def civilDaysUptoCard : Claim7 := { stood := { row := civilDaysUptoRow, standIns := [], harness := (true, "162f1d46b1d3fcd731f221500eb774d30b6b36a05be351b64374994350d1e19f"), looks := false }, kinds := [], alts := [], laidByText := true, laidKinds := [.data], laidTests := true, laidLooks := .later }
def CivilDaysUptoCardSaid : Prop := Claim7.holds Tryd.pinned (.plain (OpenSpec.upto civilDaysSpec)) civilDaysUptoCard

/-- THE SECOND FORM's CARD OF 'warehouselaw3.CivilWeeks'. -/
def civilWeeksUptoCard : Claim7 := { stood := { row := civilWeeksUptoRow, standIns := [], harness := (true, "162f1d46b1d3fcd731f221500eb774d30b6b36a05be351b64374994350d1e19f"), looks := false }, kinds := [], alts := [], laidByText := true, laidKinds := [.data], laidTests := true, laidLooks := .later }
def CivilWeeksUptoCardSaid : Prop := Claim7.holds Tryd.pinned (.plain (OpenSpec.upto civilWeeksSpec)) civilWeeksUptoCard

/-- THE SECOND FORM's CARD OF 'warehouselaw3.CivilParses'. -/
def civilParsesUptoCard : Claim7 := { stood := { row := civilParsesUptoRow, standIns := [], harness := (true, "162f1d46b1d3fcd731f221500eb774d30b6b36a05be351b64374994350d1e19f"), looks := false }, kinds := [], alts := [], laidByText := true, laidKinds := [.data], laidTests := true, laidLooks := .later }
def CivilParsesUptoCardSaid : Prop := Claim7.holds Tryd.pinned (.plain (OpenSpec.upto civilParsesSpec)) civilParsesUptoCard

/-- THE SECOND FORM's CARD OF 'warehouselaw3.CivilDates'. -/
def civilDatesUptoCard : Claim7 := { stood := { row := civilDatesUptoRow, standIns := [], harness := (true, "162f1d46b1d3fcd731f221500eb774d30b6b36a05be351b64374994350d1e19f"), looks := false }, kinds := [], alts := [], laidByText := true, laidKinds := [.data], laidTests := true, laidLooks := .later }
def CivilDatesUptoCardSaid : Prop := Claim7.holds Tryd.pinned (.plain (OpenSpec.upto civilDatesSpec)) civilDatesUptoCard

/-- THE SECOND FORM's CARD OF 'warehouselaw3.CivilMonths'. -/
def civilMonthsUptoCard : Claim7 := { stood := { row := civilMonthsUptoRow, standIns := [], harness := (true, "162f1d46b1d3fcd731f221500eb774d30b6b36a05be351b64374994350d1e19f"), looks := false }, kinds := [], alts := [], laidByText := true, laidKinds := [.data], laidTests := true, laidLooks := .later }
def CivilMonthsUptoCardSaid : Prop := Claim7.holds Tryd.pinned (.plain (OpenSpec.upto civilMonthsSpec)) civilMonthsUptoCard

/-- THE SECOND FORM's CARD OF 'warehouselaw3.CivilMoves'. -/
def civilMovesUptoCard : Claim7 := { stood := { row := civilMovesUptoRow, standIns := [], harness := (true, "162f1d46b1d3fcd731f221500eb774d30b6b36a05be351b64374994350d1e19f"), looks := false }, kinds := [], alts := [], laidByText := true, laidKinds := [.data], laidTests := true, laidLooks := .later }
def CivilMovesUptoCardSaid : Prop := Claim7.holds Tryd.pinned (.plain (OpenSpec.upto civilMovesSpec)) civilMovesUptoCard

/-- THE SECOND FORM's CARD OF 'warehouselaw3.CivilFormats'. -/
def civilFormatsUptoCard : Claim7 := { stood := { row := civilFormatsUptoRow, standIns := [], harness := (true, "162f1d46b1d3fcd731f221500eb774d30b6b36a05be351b64374994350d1e19f"), looks := false }, kinds := [], alts := [], laidByText := true, laidKinds := [.data], laidTests := true, laidLooks := .later }
def CivilFormatsUptoCardSaid : Prop := Claim7.holds Tryd.pinned (.plain (OpenSpec.upto civilFormatsSpec)) civilFormatsUptoCard
end Rows
end Go.Proofs.YtiombgjkcfhibaaDoor
