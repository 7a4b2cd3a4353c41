/-
  DERIVED. GIVEN WITH THE SEED: THE CARDS: each row of YthcalfeoejdcgaaGreatDoorRows.lean that lists a variable, with what it lists TIED to the program's text (the seventh form; the later family's looks); each row that meets fmt, with fmt's text TOLD by the authors' own Lean function (tested against real Go, not proved from fmt's source: count such statements apart). THE CARD IS WHAT COUNTS. Prove the row's statement (the work); the ties are given (YthcalfeoejdcgaaGreatDoorTie.lean); close each card by the builder's one call (the guide's Derived/Test/ToyasCard.lean, 'card_holds'). Laid BY PROGRAM, IN A SANDBOX (cutbox-door.mjs). By AI agents, Wed Nov 11 2026. No macro, syntax, notation, axiom, sorry.
-/
import Derived.Test.YthcalfeoejdcgaaGreatDoorRows
import GoSem.ClaimSeven
namespace Go.Proofs.YthcalfeoejdcgaaGreatDoor
namespace Rows

/-- THE TIED CARD OF 'warehousetop.TopDerives'. -/
def topDerivesCard : Claim7 := { stood := { row := topDerivesRow, standIns := [], harness := (true, "6b8db621587fd27698bd6c1105026c7adb1ffe33b57db1abae01c0ae17d4c636"), looks := false }, kinds := [], alts := [], laidByText := true, laidKinds := [.data, .widerDeep, .widerDeep, .data], laidTests := true, laidLooks := .later }
def TopDerivesCardSaid : Prop := Claim7.holds Tryz.pinned (.plain (OpenSpec.ofChange topDerivesSpec)) topDerivesCard

/-- THE TIED CARD OF 'warehousetop.TopPushes'. -/
def topPushesCard : Claim7 := { stood := { row := topPushesRow, standIns := [], harness := (true, "6b8db621587fd27698bd6c1105026c7adb1ffe33b57db1abae01c0ae17d4c636"), looks := false }, kinds := [], alts := [], laidByText := true, laidKinds := [.data, .widerDeep, .widerDeep, .data], laidTests := true, laidLooks := .later }
def TopPushesCardSaid : Prop := Claim7.holds Tryz.pinned (.plain (OpenSpec.ofChange topPushesSpec)) topPushesCard

/-- THE TIED CARD OF 'warehousetop.TopUnions'. -/
def topUnionsCard : Claim7 := { stood := { row := topUnionsRow, standIns := [], harness := (true, "6b8db621587fd27698bd6c1105026c7adb1ffe33b57db1abae01c0ae17d4c636"), looks := false }, kinds := [], alts := [], laidByText := true, laidKinds := [.data, .widerDeep, .widerDeep, .data], laidTests := true, laidLooks := .later }
def TopUnionsCardSaid : Prop := Claim7.holds Tryz.pinned (.plain (OpenSpec.ofChange topUnionsSpec)) topUnionsCard

/-- THE TIED CARD OF 'warehousetop.TopJoins'. -/
def topJoinsCard : Claim7 := { stood := { row := topJoinsRow, standIns := [], harness := (true, "6b8db621587fd27698bd6c1105026c7adb1ffe33b57db1abae01c0ae17d4c636"), looks := false }, kinds := [], alts := [], laidByText := true, laidKinds := [.data, .widerDeep, .widerDeep, .data], laidTests := true, laidLooks := .later }
def TopJoinsCardSaid : Prop := Claim7.holds Tryz.pinned (.plain (OpenSpec.ofChange topJoinsSpec)) topJoinsCard

/-- THE TIED CARD OF 'warehousetop.TopGroups'. -/
def topGroupsCard : Claim7 := { stood := { row := topGroupsRow, standIns := [], harness := (true, "6b8db621587fd27698bd6c1105026c7adb1ffe33b57db1abae01c0ae17d4c636"), looks := false }, kinds := [], alts := [], laidByText := true, laidKinds := [.data, .widerDeep, .widerDeep, .data], laidTests := true, laidLooks := .later }
def TopGroupsCardSaid : Prop := Claim7.holds Tryz.pinned (.plain (OpenSpec.ofChange topGroupsSpec)) topGroupsCard

/-- THE TIED CARD OF 'warehousetop.TopRanks'. -/
def topRanksCard : Claim7 := { stood := { row := topRanksRow, standIns := [], harness := (true, "6b8db621587fd27698bd6c1105026c7adb1ffe33b57db1abae01c0ae17d4c636"), looks := false }, kinds := [], alts := [], laidByText := true, laidKinds := [.data, .widerDeep, .widerDeep, .data], laidTests := true, laidLooks := .later }
def TopRanksCardSaid : Prop := Claim7.holds Tryz.pinned (.plain (OpenSpec.ofChange topRanksSpec)) topRanksCard

/-- THE SECOND FORM's CARD OF 'warehousetop.TopDerives'. -/
def topDerivesUptoCard : Claim7 := { stood := { row := topDerivesUptoRow, standIns := [], harness := (true, "6b8db621587fd27698bd6c1105026c7adb1ffe33b57db1abae01c0ae17d4c636"), looks := false }, kinds := [], alts := [], laidByText := true, laidKinds := [.data, .widerDeep, .widerDeep, .data], laidTests := true, laidLooks := .later }
def TopDerivesUptoCardSaid : Prop := Claim7.holds Tryz.pinned (.plain (OpenSpec.upto topDerivesSpec)) topDerivesUptoCard

/-- THE SECOND FORM's CARD OF 'warehousetop.TopPushes'. -/
def topPushesUptoCard : Claim7 := { stood := { row := topPushesUptoRow, standIns := [], harness := (true, "6b8db621587fd27698bd6c1105026c7adb1ffe33b57db1abae01c0ae17d4c636"), looks := false }, kinds := [], alts := [], laidByText := true, laidKinds := [.data, .widerDeep, .widerDeep, .data], laidTests := true, laidLooks := .later }
def TopPushesUptoCardSaid : Prop := Claim7.holds Tryz.pinned (.plain (OpenSpec.upto topPushesSpec)) topPushesUptoCard

/-- THE SECOND FORM's CARD OF 'warehousetop.TopUnions'. -/
def topUnionsUptoCard : Claim7 := { stood := { row := topUnionsUptoRow, standIns := [], harness := (true, "6b8db621587fd27698bd6c1105026c7adb1ffe33b57db1abae01c0ae17d4c636"), looks := false }, kinds := [], alts := [], laidByText := true, laidKinds := [.data, .widerDeep, .widerDeep, .data], laidTests := true, laidLooks := .later }
def TopUnionsUptoCardSaid : Prop := Claim7.holds Tryz.pinned (.plain (OpenSpec.upto topUnionsSpec)) topUnionsUptoCard

/-- THE SECOND FORM's CARD OF 'warehousetop.TopJoins'. -/
def topJoinsUptoCard : Claim7 := { stood := { row := topJoinsUptoRow, standIns := [], harness := (true, "6b8db621587fd27698bd6c1105026c7adb1ffe33b57db1abae01c0ae17d4c636"), looks := false }, kinds := [], alts := [], laidByText := true, laidKinds := [.data, .widerDeep, .widerDeep, .data], laidTests := true, laidLooks := .later }
def TopJoinsUptoCardSaid : Prop := Claim7.holds Tryz.pinned (.plain (OpenSpec.upto topJoinsSpec)) topJoinsUptoCard

/-- THE SECOND FORM's CARD OF 'warehousetop.TopGroups'. -/
def topGroupsUptoCard : Claim7 := { stood := { row := topGroupsUptoRow, standIns := [], harness := (true, "6b8db621587fd27698bd6c1105026c7adb1ffe33b57db1abae01c0ae17d4c636"), looks := false }, kinds := [], alts := [], laidByText := true, laidKinds := [.data, .widerDeep, .widerDeep, .data], laidTests := true, laidLooks := .later }
def TopGroupsUptoCardSaid : Prop := Claim7.holds Tryz.pinned (.plain (OpenSpec.upto topGroupsSpec)) topGroupsUptoCard

/-- THE SECOND FORM's CARD OF 'warehousetop.TopRanks'. -/
def topRanksUptoCard : Claim7 := { stood := { row := topRanksUptoRow, standIns := [], harness := (true, "6b8db621587fd27698bd6c1105026c7adb1ffe33b57db1abae01c0ae17d4c636"), looks := false }, kinds := [], alts := [], laidByText := true, laidKinds := [.data, .widerDeep, .widerDeep, .data], laidTests := true, laidLooks := .later }
def TopRanksUptoCardSaid : Prop := Claim7.holds Tryz.pinned (.plain (OpenSpec.upto topRanksSpec)) topRanksUptoCard
end Rows
end Go.Proofs.YthcalfeoejdcgaaGreatDoor
