/-
  DERIVED. GIVEN WITH THE SEED: THE PROGRAM's TIES (one call each: nine closed facts by the kernel) AND EACH ROW's TIE, after the 31st guide's Derived/Test/Toyas{Tie, Card}.lean. No idea stands in it: it is a product of the set-up. Laid BY PROGRAM, IN A SANDBOX (cutbox-door.mjs). By AI agents, Wed Nov 11 2026. No macro, syntax, notation, axiom, sorry.
-/
import Derived.Test.YthcalfeoejdcgaaGreatDoorRows
import Derived.LaidByTextLater
import Derived.SevenTiedAt
import Derived.LaidSub
import Derived.LaidOnce
namespace Go.Proofs.YthcalfeoejdcgaaGreatDoor
open Go
set_option maxRecDepth 100000
theorem seatTie1 : Tryz.prog.laidByTextLater [("warehouse/civil.lengths", Rows.laid_warehouse_civil_lengths), ("warehouse/token.words", Rows.laid_warehouse_token_words), ("warehouse/token.symbols", Rows.laid_warehouse_token_symbols), ("warehouse/query.used", Rows.laid_warehouse_query_used)] [.data, .widerDeep, .widerDeep, .data] true :=
  Program.laidByTextLater_by_one 42 8 66 (by kernel_rfl) (by kernel_rfl) (by kernel_rfl) (by kernel_rfl) (by kernel_rfl) (by kernel_rfl) (fun _ _ => by kernel_rfl)
theorem noOwnUnsafe : Tryz.pinned.checked.prog.headLifts.contains "ownunsafe" = false := by kernel_rfl
theorem tie : Tryz.prog.laidByTextLater [("warehouse/civil.lengths", Rows.laid_warehouse_civil_lengths), ("warehouse/token.words", Rows.laid_warehouse_token_words), ("warehouse/token.symbols", Rows.laid_warehouse_token_symbols), ("warehouse/query.used", Rows.laid_warehouse_query_used)] [.data, .widerDeep, .widerDeep, .data] true :=
  Program.laidByTextLater.sub seatTie1 ["warehouse/civil.lengths", "warehouse/token.words", "warehouse/token.symbols", "warehouse/query.used"] (by kernel_rfl) (by kernel_rfl)
theorem topDerives_row_tie : Rows.topDerivesRow.laidByTextAt .later Tryz.pinned [.data, .widerDeep, .widerDeep, .data] true :=
  OpenClaim.laidByTextAt_later rfl rfl tie noOwnUnsafe
theorem topPushes_row_tie : Rows.topPushesRow.laidByTextAt .later Tryz.pinned [.data, .widerDeep, .widerDeep, .data] true :=
  OpenClaim.laidByTextAt_later rfl rfl tie noOwnUnsafe
theorem topUnions_row_tie : Rows.topUnionsRow.laidByTextAt .later Tryz.pinned [.data, .widerDeep, .widerDeep, .data] true :=
  OpenClaim.laidByTextAt_later rfl rfl tie noOwnUnsafe
theorem topJoins_row_tie : Rows.topJoinsRow.laidByTextAt .later Tryz.pinned [.data, .widerDeep, .widerDeep, .data] true :=
  OpenClaim.laidByTextAt_later rfl rfl tie noOwnUnsafe
theorem topGroups_row_tie : Rows.topGroupsRow.laidByTextAt .later Tryz.pinned [.data, .widerDeep, .widerDeep, .data] true :=
  OpenClaim.laidByTextAt_later rfl rfl tie noOwnUnsafe
theorem topRanks_row_tie : Rows.topRanksRow.laidByTextAt .later Tryz.pinned [.data, .widerDeep, .widerDeep, .data] true :=
  OpenClaim.laidByTextAt_later rfl rfl tie noOwnUnsafe
theorem topDerivesUpto_row_tie : Rows.topDerivesUptoRow.laidByTextAt .later Tryz.pinned [.data, .widerDeep, .widerDeep, .data] true :=
  OpenClaim.laidByTextAt_later rfl rfl tie noOwnUnsafe
theorem topPushesUpto_row_tie : Rows.topPushesUptoRow.laidByTextAt .later Tryz.pinned [.data, .widerDeep, .widerDeep, .data] true :=
  OpenClaim.laidByTextAt_later rfl rfl tie noOwnUnsafe
theorem topUnionsUpto_row_tie : Rows.topUnionsUptoRow.laidByTextAt .later Tryz.pinned [.data, .widerDeep, .widerDeep, .data] true :=
  OpenClaim.laidByTextAt_later rfl rfl tie noOwnUnsafe
theorem topJoinsUpto_row_tie : Rows.topJoinsUptoRow.laidByTextAt .later Tryz.pinned [.data, .widerDeep, .widerDeep, .data] true :=
  OpenClaim.laidByTextAt_later rfl rfl tie noOwnUnsafe
theorem topGroupsUpto_row_tie : Rows.topGroupsUptoRow.laidByTextAt .later Tryz.pinned [.data, .widerDeep, .widerDeep, .data] true :=
  OpenClaim.laidByTextAt_later rfl rfl tie noOwnUnsafe
theorem topRanksUpto_row_tie : Rows.topRanksUptoRow.laidByTextAt .later Tryz.pinned [.data, .widerDeep, .widerDeep, .data] true :=
  OpenClaim.laidByTextAt_later rfl rfl tie noOwnUnsafe
end Go.Proofs.YthcalfeoejdcgaaGreatDoor
