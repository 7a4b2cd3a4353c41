/- TopRanks: what the program forces: inPlace. -/
import Derived.Test.YthcalfeoejdcgaaGreatDoorRows
import Derived.KernelRfl
import Derived.ProofKit
namespace Go.Proofs.YthcalfeoejdcgaaGreatDoor
section
open Go.RowKit
set_option linter.unusedSimpArgs false
set_option linter.unusedVariables false

theorem tranks_inPlace : (Rows.topRanksRow.inPlace == Tryz.prog.inPlace 8) = true := by kernel_rfl
end
end Go.Proofs.YthcalfeoejdcgaaGreatDoor
