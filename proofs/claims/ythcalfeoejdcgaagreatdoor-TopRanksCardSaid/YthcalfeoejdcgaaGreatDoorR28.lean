/- TopRanks: what the program forces: named. -/
import Derived.Test.YthcalfeoejdcgaaGreatDoorRows
import Derived.KernelRfl
import Derived.ProofKit
namespace Go.Proofs.YthcalfeoejdcgaaGreatDoor
section
open Go.RowKit
set_option linter.unusedSimpArgs false
set_option linter.unusedVariables false

theorem tranks_named : (Rows.topRanksRow.named == Tryz.prog.varsNamed 8) = true := by kernel_rfl
end
end Go.Proofs.YthcalfeoejdcgaaGreatDoor
