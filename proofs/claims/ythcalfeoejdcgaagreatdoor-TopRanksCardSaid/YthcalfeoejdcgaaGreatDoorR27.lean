/- TopRanks: what the program forces: recurses. -/
import Derived.Test.YthcalfeoejdcgaaGreatDoorRows
import Derived.KernelRfl
import Derived.ProofKit
namespace Go.Proofs.YthcalfeoejdcgaaGreatDoor
section
open Go.RowKit
set_option linter.unusedSimpArgs false
set_option linter.unusedVariables false

theorem tranks_recurses : (Rows.topRanksRow.recurses == Tryz.prog.recurses 8) = true := by kernel_rfl
end
end Go.Proofs.YthcalfeoejdcgaaGreatDoor
