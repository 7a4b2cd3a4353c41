/- TopJoins: what the program forces: inPlace. -/
import Derived.Test.YthcalfeoejdcgaaGreatDoorRows
import Derived.KernelRfl
import Derived.ProofKit
namespace Go.Proofs.YthcalfeoejdcgaaGreatDoor
open Go.RowKit
set_option linter.unusedSimpArgs false
set_option linter.unusedVariables false

theorem tjoins_inPlace : (Rows.topJoinsRow.inPlace == Tryz.prog.inPlace 6) = true := by kernel_rfl
end Go.Proofs.YthcalfeoejdcgaaGreatDoor
