/- TopJoins: what the program forces: recurses. -/
import Derived.Test.YthcalfeoejdcgaaGreatDoorRows
import Derived.KernelRfl
import Derived.ProofKit
namespace Go.Proofs.YthcalfeoejdcgaaGreatDoor
open Go.RowKit
set_option linter.unusedSimpArgs false
set_option linter.unusedVariables false

theorem tjoins_recurses : (Rows.topJoinsRow.recurses == Tryz.prog.recurses 6) = true := by kernel_rfl
end Go.Proofs.YthcalfeoejdcgaaGreatDoor
