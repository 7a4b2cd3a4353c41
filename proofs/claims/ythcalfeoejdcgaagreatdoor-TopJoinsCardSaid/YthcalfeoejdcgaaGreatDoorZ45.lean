/- TopJoins: what the program forces: unfollowed. -/
import Derived.Test.YthcalfeoejdcgaaGreatDoorRows
import Derived.KernelRfl
import Derived.ProofKit
namespace Go.Proofs.YthcalfeoejdcgaaGreatDoor
open Go.RowKit
set_option linter.unusedSimpArgs false
set_option linter.unusedVariables false

theorem tjoins_unfollowed : (Rows.topJoinsRow.unfollowed == Tryz.prog.unfollowed 6) = true := by kernel_rfl
end Go.Proofs.YthcalfeoejdcgaaGreatDoor
