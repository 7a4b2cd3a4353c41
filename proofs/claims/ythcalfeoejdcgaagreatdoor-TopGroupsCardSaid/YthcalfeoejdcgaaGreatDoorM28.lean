/- TopGroups: what the program forces: unfollowed. -/
import Derived.Test.YthcalfeoejdcgaaGreatDoorRows
import Derived.KernelRfl
import Derived.ProofKit
namespace Go.Proofs.YthcalfeoejdcgaaGreatDoor
section
open Go.RowKit
set_option linter.unusedSimpArgs false
set_option linter.unusedVariables false

theorem tg_unfollowed : (Rows.topGroupsRow.unfollowed == Tryz.prog.unfollowed 7) = true := by kernel_rfl
end
end Go.Proofs.YthcalfeoejdcgaaGreatDoor
