/- TopGroups: what the program forces: recurses. -/
import Derived.Test.YthcalfeoejdcgaaGreatDoorRows
import Derived.KernelRfl
import Derived.ProofKit
namespace Go.Proofs.YthcalfeoejdcgaaGreatDoor
section
open Go.RowKit
set_option linter.unusedSimpArgs false
set_option linter.unusedVariables false

theorem tg_recurses : (Rows.topGroupsRow.recurses == Tryz.prog.recurses 7) = true := by kernel_rfl
end
end Go.Proofs.YthcalfeoejdcgaaGreatDoor
