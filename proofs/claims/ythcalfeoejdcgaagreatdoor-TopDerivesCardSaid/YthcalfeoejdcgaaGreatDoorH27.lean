import Derived.Test.YthcalfeoejdcgaaGreatDoorH17
import Derived.KernelRfl
namespace Go.Proofs.YthcalfeoejdcgaaGreatDoor
set_option linter.unusedSimpArgs false
set_option linter.unusedVariables false
open Go.RowKit
theorem two274c : all2 c274 [12, 13, 18] = true := by kernel_rfl
end Go.Proofs.YthcalfeoejdcgaaGreatDoor
