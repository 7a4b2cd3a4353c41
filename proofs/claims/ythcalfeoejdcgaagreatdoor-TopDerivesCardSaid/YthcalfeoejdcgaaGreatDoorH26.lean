import Derived.Test.YthcalfeoejdcgaaGreatDoorH17
import Derived.KernelRfl
namespace Go.Proofs.YthcalfeoejdcgaaGreatDoor
set_option linter.unusedSimpArgs false
set_option linter.unusedVariables false
open Go.RowKit
theorem two274b : all2 c274 [10, 11] = true := by kernel_rfl
end Go.Proofs.YthcalfeoejdcgaaGreatDoor
