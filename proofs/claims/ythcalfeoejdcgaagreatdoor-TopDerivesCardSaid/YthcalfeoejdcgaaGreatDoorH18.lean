import Derived.Test.YthcalfeoejdcgaaGreatDoorH17
import Derived.KernelRfl
namespace Go.Proofs.YthcalfeoejdcgaaGreatDoor
set_option linter.unusedSimpArgs false
set_option linter.unusedVariables false
open Go.RowKit
theorem one35 : all1 c35 [2, 3, 16, 19] = true := by kernel_rfl
theorem one274 : all1 c274 [2, 3, 16, 19, 20] = true := by kernel_rfl
end Go.Proofs.YthcalfeoejdcgaaGreatDoor
