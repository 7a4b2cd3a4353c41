import Derived.Test.YthcalfeoejdcgaaGreatDoorH17
import Derived.KernelRfl
namespace Go.Proofs.YthcalfeoejdcgaaGreatDoor
set_option linter.unusedSimpArgs false
set_option linter.unusedVariables false
open Go.RowKit
theorem two274a : all2 c274 [4, 5, 6, 7, 8, 9, 14, 15] = true := by kernel_rfl
end Go.Proofs.YthcalfeoejdcgaaGreatDoor
