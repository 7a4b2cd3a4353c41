import Derived.Test.YthcalfeoejdcgaaGreatDoorH17
import Derived.KernelRfl
namespace Go.Proofs.YthcalfeoejdcgaaGreatDoor
set_option linter.unusedSimpArgs false
set_option linter.unusedVariables false
open Go.RowKit
theorem two35b : all2 c35 [10, 11] = true := by kernel_rfl
end Go.Proofs.YthcalfeoejdcgaaGreatDoor
