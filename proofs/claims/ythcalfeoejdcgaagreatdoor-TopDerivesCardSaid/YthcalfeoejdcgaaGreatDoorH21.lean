import Derived.Test.YthcalfeoejdcgaaGreatDoorH17
import Derived.KernelRfl
namespace Go.Proofs.YthcalfeoejdcgaaGreatDoor
set_option linter.unusedSimpArgs false
set_option linter.unusedVariables false
open Go.RowKit
theorem two35c : all2 c35 [12, 13, 18] = true := by kernel_rfl
end Go.Proofs.YthcalfeoejdcgaaGreatDoor
