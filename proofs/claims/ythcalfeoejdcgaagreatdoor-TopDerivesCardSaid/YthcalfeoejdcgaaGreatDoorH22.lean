import Derived.Test.YthcalfeoejdcgaaGreatDoorH17
import Derived.KernelRfl
namespace Go.Proofs.YthcalfeoejdcgaaGreatDoor
set_option linter.unusedSimpArgs false
set_option linter.unusedVariables false
open Go.RowKit
theorem three35a : all3 c35 [⟨0, false⟩, ⟨0, true⟩] = true := by kernel_rfl
end Go.Proofs.YthcalfeoejdcgaaGreatDoor
