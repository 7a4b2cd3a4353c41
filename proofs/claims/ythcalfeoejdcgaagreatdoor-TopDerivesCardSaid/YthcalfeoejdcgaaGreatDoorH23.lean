import Derived.Test.YthcalfeoejdcgaaGreatDoorH17
import Derived.KernelRfl
namespace Go.Proofs.YthcalfeoejdcgaaGreatDoor
set_option linter.unusedSimpArgs false
set_option linter.unusedVariables false
open Go.RowKit
theorem three35b : all3 c35 [⟨1, false⟩, ⟨1, true⟩] = true := by kernel_rfl
end Go.Proofs.YthcalfeoejdcgaaGreatDoor
