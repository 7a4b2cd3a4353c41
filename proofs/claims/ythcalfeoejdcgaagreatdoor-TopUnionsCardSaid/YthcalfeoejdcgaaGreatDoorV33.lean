import Derived.Test.YthcalfeoejdcgaaGreatDoorV19
import Derived.KernelRfl
namespace Go.Proofs.YthcalfeoejdcgaaGreatDoor
open Go.RowKit
theorem zqm : all3 c274 [⟨1, false⟩, ⟨1, true⟩] = true := by kernel_rfl
end Go.Proofs.YthcalfeoejdcgaaGreatDoor
