import Derived.Test.YthcalfeoejdcgaaGreatDoorV19
import Derived.KernelRfl
namespace Go.Proofs.YthcalfeoejdcgaaGreatDoor
open Go.RowKit
theorem zql : all3 c274 [⟨0, false⟩, ⟨0, true⟩] = true := by kernel_rfl
end Go.Proofs.YthcalfeoejdcgaaGreatDoor
