import Derived.Test.YthcalfeoejdcgaaGreatDoorV19
import Derived.KernelRfl
namespace Go.Proofs.YthcalfeoejdcgaaGreatDoor
open Go.RowKit
theorem two274b : all2 c274 [10, 11] = true := by kernel_rfl
end Go.Proofs.YthcalfeoejdcgaaGreatDoor
