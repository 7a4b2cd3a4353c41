import Derived.Test.YthcalfeoejdcgaaGreatDoorV19
import Derived.KernelRfl
namespace Go.Proofs.YthcalfeoejdcgaaGreatDoor
open Go.RowKit
theorem two274c : all2 c274 [12, 13, 18] = true := by kernel_rfl
end Go.Proofs.YthcalfeoejdcgaaGreatDoor
