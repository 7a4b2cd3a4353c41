import Derived.Test.YthcalfeoejdcgaaGreatDoorV19
import Derived.KernelRfl
namespace Go.Proofs.YthcalfeoejdcgaaGreatDoor
open Go.RowKit
theorem two35b : all2 c35 [10, 11] = true := by kernel_rfl
end Go.Proofs.YthcalfeoejdcgaaGreatDoor
