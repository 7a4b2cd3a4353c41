import Derived.Test.YthcalfeoejdcgaaGreatDoorV19
import Derived.KernelRfl
namespace Go.Proofs.YthcalfeoejdcgaaGreatDoor
open Go.RowKit
theorem two35c : all2 c35 [12, 13, 18] = true := by kernel_rfl
end Go.Proofs.YthcalfeoejdcgaaGreatDoor
