import Derived.Test.YthcalfeoejdcgaaGreatDoorK15
import Derived.KernelRfl
namespace Go.Proofs.YthcalfeoejdcgaaGreatDoor
open Go.RowKit
theorem yp6 :ynd yhy [12,13,18]=true:=by kernel_rfl
end Go.Proofs.YthcalfeoejdcgaaGreatDoor
