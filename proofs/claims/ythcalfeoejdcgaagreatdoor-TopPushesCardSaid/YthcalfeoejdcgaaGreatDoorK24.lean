import Derived.Test.YthcalfeoejdcgaaGreatDoorK15
import Derived.KernelRfl
namespace Go.Proofs.YthcalfeoejdcgaaGreatDoor
open Go.RowKit
theorem yp5 :ynd yhy [10,11]=true:=by kernel_rfl
end Go.Proofs.YthcalfeoejdcgaaGreatDoor
