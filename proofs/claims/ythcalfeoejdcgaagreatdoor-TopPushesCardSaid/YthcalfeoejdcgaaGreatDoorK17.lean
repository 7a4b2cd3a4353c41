import Derived.Test.YthcalfeoejdcgaaGreatDoorK15
import Derived.KernelRfl
namespace Go.Proofs.YthcalfeoejdcgaaGreatDoor
open Go.RowKit
theorem Ya5 :ynd c35 [4,5,6,7,8,9,14,15]=true:=by kernel_rfl
end Go.Proofs.YthcalfeoejdcgaaGreatDoor
