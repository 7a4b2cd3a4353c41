import Derived.Test.YthcalfeoejdcgaaGreatDoorK15
import Derived.KernelRfl
namespace Go.Proofs.YthcalfeoejdcgaaGreatDoor
open Go.RowKit
theorem Ya6 :ynd c35 [10,11]=true:=by kernel_rfl
end Go.Proofs.YthcalfeoejdcgaaGreatDoor
