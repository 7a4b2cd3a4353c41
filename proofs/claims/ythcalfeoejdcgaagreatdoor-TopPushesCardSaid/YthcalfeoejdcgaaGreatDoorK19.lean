import Derived.Test.YthcalfeoejdcgaaGreatDoorK15
import Derived.KernelRfl
namespace Go.Proofs.YthcalfeoejdcgaaGreatDoor
open Go.RowKit
theorem Ya7 :ynd c35 [12,13,18]=true:=by kernel_rfl
end Go.Proofs.YthcalfeoejdcgaaGreatDoor
