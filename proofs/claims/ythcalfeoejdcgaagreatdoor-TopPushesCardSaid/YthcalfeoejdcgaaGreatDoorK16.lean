import Derived.Test.YthcalfeoejdcgaaGreatDoorK15
import Derived.KernelRfl
namespace Go.Proofs.YthcalfeoejdcgaaGreatDoor
open Go.RowKit
theorem Yhq :Yds c35 [2,3,16,19]=true:=by kernel_rfl
theorem yy6 :Yds yhy [2,3,16,19,20]=true:=by kernel_rfl
end Go.Proofs.YthcalfeoejdcgaaGreatDoor
