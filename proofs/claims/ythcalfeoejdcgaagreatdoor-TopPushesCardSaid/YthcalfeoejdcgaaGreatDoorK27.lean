import Derived.Test.YthcalfeoejdcgaaGreatDoorK15
import Derived.KernelRfl
namespace Go.Proofs.YthcalfeoejdcgaaGreatDoor
open Go.RowKit
theorem zqm :yq2 yhy [⟨1,false⟩,⟨1,true⟩]=true:=by kernel_rfl
end Go.Proofs.YthcalfeoejdcgaaGreatDoor
