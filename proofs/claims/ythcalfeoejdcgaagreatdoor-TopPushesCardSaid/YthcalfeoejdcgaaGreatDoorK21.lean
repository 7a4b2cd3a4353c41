import Derived.Test.YthcalfeoejdcgaaGreatDoorK15
import Derived.KernelRfl
namespace Go.Proofs.YthcalfeoejdcgaaGreatDoor
open Go.RowKit
theorem ylp :yq2 c35 [⟨1,false⟩,⟨1,true⟩]=true:=by kernel_rfl
end Go.Proofs.YthcalfeoejdcgaaGreatDoor
