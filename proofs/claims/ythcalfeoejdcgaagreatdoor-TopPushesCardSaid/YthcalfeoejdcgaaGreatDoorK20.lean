import Derived.Test.YthcalfeoejdcgaaGreatDoorK15
import Derived.KernelRfl
namespace Go.Proofs.YthcalfeoejdcgaaGreatDoor
open Go.RowKit
theorem ylo :yq2 c35 [⟨0,false⟩,⟨0,true⟩]=true:=by kernel_rfl
end Go.Proofs.YthcalfeoejdcgaaGreatDoor
