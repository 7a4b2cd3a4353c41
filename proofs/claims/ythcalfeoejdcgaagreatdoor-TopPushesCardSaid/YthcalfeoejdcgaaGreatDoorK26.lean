import Derived.Test.YthcalfeoejdcgaaGreatDoorK15
import Derived.KernelRfl
namespace Go.Proofs.YthcalfeoejdcgaaGreatDoor
open Go.RowKit
theorem zql :yq2 yhy [⟨0,false⟩,⟨0,true⟩]=true:=by kernel_rfl
end Go.Proofs.YthcalfeoejdcgaaGreatDoor
