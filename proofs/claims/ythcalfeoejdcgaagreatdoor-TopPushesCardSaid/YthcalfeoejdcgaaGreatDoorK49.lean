import Derived.Test.YthcalfeoejdcgaaGreatDoorRows
import Derived.KernelRfl
import Derived.ProofKit
namespace Go.Proofs.YthcalfeoejdcgaaGreatDoor
open Go.RowKit
theorem yda :(Rows.topPushesRow.recurses==Tryz.prog.recurses 4)=true:=by kernel_rfl
end Go.Proofs.YthcalfeoejdcgaaGreatDoor
