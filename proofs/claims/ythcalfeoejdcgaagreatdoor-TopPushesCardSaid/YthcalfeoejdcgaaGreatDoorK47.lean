import Derived.Test.YthcalfeoejdcgaaGreatDoorRows
import Derived.KernelRfl
import Derived.ProofKit
namespace Go.Proofs.YthcalfeoejdcgaaGreatDoor
open Go.RowKit
theorem ydz :(Rows.topPushesRow.inPlace==Tryz.prog.inPlace 4)=true:=by kernel_rfl
end Go.Proofs.YthcalfeoejdcgaaGreatDoor
