import Derived.Test.YthcalfeoejdcgaaGreatDoorRows
import Derived.KernelRfl
import Derived.ProofKit
namespace Go.Proofs.YthcalfeoejdcgaaGreatDoor
open Go.RowKit
theorem ycv :(Rows.topPushesRow.unfollowed==Tryz.prog.unfollowed 4)=true:=by kernel_rfl
end Go.Proofs.YthcalfeoejdcgaaGreatDoor
