import Derived.Test.YthcalfeoejdcgaaGreatDoorRows
import Derived.KernelRfl
import Derived.ProofKit
namespace Go.Proofs.YthcalfeoejdcgaaGreatDoor
open Go.RowKit
theorem ye0 :(Rows.topPushesRow.named==Tryz.prog.varsNamed 4)=true:=by kernel_rfl
end Go.Proofs.YthcalfeoejdcgaaGreatDoor
