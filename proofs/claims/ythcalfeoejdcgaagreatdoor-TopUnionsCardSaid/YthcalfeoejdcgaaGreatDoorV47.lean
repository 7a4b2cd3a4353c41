import Derived.Test.YthcalfeoejdcgaaGreatDoorRows
import Derived.KernelRfl
import Derived.ProofKit
import Derived.Test.YthcalfeoejdcgaaGreatDoorV00
namespace Go.Proofs.YthcalfeoejdcgaaGreatDoor
open Go.RowKit
theorem zep : (Rows.topUnionsRow.unfollowed == Tryz.prog.unfollowed 5) = true := by kernel_rfl
end Go.Proofs.YthcalfeoejdcgaaGreatDoor
