import Derived.Test.YthcalfeoejdcgaaGreatDoorV37
import Derived.KernelRfl
namespace Go.Proofs.YthcalfeoejdcgaaGreatDoor
open Go.RowKit Go.RowKit
theorem run5_2 : endsT (T5 2) Tryz.f5.results.toList ((R5 2).code 106 (rest2 Tryz.f5.body) uL0.tm sF) = true := by kernel_rfl
end Go.Proofs.YthcalfeoejdcgaaGreatDoor
