import Derived.Test.YthcalfeoejdcgaaGreatDoorV37
import Derived.KernelRfl
namespace Go.Proofs.YthcalfeoejdcgaaGreatDoor
open Go.RowKit Go.RowKit
theorem run5_0 : endsT (T5 0) Tryz.f5.results.toList ((R5 0).code 106 (rest2 (some (rest2 Tryz.f5.body))) uL1.tm sU) = true := by kernel_rfl
end Go.Proofs.YthcalfeoejdcgaaGreatDoor
