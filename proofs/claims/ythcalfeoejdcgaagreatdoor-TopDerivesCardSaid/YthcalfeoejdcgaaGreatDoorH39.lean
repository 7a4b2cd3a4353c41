import Derived.Test.YthcalfeoejdcgaaGreatDoorH36
import Derived.KernelRfl
namespace Go.Proofs.YthcalfeoejdcgaaGreatDoor
set_option linter.unusedSimpArgs false
set_option linter.unusedVariables false
open Go.RowKit Go.RowKit
theorem run3_1 : endsT (T3 true) Tryz.f3.results.toList ((R3 true).code 102 (rest6 Tryz.f3.body) dL0.tm sDr) = true := by kernel_rfl
end Go.Proofs.YthcalfeoejdcgaaGreatDoor
