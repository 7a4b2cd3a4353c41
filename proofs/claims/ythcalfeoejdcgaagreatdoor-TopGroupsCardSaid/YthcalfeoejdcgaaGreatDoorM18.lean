/- TopGroups' rest, computed: case 1 0. -/
import Derived.KernelRfl
import Derived.Test.YthcalfeoejdcgaaGreatDoorM08
namespace Go.Proofs.YthcalfeoejdcgaaGreatDoor
section
open Go.RowKit Go.RowKit
set_option linter.unusedSimpArgs false
set_option linter.unusedVariables false

theorem run7_10 : endsT (T7 1 0) Tryz.f7.results.toList ((R7 1 0).code 79 (rest2 Tryz.f7.body) tmF sF) = true := by kernel_rfl
end
end Go.Proofs.YthcalfeoejdcgaaGreatDoor
