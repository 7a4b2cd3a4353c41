/- TopGroups' rest, computed: case 2 1. -/
import Derived.KernelRfl
import Derived.Test.YthcalfeoejdcgaaGreatDoorM08
namespace Go.Proofs.YthcalfeoejdcgaaGreatDoor
section
open Go.RowKit Go.RowKit
set_option linter.unusedSimpArgs false
set_option linter.unusedVariables false

theorem run7_21 : endsT (T7 2 1) Tryz.f7.results.toList ((R7 2 1).code 79 (rest2 Tryz.f7.body) tmF sF) = true := by kernel_rfl
end
end Go.Proofs.YthcalfeoejdcgaaGreatDoor
