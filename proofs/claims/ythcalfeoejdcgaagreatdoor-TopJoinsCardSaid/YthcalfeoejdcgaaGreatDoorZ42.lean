/- TopJoins' rest up to its loop, computed: case 2, the middle piece. -/
import Derived.Test.YthcalfeoejdcgaaGreatDoorZ36
import Derived.KernelRfl
namespace Go.Proofs.YthcalfeoejdcgaaGreatDoor
open Go.RowKit Go.RowKit
set_option linter.unusedSimpArgs false
set_option linter.unusedVariables false

theorem run6b_2 : lookL jLB2 (rpre (R6 2) 208 5 (cdrop 4 (rest2 Tryz.f6.body)) jLA2.tm jLA2.st) = jLB2.want := by kernel_rfl
end Go.Proofs.YthcalfeoejdcgaaGreatDoor
