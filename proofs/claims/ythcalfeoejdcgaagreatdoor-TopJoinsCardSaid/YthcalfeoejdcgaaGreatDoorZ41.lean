/- TopJoins' rest up to its loop, computed: case 1, the middle piece. -/
import Derived.Test.YthcalfeoejdcgaaGreatDoorZ36
import Derived.KernelRfl
namespace Go.Proofs.YthcalfeoejdcgaaGreatDoor
open Go.RowKit Go.RowKit
set_option linter.unusedSimpArgs false
set_option linter.unusedVariables false

theorem run6b_1 : lookL jLB1 (rpre (R6 1) 208 5 (cdrop 4 (rest2 Tryz.f6.body)) jLA1.tm jLA1.st) = jLB1.want := by kernel_rfl
end Go.Proofs.YthcalfeoejdcgaaGreatDoor
