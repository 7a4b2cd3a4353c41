/- TopJoins' rest up to its loop, computed: case 0, the middle piece. -/
import Derived.Test.YthcalfeoejdcgaaGreatDoorZ36
import Derived.KernelRfl
namespace Go.Proofs.YthcalfeoejdcgaaGreatDoor
open Go.RowKit Go.RowKit
set_option linter.unusedSimpArgs false
set_option linter.unusedVariables false

theorem run6b_0 : lookL jLB0 (rpre (R6 0) 208 5 (cdrop 4 (rest2 Tryz.f6.body)) jLA0.tm jLA0.st) = jLB0.want := by kernel_rfl
end Go.Proofs.YthcalfeoejdcgaaGreatDoor
