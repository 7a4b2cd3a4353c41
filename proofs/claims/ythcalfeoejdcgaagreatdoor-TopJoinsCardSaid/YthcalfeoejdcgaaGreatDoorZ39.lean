/- TopJoins' rest up to its loop, computed: case 2, the first and the last piece. -/
import Derived.Test.YthcalfeoejdcgaaGreatDoorZ36
import Derived.KernelRfl
namespace Go.Proofs.YthcalfeoejdcgaaGreatDoor
open Go.RowKit Go.RowKit
set_option linter.unusedSimpArgs false
set_option linter.unusedVariables false

theorem run6a_2 : lookL jLA2 (rpre (R6 2) 208 4 (rest2 Tryz.f6.body) jL0.tm sF) = jLA2.want := by kernel_rfl
theorem run6c_2 : qchk (rpre (R6 2) 208 6 (cdrop 5 (cdrop 4 (rest2 Tryz.f6.body))) jLB2.tm jLB2.st) endJ = true := by kernel_rfl
end Go.Proofs.YthcalfeoejdcgaaGreatDoor
