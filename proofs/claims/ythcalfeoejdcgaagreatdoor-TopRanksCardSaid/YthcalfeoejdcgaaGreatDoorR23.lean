/- TopRanks' rest up to its loop, computed: case 2. -/
import Derived.KernelRfl
import Derived.Test.YthcalfeoejdcgaaGreatDoorR09
namespace Go.Proofs.YthcalfeoejdcgaaGreatDoor
section
open Go.RowKit Go.RowKit
set_option linter.unusedSimpArgs false
set_option linter.unusedVariables false

theorem run8_2 : qchk (rpre (R8 2) 157 6 (rest2 Tryz.f8.body) tmF8 sF) (endR 2) = true := by kernel_rfl
end
end Go.Proofs.YthcalfeoejdcgaaGreatDoor
