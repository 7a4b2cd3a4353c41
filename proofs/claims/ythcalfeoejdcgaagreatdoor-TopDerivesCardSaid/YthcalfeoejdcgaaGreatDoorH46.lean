import Derived.Test.YthcalfeoejdcgaaGreatDoorRows
import Derived.Test.YthcalfeoejdcgaaGreatDoorH42
import Derived.Test.YthcalfeoejdcgaaGreatDoorH43
import Derived.Test.YthcalfeoejdcgaaGreatDoorH44
import Derived.Test.YthcalfeoejdcgaaGreatDoorH45
import Derived.KernelRfl
import Derived.ProofKit
import Derived.OpenShut
import Derived.Deep.DeepHandedRow
namespace Go.Proofs.YthcalfeoejdcgaaGreatDoor
set_option linter.unusedSimpArgs false
set_option linter.unusedVariables false
open Go.RowKit
theorem tderives_closed : joinedFacts Tryz.pinned.checked.prog 3 Tryz.f3 (OpenSpec.ofChange Rows.topDerivesSpec).bare Rows.topDerivesRow = true := by
  unfold joinedFacts
  simp only [Bool.and_eq_true]
  repeat' apply And.intro
  iterate 9 (· kernel_rfl)
  · exact tderives_inPlace
  · exact tderives_unfollowed
  · exact tderives_recurses
  · exact tderives_named
  all_goals kernel_rfl
theorem tderives_name : Tryz.pinned.checked.prog.funcNamed Rows.topDerivesRow.func = some 3 := by kernel_rfl
theorem tderives_inst : Tryz.f3.isInstance Tryz.pinned.checked.prog Rows.topDerivesRow.origin Rows.topDerivesRow.targs := of_decide_eq_true (by kernel_rfl)
theorem tderives_wrap : Tryz.f3.isWrapper Tryz.pinned.checked.prog Rows.topDerivesRow.wrapper Rows.topDerivesRow.mainSum := by
  unfold Func.isWrapper; first | (rw [if_pos (by decide +kernel)]; kernel_rfl) | (rw [if_neg (by decide +kernel)]; exact ⟨rfl, rfl⟩)
end Go.Proofs.YthcalfeoejdcgaaGreatDoor
