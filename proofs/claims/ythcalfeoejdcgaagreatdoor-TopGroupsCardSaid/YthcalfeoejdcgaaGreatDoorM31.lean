/- TopGroups: what the program forces, whole. -/
import Derived.Test.YthcalfeoejdcgaaGreatDoorRows
import Derived.KernelRfl
import Derived.ProofKit
import Derived.OpenShut
import Derived.Deep.DeepHandedRow
import Derived.Test.YthcalfeoejdcgaaGreatDoorM27
import Derived.Test.YthcalfeoejdcgaaGreatDoorM28
import Derived.Test.YthcalfeoejdcgaaGreatDoorM29
import Derived.Test.YthcalfeoejdcgaaGreatDoorM30
namespace Go.Proofs.YthcalfeoejdcgaaGreatDoor
section
open Go.RowKit
set_option linter.unusedSimpArgs false
set_option linter.unusedVariables false

theorem tg_closed : joinedFacts Tryz.pinned.checked.prog 7 Tryz.f7 (OpenSpec.ofChange Rows.topGroupsSpec).bare Rows.topGroupsRow = true := by
  unfold joinedFacts
  simp only [Bool.and_eq_true]
  repeat' apply And.intro
  iterate 9 (· kernel_rfl)
  · exact tg_inPlace
  · exact tg_unfollowed
  · exact tg_recurses
  · exact tg_named
  all_goals kernel_rfl
theorem tg_name : Tryz.pinned.checked.prog.funcNamed Rows.topGroupsRow.func = some 7 := by kernel_rfl
theorem tg_inst : Tryz.f7.isInstance Tryz.pinned.checked.prog Rows.topGroupsRow.origin Rows.topGroupsRow.targs := of_decide_eq_true (by kernel_rfl)
theorem tg_wrap : Tryz.f7.isWrapper Tryz.pinned.checked.prog Rows.topGroupsRow.wrapper Rows.topGroupsRow.mainSum := by
  unfold Func.isWrapper; first | (rw [if_pos (by decide +kernel)]; kernel_rfl) | (rw [if_neg (by decide +kernel)]; exact ⟨rfl, rfl⟩)
end
end Go.Proofs.YthcalfeoejdcgaaGreatDoor
