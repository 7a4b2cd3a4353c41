/- TopRanks: what the program forces, whole. -/
import Derived.Test.YthcalfeoejdcgaaGreatDoorRows
import Derived.KernelRfl
import Derived.ProofKit
import Derived.OpenShut
import Derived.Deep.DeepHandedRow
import Derived.Test.YthcalfeoejdcgaaGreatDoorR25
import Derived.Test.YthcalfeoejdcgaaGreatDoorR26
import Derived.Test.YthcalfeoejdcgaaGreatDoorR27
import Derived.Test.YthcalfeoejdcgaaGreatDoorR28
namespace Go.Proofs.YthcalfeoejdcgaaGreatDoor
section
open Go.RowKit
set_option linter.unusedSimpArgs false
set_option linter.unusedVariables false

theorem tranks_closed : joinedFacts Tryz.pinned.checked.prog 8 Tryz.f8 (OpenSpec.ofChange Rows.topRanksSpec).bare Rows.topRanksRow = true := by
  unfold joinedFacts
  simp only [Bool.and_eq_true]
  repeat' apply And.intro
  iterate 9 (· kernel_rfl)
  · exact tranks_inPlace
  · exact tranks_unfollowed
  · exact tranks_recurses
  · exact tranks_named
  all_goals kernel_rfl
theorem tranks_name : Tryz.pinned.checked.prog.funcNamed Rows.topRanksRow.func = some 8 := by kernel_rfl
theorem tranks_inst : Tryz.f8.isInstance Tryz.pinned.checked.prog Rows.topRanksRow.origin Rows.topRanksRow.targs := of_decide_eq_true (by kernel_rfl)
theorem tranks_wrap : Tryz.f8.isWrapper Tryz.pinned.checked.prog Rows.topRanksRow.wrapper Rows.topRanksRow.mainSum := by
  unfold Func.isWrapper; first | (rw [if_pos (by decide +kernel)]; kernel_rfl) | (rw [if_neg (by decide +kernel)]; exact ⟨rfl, rfl⟩)
end
end Go.Proofs.YthcalfeoejdcgaaGreatDoor
