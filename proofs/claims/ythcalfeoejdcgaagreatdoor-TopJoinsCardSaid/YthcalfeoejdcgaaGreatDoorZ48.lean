/- TopJoins: what the program forces, whole. -/
import Derived.Test.YthcalfeoejdcgaaGreatDoorRows
import Derived.Test.YthcalfeoejdcgaaGreatDoorZ44
import Derived.Test.YthcalfeoejdcgaaGreatDoorZ45
import Derived.Test.YthcalfeoejdcgaaGreatDoorZ46
import Derived.Test.YthcalfeoejdcgaaGreatDoorZ47
import Derived.KernelRfl
import Derived.ProofKit
import Derived.OpenShut
import Derived.Deep.DeepHandedRow
namespace Go.Proofs.YthcalfeoejdcgaaGreatDoor
open Go.RowKit
set_option linter.unusedSimpArgs false
set_option linter.unusedVariables false

theorem tjoins_closed : joinedFacts Tryz.pinned.checked.prog 6 Tryz.f6 (OpenSpec.ofChange Rows.topJoinsSpec).bare Rows.topJoinsRow = true := by
  unfold joinedFacts
  simp only [Bool.and_eq_true]
  repeat' apply And.intro
  iterate 9 (· kernel_rfl)
  · exact tjoins_inPlace
  · exact tjoins_unfollowed
  · exact tjoins_recurses
  · exact tjoins_named
  all_goals kernel_rfl
theorem tjoins_name : Tryz.pinned.checked.prog.funcNamed Rows.topJoinsRow.func = some 6 := by kernel_rfl
theorem tjoins_inst : Tryz.f6.isInstance Tryz.pinned.checked.prog Rows.topJoinsRow.origin Rows.topJoinsRow.targs := of_decide_eq_true (by kernel_rfl)
theorem tjoins_wrap : Tryz.f6.isWrapper Tryz.pinned.checked.prog Rows.topJoinsRow.wrapper Rows.topJoinsRow.mainSum := by
  unfold Func.isWrapper; first | (rw [if_pos (by decide +kernel)]; kernel_rfl) | (rw [if_neg (by decide +kernel)]; exact ⟨rfl, rfl⟩)
end Go.Proofs.YthcalfeoejdcgaaGreatDoor
