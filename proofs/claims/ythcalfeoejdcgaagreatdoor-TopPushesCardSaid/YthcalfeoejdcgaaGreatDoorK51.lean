import Derived.Test.YthcalfeoejdcgaaGreatDoorK00
import Derived.Test.YthcalfeoejdcgaaGreatDoorRows
import Derived.Test.YthcalfeoejdcgaaGreatDoorK47
import Derived.Test.YthcalfeoejdcgaaGreatDoorK48
import Derived.Test.YthcalfeoejdcgaaGreatDoorK49
import Derived.Test.YthcalfeoejdcgaaGreatDoorK50
import Derived.KernelRfl
import Derived.ProofKit
import Derived.OpenShut
import Derived.Deep.DeepHandedRow
namespace Go.Proofs.YthcalfeoejdcgaaGreatDoor
set_option linter.unusedSimpArgs false
set_option linter.unusedVariables false
set_option maxRecDepth 100000
set_option maxHeartbeats 20000000
open Go.RowKit
theorem yeb :joinedFacts Tryz.pinned.checked.prog 4 Tryz.f4 (OpenSpec.ofChange Rows.topPushesSpec).bare Rows.topPushesRow=true:=by
 unfold joinedFacts
 simp only [Bool.and_eq_true]
 repeat' apply And.intro
 iterate 9 (· kernel_rfl)
 ·exact ydz
 ·exact ycv
 ·exact yda
 ·exact ye0
 all_goals kernel_rfl
theorem yfs :Tryz.pinned.checked.prog.funcNamed Rows.topPushesRow.func=some 4:=by kernel_rfl
theorem yfr :Tryz.f4.isInstance Tryz.pinned.checked.prog Rows.topPushesRow.origin Rows.topPushesRow.targs:=of_decide_eq_true qG
theorem yft :Tryz.f4.isWrapper Tryz.pinned.checked.prog Rows.topPushesRow.wrapper Rows.topPushesRow.mainSum:=by
 unfold Func.isWrapper;first |(rw [if_pos (by decide+kernel)];kernel_rfl)|(rw [if_neg (by decide+kernel)];exact ⟨rfl,rfl⟩)
end Go.Proofs.YthcalfeoejdcgaaGreatDoor
