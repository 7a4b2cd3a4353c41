import Derived.Test.YthcalfeoejdcgaaGreatDoorRows
import Derived.Test.YthcalfeoejdcgaaGreatDoorV46
import Derived.Test.YthcalfeoejdcgaaGreatDoorV47
import Derived.Test.YthcalfeoejdcgaaGreatDoorV48
import Derived.Test.YthcalfeoejdcgaaGreatDoorV49
import Derived.KernelRfl
import Derived.ProofKit
import Derived.OpenShut
import Derived.Deep.DeepHandedRow
namespace Go.Proofs.YthcalfeoejdcgaaGreatDoor
open Go.RowKit
theorem zg0 : joinedFacts Tryz.pinned.checked.prog 5 Tryz.f5 (OpenSpec.ofChange Rows.topUnionsSpec).bare Rows.topUnionsRow = true := by
 unfold joinedFacts
 simp only [Bool.and_eq_true]
 repeat' apply And.intro
 iterate 9 (· kernel_rfl)
 . exact zgw
 . exact zep
 . exact zfg
 . exact zio
 all_goals kernel_rfl
theorem zju : Tryz.pinned.checked.prog.funcNamed Rows.topUnionsRow.func = some 5 := by kernel_rfl
theorem zjt : Tryz.f5.isInstance Tryz.pinned.checked.prog Rows.topUnionsRow.origin Rows.topUnionsRow.targs := of_decide_eq_true qG
theorem zjv : Tryz.f5.isWrapper Tryz.pinned.checked.prog Rows.topUnionsRow.wrapper Rows.topUnionsRow.mainSum := by
 unfold Func.isWrapper; first | (rw [if_pos (by decide +kernel)]; kernel_rfl) | (rw [if_neg (by decide +kernel)]; exact ⟨rfl, rfl⟩)
end Go.Proofs.YthcalfeoejdcgaaGreatDoor
