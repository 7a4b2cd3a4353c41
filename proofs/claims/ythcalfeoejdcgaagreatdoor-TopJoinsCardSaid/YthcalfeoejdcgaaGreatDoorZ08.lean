/- The program: the sanity check known(), computed. -/
import Derived.KernelRfl
import Derived.Test.YthcalfeoejdcgaaGreatDoorZ07
namespace Go.Proofs.YthcalfeoejdcgaaGreatDoor
section
open Go.RowKit Go.RowKit
set_option linter.unusedSimpArgs false
set_option linter.unusedVariables false

noncomputable def xT2 : Tbl := { xT with sp := fun f => cond (Nat.beq f 36) (some ans36.sp) none }
theorem xT2_ok (E : Ev) : xT2.Ok E Tryz.prog := ⟨(xT_ok E).ty, (xT_ok E).fn, (xT_ok E).eqs, (xT_ok E).mixed, (xT_ok E).ex, (xT_ok E).hint, (xT_ok E).hlen⟩
theorem xSp2_ok (E : Ev) : SpOk E Tryz.prog xT2 := fun f g hf args s v s' hx D ρ w args' h hr => by
  obtain ⟨h1, h2⟩ := of_cond hf
  have h1 := Nat.eq_of_beq_eq_true h1
  subst h1
  cases h2
  exact ans_ok ans36_ok (xR_ok E 1000) hx h hr
noncomputable def xR2 (n : Nat) : Rn := rn xT2 (adraw xT2) n
theorem xR2_ok (E : Ev) (n : Nat) : CallOk E Tryz.prog (xR2 n) := (rn_ok (xT2_ok E) (adraw_ok (xT2_ok E)) (xSp2_ok E) n).2
def isT : Option (Value × ASt) → Bool | some (.bool true, _) => true | _ => false
theorem run13 : isT ((xR2 1000).call 13 [] s0) = true := by kernel_rfl
end
end Go.Proofs.YthcalfeoejdcgaaGreatDoor
