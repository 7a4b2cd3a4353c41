/- The laws' closed examples. */ -/
import Derived.Test.YtiombgjkcfhibaaDoorParse2
namespace Go.Proofs.YtiombgjkcfhibaaDoor
open Go.RowKit
set_option linter.unusedSimpArgs false
set_option linter.unusedVariables false

theorem known_any (w : World) (hT : Tab w) : Calls Tryd.prog 12 #[] w fun e w' => e = .returned (.bool true) ∧ Below w.heap.size w w' := by
  have k1 : dayV 2026 11 16 = 20773 := by decide +kernel
  have k2 : okDate 2026 11 16 = true := by decide +kernel
  have k3 : okDate 2100 2 29 = false := by decide +kernel
  have k4 : pV (bs ⟨#[49, 57, 55, 48, 45, 48, 49, 45, 48, 50, 84, 48, 48, 58, 48, 49]⟩) = 1441 := by decide +kernel
  have k5 : pE (bs ⟨#[49, 57, 55, 48, 45, 48, 49, 45, 48, 50, 84, 48, 48, 58, 48, 49]⟩) = 0 := by decide +kernel
  have k6 : wk 0 = 3 := by decide +kernel
  go_enter Tryd.func12, Tryd.ntmps12
  go_wp2_with (first
    | (go_at_call 10; refine (daysE _ _ _ _ hT).mono ?_; rintro e w' ⟨rfl, rfl⟩)
    | (go_at_call 15; refine (parseE _ _ hT).mono ?_; rintro e w1 ⟨rfl, hb⟩)
    | (go_at_call 13; refine (weekE _ _).mono ?_; rintro e w' ⟨rfl, rfl⟩))
  go_ret
  exact ⟨rfl, hb⟩
end Go.Proofs.YtiombgjkcfhibaaDoor
