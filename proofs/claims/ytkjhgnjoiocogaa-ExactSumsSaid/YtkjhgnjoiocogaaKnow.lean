/- The helpers of the laws: a well-formed ratio out of two numbers; the closed examples. */ -/
import Derived.Test.YtkjhgnjoiocogaaRat
import Derived.Test.YtkjhgnjoiocogaaDiv
namespace Go.Proofs.Ytkjhgnjoiocogaa
open Go.RowKit
set_option linter.unusedSimpArgs false
set_option linter.unusedVariables false

set_option maxHeartbeats 1000000 in
theorem ratio_any (a b : Int) (w : World) : Calls Try.prog 16 #[.int .i64 a, .int .i64 b] w fun e w' => e = .returned (.agg #[.int .i64 (sn a b), .int .i64 (sd a b)]) ∧ Below w.heap.size w w' := by
  cases c4 : wf (nr a) (nr b)
  · have e1 : Hid (sn a b = a % 16) := Lib.hid (by unfold sn; rw [c4]; rfl)
    have e2 : Hid (sd a b = 1 + b % 16) := Lib.hid (by unfold sd; rw [c4]; rfl)
    have f1 := and15 a
    have f2 := and15 b
    have HW := Lib.hid c4
    go_enter Try.func16, Try.ntmps16
    go_wp2_with (first
      | (go_at_call 14; refine (near_any _ _).mono ?_; rintro e w' ⟨rfl, rfl⟩)
      | (go_at_call 34; refine (formedF _ _ _).mono ?_; rintro e w' ⟨rfl, rfl⟩))
    rw [e1.out, e2.out]
    exact bodyPost_ret (v := .agg #[.int .i64 (a % 16), .int .i64 (1 + b % 16)]) (by simp [results, Try.results16, go_sem]) rfl ⟨rfl, (by repeat (first | exact Below.refl _ _ | refine Below.drew ?_ | refine below_drewN ?_ _ | refine Below.setCell ?_ (by simp <;> omega) _ | refine Below.alloc ?_ (by simp <;> omega) _))⟩
  · have e1 : Hid (sn a b = nr a) := Lib.hid (by unfold sn; rw [c4]; rfl)
    have e2 : Hid (sd a b = nr b) := Lib.hid (by unfold sd; rw [c4]; rfl)
    have HW := Lib.hid c4
    go_enter Try.func16, Try.ntmps16
    go_wp2_with (first
      | (go_at_call 14; refine (near_any _ _).mono ?_; rintro e w' ⟨rfl, rfl⟩)
      | (go_at_call 34; refine (formedF _ _ _).mono ?_; rintro e w' ⟨rfl, rfl⟩))
    rw [e1.out, e2.out]
    exact bodyPost_ret (v := .agg #[.int .i64 (nr a), .int .i64 (nr b)]) (by simp [results, Try.results16, go_sem]) rfl ⟨rfl, (by repeat (first | exact Below.refl _ _ | refine Below.drew ?_ | refine below_drewN ?_ _ | refine Below.setCell ?_ (by simp <;> omega) _ | refine Below.alloc ?_ (by simp <;> omega) _))⟩

theorem known_any (w : World) : Calls Try.prog 15 #[] w fun e w' => e = .returned (.bool true) ∧ Below w.heap.size w w' := by
  have k1 : valQ (-7) 2 = -4 := by decide
  have k2 : okD (-7) 2 = true := by decide
  have k3 : valM 7 (-2) = -1 := by decide
  have k4 : okD 7 (-2) = true := by decide
  have k5 : okR 1073741824 1 1073741825 = false := by decide
  have k6 : Hid (wi 1 3 1 3 1 2 = true) := Lib.hid (by decide)
  go_enter Try.func15, Try.ntmps15
  go_wp2_with (first
      | (go_at_call 10; refine (divideE _ _ _).mono ?_; rintro e w' ⟨rfl, n1, rfl⟩)
      | (go_at_call 12; refine (moduloE _ _ _).mono ?_; rintro e w' ⟨rfl, n2, rfl⟩)
      | (go_at_call 23; refine (addE _ _ _).mono ?_; rintro e w' ⟨rfl, rfl⟩)
      | (go_at_call 17; refine (withinE _ _ _ _ _ _ _).mono ?_; rintro e w' ⟨rfl, hb⟩))
  go_ret
  exact ⟨ret_bool k6.out, (below_drewN (Below.refl _ _) _).trans hb⟩
end Go.Proofs.Ytkjhgnjoiocogaa
