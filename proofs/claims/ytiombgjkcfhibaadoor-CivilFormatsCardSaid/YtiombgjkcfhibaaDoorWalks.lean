/- Contracts of the functions on dates, of package civil (E) and of its reference (F). 'Tab': the table of the months' lengths holds its twelve numbers. -/
import Derived.Test.YtiombgjkcfhibaaDoorRows
import Derived.Test.YtiombgjkcfhibaaDoorPlain
import Derived.WalkKit
import Derived.WalkSpells
import Derived.Outline
import Derived.BigQuiet
import Derived.Deep.QuietTactic
import Derived.Lib.Hide
namespace Go.Proofs.YtiombgjkcfhibaaDoor
open Go.RowKit
set_option linter.unusedSimpArgs false
set_option linter.unusedVariables false

theorem ret_int {k : IntKind} {a b : Int} (h : a = b) : Ending.returned (.int k a) = .returned (.int k b) := by rw [h]
theorem ret_ib {k : IntKind} {a b : Int} {p q : Bool} (h : a = b) (h' : p = q) : Ending.returned (.tuple #[.int k a, .bool p]) = .returned (.tuple #[.int k b, .bool q]) := by rw [h, h']
theorem ret_bool {a b : Bool} (h : a = b) : Ending.returned (.bool a) = .returned (.bool b) := by rw [h]
theorem results4 {fn : Func} {t u v x : Tmp} (h : fn.results = #[.tmp t, .tmp u, .tmp v, .tmp x]) (tmps : Array Value) (P : Program) (w : World) :
    (results fn tmps).run P w = .ok (.tuple #[tmps.getD t undef, tmps.getD u undef, tmps.getD v undef, tmps.getD x undef]) w := by simp [results, h]

/-- the table of the lengths of the months, in block 0 -/
def Tab (w : World) : Prop := ∀ j, j < 12 → w.cell? ⟨0, j, none⟩ = some (.int .i64 ([31, 28, 31, 30, 31, 30, 31, 31, 30, 31, 30, 31].getD j 0))
theorem Tab.below {w w' : World} (h : Tab w) (hb : Below w.heap.size w w') : Tab w' := fun j hj => cell_later hb (h j hj)

/-! leap -/
theorem leapE (y : Int) (w : World) (h0 : 0 ≤ y) : Calls Tryd.prog 32 #[.int .i64 y] w fun e w' => e = .returned (.bool (lpB y)) ∧ w = w' := by
  by_cases h4 : y % 4 = 0
  · have b4 : (y % 4 == 0) = true := by simpa using h4
    by_cases h1 : y % 100 = 0
    · have b1 : (y % 100 != 0) = false := by simpa using h1
      have hr : Hid ((y % 400 == 0) = lpB y) := Lib.hid (by unfold lpB; simp [h4, h1, Bool.beq_eq_decide_eq])
      clear h4 h1
      go_enter Tryd.func32, Tryd.ntmps32
      go_wp2
      go_ret
      exact ⟨ret_bool hr.out, rfl⟩
    · have b1 : (y % 100 != 0) = true := by simpa using h1
      have hr : Hid (lpB y = true) := Lib.hid (by unfold lpB; simp [h4, h1])
      clear h4 h1
      go_enter Tryd.func32, Tryd.ntmps32
      go_wp2
      go_ret
      exact ⟨ret_bool hr.out.symm, rfl⟩
  · have b4 : (y % 4 == 0) = false := by simpa using h4
    have b5 : (y % 400 == 0) = false := by simp; omega
    have hr : Hid (lpB y = false) := Lib.hid (by unfold lpB; simp [h4])
    clear h4
    go_enter Tryd.func32, Tryd.ntmps32
    go_wp2
    go_ret
    exact ⟨ret_bool hr.out.symm, rfl⟩
theorem leapF (y : Int) (w : World) (h0 : 0 ≤ y) : Calls Tryd.prog 27 #[.int .i64 y] w fun e w' => e = .returned (.bool (lpB y)) ∧ w = w' := by
  by_cases h4 : y % 4 = 0
  · have b4 : (y % 4 == 0) = true := by simpa using h4
    by_cases h1 : y % 100 = 0
    · have b1 : (y % 100 != 0) = false := by simpa using h1
      have hr : Hid ((y % 400 == 0) = lpB y) := Lib.hid (by unfold lpB; simp [h4, h1, Bool.beq_eq_decide_eq])
      clear h4 h1
      go_enter Tryd.func27, Tryd.ntmps27
      go_wp2
      go_ret
      exact ⟨ret_bool hr.out, rfl⟩
    · have b1 : (y % 100 != 0) = true := by simpa using h1
      have hr : Hid (lpB y = true) := Lib.hid (by unfold lpB; simp [h4, h1])
      clear h4 h1
      go_enter Tryd.func27, Tryd.ntmps27
      go_wp2
      go_ret
      exact ⟨ret_bool hr.out.symm, rfl⟩
  · have b4 : (y % 4 == 0) = false := by simpa using h4
    have hr : Hid (lpB y = false) := Lib.hid (by unfold lpB; simp [h4])
    clear h4
    go_enter Tryd.func27, Tryd.ntmps27
    go_wp2
    go_ret
    exact ⟨ret_bool hr.out.symm, rfl⟩

/-! lengths -/
theorem yearE (y : Int) (w : World) (h0 : 0 ≤ y) : Calls Tryd.prog 25 #[.int .i64 y] w fun e w' => e = .returned (.int .i64 (365 + lp y)) ∧ w = w' := by
  cases hl : lpB y
  · have hr : Hid (lp y = 0) := Lib.hid (by unfold lp; rw [hl]; rfl)
    have HL := Lib.hid hl
    go_enter Tryd.func25, Tryd.ntmps25
    go_wp2_with (go_at_call 32; refine (leapE _ _ h0).mono ?_; rintro e w' ⟨rfl, rfl⟩)
    go_ret
    exact ⟨ret_int (by rw [hr.out]; rfl), rfl⟩
  · have hr : Hid (lp y = 1) := Lib.hid (by unfold lp; rw [hl]; rfl)
    have HL := Lib.hid hl
    go_enter Tryd.func25, Tryd.ntmps25
    go_wp2_with (go_at_call 32; refine (leapE _ _ h0).mono ?_; rintro e w' ⟨rfl, rfl⟩)
    go_ret
    exact ⟨ret_int (by rw [hr.out]; rfl), rfl⟩

theorem lengthE (y m : Int) (w : World) (hT : Tab w) (h0 : 0 ≤ y) (h1 : 1 ≤ m) (h2 : m ≤ 12) : Calls Tryd.prog 24 #[.int .i64 y, .int .i64 m] w fun e w' => e = .returned (.int .i64 (dim y m)) ∧ w = w' := by
  have t0 : w.cell? ⟨0, 0, none⟩ = some (.int .i64 31) := hT 0 (by omega)
  have t1 : w.cell? ⟨0, 1, none⟩ = some (.int .i64 28) := hT 1 (by omega)
  have t2 : w.cell? ⟨0, 2, none⟩ = some (.int .i64 31) := hT 2 (by omega)
  have t3 : w.cell? ⟨0, 3, none⟩ = some (.int .i64 30) := hT 3 (by omega)
  have t4 : w.cell? ⟨0, 4, none⟩ = some (.int .i64 31) := hT 4 (by omega)
  have t5 : w.cell? ⟨0, 5, none⟩ = some (.int .i64 30) := hT 5 (by omega)
  have t6 : w.cell? ⟨0, 6, none⟩ = some (.int .i64 31) := hT 6 (by omega)
  have t7 : w.cell? ⟨0, 7, none⟩ = some (.int .i64 31) := hT 7 (by omega)
  have t8 : w.cell? ⟨0, 8, none⟩ = some (.int .i64 30) := hT 8 (by omega)
  have t9 : w.cell? ⟨0, 9, none⟩ = some (.int .i64 31) := hT 9 (by omega)
  have t10 : w.cell? ⟨0, 10, none⟩ = some (.int .i64 30) := hT 10 (by omega)
  have t11 : w.cell? ⟨0, 11, none⟩ = some (.int .i64 31) := hT 11 (by omega)
  clear hT
  rcases m_cases m h1 h2 with rfl | rfl | rfl | rfl | rfl | rfl | rfl | rfl | rfl | rfl | rfl | rfl
  · have hr : Hid (dim y 1 = 31) := Lib.hid (by simp [dim])
    go_enter Tryd.func24, Tryd.ntmps24
    go_wp2
    go_ret
    exact ⟨ret_int hr.out.symm, rfl⟩
  · cases hl : lpB y
    · have hr : Hid (dim y 2 = 28) := Lib.hid (by unfold dim lp; rw [hl]; rfl)
      have HL := Lib.hid hl
      go_enter Tryd.func24, Tryd.ntmps24
      go_wp2_with (go_at_call 32; refine (leapE _ _ h0).mono ?_; rintro e w' ⟨rfl, rfl⟩)
      go_ret
      exact ⟨ret_int hr.out.symm, rfl⟩
    · have hr : Hid (dim y 2 = 29) := Lib.hid (by unfold dim lp; rw [hl]; rfl)
      have HL := Lib.hid hl
      go_enter Tryd.func24, Tryd.ntmps24
      go_wp2_with (go_at_call 32; refine (leapE _ _ h0).mono ?_; rintro e w' ⟨rfl, rfl⟩)
      go_ret
      exact ⟨ret_int hr.out.symm, rfl⟩
  · have hr : Hid (dim y 3 = 31) := Lib.hid (by simp [dim])
    go_enter Tryd.func24, Tryd.ntmps24
    go_wp2
    go_ret
    exact ⟨ret_int hr.out.symm, rfl⟩
  · have hr : Hid (dim y 4 = 30) := Lib.hid (by simp [dim])
    go_enter Tryd.func24, Tryd.ntmps24
    go_wp2
    go_ret
    exact ⟨ret_int hr.out.symm, rfl⟩
  · have hr : Hid (dim y 5 = 31) := Lib.hid (by simp [dim])
    go_enter Tryd.func24, Tryd.ntmps24
    go_wp2
    go_ret
    exact ⟨ret_int hr.out.symm, rfl⟩
  · have hr : Hid (dim y 6 = 30) := Lib.hid (by simp [dim])
    go_enter Tryd.func24, Tryd.ntmps24
    go_wp2
    go_ret
    exact ⟨ret_int hr.out.symm, rfl⟩
  · have hr : Hid (dim y 7 = 31) := Lib.hid (by simp [dim])
    go_enter Tryd.func24, Tryd.ntmps24
    go_wp2
    go_ret
    exact ⟨ret_int hr.out.symm, rfl⟩
  · have hr : Hid (dim y 8 = 31) := Lib.hid (by simp [dim])
    go_enter Tryd.func24, Tryd.ntmps24
    go_wp2
    go_ret
    exact ⟨ret_int hr.out.symm, rfl⟩
  · have hr : Hid (dim y 9 = 30) := Lib.hid (by simp [dim])
    go_enter Tryd.func24, Tryd.ntmps24
    go_wp2
    go_ret
    exact ⟨ret_int hr.out.symm, rfl⟩
  · have hr : Hid (dim y 10 = 31) := Lib.hid (by simp [dim])
    go_enter Tryd.func24, Tryd.ntmps24
    go_wp2
    go_ret
    exact ⟨ret_int hr.out.symm, rfl⟩
  · have hr : Hid (dim y 11 = 30) := Lib.hid (by simp [dim])
    go_enter Tryd.func24, Tryd.ntmps24
    go_wp2
    go_ret
    exact ⟨ret_int hr.out.symm, rfl⟩
  · have hr : Hid (dim y 12 = 31) := Lib.hid (by simp [dim])
    go_enter Tryd.func24, Tryd.ntmps24
    go_wp2
    go_ret
    exact ⟨ret_int hr.out.symm, rfl⟩

theorem lengthF (y m : Int) (w : World) (h0 : 0 ≤ y) (h1 : 1 ≤ m) (h2 : m ≤ 12) : Calls Tryd.prog 26 #[.int .i64 y, .int .i64 m] w fun e w' => e = .returned (.int .i64 (dim y m)) ∧ w = w' := by
  rcases m_cases m h1 h2 with rfl | rfl | rfl | rfl | rfl | rfl | rfl | rfl | rfl | rfl | rfl | rfl
  · have hr : Hid (dim y 1 = 31) := Lib.hid (by simp [dim])
    go_enter Tryd.func26, Tryd.ntmps26
    go_wp2
    go_ret
    exact ⟨ret_int hr.out.symm, rfl⟩
  · cases hl : lpB y
    · have hr : Hid (dim y 2 = 28) := Lib.hid (by unfold dim lp; rw [hl]; rfl)
      have HL := Lib.hid hl
      go_enter Tryd.func26, Tryd.ntmps26
      go_wp2_with (go_at_call 27; refine (leapF _ _ h0).mono ?_; rintro e w' ⟨rfl, rfl⟩)
      go_ret
      exact ⟨ret_int hr.out.symm, rfl⟩
    · have hr : Hid (dim y 2 = 29) := Lib.hid (by unfold dim lp; rw [hl]; rfl)
      have HL := Lib.hid hl
      go_enter Tryd.func26, Tryd.ntmps26
      go_wp2_with (go_at_call 27; refine (leapF _ _ h0).mono ?_; rintro e w' ⟨rfl, rfl⟩)
      go_ret
      exact ⟨ret_int hr.out.symm, rfl⟩
  · have hr : Hid (dim y 3 = 31) := Lib.hid (by simp [dim])
    go_enter Tryd.func26, Tryd.ntmps26
    go_wp2
    go_ret
    exact ⟨ret_int hr.out.symm, rfl⟩
  · have hr : Hid (dim y 4 = 30) := Lib.hid (by simp [dim])
    go_enter Tryd.func26, Tryd.ntmps26
    go_wp2
    go_ret
    exact ⟨ret_int hr.out.symm, rfl⟩
  · have hr : Hid (dim y 5 = 31) := Lib.hid (by simp [dim])
    go_enter Tryd.func26, Tryd.ntmps26
    go_wp2
    go_ret
    exact ⟨ret_int hr.out.symm, rfl⟩
  · have hr : Hid (dim y 6 = 30) := Lib.hid (by simp [dim])
    go_enter Tryd.func26, Tryd.ntmps26
    go_wp2
    go_ret
    exact ⟨ret_int hr.out.symm, rfl⟩
  · have hr : Hid (dim y 7 = 31) := Lib.hid (by simp [dim])
    go_enter Tryd.func26, Tryd.ntmps26
    go_wp2
    go_ret
    exact ⟨ret_int hr.out.symm, rfl⟩
  · have hr : Hid (dim y 8 = 31) := Lib.hid (by simp [dim])
    go_enter Tryd.func26, Tryd.ntmps26
    go_wp2
    go_ret
    exact ⟨ret_int hr.out.symm, rfl⟩
  · have hr : Hid (dim y 9 = 30) := Lib.hid (by simp [dim])
    go_enter Tryd.func26, Tryd.ntmps26
    go_wp2
    go_ret
    exact ⟨ret_int hr.out.symm, rfl⟩
  · have hr : Hid (dim y 10 = 31) := Lib.hid (by simp [dim])
    go_enter Tryd.func26, Tryd.ntmps26
    go_wp2
    go_ret
    exact ⟨ret_int hr.out.symm, rfl⟩
  · have hr : Hid (dim y 11 = 30) := Lib.hid (by simp [dim])
    go_enter Tryd.func26, Tryd.ntmps26
    go_wp2
    go_ret
    exact ⟨ret_int hr.out.symm, rfl⟩
  · have hr : Hid (dim y 12 = 31) := Lib.hid (by simp [dim])
    go_enter Tryd.func26, Tryd.ntmps26
    go_wp2
    go_ret
    exact ⟨ret_int hr.out.symm, rfl⟩

theorem weekE (n : Int) (w : World) : Calls Tryd.prog 13 #[.int .i64 n] w fun e w' => e = .returned (.int .i64 (wk n)) ∧ w = w' := by
  by_cases h1 : n < 0
  · have hr : Hid (wk n = -1) := Lib.hid (by unfold wk; rw [if_neg (by omega)])
    go_enter Tryd.func13, Tryd.ntmps13
    go_wp2
    go_ret
    exact ⟨ret_int hr.out.symm, rfl⟩
  · have d1 : decide (n < 0) = false := by simpa using h1
    by_cases h2 : 400000 < n
    · have hr : Hid (wk n = -1) := Lib.hid (by unfold wk; rw [if_neg (by omega)])
      go_enter Tryd.func13, Tryd.ntmps13
      go_wp2
      go_ret
      exact ⟨ret_int hr.out.symm, rfl⟩
    · have d2 : decide (400000 < n) = false := by simpa using h2
      have hr : Hid (wk n = (n + 3) % 7) := Lib.hid (by unfold wk; rw [if_pos (by omega)])
      go_enter Tryd.func13, Tryd.ntmps13
      go_wp2
      go_ret
      exact ⟨ret_int hr.out.symm, rfl⟩

theorem weekF (n : Int) (w : World) : Calls Tryd.prog 14 #[.int .i64 n] w fun e w' => e = .returned (.int .i64 (wk n)) ∧ w = w' := by
  by_cases h1 : n < 0
  · have hr : Hid (wk n = -1) := Lib.hid (by unfold wk; rw [if_neg (by omega)])
    go_enter Tryd.func14, Tryd.ntmps14
    go_wp2
    go_ret
    exact ⟨ret_int hr.out.symm, rfl⟩
  · have d1 : decide (n < 0) = false := by simpa using h1
    by_cases h2 : 400000 < n
    · have hr : Hid (wk n = -1) := Lib.hid (by unfold wk; rw [if_neg (by omega)])
      go_enter Tryd.func14, Tryd.ntmps14
      go_wp2
      go_ret
      exact ⟨ret_int hr.out.symm, rfl⟩
    · have d2 : decide (400000 < n) = false := by simpa using h2
      have hr : Hid (wk n = (n + 3) % 7) := Lib.hid (by unfold wk; rw [if_pos (by omega)])
      go_enter Tryd.func14, Tryd.ntmps14
      go_wp2
      go_ret
      exact ⟨ret_int hr.out.symm, rfl⟩
end Go.Proofs.YtiombgjkcfhibaaDoor
