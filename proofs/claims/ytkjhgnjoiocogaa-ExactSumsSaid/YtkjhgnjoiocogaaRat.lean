/- Contracts of the functions on ratios. -/
import Derived.Test.YtkjhgnjoiocogaaWalks
namespace Go.Proofs.Ytkjhgnjoiocogaa
open Go.RowKit
set_option linter.unusedSimpArgs false
set_option linter.unusedVariables false

theorem formedE (n d : Int) (w : World) : Calls Try.prog 35 #[.agg #[.int .i64 n, .int .i64 d]] w fun e w' => e = .returned (.bool (wf n d)) ∧ w' = w.alloc (.cells #[.int .i64 n, .int .i64 d] 28) := by
  cases hn : sm n
  · have H := Lib.hid hn
    go_enter Try.func35, Try.ntmps35
    go_wp2_with (go_at_call 36; refine (smallE _ _).mono ?_; rintro e w' ⟨rfl, rfl⟩)
    go_ret
    exact ⟨ret_bool (by simp [wf, H.out]), rfl⟩
  · have H := Lib.hid hn
    by_cases h1 : 1 ≤ d
    · by_cases h2 : d ≤ 1073741824
      · go_enter Try.func35, Try.ntmps35
        go_wp2_with (go_at_call 36; refine (smallE _ _).mono ?_; rintro e w' ⟨rfl, rfl⟩)
        go_ret
        exact ⟨ret_bool (by simp [wf, H.out, h1, h2]), rfl⟩
      · have h2' : decide (d ≤ 1073741824) = false := by simpa using h2
        go_enter Try.func35, Try.ntmps35
        go_wp2_with (go_at_call 36; refine (smallE _ _).mono ?_; rintro e w' ⟨rfl, rfl⟩)
        go_ret
        exact ⟨ret_bool (by simp [wf, H.out, h1, h2]; try omega), rfl⟩
    · have h1' : decide (1 ≤ d) = false := by simpa using h1
      go_enter Try.func35, Try.ntmps35
      go_wp2_with (go_at_call 36; refine (smallE _ _).mono ?_; rintro e w' ⟨rfl, rfl⟩)
      go_ret
      exact ⟨ret_bool (by simp [wf, H.out, h1]; omega), rfl⟩

theorem formedF (n d : Int) (w : World) : Calls Try.prog 34 #[.agg #[.int .i64 n, .int .i64 d]] w fun e w' => e = .returned (.bool (wf n d)) ∧ w' = w.alloc (.cells #[.int .i64 n, .int .i64 d] 28) := by
  cases hn : sm n
  · have H := Lib.hid hn
    go_enter Try.func34, Try.ntmps34
    go_wp2_with (go_at_call 32; refine (smallF _ _).mono ?_; rintro e w' ⟨rfl, rfl⟩)
    go_ret
    exact ⟨ret_bool (by simp [wf, H.out]), rfl⟩
  · have H := Lib.hid hn
    by_cases h1 : 1 ≤ d
    · by_cases h2 : d ≤ 1073741824
      · go_enter Try.func34, Try.ntmps34
        go_wp2_with (go_at_call 32; refine (smallF _ _).mono ?_; rintro e w' ⟨rfl, rfl⟩)
        go_ret
        exact ⟨ret_bool (by simp [wf, H.out, h1, h2]), rfl⟩
      · have h2' : decide (d ≤ 1073741824) = false := by simpa using h2
        go_enter Try.func34, Try.ntmps34
        go_wp2_with (go_at_call 32; refine (smallF _ _).mono ?_; rintro e w' ⟨rfl, rfl⟩)
        go_ret
        exact ⟨ret_bool (by simp [wf, H.out, h1, h2]; try omega), rfl⟩
    · have h1' : decide (1 ≤ d) = false := by simpa using h1
      go_enter Try.func34, Try.ntmps34
      go_wp2_with (go_at_call 32; refine (smallF _ _).mono ?_; rintro e w' ⟨rfl, rfl⟩)
      go_ret
      exact ⟨ret_bool (by simp [wf, H.out, h1]; omega), rfl⟩

set_option maxHeartbeats 1000000 in
theorem withinE (p q n d n' d' : Int) (w : World) : Calls Try.prog 17 #[.int .i64 p, .int .i64 q, .agg #[.int .i64 n, .int .i64 d], .agg #[.int .i64 n', .int .i64 d']] w fun e w' => e = .returned (.bool (wi p q n d n' d')) ∧ Below w.heap.size w w' := by
  by_cases c1 : p < 0
  · have HW : Hid (wi p q n d n' d' = false) := Lib.hid (by unfold wi; simp; omega)
    go_enter Try.func17, Try.ntmps17
    go_wp2_with (go_at_call 35; refine (formedE _ _ _).mono ?_; rintro e w' ⟨rfl, rfl⟩)
    go_ret
    exact ⟨ret_bool HW.out.symm, (by repeat (first | exact Below.refl _ _ | refine Below.drew ?_ | refine below_drewN ?_ _ | refine Below.setCell ?_ (by simp <;> omega) _ | refine Below.alloc ?_ (by simp <;> omega) _))⟩
  have c1' : decide (p < 0) = false := by simpa using c1
  by_cases c2 : q < p
  · have HW : Hid (wi p q n d n' d' = false) := Lib.hid (by unfold wi; simp; omega)
    go_enter Try.func17, Try.ntmps17
    go_wp2_with (go_at_call 35; refine (formedE _ _ _).mono ?_; rintro e w' ⟨rfl, rfl⟩)
    go_ret
    exact ⟨ret_bool HW.out.symm, (by repeat (first | exact Below.refl _ _ | refine Below.drew ?_ | refine below_drewN ?_ _ | refine Below.setCell ?_ (by simp <;> omega) _ | refine Below.alloc ?_ (by simp <;> omega) _))⟩
  have c2' : decide (q < p) = false := by simpa using c2
  by_cases c3 : 1073741824 < q
  · have HW : Hid (wi p q n d n' d' = false) := Lib.hid (by unfold wi; simp; omega)
    go_enter Try.func17, Try.ntmps17
    go_wp2_with (go_at_call 35; refine (formedE _ _ _).mono ?_; rintro e w' ⟨rfl, rfl⟩)
    go_ret
    exact ⟨ret_bool HW.out.symm, (by repeat (first | exact Below.refl _ _ | refine Below.drew ?_ | refine below_drewN ?_ _ | refine Below.setCell ?_ (by simp <;> omega) _ | refine Below.alloc ?_ (by simp <;> omega) _))⟩
  have c3' : decide (1073741824 < q) = false := by simpa using c3
  cases c4 : wf n d
  · have HW : Hid (wi p q n d n' d' = false) := Lib.hid (by unfold wi; simp [c4])
    go_enter Try.func17, Try.ntmps17
    go_wp2_with (go_at_call 35; refine (formedE _ _ _).mono ?_; rintro e w' ⟨rfl, rfl⟩)
    go_ret
    exact ⟨ret_bool HW.out.symm, (by repeat (first | exact Below.refl _ _ | refine Below.drew ?_ | refine below_drewN ?_ _ | refine Below.setCell ?_ (by simp <;> omega) _ | refine Below.alloc ?_ (by simp <;> omega) _))⟩
  cases c5 : wf n' d'
  · have HW : Hid (wi p q n d n' d' = false) := Lib.hid (by unfold wi; simp [c4, c5])
    go_enter Try.func17, Try.ntmps17
    go_wp2_with (go_at_call 35; refine (formedE _ _ _).mono ?_; rintro e w' ⟨rfl, rfl⟩)
    go_ret
    exact ⟨ret_bool HW.out.symm, (by repeat (first | exact Below.refl _ _ | refine Below.drew ?_ | refine below_drewN ?_ _ | refine Below.setCell ?_ (by simp <;> omega) _ | refine Below.alloc ?_ (by simp <;> omega) _))⟩
  have e : wi p q n d n' d' = (q == 0 || (decide (n * q ≤ p * d) && decide (p * d' ≤ n' * q))) := by
    unfold wi; simp only [c4, c5, Bool.and_true]
    rw [show decide (0 ≤ p) = true by simp; omega, show decide (p ≤ q) = true by simp; omega, show decide (q ≤ 1073741824) = true by simp; omega]; simp
  by_cases c6 : q = 0
  · have HW : Hid (wi p q n d n' d' = true) := Lib.hid (by rw [e]; simp [c6])
    have c6' : (q == 0) = true := by simpa using c6
    clear e c6
    go_enter Try.func17, Try.ntmps17
    go_wp2_with (go_at_call 35; refine (formedE _ _ _).mono ?_; rintro e w' ⟨rfl, rfl⟩)
    go_ret
    exact ⟨ret_bool HW.out.symm, (by repeat (first | exact Below.refl _ _ | refine Below.drew ?_ | refine below_drewN ?_ _ | refine Below.setCell ?_ (by simp <;> omega) _ | refine Below.alloc ?_ (by simp <;> omega) _))⟩
  have c6' : (q == 0) = false := by simpa using c6
  obtain ⟨s1, d1, d2⟩ := wf_bd c4
  obtain ⟨s1', d1', d2'⟩ := wf_bd c5
  have b1 := mul_bd p d (by omega) (by omega) (by omega) (by omega)
  have b2 := mul_bd n q (by omega) (by omega) (by omega) (by omega)
  have b3 := mul_bd p d' (by omega) (by omega) (by omega) (by omega)
  have b4 := mul_bd n' q (by omega) (by omega) (by omega) (by omega)
  rw [c6', Bool.false_or] at e
  by_cases c7 : n * q ≤ p * d
  · by_cases c8 : p * d' ≤ n' * q
    · have HW : Hid (wi p q n d n' d' = true) := Lib.hid (by rw [e]; simp [c7, c8])
      clear e
      go_enter Try.func17, Try.ntmps17
      go_wp2_with (go_at_call 35; refine (formedE _ _ _).mono ?_; rintro e w' ⟨rfl, rfl⟩)
      go_ret
      exact ⟨ret_bool HW.out.symm, (by repeat (first | exact Below.refl _ _ | refine Below.drew ?_ | refine below_drewN ?_ _ | refine Below.setCell ?_ (by simp <;> omega) _ | refine Below.alloc ?_ (by simp <;> omega) _))⟩
    · have HW : Hid (wi p q n d n' d' = false) := Lib.hid (by rw [e]; simp [c7, c8])
      have c8' : decide (p * d' ≤ n' * q) = false := by simpa using c8
      clear e
      go_enter Try.func17, Try.ntmps17
      go_wp2_with (go_at_call 35; refine (formedE _ _ _).mono ?_; rintro e w' ⟨rfl, rfl⟩)
      go_ret
      exact ⟨ret_bool HW.out.symm, (by repeat (first | exact Below.refl _ _ | refine Below.drew ?_ | refine below_drewN ?_ _ | refine Below.setCell ?_ (by simp <;> omega) _ | refine Below.alloc ?_ (by simp <;> omega) _))⟩
  · have HW : Hid (wi p q n d n' d' = false) := Lib.hid (by rw [e]; simp [c7])
    have c7' : decide (n * q ≤ p * d) = false := by simpa using c7
    clear e
    go_enter Try.func17, Try.ntmps17
    go_wp2_with (go_at_call 35; refine (formedE _ _ _).mono ?_; rintro e w' ⟨rfl, rfl⟩)
    go_ret
    exact ⟨ret_bool HW.out.symm, (by repeat (first | exact Below.refl _ _ | refine Below.drew ?_ | refine below_drewN ?_ _ | refine Below.setCell ?_ (by simp <;> omega) _ | refine Below.alloc ?_ (by simp <;> omega) _))⟩

set_option maxHeartbeats 1000000 in
theorem withinF (p q n d n' d' : Int) (w : World) : Calls Try.prog 18 #[.int .i64 p, .int .i64 q, .agg #[.int .i64 n, .int .i64 d], .agg #[.int .i64 n', .int .i64 d']] w fun e w' => e = .returned (.bool (wi p q n d n' d')) ∧ Below w.heap.size w w' := by
  by_cases c1 : p < 0
  · have HW : Hid (wi p q n d n' d' = false) := Lib.hid (by unfold wi; simp; omega)
    go_enter Try.func18, Try.ntmps18
    go_wp2_with (go_at_call 34; refine (formedF _ _ _).mono ?_; rintro e w' ⟨rfl, rfl⟩)
    go_ret
    exact ⟨ret_bool HW.out.symm, (by repeat (first | exact Below.refl _ _ | refine Below.drew ?_ | refine below_drewN ?_ _ | refine Below.setCell ?_ (by simp <;> omega) _ | refine Below.alloc ?_ (by simp <;> omega) _))⟩
  have c1' : decide (p < 0) = false := by simpa using c1
  by_cases c2 : q < p
  · have HW : Hid (wi p q n d n' d' = false) := Lib.hid (by unfold wi; simp; omega)
    go_enter Try.func18, Try.ntmps18
    go_wp2_with (go_at_call 34; refine (formedF _ _ _).mono ?_; rintro e w' ⟨rfl, rfl⟩)
    go_ret
    exact ⟨ret_bool HW.out.symm, (by repeat (first | exact Below.refl _ _ | refine Below.drew ?_ | refine below_drewN ?_ _ | refine Below.setCell ?_ (by simp <;> omega) _ | refine Below.alloc ?_ (by simp <;> omega) _))⟩
  have c2' : decide (q < p) = false := by simpa using c2
  by_cases c3 : 1073741824 < q
  · have HW : Hid (wi p q n d n' d' = false) := Lib.hid (by unfold wi; simp; omega)
    go_enter Try.func18, Try.ntmps18
    go_wp2_with (go_at_call 34; refine (formedF _ _ _).mono ?_; rintro e w' ⟨rfl, rfl⟩)
    go_ret
    exact ⟨ret_bool HW.out.symm, (by repeat (first | exact Below.refl _ _ | refine Below.drew ?_ | refine below_drewN ?_ _ | refine Below.setCell ?_ (by simp <;> omega) _ | refine Below.alloc ?_ (by simp <;> omega) _))⟩
  have c3' : decide (1073741824 < q) = false := by simpa using c3
  cases c4 : wf n d
  · have HW : Hid (wi p q n d n' d' = false) := Lib.hid (by unfold wi; simp [c4])
    go_enter Try.func18, Try.ntmps18
    go_wp2_with (go_at_call 34; refine (formedF _ _ _).mono ?_; rintro e w' ⟨rfl, rfl⟩)
    go_ret
    exact ⟨ret_bool HW.out.symm, (by repeat (first | exact Below.refl _ _ | refine Below.drew ?_ | refine below_drewN ?_ _ | refine Below.setCell ?_ (by simp <;> omega) _ | refine Below.alloc ?_ (by simp <;> omega) _))⟩
  cases c5 : wf n' d'
  · have HW : Hid (wi p q n d n' d' = false) := Lib.hid (by unfold wi; simp [c4, c5])
    go_enter Try.func18, Try.ntmps18
    go_wp2_with (go_at_call 34; refine (formedF _ _ _).mono ?_; rintro e w' ⟨rfl, rfl⟩)
    go_ret
    exact ⟨ret_bool HW.out.symm, (by repeat (first | exact Below.refl _ _ | refine Below.drew ?_ | refine below_drewN ?_ _ | refine Below.setCell ?_ (by simp <;> omega) _ | refine Below.alloc ?_ (by simp <;> omega) _))⟩
  have e : wi p q n d n' d' = (q == 0 || (decide (n * q ≤ p * d) && decide (p * d' ≤ n' * q))) := by
    unfold wi; simp only [c4, c5, Bool.and_true]
    rw [show decide (0 ≤ p) = true by simp; omega, show decide (p ≤ q) = true by simp; omega, show decide (q ≤ 1073741824) = true by simp; omega]; simp
  by_cases c6 : q = 0
  · have HW : Hid (wi p q n d n' d' = true) := Lib.hid (by rw [e]; simp [c6])
    have c6' : (q == 0) = true := by simpa using c6
    clear e c6
    go_enter Try.func18, Try.ntmps18
    go_wp2_with (go_at_call 34; refine (formedF _ _ _).mono ?_; rintro e w' ⟨rfl, rfl⟩)
    go_ret
    exact ⟨ret_bool HW.out.symm, (by repeat (first | exact Below.refl _ _ | refine Below.drew ?_ | refine below_drewN ?_ _ | refine Below.setCell ?_ (by simp <;> omega) _ | refine Below.alloc ?_ (by simp <;> omega) _))⟩
  have c6' : (q == 0) = false := by simpa using c6
  obtain ⟨s1, d1, d2⟩ := wf_bd c4
  obtain ⟨s1', d1', d2'⟩ := wf_bd c5
  have b1 := mul_bd p d (by omega) (by omega) (by omega) (by omega)
  have b2 := mul_bd n q (by omega) (by omega) (by omega) (by omega)
  have b3 := mul_bd p d' (by omega) (by omega) (by omega) (by omega)
  have b4 := mul_bd n' q (by omega) (by omega) (by omega) (by omega)
  rw [c6', Bool.false_or] at e
  by_cases c7 : n * q ≤ p * d
  · by_cases c8 : p * d' ≤ n' * q
    · have HW : Hid (wi p q n d n' d' = true) := Lib.hid (by rw [e]; simp [c7, c8])
      clear e
      go_enter Try.func18, Try.ntmps18
      go_wp2_with (go_at_call 34; refine (formedF _ _ _).mono ?_; rintro e w' ⟨rfl, rfl⟩)
      go_ret
      exact ⟨ret_bool HW.out.symm, (by repeat (first | exact Below.refl _ _ | refine Below.drew ?_ | refine below_drewN ?_ _ | refine Below.setCell ?_ (by simp <;> omega) _ | refine Below.alloc ?_ (by simp <;> omega) _))⟩
    · have HW : Hid (wi p q n d n' d' = false) := Lib.hid (by rw [e]; simp [c7, c8])
      have c8' : decide (p * d' ≤ n' * q) = false := by simpa using c8
      clear e
      go_enter Try.func18, Try.ntmps18
      go_wp2_with (go_at_call 34; refine (formedF _ _ _).mono ?_; rintro e w' ⟨rfl, rfl⟩)
      go_ret
      exact ⟨ret_bool HW.out.symm, (by repeat (first | exact Below.refl _ _ | refine Below.drew ?_ | refine below_drewN ?_ _ | refine Below.setCell ?_ (by simp <;> omega) _ | refine Below.alloc ?_ (by simp <;> omega) _))⟩
  · have HW : Hid (wi p q n d n' d' = false) := Lib.hid (by rw [e]; simp [c7])
    have c7' : decide (n * q ≤ p * d) = false := by simpa using c7
    clear e
    go_enter Try.func18, Try.ntmps18
    go_wp2_with (go_at_call 34; refine (formedF _ _ _).mono ?_; rintro e w' ⟨rfl, rfl⟩)
    go_ret
    exact ⟨ret_bool HW.out.symm, (by repeat (first | exact Below.refl _ _ | refine Below.drew ?_ | refine below_drewN ?_ _ | refine Below.setCell ?_ (by simp <;> omega) _ | refine Below.alloc ?_ (by simp <;> omega) _))⟩

theorem cmpE (a b : Int) (w : World) : Calls Try.prog 39 #[.int .i64 a, .int .i64 b] w fun e w' => e = .returned (.int .i64 (sg a b)) ∧ w = w' := by
  by_cases h1 : a < b
  · have HS : Hid (sg a b = -1) := Lib.hid (by unfold sg; rw [if_pos h1])
    go_enter Try.func39, Try.ntmps39
    go_wp2
    go_ret
    exact ⟨ret_int HS.out.symm, rfl⟩
  · by_cases h2 : b < a
    · have HS : Hid (sg a b = 1) := Lib.hid (by unfold sg; rw [if_neg h1, if_pos h2])
      go_enter Try.func39, Try.ntmps39
      go_wp2
      go_ret
      exact ⟨ret_int HS.out.symm, rfl⟩
    · have HS : Hid (sg a b = 0) := Lib.hid (by unfold sg; rw [if_neg h1, if_neg h2])
      obtain rfl : a = b := by omega
      clear h1 h2
      go_enter Try.func39, Try.ntmps39
      go_wp2
      go_ret
      exact ⟨ret_int HS.out.symm, rfl⟩

set_option maxHeartbeats 1000000 in
theorem compareE (n d n' d' : Int) (w : World) : Calls Try.prog 29 #[.agg #[.int .i64 n, .int .i64 d], .agg #[.int .i64 n', .int .i64 d']] w fun e w' => e = .returned (.tuple #[.int .i64 (cr n d n' d'), .bool (wf n d && wf n' d')]) ∧ Below w.heap.size w w' := by
  cases c4 : wf n d
  · have HW := Lib.hid c4
    go_enter Try.func29, Try.ntmps29
    go_wp2_with (go_at_call 35; refine (formedE _ _ _).mono ?_; rintro e w' ⟨rfl, rfl⟩)
    go_ret2
    exact ⟨ret_ib (by simp [cr, HW.out]) (by simp), (by repeat (first | exact Below.refl _ _ | refine Below.drew ?_ | refine below_drewN ?_ _ | refine Below.setCell ?_ (by simp <;> omega) _ | refine Below.alloc ?_ (by simp <;> omega) _))⟩
  have HW := Lib.hid c4
  cases c5 : wf n' d'
  · have HX := Lib.hid c5
    go_enter Try.func29, Try.ntmps29
    go_wp2_with (go_at_call 35; refine (formedE _ _ _).mono ?_; rintro e w' ⟨rfl, rfl⟩)
    go_ret2
    exact ⟨ret_ib (by simp [cr, HW.out, HX.out]) (by simp), (by repeat (first | exact Below.refl _ _ | refine Below.drew ?_ | refine below_drewN ?_ _ | refine Below.setCell ?_ (by simp <;> omega) _ | refine Below.alloc ?_ (by simp <;> omega) _))⟩
  have HX := Lib.hid c5
  obtain ⟨s1, d1, d2⟩ := wf_bd c4
  obtain ⟨s1', d1', d2'⟩ := wf_bd c5
  have b1 := mul_bd n d' (by omega) (by omega) (by omega) (by omega)
  have b2 := mul_bd n' d (by omega) (by omega) (by omega) (by omega)
  go_enter Try.func29, Try.ntmps29
  go_wp2_with (first
    | (go_at_call 35; refine (formedE _ _ _).mono ?_; rintro e w' ⟨rfl, rfl⟩)
    | (go_at_call 39; refine (cmpE _ _ _).mono ?_; rintro e w' ⟨rfl, rfl⟩))
  go_ret2
  exact ⟨ret_ib (by simp [cr, HW.out, HX.out]) (by simp), (by repeat (first | exact Below.refl _ _ | refine Below.drew ?_ | refine below_drewN ?_ _ | refine Below.setCell ?_ (by simp <;> omega) _ | refine Below.alloc ?_ (by simp <;> omega) _))⟩

set_option maxHeartbeats 1000000 in
theorem compareF (n d n' d' : Int) (w : World) : Calls Try.prog 30 #[.agg #[.int .i64 n, .int .i64 d], .agg #[.int .i64 n', .int .i64 d']] w fun e w' => e = .returned (.tuple #[.int .i64 (cr n d n' d'), .bool (wf n d && wf n' d')]) ∧ Below w.heap.size w w' := by
  cases c4 : wf n d
  · have HW := Lib.hid c4
    go_enter Try.func30, Try.ntmps30
    go_wp2_with (go_at_call 34; refine (formedF _ _ _).mono ?_; rintro e w' ⟨rfl, rfl⟩)
    go_ret2
    exact ⟨ret_ib (by simp [cr, HW.out]) (by simp), (by repeat (first | exact Below.refl _ _ | refine Below.drew ?_ | refine below_drewN ?_ _ | refine Below.setCell ?_ (by simp <;> omega) _ | refine Below.alloc ?_ (by simp <;> omega) _))⟩
  have HW := Lib.hid c4
  cases c5 : wf n' d'
  · have HX := Lib.hid c5
    go_enter Try.func30, Try.ntmps30
    go_wp2_with (go_at_call 34; refine (formedF _ _ _).mono ?_; rintro e w' ⟨rfl, rfl⟩)
    go_ret2
    exact ⟨ret_ib (by simp [cr, HW.out, HX.out]) (by simp), (by repeat (first | exact Below.refl _ _ | refine Below.drew ?_ | refine below_drewN ?_ _ | refine Below.setCell ?_ (by simp <;> omega) _ | refine Below.alloc ?_ (by simp <;> omega) _))⟩
  have HX := Lib.hid c5
  obtain ⟨s1, d1, d2⟩ := wf_bd c4
  obtain ⟨s1', d1', d2'⟩ := wf_bd c5
  have b1 := mul_bd n d' (by omega) (by omega) (by omega) (by omega)
  have b2 := mul_bd n' d (by omega) (by omega) (by omega) (by omega)
  by_cases h1 : n * d' < n' * d
  · have HS : Hid (sg (n * d') (n' * d) = -1) := Lib.hid (by unfold sg; rw [if_pos h1])
    go_enter Try.func30, Try.ntmps30
    go_wp2_with (go_at_call 34; refine (formedF _ _ _).mono ?_; rintro e w' ⟨rfl, rfl⟩)
    go_quiet (fail)
    go_wp2
    go_ret2
    exact ⟨ret_ib (by simp [cr, HW.out, HX.out, HS.out]) (by simp), (by repeat (first | exact Below.refl _ _ | refine Below.drew ?_ | refine below_drewN ?_ _ | refine Below.setCell ?_ (by simp <;> omega) _ | refine Below.alloc ?_ (by simp <;> omega) _))⟩
  have h1' : decide (n * d' < n' * d) = false := by simpa using h1
  by_cases h2 : n' * d < n * d'
  · have HS : Hid (sg (n * d') (n' * d) = 1) := Lib.hid (by unfold sg; rw [if_neg h1, if_pos h2])
    go_enter Try.func30, Try.ntmps30
    go_wp2_with (go_at_call 34; refine (formedF _ _ _).mono ?_; rintro e w' ⟨rfl, rfl⟩)
    go_quiet (fail)
    go_wp2
    go_ret2
    exact ⟨ret_ib (by simp [cr, HW.out, HX.out, HS.out]) (by simp), (by repeat (first | exact Below.refl _ _ | refine Below.drew ?_ | refine below_drewN ?_ _ | refine Below.setCell ?_ (by simp <;> omega) _ | refine Below.alloc ?_ (by simp <;> omega) _))⟩
  · have h2' : decide (n' * d < n * d') = false := by simpa using h2
    have HS : Hid (sg (n * d') (n' * d) = 0) := Lib.hid (by unfold sg; rw [if_neg h1, if_neg h2])
    go_enter Try.func30, Try.ntmps30
    go_wp2_with (go_at_call 34; refine (formedF _ _ _).mono ?_; rintro e w' ⟨rfl, rfl⟩)
    go_quiet (fail)
    go_wp2
    go_ret2
    exact ⟨ret_ib (by simp [cr, HW.out, HX.out, HS.out]) (by simp), (by repeat (first | exact Below.refl _ _ | refine Below.drew ?_ | refine below_drewN ?_ _ | refine Below.setCell ?_ (by simp <;> omega) _ | refine Below.alloc ?_ (by simp <;> omega) _))⟩
end Go.Proofs.Ytkjhgnjoiocogaa
