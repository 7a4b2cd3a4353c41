/- Contracts of the two functions Days. -/
import Derived.Test.YtiombgjkcfhibaaDoorWalks
namespace Go.Proofs.YtiombgjkcfhibaaDoor
open Go.RowKit
set_option linter.unusedSimpArgs false
set_option linter.unusedVariables false

set_option maxHeartbeats 1000000 in
theorem daysE (y m d : Int) (w : World) (hT : Tab w) : Calls Tryd.prog 10 #[.int .i64 y, .int .i64 m, .int .i64 d] w fun e w' => e = .returned (.tuple #[.int .i64 (dayV y m d), .bool (okDate y m d)]) ∧ w = w' := by
  by_cases c1 : y < 1970
  · have hr : Hid (okDate y m d = false) := Lib.hid (okDate_no fun ⟨⟨_, _, _, _, _⟩, _⟩ => by omega)
    go_enter Tryd.func10, Tryd.ntmps10
    go_wp2
    go_ret2
    exact ⟨ret_ib (by unfold dayV; rw [hr.out]; rfl) hr.out.symm, rfl⟩
  have b1 : decide (y < 1970) = false := by simpa using c1
  by_cases c2 : 3065 < y
  · have hr : Hid (okDate y m d = false) := Lib.hid (okDate_far (by omega))
    go_enter Tryd.func10, Tryd.ntmps10
    go_wp2
    go_ret2
    exact ⟨ret_ib (by unfold dayV; rw [hr.out]; rfl) hr.out.symm, rfl⟩
  have b2 : decide (3065 < y) = false := by simpa using c2
  by_cases c3 : m < 1
  · have hr : Hid (okDate y m d = false) := Lib.hid (okDate_no fun ⟨⟨_, _, _, _, _⟩, _⟩ => by omega)
    go_enter Tryd.func10, Tryd.ntmps10
    go_wp2
    go_ret2
    exact ⟨ret_ib (by unfold dayV; rw [hr.out]; rfl) hr.out.symm, rfl⟩
  have b3 : decide (m < 1) = false := by simpa using c3
  by_cases c4 : 12 < m
  · have hr : Hid (okDate y m d = false) := Lib.hid (okDate_no fun ⟨⟨_, _, _, _, _⟩, _⟩ => by omega)
    go_enter Tryd.func10, Tryd.ntmps10
    go_wp2
    go_ret2
    exact ⟨ret_ib (by unfold dayV; rw [hr.out]; rfl) hr.out.symm, rfl⟩
  have b4 : decide (12 < m) = false := by simpa using c4
  by_cases c5 : d < 1
  · have hr : Hid (okDate y m d = false) := Lib.hid (okDate_no fun ⟨⟨_, _, _, _, _⟩, _⟩ => by omega)
    go_enter Tryd.func10, Tryd.ntmps10
    go_wp2
    go_ret2
    exact ⟨ret_ib (by unfold dayV; rw [hr.out]; rfl) hr.out.symm, rfl⟩
  have b5 : decide (d < 1) = false := by simpa using c5
  by_cases c6 : dim y m < d
  · have hr : Hid (okDate y m d = false) := Lib.hid (okDate_no fun ⟨⟨_, _, _, _, _⟩, _⟩ => by omega)
    go_enter Tryd.func10, Tryd.ntmps10
    go_wp2_with (go_at_call 24; refine (lengthE _ _ _ hT (by omega) (by omega) (by omega)).mono ?_; rintro e w' ⟨rfl, rfl⟩)
    go_ret2
    exact ⟨ret_ib (by unfold dayV; rw [hr.out]; rfl) hr.out.symm, rfl⟩
  have b6 : decide (dim y m < d) = false := by simpa using c6
  have hd := dim_bd y m
  have hv : Hid (vld y m d) := Lib.hid ⟨by omega, by omega, by omega, by omega, by omega⟩
  have hy := dby_bd (y := y) (by omega) (by omega)
  go_enter Tryd.func10, Tryd.ntmps10
  go_wp2_with (go_at_call 24; refine (lengthE _ _ _ hT (by omega) (by omega) (by omega)).mono ?_; rintro e w' ⟨rfl, rfl⟩)
  go_loop [8, 9] (fun n k => ∃ j : Int, 1970 ≤ j ∧ j ≤ y ∧ k = .int .i64 j ∧ n = .int .i64 (d - 1 + dby j)) (fun _ k => (y - intOf k).toNat)
  case atStart => exact ⟨1970, by omega, by omega, rfl, by rw [dby_1970]; go_num⟩
  case round =>
    obtain ⟨j, j1, j2, rfl, rfl⟩ := hrel
    have hj := dby_bd (y := j) (by omega) (by omega)
    have hs := Lib.hid (dby_succ j)
    have hl := lp_01 j
    by_cases hlt : j < y
    · go_wp2_with (go_at_call 25; refine (yearE _ _ (by omega)).mono ?_; rintro e w' ⟨rfl, rfl⟩)
      go_round
      case rel => exact ⟨j + 1, by omega, by omega, rfl, by rw [hs.out]; go_num⟩
      case measure => simp [intOf]; omega
    · obtain rfl : j = y := by omega
      go_wp2
      go_loop [8, 10] (fun n k => ∃ i : Int, 1 ≤ i ∧ i ≤ m ∧ k = .int .i64 i ∧ n = .int .i64 (d - 1 + dby j + cum j i)) (fun _ k => (m - intOf k).toNat)
      case atStart => exact ⟨1, by omega, by omega, rfl, by rw [cum_1]; go_num⟩
      case round =>
        obtain ⟨i, i1, i2, rfl, rfl⟩ := hrel
        have hi := cum_bd (y := j) (m := i) (by omega) (by omega)
        have hs := Lib.hid (cum_succ j i (by omega) (by omega))
        have hdi := dim_bd j i
        by_cases hlt : i < m
        · go_wp2_with (go_at_call 24; refine (lengthE _ _ _ hT (by omega) (by omega) (by omega)).mono ?_; rintro e w' ⟨rfl, rfl⟩)
          go_round
          case rel => exact ⟨i + 1, by omega, by omega, rfl, by rw [hs.out]; go_num⟩
          case measure => simp [intOf]; omega
        · obtain rfl : i = m := by omega
          have hnum : Hid (num j i d = d - 1 + dby j + cum j i) := Lib.hid (by unfold num; omega)
          by_cases hbig : 400000 < d - 1 + dby j + cum j i
          · have hr : Hid (okDate j i d = false) := Lib.hid (okDate_no fun ⟨_, h⟩ => by rw [hnum.out] at h; omega)
            go_wp2
            go_ret2
            exact ⟨ret_ib (by unfold dayV; rw [hr.out]; rfl) hr.out.symm, rfl⟩
          · have hr : Hid (okDate j i d = true) := Lib.hid (okDate_iff.2 ⟨hv.out, by rw [hnum.out]; omega⟩)
            go_wp2
            go_ret2
            exact ⟨ret_ib (by unfold dayV; rw [hr.out, if_pos rfl, hnum.out]) hr.out.symm, rfl⟩

set_option maxHeartbeats 1000000 in
theorem daysF (y m d : Int) (w : World) : Calls Tryd.prog 11 #[.int .i64 y, .int .i64 m, .int .i64 d] w fun e w' => e = .returned (.tuple #[.int .i64 (dayV y m d), .bool (okDate y m d)]) ∧ w = w' := by
  by_cases c1 : y < 1970
  · have hr : Hid (okDate y m d = false) := Lib.hid (okDate_no fun ⟨⟨_, _, _, _, _⟩, _⟩ => by omega)
    go_enter Tryd.func11, Tryd.ntmps11
    go_wp2
    go_ret2
    exact ⟨ret_ib (by unfold dayV; rw [hr.out]; rfl) hr.out.symm, rfl⟩
  have b1 : decide (y < 1970) = false := by simpa using c1
  by_cases c2 : 3066 < y
  · have hr : Hid (okDate y m d = false) := Lib.hid (okDate_far (by omega))
    go_enter Tryd.func11, Tryd.ntmps11
    go_wp2
    go_ret2
    exact ⟨ret_ib (by unfold dayV; rw [hr.out]; rfl) hr.out.symm, rfl⟩
  have b2 : decide (3066 < y) = false := by simpa using c2
  by_cases c3 : m < 1
  · have hr : Hid (okDate y m d = false) := Lib.hid (okDate_no fun ⟨⟨_, _, _, _, _⟩, _⟩ => by omega)
    go_enter Tryd.func11, Tryd.ntmps11
    go_wp2
    go_ret2
    exact ⟨ret_ib (by unfold dayV; rw [hr.out]; rfl) hr.out.symm, rfl⟩
  have b3 : decide (m < 1) = false := by simpa using c3
  by_cases c4 : 12 < m
  · have hr : Hid (okDate y m d = false) := Lib.hid (okDate_no fun ⟨⟨_, _, _, _, _⟩, _⟩ => by omega)
    go_enter Tryd.func11, Tryd.ntmps11
    go_wp2
    go_ret2
    exact ⟨ret_ib (by unfold dayV; rw [hr.out]; rfl) hr.out.symm, rfl⟩
  have b4 : decide (12 < m) = false := by simpa using c4
  by_cases c5 : d < 1
  · have hr : Hid (okDate y m d = false) := Lib.hid (okDate_no fun ⟨⟨_, _, _, _, _⟩, _⟩ => by omega)
    go_enter Tryd.func11, Tryd.ntmps11
    go_wp2
    go_ret2
    exact ⟨ret_ib (by unfold dayV; rw [hr.out]; rfl) hr.out.symm, rfl⟩
  have b5 : decide (d < 1) = false := by simpa using c5
  by_cases c6 : dim y m < d
  · have hr : Hid (okDate y m d = false) := Lib.hid (okDate_no fun ⟨⟨_, _, _, _, _⟩, _⟩ => by omega)
    go_enter Tryd.func11, Tryd.ntmps11
    go_wp2_with (go_at_call 26; refine (lengthF _ _ _ (by omega) (by omega) (by omega)).mono ?_; rintro e w' ⟨rfl, rfl⟩)
    go_ret2
    exact ⟨ret_ib (by unfold dayV; rw [hr.out]; rfl) hr.out.symm, rfl⟩
  have b6 : decide (dim y m < d) = false := by simpa using c6
  have hd := dim_bd y m
  have hv : Hid (vld y m d) := Lib.hid ⟨by omega, by omega, by omega, by omega, by omega⟩
  have hy := dby_bd (y := y) (by omega) (by omega)
  go_enter Tryd.func11, Tryd.ntmps11
  go_wp2_with (go_at_call 26; refine (lengthF _ _ _ (by omega) (by omega) (by omega)).mono ?_; rintro e w' ⟨rfl, rfl⟩)
  go_loop [8, 9] (fun n k => ∃ j : Int, 1970 ≤ j ∧ j ≤ y ∧ k = .int .i64 j ∧ n = .int .i64 (d - 1 + dby j)) (fun _ k => (y - intOf k).toNat)
  case atStart => exact ⟨1970, by omega, by omega, rfl, by rw [dby_1970]; go_num⟩
  case round =>
    obtain ⟨j, j1, j2, rfl, rfl⟩ := hrel
    have hj := dby_bd (y := j) (by omega) (by omega)
    have hs := Lib.hid (dby_succ j)
    have hl := lp_01 j
    by_cases hlt : j < y
    · cases hlb : lpB j
      all_goals
        have HB := Lib.hid hlb
        have hlv : Hid (lp j = if lpB j = true then 1 else 0) := Lib.hid rfl
        go_wp2_with (go_at_call 27; refine (leapF _ _ (by omega)).mono ?_; rintro e w' ⟨rfl, rfl⟩)
        go_round
        case rel => exact ⟨j + 1, by omega, by omega, rfl, by rw [hs.out, hlv.out, HB.out]; simp; omega⟩
        case measure => simp [intOf]; omega
    · obtain rfl : j = y := by omega
      go_wp2
      go_loop [8, 10] (fun n k => ∃ i : Int, 1 ≤ i ∧ i ≤ m ∧ k = .int .i64 i ∧ n = .int .i64 (d - 1 + dby j + cum j i)) (fun _ k => (m - intOf k).toNat)
      case atStart => exact ⟨1, by omega, by omega, rfl, by rw [cum_1]; go_num⟩
      case round =>
        obtain ⟨i, i1, i2, rfl, rfl⟩ := hrel
        have hi := cum_bd (y := j) (m := i) (by omega) (by omega)
        have hs := Lib.hid (cum_succ j i (by omega) (by omega))
        have hdi := dim_bd j i
        by_cases hlt : i < m
        · go_wp2_with (go_at_call 26; refine (lengthF _ _ _ (by omega) (by omega) (by omega)).mono ?_; rintro e w' ⟨rfl, rfl⟩)
          go_round
          case rel => exact ⟨i + 1, by omega, by omega, rfl, by rw [hs.out]; go_num⟩
          case measure => simp [intOf]; omega
        · obtain rfl : i = m := by omega
          have hnum : Hid (num j i d = d - 1 + dby j + cum j i) := Lib.hid (by unfold num; omega)
          by_cases hbig : 400000 < d - 1 + dby j + cum j i
          · have hr : Hid (okDate j i d = false) := Lib.hid (okDate_no fun ⟨_, h⟩ => by rw [hnum.out] at h; omega)
            go_wp2
            go_ret2
            exact ⟨ret_ib (by unfold dayV; rw [hr.out]; rfl) hr.out.symm, rfl⟩
          · have hr : Hid (okDate j i d = true) := Lib.hid (okDate_iff.2 ⟨hv.out, by rw [hnum.out]; omega⟩)
            go_wp2
            go_ret2
            exact ⟨ret_ib (by unfold dayV; rw [hr.out, if_pos rfl, hnum.out]) hr.out.symm, rfl⟩
end Go.Proofs.YtiombgjkcfhibaaDoor
