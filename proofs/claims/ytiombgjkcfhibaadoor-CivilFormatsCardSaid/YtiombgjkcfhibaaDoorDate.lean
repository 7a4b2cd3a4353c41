/- Contracts of the two functions Date. -/
import Derived.Test.YtiombgjkcfhibaaDoorWalks
namespace Go.Proofs.YtiombgjkcfhibaaDoor
open Go.RowKit
set_option linter.unusedSimpArgs false
set_option linter.unusedVariables false

/-- y, m, d is the date of the day n -/
def IsDate (n y m d : Int) : Prop := vld y m d ∧ num y m d = n
/-- the result of Date inside its range -/
def DateR (n : Int) (w : World) (e : Ending) (w' : World) : Prop := ∃ y m d : Int, IsDate n y m d ∧ e = .returned (.tuple #[.int .i64 y, .int .i64 m, .int .i64 d, .bool true]) ∧ w = w'

theorem dateNoE (n : Int) (w : World) (h : n < 0 ∨ 400000 < n) : Calls Tryd.prog 19 #[.int .i64 n] w fun e w' => e = .returned (.tuple #[.int .i64 0, .int .i64 0, .int .i64 0, .bool false]) ∧ w = w' := by
  rcases h with h | h
  · go_enter Tryd.func19, Tryd.ntmps19
    go_wp2
    go_step3
    go_wp2
    try rw [Exit.noGoto_ret]
    refine bodyPost_ret (results4 rfl _ _ _) rfl ?_
    exact ⟨rfl, rfl⟩
  · have b : decide (n < 0) = false := by simp; omega
    go_enter Tryd.func19, Tryd.ntmps19
    go_wp2
    go_step3
    go_wp2
    try rw [Exit.noGoto_ret]
    refine bodyPost_ret (results4 rfl _ _ _) rfl ?_
    exact ⟨rfl, rfl⟩
theorem dateNoF (n : Int) (w : World) (h : n < 0 ∨ 400000 < n) : Calls Tryd.prog 20 #[.int .i64 n] w fun e w' => e = .returned (.tuple #[.int .i64 0, .int .i64 0, .int .i64 0, .bool false]) ∧ w = w' := by
  rcases h with h | h
  · go_enter Tryd.func20, Tryd.ntmps20
    go_wp2
    refine bodyPost_ret (results4 rfl _ _ _) rfl ?_
    exact ⟨rfl, rfl⟩
  · have b : decide (n < 0) = false := by simp; omega
    go_enter Tryd.func20, Tryd.ntmps20
    go_wp2
    refine bodyPost_ret (results4 rfl _ _ _) rfl ?_
    exact ⟨rfl, rfl⟩

theorem dby_lt {y n : Int} (h : dby y ≤ n) (hn : n ≤ 400000) : y ≤ 3065 := by
  rcases Int.lt_or_le 3065 y with h1 | h1
  · have := dby_mono 3066 y (by omega); rw [dby_3066] at this; omega
  · exact h1

set_option maxHeartbeats 1000000 in
theorem dateE (n : Int) (w : World) (hT : Tab w) (h1 : 0 ≤ n) (h2 : n ≤ 400000) : Calls Tryd.prog 19 #[.int .i64 n] w (DateR n w) := by
  have b1 : decide (n < 0) = false := by simp; omega
  have b2 : decide (400000 < n) = false := by simp; omega
  go_enter Tryd.func19, Tryd.ntmps19
  go_wp2
  go_step3
  go_wp2
  go_step3
  go_wp2
  go_loop [2, 6] (fun a r => ∃ y : Int, 1970 ≤ y ∧ a = .int .i64 y ∧ r = .int .i64 (n - dby y) ∧ 0 ≤ n - dby y) (fun _ r => (intOf r).toNat)
  case atStart => exact ⟨1970, by omega, rfl, by rw [dby_1970]; go_num, by rw [dby_1970]; omega⟩
  case round =>
    obtain ⟨y, y1, rfl, rfl, hr⟩ := hrel
    have hy := dby_lt (y := y) (n := n) (by omega) h2
    have hb := dby_bd (y := y) (by omega) (by omega)
    have hys := Lib.hid (dby_succ y)
    have hl := lp_01 y
    by_cases hlt : 365 + lp y ≤ n - dby y
    · go_wp2_with (go_at_call 25; refine (yearE _ _ (by omega)).mono ?_; rintro e w' ⟨rfl, rfl⟩)
      go_round
      case rel => exact ⟨y + 1, by omega, rfl, by rw [hys.out]; go_num, by rw [hys.out]; omega⟩
      case measure => simp [intOf]; omega
    · go_wp2_with (go_at_call 25; refine (yearE _ _ (by omega)).mono ?_; rintro e w' ⟨rfl, rfl⟩)
      go_loop [3, 6] (fun b r => ∃ m : Int, 1 ≤ m ∧ m ≤ 12 ∧ b = .int .i64 m ∧ r = .int .i64 (n - dby y - cum y m) ∧ 0 ≤ n - dby y - cum y m) (fun _ r => (intOf r).toNat)
      case atStart => exact ⟨1, by omega, by omega, rfl, by rw [cum_1]; go_num, by rw [cum_1]; omega⟩
      case round =>
        obtain ⟨m, m1, m2, rfl, rfl, hr2⟩ := hrel
        have hc := cum_bd (y := y) m1 m2
        have hs := Lib.hid (cum_succ y m m1 m2)
        have hd := dim_bd y m
        by_cases hlt2 : n - dby y - cum y m < dim y m
        · have hD : Hid (IsDate n y m (n - dby y - cum y m + 1)) := Lib.hid ⟨⟨y1, m1, m2, by omega, by omega⟩, by unfold num; omega⟩
          go_wp2_with (go_at_call 24; refine (lengthE _ _ _ hT (by omega) (by omega) (by omega)).mono ?_; rintro e w' ⟨rfl, rfl⟩)
          try rw [Exit.noGoto_ret]
          refine bodyPost_ret (results4 rfl _ _ _) rfl ?_
          exact ⟨y, m, _, hD.out, rfl, rfl⟩
        · have hm : m < 12 := by
            rcases Int.lt_or_le m 12 with h | h
            · exact h
            · obtain rfl : m = 12 := by omega
              have := hs.out
              rw [show (12 : Int) + 1 = 13 from rfl, cum_13] at this
              omega
          go_wp2_with (go_at_call 24; refine (lengthE _ _ _ hT (by omega) (by omega) (by omega)).mono ?_; rintro e w' ⟨rfl, rfl⟩)
          go_round
          case rel => exact ⟨m + 1, by omega, by omega, rfl, by rw [hs.out]; go_num, by rw [hs.out]; omega⟩
          case measure => simp [intOf]; omega
set_option maxHeartbeats 1000000 in
theorem dateF (n : Int) (w : World) (h1 : 0 ≤ n) (h2 : n ≤ 400000) : Calls Tryd.prog 20 #[.int .i64 n] w (DateR n w) := by
  have b1 : decide (n < 0) = false := by simp; omega
  have b2 : decide (400000 < n) = false := by simp; omega
  go_enter Tryd.func20, Tryd.ntmps20
  go_wp2
  go_loop [0, 2, 3] (fun r a b => ∃ y m : Int, 1970 ≤ y ∧ 1 ≤ m ∧ m ≤ 12 ∧ a = .int .i64 y ∧ b = .int .i64 m ∧ r = .int .i64 (n - dby y - cum y m) ∧ 0 ≤ n - dby y - cum y m) (fun r _ _ => (intOf r).toNat)
  case atStart => exact ⟨1970, 1, by omega, by omega, by omega, rfl, rfl, by rw [dby_1970, cum_1]; go_num, by rw [dby_1970, cum_1]; omega⟩
  case round =>
    obtain ⟨y, m, y1, m1, m2, rfl, rfl, rfl, hr⟩ := hrel
    have hc := cum_bd (y := y) m1 m2
    have hy := dby_lt (y := y) (n := n) (by omega) h2
    have hs := Lib.hid (cum_succ y m m1 m2)
    have hd := dim_bd y m
    have hb := dby_bd (y := y) (by omega) (by omega)
    have hys := Lib.hid (dby_succ y)
    have hl := lp_01 y
    by_cases hlt : dim y m ≤ n - dby y - cum y m
    · by_cases hm : m < 12
      · go_wp2_with (go_at_call 26; refine (lengthF _ _ _ (by omega) (by omega) (by omega)).mono ?_; rintro e w' ⟨rfl, rfl⟩)
        go_round
        case rel => exact ⟨y, m + 1, by omega, by omega, by omega, rfl, rfl, by rw [hs.out]; go_num, by rw [hs.out]; omega⟩
        case measure => simp [intOf]; omega
      · obtain rfl : m = 12 := by omega
        have hc13 : Hid (cum y 12 + dim y 12 = 365 + lp y) := Lib.hid (by have := hs.out; rw [show (12 : Int) + 1 = 13 from rfl, cum_13] at this; omega)
        go_wp2_with (go_at_call 26; refine (lengthF _ _ _ (by omega) (by omega) (by omega)).mono ?_; rintro e w' ⟨rfl, rfl⟩)
        go_round
        case rel => exact ⟨y + 1, 1, by omega, by omega, by omega, rfl, rfl, by rw [hys.out, cum_1]; have := hc13.out; go_num, by rw [hys.out, cum_1]; have := hc13.out; omega⟩
        case measure => simp [intOf]; omega
    · have hD : Hid (IsDate n y m (n - dby y - cum y m + 1)) := Lib.hid ⟨⟨y1, m1, m2, by omega, by omega⟩, by unfold num; omega⟩
      go_wp2_with (go_at_call 26; refine (lengthF _ _ _ (by omega) (by omega) (by omega)).mono ?_; rintro e w' ⟨rfl, rfl⟩)
      refine bodyPost_ret (results4 rfl _ _ _) rfl ?_
      exact ⟨y, m, _, hD.out, rfl, rfl⟩
end Go.Proofs.YtiombgjkcfhibaaDoor
