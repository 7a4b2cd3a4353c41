/- Contracts of the two functions AddMonths. -/
import Derived.Test.YtiombgjkcfhibaaDoorDays
import Derived.Test.YtiombgjkcfhibaaDoorDate
namespace Go.Proofs.YtiombgjkcfhibaaDoor
open Go.RowKit
set_option linter.unusedSimpArgs false
set_option linter.unusedVariables false

def amT (y m n : Int) : Int := y * 12 + m - 1 + n
def amB (y m d n : Int) : Bool := if amT y m n < 23640 then false else okDate (amT y m n / 12) (amT y m n % 12 + 1) (min d (dim (amT y m n / 12) (amT y m n % 12 + 1)))
def amV (y m d n : Int) : Int := if amT y m n < 23640 then 0 else dayV (amT y m n / 12) (amT y m n % 12 + 1) (min d (dim (amT y m n / 12) (amT y m n % 12 + 1)))
def AmR (k n : Int) (w : World) (e : Ending) (w' : World) : Prop := ∃ y m d : Int, IsDate k y m d ∧ e = .returned (.tuple #[.int .i64 (amV y m d n), .bool (amB y m d n)]) ∧ w = w'
/-- are both arguments in their ranges? -/
def amIn (k n : Int) : Prop := 0 ≤ k ∧ k ≤ 400000 ∧ -400000 ≤ n ∧ n ≤ 400000
theorem isDate_bd {k y m d : Int} (h : IsDate k y m d) (hk : k ≤ 400000) : 1970 ≤ y ∧ y ≤ 3065 ∧ 1 ≤ m ∧ m ≤ 12 ∧ 1 ≤ d ∧ d ≤ 31 := by
  obtain ⟨h1, h2⟩ := h
  have a := num_lo h1
  have b := dby_lt (y := y) (n := k) (by omega) hk
  obtain ⟨c1, c2, c3, c4, c5⟩ := h1
  have := dim_bd y m
  omega

theorem amNoE (k n : Int) (w : World) (hT : Tab w) (h : ¬ amIn k n) : Calls Tryd.prog 21 #[.int .i64 k, .int .i64 n] w fun e w' => e = .returned (.tuple #[.int .i64 0, .bool false]) ∧ w = w' := by
  by_cases h1 : k < 0 ∨ 400000 < k
  · go_enter Tryd.func21, Tryd.ntmps21
    go_wp2_with (go_at_call 19; refine (dateNoE _ _ (by omega)).mono ?_; rintro e w' ⟨rfl, rfl⟩)
    go_ret2
    exact ⟨rfl, rfl⟩
  · by_cases h2 : n < -400000
    · clear h
      go_enter Tryd.func21, Tryd.ntmps21
      go_wp2_with fail
      refine (dateE _ _ hT (by omega) (by omega)).mono ?_
      rintro e w' ⟨y, m, d, hD, rfl, rfl⟩
      have HD := Lib.hid hD
      clear hD
      go_wp2
      go_ret2
      exact ⟨rfl, rfl⟩
    · have h3 : 400000 < n := by unfold amIn at h; omega
      have h2' : decide (n < -400000) = false := by simpa using h2
      clear h
      go_enter Tryd.func21, Tryd.ntmps21
      go_wp2_with fail
      refine (dateE _ _ hT (by omega) (by omega)).mono ?_
      rintro e w' ⟨y, m, d, hD, rfl, rfl⟩
      have HD := Lib.hid hD
      clear hD
      go_wp2
      go_ret2
      exact ⟨rfl, rfl⟩
set_option maxHeartbeats 1000000 in
theorem amE (k n : Int) (w : World) (hT : Tab w) (h : amIn k n) : Calls Tryd.prog 21 #[.int .i64 k, .int .i64 n] w (AmR k n w) := by
  obtain ⟨k1, k2, n1, n2⟩ := h
  have g1 : decide (n < -400000) = false := by simp; omega
  have g2 : decide (400000 < n) = false := by simp; omega
  go_enter Tryd.func21, Tryd.ntmps21
  go_wp2_with fail
  refine (dateE _ _ hT (by omega) (by omega)).mono ?_
  rintro e w' ⟨y, m, d, hD, rfl, rfl⟩
  obtain ⟨y1, y2, m1, m2, d1, d2⟩ := isDate_bd hD k2
  have HD := Lib.hid hD
  clear hD
  by_cases t1 : y * 12 + m - 1 + n < 23640
  · have HV : Hid (amV y m d n = 0) := Lib.hid (by unfold amV amT; rw [if_pos t1])
    have HB : Hid (amB y m d n = false) := Lib.hid (by unfold amB amT; rw [if_pos t1])
    go_wp2
    go_ret2
    exact ⟨y, m, d, HD.out, ret_ib HV.out.symm HB.out.symm, rfl⟩
  · have g3 : decide (y * 12 + m - 1 + n < 23640) = false := by simpa using t1
    have HV : Hid (amV y m d n = dayV ((y * 12 + m - 1 + n) / 12) ((y * 12 + m - 1 + n) % 12 + 1) (min d (dim ((y * 12 + m - 1 + n) / 12) ((y * 12 + m - 1 + n) % 12 + 1)))) := Lib.hid (by unfold amV amT; rw [if_neg t1])
    have HB : Hid (amB y m d n = okDate ((y * 12 + m - 1 + n) / 12) ((y * 12 + m - 1 + n) % 12 + 1) (min d (dim ((y * 12 + m - 1 + n) / 12) ((y * 12 + m - 1 + n) % 12 + 1)))) := Lib.hid (by unfold amB amT; rw [if_neg t1])
    by_cases t2 : 3065 < (y * 12 + m - 1 + n) / 12
    · have HF : Hid (∀ a b, okDate ((y * 12 + m - 1 + n) / 12) a b = false) := Lib.hid (fun a b => okDate_far (by omega))
      go_wp2
      go_ret2
      exact ⟨y, m, d, HD.out, ret_ib (by rw [HV.out]; unfold dayV; rw [HF.out]; rfl) (by rw [HB.out, HF.out]), rfl⟩
    · have g4 : decide (3065 < (y * 12 + m - 1 + n) / 12) = false := by simpa using t2
      rcases Int.lt_or_le (dim ((y * 12 + m - 1 + n) / 12) ((y * 12 + m - 1 + n) % 12 + 1)) d with hm | hm
      all_goals
        go_wp2_with (first
          | (go_at_call 24; refine (lengthE _ _ _ hT (by omega) (by omega) (by omega)).mono ?_; rintro e w' ⟨rfl, rfl⟩)
          | (go_at_call 10; refine (daysE _ _ _ _ hT).mono ?_; rintro e w' ⟨rfl, rfl⟩))
        go_ret2
        exact ⟨y, m, d, HD.out, ret_ib (by rw [HV.out]; congr 1; omega) (by rw [HB.out]; congr 1; omega), rfl⟩

theorem amNoF (k n : Int) (w : World) (h : ¬ amIn k n) : Calls Tryd.prog 22 #[.int .i64 k, .int .i64 n] w fun e w' => e = .returned (.tuple #[.int .i64 0, .bool false]) ∧ w = w' := by
  by_cases h1 : k < 0 ∨ 400000 < k
  · go_enter Tryd.func22, Tryd.ntmps22
    go_wp2_with (go_at_call 20; refine (dateNoF _ _ (by omega)).mono ?_; rintro e w' ⟨rfl, rfl⟩)
    go_ret2
    exact ⟨rfl, rfl⟩
  · by_cases h2 : n < -400000
    · clear h
      go_enter Tryd.func22, Tryd.ntmps22
      go_wp2_with fail
      refine (dateF _ _ (by omega) (by omega)).mono ?_
      rintro e w' ⟨y, m, d, hD, rfl, rfl⟩
      have HD := Lib.hid hD
      clear hD
      go_wp2
      go_ret2
      exact ⟨rfl, rfl⟩
    · have h3 : 400000 < n := by unfold amIn at h; omega
      have h2' : decide (n < -400000) = false := by simpa using h2
      clear h
      go_enter Tryd.func22, Tryd.ntmps22
      go_wp2_with fail
      refine (dateF _ _ (by omega) (by omega)).mono ?_
      rintro e w' ⟨y, m, d, hD, rfl, rfl⟩
      have HD := Lib.hid hD
      clear hD
      go_wp2
      go_ret2
      exact ⟨rfl, rfl⟩
set_option maxHeartbeats 1000000 in
theorem amF (k n : Int) (w : World) (h : amIn k n) : Calls Tryd.prog 22 #[.int .i64 k, .int .i64 n] w (AmR k n w) := by
  obtain ⟨k1, k2, n1, n2⟩ := h
  have g1 : decide (n < -400000) = false := by simp; omega
  have g2 : decide (400000 < n) = false := by simp; omega
  go_enter Tryd.func22, Tryd.ntmps22
  go_wp2_with fail
  refine (dateF _ _ (by omega) (by omega)).mono ?_
  rintro e w' ⟨y, m, d, hD, rfl, rfl⟩
  obtain ⟨y1, y2, m1, m2, d1, d2⟩ := isDate_bd hD k2
  have HD := Lib.hid hD
  clear hD
  by_cases t1 : y * 12 + m - 1 + n < 23640
  · have HV : Hid (amV y m d n = 0) := Lib.hid (by unfold amV amT; rw [if_pos t1])
    have HB : Hid (amB y m d n = false) := Lib.hid (by unfold amB amT; rw [if_pos t1])
    go_wp2
    go_ret2
    exact ⟨y, m, d, HD.out, ret_ib HV.out.symm HB.out.symm, rfl⟩
  · have g3 : decide (y * 12 + m - 1 + n < 23640) = false := by simpa using t1
    have HV : Hid (amV y m d n = dayV ((y * 12 + m - 1 + n) / 12) ((y * 12 + m - 1 + n) % 12 + 1) (min d (dim ((y * 12 + m - 1 + n) / 12) ((y * 12 + m - 1 + n) % 12 + 1)))) := Lib.hid (by unfold amV amT; rw [if_neg t1])
    have HB : Hid (amB y m d n = okDate ((y * 12 + m - 1 + n) / 12) ((y * 12 + m - 1 + n) % 12 + 1) (min d (dim ((y * 12 + m - 1 + n) / 12) ((y * 12 + m - 1 + n) % 12 + 1)))) := Lib.hid (by unfold amB amT; rw [if_neg t1])
    by_cases t2 : 3066 < (y * 12 + m - 1 + n) / 12
    · have HF : Hid (∀ a b, okDate ((y * 12 + m - 1 + n) / 12) a b = false) := Lib.hid (fun a b => okDate_far (by omega))
      go_wp2
      go_ret2
      exact ⟨y, m, d, HD.out, ret_ib (by rw [HV.out]; unfold dayV; rw [HF.out]; rfl) (by rw [HB.out, HF.out]), rfl⟩
    · have g4 : decide (3066 < (y * 12 + m - 1 + n) / 12) = false := by simpa using t2
      rcases Int.lt_or_le (dim ((y * 12 + m - 1 + n) / 12) ((y * 12 + m - 1 + n) % 12 + 1)) d with hm | hm
      all_goals
        go_wp2_with (first
          | (go_at_call 26; refine (lengthF _ _ _ (by omega) (by omega) (by omega)).mono ?_; rintro e w' ⟨rfl, rfl⟩)
          | (go_at_call 11; refine (daysF _ _ _ _ ).mono ?_; rintro e w' ⟨rfl, rfl⟩))
        go_ret2
        exact ⟨y, m, d, HD.out, ret_ib (by rw [HV.out]; congr 1; omega) (by rw [HB.out]; congr 1; omega), rfl⟩
end Go.Proofs.YtiombgjkcfhibaaDoor
