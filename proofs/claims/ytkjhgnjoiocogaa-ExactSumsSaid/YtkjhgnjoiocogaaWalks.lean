/- Contracts of the small functions of package exact, of its reference and of the laws' helpers: each returns what the plain function computes. -/
import Derived.Test.YtkjhgnjoiocogaaRows
import Derived.Test.YtkjhgnjoiocogaaPlain
import Derived.WalkKit
import Derived.WalkSpells
import Derived.Outline
import Derived.BigQuiet
import Derived.Deep.QuietTactic
import Derived.Lib.Hide
namespace Go.Proofs.Ytkjhgnjoiocogaa
open Go.RowKit
set_option linter.unusedSimpArgs false
set_option linter.unusedVariables false

theorem ret_int {k : IntKind} {a b : Int} (h : a = b) : Ending.returned (.int k a) = .returned (.int k b) := by rw [h]
theorem ret_ib {k : IntKind} {a b : Int} {p q : Bool} (h : a = b) (h' : p = q) : Ending.returned (.tuple #[.int k a, .bool p]) = .returned (.tuple #[.int k b, .bool q]) := by rw [h, h']
theorem ret_bool {a b : Bool} (h : a = b) : Ending.returned (.bool a) = .returned (.bool b) := by rw [h]

set_option maxHeartbeats 400000 in
theorem near_any (n : Int) (w : World) :
    Calls Try.prog 14 #[.int .i64 n] w fun e w' => e = .returned (.int .i64 (nr n)) ∧ w = w' := by
  have e3 := and3 (n / 256)
  have e7 := and7 n
  have e255 := and255 n
  by_cases h1 : n / 256 % 4 = 0
  · have hr : nr n = 1073741824 - n % 8 + 3 := by unfold nr; rw [if_pos h1]
    have b1 : (n / 256 % 4 == 0) = true := by simpa using h1
    clear h1
    go_enter Try.func14, Try.ntmps14
    go_wp2
    go_ret
    exact ⟨ret_int hr.symm, rfl⟩
  · by_cases h2 : n / 256 % 4 = 1
    · have hr : nr n = n % 8 - 3 - 1073741824 := by unfold nr; rw [if_neg h1, if_pos h2]
      have b1 : (n / 256 % 4 == 0) = false := by simpa using h1
      have b2 : (n / 256 % 4 == 1) = true := by simpa using h2
      clear h1 h2
      go_enter Try.func14, Try.ntmps14
      go_wp2
      go_ret
      exact ⟨ret_int hr.symm, rfl⟩
    · have hr : nr n = n % 256 - 128 := by unfold nr; rw [if_neg h1, if_neg h2]
      have b1 : (n / 256 % 4 == 0) = false := by simpa using h1
      have b2 : (n / 256 % 4 == 1) = false := by simpa using h2
      clear h1 h2
      go_enter Try.func14, Try.ntmps14
      go_wp2
      go_ret
      exact ⟨ret_int hr.symm, rfl⟩

theorem below_drewN {B : Nat} {a w : World} (h : Below B a w) (n : Nat) : Below B a (w.drewN n) := ⟨h.os, h.tape, h.output, h.size, h.block⟩
theorem bcell {B : Nat} {W w1 : World} (hb : Below B W w1) : (∀ b o, b < B → w1.cell? ⟨b, o, none⟩ = W.cell? ⟨b, o, none⟩) ∧ (∀ b o, b < B → w1.frozen? ⟨b, o, none⟩ = W.frozen? ⟨b, o, none⟩) :=
  ⟨fun b o h => hb.cell (p := ⟨b, o, none⟩) h, fun b o h => hb.frozen (p := ⟨b, o, none⟩) h⟩

/-! small -/
theorem smallE (n : Int) (w : World) : Calls Try.prog 36 #[.int .i64 n] w fun e w' => e = .returned (.bool (sm n)) ∧ w = w' := by
  by_cases h1 : -1073741824 ≤ n
  · by_cases h2 : n ≤ 1073741824
    · have hs : Hid (sm n = true) := Lib.hid (sm_iff.2 ⟨h1, h2⟩)
      go_enter Try.func36, Try.ntmps36
      go_wp2
      go_ret
      exact ⟨ret_bool hs.out.symm, rfl⟩
    · have hs : Hid (sm n = false) := Lib.hid (by unfold sm; simp; omega)
      have hd : decide (n ≤ 1073741824) = false := by simpa using h2
      go_enter Try.func36, Try.ntmps36
      go_wp2
      go_ret
      exact ⟨ret_bool hs.out.symm, rfl⟩
  · have hs : Hid (sm n = false) := Lib.hid (by unfold sm; simp; omega)
    have hd : decide (-1073741824 ≤ n) = false := by simpa using h1
    go_enter Try.func36, Try.ntmps36
    go_wp2
    go_ret
    exact ⟨ret_bool hs.out.symm, rfl⟩
/-! small -/
theorem smallF (n : Int) (w : World) : Calls Try.prog 32 #[.int .i64 n] w fun e w' => e = .returned (.bool (sm n)) ∧ w = w' := by
  by_cases h1 : -1073741824 ≤ n
  · by_cases h2 : n ≤ 1073741824
    · have hs : Hid (sm n = true) := Lib.hid (sm_iff.2 ⟨h1, h2⟩)
      go_enter Try.func32, Try.ntmps32
      go_wp2
      go_ret
      exact ⟨ret_bool hs.out.symm, rfl⟩
    · have hs : Hid (sm n = false) := Lib.hid (by unfold sm; simp; omega)
      have hd : decide (n ≤ 1073741824) = false := by simpa using h2
      go_enter Try.func32, Try.ntmps32
      go_wp2
      go_ret
      exact ⟨ret_bool hs.out.symm, rfl⟩
  · have hs : Hid (sm n = false) := Lib.hid (by unfold sm; simp; omega)
    have hd : decide (-1073741824 ≤ n) = false := by simpa using h1
    go_enter Try.func32, Try.ntmps32
    go_wp2
    go_ret
    exact ⟨ret_bool hs.out.symm, rfl⟩

/-! checked -/
theorem checkedE (n : Int) (w : World) : Calls Try.prog 37 #[.int .i64 n] w fun e w' => e = .returned (.tuple #[.int .i64 (valC n), .bool (sm n)]) ∧ w = w' := by
  cases hs : sm n
  all_goals
    have H := Lib.hid hs
    go_enter Try.func37, Try.ntmps37
    go_wp2_with (go_at_call 36; refine (smallE _ _).mono ?_; rintro e w' ⟨rfl, rfl⟩)
    go_ret2
    exact ⟨ret_ib (by simp [valC, H.out]) (by simp [H.out]), rfl⟩
theorem checkedF (a b r : Int) (w : World) : Calls Try.prog 38 #[.int .i64 a, .int .i64 b, .int .i64 r] w fun e w' => e = .returned (.tuple #[.int .i64 (valR a b r), .bool (okR a b r)]) ∧ w = w' := by
  cases ha : sm a
  · have HA := Lib.hid ha
    go_enter Try.func38, Try.ntmps38
    go_wp2_with (go_at_call 32; refine (smallF _ _).mono ?_; rintro e w' ⟨rfl, rfl⟩)
    go_ret2
    exact ⟨ret_ib (by simp [valR, okR, HA.out]) (by simp [okR, HA.out]), rfl⟩
  · have HA := Lib.hid ha
    cases hb : sm b
    · have HB := Lib.hid hb
      go_enter Try.func38, Try.ntmps38
      go_wp2_with (go_at_call 32; refine (smallF _ _).mono ?_; rintro e w' ⟨rfl, rfl⟩)
      go_ret2
      exact ⟨ret_ib (by simp [valR, okR, HA.out, HB.out]) (by simp [okR, HA.out, HB.out]), rfl⟩
    · have HB := Lib.hid hb
      cases hr : sm r
      all_goals
        have HR := Lib.hid hr
        go_enter Try.func38, Try.ntmps38
        go_wp2_with (go_at_call 32; refine (smallF _ _).mono ?_; rintro e w' ⟨rfl, rfl⟩)
        go_ret2
        exact ⟨ret_ib (by simp [valR, okR, HA.out, HB.out, HR.out]) (by simp [okR, HA.out, HB.out, HR.out]), rfl⟩


/-! Add, Subtract, Multiply -/
theorem addE (a b : Int) (w : World) : Calls Try.prog 23 #[.int .i64 a, .int .i64 b] w fun e w' => e = .returned (.tuple #[.int .i64 (valR a b (a + b)), .bool (okR a b (a + b))]) ∧ w = w' := by
  cases ha : sm a
  · have HA := Lib.hid ha
    go_enter Try.func23, Try.ntmps23
    go_wp2_with (go_at_call 36; refine (smallE _ _).mono ?_; rintro e w' ⟨rfl, rfl⟩)
    go_ret2
    exact ⟨ret_ib (by simp [valR, okR, HA.out]) (by simp [okR, HA.out]), rfl⟩
  · have HA := Lib.hid ha
    cases hb : sm b
    · have HB := Lib.hid hb
      go_enter Try.func23, Try.ntmps23
      go_wp2_with (go_at_call 36; refine (smallE _ _).mono ?_; rintro e w' ⟨rfl, rfl⟩)
      go_ret2
      exact ⟨ret_ib (by simp [valR, okR, HA.out, HB.out]) (by simp [okR, HA.out, HB.out]), rfl⟩
    · have HB := Lib.hid hb
      have ba := sm_yes ha
      have bb := sm_yes hb
      skip
      go_enter Try.func23, Try.ntmps23
      go_wp2_with (first
        | (go_at_call 36; refine (smallE _ _).mono ?_; rintro e w' ⟨rfl, rfl⟩)
        | (go_at_call 37; refine (checkedE _ _).mono ?_; rintro e w' ⟨rfl, rfl⟩))
      go_ret2
      exact ⟨ret_ib (by simp [valC, valR, okR, HA.out, HB.out]) (by simp [okR, HA.out, HB.out]), rfl⟩

theorem subE (a b : Int) (w : World) : Calls Try.prog 25 #[.int .i64 a, .int .i64 b] w fun e w' => e = .returned (.tuple #[.int .i64 (valR a b (a - b)), .bool (okR a b (a - b))]) ∧ w = w' := by
  cases ha : sm a
  · have HA := Lib.hid ha
    go_enter Try.func25, Try.ntmps25
    go_wp2_with (go_at_call 36; refine (smallE _ _).mono ?_; rintro e w' ⟨rfl, rfl⟩)
    go_ret2
    exact ⟨ret_ib (by simp [valR, okR, HA.out]) (by simp [okR, HA.out]), rfl⟩
  · have HA := Lib.hid ha
    cases hb : sm b
    · have HB := Lib.hid hb
      go_enter Try.func25, Try.ntmps25
      go_wp2_with (go_at_call 36; refine (smallE _ _).mono ?_; rintro e w' ⟨rfl, rfl⟩)
      go_ret2
      exact ⟨ret_ib (by simp [valR, okR, HA.out, HB.out]) (by simp [okR, HA.out, HB.out]), rfl⟩
    · have HB := Lib.hid hb
      have ba := sm_yes ha
      have bb := sm_yes hb
      skip
      go_enter Try.func25, Try.ntmps25
      go_wp2_with (first
        | (go_at_call 36; refine (smallE _ _).mono ?_; rintro e w' ⟨rfl, rfl⟩)
        | (go_at_call 37; refine (checkedE _ _).mono ?_; rintro e w' ⟨rfl, rfl⟩))
      go_ret2
      exact ⟨ret_ib (by simp [valC, valR, okR, HA.out, HB.out]) (by simp [okR, HA.out, HB.out]), rfl⟩

theorem mulE (a b : Int) (w : World) : Calls Try.prog 27 #[.int .i64 a, .int .i64 b] w fun e w' => e = .returned (.tuple #[.int .i64 (valR a b (a * b)), .bool (okR a b (a * b))]) ∧ w = w' := by
  cases ha : sm a
  · have HA := Lib.hid ha
    go_enter Try.func27, Try.ntmps27
    go_wp2_with (go_at_call 36; refine (smallE _ _).mono ?_; rintro e w' ⟨rfl, rfl⟩)
    go_ret2
    exact ⟨ret_ib (by simp [valR, okR, HA.out]) (by simp [okR, HA.out]), rfl⟩
  · have HA := Lib.hid ha
    cases hb : sm b
    · have HB := Lib.hid hb
      go_enter Try.func27, Try.ntmps27
      go_wp2_with (go_at_call 36; refine (smallE _ _).mono ?_; rintro e w' ⟨rfl, rfl⟩)
      go_ret2
      exact ⟨ret_ib (by simp [valR, okR, HA.out, HB.out]) (by simp [okR, HA.out, HB.out]), rfl⟩
    · have HB := Lib.hid hb
      have ba := sm_yes ha
      have bb := sm_yes hb
      have bm := mul_bd a b ba.1 ba.2 bb.1 bb.2
      go_enter Try.func27, Try.ntmps27
      go_wp2_with (first
        | (go_at_call 36; refine (smallE _ _).mono ?_; rintro e w' ⟨rfl, rfl⟩)
        | (go_at_call 37; refine (checkedE _ _).mono ?_; rintro e w' ⟨rfl, rfl⟩))
      go_ret2
      exact ⟨ret_ib (by simp [valC, valR, okR, HA.out, HB.out]) (by simp [okR, HA.out, HB.out]), rfl⟩

theorem addF (a b : Int) (w : World) : Calls Try.prog 24 #[.int .i64 a, .int .i64 b] w fun e w' => e = .returned (.tuple #[.int .i64 (valR a b (a + b)), .bool (okR a b (a + b))]) ∧ w = w' := by
  cases ha : sm a
  · have HA := Lib.hid ha
    go_enter Try.func24, Try.ntmps24
    go_wp2_with (go_at_call 38; refine (checkedF _ _ _ _).mono ?_; rintro e w' ⟨rfl, rfl⟩)
    go_ret2
    exact ⟨ret_ib (by simp [valR, okR, HA.out]) (by simp [okR, HA.out]), rfl⟩
  · have HA := Lib.hid ha
    cases hb : sm b
    · have HB := Lib.hid hb
      go_enter Try.func24, Try.ntmps24
      go_wp2_with (go_at_call 38; refine (checkedF _ _ _ _).mono ?_; rintro e w' ⟨rfl, rfl⟩)
      go_ret2
      exact ⟨ret_ib (by simp [valR, okR, HA.out, HB.out]) (by simp [okR, HA.out, HB.out]), rfl⟩
    · have HB := Lib.hid hb
      have ba := sm_yes ha
      have bb := sm_yes hb
      skip
      go_enter Try.func24, Try.ntmps24
      go_wp2_with (go_at_call 38; refine (checkedF _ _ _ _).mono ?_; rintro e w' ⟨rfl, rfl⟩)
      go_ret2
      exact ⟨rfl, rfl⟩

theorem subF (a b : Int) (w : World) : Calls Try.prog 26 #[.int .i64 a, .int .i64 b] w fun e w' => e = .returned (.tuple #[.int .i64 (valR a b (a - b)), .bool (okR a b (a - b))]) ∧ w = w' := by
  cases ha : sm a
  · have HA := Lib.hid ha
    go_enter Try.func26, Try.ntmps26
    go_wp2_with (go_at_call 38; refine (checkedF _ _ _ _).mono ?_; rintro e w' ⟨rfl, rfl⟩)
    go_ret2
    exact ⟨ret_ib (by simp [valR, okR, HA.out]) (by simp [okR, HA.out]), rfl⟩
  · have HA := Lib.hid ha
    cases hb : sm b
    · have HB := Lib.hid hb
      go_enter Try.func26, Try.ntmps26
      go_wp2_with (go_at_call 38; refine (checkedF _ _ _ _).mono ?_; rintro e w' ⟨rfl, rfl⟩)
      go_ret2
      exact ⟨ret_ib (by simp [valR, okR, HA.out, HB.out]) (by simp [okR, HA.out, HB.out]), rfl⟩
    · have HB := Lib.hid hb
      have ba := sm_yes ha
      have bb := sm_yes hb
      skip
      go_enter Try.func26, Try.ntmps26
      go_wp2_with (go_at_call 38; refine (checkedF _ _ _ _).mono ?_; rintro e w' ⟨rfl, rfl⟩)
      go_ret2
      exact ⟨rfl, rfl⟩

theorem mulF (a b : Int) (w : World) : Calls Try.prog 28 #[.int .i64 a, .int .i64 b] w fun e w' => e = .returned (.tuple #[.int .i64 (valR a b (a * b)), .bool (okR a b (a * b))]) ∧ w = w' := by
  cases ha : sm a
  · have HA := Lib.hid ha
    go_enter Try.func28, Try.ntmps28
    go_wp2_with (go_at_call 38; refine (checkedF _ _ _ _).mono ?_; rintro e w' ⟨rfl, rfl⟩)
    go_ret2
    exact ⟨ret_ib (by simp [valR, okR, HA.out]) (by simp [okR, HA.out]), rfl⟩
  · have HA := Lib.hid ha
    cases hb : sm b
    · have HB := Lib.hid hb
      go_enter Try.func28, Try.ntmps28
      go_wp2_with (go_at_call 38; refine (checkedF _ _ _ _).mono ?_; rintro e w' ⟨rfl, rfl⟩)
      go_ret2
      exact ⟨ret_ib (by simp [valR, okR, HA.out, HB.out]) (by simp [okR, HA.out, HB.out]), rfl⟩
    · have HB := Lib.hid hb
      have ba := sm_yes ha
      have bb := sm_yes hb
      have bm := mul_bd a b ba.1 ba.2 bb.1 bb.2
      go_enter Try.func28, Try.ntmps28
      go_wp2_with (go_at_call 38; refine (checkedF _ _ _ _).mono ?_; rintro e w' ⟨rfl, rfl⟩)
      go_ret2
      exact ⟨rfl, rfl⟩
end Go.Proofs.Ytkjhgnjoiocogaa
