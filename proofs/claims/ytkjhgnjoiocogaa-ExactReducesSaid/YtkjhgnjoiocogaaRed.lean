/- Contracts of the two functions Reduce. -/
import Derived.Test.YtkjhgnjoiocogaaRat
namespace Go.Proofs.Ytkjhgnjoiocogaa
open Go.RowKit
set_option linter.unusedSimpArgs false
set_option linter.unusedVariables false

theorem gcd_step (x y : Nat) : Nat.gcd y (x % y) = Nat.gcd x y := by rw [Nat.gcd_comm x y, Nat.gcd_rec y x, Nat.gcd_comm]
theorem gcd_step' (x y : Nat) : Nat.gcd (y % x) x = Nat.gcd x y := (Nat.gcd_rec x y).symm

set_option maxHeartbeats 1000000 in
theorem reduceE (n d : Int) (w : World) : Calls Try.prog 21 #[.agg #[.int .i64 n, .int .i64 d]] w fun e w' => e = .returned (.tuple #[.agg #[.int .i64 (rN n d), .int .i64 (rD n d)], .bool (wf n d)]) ∧ Below w.heap.size w w' := by
  cases c4 : wf n d
  · have HW := Lib.hid c4
    have e1 : Hid (rN n d = 0) := Lib.hid (by unfold rN; rw [c4]; rfl)
    have e2 : Hid (rD n d = 0) := Lib.hid (by unfold rD; rw [c4]; rfl)
    go_enter Try.func21, Try.ntmps21
    go_wp2_with (go_at_call 35; refine (formedE _ _ _).mono ?_; rintro e w' ⟨rfl, rfl⟩)
    rw [e1.out, e2.out]
    exact bodyPost_ret (v := .tuple #[.agg #[.int .i64 0, .int .i64 0], .bool false]) (by simp [results, Try.results21, go_sem]) rfl ⟨rfl, by repeat (first | exact Below.refl _ _ | refine Below.drew ?_ | refine below_drewN ?_ _ | refine Below.setCell ?_ (by simp <;> omega) _ | refine Below.alloc ?_ (by simp <;> omega) _)⟩
  · have HW := Lib.hid c4
    obtain ⟨s1, d1, d2⟩ := wf_bd c4
    rcases Int.lt_or_le n 0 with hn | hn
    all_goals
      go_enter Try.func21, Try.ntmps21
      go_wp2_with (go_at_call 35; refine (formedE _ _ _).mono ?_; rintro e w' ⟨rfl, rfl⟩)
      go_quiet (fail)
      go_wp2
      go_loopw [4, 5] (fun a b wr => ∃ x y k : Nat, a = .int .i64 (x : Int) ∧ b = .int .i64 (y : Int) ∧ 1 ≤ x + y ∧ x ≤ 1073741824 ∧ y ≤ 1073741824 ∧ Nat.gcd x y = gg n d ∧ wr = (((w.alloc (.cells #[.int .i64 n, .int .i64 d] 28)).alloc (.cells #[.int .i64 0, .int .i64 0] 28)).alloc (.cells #[.int .i64 n, .int .i64 d] 28)).drewN k) (fun _ b _ => (intOf b).toNat)
      case atStart => exact ⟨n.natAbs, d.natAbs, nq, by first | (rw [show ((n.natAbs : Nat) : Int) = n by omega]) | (rw [show ((n.natAbs : Nat) : Int) = -n by omega]), by rw [show ((d.natAbs : Nat) : Int) = d by omega], by omega, by omega, by omega, rfl, rfl⟩
      case round =>
        obtain ⟨x, y, k, rfl, rfl, h1, h2, h3, h4, rfl⟩ := hrel
        have H4 := Lib.hid h4
        clear h4
        by_cases hy : y = 0
        · subst hy
          obtain rfl : x = gg n d := by have := H4.out; simpa using this
          have hz : ¬ ((gg n d : Nat) : Int) = 0 := by omega
          have bq := tdiv_bd n (gg n d) s1.1 s1.2
          have bq' := tdiv_bd d (gg n d) (by omega) d2
          have hwq : IntKind.i64.wrap (n.tdiv (gg n d)) = n.tdiv (gg n d) := IntWalk.i64_in _ (by omega)
          have hwq' : IntKind.i64.wrap (d.tdiv (gg n d)) = d / (gg n d) := by rw [IntWalk.i64_in _ (by omega), Int.tdiv_eq_ediv_of_nonneg (by omega)]
          have e1 : Hid (rN n d = n.tdiv (gg n d)) := Lib.hid (by unfold rN; rw [if_pos HW.out])
          have e2 : Hid (rD n d = d / (gg n d)) := Lib.hid (by unfold rD; rw [if_pos HW.out])
          go_wp2
          go_region
          go_wp2
          rw [e1.out, e2.out]
          exact bodyPost_ret (v := .tuple #[.agg #[.int .i64 (n.tdiv (gg n d)), .int .i64 (d / (gg n d))], .bool true]) (by simp [results, Try.results21, go_sem]) rfl ⟨rfl, (by repeat (first | exact Below.refl _ _ | refine Below.drew ?_ | refine below_drewN ?_ _ | refine Below.setCell ?_ (by simp <;> omega) _ | refine Below.alloc ?_ (by simp <;> omega) _))⟩
        · have hy' : ((y : Int) == 0) = false := by simp; omega
          have hb' : ((y : Int) != 0) = true := by simp; omega
          have hne : ¬ (y : Int) = 0 := by omega
          go_wp2
          go_quiet (fail)
          go_wp2
          go_roundw
          case rel => exact ⟨y, x % y, _, rfl, by go_num, by omega, h3, by have := Nat.mod_lt x (show y > 0 by omega); omega, by rw [gcd_step]; exact H4.out, World.drewN_drewN _ _ _⟩
          case measure => simp [intOf]; have := Nat.mod_lt x (show y > 0 by omega); omega
set_option maxHeartbeats 1000000 in
theorem reduceF (n d : Int) (w : World) : Calls Try.prog 22 #[.agg #[.int .i64 n, .int .i64 d]] w fun e w' => e = .returned (.tuple #[.agg #[.int .i64 (rN n d), .int .i64 (rD n d)], .bool (wf n d)]) ∧ Below w.heap.size w w' := by
  cases c4 : wf n d
  · have HW := Lib.hid c4
    have e1 : Hid (rN n d = 0) := Lib.hid (by unfold rN; rw [c4]; rfl)
    have e2 : Hid (rD n d = 0) := Lib.hid (by unfold rD; rw [c4]; rfl)
    go_enter Try.func22, Try.ntmps22
    go_wp2_with (go_at_call 34; refine (formedF _ _ _).mono ?_; rintro e w' ⟨rfl, rfl⟩)
    rw [e1.out, e2.out]
    exact bodyPost_ret (v := .tuple #[.agg #[.int .i64 0, .int .i64 0], .bool false]) (by simp [results, Try.results22, go_sem]) rfl ⟨rfl, by repeat (first | exact Below.refl _ _ | refine Below.drew ?_ | refine below_drewN ?_ _ | refine Below.setCell ?_ (by simp <;> omega) _ | refine Below.alloc ?_ (by simp <;> omega) _)⟩
  · have HW := Lib.hid c4
    obtain ⟨s1, d1, d2⟩ := wf_bd c4
    rcases Int.lt_or_le n 0 with hn | hn
    all_goals
      go_enter Try.func22, Try.ntmps22
      go_wp2_with (go_at_call 34; refine (formedF _ _ _).mono ?_; rintro e w' ⟨rfl, rfl⟩)
      go_quiet (fail)
      go_wp2
      go_loopw [4, 5] (fun a b wr => ∃ x y k : Nat, a = .int .i64 (x : Int) ∧ b = .int .i64 (y : Int) ∧ 1 ≤ x + y ∧ x ≤ 1073741824 ∧ y ≤ 1073741824 ∧ Nat.gcd x y = gg n d ∧ wr = (((w.alloc (.cells #[.int .i64 n, .int .i64 d] 28)).alloc (.cells #[.int .i64 0, .int .i64 0] 28)).alloc (.cells #[.int .i64 n, .int .i64 d] 28)).drewN k) (fun a _ _ => (intOf a).toNat)
      case atStart => exact ⟨n.natAbs, d.natAbs, nq, by first | (rw [show ((n.natAbs : Nat) : Int) = n by omega]) | (rw [show ((n.natAbs : Nat) : Int) = -n by omega]), by rw [show ((d.natAbs : Nat) : Int) = d by omega], by omega, by omega, by omega, rfl, rfl⟩
      case round =>
        obtain ⟨x, y, k, rfl, rfl, h1, h2, h3, h4, rfl⟩ := hrel
        have H4 := Lib.hid h4
        clear h4
        by_cases hy : x = 0
        · subst hy
          obtain rfl : y = gg n d := by have := H4.out; simpa using this
          have hz : ¬ ((gg n d : Nat) : Int) = 0 := by omega
          have bq := tdiv_bd n (gg n d) s1.1 s1.2
          have bq' := tdiv_bd d (gg n d) (by omega) d2
          have hwq : IntKind.i64.wrap (n.tdiv (gg n d)) = n.tdiv (gg n d) := IntWalk.i64_in _ (by omega)
          have hwq' : IntKind.i64.wrap (d.tdiv (gg n d)) = d / (gg n d) := by rw [IntWalk.i64_in _ (by omega), Int.tdiv_eq_ediv_of_nonneg (by omega)]
          have e1 : Hid (rN n d = n.tdiv (gg n d)) := Lib.hid (by unfold rN; rw [if_pos HW.out])
          have e2 : Hid (rD n d = d / (gg n d)) := Lib.hid (by unfold rD; rw [if_pos HW.out])
          go_wp2
          go_region
          go_wp2
          rw [e1.out, e2.out]
          exact bodyPost_ret (v := .tuple #[.agg #[.int .i64 (n.tdiv (gg n d)), .int .i64 (d / (gg n d))], .bool true]) (by simp [results, Try.results22, go_sem]) rfl ⟨rfl, (by repeat (first | exact Below.refl _ _ | refine Below.drew ?_ | refine below_drewN ?_ _ | refine Below.setCell ?_ (by simp <;> omega) _ | refine Below.alloc ?_ (by simp <;> omega) _))⟩
        · have hy' : ((x : Int) == 0) = false := by simp; omega
          have hb' : ((x : Int) != 0) = true := by simp; omega
          have hne : ¬ (x : Int) = 0 := by omega
          go_wp2
          go_roundw
          case rel => exact ⟨y % x, x, _, by go_num, rfl, by omega, by have := Nat.mod_lt y (show x > 0 by omega); omega, h2, by rw [gcd_step']; exact H4.out, rfl⟩
          case measure => simp [intOf]; have := Nat.mod_lt y (show x > 0 by omega); omega
end Go.Proofs.Ytkjhgnjoiocogaa
