/- The comparison of two tasks. -/
import Derived.Test.YtknpcphaieoocaaWalks
import Derived.Lib.Bytealg
import Derived.Lib.Small
import Derived.Deep.RegionHeld3
namespace Go.Proofs.Ytknpcphaieoocaa
open Go.RowKit
set_option linter.unusedSimpArgs false
set_option linter.unusedVariables false

theorem nanE (a : Int) (w : World) : Calls Try.prog 42 #[.int .i64 a] w fun e w' => e = .returned (.bool false) ∧ w = w' := by
  go_enter Try.func42, Try.ntmps42
  go_wp2
  go_ret
  exact ⟨ret_bool (by simp), rfl⟩
theorem cmpE (a b : Int) (w : World) : Calls Try.prog 39 #[.int .i64 a, .int .i64 b] w fun e w' => e = .returned (.int .i64 (Lib.compareInt a b)) ∧ w = w' := by
  rcases Int.lt_trichotomy a b with h | h | h
  · go_enter Try.func39, Try.ntmps39
    go_wp2_with (go_at_call 42; refine (nanE _ _).mono ?_; rintro e w' ⟨rfl, rfl⟩)
    go_ret
    exact ⟨ret_int (by unfold Lib.compareInt; rw [if_pos h]), rfl⟩
  · have h1 : decide (a < b) = false := by simp; omega
    have h2 : decide (a > b) = false := by simp; omega
    have HE := Lib.hid h
    clear h
    go_enter Try.func39, Try.ntmps39
    go_wp2_with (go_at_call 42; refine (nanE _ _).mono ?_; rintro e w' ⟨rfl, rfl⟩)
    all_goals (go_ret; exact ⟨ret_int (by have := HE.out; unfold Lib.compareInt; rw [if_neg (by omega), if_neg (by omega)]), rfl⟩)
  · go_enter Try.func39, Try.ntmps39
    go_wp2_with (go_at_call 42; refine (nanE _ _).mono ?_; rintro e w' ⟨rfl, rfl⟩)
    go_ret
    exact ⟨ret_int (by unfold Lib.compareInt; rw [if_neg (by omega), if_pos (by omega)]), rfl⟩

theorem str0E (a b : ByteArray) (w : World) : Calls Try.prog 43 #[.string a, .string b] w fun e w' => e = .returned (.int .i64 (Lib.compareBytes a.toList b.toList)) ∧ w = w' := by
  go_enter Try.func43, Try.ntmps43
  go_wp2
  rw [run_callFunc_extern Try.func45 (by kernel_rfl) (by kernel_rfl) (by kernel_rfl) (e := Extern.BytealgCompare.compare) (by kernel_rfl), Lib.run_compareString]
  simp only [Result.andThen]
  rw [Oper.upon_value]
  go_wp2
  go_ret
  exact ⟨ret_int (by rw [ByteArray.toList_eq, ByteArray.toList_eq]), rfl⟩
theorem strE (a b : ByteArray) (w : World) : Calls Try.prog 40 #[.string a, .string b] w fun e w' => e = .returned (.int .i64 (Lib.compareBytes a.toList b.toList)) ∧ w = w' := by
  go_enter Try.func40, Try.ntmps40
  go_wp2_with (go_at_call 43; refine (str0E _ _ _).mono ?_; rintro e w' ⟨rfl, rfl⟩)
  go_ret
  exact ⟨rfl, rfl⟩

/-- the first that is not 0 -/
def orV : List Int → Int
  | [] => 0
  | x :: l => if x = 0 then orV l else x
theorem orE (b off c : Nat) (x0 x1 x2 x3 : Int) (w : World) (h0 : w.cell? ⟨b, off, none⟩ = some (.int .i64 x0)) (h1 : w.cell? ⟨b, off + 1, none⟩ = some (.int .i64 x1)) (h2 : w.cell? ⟨b, off + 2, none⟩ = some (.int .i64 x2)) (h3 : w.cell? ⟨b, off + 3, none⟩ = some (.int .i64 x3)) :
    Calls Try.prog 38 #[.slice (some ⟨b, off, none⟩) 4 c] w fun e w' => e = .returned (.int .i64 (orV [x0, x1, x2, x3])) ∧ w = w' := by
  have hx : ∀ k : Nat, k < 4 → w.cell? ⟨b, off + k, none⟩ = some (.int .i64 ([x0, x1, x2, x3].getD k 0)) := by
    intro k hk
    match k, hk with
    | 0, _ => exact h0
    | 1, _ => exact h1
    | 2, _ => exact h2
    | 3, _ => exact h3
  clear h0 h1 h2 h3
  have hs : ∀ k : Nat, k < 4 → orV ([x0, x1, x2, x3].drop k) = if [x0, x1, x2, x3].getD k 0 = 0 then orV ([x0, x1, x2, x3].drop (k + 1)) else [x0, x1, x2, x3].getD k 0 := by
    intro k hk
    match k, hk with
    | 0, _ => rfl
    | 1, _ => rfl
    | 2, _ => rfl
    | 3, _ => rfl
  generalize hl : [x0, x1, x2, x3] = l at hx hs ⊢
  have HL := Lib.hid hl
  clear hl
  go_enter Try.func38, Try.ntmps38
  go_wp2
  go_loop [8] (fun i => ∃ k : Nat, k ≤ 4 ∧ i = .int .i64 k ∧ Hid (orV l = orV (l.drop k))) (fun i => 4 - (intOf i).toNat)
  case atStart => exact ⟨0, by omega, rfl, rfl⟩
  case round =>
    obtain ⟨k, hk, rfl, HU⟩ := hrel
    by_cases hkn : k < 4
    · have hc := hx k hkn
      have HS := Lib.hid (hs k hkn)
      generalize l.getD k 0 = x at hc HS
      clear hx hs
      by_cases hz : x = 0
      · subst hz
        go_wp2
        case roundEnd => exact ⟨⟨k + 1, by omega, rfl, Lib.hid (by rw [HU.out, HS.out]; rfl)⟩, by simp [intOf]; omega⟩
      · have hz1 : (x == 0) = false := by simp; exact hz
        have HZ := Lib.hid hz
        clear hz
        go_wp2
        go_ret
        exact ⟨ret_int (by rw [HU.out, HS.out, if_neg HZ.out]), rfl⟩
    · clear hx hs
      go_wp2
      go_ret
      exact ⟨ret_int (by rw [HU.out, List.drop_eq_nil_of_le (by rw [← HL.out]; simp; omega)]; rfl), rfl⟩
end Go.Proofs.Ytknpcphaieoocaa
