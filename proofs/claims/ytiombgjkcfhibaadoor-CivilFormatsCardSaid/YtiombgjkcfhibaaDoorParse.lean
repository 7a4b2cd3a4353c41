/- Contracts of the two functions Parse and of what they call; the laws' closed examples. */ -/
import Derived.Test.YtiombgjkcfhibaaDoorDays
import Derived.Test.YtiombgjkcfhibaaDoorText
namespace Go.Proofs.YtiombgjkcfhibaaDoor
open Go.RowKit
set_option linter.unusedSimpArgs false
set_option linter.unusedVariables false

theorem idx (s : ByteArray) (k : Nat) (h : k < s.size) (w : World) : (Instr.index 9 (.string s) (.int .i64 (k : Int))).run Tryd.prog w = .ok (.int .u8 (byt (bs s) k)) w := by
  rw [run_index_string w 9 s .i64 k Tryd.underlying9, dif_pos ⟨by omega, by omega⟩]
  have e : byt (bs s) k = ((s[k]'h).toNat : Int) := by
    unfold byt bs
    rw [List.getD_eq_getElem?_getD, List.getElem?_eq_getElem (by simpa using h)]; rfl
  rw [e]; simp
theorem form_idx (k : Nat) (h : k < 16) (w : World) : (Instr.index 9 (.string { data := #[48, 48, 48, 48, 45, 48, 48, 45, 48, 48, 84, 48, 48, 58, 48, 48] }) (.int .i64 (k : Int))).run Tryd.prog w = .ok (.int .u8 (fmb k)) w := by
  have e : byt (bs { data := #[48, 48, 48, 48, 45, 48, 48, 45, 48, 48, 84, 48, 48, 58, 48, 48] }) k = fmb k :=
    (show ∀ k, k < 16 → byt (bs { data := #[48, 48, 48, 48, 45, 48, 48, 45, 48, 48, 84, 48, 48, 58, 48, 48] }) k = fmb k by decide) k h
  rw [← e]; exact idx { data := #[48, 48, 48, 48, 45, 48, 48, 45, 48, 48, 84, 48, 48, 58, 48, 48] } k h w

set_option maxHeartbeats 1000000 in
theorem numberE (t : ByteArray) (w : World) (ht : t.size ≤ 4) (h : (bs t).all dgB = true) : Calls Tryd.prog 28 #[.string t] w fun e w' => e = .returned (.int .i64 (nmb (bs t))) ∧ w' = w := by
  have hl := bs_length t
  have HL := Lib.hid hl
  have HD := Lib.hid h
  clear hl h
  go_enter Tryd.func28, Tryd.ntmps28
  go_wp2
  go_loop [3, 7] (fun n i => ∃ k : Nat, k ≤ t.size ∧ i = .int .i64 k ∧ n = .int .i64 (nmb ((bs t).take k))) (fun _ i => t.size - (intOf i).toNat)
  case atStart => exact ⟨0, by omega, rfl, rfl⟩
  case round =>
    obtain ⟨k, hk, rfl, rfl⟩ := hrel
    by_cases hlt : k < t.size
    · have hb := nmb_bd_take _ HD.out k (by rw [HL.out]; omega)
      have hb0 := hb.1
      have hb1 : nmb ((bs t).take k) ≤ 10000 := by
        have : (10 : Int) ^ k ≤ 10000 := (show ∀ k, k ≤ 4 → (10 : Int) ^ k ≤ 10000 by decide) k (by omega)
        have := hb.2; omega
      clear hb
      obtain ⟨c, hc⟩ : ∃ c, c = byt (bs t) k := ⟨_, rfl⟩
      have hi := idx t k hlt
      rw [← hc] at hi
      have hcb := all_byt (bs t) k (by rw [HL.out]; omega) HD.out
      rw [← hc] at hcb
      have hn : Hid (nmb ((bs t).take (k + 1)) = 10 * nmb ((bs t).take k) + (c - 48)) := Lib.hid (by rw [hc]; exact nmb_take _ _ (by rw [HL.out]; omega))
      clear hc
      go_wp2
      go_round
      case rel => exact ⟨k + 1, by omega, by go_num, by rw [hn.out]⟩
      case measure => simp [intOf]; omega
    · go_wp2
      go_ret
      exact ⟨ret_int (by rw [List.take_of_length_le (by rw [HL.out]; omega)]), rfl⟩

set_option maxHeartbeats 1000000 in
theorem digitsF (t : ByteArray) (w : World) (ht : t.size ≤ 4) : Calls Tryd.prog 29 #[.string t] w fun e w' => e = .returned (.int .i64 (dgs (bs t))) ∧ w' = w := by
  have hl := bs_length t
  have HL := Lib.hid hl
  clear hl
  go_enter Tryd.func29, Tryd.ntmps29
  go_wp2
  go_loop [3, 4] (fun n i => ∃ k : Nat, k ≤ t.size ∧ i = .int .i64 k ∧ n = .int .i64 (nmb ((bs t).take k)) ∧ ((bs t).take k).all dgB = true) (fun _ i => t.size - (intOf i).toNat)
  case atStart => exact ⟨0, by omega, rfl, rfl, rfl⟩
  case round =>
    obtain ⟨k, hk, rfl, rfl, hall⟩ := hrel
    have HA := Lib.hid hall
    clear hall
    by_cases hlt : k < t.size
    · have hb := nmb_bd _ HA.out
      have hb0 := hb.1
      have hb1 : nmb ((bs t).take k) ≤ 10000 := by
        have hl2 : ((bs t).take k).length ≤ 4 := by rw [List.length_take, HL.out]; omega
        have : (10 : Int) ^ ((bs t).take k).length ≤ 10000 := (show ∀ k, k ≤ 4 → (10 : Int) ^ k ≤ 10000 by decide) _ hl2
        have := hb.2; omega
      clear hb
      obtain ⟨c, hc⟩ : ∃ c, c = byt (bs t) k := ⟨_, rfl⟩
      have hi := idx t k hlt
      rw [← hc] at hi
      have hcb := byt_bd (bs t) k
      rw [← hc] at hcb
      have hn : Hid (nmb ((bs t).take (k + 1)) = 10 * nmb ((bs t).take k) + (c - 48)) := Lib.hid (by rw [hc]; exact nmb_take _ _ (by rw [HL.out]; omega))
      have hcs : Hid (c = (((bs t).getD k 0).toNat : Int)) := Lib.hid hc
      have htk := Lib.hid (take_byt (bs t) k (by rw [HL.out]; omega))
      clear hc
      by_cases c1 : c < 48
      · have hno : Hid (dgs (bs t) = -1) := Lib.hid (dgs_no (by rw [HL.out]; omega) (by rw [← hcs.out]; omega))
        go_wp2
        go_ret
        exact ⟨ret_int hno.out.symm, rfl⟩
      · have b1 : decide (c < 48) = false := by simpa using c1
        by_cases c2 : 57 < c
        · have hno : Hid (dgs (bs t) = -1) := Lib.hid (dgs_no (by rw [HL.out]; omega) (by rw [← hcs.out]; omega))
          go_wp2
          go_ret
          exact ⟨ret_int hno.out.symm, rfl⟩
        · have b2 : decide (57 < c) = false := by simpa using c2
          go_wp2
          go_round
          case rel => exact ⟨k + 1, by omega, by go_num, by rw [hn.out]; go_num, by rw [htk.out, List.all_append, HA.out]; simp only [List.all_cons, List.all_nil, Bool.and_true, Bool.true_and]; exact dgB_iff.2 (by have := hcs.out; omega)⟩
          case measure => simp [intOf]; omega
    · have he : (bs t).take k = bs t := List.take_of_length_le (by rw [HL.out]; omega)
      have HE := Lib.hid he
      clear he
      go_wp2
      go_ret
      exact ⟨ret_int (by unfold dgs; have := HA.out; rw [HE.out] at this ⊢; rw [this]; rfl), rfl⟩
end Go.Proofs.YtiombgjkcfhibaaDoor
