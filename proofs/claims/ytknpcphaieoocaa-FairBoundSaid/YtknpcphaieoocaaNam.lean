/- The two IsName: the same names. -/
import Derived.Test.YtknpcphaieoocaaChf
import Derived.Laws.RangeAny
namespace Go.Proofs.Ytknpcphaieoocaa
open Go.RowKit
set_option linter.unusedSimpArgs false
set_option linter.unusedVariables false

/-- a byte of a name, at its place -/
def okB (k b : Nat) : Bool := (decide (97 ≤ b) && decide (b ≤ 122)) || (decide (k ≠ 0) && (decide (b = 95) || (decide (48 ≤ b) && decide (b ≤ 57))))
def okS (s : ByteArray) (k : Nat) : Prop := ∀ j (h : j < s.size), j < k → okB j (s[j]'h).toNat = true
open Classical in
/-- a name -/
noncomputable def nameV (s : ByteArray) : Bool := decide (0 < s.size ∧ s.size ≤ 24 ∧ okS s s.size)
theorem nameV_no {s : ByteArray} (k : Nat) (h : k < s.size) (hb : okB k (s[k]'h).toNat = false) : false = nameV s := by
  symm
  unfold nameV
  simp only [decide_eq_false_iff_not]
  intro ⟨_, _, h3⟩
  have := h3 k h h
  rw [hb] at this
  cases this
theorem nameV_size {s : ByteArray} (h : ¬ (0 < s.size ∧ s.size ≤ 24)) : false = nameV s := by
  symm
  unfold nameV
  simp only [decide_eq_false_iff_not]
  intro ⟨h1, h2, _⟩
  exact h ⟨h1, h2⟩
theorem nameV_yes {s : ByteArray} (h1 : 0 < s.size) (h2 : s.size ≤ 24) (h3 : okS s s.size) : true = nameV s := by
  symm
  unfold nameV
  simp only [decide_eq_true_eq]
  exact ⟨h1, h2, h3⟩
theorem okS_step {s : ByteArray} {k : Nat} (h : okS s k) (hk : k < s.size) (hb : okB k (s[k]'hk).toNat = true) : okS s (k + 1) := by
  intro j hj hjk
  rcases Nat.lt_or_ge j k with h1 | h1
  · exact h j hj h1
  · obtain rfl : j = k := by omega
    exact hb
theorem below_iter (w : World) (s : ByteArray) (p : Nat) : Below w.heap.size w (w.iter s p) := (Below.refl _ w).alloc (Nat.le_refl _) _
theorem empty_iff (s : ByteArray) : s.toList.isEmpty = decide (s.size = 0) := by
  rw [ByteArray.toList_eq]
  have e : s.size = s.data.toList.length := rfl
  rw [e]
  cases s.data.toList <;> simp
theorem okB_yes {k b : Nat} (h : (97 ≤ b ∧ b ≤ 122) ∨ (k ≠ 0 ∧ (b = 95 ∨ (48 ≤ b ∧ b ≤ 57)))) : okB k b = true := by
  unfold okB; simp; omega
theorem okB_no {k b : Nat} (h : ¬ ((97 ≤ b ∧ b ≤ 122) ∨ (k ≠ 0 ∧ (b = 95 ∨ (48 ≤ b ∧ b ≤ 57))))) : okB k b = false := by
  unfold okB; simp; omega

set_option maxHeartbeats 2000000 in
theorem nameE (s : ByteArray) (w : World) : Calls Try.prog 26 #[.string s] w fun e w' => e = .returned (.bool (nameV s)) ∧ Below w.heap.size w w' := by
  by_cases h24 : 24 < s.size
  · have HN := Lib.hid (nameV_size (s := s) (by omega))
    go_enter Try.func26, Try.ntmps26
    go_wp2
    go_ret
    exact ⟨ret_bool HN.out, .refl _ _⟩
  · go_enter Try.func26, Try.ntmps26
    go_wp2
    go_loopw [] (fun w' => ∃ pos : Nat, w' = w.iter s pos ∧ pos ≤ s.size ∧ Hid (okS s pos)) (fun w' => s.size - w'.iterPos w.heap.size)
    case atStart => exact ⟨0, rfl, Nat.zero_le _, Lib.hid fun j hj h => absurd h (by omega)⟩
    case round =>
      obtain ⟨k, rfl, hk, HO⟩ := hrel
      by_cases hp : k < s.size
      · obtain ⟨x, hx⟩ : ∃ x, x = (s[k]'hp).toNat := ⟨_, rfl⟩
        obtain ⟨r, hr⟩ : ∃ r, r = (Utf8.decode s k).1 := ⟨_, rfl⟩
        obtain ⟨d, hd⟩ : ∃ d, d = (Utf8.decode s k).2 := ⟨_, rfl⟩
        have hnx : ∀ ty, (Instr.next (.pointer (some ⟨w.heap.size, 0, none⟩)) true ty).run Try.prog (w.iter s k) = .ok (.tuple #[.bool true, .int .i64 k, .int .i32 r]) (w.iter s (k + d)) := fun ty => by rw [hr, hd]; exact run_next_any w s k ty hp
        have HXR : Hid ((x < 128 ∧ r = x ∧ d = 1) ∨ (128 ≤ x ∧ 128 ≤ r)) := Lib.hid (by
          rcases Nat.lt_or_ge x 128 with h | h
          · have := decode_ascii s k hp (by rw [← hx]; exact h)
            rw [← hx] at this
            rw [this] at hr hd
            exact .inl ⟨h, hr, hd⟩
          · exact .inr ⟨h, by rw [hr]; exact (decode_high s k hp (by rw [← hx]; exact h)).1⟩)
        have HBX : Hid (okB k (s[k]'hp).toNat = okB k x) := Lib.hid (by rw [hx])
        clear hr hd hx
        have hno : Hid (okB k x = false → false = nameV s) := Lib.hid fun h => nameV_no k hp (by rw [HBX.out]; exact h)
        have hyes : Hid (okB k x = true → okS s (k + 1)) := Lib.hid fun h => okS_step HO.out hp (by rw [HBX.out]; exact h)
        by_cases a1 : 97 ≤ r
        · by_cases a2 : r ≤ 122
          · skip
            have hd1 : d = 1 := by have := HXR.out; omega
            have fa1 : decide ((97 : Int) ≤ (r : Int)) = true := by simp; omega
            have fa2 : decide ((r : Int) ≤ 122) = true := by simp; omega
            subst hd1
            have HY := Lib.hid (hyes.out (okB_yes (by have := HXR.out; omega)))
            go_wp2
            go_roundw
            case rel => exact ⟨k + 1, rfl, by omega, HY⟩
            case measure => simp; omega
          · skip
            by_cases b0 : k = 0
            · subst b0
              have fa1 : decide ((97 : Int) ≤ (r : Int)) = true := by simp; omega
              have fa2 : decide ((r : Int) ≤ 122) = false := by simp; omega
              have HN := Lib.hid (hno.out (okB_no (by have := HXR.out; omega)))
              go_wp2
              go_ret
              exact ⟨ret_bool HN.out, below_iter _ _ _⟩
            · by_cases b1 : r = 95
              · skip
                have hd1 : d = 1 := by have := HXR.out; omega
                have fa1 : decide ((97 : Int) ≤ (r : Int)) = true := by simp; omega
                have fa2 : decide ((r : Int) ≤ 122) = false := by simp; omega
                have fb0 : ((k : Int) == 0) = false := by simp; omega
                have fb1 : ((r : Int) != 95) = false := by simp; omega
                subst hd1
                have HY := Lib.hid (hyes.out (okB_yes (by have := HXR.out; omega)))
                go_wp2
                go_roundw
                case rel => exact ⟨k + 1, rfl, by omega, HY⟩
                case measure => simp; omega
              · by_cases b2 : r < 48
                · skip
                  have fa1 : decide ((97 : Int) ≤ (r : Int)) = true := by simp; omega
                  have fa2 : decide ((r : Int) ≤ 122) = false := by simp; omega
                  have fb0 : ((k : Int) == 0) = false := by simp; omega
                  have fb1 : ((r : Int) != 95) = true := by simp; omega
                  have fb2 : decide ((r : Int) < 48) = true := by simp; omega
                  have HN := Lib.hid (hno.out (okB_no (by have := HXR.out; omega)))
                  go_wp2
                  go_ret
                  exact ⟨ret_bool HN.out, below_iter _ _ _⟩
                · by_cases b3 : 57 < r
                  · skip
                    have fa1 : decide ((97 : Int) ≤ (r : Int)) = true := by simp; omega
                    have fa2 : decide ((r : Int) ≤ 122) = false := by simp; omega
                    have fb0 : ((k : Int) == 0) = false := by simp; omega
                    have fb1 : ((r : Int) != 95) = true := by simp; omega
                    have fb2 : decide ((r : Int) < 48) = false := by simp; omega
                    have fb3 : decide ((57 : Int) < (r : Int)) = true := by simp; omega
                    have HN := Lib.hid (hno.out (okB_no (by have := HXR.out; omega)))
                    go_wp2
                    go_ret
                    exact ⟨ret_bool HN.out, below_iter _ _ _⟩
                  · skip
                    have hd1 : d = 1 := by have := HXR.out; omega
                    have fa1 : decide ((97 : Int) ≤ (r : Int)) = true := by simp; omega
                    have fa2 : decide ((r : Int) ≤ 122) = false := by simp; omega
                    have fb0 : ((k : Int) == 0) = false := by simp; omega
                    have fb1 : ((r : Int) != 95) = true := by simp; omega
                    have fb2 : decide ((r : Int) < 48) = false := by simp; omega
                    have fb3 : decide ((57 : Int) < (r : Int)) = false := by simp; omega
                    subst hd1
                    have HY := Lib.hid (hyes.out (okB_yes (by have := HXR.out; omega)))
                    go_wp2
                    go_roundw
                    case rel => exact ⟨k + 1, rfl, by omega, HY⟩
                    case measure => simp; omega
        · skip
          by_cases b0 : k = 0
          · subst b0
            have fa1 : decide ((97 : Int) ≤ (r : Int)) = false := by simp; omega
            have HN := Lib.hid (hno.out (okB_no (by have := HXR.out; omega)))
            go_wp2
            go_ret
            exact ⟨ret_bool HN.out, below_iter _ _ _⟩
          · by_cases b1 : r = 95
            · skip
              have hd1 : d = 1 := by have := HXR.out; omega
              have fa1 : decide ((97 : Int) ≤ (r : Int)) = false := by simp; omega
              have fb0 : ((k : Int) == 0) = false := by simp; omega
              have fb1 : ((r : Int) != 95) = false := by simp; omega
              subst hd1
              have HY := Lib.hid (hyes.out (okB_yes (by have := HXR.out; omega)))
              go_wp2
              go_roundw
              case rel => exact ⟨k + 1, rfl, by omega, HY⟩
              case measure => simp; omega
            · by_cases b2 : r < 48
              · skip
                have fa1 : decide ((97 : Int) ≤ (r : Int)) = false := by simp; omega
                have fb0 : ((k : Int) == 0) = false := by simp; omega
                have fb1 : ((r : Int) != 95) = true := by simp; omega
                have fb2 : decide ((r : Int) < 48) = true := by simp; omega
                have HN := Lib.hid (hno.out (okB_no (by have := HXR.out; omega)))
                go_wp2
                go_ret
                exact ⟨ret_bool HN.out, below_iter _ _ _⟩
              · by_cases b3 : 57 < r
                · skip
                  have fa1 : decide ((97 : Int) ≤ (r : Int)) = false := by simp; omega
                  have fb0 : ((k : Int) == 0) = false := by simp; omega
                  have fb1 : ((r : Int) != 95) = true := by simp; omega
                  have fb2 : decide ((r : Int) < 48) = false := by simp; omega
                  have fb3 : decide ((57 : Int) < (r : Int)) = true := by simp; omega
                  have HN := Lib.hid (hno.out (okB_no (by have := HXR.out; omega)))
                  go_wp2
                  go_ret
                  exact ⟨ret_bool HN.out, below_iter _ _ _⟩
                · skip
                  have hd1 : d = 1 := by have := HXR.out; omega
                  have fa1 : decide ((97 : Int) ≤ (r : Int)) = false := by simp; omega
                  have fb0 : ((k : Int) == 0) = false := by simp; omega
                  have fb1 : ((r : Int) != 95) = true := by simp; omega
                  have fb2 : decide ((r : Int) < 48) = false := by simp; omega
                  have fb3 : decide ((57 : Int) < (r : Int)) = false := by simp; omega
                  subst hd1
                  have HY := Lib.hid (hyes.out (okB_yes (by have := HXR.out; omega)))
                  go_wp2
                  go_roundw
                  case rel => exact ⟨k + 1, rfl, by omega, HY⟩
                  case measure => simp; omega
      · obtain rfl : k = s.size := by omega
        have hnx : ∀ ty, (Instr.next (.pointer (some ⟨w.heap.size, 0, none⟩)) true ty).run Try.prog (w.iter s s.size) = _ := fun ty => run_next_end w s s.size ty hp
        by_cases h0 : s.size = 0
        · have HN := Lib.hid (nameV_size (s := s) (by omega))
          have hz : s.toList.isEmpty = true := by rw [empty_iff]; exact decide_eq_true h0
          clear h0
          go_wp2
          go_ret
          exact ⟨ret_bool HN.out, below_iter _ _ _⟩
        · have HN := Lib.hid (nameV_yes (s := s) (by omega) (by omega) HO.out)
          have hz : s.toList.isEmpty = false := by rw [empty_iff]; exact decide_eq_false h0
          go_wp2
          go_ret
          exact ⟨ret_bool HN.out, below_iter _ _ _⟩

theorem idx9 (s : ByteArray) (k : Nat) (h : k < s.size) (w : World) : (Instr.index 9 (.string s) (.int .i64 (k : Int))).run Try.prog w = .ok (.int .u8 ((s[k]'h).toNat : Int)) w := by
  rw [run_index_string w 9 s .i64 k Try.underlying9, dif_pos ⟨by omega, by omega⟩]
  simp
set_option maxHeartbeats 2000000 in
theorem nameF (s : ByteArray) (w : World) : Calls Try.prog 27 #[.string s] w fun e w' => e = .returned (.bool (nameV s)) ∧ w = w' := by
  by_cases h1 : s.size < 1
  · have HN := Lib.hid (nameV_size (s := s) (by omega))
    have f1 : decide ((s.size : Int) < 1) = true := by simp; omega
    clear h1
    go_enter Try.func27, Try.ntmps27
    go_wp2
    go_ret
    exact ⟨ret_bool HN.out, rfl⟩
  · have f1 : decide ((s.size : Int) < 1) = false := by simp; omega
    by_cases h24 : 24 < s.size
    · have HN := Lib.hid (nameV_size (s := s) (by omega))
      have f2 : decide ((24 : Int) < (s.size : Int)) = true := by simp; omega
      go_enter Try.func27, Try.ntmps27
      go_wp2
      go_ret
      exact ⟨ret_bool HN.out, rfl⟩
    · have f2 : decide ((24 : Int) < (s.size : Int)) = false := by simp; omega
      have h0 : 0 < s.size := by omega
      obtain ⟨x0, hx0⟩ : ∃ x0, x0 = (s[0]'h0).toNat := ⟨_, rfl⟩
      have hi0 : ∀ w, (Instr.index 9 (.string s) (.int .i64 0)).run Try.prog w = .ok (.int .u8 (x0 : Int)) w := fun w => by rw [hx0]; exact idx9 s 0 h0 w
      have HX0 := Lib.hid hx0
      clear hx0
      by_cases a1 : x0 < 97
      · have HN := Lib.hid (nameV_no (s := s) 0 h0 (okB_no (by rw [← HX0.out]; omega)))
        have f3 : decide ((x0 : Int) < 97) = true := by simp; omega
        go_enter Try.func27, Try.ntmps27
        go_wp2
        go_ret
        exact ⟨ret_bool HN.out, rfl⟩
      · have f3 : decide ((x0 : Int) < 97) = false := by simp; omega
        by_cases a2 : 122 < x0
        · have HN := Lib.hid (nameV_no (s := s) 0 h0 (okB_no (by rw [← HX0.out]; omega)))
          have f4 : decide ((122 : Int) < (x0 : Int)) = true := by simp; omega
          go_enter Try.func27, Try.ntmps27
          go_wp2
          go_ret
          exact ⟨ret_bool HN.out, rfl⟩
        · have f4 : decide ((122 : Int) < (x0 : Int)) = false := by simp; omega
          go_enter Try.func27, Try.ntmps27
          go_wp2
          have HA : Hid (97 ≤ (s[0]'h0).toNat ∧ (s[0]'h0).toNat ≤ 122) := Lib.hid (by rw [← HX0.out]; omega)
          clear f1 f2 f3 f4 a1 a2 hi0
          go_loop [3] (fun i => ∃ k : Nat, k ≤ s.size ∧ i = .int .i64 k ∧ Hid (okS s k)) (fun i => s.size - (intOf i).toNat)
          case atStart => exact ⟨0, by omega, rfl, Lib.hid fun j hj h => absurd h (by omega)⟩
          case round =>
            obtain ⟨k, hk, rfl, HO⟩ := hrel
            by_cases hp : k < s.size
            · obtain ⟨x, hx⟩ : ∃ x, x = (s[k]'hp).toNat := ⟨_, rfl⟩
              have hi : ∀ w, (Instr.index 9 (.string s) (.int .i64 (k : Int))).run Try.prog w = .ok (.int .u8 (x : Int)) w := fun w => by rw [hx]; exact idx9 s k hp w
              have HX : Hid (x = (s[k]'hp).toNat) := Lib.hid hx
              have HZ : Hid (k = 0 → 97 ≤ x ∧ x ≤ 122) := Lib.hid fun h => by subst h; rw [HX.out]; exact HA.out
              clear hx
              have hno : Hid (okB k x = false → false = nameV s) := Lib.hid fun h => nameV_no k hp (by rw [← HX.out]; exact h)
              have hyes : Hid (okB k x = true → okS s (k + 1)) := Lib.hid fun h => okS_step HO.out hp (by rw [← HX.out]; exact h)
              by_cases a1 : 97 ≤ x
              · by_cases a2 : x ≤ 122
                · skip
                  have fa1 : decide ((97 : Int) ≤ (x : Int)) = true := by simp; omega
                  have fa2 : decide ((x : Int) ≤ 122) = true := by simp; omega
                  have HY := Lib.hid (hyes.out (okB_yes (by have := HZ.out; omega)))
                  go_wp2
                  go_round
                  case rel => exact ⟨k + 1, by omega, by go_num, HY⟩
                  case measure => simp [intOf]; omega
                · skip
                  by_cases b2 : 48 ≤ x
                  · by_cases b3 : x ≤ 57
                    · skip
                      have fa1 : decide ((97 : Int) ≤ (x : Int)) = true := by simp; omega
                      have fa2 : decide ((x : Int) ≤ 122) = false := by simp; omega
                      have fb2 : decide ((48 : Int) ≤ (x : Int)) = true := by simp; omega
                      have fb3 : decide ((x : Int) ≤ 57) = true := by simp; omega
                      have HY := Lib.hid (hyes.out (okB_yes (by have := HZ.out; omega)))
                      go_wp2
                      go_round
                      case rel => exact ⟨k + 1, by omega, by go_num, HY⟩
                      case measure => simp [intOf]; omega
                    · by_cases b1 : x = 95
                      · skip
                        have fa1 : decide ((97 : Int) ≤ (x : Int)) = true := by simp; omega
                        have fa2 : decide ((x : Int) ≤ 122) = false := by simp; omega
                        have fb2 : decide ((48 : Int) ≤ (x : Int)) = true := by simp; omega
                        have fb3 : decide ((x : Int) ≤ 57) = false := by simp; omega
                        have fb1 : ((x : Int) != 95) = false := by simp; omega
                        have HY := Lib.hid (hyes.out (okB_yes (by have := HZ.out; omega)))
                        go_wp2
                        go_round
                        case rel => exact ⟨k + 1, by omega, by go_num, HY⟩
                        case measure => simp [intOf]; omega
                      · skip
                        have fa1 : decide ((97 : Int) ≤ (x : Int)) = true := by simp; omega
                        have fa2 : decide ((x : Int) ≤ 122) = false := by simp; omega
                        have fb2 : decide ((48 : Int) ≤ (x : Int)) = true := by simp; omega
                        have fb3 : decide ((x : Int) ≤ 57) = false := by simp; omega
                        have fb1 : ((x : Int) != 95) = true := by simp; omega
                        have HN := Lib.hid (hno.out (okB_no (by omega)))
                        go_wp2
                        go_ret
                        exact ⟨ret_bool HN.out, rfl⟩
                  · skip
                    have fa1 : decide ((97 : Int) ≤ (x : Int)) = true := by simp; omega
                    have fa2 : decide ((x : Int) ≤ 122) = false := by simp; omega
                    have fb2 : decide ((48 : Int) ≤ (x : Int)) = false := by simp; omega
                    have fb1 : ((x : Int) != 95) = true := by simp; omega
                    have HN := Lib.hid (hno.out (okB_no (by omega)))
                    go_wp2
                    go_ret
                    exact ⟨ret_bool HN.out, rfl⟩
              · skip
                by_cases b2 : 48 ≤ x
                · by_cases b3 : x ≤ 57
                  · skip
                    have fa1 : decide ((97 : Int) ≤ (x : Int)) = false := by simp; omega
                    have fb2 : decide ((48 : Int) ≤ (x : Int)) = true := by simp; omega
                    have fb3 : decide ((x : Int) ≤ 57) = true := by simp; omega
                    have HY := Lib.hid (hyes.out (okB_yes (by have := HZ.out; omega)))
                    go_wp2
                    go_round
                    case rel => exact ⟨k + 1, by omega, by go_num, HY⟩
                    case measure => simp [intOf]; omega
                  · by_cases b1 : x = 95
                    · skip
                      have fa1 : decide ((97 : Int) ≤ (x : Int)) = false := by simp; omega
                      have fb2 : decide ((48 : Int) ≤ (x : Int)) = true := by simp; omega
                      have fb3 : decide ((x : Int) ≤ 57) = false := by simp; omega
                      have fb1 : ((x : Int) != 95) = false := by simp; omega
                      have HY := Lib.hid (hyes.out (okB_yes (by have := HZ.out; omega)))
                      go_wp2
                      go_round
                      case rel => exact ⟨k + 1, by omega, by go_num, HY⟩
                      case measure => simp [intOf]; omega
                    · skip
                      have fa1 : decide ((97 : Int) ≤ (x : Int)) = false := by simp; omega
                      have fb2 : decide ((48 : Int) ≤ (x : Int)) = true := by simp; omega
                      have fb3 : decide ((x : Int) ≤ 57) = false := by simp; omega
                      have fb1 : ((x : Int) != 95) = true := by simp; omega
                      have HN := Lib.hid (hno.out (okB_no (by omega)))
                      go_wp2
                      go_ret
                      exact ⟨ret_bool HN.out, rfl⟩
                · skip
                  have fa1 : decide ((97 : Int) ≤ (x : Int)) = false := by simp; omega
                  have fb2 : decide ((48 : Int) ≤ (x : Int)) = false := by simp; omega
                  have fb1 : ((x : Int) != 95) = true := by simp; omega
                  have HN := Lib.hid (hno.out (okB_no (by omega)))
                  go_wp2
                  go_ret
                  exact ⟨ret_bool HN.out, rfl⟩
            · obtain rfl : k = s.size := by omega
              have HN := Lib.hid (nameV_yes (s := s) (by omega) (by omega) HO.out)
              go_wp2
              go_ret
              exact ⟨ret_bool HN.out, rfl⟩
end Go.Proofs.Ytknpcphaieoocaa
