/- Contracts of the divisions of package exact and of its reference. -/
import Derived.Test.YtkjhgnjoiocogaaWalks
namespace Go.Proofs.Ytkjhgnjoiocogaa
open Go.RowKit
set_option linter.unusedSimpArgs false
set_option linter.unusedVariables false

theorem ret_iib {k : IntKind} {a b c d : Int} {p q : Bool} (h : a = b) (h1 : c = d) (h' : p = q) : Ending.returned (.tuple #[.int k a, .int k c, .bool p]) = .returned (.tuple #[.int k b, .int k d, .bool q]) := by rw [h, h1, h']

set_option maxHeartbeats 400000 in
theorem divE (a b : Int) (w : World) : Calls Try.prog 31 #[.int .i64 a, .int .i64 b] w fun e w' => e = .returned (.tuple #[.int .i64 (valQ a b), .int .i64 (valM a b), .bool (okD a b)]) ∧ ∃ n, w' = w.drewN n := by
  cases ha : sm a
  · have HA := Lib.hid ha
    go_enter Try.func31, Try.ntmps31
    go_wp2_with (go_at_call 36; refine (smallE _ _).mono ?_; rintro e w' ⟨rfl, rfl⟩)
    go_ret3
    exact ⟨ret_iib (by simp [valQ, okD, HA.out]) (by simp [valM, okD, HA.out]) (by simp [okD, HA.out]), 0, rfl⟩
  · have HA := Lib.hid ha
    cases hb : sm b
    · have HB := Lib.hid hb
      go_enter Try.func31, Try.ntmps31
      go_wp2_with (go_at_call 36; refine (smallE _ _).mono ?_; rintro e w' ⟨rfl, rfl⟩)
      go_ret3
      exact ⟨ret_iib (by simp [valQ, okD, HA.out, HB.out]) (by simp [valM, okD, HA.out, HB.out]) (by simp [okD, HA.out, HB.out]), 0, rfl⟩
    · have HB := Lib.hid hb
      by_cases hz : b = 0
      · subst hz
        go_enter Try.func31, Try.ntmps31
        go_wp2_with (go_at_call 36; refine (smallE _ _).mono ?_; rintro e w' ⟨rfl, rfl⟩)
        go_ret3
        exact ⟨ret_iib (by simp [valQ, okD, HA.out, HB.out]) (by simp [valM, okD, HA.out, HB.out]) (by simp [okD, HA.out, HB.out]), 0, rfl⟩
      · have ba := sm_yes ha
        have bb := sm_yes hb
        have hz' : (b == 0) = false := by simpa using hz
        have bq := tdiv_bd a b ba.1 ba.2
        have br := tmod_bd a b bb.1 bb.2 hz
        have hwq : IntKind.i64.wrap (a.tdiv b) = a.tdiv b := IntWalk.i64_in _ (by omega)
        have hok : Hid (okD a b = true) := Lib.hid (by unfold okD; rw [ha, hb, hz']; rfl)
        by_cases hr : a.tmod b = 0
        · have HQ : Hid (qf a b = a.tdiv b) := Lib.hid (by unfold qf; rw [if_neg (by simp [hr])])
          have HR : Hid (rf a b = 0) := Lib.hid (by unfold rf; rw [if_neg (by simp [hr]), hr])
          go_enter Try.func31, Try.ntmps31
          go_wp2_with (go_at_call 36; refine (smallE _ _).mono ?_; rintro e w' ⟨rfl, rfl⟩)
          go_quiet (fail)
          go_wp2
          go_ret3
          exact ⟨ret_iib (by simp [valQ, hok.out, HQ.out]) (by simp [valM, hok.out, HR.out]) hok.out.symm, _, rfl⟩
        · have hr' : (a.tmod b != 0) = true := by simpa using hr
          by_cases h2 : a.tmod b < 0 <;> by_cases h3 : b < 0
          · have HQ : Hid (qf a b = a.tdiv b) := Lib.hid (by unfold qf; rw [if_neg (by simp [h2, h3])])
            have HR : Hid (rf a b = a.tmod b) := Lib.hid (by unfold rf; rw [if_neg (by simp [h2, h3])])
            go_enter Try.func31, Try.ntmps31
            go_wp2_with (go_at_call 36; refine (smallE _ _).mono ?_; rintro e w' ⟨rfl, rfl⟩)
            go_quiet (fail)
            go_wp2
            go_ret3
            exact ⟨ret_iib (by simp [valQ, hok.out, HQ.out]) (by simp [valM, hok.out, HR.out]) hok.out.symm, _, rfl⟩
          · have HQ : Hid (qf a b = a.tdiv b - 1) := Lib.hid (by unfold qf; rw [if_pos ⟨hr, by simp [h2, h3]⟩])
            have HR : Hid (rf a b = a.tmod b + b) := Lib.hid (by unfold rf; rw [if_pos ⟨hr, by simp [h2, h3]⟩])
            have h3' : decide (b < 0) = false := by simpa using h3
            go_enter Try.func31, Try.ntmps31
            go_wp2_with (go_at_call 36; refine (smallE _ _).mono ?_; rintro e w' ⟨rfl, rfl⟩)
            go_quiet (fail)
            go_wp2
            go_ret3
            exact ⟨ret_iib (by simp [valQ, hok.out, HQ.out]) (by simp [valM, hok.out, HR.out]) hok.out.symm, _, rfl⟩
          · have HQ : Hid (qf a b = a.tdiv b - 1) := Lib.hid (by unfold qf; rw [if_pos ⟨hr, by simp [h2, h3]⟩])
            have HR : Hid (rf a b = a.tmod b + b) := Lib.hid (by unfold rf; rw [if_pos ⟨hr, by simp [h2, h3]⟩])
            have h2' : decide (a.tmod b < 0) = false := by simpa using h2
            go_enter Try.func31, Try.ntmps31
            go_wp2_with (go_at_call 36; refine (smallE _ _).mono ?_; rintro e w' ⟨rfl, rfl⟩)
            go_quiet (fail)
            go_wp2
            go_ret3
            exact ⟨ret_iib (by simp [valQ, hok.out, HQ.out]) (by simp [valM, hok.out, HR.out]) hok.out.symm, _, rfl⟩
          · have HQ : Hid (qf a b = a.tdiv b) := Lib.hid (by unfold qf; rw [if_neg (by simp [h2, h3])])
            have HR : Hid (rf a b = a.tmod b) := Lib.hid (by unfold rf; rw [if_neg (by simp [h2, h3])])
            have h2' : decide (a.tmod b < 0) = false := by simpa using h2
            have h3' : decide (b < 0) = false := by simpa using h3
            go_enter Try.func31, Try.ntmps31
            go_wp2_with (go_at_call 36; refine (smallE _ _).mono ?_; rintro e w' ⟨rfl, rfl⟩)
            go_quiet (fail)
            go_wp2
            go_ret3
            exact ⟨ret_iib (by simp [valQ, hok.out, HQ.out]) (by simp [valM, hok.out, HR.out]) hok.out.symm, _, rfl⟩

theorem divideE (a b : Int) (w : World) : Calls Try.prog 10 #[.int .i64 a, .int .i64 b] w fun e w' => e = .returned (.tuple #[.int .i64 (valQ a b), .bool (okD a b)]) ∧ ∃ n, w' = w.drewN n := by
  go_enter Try.func10, Try.ntmps10
  go_wp2_with (go_at_call 31; refine (divE _ _ _).mono ?_; rintro e w' ⟨rfl, n, rfl⟩)
  go_ret2
  exact ⟨rfl, _, rfl⟩
theorem moduloE (a b : Int) (w : World) : Calls Try.prog 12 #[.int .i64 a, .int .i64 b] w fun e w' => e = .returned (.tuple #[.int .i64 (valM a b), .bool (okD a b)]) ∧ ∃ n, w' = w.drewN n := by
  go_enter Try.func12, Try.ntmps12
  go_wp2_with (go_at_call 31; refine (divE _ _ _).mono ?_; rintro e w' ⟨rfl, n, rfl⟩)
  go_ret2
  exact ⟨rfl, _, rfl⟩

theorem floorF (a b : Int) (w : World) (a1 : -1073741824 ≤ a) (a2 : a ≤ 1073741824) (b1 : 1 ≤ b) (b2 : b ≤ 1073741824) :
    Calls Try.prog 33 #[.int .i64 a, .int .i64 b] w fun e w' => e = .returned (.int .i64 (fl a b)) ∧ w = w' := by
  have hz : ¬ b = 0 := by omega
  have bq := tdiv_bd a b a1 a2
  have br := tmod_bd a b (by omega) b2 hz
  have hwq : IntKind.i64.wrap (a.tdiv b) = a.tdiv b := IntWalk.i64_in _ (by omega)
  by_cases h2 : a.tmod b < 0
  · have HQ : Hid (fl a b = a.tdiv b - 1) := Lib.hid (by unfold fl; rw [if_pos h2])
    go_enter Try.func33, Try.ntmps33
    go_wp2
    go_ret
    exact ⟨ret_int HQ.out.symm, rfl⟩
  · have HQ : Hid (fl a b = a.tdiv b) := Lib.hid (by unfold fl; rw [if_neg h2])
    go_enter Try.func33, Try.ntmps33
    go_wp2
    go_ret
    exact ⟨ret_int HQ.out.symm, rfl⟩

set_option maxHeartbeats 400000 in
theorem divideF (a b : Int) (w : World) : Calls Try.prog 11 #[.int .i64 a, .int .i64 b] w fun e w' => e = .returned (.tuple #[.int .i64 (valQ a b), .bool (okD a b)]) ∧ ∃ n, w' = w.drewN n := by
  cases ha : sm a
  · have HA := Lib.hid ha
    go_enter Try.func11, Try.ntmps11
    go_wp2_with (go_at_call 32; refine (smallF _ _).mono ?_; rintro e w' ⟨rfl, rfl⟩)
    go_ret2
    exact ⟨ret_ib (by simp [valQ, okD, HA.out]) (by simp [okD, HA.out]), 0, rfl⟩
  · have HA := Lib.hid ha
    cases hb : sm b
    · have HB := Lib.hid hb
      go_enter Try.func11, Try.ntmps11
      go_wp2_with (go_at_call 32; refine (smallF _ _).mono ?_; rintro e w' ⟨rfl, rfl⟩)
      go_ret2
      exact ⟨ret_ib (by simp [valQ, okD, HA.out, HB.out]) (by simp [okD, HA.out, HB.out]), 0, rfl⟩
    · have HB := Lib.hid hb
      by_cases hz : b = 0
      · subst hz
        go_enter Try.func11, Try.ntmps11
        go_wp2_with (go_at_call 32; refine (smallF _ _).mono ?_; rintro e w' ⟨rfl, rfl⟩)
        go_ret2
        exact ⟨ret_ib (by simp [valQ, okD, HA.out, HB.out]) (by simp [okD, HA.out, HB.out]), 0, rfl⟩
      · have ba := sm_yes ha
        have bb := sm_yes hb
        have hz' : (b == 0) = false := by simpa using hz
        have hok : Hid (okD a b = true) := Lib.hid (by unfold okD; rw [ha, hb, hz']; rfl)
        have hfl : Hid (qf a b = if b < 0 then fl (-a) (-b) else fl a b) := Lib.hid (qf_fl a b)
        by_cases hn : b < 0
        · have HV : Hid (valQ a b = fl (-a) (-b)) := Lib.hid (by unfold valQ; rw [if_pos hok.out, hfl.out, if_pos hn])
          go_enter Try.func11, Try.ntmps11
          go_wp2_with (first
            | (go_at_call 32; refine (smallF _ _).mono ?_; rintro e w' ⟨rfl, rfl⟩)
            | (go_at_call 33; refine (floorF _ _ _ (by omega) (by omega) (by omega) (by omega)).mono ?_; rintro e w' ⟨rfl, rfl⟩))
          go_ret2
          exact ⟨ret_ib HV.out.symm hok.out.symm, 0, rfl⟩
        · have HV : Hid (valQ a b = fl a b) := Lib.hid (by unfold valQ; rw [if_pos hok.out, hfl.out, if_neg hn])
          go_enter Try.func11, Try.ntmps11
          go_wp2_with (first
            | (go_at_call 32; refine (smallF _ _).mono ?_; rintro e w' ⟨rfl, rfl⟩)
            | (go_at_call 33; refine (floorF _ _ _ (by omega) (by omega) (by omega) (by omega)).mono ?_; rintro e w' ⟨rfl, rfl⟩))
          go_ret2
          exact ⟨ret_ib HV.out.symm hok.out.symm, 0, rfl⟩

theorem moduloF (a b : Int) (w : World) : Calls Try.prog 13 #[.int .i64 a, .int .i64 b] w fun e w' => e = .returned (.tuple #[.int .i64 (valM a b), .bool (okD a b)]) ∧ ∃ n, w' = w.drewN n := by
  cases hok : okD a b
  · have H := Lib.hid hok
    go_enter Try.func13, Try.ntmps13
    go_wp2_with (go_at_call 11; refine (divideF _ _ _).mono ?_; rintro e w' ⟨rfl, n, rfl⟩)
    go_ret2
    exact ⟨ret_ib (by simp [valM, H.out]) rfl, _, rfl⟩
  · have H := Lib.hid hok
    have hv : valQ a b = qf a b := by unfold valQ; rw [if_pos hok]
    have hm : valM a b = rf a b := by unfold valM; rw [if_pos hok]
    have hf := qf_rf a b
    have hsb := okD_sm hok
    have ba := sm_yes hsb.1
    have bb := sm_yes hsb.2.1
    have hr : -1073741824 ≤ rf a b ∧ rf a b ≤ 1073741824 := by
      rcases Int.lt_or_gt_of_ne hsb.2.2 with h | h
      · have := rf_neg a b h; omega
      · have := rf_pos a b h; omega
    have hf' : a - b * qf a b = rf a b := by rw [Int.mul_comm]; omega
    have HF : Hid (a - b * qf a b = valM a b) := Lib.hid (by rw [hm]; exact hf')
    have hb1 : -2147483648 ≤ b * qf a b ∧ b * qf a b ≤ 2147483648 := by omega
    clear hf hf' hm
    go_enter Try.func13, Try.ntmps13
    go_wp2_with (go_at_call 11; refine (divideF _ _ _).mono ?_; rintro e w' ⟨rfl, n, rfl⟩)
    go_ret2
    exact ⟨ret_ib HF.out rfl, _, rfl⟩
end Go.Proofs.Ytkjhgnjoiocogaa
