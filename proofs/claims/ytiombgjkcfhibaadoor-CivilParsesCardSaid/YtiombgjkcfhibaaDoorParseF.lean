/- Contract of the reference's Parse. -/
import Derived.Test.YtiombgjkcfhibaaDoorParse2
namespace Go.Proofs.YtiombgjkcfhibaaDoor
open Go.RowKit
set_option linter.unusedSimpArgs false
set_option linter.unusedVariables false

theorem dgs_yes {l : List UInt8} (h : l.all dgB = true) : dgs l = nmb l := by unfold dgs; rw [if_pos h]
theorem dgs_not {l : List UInt8} (h : l.all dgB = false) : dgs l = -1 := by unfold dgs; rw [if_neg (by simp [h])]

set_option maxRecDepth 100000 in
set_option maxHeartbeats 4000000 in
theorem parseF (s : ByteArray) (w : World) : Calls Tryd.prog 16 #[.string s] w fun e w' => e = .returned (.tuple #[.int .i64 (pV (bs s)), .int .i64 (pE (bs s))]) ∧ Below w.heap.size w w' := by
  have hl := bs_length s
  by_cases hs : s.size = 16
  · have HL : Hid ((bs s).length = 16) := Lib.hid (by rw [hl, hs])
    have HS := Lib.hid hs
    have h16 : ((s.size : Int) != 16) = false := by rw [hs]; rfl
    have hsle : s.size ≤ 16 := by omega
    have hsge : 16 ≤ s.size := by omega
    have HSP := Lib.hid (form_split (bs s) HL.out)
    clear hl hs
    obtain ⟨c4, h4⟩ : ∃ c, c = byt (bs s) 4 := ⟨_, rfl⟩
    have i4 : ∀ w : World, (Instr.index 9 (.string s) (.int .i64 4)).run Tryd.prog w = .ok (.int .u8 c4) w := fun w => by have := idx s 4 (by omega) w; rw [← h4] at this; simpa using this
    have H4 := Lib.hid h4
    clear h4
    obtain ⟨c7, h7⟩ : ∃ c, c = byt (bs s) 7 := ⟨_, rfl⟩
    have i7 : ∀ w : World, (Instr.index 9 (.string s) (.int .i64 7)).run Tryd.prog w = .ok (.int .u8 c7) w := fun w => by have := idx s 7 (by omega) w; rw [← h7] at this; simpa using this
    have H7 := Lib.hid h7
    clear h7
    obtain ⟨c10, h10⟩ : ∃ c, c = byt (bs s) 10 := ⟨_, rfl⟩
    have i10 : ∀ w : World, (Instr.index 9 (.string s) (.int .i64 10)).run Tryd.prog w = .ok (.int .u8 c10) w := fun w => by have := idx s 10 (by omega) w; rw [← h10] at this; simpa using this
    have H10 := Lib.hid h10
    clear h10
    obtain ⟨c13, h13⟩ : ∃ c, c = byt (bs s) 13 := ⟨_, rfl⟩
    have i13 : ∀ w : World, (Instr.index 9 (.string s) (.int .i64 13)).run Tryd.prog w = .ok (.int .u8 c13) w := fun w => by have := idx s 13 (by omega) w; rw [← h13] at this; simpa using this
    have H13 := Lib.hid h13
    clear h13
    cases x4 : (c4 != 45)
    rotate_left
    · have hno : Hid (formB (bs s) = false) := Lib.hid (by rw [HSP.out]; unfold sepB; rw [← H4.out, show decide (c4 = 45) = false by simpa using x4]; simp)
      go_enter Tryd.func16, Tryd.ntmps16
      go_wp2
      go_ret2
      exact ⟨ret_ii (by unfold pV; rw [hno.out]; simp) (by unfold pE; rw [hno.out]; simp), Below.refl _ _⟩
    cases x7 : (c7 != 45)
    rotate_left
    · have hno : Hid (formB (bs s) = false) := Lib.hid (by rw [HSP.out]; unfold sepB; rw [← H7.out, show decide (c7 = 45) = false by simpa using x7]; simp)
      go_enter Tryd.func16, Tryd.ntmps16
      go_wp2
      go_ret2
      exact ⟨ret_ii (by unfold pV; rw [hno.out]; simp) (by unfold pE; rw [hno.out]; simp), Below.refl _ _⟩
    cases x10 : (c10 != 84)
    rotate_left
    · have hno : Hid (formB (bs s) = false) := Lib.hid (by rw [HSP.out]; unfold sepB; rw [← H10.out, show decide (c10 = 84) = false by simpa using x10]; simp)
      go_enter Tryd.func16, Tryd.ntmps16
      go_wp2
      go_ret2
      exact ⟨ret_ii (by unfold pV; rw [hno.out]; simp) (by unfold pE; rw [hno.out]; simp), Below.refl _ _⟩
    cases x13 : (c13 != 58)
    rotate_left
    · have hno : Hid (formB (bs s) = false) := Lib.hid (by rw [HSP.out]; unfold sepB; rw [← H13.out, show decide (c13 = 58) = false by simpa using x13]; simp)
      go_enter Tryd.func16, Tryd.ntmps16
      go_wp2
      go_ret2
      exact ⟨ret_ii (by unfold pV; rw [hno.out]; simp) (by unfold pE; rw [hno.out]; simp), Below.refl _ _⟩
    have hsep : Hid (sepB (bs s) = true) := Lib.hid (by unfold sepB; rw [← H4.out, ← H7.out, ← H10.out, ← H13.out]; simp at x4 x7 x10 x13; simp [x4, x7, x10, x13])
    have zY : (s.extract 0 4).size ≤ 4 := by simp [ByteArray.size_extract]; omega
    obtain ⟨gY, hgY⟩ : ∃ x, x = dgs (grp (bs s) 0 4) := ⟨_, rfl⟩
    have eY : dgs (bs (s.extract 0 4)) = gY := by rw [hgY, bs_extract]
    have HGY := Lib.hid hgY
    clear hgY
    have zMo : (s.extract 5 7).size ≤ 4 := by simp [ByteArray.size_extract]; omega
    obtain ⟨gMo, hgMo⟩ : ∃ x, x = dgs (grp (bs s) 5 7) := ⟨_, rfl⟩
    have eMo : dgs (bs (s.extract 5 7)) = gMo := by rw [hgMo, bs_extract]
    have HGMo := Lib.hid hgMo
    clear hgMo
    have zD : (s.extract 8 10).size ≤ 4 := by simp [ByteArray.size_extract]; omega
    obtain ⟨gD, hgD⟩ : ∃ x, x = dgs (grp (bs s) 8 10) := ⟨_, rfl⟩
    have eD : dgs (bs (s.extract 8 10)) = gD := by rw [hgD, bs_extract]
    have HGD := Lib.hid hgD
    clear hgD
    have zH : (s.extract 11 13).size ≤ 4 := by simp [ByteArray.size_extract]; omega
    obtain ⟨gH, hgH⟩ : ∃ x, x = dgs (grp (bs s) 11 13) := ⟨_, rfl⟩
    have eH : dgs (bs (s.extract 11 13)) = gH := by rw [hgH, bs_extract]
    have HGH := Lib.hid hgH
    clear hgH
    have zMi : (s.extract 14 s.size).size ≤ 4 := by simp [ByteArray.size_extract]; omega
    obtain ⟨gMi, hgMi⟩ : ∃ x, x = dgs (grp (bs s) 14 16) := ⟨_, rfl⟩
    have eMi : dgs (bs (s.extract 14 s.size)) = gMi := by rw [hgMi, bs_extract, HS.out]
    have HGMi := Lib.hid hgMi
    clear hgMi
    cases yY : (grp (bs s) 0 4).all dgB
    · have hno : Hid (formB (bs s) = false) := Lib.hid (by rw [HSP.out]; unfold allDg; rw [yY]; simp)
      have hlt : gY = -1 := by rw [HGY.out]; exact dgs_not yY
      have hd : decide (gY < 0) = true := by simp; omega
      have hx : Hid (gY = -1) := Lib.hid hlt
      clear hlt
      go_enter Tryd.func16, Tryd.ntmps16
      go_wp2
      go_quiet ((go_at_call 29; with_reducible (first | exact Calls.quiet_of_same (digitsF _ _ zY) | exact Calls.quiet_of_same (digitsF _ _ zMo) | exact Calls.quiet_of_same (digitsF _ _ zD) | exact Calls.quiet_of_same (digitsF _ _ zH) | exact Calls.quiet_of_same (digitsF _ _ zMi))))
      go_wp2_with (go_at_call 11; refine (daysF _ _ _ _).mono ?_; rintro e w' ⟨rfl, rfl⟩)
      go_ret2
      exact ⟨ret_ii (by unfold pV; rw [hno.out]; simp) (by unfold pE; rw [hno.out]; simp), below_drewN (Below.refl _ _) _⟩
    have rY : gY = tY (bs s) := by rw [HGY.out]; exact dgs_yes yY
    have RRY := Lib.hid rY
    have pY : 0 ≤ gY := by rw [rY]; exact (nmb_bd _ yY).1
    have nY : decide (gY < 0) = false := by simp; omega
    have YY := Lib.hid yY
    clear rY yY
    cases yMo : (grp (bs s) 5 7).all dgB
    · have hno : Hid (formB (bs s) = false) := Lib.hid (by rw [HSP.out]; unfold allDg; rw [yMo]; simp)
      have hlt : gMo = -1 := by rw [HGMo.out]; exact dgs_not yMo
      have hd : decide (gMo < 0) = true := by simp; omega
      have hx : Hid (gMo = -1) := Lib.hid hlt
      clear hlt
      go_enter Tryd.func16, Tryd.ntmps16
      go_wp2
      go_quiet ((go_at_call 29; with_reducible (first | exact Calls.quiet_of_same (digitsF _ _ zY) | exact Calls.quiet_of_same (digitsF _ _ zMo) | exact Calls.quiet_of_same (digitsF _ _ zD) | exact Calls.quiet_of_same (digitsF _ _ zH) | exact Calls.quiet_of_same (digitsF _ _ zMi))))
      go_wp2_with (go_at_call 11; refine (daysF _ _ _ _).mono ?_; rintro e w' ⟨rfl, rfl⟩)
      go_ret2
      exact ⟨ret_ii (by unfold pV; rw [hno.out]; simp) (by unfold pE; rw [hno.out]; simp), below_drewN (Below.refl _ _) _⟩
    have rMo : gMo = tMo (bs s) := by rw [HGMo.out]; exact dgs_yes yMo
    have RRMo := Lib.hid rMo
    have pMo : 0 ≤ gMo := by rw [rMo]; exact (nmb_bd _ yMo).1
    have nMo : decide (gMo < 0) = false := by simp; omega
    have YMo := Lib.hid yMo
    clear rMo yMo
    cases yD : (grp (bs s) 8 10).all dgB
    · have hno : Hid (formB (bs s) = false) := Lib.hid (by rw [HSP.out]; unfold allDg; rw [yD]; simp)
      have hlt : gD = -1 := by rw [HGD.out]; exact dgs_not yD
      have hd : decide (gD < 0) = true := by simp; omega
      have hx : Hid (gD = -1) := Lib.hid hlt
      clear hlt
      go_enter Tryd.func16, Tryd.ntmps16
      go_wp2
      go_quiet ((go_at_call 29; with_reducible (first | exact Calls.quiet_of_same (digitsF _ _ zY) | exact Calls.quiet_of_same (digitsF _ _ zMo) | exact Calls.quiet_of_same (digitsF _ _ zD) | exact Calls.quiet_of_same (digitsF _ _ zH) | exact Calls.quiet_of_same (digitsF _ _ zMi))))
      go_wp2_with (go_at_call 11; refine (daysF _ _ _ _).mono ?_; rintro e w' ⟨rfl, rfl⟩)
      go_ret2
      exact ⟨ret_ii (by unfold pV; rw [hno.out]; simp) (by unfold pE; rw [hno.out]; simp), below_drewN (Below.refl _ _) _⟩
    have rD : gD = tD (bs s) := by rw [HGD.out]; exact dgs_yes yD
    have RRD := Lib.hid rD
    have pD : 0 ≤ gD := by rw [rD]; exact (nmb_bd _ yD).1
    have nD : decide (gD < 0) = false := by simp; omega
    have YD := Lib.hid yD
    clear rD yD
    cases yH : (grp (bs s) 11 13).all dgB
    · have hno : Hid (formB (bs s) = false) := Lib.hid (by rw [HSP.out]; unfold allDg; rw [yH]; simp)
      have hlt : gH = -1 := by rw [HGH.out]; exact dgs_not yH
      have hd : decide (gH < 0) = true := by simp; omega
      have hx : Hid (gH = -1) := Lib.hid hlt
      clear hlt
      go_enter Tryd.func16, Tryd.ntmps16
      go_wp2
      go_quiet ((go_at_call 29; with_reducible (first | exact Calls.quiet_of_same (digitsF _ _ zY) | exact Calls.quiet_of_same (digitsF _ _ zMo) | exact Calls.quiet_of_same (digitsF _ _ zD) | exact Calls.quiet_of_same (digitsF _ _ zH) | exact Calls.quiet_of_same (digitsF _ _ zMi))))
      go_wp2_with (go_at_call 11; refine (daysF _ _ _ _).mono ?_; rintro e w' ⟨rfl, rfl⟩)
      go_ret2
      exact ⟨ret_ii (by unfold pV; rw [hno.out]; simp) (by unfold pE; rw [hno.out]; simp), below_drewN (Below.refl _ _) _⟩
    have rH : gH = tH (bs s) := by rw [HGH.out]; exact dgs_yes yH
    have RRH := Lib.hid rH
    have pH : 0 ≤ gH := by rw [rH]; exact (nmb_bd _ yH).1
    have nH : decide (gH < 0) = false := by simp; omega
    have YH := Lib.hid yH
    clear rH yH
    cases yMi : (grp (bs s) 14 16).all dgB
    · have hno : Hid (formB (bs s) = false) := Lib.hid (by rw [HSP.out]; unfold allDg; rw [yMi]; simp)
      have hlt : gMi = -1 := by rw [HGMi.out]; exact dgs_not yMi
      have hd : decide (gMi < 0) = true := by simp; omega
      have hx : Hid (gMi = -1) := Lib.hid hlt
      clear hlt
      go_enter Tryd.func16, Tryd.ntmps16
      go_wp2
      go_quiet ((go_at_call 29; with_reducible (first | exact Calls.quiet_of_same (digitsF _ _ zY) | exact Calls.quiet_of_same (digitsF _ _ zMo) | exact Calls.quiet_of_same (digitsF _ _ zD) | exact Calls.quiet_of_same (digitsF _ _ zH) | exact Calls.quiet_of_same (digitsF _ _ zMi))))
      go_wp2_with (go_at_call 11; refine (daysF _ _ _ _).mono ?_; rintro e w' ⟨rfl, rfl⟩)
      go_ret2
      exact ⟨ret_ii (by unfold pV; rw [hno.out]; simp) (by unfold pE; rw [hno.out]; simp), below_drewN (Below.refl _ _) _⟩
    have rMi : gMi = tMi (bs s) := by rw [HGMi.out]; exact dgs_yes yMi
    have RRMi := Lib.hid rMi
    have pMi : 0 ≤ gMi := by rw [rMi]; exact (nmb_bd _ yMi).1
    have nMi : decide (gMi < 0) = false := by simp; omega
    have YMi := Lib.hid yMi
    clear rMi yMi
    have hfm : Hid (formTo (bs s) 16 = true) := Lib.hid (show formB (bs s) = true from by rw [HSP.out, hsep.out]; unfold allDg; rw [YY.out, YMo.out, YD.out, YH.out, YMi.out]; rfl)
    have bY := (grp_bd (bs s) HL.out hfm.out).1
    have bMo := (grp_bd (bs s) HL.out hfm.out).2.1
    have bD := (grp_bd (bs s) HL.out hfm.out).2.2.1
    have bH := (grp_bd (bs s) HL.out hfm.out).2.2.2.1
    have bMi := (grp_bd (bs s) HL.out hfm.out).2.2.2.2
    rw [← RRY.out] at bY
    rw [← RRMo.out] at bMo
    rw [← RRD.out] at bD
    rw [← RRH.out] at bH
    rw [← RRMi.out] at bMi
    have hvb := dayV_bd gY gMo gD
    have hp := Lib.hid (p_yes (bs s) HL.out hfm.out)
    rw [← RRY.out, ← RRMo.out, ← RRD.out, ← RRH.out, ← RRMi.out] at hp
    generalize hdv : dayV gY gMo gD = dv at hvb hp
    cases hok : okDate gY gMo gD
    · have HP : Hid (pV (bs s) = 0 ∧ pE (bs s) = 1) := Lib.hid (by have := hp.out; rw [hok] at this; simpa using this)
      clear hp
      go_enter Tryd.func16, Tryd.ntmps16
      go_wp2
      go_quiet ((go_at_call 29; with_reducible (first | exact Calls.quiet_of_same (digitsF _ _ zY) | exact Calls.quiet_of_same (digitsF _ _ zMo) | exact Calls.quiet_of_same (digitsF _ _ zD) | exact Calls.quiet_of_same (digitsF _ _ zH) | exact Calls.quiet_of_same (digitsF _ _ zMi))))
      go_wp2_with (go_at_call 11; refine (daysF _ _ _ _).mono ?_; rintro e w' ⟨rfl, rfl⟩)
      go_ret2
      exact ⟨ret_ii HP.out.1.symm HP.out.2.symm, below_drewN (Below.refl _ _) _⟩
    by_cases c1 : 23 < gH
    · have HP : Hid (pV (bs s) = 0 ∧ pE (bs s) = 1) := Lib.hid (by have := hp.out; rw [show decide (gH ≤ 23) = false by simp; omega] at this; simpa using this)
      clear hp
      go_enter Tryd.func16, Tryd.ntmps16
      go_wp2
      go_quiet ((go_at_call 29; with_reducible (first | exact Calls.quiet_of_same (digitsF _ _ zY) | exact Calls.quiet_of_same (digitsF _ _ zMo) | exact Calls.quiet_of_same (digitsF _ _ zD) | exact Calls.quiet_of_same (digitsF _ _ zH) | exact Calls.quiet_of_same (digitsF _ _ zMi))))
      go_wp2_with (go_at_call 11; refine (daysF _ _ _ _).mono ?_; rintro e w' ⟨rfl, rfl⟩)
      go_ret2
      exact ⟨ret_ii HP.out.1.symm HP.out.2.symm, below_drewN (Below.refl _ _) _⟩
    have d1 : decide (23 < gH) = false := by simpa using c1
    by_cases c2 : 59 < gMi
    · have HP : Hid (pV (bs s) = 0 ∧ pE (bs s) = 1) := Lib.hid (by have := hp.out; rw [show decide (gMi ≤ 59) = false by simp; omega] at this; simpa using this)
      clear hp
      go_enter Tryd.func16, Tryd.ntmps16
      go_wp2
      go_quiet ((go_at_call 29; with_reducible (first | exact Calls.quiet_of_same (digitsF _ _ zY) | exact Calls.quiet_of_same (digitsF _ _ zMo) | exact Calls.quiet_of_same (digitsF _ _ zD) | exact Calls.quiet_of_same (digitsF _ _ zH) | exact Calls.quiet_of_same (digitsF _ _ zMi))))
      go_wp2_with (go_at_call 11; refine (daysF _ _ _ _).mono ?_; rintro e w' ⟨rfl, rfl⟩)
      go_ret2
      exact ⟨ret_ii HP.out.1.symm HP.out.2.symm, below_drewN (Below.refl _ _) _⟩
    have d2 : decide (59 < gMi) = false := by simpa using c2
    by_cases c4 : 575999999 < dv * 1440 + gH * 60 + gMi
    · have HP : Hid (pV (bs s) = 0 ∧ pE (bs s) = 1) := Lib.hid (by have := hp.out; rw [show decide (dv * 1440 + gH * 60 + gMi ≤ 575999999) = false by simp; omega] at this; simpa using this)
      clear hp
      go_enter Tryd.func16, Tryd.ntmps16
      go_wp2
      go_quiet ((go_at_call 29; with_reducible (first | exact Calls.quiet_of_same (digitsF _ _ zY) | exact Calls.quiet_of_same (digitsF _ _ zMo) | exact Calls.quiet_of_same (digitsF _ _ zD) | exact Calls.quiet_of_same (digitsF _ _ zH) | exact Calls.quiet_of_same (digitsF _ _ zMi))))
      go_wp2_with (go_at_call 11; refine (daysF _ _ _ _).mono ?_; rintro e w' ⟨rfl, rfl⟩)
      go_ret2
      exact ⟨ret_ii HP.out.1.symm HP.out.2.symm, below_drewN (Below.refl _ _) _⟩
    have d4 : decide (575999999 < dv * 1440 + gH * 60 + gMi) = false := by simpa using c4
    have HP : Hid (pV (bs s) = dv * 1440 + gH * 60 + gMi ∧ pE (bs s) = 0) := Lib.hid (by have := hp.out; rw [hok, show decide (dv * 1440 + gH * 60 + gMi ≤ 575999999) = true by simp; omega, show decide (gH ≤ 23) = true by simp; omega, show decide (gMi ≤ 59) = true by simp; omega] at this; simpa using this)
    clear hp
    go_enter Tryd.func16, Tryd.ntmps16
    go_wp2
    go_quiet ((go_at_call 29; with_reducible (first | exact Calls.quiet_of_same (digitsF _ _ zY) | exact Calls.quiet_of_same (digitsF _ _ zMo) | exact Calls.quiet_of_same (digitsF _ _ zD) | exact Calls.quiet_of_same (digitsF _ _ zH) | exact Calls.quiet_of_same (digitsF _ _ zMi))))
    go_wp2_with (go_at_call 11; refine (daysF _ _ _ _).mono ?_; rintro e w' ⟨rfl, rfl⟩)
    go_ret2
    exact ⟨ret_ii HP.out.1.symm HP.out.2.symm, below_drewN (Below.refl _ _) _⟩
  · have h16 : ((s.size : Int) != 16) = true := by simp; omega
    have hno : Hid (decide ((bs s).length = 16) = false) := Lib.hid (by rw [hl]; simpa using hs)
    clear hl hs
    go_enter Tryd.func16, Tryd.ntmps16
    go_wp2
    go_ret2
    exact ⟨ret_ii (by unfold pV; rw [hno.out]; rfl) (by unfold pE; rw [hno.out]; rfl), Below.refl _ _⟩
end Go.Proofs.YtiombgjkcfhibaaDoor
