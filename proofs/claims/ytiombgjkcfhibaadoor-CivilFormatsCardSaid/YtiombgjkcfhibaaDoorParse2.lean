/- Contracts of the two functions Parse; the laws' closed examples. */ -/
import Derived.Test.YtiombgjkcfhibaaDoorParse
namespace Go.Proofs.YtiombgjkcfhibaaDoor
open Go.RowKit
set_option linter.unusedSimpArgs false
set_option linter.unusedVariables false

theorem ret_ii {k : IntKind} {a b c d : Int} (h : a = b) (h' : c = d) : Ending.returned (.tuple #[.int k a, .int k c]) = .returned (.tuple #[.int k b, .int k d]) := by rw [h, h']
theorem Tab.drewN {w : World} (h : Tab w) (n : Nat) : Tab (w.drewN n) := h
theorem below_drewN {B : Nat} {a w : World} (h : Below B a w) (n : Nat) : Below B a (w.drewN n) := ⟨h.os, h.tape, h.output, h.size, h.block⟩
theorem flipw {P : Program} {f : FuncId} {args : Array Value} {w : World} {v : Value} (h : Calls P f args w fun e w' => e = .returned v ∧ w = w') : Calls P f args w fun e w' => e = .returned v ∧ w' = w := h.mono fun _ _ ⟨a, b⟩ => ⟨a, b.symm⟩

set_option maxRecDepth 100000 in
set_option maxHeartbeats 2000000 in
theorem parseE (s : ByteArray) (w : World) (hT : Tab w) : Calls Tryd.prog 15 #[.string s] w fun e w' => e = .returned (.tuple #[.int .i64 (pV (bs s)), .int .i64 (pE (bs s))]) ∧ Below w.heap.size w w' := by
  have hl := bs_length s
  by_cases hs : s.size = 16
  · have HL : Hid ((bs s).length = 16) := Lib.hid (by rw [hl, hs])
    have HS := Lib.hid hs
    have h16 : ((s.size : Int) != 16) = false := by rw [hs]; rfl
    have hsle : s.size ≤ 16 := by omega
    have hsge : 16 ≤ s.size := by omega
    clear hl hs
    go_enter Tryd.func15, Tryd.ntmps15
    go_wp2
    go_loopw [13] (fun i wr => ∃ k n : Nat, k ≤ 16 ∧ i = .int .i64 k ∧ formTo (bs s) k = true ∧ wr = w.drewN n) (fun i _ => 16 - (intOf i).toNat)
    case atStart => exact ⟨0, 0, by omega, rfl, rfl, rfl⟩
    case round =>
      obtain ⟨k, n, hk, rfl, hfm, rfl⟩ := hrel
      have HF := Lib.hid hfm
      clear hfm
      by_cases hlt : k < 16
      · have hsz : k < s.size := by omega
        obtain ⟨f, hf⟩ : ∃ f, f = fmb k := ⟨_, rfl⟩
        obtain ⟨c, hc⟩ : ∃ c, c = byt (bs s) k := ⟨_, rfl⟩
        have i1 := form_idx k hlt
        have i2 := idx s k hsz
        rw [← hf] at i1
        rw [← hc] at i2
        have hF := Lib.hid hf
        have hC := Lib.hid hc
        have hcb := byt_bd (bs s) k
        rw [← hc] at hcb
        have hfs := Lib.hid (formTo_succ (bs s) k)
        clear hf hc
        by_cases f1 : f = 48
        · have g1 : (f == 48) = true := by simpa using f1
          have g2 : (f != 48) = false := by simpa using f1
          have F1 := Lib.hid f1
          clear f1
          by_cases c1 : c < 48
          · have hno : Hid (formB (bs s) = false) := Lib.hid (formTo_no (bs s) k 16 hlt (by rw [← hF.out, ← hC.out, F1.out]; unfold chk; simp; omega))
            go_wp2
            go_quiet (fail)
            go_wp2
            go_ret2
            exact ⟨ret_ii (by unfold pV; rw [hno.out]; simp) (by unfold pE; rw [hno.out]; simp), below_drewN (below_drewN (Below.refl _ _) _) _⟩
          · have d1 : decide (c < 48) = false := by simpa using c1
            by_cases c2 : 57 < c
            · have hno : Hid (formB (bs s) = false) := Lib.hid (formTo_no (bs s) k 16 hlt (by rw [← hF.out, ← hC.out, F1.out]; unfold chk; simp; omega))
              go_wp2
              go_quiet (fail)
              go_wp2
              go_ret2
              exact ⟨ret_ii (by unfold pV; rw [hno.out]; simp) (by unfold pE; rw [hno.out]; simp), below_drewN (below_drewN (Below.refl _ _) _) _⟩
            · have d2 : decide (57 < c) = false := by simpa using c2
              have hyes : Hid (formTo (bs s) (k + 1) = true) := Lib.hid (by rw [hfs.out, HF.out, ← hF.out, ← hC.out, F1.out]; unfold chk; simp; omega)
              go_wp2
              go_quiet (fail)
              go_wp2
              go_roundw
              case rel => exact ⟨k + 1, _, by omega, by go_num, hyes.out, by first | rfl | exact World.drewN_drewN _ _ _⟩
              case measure => simp [intOf]; omega
        · have g1 : (f == 48) = false := by simpa using f1
          have g2 : (f != 48) = true := by simpa using f1
          have F1 := Lib.hid f1
          clear f1
          by_cases c1 : c = f
          · have d1 : (c != f) = false := by simpa using c1
            have hyes : Hid (formTo (bs s) (k + 1) = true) := Lib.hid (by rw [hfs.out, HF.out, ← hF.out, ← hC.out]; unfold chk; rw [if_neg F1.out]; simpa using c1)
            clear c1
            go_wp2
            go_quiet (fail)
            go_wp2
            go_roundw
            case rel => exact ⟨k + 1, _, by omega, by go_num, hyes.out, by first | rfl | exact World.drewN_drewN _ _ _⟩
            case measure => simp [intOf]; omega
          · have d1 : (c != f) = true := by simpa using c1
            have hno : Hid (formB (bs s) = false) := Lib.hid (formTo_no (bs s) k 16 hlt (by rw [← hF.out, ← hC.out]; unfold chk; rw [if_neg F1.out]; simpa using c1))
            clear c1
            go_wp2
            go_quiet (fail)
            go_wp2
            go_ret2
            exact ⟨ret_ii (by unfold pV; rw [hno.out]; simp) (by unfold pE; rw [hno.out]; simp), below_drewN (below_drewN (Below.refl _ _) _) _⟩
      · obtain rfl : k = 16 := by omega
        have zY : (s.extract 0 4).size ≤ 4 := by simp [ByteArray.size_extract]; omega
        have qY : (bs (s.extract 0 4)).all dgB = true := by rw [bs_extract]; exact (form_groups (bs s) HL.out HF.out).1
        obtain ⟨Y, hY⟩ : ∃ x, x = tY (bs s) := ⟨_, rfl⟩
        have eY : nmb (bs (s.extract 0 4)) = Y := by rw [hY, bs_extract]; rfl
        have zMo : (s.extract 5 7).size ≤ 4 := by simp [ByteArray.size_extract]; omega
        have qMo : (bs (s.extract 5 7)).all dgB = true := by rw [bs_extract]; exact (form_groups (bs s) HL.out HF.out).2.1
        obtain ⟨Mo, hMo⟩ : ∃ x, x = tMo (bs s) := ⟨_, rfl⟩
        have eMo : nmb (bs (s.extract 5 7)) = Mo := by rw [hMo, bs_extract]; rfl
        have zD : (s.extract 8 10).size ≤ 4 := by simp [ByteArray.size_extract]; omega
        have qD : (bs (s.extract 8 10)).all dgB = true := by rw [bs_extract]; exact (form_groups (bs s) HL.out HF.out).2.2.1
        obtain ⟨D, hD⟩ : ∃ x, x = tD (bs s) := ⟨_, rfl⟩
        have eD : nmb (bs (s.extract 8 10)) = D := by rw [hD, bs_extract]; rfl
        have zH : (s.extract 11 13).size ≤ 4 := by simp [ByteArray.size_extract]; omega
        have qH : (bs (s.extract 11 13)).all dgB = true := by rw [bs_extract]; exact (form_groups (bs s) HL.out HF.out).2.2.2.1
        obtain ⟨H, hH⟩ : ∃ x, x = tH (bs s) := ⟨_, rfl⟩
        have eH : nmb (bs (s.extract 11 13)) = H := by rw [hH, bs_extract]; rfl
        have zMi : (s.extract 14 16).size ≤ 4 := by simp [ByteArray.size_extract]; omega
        have qMi : (bs (s.extract 14 16)).all dgB = true := by rw [bs_extract]; exact (form_groups (bs s) HL.out HF.out).2.2.2.2
        obtain ⟨Mi, hMi⟩ : ∃ x, x = tMi (bs s) := ⟨_, rfl⟩
        have eMi : nmb (bs (s.extract 14 16)) = Mi := by rw [hMi, bs_extract]; rfl
        have bY := (grp_bd (bs s) HL.out HF.out).1
        have bMo := (grp_bd (bs s) HL.out HF.out).2.1
        have bD := (grp_bd (bs s) HL.out HF.out).2.2.1
        have bH := (grp_bd (bs s) HL.out HF.out).2.2.2.1
        have bMi := (grp_bd (bs s) HL.out HF.out).2.2.2.2
        rw [← hY] at bY
        rw [← hMo] at bMo
        rw [← hD] at bD
        rw [← hH] at bH
        rw [← hMi] at bMi
        have hvb := dayV_bd Y Mo D
        have hp := Lib.hid (p_yes (bs s) HL.out HF.out)
        rw [← hY, ← hMo, ← hD, ← hH, ← hMi] at hp
        clear hY hMo hD hH hMi
        have hTn := hT.drewN n
        generalize hw : w.drewN n = w1 at *
        have HW := Lib.hid hw
        clear hw
        have HB : Hid (Below w.heap.size w w1) := Lib.hid (by rw [← HW.out]; exact below_drewN (Below.refl _ _) _)
        generalize hok : okDate Y Mo D = ok at *
        have HOK := Lib.hid hok
        clear hok
        generalize hdv : dayV Y Mo D = dv at *
        have HDV := Lib.hid hdv
        clear hdv
        go_wp2
        go_quiet ((first | (go_at_call 28; exact Calls.quiet_of_same (numberE _ _ (by assumption) (by assumption))) | (go_at_call 10; exact Calls.quiet_of_same (flipw (daysE _ _ _ _ (by assumption))))))
        go_wp2
        have hT2 := hTn.drewN nq
        have HB2 := Lib.hid (below_drewN HB.out nq)
        generalize w1.drewN nq = w2 at *
        go_quiet ((first | (go_at_call 28; exact Calls.quiet_of_same (numberE _ _ (by assumption) (by assumption))) | (go_at_call 10; exact Calls.quiet_of_same (flipw (daysE _ _ _ _ (by assumption))))))
        have HB3 := Lib.hid (below_drewN HB2.out nq)
        have hok := HOK.out
        have hdv := HDV.out
        clear HOK HDV
        clear hTn hT2 zY zMo zD zH zMi qY qMo qD qH qMi
        by_cases c1 : 23 < H
        · have HP : Hid (pV (bs s) = 0 ∧ pE (bs s) = 1) := Lib.hid (by have := hp.out; rw [show decide (H ≤ 23) = false by simp; omega] at this; simpa using this)
          clear hp
          go_wp2
          go_ret2
          exact ⟨ret_ii HP.out.1.symm HP.out.2.symm, HB3.out⟩
        · have d1 : decide (23 < H) = false := by simpa using c1
          by_cases c2 : 59 < Mi
          · have HP : Hid (pV (bs s) = 0 ∧ pE (bs s) = 1) := Lib.hid (by have := hp.out; rw [show decide (Mi ≤ 59) = false by simp; omega] at this; simpa using this)
            clear hp
            go_wp2
            go_ret2
            exact ⟨ret_ii HP.out.1.symm HP.out.2.symm, HB3.out⟩
          · have d2 : decide (59 < Mi) = false := by simpa using c2
            cases ok
            · have HP : Hid (pV (bs s) = 0 ∧ pE (bs s) = 1) := Lib.hid (by have := hp.out; simpa using this)
              clear hp
              go_wp2
              go_ret2
              exact ⟨ret_ii HP.out.1.symm HP.out.2.symm, HB3.out⟩
            · by_cases c4 : 575999999 < dv * 1440 + H * 60 + Mi
              · have HP : Hid (pV (bs s) = 0 ∧ pE (bs s) = 1) := Lib.hid (by have := hp.out; rw [show decide (dv * 1440 + H * 60 + Mi ≤ 575999999) = false by simp; omega] at this; simpa using this)
                clear hp
                go_wp2
                go_ret2
                exact ⟨ret_ii HP.out.1.symm HP.out.2.symm, HB3.out⟩
              · have d4 : decide (575999999 < dv * 1440 + H * 60 + Mi) = false := by simpa using c4
                have HP : Hid (pV (bs s) = dv * 1440 + H * 60 + Mi ∧ pE (bs s) = 0) := Lib.hid (by have := hp.out; rw [show decide (dv * 1440 + H * 60 + Mi ≤ 575999999) = true by simp; omega, show decide (H ≤ 23) = true by simp; omega, show decide (Mi ≤ 59) = true by simp; omega] at this; simpa using this)
                clear hp
                go_wp2
                go_ret2
                exact ⟨ret_ii HP.out.1.symm HP.out.2.symm, HB3.out⟩
  · have h16 : ((s.size : Int) != 16) = true := by simp; omega
    have hno : Hid (decide ((bs s).length = 16) = false) := Lib.hid (by rw [hl]; simpa using hs)
    clear hl hs
    go_enter Tryd.func15, Tryd.ntmps15
    go_wp2
    go_ret2
    exact ⟨ret_ii (by unfold pV; rw [hno.out]; rfl) (by unfold pE; rw [hno.out]; rfl), Below.refl _ _⟩
end Go.Proofs.YtiombgjkcfhibaaDoor
