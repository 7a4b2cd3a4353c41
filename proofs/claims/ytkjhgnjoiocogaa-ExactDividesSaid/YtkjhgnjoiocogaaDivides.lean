/-
  ExactDivides: for every two integers the law returns true: Divide and Modulo of package exact return what the reference returns, and fit together. No conditions.
-/
import Derived.Test.YtkjhgnjoiocogaaFrame
import Derived.Test.YtkjhgnjoiocogaaKnow
namespace Go.Proofs.Ytkjhgnjoiocogaa.lawExactDivides
open Go.ChangeShapes Go.WideShapes Go.ChangeAt Go.RowKit
set_option linter.unusedSimpArgs false
set_option linter.unusedVariables false

theorem val_facts {x y : Int} (h : okD x y = true) : (-1073741824 ≤ x ∧ x ≤ 1073741824) ∧ (valQ x y * y + valM x y = x) ∧ (-4294967296 ≤ valQ x y * y ∧ valQ x y * y ≤ 4294967296) ∧ y ≠ 0 ∧ (0 < y → 0 ≤ valM x y ∧ valM x y < y) ∧ (y < 0 → y < valM x y ∧ valM x y ≤ 0) := by
  have e1 : valQ x y = qf x y := by unfold valQ; rw [if_pos h]
  have e2 : valM x y = rf x y := by unfold valM; rw [if_pos h]
  obtain ⟨s1, s2, s3⟩ := okD_sm h
  have b1 := sm_yes s1
  have b2 := sm_yes s2
  have hq := qf_rf x y
  rw [e1, e2]
  refine ⟨b1, hq, ?_, s3, fun hp => rf_pos x y hp, fun hn => rf_neg x y hn⟩
  rcases Int.lt_or_gt_of_ne s3 with hn | hn
  · have := rf_neg x y hn; omega
  · have := rf_pos x y hn; omega


set_option maxRecDepth 100000 in
set_option maxHeartbeats 4000000 in
theorem walk (a0 : Int) (w0 : (Lit.int .i64 a0).wf = true) (a1 : Int) (w1 : (Lit.int .i64 a1).wf = true) (w : World) :
    Calls Try.prog 3 #[.int .i64 a0, .int .i64 a1] w fun e w' => e = .returned (.bool true) ∧ Below w.heap.size w w' := by
  clear w0 w1
  go_enter Try.func3, Try.ntmps3
  go_wp2
  go_loopw [0, 1, 5] (fun a b i wr => ∃ (x y : Int) (k n : Nat), k ≤ 2 ∧ a = .int .i64 x ∧ b = .int .i64 y ∧ i = .int .i64 k ∧ wr = w.drewN n) (fun _ _ i _ => 2 - (intOf i).toNat)
  case atStart => exact ⟨a0, a1, 0, 0, by omega, rfl, rfl, rfl, rfl⟩
  case round =>
    obtain ⟨x, y, k, n, hk, rfl, rfl, rfl, rfl⟩ := hrel
    by_cases hlt : k < 2
    · cases hok : okD x y
      · go_wp2_with (first
          | (go_at_call 10; refine (divideE _ _ _).mono ?_; rintro e w' ⟨rfl, n1, rfl⟩)
          | (go_at_call 11; refine (divideF _ _ _).mono ?_; rintro e w' ⟨rfl, n2, rfl⟩)
          | (go_at_call 12; refine (moduloE _ _ _).mono ?_; rintro e w' ⟨rfl, n3, rfl⟩)
          | (go_at_call 13; refine (moduloF _ _ _).mono ?_; rintro e w' ⟨rfl, n4, rfl⟩)
          | (go_at_call 14; refine (near_any _ _).mono ?_; rintro e w' ⟨rfl, rfl⟩))
        go_roundw
        case rel => exact ⟨_, _, k + 1, _, by omega, rfl, rfl, by go_num, rfl⟩
        case measure => simp [intOf]; omega
      · obtain ⟨f0, f1, f2, f3, f4, f5⟩ := val_facts hok
        rcases Int.lt_or_gt_of_ne f3 with hn | hn
        · have hd : decide (0 < y) = false := by simp; omega
          have g := f5 hn
          have hd1 : decide (0 < valM x y) = false := by simp; omega
          have hd2 : decide (valM x y ≤ y) = false := by simp; omega
          clear f3 f4 f5
          go_wp2_with (first
            | (go_at_call 10; refine (divideE _ _ _).mono ?_; rintro e w' ⟨rfl, n1, rfl⟩)
            | (go_at_call 11; refine (divideF _ _ _).mono ?_; rintro e w' ⟨rfl, n2, rfl⟩)
            | (go_at_call 12; refine (moduloE _ _ _).mono ?_; rintro e w' ⟨rfl, n3, rfl⟩)
            | (go_at_call 13; refine (moduloF _ _ _).mono ?_; rintro e w' ⟨rfl, n4, rfl⟩)
            | (go_at_call 14; refine (near_any _ _).mono ?_; rintro e w' ⟨rfl, rfl⟩))
          go_roundw
          case rel => exact ⟨_, _, k + 1, _, by omega, rfl, rfl, by go_num, rfl⟩
          case measure => simp [intOf]; omega
        · have hd : decide (y < 0) = false := by simp; omega
          have g := f4 hn
          have hd1 : decide (valM x y < 0) = false := by simp; omega
          have hd2 : decide (y ≤ valM x y) = false := by simp; omega
          clear f3 f4 f5
          go_wp2_with (first
            | (go_at_call 10; refine (divideE _ _ _).mono ?_; rintro e w' ⟨rfl, n1, rfl⟩)
            | (go_at_call 11; refine (divideF _ _ _).mono ?_; rintro e w' ⟨rfl, n2, rfl⟩)
            | (go_at_call 12; refine (moduloE _ _ _).mono ?_; rintro e w' ⟨rfl, n3, rfl⟩)
            | (go_at_call 13; refine (moduloF _ _ _).mono ?_; rintro e w' ⟨rfl, n4, rfl⟩)
            | (go_at_call 14; refine (near_any _ _).mono ?_; rintro e w' ⟨rfl, rfl⟩))
          go_roundw
          case rel => exact ⟨_, _, k + 1, _, by omega, rfl, rfl, by go_num, rfl⟩
          case measure => simp [intOf]; omega
    · go_wp2_with (go_at_call 15; refine (known_any _).mono ?_; rintro e w' ⟨rfl, hb⟩)
      go_ret
      exact ⟨rfl, (below_drewN (Below.refl _ _) _).trans hb⟩


set_option maxRecDepth 100000 in
theorem lifted (os : Os) (started : os.Started) (H : Type) (enc : TypeId × Value → H) :
    ReturnsInHanded {} Try.checked os 3 .any (Rows.exactDividesSpec.pre6 enc Try.prog Try.f3 Rows.exactDividesRow.domain false) (Rows.exactDividesSpec.post enc Try.prog Try.f3 false true false false) := by
  refine returnsInHanded_of_change (C := Try.checked) own started (by kernel_rfl) Try.func3
    (ChangeSpec.witness6 (enc := enc) (C := Try.checked) false ⟨#[], #[.int .i64 0, .int .i64 0], []⟩ 8 (by kernel_rfl) (by kernel_rfl) (by kernel_rfl) (by kernel_rfl)) ?_
  intro W base args ds gs before hval0 hW hcnd _
  have hval : ∀ (j : Nat) t v, Try.f3.params[j]? = some t → args[j]? = some v → Value.okWide Try.prog W .any base t v := hval0
  have hW' := hW
  obtain ⟨p, q, hA0, hV, rfl, hfz, hnd⟩ := hW
  have hA : DataW.TrodAll enc Try.prog W 0 (fun _ => true) true Try.f3.params.toList args.toList ds p := hA0
  rw [Try.params3] at hA hval
  obtain ⟨v0, vs0, d0, ds0, p0, q0, hargs, rfl, rfl, h0, r0⟩ := trodAll_cons hA
  obtain ⟨v1, vs1, d1, ds1, p1, q1, rfl, rfl, rfl, h1, r1⟩ := trodAll_cons r0
  obtain ⟨rfl, rfl, rfl⟩ := trodAll_nil r1
  obtain rfl : args = #[v0, v1] := by cases args; simp_all
  obtain ⟨rfl, rfl⟩ := trodVars_none hV
  obtain ⟨a0, rfl, rfl, rfl, w0⟩ := open_int Try.underlying3 (hval 0 3 v0 rfl rfl) h0
  obtain ⟨a1, rfl, rfl, rfl, w1⟩ := open_int Try.underlying3 (hval 1 3 v1 rfl rfl) h1
  clear hA0 hval0
  simp only [List.append_nil] at hW'
  refine (walk a0 w0 a1 w1 W).mono fun e W' ⟨he, hb⟩ => ?_
  subst he
  exact ⟨_, rfl, law_post laidOut (by rw [Try.params3]; simp only [List.mem_cons, List.not_mem_nil, or_false, forall_eq_or_imp, forall_eq]; exact ⟨⟨by kernel_rfl, by decide +kernel⟩, ⟨by kernel_rfl, by decide +kernel⟩⟩) rfl rfl Try.underlying4 hW' rfl rfl rfl hb⟩

theorem over : Rows.exactDividesRow.holds Try.pinned (OpenSpec.ofChange Rows.exactDividesSpec) :=
  OpenClaim.holds_of_wide 3 Try.f3 rfl rfl rfl rfl rfl rfl rfl ⟨rfl, rfl, rfl, rfl, rfl⟩ rfl rfl rfl rfl rfl (by kernel_rfl) Try.func3 (by kernel_rfl)
    (of_decide_eq_true (by kernel_rfl)) (by unfold Func.isWrapper; first | (rw [if_pos (by decide +kernel)]; kernel_rfl) | (rw [if_neg (by decide +kernel)]; exact ⟨rfl, rfl⟩))
    (fun os started H enc _ => lifted os started H enc)

theorem proved : Rows.ExactDividesSaid := over
#print axioms proved
end Go.Proofs.Ytkjhgnjoiocogaa.lawExactDivides
