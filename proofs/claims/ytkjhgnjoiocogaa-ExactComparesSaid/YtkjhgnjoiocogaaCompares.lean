/-
  ExactCompares: for every two ratios and every four integers the law returns true: CompareRatios of package exact orders as the reference. No conditions.
-/
import Derived.Test.YtkjhgnjoiocogaaFrame
import Derived.Test.YtkjhgnjoiocogaaKnow
import Derived.Test.YtkjhgnjoiocogaaKeep
namespace Go.Proofs.Ytkjhgnjoiocogaa.lawExactCompares
open Go.ChangeShapes Go.WideShapes Go.ChangeAt Go.RowKit
set_option linter.unusedSimpArgs false
set_option linter.unusedVariables false
open Go.Joins

theorem cells28 : Try.prog.cellsOf 28 = 2 := by kernel_rfl
theorem cr_flip {n d n' d' : Int} (h : wf n d = true) (h' : wf n' d' = true) : cr n' d' n d = - cr n d n' d' := by
  unfold cr sg; rw [h, h']; simp only [Bool.and_self, if_true]
  split <;> (try split) <;> (try split) <;> (try split) <;> omega
theorem cr_bd (n d n' d' : Int) : -1 ≤ cr n d n' d' ∧ cr n d n' d' ≤ 1 := by
  unfold cr sg; split
  · split
    · omega
    · split <;> omega
  · omega
set_option maxRecDepth 100000 in
set_option maxHeartbeats 4000000 in
theorem core (x y x' y' : Int) (n0 d0 n1 d1 : Int) (a2 a3 a4 a5 : Int) (hx : sn a2 a3 = x) (hy : sd a2 a3 = y) (hx' : sn a4 a5 = x') (hy' : sd a4 a5 = y') (w : World) :
    Calls Try.prog 8 #[.agg #[.int .i64 n0, .int .i64 d0], .agg #[.int .i64 n1, .int .i64 d1], .int .i64 a2, .int .i64 a3, .int .i64 a4, .int .i64 a5] w fun e w' => e = .returned (.bool true) ∧ Below w.heap.size w w' := by
  have hw : wf x y = true := by rw [← hx, ← hy]; exact swf a2 a3
  have hw' : wf x' y' = true := by rw [← hx', ← hy']; exact swf a4 a5
  have hf := cr_flip hw hw'
  have hbd := cr_bd x y x' y'
  go_enter Try.func8, Try.ntmps8
  go_wp2_with fail
  refine (compareE _ _ _ _ _).mono ?_
  rintro e u1 ⟨rfl, hb1⟩
  have r0_1 := keep (a := ⟨w.heap.size, 0, none⟩) (v := .int .i64 n0) (by first | exact rfl | go_simp) hb1
  have r1_1 := keep (a := ⟨w.heap.size, 1, none⟩) (v := .int .i64 d0) (by first | exact rfl | go_simp) hb1
  have s0_1 := keep (a := ⟨w.heap.size + 1, 0, none⟩) (v := .int .i64 n1) (by first | exact rfl | go_simp) hb1
  have s1_1 := keep (a := ⟨w.heap.size + 1, 1, none⟩) (v := .int .i64 d1) (by first | exact rfl | go_simp) hb1
  have lt1_r0 : w.heap.size < u1.heap.size := World.block_lt_of_cell? _ _ r0_1
  have lt1_s0 : w.heap.size + 1 < u1.heap.size := World.block_lt_of_cell? _ _ s0_1
  have H1 := Lib.hid hb1
  clear hb1  
  go_wp2_with fail
  refine (compareF _ _ _ _ _).mono ?_
  rintro e u2 ⟨rfl, hb2⟩
  have H2 := Lib.hid hb2
  clear hb2 r0_1 r1_1 s0_1 s1_1 lt1_r0 lt1_s0
  go_wp2_with fail
  refine (ratio_any _ _ _).mono ?_
  rintro e u3 ⟨rfl, hb3⟩
  have H3 := Lib.hid hb3
  clear hb3  
  go_wp2_with fail
  refine (ratio_any _ _ _).mono ?_
  rintro e u4 ⟨rfl, hb4⟩
  have H4 := Lib.hid hb4
  clear hb4  
  go_wp2_with fail
  refine (compareE _ _ _ _ _).mono ?_
  rintro e u5 ⟨rfl, hb5⟩
  have p0_5 := keep (a := ⟨u4.heap.size, 0, none⟩) (v := .int .i64 x) (by first | exact rfl | go_simp) hb5
  have p1_5 := keep (a := ⟨u4.heap.size, 1, none⟩) (v := .int .i64 y) (by first | exact rfl | go_simp) hb5
  have q0_5 := keep (a := ⟨u4.heap.size + 1, 0, none⟩) (v := .int .i64 x') (by first | exact rfl | go_simp) hb5
  have q1_5 := keep (a := ⟨u4.heap.size + 1, 1, none⟩) (v := .int .i64 y') (by first | exact rfl | go_simp) hb5
  have lt5_p0 : u4.heap.size < u5.heap.size := World.block_lt_of_cell? _ _ p0_5
  have lt5_q0 : u4.heap.size + 1 < u5.heap.size := World.block_lt_of_cell? _ _ q0_5
  have H5 := Lib.hid hb5
  clear hb5  
  go_wp2_with fail
  refine (compareF _ _ _ _ _).mono ?_
  rintro e u6 ⟨rfl, hb6⟩
  have p0_6 := keep (a := ⟨u4.heap.size, 0, none⟩) (v := .int .i64 x) (by first | exact p0_5 | go_simp) hb6
  have p1_6 := keep (a := ⟨u4.heap.size, 1, none⟩) (v := .int .i64 y) (by first | exact p1_5 | go_simp) hb6
  have q0_6 := keep (a := ⟨u4.heap.size + 1, 0, none⟩) (v := .int .i64 x') (by first | exact q0_5 | go_simp) hb6
  have q1_6 := keep (a := ⟨u4.heap.size + 1, 1, none⟩) (v := .int .i64 y') (by first | exact q1_5 | go_simp) hb6
  have lt6_p0 : u4.heap.size < u6.heap.size := World.block_lt_of_cell? _ _ p0_6
  have lt6_q0 : u4.heap.size + 1 < u6.heap.size := World.block_lt_of_cell? _ _ q0_6
  have H6 := Lib.hid hb6
  clear hb6 p0_5 p1_5 q0_5 q1_5 lt5_p0 lt5_q0
  go_wp2_with fail
  refine (compareE _ _ _ _ _).mono ?_
  rintro e u7 ⟨rfl, hb7⟩
  have H7 := Lib.hid hb7
  clear hb7 p0_6 p1_6 q0_6 q1_6 lt6_p0 lt6_q0
  go_wp2_with fail
  refine (known_any _).mono ?_
  rintro e u8 ⟨rfl, hb8⟩
  have H8 := Lib.hid hb8
  clear hb8  
  have B4 : Below w.heap.size w u4 := bthen (bthen (bthen (bthen (by repeat (first | exact Below.refl _ _ | refine Below.drew ?_ | refine below_drewN ?_ _ | refine Below.setCell ?_ (by simp <;> omega) _ | refine Below.alloc ?_ (by simp <;> omega) _)) (Nat.le_refl _) H1.out) (Nat.le_refl _) H2.out) (Nat.le_refl _) H3.out) (Nat.le_refl _) H4.out
  have B5 := (B4.alloc B4.size (.cells #[.int .i64 x, .int .i64 y] 28))
  have B6 := (B5.alloc B5.size (.cells #[.int .i64 x', .int .i64 y'] 28))
  have B7 := bthen (bthen (bthen (bthen B6 (Nat.le_refl _) H5.out) (Nat.le_refl _) H6.out) (Nat.le_refl _) H7.out) (Nat.le_refl _) H8.out
  have H9 := Lib.hid B7
  clear B4 B5 B6 B7
  go_wp2_with fail
  go_ret
  exact ⟨rfl, H9.out⟩
theorem walk (n0 d0 n1 d1 : Int) (a2 : Int) (w2 : (Lit.int .i64 a2).wf = true) (a3 : Int) (w3 : (Lit.int .i64 a3).wf = true) (a4 : Int) (w4 : (Lit.int .i64 a4).wf = true) (a5 : Int) (w5 : (Lit.int .i64 a5).wf = true) (w : World) :
    Calls Try.prog 8 #[.agg #[.int .i64 n0, .int .i64 d0], .agg #[.int .i64 n1, .int .i64 d1], .int .i64 a2, .int .i64 a3, .int .i64 a4, .int .i64 a5] w fun e w' => e = .returned (.bool true) ∧ Below w.heap.size w w' :=
  core _ _ _ _ n0 d0 n1 d1 a2 a3 a4 a5 rfl rfl rfl rfl w


set_option maxRecDepth 100000 in
theorem lifted (os : Os) (started : os.Started) (H : Type) (enc : TypeId × Value → H) :
    ReturnsInHanded {} Try.checked os 8 .any (Rows.exactComparesSpec.pre6 enc Try.prog Try.f8 Rows.exactComparesRow.domain false) (Rows.exactComparesSpec.post enc Try.prog Try.f8 false true false false) := by
  refine returnsInHanded_of_change (C := Try.checked) own started (by kernel_rfl) Try.func8
    (ChangeSpec.witness6 (enc := enc) (C := Try.checked) false ⟨#[], #[.agg #[.int .i64 0, .int .i64 0], .agg #[.int .i64 0, .int .i64 0], .int .i64 0, .int .i64 0, .int .i64 0, .int .i64 0], []⟩ 8 (by kernel_rfl) (by kernel_rfl) (by kernel_rfl) (by kernel_rfl)) ?_
  intro W base args ds gs before hval0 hW hcnd _
  have hval : ∀ (j : Nat) t v, Try.f8.params[j]? = some t → args[j]? = some v → Value.okWide Try.prog W .any base t v := hval0
  have hW' := hW
  obtain ⟨p, q, hA0, hV, rfl, hfz, hnd⟩ := hW
  have hA : DataW.TrodAll enc Try.prog W 0 (fun _ => true) true Try.f8.params.toList args.toList ds p := hA0
  rw [Try.params8] at hA hval
  obtain ⟨v0, vs0, d0, ds0, p0, q0, hargs, rfl, rfl, h0, r0⟩ := trodAll_cons hA
  obtain ⟨v1, vs1, d1, ds1, p1, q1, rfl, rfl, rfl, h1, r1⟩ := trodAll_cons r0
  obtain ⟨v2, vs2, d2, ds2, p2, q2, rfl, rfl, rfl, h2, r2⟩ := trodAll_cons r1
  obtain ⟨v3, vs3, d3, ds3, p3, q3, rfl, rfl, rfl, h3, r3⟩ := trodAll_cons r2
  obtain ⟨v4, vs4, d4, ds4, p4, q4, rfl, rfl, rfl, h4, r4⟩ := trodAll_cons r3
  obtain ⟨v5, vs5, d5, ds5, p5, q5, rfl, rfl, rfl, h5, r5⟩ := trodAll_cons r4
  obtain ⟨rfl, rfl, rfl⟩ := trodAll_nil r5
  obtain rfl : args = #[v0, v1, v2, v3, v4, v5] := by cases args; simp_all
  obtain ⟨rfl, rfl⟩ := trodVars_none hV
  obtain ⟨c00, c01, y00, y01, m0, rfl, rfl, rfl, hy00, hy01⟩ := open_agg2 Try.underlying28 (by kernel_rfl) cells28 (hval 0 28 v0 rfl rfl) h0
  obtain ⟨n0, e00, rfl, wn0⟩ := DataW.trod_int Try.underlying3 hy00
  obtain ⟨d0', e01, rfl, wd0⟩ := DataW.trod_int Try.underlying3 hy01
  simp at e00 e01; subst e00 e01
  obtain ⟨c10, c11, y10, y11, m1, rfl, rfl, rfl, hy10, hy11⟩ := open_agg2 Try.underlying28 (by kernel_rfl) cells28 (hval 1 28 v1 rfl rfl) h1
  obtain ⟨n1, e10, rfl, wn1⟩ := DataW.trod_int Try.underlying3 hy10
  obtain ⟨d1', e11, rfl, wd1⟩ := DataW.trod_int Try.underlying3 hy11
  simp at e10 e11; subst e10 e11
  obtain ⟨a2, rfl, rfl, rfl, w2⟩ := open_int Try.underlying3 (hval 2 3 v2 rfl rfl) h2
  obtain ⟨a3, rfl, rfl, rfl, w3⟩ := open_int Try.underlying3 (hval 3 3 v3 rfl rfl) h3
  obtain ⟨a4, rfl, rfl, rfl, w4⟩ := open_int Try.underlying3 (hval 4 3 v4 rfl rfl) h4
  obtain ⟨a5, rfl, rfl, rfl, w5⟩ := open_int Try.underlying3 (hval 5 3 v5 rfl rfl) h5
  clear hA0 hval0
  simp only [List.append_nil] at hW'
  refine (walk n0 d0' n1 d1' a2 w2 a3 w3 a4 w4 a5 w5 W).mono fun e W' ⟨he, hb⟩ => ?_
  subst he
  exact ⟨_, rfl, law_post laidOut (by rw [Try.params8]; simp only [List.mem_cons, List.not_mem_nil, or_false, forall_eq_or_imp, forall_eq]; exact ⟨⟨by kernel_rfl, by decide +kernel⟩, ⟨by kernel_rfl, by decide +kernel⟩, ⟨by kernel_rfl, by decide +kernel⟩, ⟨by kernel_rfl, by decide +kernel⟩, ⟨by kernel_rfl, by decide +kernel⟩, ⟨by kernel_rfl, by decide +kernel⟩⟩) rfl rfl Try.underlying4 hW' rfl rfl rfl hb⟩

theorem over : Rows.exactComparesRow.holds Try.pinned (OpenSpec.ofChange Rows.exactComparesSpec) :=
  OpenClaim.holds_of_wide 8 Try.f8 rfl rfl rfl rfl rfl rfl rfl ⟨rfl, rfl, rfl, rfl, rfl⟩ rfl rfl rfl rfl rfl (by kernel_rfl) Try.func8 (by kernel_rfl)
    (of_decide_eq_true (by kernel_rfl)) (by unfold Func.isWrapper; first | (rw [if_pos (by decide +kernel)]; kernel_rfl) | (rw [if_neg (by decide +kernel)]; exact ⟨rfl, rfl⟩))
    (fun os started H enc _ => lifted os started H enc)

theorem proved : Rows.ExactComparesSaid := over
#print axioms proved
end Go.Proofs.Ytkjhgnjoiocogaa.lawExactCompares
