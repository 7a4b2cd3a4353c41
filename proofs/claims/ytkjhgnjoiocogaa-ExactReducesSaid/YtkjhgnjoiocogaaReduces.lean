/-
  ExactReduces: for every ratio and every two integers the law returns true: Reduce of package exact returns the lowest terms as the reference does. No conditions.
-/
import Derived.Test.YtkjhgnjoiocogaaFrame
import Derived.Test.YtkjhgnjoiocogaaKnow
import Derived.Test.YtkjhgnjoiocogaaKeep
import Derived.Test.YtkjhgnjoiocogaaRed
namespace Go.Proofs.Ytkjhgnjoiocogaa.lawExactReduces
open Go.ChangeShapes Go.WideShapes Go.ChangeAt Go.RowKit
set_option linter.unusedSimpArgs false
set_option linter.unusedVariables false
open Go.Joins

theorem cells28 : Try.prog.cellsOf 28 = 2 := by kernel_rfl
set_option maxRecDepth 100000 in
set_option maxHeartbeats 4000000 in
theorem core (x y : Int) (n0 d0 a1 a2 : Int) (hx : sn a1 a2 = x) (hy : sd a1 a2 = y) (w : World) :
    Calls Try.prog 6 #[.agg #[.int .i64 n0, .int .i64 d0], .int .i64 a1, .int .i64 a2] w fun e w' => e = .returned (.bool true) ∧ Below w.heap.size w w' := by
  have hw : wf x y = true := by rw [← hx, ← hy]; exact swf a1 a2
  have hrw := rwf hw
  obtain ⟨g1, g2⟩ := r_again hw
  have g3 := r_same hw
  obtain ⟨⟨z1, z2⟩, z3, z4⟩ := wf_bd hw
  obtain ⟨⟨t1, t2⟩, t3, t4⟩ := wf_bd hrw
  have m1 := mul_bd (rN x y) y t1 t2 (by omega) z4
  have m2 := mul_bd x (rD x y) z1 z2 (by omega) t4
  go_enter Try.func6, Try.ntmps6
  go_wp2_with fail
  refine (reduceE _ _ _).mono ?_
  rintro e u1 ⟨rfl, hb1⟩
  have r0_1 := keep (a := ⟨w.heap.size, 0, none⟩) (v := .int .i64 n0) (by first | exact rfl | go_simp) hb1
  have r1_1 := keep (a := ⟨w.heap.size, 1, none⟩) (v := .int .i64 d0) (by first | exact rfl | go_simp) hb1
  have lt1_r0 : w.heap.size < u1.heap.size := World.block_lt_of_cell? _ _ r0_1
  have H1 := Lib.hid hb1
  clear hb1  
  go_wp2_with fail
  refine (reduceF _ _ _).mono ?_
  rintro e u2 ⟨rfl, hb2⟩
  have x0_2 := keep (a := ⟨u1.heap.size, 0, none⟩) (v := .int .i64 (rN n0 d0)) (by first | exact rfl | go_simp) hb2
  have x1_2 := keep (a := ⟨u1.heap.size, 1, none⟩) (v := .int .i64 (rD n0 d0)) (by first | exact rfl | go_simp) hb2
  have lt2_x0 : u1.heap.size < u2.heap.size := World.block_lt_of_cell? _ _ x0_2
  have H2 := Lib.hid hb2
  clear hb2 r0_1 r1_1 lt1_r0
  go_wp2_with fail
  refine (ratio_any _ _ _).mono ?_
  rintro e u3 ⟨rfl, hb3⟩
  have x0_3 := keep (a := ⟨u1.heap.size, 0, none⟩) (v := .int .i64 (rN n0 d0)) (by first | exact x0_2 | go_simp) hb3
  have x1_3 := keep (a := ⟨u1.heap.size, 1, none⟩) (v := .int .i64 (rD n0 d0)) (by first | exact x1_2 | go_simp) hb3
  have y0_3 := keep (a := ⟨u2.heap.size, 0, none⟩) (v := .int .i64 (rN n0 d0)) (by first | exact rfl | go_simp) hb3
  have y1_3 := keep (a := ⟨u2.heap.size, 1, none⟩) (v := .int .i64 (rD n0 d0)) (by first | exact rfl | go_simp) hb3
  have lt3_x0 : u1.heap.size < u3.heap.size := World.block_lt_of_cell? _ _ x0_3
  have lt3_y0 : u2.heap.size < u3.heap.size := World.block_lt_of_cell? _ _ y0_3
  have H3 := Lib.hid hb3
  clear hb3 x0_2 x1_2 lt2_x0
  go_wp2_with fail
  refine (reduceE _ _ _).mono ?_
  rintro e u4 ⟨rfl, hb4⟩
  have x0_4 := keep (a := ⟨u1.heap.size, 0, none⟩) (v := .int .i64 (rN n0 d0)) (by first | exact x0_3 | go_simp) hb4
  have x1_4 := keep (a := ⟨u1.heap.size, 1, none⟩) (v := .int .i64 (rD n0 d0)) (by first | exact x1_3 | go_simp) hb4
  have y0_4 := keep (a := ⟨u2.heap.size, 0, none⟩) (v := .int .i64 (rN n0 d0)) (by first | exact y0_3 | go_simp) hb4
  have y1_4 := keep (a := ⟨u2.heap.size, 1, none⟩) (v := .int .i64 (rD n0 d0)) (by first | exact y1_3 | go_simp) hb4
  have s0_4 := keep (a := ⟨u3.heap.size, 0, none⟩) (v := .int .i64 x) (by first | exact rfl | go_simp) hb4
  have s1_4 := keep (a := ⟨u3.heap.size, 1, none⟩) (v := .int .i64 y) (by first | exact rfl | go_simp) hb4
  have lt4_x0 : u1.heap.size < u4.heap.size := World.block_lt_of_cell? _ _ x0_4
  have lt4_y0 : u2.heap.size < u4.heap.size := World.block_lt_of_cell? _ _ y0_4
  have lt4_s0 : u3.heap.size < u4.heap.size := World.block_lt_of_cell? _ _ s0_4
  have H4 := Lib.hid hb4
  clear hb4 x0_3 x1_3 y0_3 y1_3 lt3_x0 lt3_y0
  go_wp2_with fail
  refine (reduceF _ _ _).mono ?_
  rintro e u5 ⟨rfl, hb5⟩
  have x0_5 := keep (a := ⟨u1.heap.size, 0, none⟩) (v := .int .i64 (rN n0 d0)) (by first | exact x0_4 | go_simp) hb5
  have x1_5 := keep (a := ⟨u1.heap.size, 1, none⟩) (v := .int .i64 (rD n0 d0)) (by first | exact x1_4 | go_simp) hb5
  have y0_5 := keep (a := ⟨u2.heap.size, 0, none⟩) (v := .int .i64 (rN n0 d0)) (by first | exact y0_4 | go_simp) hb5
  have y1_5 := keep (a := ⟨u2.heap.size, 1, none⟩) (v := .int .i64 (rD n0 d0)) (by first | exact y1_4 | go_simp) hb5
  have s0_5 := keep (a := ⟨u3.heap.size, 0, none⟩) (v := .int .i64 x) (by first | exact s0_4 | go_simp) hb5
  have s1_5 := keep (a := ⟨u3.heap.size, 1, none⟩) (v := .int .i64 y) (by first | exact s1_4 | go_simp) hb5
  have u0_5 := keep (a := ⟨u4.heap.size, 0, none⟩) (v := .int .i64 (rN x y)) (by first | exact rfl | go_simp) hb5
  have u1_5 := keep (a := ⟨u4.heap.size, 1, none⟩) (v := .int .i64 (rD x y)) (by first | exact rfl | go_simp) hb5
  have lt5_x0 : u1.heap.size < u5.heap.size := World.block_lt_of_cell? _ _ x0_5
  have lt5_y0 : u2.heap.size < u5.heap.size := World.block_lt_of_cell? _ _ y0_5
  have lt5_s0 : u3.heap.size < u5.heap.size := World.block_lt_of_cell? _ _ s0_5
  have lt5_u0 : u4.heap.size < u5.heap.size := World.block_lt_of_cell? _ _ u0_5
  have H5 := Lib.hid hb5
  clear hb5 x0_4 x1_4 y0_4 y1_4 s0_4 s1_4 lt4_x0 lt4_y0 lt4_s0
  go_wp2_with fail
  refine (reduceE _ _ _).mono ?_
  rintro e u6 ⟨rfl, hb6⟩
  have x0_6 := keep (a := ⟨u1.heap.size, 0, none⟩) (v := .int .i64 (rN n0 d0)) (by first | exact x0_5 | go_simp) hb6
  have x1_6 := keep (a := ⟨u1.heap.size, 1, none⟩) (v := .int .i64 (rD n0 d0)) (by first | exact x1_5 | go_simp) hb6
  have y0_6 := keep (a := ⟨u2.heap.size, 0, none⟩) (v := .int .i64 (rN n0 d0)) (by first | exact y0_5 | go_simp) hb6
  have y1_6 := keep (a := ⟨u2.heap.size, 1, none⟩) (v := .int .i64 (rD n0 d0)) (by first | exact y1_5 | go_simp) hb6
  have s0_6 := keep (a := ⟨u3.heap.size, 0, none⟩) (v := .int .i64 x) (by first | exact s0_5 | go_simp) hb6
  have s1_6 := keep (a := ⟨u3.heap.size, 1, none⟩) (v := .int .i64 y) (by first | exact s1_5 | go_simp) hb6
  have u0_6 := keep (a := ⟨u4.heap.size, 0, none⟩) (v := .int .i64 (rN x y)) (by first | exact u0_5 | go_simp) hb6
  have u1_6 := keep (a := ⟨u4.heap.size, 1, none⟩) (v := .int .i64 (rD x y)) (by first | exact u1_5 | go_simp) hb6
  have v0_6 := keep (a := ⟨u5.heap.size, 0, none⟩) (v := .int .i64 (rN x y)) (by first | exact rfl | go_simp) hb6
  have v1_6 := keep (a := ⟨u5.heap.size, 1, none⟩) (v := .int .i64 (rD x y)) (by first | exact rfl | go_simp) hb6
  have lt6_x0 : u1.heap.size < u6.heap.size := World.block_lt_of_cell? _ _ x0_6
  have lt6_y0 : u2.heap.size < u6.heap.size := World.block_lt_of_cell? _ _ y0_6
  have lt6_s0 : u3.heap.size < u6.heap.size := World.block_lt_of_cell? _ _ s0_6
  have lt6_u0 : u4.heap.size < u6.heap.size := World.block_lt_of_cell? _ _ u0_6
  have lt6_v0 : u5.heap.size < u6.heap.size := World.block_lt_of_cell? _ _ v0_6
  have H6 := Lib.hid hb6
  clear hb6 x0_5 x1_5 y0_5 y1_5 s0_5 s1_5 u0_5 u1_5 lt5_x0 lt5_y0 lt5_s0 lt5_u0
  go_wp2_with fail
  refine (known_any _).mono ?_
  rintro e u7 ⟨rfl, hb7⟩
  have H7 := Lib.hid hb7
  clear hb7 x0_6 x1_6 y0_6 y1_6 s0_6 s1_6 u0_6 u1_6 v0_6 v1_6 lt6_x0 lt6_y0 lt6_s0 lt6_u0 lt6_v0
  go_wp2_with fail
  go_ret
  refine ⟨rfl, ?_⟩
  have C1 : Below w.heap.size w u1 := bthen (by repeat (first | exact Below.refl _ _ | refine Below.drew ?_ | refine below_drewN ?_ _ | refine Below.setCell ?_ (by simp <;> omega) _ | refine Below.alloc ?_ (by simp <;> omega) _)) (Nat.le_refl _) H1.out
  have C2 := bthen (C1.alloc C1.size _) (Nat.le_refl _) H2.out
  have C3 := bthen (C2.alloc C2.size _) (Nat.le_refl _) H3.out
  have C4 := bthen (C3.alloc C3.size _) (Nat.le_refl _) H4.out
  have C5 := bthen (C4.alloc C4.size _) (Nat.le_refl _) H5.out
  have C6 := bthen (C5.alloc C5.size _) (Nat.le_refl _) H6.out
  exact bthen (C6.alloc C6.size _) (Nat.le_refl _) H7.out
theorem walk (n0 d0 : Int) (a1 : Int) (w1 : (Lit.int .i64 a1).wf = true) (a2 : Int) (w2 : (Lit.int .i64 a2).wf = true) (w : World) :
    Calls Try.prog 6 #[.agg #[.int .i64 n0, .int .i64 d0], .int .i64 a1, .int .i64 a2] w fun e w' => e = .returned (.bool true) ∧ Below w.heap.size w w' :=
  core _ _ n0 d0 a1 a2 rfl rfl w


set_option maxRecDepth 100000 in
theorem lifted (os : Os) (started : os.Started) (H : Type) (enc : TypeId × Value → H) :
    ReturnsInHanded {} Try.checked os 6 .any (Rows.exactReducesSpec.pre6 enc Try.prog Try.f6 Rows.exactReducesRow.domain false) (Rows.exactReducesSpec.post enc Try.prog Try.f6 false true false false) := by
  refine returnsInHanded_of_change (C := Try.checked) own started (by kernel_rfl) Try.func6
    (ChangeSpec.witness6 (enc := enc) (C := Try.checked) false ⟨#[], #[.agg #[.int .i64 0, .int .i64 0], .int .i64 0, .int .i64 0], []⟩ 8 (by kernel_rfl) (by kernel_rfl) (by kernel_rfl) (by kernel_rfl)) ?_
  intro W base args ds gs before hval0 hW hcnd _
  have hval : ∀ (j : Nat) t v, Try.f6.params[j]? = some t → args[j]? = some v → Value.okWide Try.prog W .any base t v := hval0
  have hW' := hW
  obtain ⟨p, q, hA0, hV, rfl, hfz, hnd⟩ := hW
  have hA : DataW.TrodAll enc Try.prog W 0 (fun _ => true) true Try.f6.params.toList args.toList ds p := hA0
  rw [Try.params6] at hA hval
  obtain ⟨v0, vs0, d0, ds0, p0, q0, hargs, rfl, rfl, h0, r0⟩ := trodAll_cons hA
  obtain ⟨v1, vs1, d1, ds1, p1, q1, rfl, rfl, rfl, h1, r1⟩ := trodAll_cons r0
  obtain ⟨v2, vs2, d2, ds2, p2, q2, rfl, rfl, rfl, h2, r2⟩ := trodAll_cons r1
  obtain ⟨rfl, rfl, rfl⟩ := trodAll_nil r2
  obtain rfl : args = #[v0, v1, v2] := by cases args; simp_all
  obtain ⟨rfl, rfl⟩ := trodVars_none hV
  obtain ⟨c00, c01, y00, y01, m0, rfl, rfl, rfl, hy00, hy01⟩ := open_agg2 Try.underlying28 (by kernel_rfl) cells28 (hval 0 28 v0 rfl rfl) h0
  obtain ⟨n0, e00, rfl, wn0⟩ := DataW.trod_int Try.underlying3 hy00
  obtain ⟨d0', e01, rfl, wd0⟩ := DataW.trod_int Try.underlying3 hy01
  simp at e00 e01; subst e00 e01
  obtain ⟨a1, rfl, rfl, rfl, w1⟩ := open_int Try.underlying3 (hval 1 3 v1 rfl rfl) h1
  obtain ⟨a2, rfl, rfl, rfl, w2⟩ := open_int Try.underlying3 (hval 2 3 v2 rfl rfl) h2
  clear hA0 hval0
  simp only [List.append_nil] at hW'
  refine (walk n0 d0' a1 w1 a2 w2 W).mono fun e W' ⟨he, hb⟩ => ?_
  subst he
  exact ⟨_, rfl, law_post laidOut (by rw [Try.params6]; simp only [List.mem_cons, List.not_mem_nil, or_false, forall_eq_or_imp, forall_eq]; exact ⟨⟨by kernel_rfl, by decide +kernel⟩, ⟨by kernel_rfl, by decide +kernel⟩, ⟨by kernel_rfl, by decide +kernel⟩⟩) rfl rfl Try.underlying4 hW' rfl rfl rfl hb⟩

theorem over : Rows.exactReducesRow.holds Try.pinned (OpenSpec.ofChange Rows.exactReducesSpec) :=
  OpenClaim.holds_of_wide 6 Try.f6 rfl rfl rfl rfl rfl rfl rfl ⟨rfl, rfl, rfl, rfl, rfl⟩ rfl rfl rfl rfl rfl (by kernel_rfl) Try.func6 (by kernel_rfl)
    (of_decide_eq_true (by kernel_rfl)) (by unfold Func.isWrapper; first | (rw [if_pos (by decide +kernel)]; kernel_rfl) | (rw [if_neg (by decide +kernel)]; exact ⟨rfl, rfl⟩))
    (fun os started H enc _ => lifted os started H enc)

theorem proved : Rows.ExactReducesSaid := over
#print axioms proved
end Go.Proofs.Ytkjhgnjoiocogaa.lawExactReduces
