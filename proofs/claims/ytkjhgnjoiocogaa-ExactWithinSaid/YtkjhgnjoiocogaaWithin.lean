/-
  ExactWithin: for every two integers, every two ratios and every integer the law returns true: Within of package exact answers as the reference. No conditions.
-/
import Derived.Test.YtkjhgnjoiocogaaFrame
import Derived.Test.YtkjhgnjoiocogaaKnow
import Derived.Test.YtkjhgnjoiocogaaKeep
namespace Go.Proofs.Ytkjhgnjoiocogaa.lawExactWithin
open Go.ChangeShapes Go.WideShapes Go.ChangeAt Go.RowKit
set_option linter.unusedSimpArgs false
set_option linter.unusedVariables false
open Go.Joins

theorem cells28 : Try.prog.cellsOf 28 = 2 := by kernel_rfl
set_option maxRecDepth 100000 in
set_option maxHeartbeats 4000000 in
theorem walk (a0 : Int) (w0 : (Lit.int .i64 a0).wf = true) (a1 : Int) (w1 : (Lit.int .i64 a1).wf = true) (n2 d2 n3 d3 : Int) (a4 : Int) (w4 : (Lit.int .i64 a4).wf = true) (w : World) :
    Calls Try.prog 4 #[.int .i64 a0, .int .i64 a1, .agg #[.int .i64 n2, .int .i64 d2], .agg #[.int .i64 n3, .int .i64 d3], .int .i64 a4] w fun e w' => e = .returned (.bool true) ∧ Below w.heap.size w w' := by
  clear w0 w1 w4
  have g1 := and31 a0
  have g2 := and31 a1
  go_enter Try.func4, Try.ntmps4
  go_wp2_with fail
  refine (ratio_any _ _ _).mono ?_
  rintro e u1 ⟨rfl, hb1⟩
  have c10 := keep (a := ⟨w.heap.size, 0, none⟩) (v := .int .i64 n2) (by go_simp) hb1
  have c11 := keep (a := ⟨w.heap.size, 1, none⟩) (v := .int .i64 d2) (by go_simp) hb1
  have c12 := keep (a := ⟨w.heap.size + 1, 0, none⟩) (v := .int .i64 n3) (by go_simp) hb1
  have c13 := keep (a := ⟨w.heap.size + 1, 1, none⟩) (v := .int .i64 d3) (by go_simp) hb1
  have H1 := Lib.hid hb1
  clear hb1
  go_wp2_with fail
  refine (ratio_any _ _ _).mono ?_
  rintro e u2 ⟨rfl, hb2⟩
  have c20 := keep c10 hb2
  have c21 := keep c11 hb2
  have c22 := keep c12 hb2
  have c23 := keep c13 hb2
  have H2 := Lib.hid hb2
  clear hb2 c10 c11 c12 c13
  have l0 := World.block_lt_of_cell? _ _ c20
  have l1 := World.block_lt_of_cell? _ _ c22
  simp at l0 l1
  generalize hs : sn a4 (a4 / 16) = s at *
  generalize ht : sd a4 (a4 / 16) = t at *
  generalize hs' : sn (a4 / 256) (a4 / 4096) = s' at *
  generalize ht' : sd (a4 / 256) (a4 / 4096) = t' at *
  clear hs ht hs' ht'
  go_wp2_with fail
  go_region_held3 (fun w' => w'.cell? ⟨w.heap.size, 0, none⟩ = some (.int .i64 n2) ∧ w'.cell? ⟨w.heap.size, 1, none⟩ = some (.int .i64 d2) ∧ w'.cell? ⟨w.heap.size + 1, 0, none⟩ = some (.int .i64 n3) ∧ w'.cell? ⟨w.heap.size + 1, 1, none⟩ = some (.int .i64 d3)
      ∧ w'.cell? ⟨u2.heap.size, 0, none⟩ = some (.int .i64 s) ∧ w'.cell? ⟨u2.heap.size, 1, none⟩ = some (.int .i64 t) ∧ w'.cell? ⟨u2.heap.size + 1, 0, none⟩ = some (.int .i64 s') ∧ w'.cell? ⟨u2.heap.size + 1, 1, none⟩ = some (.int .i64 t'))
    (first
      | (go_keep; done)
      | (go_split_ands; refine ⟨?_, ?_, ?_, ?_, ?_, ?_, ?_, ?_⟩ <;> (first | (go_keep; done) | exact cell_later (by assumption) (by assumption))))
    (first
      | (go_at_call 17; refine (withinE _ _ _ _ _ _ _).mono ?_; rintro e w' ⟨rfl, hb⟩)
      | (go_at_call 18; refine (withinF _ _ _ _ _ _ _).mono ?_; rintro e w' ⟨rfl, hb⟩)
      | (go_at_call 15; refine (known_any _).mono ?_; rintro e w' ⟨rfl, hb⟩))
  have B2 : Below w.heap.size w u2 := bthen (bthen (by repeat (first | exact Below.refl _ _ | refine Below.drew ?_ | refine below_drewN ?_ _ | refine Below.setCell ?_ (by simp <;> omega) _ | refine Below.alloc ?_ (by simp <;> omega) _)) (Nat.le_refl _) H1.out) (Nat.le_refl _) H2.out
  have B3 := (B2.alloc B2.size (.cells #[.int .i64 s, .int .i64 t] 28))
  have B4 := (B3.alloc B3.size (.cells #[.int .i64 s', .int .i64 t'] 28)).drew
  have H3 := Lib.hid B4
  clear B2 B3 B4
  go_wp2
  go_ret
  refine ⟨rfl, ?_⟩
  repeat (first | exact H3.out | refine bthen ?_ (Nat.le_refl _) (by assumption))


set_option maxRecDepth 100000 in
theorem lifted (os : Os) (started : os.Started) (H : Type) (enc : TypeId × Value → H) :
    ReturnsInHanded {} Try.checked os 4 .any (Rows.exactWithinSpec.pre6 enc Try.prog Try.f4 Rows.exactWithinRow.domain false) (Rows.exactWithinSpec.post enc Try.prog Try.f4 false true false false) := by
  refine returnsInHanded_of_change (C := Try.checked) own started (by kernel_rfl) Try.func4
    (ChangeSpec.witness6 (enc := enc) (C := Try.checked) false ⟨#[], #[.int .i64 0, .int .i64 0, .agg #[.int .i64 0, .int .i64 0], .agg #[.int .i64 0, .int .i64 0], .int .i64 0], []⟩ 8 (by kernel_rfl) (by kernel_rfl) (by kernel_rfl) (by kernel_rfl)) ?_
  intro W base args ds gs before hval0 hW hcnd _
  have hval : ∀ (j : Nat) t v, Try.f4.params[j]? = some t → args[j]? = some v → Value.okWide Try.prog W .any base t v := hval0
  have hW' := hW
  obtain ⟨p, q, hA0, hV, rfl, hfz, hnd⟩ := hW
  have hA : DataW.TrodAll enc Try.prog W 0 (fun _ => true) true Try.f4.params.toList args.toList ds p := hA0
  rw [Try.params4] at hA hval
  obtain ⟨v0, vs0, d0, ds0, p0, q0, hargs, rfl, rfl, h0, r0⟩ := trodAll_cons hA
  obtain ⟨v1, vs1, d1, ds1, p1, q1, rfl, rfl, rfl, h1, r1⟩ := trodAll_cons r0
  obtain ⟨v2, vs2, d2, ds2, p2, q2, rfl, rfl, rfl, h2, r2⟩ := trodAll_cons r1
  obtain ⟨v3, vs3, d3, ds3, p3, q3, rfl, rfl, rfl, h3, r3⟩ := trodAll_cons r2
  obtain ⟨v4, vs4, d4, ds4, p4, q4, rfl, rfl, rfl, h4, r4⟩ := trodAll_cons r3
  obtain ⟨rfl, rfl, rfl⟩ := trodAll_nil r4
  obtain rfl : args = #[v0, v1, v2, v3, v4] := by cases args; simp_all
  obtain ⟨rfl, rfl⟩ := trodVars_none hV
  obtain ⟨a0, rfl, rfl, rfl, w0⟩ := open_int Try.underlying3 (hval 0 3 v0 rfl rfl) h0
  obtain ⟨a1, rfl, rfl, rfl, w1⟩ := open_int Try.underlying3 (hval 1 3 v1 rfl rfl) h1
  obtain ⟨c20, c21, y20, y21, m2, rfl, rfl, rfl, hy20, hy21⟩ := open_agg2 Try.underlying28 (by kernel_rfl) cells28 (hval 2 28 v2 rfl rfl) h2
  obtain ⟨n2, e20, rfl, wn2⟩ := DataW.trod_int Try.underlying3 hy20
  obtain ⟨d2', e21, rfl, wd2⟩ := DataW.trod_int Try.underlying3 hy21
  simp at e20 e21; subst e20 e21
  obtain ⟨c30, c31, y30, y31, m3, rfl, rfl, rfl, hy30, hy31⟩ := open_agg2 Try.underlying28 (by kernel_rfl) cells28 (hval 3 28 v3 rfl rfl) h3
  obtain ⟨n3, e30, rfl, wn3⟩ := DataW.trod_int Try.underlying3 hy30
  obtain ⟨d3', e31, rfl, wd3⟩ := DataW.trod_int Try.underlying3 hy31
  simp at e30 e31; subst e30 e31
  obtain ⟨a4, rfl, rfl, rfl, w4⟩ := open_int Try.underlying3 (hval 4 3 v4 rfl rfl) h4
  clear hA0 hval0
  simp only [List.append_nil] at hW'
  refine (walk a0 w0 a1 w1 n2 d2' n3 d3' a4 w4 W).mono fun e W' ⟨he, hb⟩ => ?_
  subst he
  exact ⟨_, rfl, law_post laidOut (by rw [Try.params4]; simp only [List.mem_cons, List.not_mem_nil, or_false, forall_eq_or_imp, forall_eq]; exact ⟨⟨by kernel_rfl, by decide +kernel⟩, ⟨by kernel_rfl, by decide +kernel⟩, ⟨by kernel_rfl, by decide +kernel⟩, ⟨by kernel_rfl, by decide +kernel⟩, ⟨by kernel_rfl, by decide +kernel⟩⟩) rfl rfl Try.underlying4 hW' rfl rfl rfl hb⟩

theorem over : Rows.exactWithinRow.holds Try.pinned (OpenSpec.ofChange Rows.exactWithinSpec) :=
  OpenClaim.holds_of_wide 4 Try.f4 rfl rfl rfl rfl rfl rfl rfl ⟨rfl, rfl, rfl, rfl, rfl⟩ rfl rfl rfl rfl rfl (by kernel_rfl) Try.func4 (by kernel_rfl)
    (of_decide_eq_true (by kernel_rfl)) (by unfold Func.isWrapper; first | (rw [if_pos (by decide +kernel)]; kernel_rfl) | (rw [if_neg (by decide +kernel)]; exact ⟨rfl, rfl⟩))
    (fun os started H enc _ => lifted os started H enc)

theorem proved : Rows.ExactWithinSaid := over
#print axioms proved
end Go.Proofs.Ytkjhgnjoiocogaa.lawExactWithin
