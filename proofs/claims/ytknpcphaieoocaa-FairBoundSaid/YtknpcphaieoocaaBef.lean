/- The comparison of two tasks, as a whole. -/
import Derived.Test.YtknpcphaieoocaaCmp
namespace Go.Proofs.Ytknpcphaieoocaa
open Go.RowKit
set_option linter.unusedSimpArgs false
set_option linter.unusedVariables false

/-- how two tasks compare -/
def cmpV (ss us : List (ByteArray × Int)) (oa : ByteArray) (pa ia : Int) (ob : ByteArray) (pb ib : Int) : Int :=
  orV [Lib.compareInt pb pa, Lib.compareInt (usedV us oa * weightV ss ob) (usedV us ob * weightV ss oa), Lib.compareBytes oa.toList ob.toList, Lib.compareInt ia ib]
/-- all uses are small -/
def smallU (us : List (ByteArray × Int)) : Prop := ∀ x ∈ us, 0 ≤ x.2 ∧ x.2 ≤ 1099511627776
theorem usedV_bd {us : List (ByteArray × Int)} (h : smallU us) (o : ByteArray) : 0 ≤ usedV us o ∧ usedV us o ≤ 1099511627776 := by
  induction us with
  | nil => simp [usedV]
  | cons x l ih =>
    unfold usedV
    split
    · exact h x (List.mem_cons_self ..)
    · exact ih (fun y hy => h y (List.mem_cons_of_mem _ hy))
theorem prod_bd {us : List (ByteArray × Int)} (h : smallU us) (ss : List (ByteArray × Int)) (o p : ByteArray) : 0 ≤ usedV us o * weightV ss p ∧ usedV us o * weightV ss p ≤ 70368744177664 := by
  have h1 := usedV_bd h o
  have h2 := weightV_bd ss p
  constructor
  · exact Int.mul_nonneg h1.1 (by omega)
  · have := Int.mul_le_mul h1.2 h2.2 (by omega) (by omega)
    omega
theorem prod_wrap {us : List (ByteArray × Int)} (h : smallU us) (ss : List (ByteArray × Int)) (o p : ByteArray) : IntKind.i64.wrap (usedV us o * weightV ss p) = usedV us o * weightV ss p := by
  have := prod_bd h ss o p
  rw [IntKind.wrap_i64]; omega
theorem bthen {B : Nat} {a b c : World} (h : Below B a b) (hB : B ≤ a.heap.size) (k : Below b.heap.size b c) : Below B a c := h.trans (k.mono (Nat.le_trans hB h.size))

set_option maxRecDepth 100000 in
set_option maxHeartbeats 4000000 in
theorem beforeE (ia pa ib pb : Int) (oa ob : ByteArray) (ra la da ca na rb lb db cb nb : Value) (pu ps : Addr) (Au As : Option Addr) (nu cu ns cs : Nat) (us ss : List (ByteArray × Int)) (w : World)
    (hpu : w.cell? pu = some (.slice Au nu cu)) (hps : w.cell? ps = some (.slice As ns cs)) (hU : Prow w Au nu us) (hS : Prow w As ns ss) (hnu : nu ≤ 1000) (hns : ns ≤ 1000) (hs : smallU us) :
    Calls Try.prog 37 #[.agg #[.int .i64 ia, ra, la, da, .string oa, ca, .int .i64 pa, na], .agg #[.int .i64 ib, rb, lb, db, .string ob, cb, .int .i64 pb, nb], .pointer (some pu), .pointer (some ps)] w
      fun e w' => e = .returned (.int .i64 (cmpV ss us oa pa ia ob pb ib)) ∧ Below w.heap.size w w' := by
  have m1 := prod_wrap hs ss oa ob
  have m2 := prod_wrap hs ss ob oa
  clear hs
  go_enter Try.func37, Try.ntmps37
  go_wp2_with fail
  go_region_held3 (fun w' => Below w.heap.size w w' ∧ w'.cell? pu = some (.slice Au nu cu) ∧ w'.cell? ps = some (.slice As ns cs)
      ∧ w'.cell? ⟨w.heap.size, 0, none⟩ = some (.int .i64 ia) ∧ w'.cell? ⟨w.heap.size, 4, none⟩ = some (.string oa) ∧ w'.cell? ⟨w.heap.size, 6, none⟩ = some (.int .i64 pa)
      ∧ w'.cell? ⟨w.heap.size + 1, 0, none⟩ = some (.int .i64 ib) ∧ w'.cell? ⟨w.heap.size + 1, 4, none⟩ = some (.string ob) ∧ w'.cell? ⟨w.heap.size + 1, 6, none⟩ = some (.int .i64 pb))
    (first
      | (go_keep; done)
      | (go_split_ands; refine ⟨?_, ?_, ?_, ?_, ?_, ?_, ?_, ?_, ?_⟩ <;> (first | (go_keep; done) | exact cell_later (by assumption) (by assumption) | exact bthen (by assumption) (Nat.le_refl _) (by assumption) | (repeat (first | exact Below.refl _ _ | assumption | refine Below.drew ?_ | refine Below.alloc ?_ (by first | (simp; done) | (simp; omega) | exact Below.size (by assumption)) _)))))
    (first
      | (go_at_call 39; refine (cmpE _ _ _).mono ?_; rintro e w' ⟨rfl, rfl⟩)
      | (go_at_call 40; refine (strE _ _ _).mono ?_; rintro e w' ⟨rfl, rfl⟩)
      | (go_at_call 16; go_split_ands; refine (usedE _ _ _ us _ _ (Prow.later hU (by assumption)) hnu).mono ?_; rintro e w' ⟨rfl, hb⟩)
      | (go_at_call 14; go_split_ands; refine (weightE _ _ _ ss _ _ (Prow.later hS (by assumption)) hns).mono ?_; rintro e w' ⟨rfl, hb⟩)
      | (go_at_call 38; go_split_ands; refine (orE _ _ _ (Lib.compareInt pb pa) (Lib.compareInt (usedV us oa * weightV ss ob) (usedV us ob * weightV ss oa)) (Lib.compareBytes oa.toList ob.toList) (Lib.compareInt ia ib) _ (by simp) (by simp) (by simp) (by simp)).mono ?_; rintro e w' ⟨rfl, rfl⟩))
  go_split_ands
  have HB : Hid (Below w.heap.size w _) := Lib.hid (by assumption)
  go_wp2
  go_ret
  exact ⟨rfl, by assumption⟩
end Go.Proofs.Ytknpcphaieoocaa
