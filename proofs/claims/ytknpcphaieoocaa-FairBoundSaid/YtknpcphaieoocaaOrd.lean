/- The order of tasks: that the first least is no more than any other. Plain. -/
import Derived.Test.YtknpcphaieoocaaArg
namespace Go.Proofs.Ytknpcphaieoocaa
open Go.RowKit
set_option linter.unusedSimpArgs false
set_option linter.unusedVariables false

theorem less_trans : ∀ {a b c : List UInt8}, Op.bytesLess a b = true → Op.bytesLess b c = true → Op.bytesLess a c = true
  | a, [], c, h1, _ => by cases a <;> simp [Op.bytesLess] at h1
  | a, y :: b, [], _, h2 => by simp [Op.bytesLess] at h2
  | [], y :: b, z :: c, _, _ => by simp [Op.bytesLess]
  | x :: a, y :: b, z :: c, h1, h2 => by
    unfold Op.bytesLess at h1 h2 ⊢
    by_cases e1 : x = y
    · subst e1
      by_cases e2 : x = z
      · subst e2
        have hx : ¬ x < x := UInt8.lt_irrefl x
        simp [hx] at h1 h2 ⊢
        exact less_trans h1 h2
      · have hx : ¬ x < x := UInt8.lt_irrefl x
        simp [hx] at h1
        simp [e2] at h2 ⊢
        exact h2
    · by_cases e2 : y = z
      · subst e2
        simp [e1] at h1 ⊢
        exact h1
      · simp [e1] at h1
        simp [e2] at h2
        have h3 := UInt8.lt_trans h1 h2
        have h4 : ¬ x = z := fun e => by subst e; exact UInt8.lt_irrefl _ h3
        simp [h3]
theorem less_irr (a : List UInt8) : Op.bytesLess a a = false := by
  induction a with
  | nil => rfl
  | cons x a ih => unfold Op.bytesLess; simp [UInt8.lt_irrefl, ih]
/-- one task ahead of another -/
def Lx (ss us : List (ByteArray × Int)) (x m : Task) : Prop :=
  m.pri < x.pri ∨ m.pri = x.pri ∧ (usedV us x.owner * weightV ss m.owner < usedV us m.owner * weightV ss x.owner ∨ usedV us x.owner * weightV ss m.owner = usedV us m.owner * weightV ss x.owner ∧
    (Op.bytesLess x.owner.toList m.owner.toList = true ∨ x.owner = m.owner ∧ x.id < m.id))
theorem orV_neg (a : Int) (l : List Int) : orV (a :: l) < 0 ↔ a < 0 ∨ a = 0 ∧ orV l < 0 := by
  show (if a = 0 then orV l else a) < 0 ↔ _
  by_cases h : a = 0
  · rw [if_pos h]; omega
  · rw [if_neg h]; omega
theorem lt_iff (ss us : List (ByteArray × Int)) (x m : Task) : ltT ss us x m = true ↔ Lx ss us x m := by
  have hc : Lib.compareBytes x.owner.toList m.owner.toList < 0 ↔ Op.bytesLess x.owner.toList m.owner.toList = true := by rw [cb_lt]; simp
  have h0 : Lib.compareBytes x.owner.toList m.owner.toList = 0 ↔ x.owner = m.owner := by
    rw [cb_zero]
    exact ⟨toList_inj, fun h => by rw [h]⟩
  have hn : ¬ orV [] < 0 := by decide
  unfold ltT befV cmpV Lx
  simp only [decide_eq_true_eq, orV_neg, ci_lt, ci_zero, hc, h0, hn, and_false, or_false]
theorem cross_le {ux uy uz wx wy wz : Int} (hx : 0 < wx) (hy : 0 < wy) (hz : 0 < wz) (h1 : ux * wy ≤ uy * wx) (h2 : uy * wz ≤ uz * wy) : ux * wz ≤ uz * wx := by
  have a1 := Int.mul_le_mul_of_nonneg_right h1 (Int.le_of_lt hz)
  have a2 := Int.mul_le_mul_of_nonneg_right h2 (Int.le_of_lt hx)
  refine Int.le_of_mul_le_mul_right (a := wy) ?_ hy
  calc ux * wz * wy = ux * wy * wz := by rw [Int.mul_assoc, Int.mul_assoc, Int.mul_comm wz]
    _ ≤ uy * wx * wz := a1
    _ = uy * wz * wx := by rw [Int.mul_assoc, Int.mul_assoc, Int.mul_comm wx]
    _ ≤ uz * wy * wx := a2
    _ = uz * wx * wy := by rw [Int.mul_assoc, Int.mul_assoc, Int.mul_comm wy]
theorem cross_lt1 {ux uy uz wx wy wz : Int} (hx : 0 < wx) (hy : 0 < wy) (hz : 0 < wz) (h1 : ux * wy < uy * wx) (h2 : uy * wz ≤ uz * wy) : ux * wz < uz * wx := by
  rcases Int.lt_or_le (ux * wz) (uz * wx) with h | h
  · exact h
  · have := cross_le hy hz hx h2 h
    omega
theorem cross_lt2 {ux uy uz wx wy wz : Int} (hx : 0 < wx) (hy : 0 < wy) (hz : 0 < wz) (h1 : ux * wy ≤ uy * wx) (h2 : uy * wz < uz * wy) : ux * wz < uz * wx := by
  rcases Int.lt_or_le (ux * wz) (uz * wx) with h | h
  · exact h
  · have := cross_le hz hx hy h h1
    omega
theorem Lx.trans {ss us : List (ByteArray × Int)} {x y z : Task} (h1 : Lx ss us x y) (h2 : Lx ss us y z) : Lx ss us x z := by
  have wx := (weightV_bd ss x.owner).1
  have wy := (weightV_bd ss y.owner).1
  have wz := (weightV_bd ss z.owner).1
  unfold Lx at *
  rcases h1 with h1 | ⟨e1, h1⟩
  · rcases h2 with h2 | ⟨e2, _⟩ <;> exact .inl (by omega)
  · rcases h2 with h2 | ⟨e2, h2⟩
    · exact .inl (by omega)
    · refine .inr ⟨by omega, ?_⟩
      rcases h1 with h1 | ⟨f1, h1⟩
      · rcases h2 with h2 | ⟨f2, _⟩
        · exact .inl (cross_lt1 (by omega) (by omega) (by omega) h1 (Int.le_of_lt h2))
        · exact .inl (cross_lt1 (by omega) (by omega) (by omega) h1 (Int.le_of_eq f2))
      · rcases h2 with h2 | ⟨f2, h2⟩
        · exact .inl (cross_lt2 (by omega) (by omega) (by omega) (Int.le_of_eq f1) h2)
        · refine .inr ⟨Int.le_antisymm (cross_le (by omega) (by omega) (by omega) (Int.le_of_eq f1) (Int.le_of_eq f2)) (cross_le (by omega) (by omega) (by omega) (Int.le_of_eq f2.symm) (Int.le_of_eq f1.symm)), ?_⟩
          rcases h1 with h1 | ⟨o1, h1⟩
          · rcases h2 with h2 | ⟨o2, _⟩
            · exact .inl (less_trans h1 h2)
            · rw [← o2]; exact .inl h1
          · rcases h2 with h2 | ⟨o2, h2⟩
            · rw [o1]; exact .inl h2
            · exact .inr ⟨o1.trans o2, by omega⟩
theorem Lx.irr {ss us : List (ByteArray × Int)} (x : Task) : ¬ Lx ss us x x := by
  unfold Lx
  rw [less_irr]
  intro h
  rcases h with h | ⟨_, h | ⟨_, h | ⟨_, h⟩⟩⟩
  · omega
  · omega
  · cases h
  · omega
theorem pick_ahead (ss us : List (ByteArray × Int)) : ∀ (l : List Task) (m : Task), pick (ltT ss us) m l = m ∨ Lx ss us (pick (ltT ss us) m l) m
  | [], m => .inl rfl
  | y :: l, m => by
    unfold pick
    by_cases h : ltT ss us y m = true
    · rw [if_pos h]
      have hy := (lt_iff ss us y m).1 h
      rcases pick_ahead ss us l y with e | e
      · rw [e]; exact .inr hy
      · exact .inr (e.trans hy)
    · rw [if_neg h]
      exact pick_ahead ss us l m
/-- nothing is ahead of the first least -/
theorem pick_least (ss us : List (ByteArray × Int)) : ∀ (l : List Task) (m : Task), (∀ x ∈ m :: l, ¬ Lx ss us x (pick (ltT ss us) m l))
  | [], m => by
    intro x hx
    simp at hx
    subst hx
    exact Lx.irr x
  | y :: l, m => by
    intro x hx
    unfold pick
    by_cases h : ltT ss us y m = true
    · rw [if_pos h]
      have ih := pick_least ss us l y
      have hy := (lt_iff ss us y m).1 h
      rcases List.mem_cons.1 hx with rfl | hx
      · intro hc
        exact ih y (List.mem_cons_self ..) (hy.trans hc)
      · exact ih x hx
    · rw [if_neg h]
      have ih := pick_least ss us l m
      have hy : ¬ Lx ss us y m := fun hc => h ((lt_iff ss us y m).2 hc)
      rcases List.mem_cons.1 hx with rfl | hx
      · exact ih x (List.mem_cons_self ..)
      · rcases List.mem_cons.1 hx with rfl | hx
        · intro hc
          -- m is not ahead of the pick; the pick is m or ahead of it
          rcases pick_ahead ss us l m with e | e
          · rw [e] at hc; exact hy hc
          · exact hy (hc.trans e)
        · exact ih x (List.mem_cons_of_mem _ hx)
theorem min_least {ss us : List (ByteArray × Int)} {ts : List Task} {x : Task} (hx : x ∈ ts) : ¬ Lx ss us x (minT ss us ts) := by
  cases ts with
  | nil => simp at hx
  | cons t l => exact pick_least ss us l t x hx
end Go.Proofs.Ytknpcphaieoocaa
