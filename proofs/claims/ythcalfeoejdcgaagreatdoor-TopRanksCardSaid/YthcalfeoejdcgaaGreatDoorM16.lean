/- TopGroups: the walk to Filled, and the rest. -/
import Derived.KernelRfl
import Derived.Test.YthcalfeoejdcgaaGreatDoorM15
namespace Go.Proofs.YthcalfeoejdcgaaGreatDoor
section
open Go.RowKit Go.RowKit Go.BigFrame
set_option linter.unusedSimpArgs false
set_option linter.unusedVariables false

theorem und79 (a b c d e f : Value) : ∀ t : Nat, t ≠ 0 → t ≠ 1 → t ≠ 4 → t ≠ 5 → t ≠ 14 → t ≠ 15 → (#[a, b, undef, undef, c, d, undef, undef, undef, undef, undef, undef, undef, undef, e, f, undef, undef, undef, undef, undef, undef, undef, undef, undef, undef, undef, undef, undef, undef, undef, undef, undef, undef, undef, undef, undef, undef, undef, undef, undef, undef, undef, undef, undef, undef, undef, undef, undef, undef, undef, undef, undef, undef, undef, undef, undef, undef, undef, undef, undef, undef, undef, undef, undef, undef, undef, undef, undef, undef, undef, undef, undef, undef, undef, undef, undef, undef, undef] : Array Value).getD t undef = undef
  | 0, h, _, _, _, _, _ => absurd rfl h
  | 1, _, h, _, _, _, _ => absurd rfl h
  | 2, _, _, _, _, _, _ => rfl
  | 3, _, _, _, _, _, _ => rfl
  | 4, _, _, h, _, _, _ => absurd rfl h
  | 5, _, _, _, h, _, _ => absurd rfl h
  | 6, _, _, _, _, _, _ => rfl
  | 7, _, _, _, _, _, _ => rfl
  | 8, _, _, _, _, _, _ => rfl
  | 9, _, _, _, _, _, _ => rfl
  | 10, _, _, _, _, _, _ => rfl
  | 11, _, _, _, _, _, _ => rfl
  | 12, _, _, _, _, _, _ => rfl
  | 13, _, _, _, _, _, _ => rfl
  | 14, _, _, _, _, h, _ => absurd rfl h
  | 15, _, _, _, _, _, h => absurd rfl h
  | 16, _, _, _, _, _, _ => rfl
  | 17, _, _, _, _, _, _ => rfl
  | 18, _, _, _, _, _, _ => rfl
  | 19, _, _, _, _, _, _ => rfl
  | 20, _, _, _, _, _, _ => rfl
  | 21, _, _, _, _, _, _ => rfl
  | 22, _, _, _, _, _, _ => rfl
  | 23, _, _, _, _, _, _ => rfl
  | 24, _, _, _, _, _, _ => rfl
  | 25, _, _, _, _, _, _ => rfl
  | 26, _, _, _, _, _, _ => rfl
  | 27, _, _, _, _, _, _ => rfl
  | 28, _, _, _, _, _, _ => rfl
  | 29, _, _, _, _, _, _ => rfl
  | 30, _, _, _, _, _, _ => rfl
  | 31, _, _, _, _, _, _ => rfl
  | 32, _, _, _, _, _, _ => rfl
  | 33, _, _, _, _, _, _ => rfl
  | 34, _, _, _, _, _, _ => rfl
  | 35, _, _, _, _, _, _ => rfl
  | 36, _, _, _, _, _, _ => rfl
  | 37, _, _, _, _, _, _ => rfl
  | 38, _, _, _, _, _, _ => rfl
  | 39, _, _, _, _, _, _ => rfl
  | 40, _, _, _, _, _, _ => rfl
  | 41, _, _, _, _, _, _ => rfl
  | 42, _, _, _, _, _, _ => rfl
  | 43, _, _, _, _, _, _ => rfl
  | 44, _, _, _, _, _, _ => rfl
  | 45, _, _, _, _, _, _ => rfl
  | 46, _, _, _, _, _, _ => rfl
  | 47, _, _, _, _, _, _ => rfl
  | 48, _, _, _, _, _, _ => rfl
  | 49, _, _, _, _, _, _ => rfl
  | 50, _, _, _, _, _, _ => rfl
  | 51, _, _, _, _, _, _ => rfl
  | 52, _, _, _, _, _, _ => rfl
  | 53, _, _, _, _, _, _ => rfl
  | 54, _, _, _, _, _, _ => rfl
  | 55, _, _, _, _, _, _ => rfl
  | 56, _, _, _, _, _, _ => rfl
  | 57, _, _, _, _, _, _ => rfl
  | 58, _, _, _, _, _, _ => rfl
  | 59, _, _, _, _, _, _ => rfl
  | 60, _, _, _, _, _, _ => rfl
  | 61, _, _, _, _, _, _ => rfl
  | 62, _, _, _, _, _, _ => rfl
  | 63, _, _, _, _, _, _ => rfl
  | 64, _, _, _, _, _, _ => rfl
  | 65, _, _, _, _, _, _ => rfl
  | 66, _, _, _, _, _, _ => rfl
  | 67, _, _, _, _, _, _ => rfl
  | 68, _, _, _, _, _, _ => rfl
  | 69, _, _, _, _, _, _ => rfl
  | 70, _, _, _, _, _, _ => rfl
  | 71, _, _, _, _, _, _ => rfl
  | 72, _, _, _, _, _, _ => rfl
  | 73, _, _, _, _, _, _ => rfl
  | 74, _, _, _, _, _, _ => rfl
  | 75, _, _, _, _, _, _ => rfl
  | 76, _, _, _, _, _, _ => rfl
  | 77, _, _, _, _, _, _ => rfl
  | 78, _, _, _, _, _, _ => rfl
  | n + 79, _, _, _, _, _, _ => by
    rw [Array.getD_eq_getD_getElem?, Array.getElem?_eq_none (by simp)]
    rfl
theorem tmF_get (t : Nat) : tmF.get t = if t = 5 then some (.slice (some ⟨71,0,none⟩) 3 3) else if t = 15 then some (.chan none) else if t = 14 then some (.chan none) else if t = 4 then some (.bool false) else if t = 1 then some (.chan (some 600)) else if t = 0 then some (.chan none) else none := by
  unfold tmF
  rw [Tr.get_set tBits _ 5 _ (by decide) t, Tr.get_set tBits _ 15 _ (by decide) t, Tr.get_set tBits _ 14 _ (by decide) t, Tr.get_set tBits _ 4 _ (by decide) t, Tr.get_set tBits _ 1 _ (by decide) t, Tr.get_set tBits _ 0 _ (by decide) t, Tr.get_leaf]
theorem slice_rv {E : Ev} {D : Nat → Prop} {ρ : Nat → Pl} {i b n e r : Nat} (hD : D i) (hp : ρ i = mkPl b 0 e r) (hr : n * e = r) (hn : n ≤ maxLen) : Rv E D ρ (.slice (some ⟨i, 0, none⟩) n n) (.slice (some ⟨b, 0, none⟩) n n) := by
  have h := Rv.slice (E := E) (D := D) (ρ := ρ) i 0 n n n hD (Nat.le_refl _) (Nat.le_refl _) hn (by rw [hp]; show 0 + n * e = r; omega)
  rw [hp] at h
  exact h
theorem trel7 {E : Ev} {D : Nat → Prop} {ρ : Nat → Pl} {a b c d e f : Value} (h1 : Rv E D ρ (.chan (some 600)) b) (h4 : c = .bool false) (h5 : Rv E D ρ (.slice (some ⟨71,0,none⟩) 3 3) d) (t : Nat) : Rv E D ρ (match tmF.get t with | some v => v | none => .tuple ⟨[]⟩) ((#[a, b, undef, undef, c, d, undef, undef, undef, undef, undef, undef, undef, undef, e, f, undef, undef, undef, undef, undef, undef, undef, undef, undef, undef, undef, undef, undef, undef, undef, undef, undef, undef, undef, undef, undef, undef, undef, undef, undef, undef, undef, undef, undef, undef, undef, undef, undef, undef, undef, undef, undef, undef, undef, undef, undef, undef, undef, undef, undef, undef, undef, undef, undef, undef, undef, undef, undef, undef, undef, undef, undef, undef, undef, undef, undef, undef, undef] : Array Value).getD t undef) := by
  rw [tmF_get]
  by_cases q5 : t = 5
  · subst q5; exact h5
  by_cases q15 : t = 15
  · subst q15; exact .poison _
  by_cases q14 : t = 14
  · subst q14; exact .poison _
  by_cases q4 : t = 4
  · subst q4; subst h4; exact .flat _ rfl
  by_cases q1 : t = 1
  · subst q1; exact h1
  by_cases q0 : t = 0
  · subst q0; exact .poison _
  rw [und79 a b c d e f t q0 q1 q4 q5 q14 q15, if_neg q5, if_neg q15, if_neg q14, if_neg q4, if_neg q1, if_neg q0]
  exact .tuple _ _ .nil
theorem ro_s0 : ∀ b o, s0.heap.get b = some o → o.wr = false := fun b o h => by
  have h : h0.get b = some o := h
  rw [h0_get] at h
  split at h
  · cases h; rfl
  split at h
  · cases h; rfl
  split at h
  · cases h; rfl
  split at h
  · cases h; rfl
  split at h
  · cases h; rfl
  · cases h
theorem snap_at {w w1 : World} : ∀ k ob, (oPl w w1).snap k = some ob → w1.heap[k]? = some ob := fun k ob h => by
  have h : snapOf w w1 k = some ob := h
  unfold snapOf at h
  split at h
  · exact h
  · cases h
theorem bd_cols {E : Ev} {D : Nat → Prop} {ρ : Nat → Pl} {w : World} {b : Nat} {cs : List Col} (h : rCol w (some ⟨b, 0, none⟩) 4 cs) : Bd E D ρ w (mkPl b 0 3 12) false (.cells 56 3 (flat encCol cs)) := by
  obtain ⟨b', o', e, hc⟩ := (show Fl w 3 (some ⟨b, 0, none⟩) 4 (flat encCol cs) from h).2 (by omega)
  cases e
  refine ⟨rfl, fun j v hv => ⟨v, hc j v hv, .flat v ?_⟩⟩
  obtain ⟨x, _, hx⟩ := List.mem_flatMap.1 (List.mem_of_getElem? hv)
  simp [encCol] at hx
  rcases hx with rfl | rfl | rfl <;> rfl
theorem simF {E : Ev} {w w1 : World} (ht : Tbs w1) {g bo bc : Nat} {A0 A1 A2 : Option Addr} {n0 n1 n2 c0 c1 c2 : Nat} (hblk : RelBlk w1 g [{ rel0 nmOrders bo with roA := A0, roN := n0, roC := c0 }, { rel0 nmCustomers bc with roA := A1, roN := n1, roC := c1 }, { rel0 nmReturns bo with roA := A2, roN := n2, roC := c2 }])
    (hco : rCol w1 (some ⟨bo, 0, none⟩) 4 ordersC) (hcc : rCol w1 (some ⟨bc, 0, none⟩) 4 customersC) (e0 : E 0 (.slice A0 n0 c0) (snapOf w w1)) (e1 : E 1 (.slice A1 n1 c1) (snapOf w w1)) (e2 : E 2 (.slice A2 n2 c2) (snapOf w w1)) :
    ∃ D ρ, Sim E D ρ sF w1 ∧ D 71 ∧ ρ 71 = mkPl g 0 4 12 ∧ D 0 ∧ ∀ b o, sF.heap.get b = some o → o.wr = false := by
  obtain ⟨ρ0, h0⟩ := ht.sim E
  have lo : ∀ {b : Nat} {cs : List Col}, rCol w1 (some ⟨b, 0, none⟩) 4 cs → cs ≠ [] → b < w1.heap.size := fun {b cs} h hne => by
    obtain ⟨b', o', e, hc⟩ := (show Fl w1 3 (some ⟨b, 0, none⟩) 4 (flat encCol cs) from h).2 (by omega)
    cases e
    cases cs with
    | nil => exact absurd rfl hne
    | cons x l => exact World.block_lt_of_cell? _ _ (hc 0 (.string x.nm) rfl)
  have s1 := sim_opq0 h0 ro_s0 (p := oPl w w1) snap_at
  have s2 := sim_opq0 s1 ro_s0 (p := oPl w w1) snap_at
  have s3 := sim_opq0 s2 ro_s0 (p := oPl w w1) snap_at
  obtain ⟨s4, r4⟩ := sim_ro0 s3 ro_s0 (by decide) (p := mkPl bo 0 3 12) (b := .cells 56 3 (flat encCol oC)) (bd_cols hco) (lo hco (by decide)) rfl
  obtain ⟨s5, r5⟩ := sim_ro0 s4 r4 (by decide) (p := mkPl bc 0 3 12) (b := .cells 56 3 (flat encCol cC)) (bd_cols hcc) (lo hcc (by decide)) rfl
  have hg2 : g < w1.heap.size := by
    unfold RelBlk at hblk
    exact (Array.getElem?_eq_some_iff.1 hblk).1
  have cell : ∀ (j : Nat) (v : Value), (flat encRel [{ rel0 nmOrders bo with roA := A0, roN := n0, roC := c0 }, { rel0 nmCustomers bc with roA := A1, roN := n1, roC := c1 }, { rel0 nmReturns bo with roA := A2, roN := n2, roC := c2 }])[j]? = some v → w1.cell? ⟨g, j, none⟩ = some v := fun j v hv => by
    unfold RelBlk at hblk
    rw [World.cell?, hblk]
    simpa using hv
  obtain ⟨s6, r6⟩ := sim_ro0 s5 r5 (by decide) (p := mkPl g 0 4 12) (b := relsB) (by
    refine ⟨rfl, fun j v hv => ?_⟩
    simp only [Nat.zero_add]
    match j, hv with
    | 0, hv => cases hv; exact ⟨_, cell 0 _ rfl, .flat _ rfl⟩
    | 1, hv => cases hv; exact ⟨_, cell 1 _ rfl, slice_rv (b := bo) (e := 3) (r := 12) (.inl (.inl (.inr rfl))) rfl rfl (by decide)⟩
    | 2, hv => cases hv; exact ⟨_, cell 2 _ rfl, .flat _ rfl⟩
    | 3, hv => cases hv; exact ⟨_, cell 3 _ rfl, opq_rv (i := 66) (d := 0) (by omega) (.inl (.inl (.inl (.inl (.inl (.inr rfl)))))) rfl e0⟩
    | 4, hv => cases hv; exact ⟨_, cell 4 _ rfl, .flat _ rfl⟩
    | 5, hv => cases hv; exact ⟨_, cell 5 _ rfl, slice_rv (b := bc) (e := 3) (r := 12) (.inl (.inr rfl)) rfl rfl (by decide)⟩
    | 6, hv => cases hv; exact ⟨_, cell 6 _ rfl, .flat _ rfl⟩
    | 7, hv => cases hv; exact ⟨_, cell 7 _ rfl, opq_rv (i := 67) (d := 1) (by omega) (.inl (.inl (.inl (.inl (.inr rfl))))) rfl e1⟩
    | 8, hv => cases hv; exact ⟨_, cell 8 _ rfl, .flat _ rfl⟩
    | 9, hv => cases hv; exact ⟨_, cell 9 _ rfl, slice_rv (b := bo) (e := 3) (r := 12) (.inl (.inl (.inr rfl))) rfl rfl (by decide)⟩
    | 10, hv => cases hv; exact ⟨_, cell 10 _ rfl, .flat _ rfl⟩
    | 11, hv => cases hv; exact ⟨_, cell 11 _ rfl, opq_rv (i := 68) (d := 2) (by omega) (.inl (.inl (.inl (.inr rfl)))) rfl e2⟩
    | j + 12, hv => cases hv) hg2 rfl
  exact ⟨_, _, s6, .inr rfl, rfl, .inl (.inl (.inl (.inl (.inl (.inl (by show (0 : Nat) < 66; omega)))))), r6⟩
end
end Go.Proofs.YthcalfeoejdcgaaGreatDoor
