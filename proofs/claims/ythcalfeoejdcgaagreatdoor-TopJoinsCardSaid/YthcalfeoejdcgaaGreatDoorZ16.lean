/- TopGroups: the walk to Filled, and the rest. -/
import Derived.KernelRfl
import Derived.Test.YthcalfeoejdcgaaGreatDoorZ15
namespace Go.Proofs.YthcalfeoejdcgaaGreatDoor
section
open Go.RowKit Go.RowKit Go.BigFrame
set_option linter.unusedSimpArgs false
set_option linter.unusedVariables false

theorem slice_rv {E : Ev} {D : Nat → Prop} {ρ : Nat → Pl} {i b n e r : Nat} (hD : D i) (hp : ρ i = mkPl b 0 e r) (hr : n * e = r) (hn : n ≤ maxLen) : Rv E D ρ (.slice (some ⟨i, 0, none⟩) n n) (.slice (some ⟨b, 0, none⟩) n n) := by
  have h := Rv.slice (E := E) (D := D) (ρ := ρ) i 0 n n n hD (Nat.le_refl _) (Nat.le_refl _) hn (by rw [hp]; show 0 + n * e = r; omega)
  rw [hp] at h
  exact h
theorem ro_s0 : ∀ b o, s0.heap.get b = some o → o.wr = false := fun b o h => by
  have h : h0.get b = some o := h
  rw [h0_get] at h
  split at h
  · cases h; rfl
  split at h
  · cases h; rfl
  split at h
  · cases h; rfl
  split at h
  · cases h; rfl
  split at h
  · cases h; rfl
  · cases h
theorem snap_at {w w1 : World} : ∀ k ob, (oPl w w1).snap k = some ob → w1.heap[k]? = some ob := fun k ob h => by
  have h : snapOf w w1 k = some ob := h
  unfold snapOf at h
  split at h
  · exact h
  · cases h
theorem bd_cols {E : Ev} {D : Nat → Prop} {ρ : Nat → Pl} {w : World} {b : Nat} {cs : List Col} (h : rCol w (some ⟨b, 0, none⟩) 4 cs) : Bd E D ρ w (mkPl b 0 3 12) false (.cells 56 3 (flat encCol cs)) := by
  obtain ⟨b', o', e, hc⟩ := (show Fl w 3 (some ⟨b, 0, none⟩) 4 (flat encCol cs) from h).2 (by omega)
  cases e
  refine ⟨rfl, fun j v hv => ⟨v, hc j v hv, .flat v ?_⟩⟩
  obtain ⟨x, _, hx⟩ := List.mem_flatMap.1 (List.mem_of_getElem? hv)
  simp [encCol] at hx
  rcases hx with rfl | rfl | rfl <;> rfl
theorem simF {E : Ev} {w w1 : World} (ht : Tbs w1) {g bo bc : Nat} {A0 A1 A2 : Option Addr} {n0 n1 n2 c0 c1 c2 : Nat} (hblk : RelBlk w1 g [{ rel0 nmOrders bo with roA := A0, roN := n0, roC := c0 }, { rel0 nmCustomers bc with roA := A1, roN := n1, roC := c1 }, { rel0 nmReturns bo with roA := A2, roN := n2, roC := c2 }])
    (hco : rCol w1 (some ⟨bo, 0, none⟩) 4 ordersC) (hcc : rCol w1 (some ⟨bc, 0, none⟩) 4 customersC) (e0 : E 0 (.slice A0 n0 c0) (snapOf w w1)) (e1 : E 1 (.slice A1 n1 c1) (snapOf w w1)) (e2 : E 2 (.slice A2 n2 c2) (snapOf w w1)) :
    ∃ D ρ, Sim E D ρ sF w1 ∧ D 71 ∧ ρ 71 = mkPl g 0 4 12 ∧ D 0 ∧ ∀ b o, sF.heap.get b = some o → o.wr = false := by
  obtain ⟨ρ0, h0⟩ := ht.sim E
  have lo : ∀ {b : Nat} {cs : List Col}, rCol w1 (some ⟨b, 0, none⟩) 4 cs → cs ≠ [] → b < w1.heap.size := fun {b cs} h hne => by
    obtain ⟨b', o', e, hc⟩ := (show Fl w1 3 (some ⟨b, 0, none⟩) 4 (flat encCol cs) from h).2 (by omega)
    cases e
    cases cs with
    | nil => exact absurd rfl hne
    | cons x l => exact World.block_lt_of_cell? _ _ (hc 0 (.string x.nm) rfl)
  have s1 := sim_opq0 h0 ro_s0 (p := oPl w w1) snap_at
  have s2 := sim_opq0 s1 ro_s0 (p := oPl w w1) snap_at
  have s3 := sim_opq0 s2 ro_s0 (p := oPl w w1) snap_at
  obtain ⟨s4, r4⟩ := sim_ro0 s3 ro_s0 (by decide) (p := mkPl bo 0 3 12) (b := .cells 56 3 (flat encCol oC)) (bd_cols hco) (lo hco (by decide)) rfl
  obtain ⟨s5, r5⟩ := sim_ro0 s4 r4 (by decide) (p := mkPl bc 0 3 12) (b := .cells 56 3 (flat encCol cC)) (bd_cols hcc) (lo hcc (by decide)) rfl
  have hg2 : g < w1.heap.size := by
    unfold RelBlk at hblk
    exact (Array.getElem?_eq_some_iff.1 hblk).1
  have cell : ∀ (j : Nat) (v : Value), (flat encRel [{ rel0 nmOrders bo with roA := A0, roN := n0, roC := c0 }, { rel0 nmCustomers bc with roA := A1, roN := n1, roC := c1 }, { rel0 nmReturns bo with roA := A2, roN := n2, roC := c2 }])[j]? = some v → w1.cell? ⟨g, j, none⟩ = some v := fun j v hv => by
    unfold RelBlk at hblk
    rw [World.cell?, hblk]
    simpa using hv
  obtain ⟨s6, r6⟩ := sim_ro0 s5 r5 (by decide) (p := mkPl g 0 4 12) (b := relsB) (by
    refine ⟨rfl, fun j v hv => ?_⟩
    simp only [Nat.zero_add]
    match j, hv with
    | 0, hv => cases hv; exact ⟨_, cell 0 _ rfl, .flat _ rfl⟩
    | 1, hv => cases hv; exact ⟨_, cell 1 _ rfl, slice_rv (b := bo) (e := 3) (r := 12) (.inl (.inl (.inr rfl))) rfl rfl (by decide)⟩
    | 2, hv => cases hv; exact ⟨_, cell 2 _ rfl, .flat _ rfl⟩
    | 3, hv => cases hv; exact ⟨_, cell 3 _ rfl, opq_rv (i := 66) (d := 0) (by omega) (.inl (.inl (.inl (.inl (.inl (.inr rfl)))))) rfl e0⟩
    | 4, hv => cases hv; exact ⟨_, cell 4 _ rfl, .flat _ rfl⟩
    | 5, hv => cases hv; exact ⟨_, cell 5 _ rfl, slice_rv (b := bc) (e := 3) (r := 12) (.inl (.inr rfl)) rfl rfl (by decide)⟩
    | 6, hv => cases hv; exact ⟨_, cell 6 _ rfl, .flat _ rfl⟩
    | 7, hv => cases hv; exact ⟨_, cell 7 _ rfl, opq_rv (i := 67) (d := 1) (by omega) (.inl (.inl (.inl (.inl (.inr rfl))))) rfl e1⟩
    | 8, hv => cases hv; exact ⟨_, cell 8 _ rfl, .flat _ rfl⟩
    | 9, hv => cases hv; exact ⟨_, cell 9 _ rfl, slice_rv (b := bo) (e := 3) (r := 12) (.inl (.inl (.inr rfl))) rfl rfl (by decide)⟩
    | 10, hv => cases hv; exact ⟨_, cell 10 _ rfl, .flat _ rfl⟩
    | 11, hv => cases hv; exact ⟨_, cell 11 _ rfl, opq_rv (i := 68) (d := 2) (by omega) (.inl (.inl (.inl (.inr rfl)))) rfl e2⟩
    | j + 12, hv => cases hv) hg2 rfl
  exact ⟨_, _, s6, .inr rfl, rfl, .inl (.inl (.inl (.inl (.inl (.inl (by show (0 : Nat) < 66; omega)))))), r6⟩
end
end Go.Proofs.YthcalfeoejdcgaaGreatDoor
