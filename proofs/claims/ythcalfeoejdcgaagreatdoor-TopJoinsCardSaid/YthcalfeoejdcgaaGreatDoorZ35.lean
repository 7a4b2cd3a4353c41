/- The books of a concrete run: a frame at the run's start. No program here. -/
import Derived.Test.YthcalfeoejdcgaaGreatDoorZ18
namespace Go.Proofs.YthcalfeoejdcgaaGreatDoor
open Go.RowKit Go.RowKit
set_option linter.unusedSimpArgs false
set_option linter.unusedVariables false

theorem tm_rel {E : Ev} {D : Nat → Prop} {ρ : Nat → Pl} {L : Lit} {a : Act} (hs : L.small = true) (hz : a.tmps.size = L.ntm) (h : ∀ p ∈ L.tms, Rv E D ρ p.2 (a.tmps.getD p.1 undef)) : TRel E D ρ L.tm a := fun t => by
  unfold Lit.small at hs
  rw [Bool.and_eq_true, List.all_eq_true, List.all_eq_true] at hs
  have hs1 : ∀ p ∈ L.tl, p.1 + 1 < 2 ^ tBits := fun p hp => by
    have h := hs.1 p hp
    exact Nat.le_of_ble_eq_true h
  cases hg : L.tm.get t with
  | some v =>
    have hg : (sets tBits (fun v : Value => v) L.tl .leaf).get t = some v := hg
    rcases sets_get hs1 hg with ⟨p, hp, e, rfl⟩ | hg
    · rcases List.mem_append.1 hp with hp | hp
      · obtain ⟨q, _, rfl⟩ := List.mem_map.1 hp
        exact .poison _
      · rw [← e]
        exact h p hp
    · rw [Tr.get_leaf] at hg; cases hg
  | none =>
    rcases Nat.lt_or_ge t L.ntm with hlt | hge
    · obtain ⟨o, ho⟩ : ∃ o, (sets tBits (fun v : Value => v) L.tl .leaf).get t = some o := sets_some hs1 (.inl ⟨(t, .chan none), List.mem_append_left _ (List.mem_map.2 ⟨t, List.mem_range.2 hlt, rfl⟩), rfl⟩)
      have hg : (sets tBits (fun v : Value => v) L.tl .leaf).get t = none := hg
      rw [hg] at ho; cases ho
    · have e : a.tmps.getD t undef = undef := by
        rw [Array.getD_eq_getD_getElem?, Array.getElem?_eq_none (by rw [hz]; omega)]; rfl
      rw [e]
      exact .tuple _ _ .nil
end Go.Proofs.YthcalfeoejdcgaaGreatDoor
