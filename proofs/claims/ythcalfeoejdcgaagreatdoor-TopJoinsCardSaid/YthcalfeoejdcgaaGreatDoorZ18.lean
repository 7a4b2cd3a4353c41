/- The books of a concrete run: from one piece of a run to the next: the blocks that count, none of them written on. No program here. -/
import Derived.Test.YthcalfeoejdcgaaGreatDoorZ17
namespace Go.Proofs.YthcalfeoejdcgaaGreatDoor
open Go.RowKit Go.RowKit
set_option linter.unusedSimpArgs false
set_option linter.unusedVariables false

theorem Bd.ro {E : Ev} {D : Nat → Prop} {ρ : Nat → Pl} {w : World} {p : Pl} {b : Bool} {e : TypeId} {z : Nat} {c : List Value} (h : Bd E D ρ w p b (.cells e z c)) : Bd E D ρ w p false (.cells e z c) := by
  cases b with
  | false => exact h
  | true =>
    obtain ⟨h1, cur, g1, g2, _, _, g5⟩ := h
    refine ⟨h1, fun j v hv => ?_⟩
    obtain ⟨x, hx, hr⟩ := g5 j v hv
    exact ⟨x, by rw [World.cell?, g1, g2, Nat.zero_add]; exact hx, hr⟩
abbrev CellsX := TypeId × Nat × List Value
def cellsO : Option AObj → Option CellsX
  | some ⟨_, .cells e z c⟩ => some (e, z, c)
  | _ => none
theorem cellsO_ok {o : Option AObj} {x : CellsX} (h : cellsO o = some x) : ∃ b, o = some ⟨b, .cells x.1 x.2.1 x.2.2⟩ := by
  unfold cellsO at h
  split at h
  · cases h; exact ⟨_, rfl⟩
  · cases h
def sets {α β : Type} (B : Nat) (f : α → β) : List (Nat × α) → Tr β → Tr β
  | [], T => T
  | p :: l, T => sets B f l (T.set B p.1 (some (f p.2)))
theorem sets_get {α β : Type} {B : Nat} {f : α → β} : ∀ {l : List (Nat × α)} (_ : ∀ p ∈ l, p.1 + 1 < 2 ^ B) {T : Tr β} {i : Nat} {o : β} (_ : (sets B f l T).get i = some o), (∃ p ∈ l, p.1 = i ∧ f p.2 = o) ∨ T.get i = some o
  | [], _, T, i, o, h => .inr h
  | p :: l, hl, T, i, o, h => by
    rcases sets_get (l := l) (fun q hq => hl q (List.mem_cons_of_mem _ hq)) (T := T.set B p.1 (some (f p.2))) h with ⟨q, hq, h1⟩ | h
    · exact .inl ⟨q, List.mem_cons_of_mem _ hq, h1⟩
    · rw [Tr.get_set B T p.1 _ (hl p (List.mem_cons_self ..)) i] at h
      split at h
      · rename_i e
        exact .inl ⟨p, List.mem_cons_self .., e.symm, Option.some.inj h⟩
      · exact .inr h
theorem sets_some {α β : Type} {B : Nat} {f : α → β} : ∀ {l : List (Nat × α)} (_ : ∀ p ∈ l, p.1 + 1 < 2 ^ B) {T : Tr β} {i : Nat} (_ : (∃ p ∈ l, p.1 = i) ∨ ∃ o, T.get i = some o), ∃ o, (sets B f l T).get i = some o
  | [], _, T, i, h => by
    rcases h with ⟨p, hp, _⟩ | h
    · cases hp
    · exact h
  | p :: l, hl, T, i, h => by
    refine sets_some (l := l) (fun q hq => hl q (List.mem_cons_of_mem _ hq)) ?_
    have hg := Tr.get_set B T p.1 (some (f p.2)) (hl p (List.mem_cons_self ..)) i
    rcases h with ⟨q, hq, e⟩ | ⟨o, ho⟩
    · rcases List.mem_cons.1 hq with rfl | hq
      · exact .inr ⟨_, by rw [hg, if_pos e.symm]⟩
      · exact .inl ⟨q, hq, e⟩
    · by_cases e : i = p.1
      · exact .inr ⟨_, by rw [hg, if_pos e]⟩
      · exact .inr ⟨o, by rw [hg, if_neg e]; exact ho⟩
/-- what a piece of a run leaves, as far as it counts -/
structure Lit where
  ntm : Nat
  next : Nat
  tms : List (Nat × Value)
  blks : List (Nat × CellsX)
def Lit.tl (L : Lit) : List (Nat × Value) := (List.range L.ntm).map (fun t => (t, .chan none)) ++ L.tms
def Lit.tm (L : Lit) : Tm := sets tBits (fun v => v) L.tl .leaf
def Lit.st (L : Lit) : ASt := ⟨sets xBits (fun x : CellsX => (⟨false, .cells x.1 x.2.1 x.2.2⟩ : AObj)) L.blks .leaf, L.next, []⟩
def lookL (L : Lit) (x : Option (Tm × ASt)) : Option (Nat × List (Option Value) × List (Option CellsX)) := match x with
  | some (tm, s) => some (s.next, L.tms.map (fun p => tm.get p.1), L.blks.map fun p => cellsO (s.heap.get p.1))
  | none => none
def Lit.want (L : Lit) : Option (Nat × List (Option Value) × List (Option CellsX)) := some (L.next, L.tms.map (fun p => some p.2), L.blks.map fun p => some p.2)
def Lit.small (L : Lit) : Bool := (L.tl.all fun p => Nat.blt (p.1 + 1) (2 ^ tBits)) && (L.blks.all fun p => Nat.blt (p.1 + 1) (2 ^ xBits))
theorem map_eq {α β : Type} {f g : α → β} : ∀ {l : List α} (_ : l.map f = l.map g), ∀ x ∈ l, f x = g x
  | a :: l, h, x, hx => by
    injection h with h1 h2
    rcases List.mem_cons.1 hx with rfl | hx
    · exact h1
    · exact map_eq h2 x hx
section
variable {E : Ev} {P : Program} {T : Tbl} {r : Rn}
theorem lit_ok {L : Lit} {x : Option (Tm × ASt)} (hs : L.small = true) (h : lookL L x = L.want) : ∃ tm s, x = some (tm, s) ∧ ∀ {D : Nat → Prop} {ρ : Nat → Pl} {sz : Nat} {a : Act} {w : World} (_ : L.ntm = sz) (_ : St E D ρ sz s tm a w), St E D ρ sz L.st L.tm a w := by
  unfold lookL Lit.want at h
  split at h
  · rename_i tm s
    refine ⟨tm, s, rfl, fun {D ρ sz a w} hn hst => ?_⟩
    injection h with h
    injection h with h1 h
    injection h with h2 h3
    unfold Lit.small at hs
    rw [Bool.and_eq_true, List.all_eq_true, List.all_eq_true] at hs
    have hs1 : ∀ p ∈ L.tl, p.1 + 1 < 2 ^ tBits := fun p hp => by
      have h := hs.1 p hp
      exact Nat.le_of_ble_eq_true h
    have hs2 : ∀ p ∈ L.blks, p.1 + 1 < 2 ^ xBits := fun p hp => by
      have h := hs.2 p hp
      exact Nat.le_of_ble_eq_true h
    have hget : ∀ i o, L.st.heap.get i = some o → o.wr = false ∧ ∃ e z c b, o.body = .cells e z c ∧ s.heap.get i = some ⟨b, .cells e z c⟩ := fun i o ho => by
      have ho : (sets xBits (fun x : CellsX => (⟨false, .cells x.1 x.2.1 x.2.2⟩ : AObj)) L.blks .leaf).get i = some o := ho
      rcases sets_get hs2 ho with ⟨p, hp, e, ho⟩ | ho
      · subst ho
        obtain ⟨b, hb⟩ := cellsO_ok (map_eq h3 p hp)
        exact ⟨rfl, _, _, _, b, rfl, by rw [← e]; exact hb⟩
      · rw [Tr.get_leaf] at ho; cases ho
    have S := hst.sim
    have nx : L.st.next = s.next := h1.symm
    refine ⟨⟨fun i o ho => ?_, fun i hi => ?_, fun i o ho => ?_, fun i o ho => ?_, fun i j o o' ho ho' hne hwr => ?_, S.gl, S.glob, fun i k ob hk => ?_⟩, fun t => ?_, hst.size, hst.defers⟩
    · obtain ⟨_, e, z, c, b, _, hb⟩ := hget i o ho
      exact S.lt i _ hb
    · rw [nx]; exact S.dn i hi
    · obtain ⟨k1, e, z, c, b, k2, hb⟩ := hget i o ho
      have := S.bd i _ hb
      rw [k1, k2]
      exact this.ro
    · obtain ⟨_, e, z, c, b, _, hb⟩ := hget i o ho
      exact S.inh i _ hb
    · rw [(hget i o ho).1] at hwr; cases hwr
    · exact ⟨(S.prot i k ob hk).1, fun b o ho hwr => by rw [(hget b o ho).1] at hwr; cases hwr⟩
    · cases hg : L.tm.get t with
      | some v =>
        have hg : (sets tBits (fun v : Value => v) L.tl .leaf).get t = some v := hg
        rcases sets_get hs1 hg with ⟨p, hp, e, rfl⟩ | hg
        · rcases List.mem_append.1 hp with hp | hp
          · obtain ⟨q, _, rfl⟩ := List.mem_map.1 hp
            exact .poison _
          · have := map_eq h2 p hp
            have htr := hst.tr p.1
            rw [this] at htr
            rw [← e]
            exact htr
        · rw [Tr.get_leaf] at hg; cases hg
      | none =>
        rcases Nat.lt_or_ge t L.ntm with hlt | hge
        · have : ∃ o, (sets tBits (fun v : Value => v) L.tl .leaf).get t = some o := sets_some hs1 (.inl ⟨(t, .chan none), List.mem_append_left _ (List.mem_map.2 ⟨t, List.mem_range.2 hlt, rfl⟩), rfl⟩)
          obtain ⟨o, ho⟩ := this
          have hg : (sets tBits (fun v : Value => v) L.tl .leaf).get t = none := hg
          rw [hg] at ho; cases ho
        · have e : a.tmps.getD t undef = undef := by
            rw [Array.getD_eq_getD_getElem?, Array.getElem?_eq_none (by rw [hst.size]; omega)]; rfl
          rw [e]
          exact .tuple _ _ .nil
  · cases h
theorem lit_ro {L : Lit} (hs : L.small = true) : (∀ b o, L.st.heap.get b = some o → o.wr = false) ∧ L.st.tc = [] := by
  refine ⟨fun b o ho => ?_, rfl⟩
  unfold Lit.small at hs
  rw [Bool.and_eq_true, List.all_eq_true, List.all_eq_true] at hs
  have hs2 : ∀ p ∈ L.blks, p.1 + 1 < 2 ^ xBits := fun p hp => by
    have h := hs.2 p hp
    exact Nat.le_of_ble_eq_true h
  have ho : (sets xBits (fun x : CellsX => (⟨false, .cells x.1 x.2.1 x.2.2⟩ : AObj)) L.blks .leaf).get b = some o := ho
  rcases sets_get hs2 ho with ⟨p, hp, e, ho⟩ | ho
  · subst ho; rfl
  · rw [Tr.get_leaf] at ho; cases ho
end
end Go.Proofs.YthcalfeoejdcgaaGreatDoor
