/- Rows of structs: the cells of a list of elements one after another; slices that a function made itself. No program here but the types' rows. -/
import Derived.Test.YtknpcphaieoocaaMin
import Derived.OwnWalk
import Derived.Maps.AppendAt
import Derived.Laws.AppendOwnNone
namespace Go.Proofs.Ytknpcphaieoocaa
open Go.RowKit
set_option linter.unusedSimpArgs false
set_option linter.unusedVariables false

section
variable {α : Type} (enc : α → List Value) (C : Nat)
/-- the cells of a list of elements -/
def flat (l : List α) : List Value := l.flatMap enc
theorem flat_cons (x : α) (l : List α) : flat enc (x :: l) = enc x ++ flat enc l := rfl
theorem flat_append (a b : List α) : flat enc (a ++ b) = flat enc a ++ flat enc b := by unfold flat; rw [List.flatMap_append]
variable {enc C}
theorem flat_length (hC : ∀ x, (enc x).length = C) (l : List α) : (flat enc l).length = l.length * C := by
  induction l with
  | nil => simp [flat]
  | cons x l ih => rw [flat_cons, List.length_append, ih, hC, List.length_cons, Nat.succ_mul]; omega
theorem flat_get (hC : ∀ x, (enc x).length = C) : ∀ {l : List α} {j : Nat} {x : α} (_ : l[j]? = some x) (k : Nat) (_ : k < C), (flat enc l)[j * C + k]? = (enc x)[k]?
  | y :: l, 0, x, h, k, hk => by
    simp at h; subst h
    rw [flat_cons, Nat.zero_mul, Nat.zero_add, List.getElem?_append_left (by rw [hC]; exact hk)]
  | y :: l, j + 1, x, h, k, hk => by
    have h' : l[j]? = some x := by simpa using h
    have := flat_get hC h' k hk
    rw [flat_cons, List.getElem?_append_right (by rw [hC, Nat.succ_mul]; omega), hC, ← this]
    congr 1
    rw [Nat.succ_mul]; omega
theorem flat_of (hC : ∀ x, (enc x).length = C) (h0 : 0 < C) : ∀ {l : List α} {i : Nat} {u : Value} (_ : (flat enc l)[i]? = some u), ∃ j k x, i = j * C + k ∧ k < C ∧ l[j]? = some x ∧ (enc x)[k]? = some u
  | [], i, u, h => by simp [flat] at h
  | y :: l, i, u, h => by
    rw [flat_cons] at h
    by_cases hi : i < C
    · rw [List.getElem?_append_left (by rw [hC]; exact hi)] at h
      exact ⟨0, i, y, by omega, hi, rfl, h⟩
    · rw [List.getElem?_append_right (by rw [hC]; omega), hC] at h
      obtain ⟨j, k, x, e, hk, hx, hu⟩ := flat_of hC h0 h
      exact ⟨j + 1, k, x, by rw [Nat.succ_mul]; omega, hk, by simpa using hx, hu⟩
end

/-- the cells of a pair -/
def enc2 (x : ByteArray × Int) : List Value := [.string x.1, .int .i64 x.2]
theorem enc2_len (x : ByteArray × Int) : (enc2 x).length = 2 := rfl
/-- the cells of a task -/
def enc8 (t : Task) : List Value := [.int .i64 t.id, .string t.rel, .bool t.all, .int .i64 t.day, .string t.owner, .int .i64 t.cost, .int .i64 t.pri, .slice t.na t.nn t.nc]
theorem enc8_len (x : Task) : (enc8 x).length = 8 := rfl
theorem addr_lit (b off j : Nat) : (⟨b, off, none⟩ : Addr).add j = ⟨b, off + j, none⟩ := by unfold Addr.add; split <;> simp_all

/-- a slice of n integers reads as a list of integers -/
def Nrow (w : World) (A : Option Addr) (n : Nat) (zs : List Int) : Prop :=
  zs.length = n ∧ (0 < n → ∃ b off, A = some ⟨b, off, none⟩ ∧ ∀ (j : Nat) (x : Int), zs[j]? = some x → w.cell? ⟨b, off + j, none⟩ = some (.int .i64 x))
theorem Nrow.later {w w' : World} {A : Option Addr} {n : Nat} {zs : List Int} (h : Nrow w A n zs) (hb : Below w.heap.size w w') : Nrow w' A n zs :=
  ⟨h.1, fun hn => by
    obtain ⟨b, off, hA, hc⟩ := h.2 hn
    exact ⟨b, off, hA, fun j x hx => cell_later hb (hc j x hx)⟩⟩
theorem Nrow.nil (w : World) : Nrow w none 0 [] := ⟨rfl, fun h => absurd h (by omega)⟩
theorem Nrow.news {w : World} {ad : Addr} {n : Nat} {zs : List Int} (h : Nrow w (some ad) n zs) : ∀ j u, (zs.map (Value.int .i64))[j]? = some u → w.cell? (ad.add j) = some u := by
  intro j u hj
  rw [List.getElem?_map] at hj
  obtain ⟨x, hx, rfl⟩ := Option.map_eq_some_iff.1 hj
  have hl := (List.getElem?_eq_some_iff.1 hx).1
  obtain ⟨b, off, hA, hc⟩ := h.2 (by have := h.1; omega)
  cases hA
  rw [addr_lit]; exact hc j x hx
theorem nrow_of_own {w : World} {base : Nat} {v : Value} {n : Nat} {zs : List Int} (h : w.ownsRow base 3 1 v n (zs.map (Value.int .i64))) : ∃ A c, v = .slice A n c ∧ Nrow w A n zs ∧ (∀ a, A = some a → base ≤ a.block) := by
  have hl : zs.length = n := by have := h.1; simpa using this
  rcases h.2 with ⟨rfl, rfl⟩ | ⟨g, cap, cur, rfl, hbg, _, _, _, _, _⟩
  · exact ⟨none, 0, rfl, ⟨hl, fun h => absurd h (by omega)⟩, fun a h => by simp at h⟩
  · refine ⟨some ⟨g, 0, none⟩, cap, rfl, ⟨hl, fun _ => ⟨g, 0, rfl, fun j x hx => ?_⟩⟩, fun a h => by cases h; exact hbg⟩
    have hc := h.cells (g := g) rfl j (.int .i64 x) (by rw [List.getElem?_map, hx]; rfl)
    rw [addr_lit] at hc; exact hc
theorem nrow_set {w : World} {A : Option Addr} {n : Nat} {zs : List Int} (h : Nrow w A n zs) (p : Addr) (v : Value) (hp : ∀ a, A = some a → a.block ≠ p.block) : Nrow (w.setCell p v) A n zs :=
  ⟨h.1, fun hn => by
    obtain ⟨b, off, hA, hc⟩ := h.2 hn
    exact ⟨b, off, hA, fun j x hx => by rw [World.cell?_setCell_other (h := fun e => hp _ hA (by rw [e]))]; exact hc j x hx⟩⟩
theorem nrow_unique {w : World} {A : Option Addr} {n : Nat} {zs ys : List Int} (h : Nrow w A n zs) (k : Nrow w A n ys) : zs = ys := by
  apply List.ext_getElem? 
  intro j
  by_cases hj : j < n
  · have e1 : zs[j]? = some (zs[j]'(by have := h.1; omega)) := List.getElem?_eq_getElem _
    have e2 : ys[j]? = some (ys[j]'(by have := k.1; omega)) := List.getElem?_eq_getElem _
    obtain ⟨b, off, hA, hc⟩ := h.2 (by omega)
    obtain ⟨b', off', hA', hc'⟩ := k.2 (by omega)
    rw [hA] at hA'
    cases hA'
    have := (hc j _ e1).symm.trans (hc' j _ e2)
    rw [e1, e2]
    simpa using this
  · rw [List.getElem?_eq_none (by have := h.1; omega), List.getElem?_eq_none (by have := k.1; omega)]

theorem Prow.news {w : World} {ad : Addr} {n : Nat} {us : List (ByteArray × Int)} (h : Prow w (some ad) n us) : ∀ j u, (flat enc2 us)[j]? = some u → w.cell? (ad.add j) = some u := by
  intro j u hj
  obtain ⟨q, k, x, rfl, hk, hx, hu⟩ := flat_of enc2_len (by omega) hj
  have hl := (List.getElem?_eq_some_iff.1 hx).1
  obtain ⟨b, off, hA, hc⟩ := h.2 (by have := h.1; omega)
  cases hA
  rw [addr_lit]
  match k, hk with
  | 0, _ =>
    simp [enc2] at hu; subst hu
    exact (hc q x hx).1
  | 1, _ =>
    simp [enc2] at hu; subst hu
    exact (hc q x hx).2
theorem prow_of_cells {w : World} {b off n : Nat} {us : List (ByteArray × Int)} (hl : us.length = n) (h : ∀ j u, (flat enc2 us)[j]? = some u → w.cell? ⟨b, off + j, none⟩ = some u) : Prow w (some ⟨b, off, none⟩) n us :=
  ⟨hl, fun _ => ⟨b, off, rfl, fun j x hx => ⟨h (j * 2) _ (by have := flat_get enc2_len hx 0 (by omega); simpa [enc2] using this), by have := h (j * 2 + 1) _ (flat_get enc2_len hx 1 (by omega)); simpa [Nat.add_assoc] using this⟩⟩⟩
theorem prow_of_own {w : World} {base e : Nat} {v : Value} {n : Nat} {us : List (ByteArray × Int)} (h : w.ownsRow base e 2 v n (flat enc2 us)) : ∃ A c, v = .slice A n c ∧ Prow w A n us := by
  have hl : us.length = n := by have := h.1; rw [flat_length enc2_len] at this; omega
  rcases h.2 with ⟨rfl, rfl⟩ | ⟨g, cap, cur, rfl, _, _, _, _, _, _⟩
  · exact ⟨none, 0, rfl, hl, fun h => absurd h (by omega)⟩
  · refine ⟨some ⟨g, 0, none⟩, cap, rfl, prow_of_cells hl fun j u hu => ?_⟩
    have hc := h.cells (g := g) rfl j u hu
    rw [addr_lit] at hc; exact hc
theorem trow_of_own {w : World} {base e : Nat} {v : Value} {n : Nat} {ts : List Task} (h : w.ownsRow base e 8 v n (flat enc8 ts)) : ∃ A c, v = .slice A n c ∧ Trow w A n ts := by
  have hl : ts.length = n := by have := h.1; rw [flat_length enc8_len] at this; omega
  rcases h.2 with ⟨rfl, rfl⟩ | ⟨g, cap, cur, rfl, _, _, _, _, _, _⟩
  · exact ⟨none, 0, rfl, hl, fun h => absurd h (by omega)⟩
  · refine ⟨some ⟨g, 0, none⟩, cap, rfl, hl, fun _ => ⟨g, 0, rfl, fun j t ht => ?_⟩⟩
    have hc : ∀ k u, k < 8 → (enc8 t)[k]? = some u → w.cell? ⟨g, 0 + j * 8 + k, none⟩ = some u := fun k u hk hu => by
      have := h.cells (g := g) rfl (j * 8 + k) u (by rw [flat_get enc8_len ht k hk]; exact hu)
      rw [addr_lit] at this; rw [Nat.add_assoc]; exact this
    exact ⟨hc 0 _ (by omega) rfl, hc 1 _ (by omega) rfl, hc 2 _ (by omega) rfl, hc 3 _ (by omega) rfl, hc 4 _ (by omega) rfl, hc 5 _ (by omega) rfl, hc 6 _ (by omega) rfl, hc 7 _ (by omega) rfl⟩

theorem info3 : (Try.prog.info? 3).map (fun i => (i.zero, i.size, i.bytes)) = some (some (.int .i64 0), 1, 8) := by kernel_rfl
theorem info55 : (Try.prog.info? 55).map (fun i => (i.zero, i.size, i.bytes)) = some (some (.agg #[.string ⟨#[]⟩, .int .i64 0]), 2, 24) := by kernel_rfl
theorem info51 : (Try.prog.info? 51).map (fun i => (i.zero, i.size, i.bytes)) = some (some (.agg #[.string ⟨#[]⟩, .int .i64 0]), 2, 24) := by kernel_rfl
theorem info41 : (Try.prog.info? 41).map (fun i => (i.zero, i.size, i.bytes)) = some (some (.agg #[.int .i64 0, .string ⟨#[]⟩, .bool false, .int .i64 0, .string ⟨#[]⟩, .int .i64 0, .int .i64 0, .slice none 0 0]), 8, 96) := by kernel_rfl
theorem one_ints (zs : List Int) : ∀ u ∈ zs.map (Value.int .i64), u.oneCell' = true := fun u hu => by obtain ⟨z, _, rfl⟩ := List.mem_map.1 hu; rfl
theorem one_fl2 (us : List (ByteArray × Int)) : ∀ u ∈ flat enc2 us, u.oneCell' = true := fun u hu => by
  obtain ⟨x, _, hx⟩ := List.mem_flatMap.1 hu
  simp [enc2] at hx
  rcases hx with rfl | rfl <;> rfl
theorem one_fl8 (us : List Task) : ∀ u ∈ flat enc8 us, u.oneCell' = true := fun u hu => by
  obtain ⟨x, _, hx⟩ := List.mem_flatMap.1 hu
  simp [enc8] at hx
  rcases hx with rfl | rfl | rfl | rfl | rfl | rfl | rfl | rfl <;> rfl

theorem cloneI (A : Option Addr) (n c : Nat) (zs : List Int) (w : World) (h : Nrow w A n zs) (hn : n ≤ 1000) :
    Calls Try.prog 32 #[.slice A n c] w fun e w' => ∃ A' c', e = .returned (.slice A' n c') ∧ Nrow w' A' n zs ∧ Below w.heap.size w w' ∧ (∀ a, A' = some a → w.heap.size ≤ a.block) := by
  have q : ∀ (w : World) (a : Option Addr) (n c n' c' : Nat), (binOp .eql 24 (.slice a n c) (.slice none n' c')).run Try.prog w = .ok (.bool a.isNone) w := fun w a n c n' c' => Lib.run_eql_slice_nil w _ _ a n c n' c' Try.underlying24
  rcases A with _ | ad
  · have hn0 : n = 0 := by
      rcases Nat.eq_zero_or_pos n with h0 | h0
      · exact h0
      · obtain ⟨_, _, h1, _⟩ := h.2 h0
        simp at h1
    subst hn0
    have HH := Lib.hid h
    go_enter Try.func32, Try.ntmps32
    go_wp2
    go_ret
    exact ⟨none, 0, rfl, HH.out, .refl _ _, fun a h => by simp at h⟩
  · obtain ⟨i0, hi, hz0, hz1, hz2⟩ := info_parts info3
    have HH := Lib.hid h
    have hnn := h.1
    clear h
    go_enter Try.func32, Try.ntmps32
    go_wp2_with (at_builtin; refine wpList_append_own_at _ rfl _ _ 24 rfl w.heap.size 3 i0 (.int .i64 0) 1 8 Try.underlying24 hi hz0 hz1 hz2 rfl (by decide) (.slice (some ⟨w.heap.size, 0, none⟩) 0 0) 0 [] rfl (World.ownsRow_made w #[] 0 (Nat.le_refl _) (Nat.zero_le _) rfl) ad n c (zs.map (Value.int .i64)) rfl (by simp [hnn]) (HH.out.later ((Below.refl _ w).alloc (Nat.le_refl _) _)).news (one_ints zs) (by unfold maxLen; omega) (by omega) (by simp) ?_; intro v' w1 hown hgrow hnil hat)
    go_wp2
    obtain ⟨A', c', rfl, hr, hbl⟩ := nrow_of_own (by simpa using hown)
    go_ret
    exact ⟨A', c', rfl, hr, ((Below.refl _ w).alloc (Nat.le_refl _) _).grown hgrow (by simp) (by intro k hk; simp [Value.ownBlock] at hk; omega), fun a h => hbl a h⟩

theorem cloneU (A : Option Addr) (n c : Nat) (us : List (ByteArray × Int)) (w : World) (h : Prow w A n us) (hn : n ≤ 1000) :
    Calls Try.prog 28 #[.slice A n c] w fun e w' => ∃ v', e = .returned v' ∧ w'.ownsRow w.heap.size 55 2 v' n (flat enc2 us) ∧ Below w.heap.size w w' := by
  have q : ∀ (w : World) (a : Option Addr) (n c n' c' : Nat), (binOp .eql 23 (.slice a n c) (.slice none n' c')).run Try.prog w = .ok (.bool a.isNone) w := fun w a n c n' c' => Lib.run_eql_slice_nil w _ _ a n c n' c' Try.underlying23
  rcases A with _ | ad
  · have hn0 : n = 0 := by
      rcases Nat.eq_zero_or_pos n with h0 | h0
      · exact h0
      · obtain ⟨_, _, h1, _⟩ := h.2 h0
        simp at h1
    subst hn0
    have hu : us = [] := List.length_eq_zero_iff.1 h.1
    subst hu
    clear h
    go_enter Try.func28, Try.ntmps28
    go_wp2
    go_ret
    exact ⟨_, rfl, World.ownsRow_nil _ _ _ _, .refl _ _⟩
  · obtain ⟨i0, hi, hz0, hz1, hz2⟩ := info_parts info55
    have HH := Lib.hid h
    have hnn := h.1
    clear h
    go_enter Try.func28, Try.ntmps28
    go_wp2_with (at_builtin; refine wpList_append_own_at _ rfl _ _ 23 rfl w.heap.size 55 i0 (.agg #[.string ⟨#[]⟩, .int .i64 0]) 2 24 Try.underlying23 hi hz0 hz1 hz2 rfl (by decide) (.slice (some ⟨w.heap.size, 0, none⟩) 0 0) 0 [] rfl (World.ownsRow_made w #[] 0 (Nat.le_refl _) (Nat.zero_le _) rfl) ad n c (flat enc2 us) rfl (by rw [flat_length enc2_len, hnn]) (HH.out.later ((Below.refl _ w).alloc (Nat.le_refl _) _)).news (one_fl2 us) (by unfold maxLen; omega) (by omega) (by simp) ?_; intro v' w1 hown hgrow hnil hat)
    go_wp2
    go_ret
    exact ⟨v', rfl, by simpa using hown, ((Below.refl _ w).alloc (Nat.le_refl _) _).grown hgrow (by simp) (by intro k hk; simp [Value.ownBlock] at hk; omega)⟩
end Go.Proofs.Ytknpcphaieoocaa
