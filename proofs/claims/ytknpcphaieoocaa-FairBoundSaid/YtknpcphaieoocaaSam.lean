/- Equal tasks are found equal. -/
import Derived.Test.YtknpcphaieoocaaVal
namespace Go.Proofs.Ytknpcphaieoocaa
open Go.RowKit
set_option linter.unusedSimpArgs false
set_option linter.unusedVariables false

set_option maxHeartbeats 1000000 in
theorem sameInts (A B : Option Addr) (n c d : Nat) (zs : List Int) (w : World) (hA : Nrow w A n zs) (hB : Nrow w B n zs) (hn : n ≤ 1000) :
    Calls Try.prog 34 #[.slice A n c, .slice B n d] w fun e w' => e = .returned (.bool true) ∧ Below w.heap.size w w' := by
  have HA := Lib.hid hA
  have HB := Lib.hid hB
  have HL := Lib.hid hA.1
  clear hA hB
  go_enter Try.func34, Try.ntmps34
  go_wp2
  go_loopw [5] (fun i wv => ∃ k : Nat, k ≤ n ∧ i = .int .i64 k ∧ Below w.heap.size w wv) (fun i _ => n - (intOf i).toNat)
  case atStart => exact ⟨0, by omega, rfl, .refl _ _⟩
  case round =>
    obtain ⟨k, hk, rfl, hb⟩ := hrel
    have HBB := Lib.hid hb
    by_cases hkn : k < n
    · obtain ⟨b1, o1, rfl, h1⟩ := HA.out.2 (by omega)
      obtain ⟨b2, o2, rfl, h2⟩ := HB.out.2 (by omega)
      obtain ⟨x, hx⟩ : ∃ x, zs[k]? = some x := ⟨zs[k]'(by have := HL.out; omega), List.getElem?_eq_getElem _⟩
      have c1 := cell_later hb (h1 k x hx)
      have c2 := cell_later hb (h2 k x hx)
      clear hx h1 h2 hb
      go_wp2
      go_quiet (fail)
      go_wp2
      case roundEnd => exact ⟨⟨k + 1, by omega, by go_num, below_drewN HBB.out _⟩, by simp [intOf]; omega⟩
    · clear hb
      go_wp2
      go_ret
      exact ⟨rfl, HBB.out⟩

set_option maxRecDepth 100000 in
set_option maxHeartbeats 1000000 in
theorem sameT (m : Task) (B : Option Addr) (d : Nat) (zs : List Int) (w : World) (hA : Nrow w m.na m.nn zs) (hB : Nrow w B m.nn zs) (hn : m.nn ≤ 1000) :
    Calls Try.prog 23 #[m.val, Task.val { m with na := B, nc := d }] w fun e w' => e = .returned (.bool true) ∧ Below w.heap.size w w' := by
  obtain ⟨i, r, a, dy, o, c, p, na, nn, nc⟩ := m
  have hb0 : Below w.heap.size w ((w.alloc (.cells #[.int .i64 i, .string r, .bool a, .int .i64 dy, .string o, .int .i64 c, .int .i64 p, .slice na nn nc] 41)).alloc (.cells #[.int .i64 i, .string r, .bool a, .int .i64 dy, .string o, .int .i64 c, .int .i64 p, .slice B nn d] 41)) :=
    ((Below.refl _ _).alloc (Nat.le_refl _) _).alloc (by simp) _
  have HB0 := Lib.hid hb0
  have HA := Lib.hid (hA.later hb0)
  have HB := Lib.hid (hB.later hb0)
  dsimp only at HA HB hn
  unfold Task.val
  clear hA hB hb0
  go_enter Try.func23, Try.ntmps23
  go_wp2_with (go_at_call 34; refine (sameInts na B nn nc d zs _ HA.out HB.out hn).mono ?_; rintro e w5 ⟨rfl, hb5⟩; have HB5 := Lib.hid (bthen HB0.out (Nat.le_refl _) hb5); clear hb5)
  go_ret
  exact ⟨rfl, HB5.out⟩
end Go.Proofs.Ytknpcphaieoocaa
