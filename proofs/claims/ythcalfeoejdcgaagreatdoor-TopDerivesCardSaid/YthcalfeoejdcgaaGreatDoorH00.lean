import Derived.Test.YthcalfeoejdcgaaGreatDoorRows
import Derived.WalkSpells
import Derived.Lib.Hide
namespace Go.Proofs.YthcalfeoejdcgaaGreatDoor
set_option linter.unusedSimpArgs false
set_option linter.unusedVariables false
open Go.RowKit Go.BigFrame
theorem qB {P : Prop} (h : P := by first | (simp; done) | (repeat (first | (refine zaa ?_ rfl; (simp; done)) | (refine zad ?_; (simp; done)) | (refine zac ?_ ?_; (focus first | (simp; done) | (simp; omega))) | (refine zab ?_ ?_; (focus first | (simp; done) | (simp; omega)))))) : P := h
theorem qD {P : Prop} (h : P := by (repeat (first | (refine zaa ?_ rfl; (simp; done)) | (refine zad ?_; (simp; done)) | (refine zac ?_ ?_; (focus first | (simp; done) | (simp; omega))) | (refine zab ?_ ?_; (focus first | (simp; done) | (simp; omega)))))) : P := h
theorem qE {P : Prop} (h : P := by first | (simp; done) | (simp; omega)) : P := h
theorem qF {P : Prop} (h : P := by omega) : P := h
theorem qG {P : Prop} (h : P := by kernel_rfl) : P := h
theorem qH {P : Prop} (h : P := by simp) : P := h
theorem qI {P : Prop} (h : P := by assumption) : P := h
theorem qJ {P : Prop} (h : P := by rfl) : P := h
theorem qK {P : Prop} (h : P := by simp [Op.operands]) : P := h
theorem qL {p : Prop} (h : p) : Go.RowKit.Hid p := Lib.hid h
theorem qM {w wx : World} {a : Addr} {v : Value} (hb : Below w.heap.size w wx) (h : w.cell? a = some v) : wx.cell? a = some v := cell_later hb h
theorem qO {α : Type _} {l : List α} {i : Nat} {x : α} (h : l[i]? = some x) : ∃ h : i < l.length, l[i] = x := List.getElem?_eq_some_iff.1 h
theorem qP {α : Type _} {l : List α} {i : Nat} {x : α} (h : l[i]? = some x) : x ∈ l := List.mem_of_getElem? h
theorem qQ {n m k : Nat} (h : n < m) (g : m ≤ k) : n < k := Nat.lt_of_lt_of_le h g
theorem qR {n m k : Nat} (h : n ≤ m) (g : m ≤ k) : n ≤ k := Nat.le_trans h g
theorem qS {n m : Nat} (h : Nat.ble n m = true) : n ≤ m := Nat.le_of_ble_eq_true h
theorem qU {n m : Nat} (h : Nat.beq n m = true) : n = m := Nat.eq_of_beq_eq_true h
theorem qV (n : Nat) : n ≤ n := Nat.le_refl n
theorem qW {α : Type _} (y : α) {a : α} {l : List α} (h : a ∈ l) : a ∈ y :: l := List.mem_cons_of_mem y h
theorem qX (w : World) (a : Addr) {v : Value} (h : w.cell? a = some v) : a.block < w.heap.size := World.block_lt_of_cell? w a h
theorem qY {α : Type _} {a b : α} {l : List α} (h : a ∈ b :: l) : a = b ∨ a ∈ l := List.mem_cons.1 h
end Go.Proofs.YthcalfeoejdcgaaGreatDoor
