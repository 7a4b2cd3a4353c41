/- The small walks: what is charged to an owner, and an owner's weight. -/
import Derived.Test.YtknpcphaieoocaaRows
import Derived.WalkKit
import Derived.WalkSpells
import Derived.BigQuiet
import Derived.Deep.QuietTactic
import Derived.Lib.Hide
namespace Go.Proofs.Ytknpcphaieoocaa
open Go.RowKit
set_option linter.unusedSimpArgs false
set_option linter.unusedVariables false

/-- what is charged to an owner -/
def usedV : List (ByteArray × Int) → ByteArray → Int
  | [], _ => 0
  | x :: l, o => if (x.1.toList == o.toList) = true then x.2 else usedV l o
/-- a weight, or 1 -/
def wtOf (n : Int) : Int := if 1 ≤ n ∧ n ≤ 64 then n else 1
/-- the weight of an owner -/
def weightV : List (ByteArray × Int) → ByteArray → Int
  | [], _ => 1
  | x :: l, o => if (x.1.toList == o.toList) = true then wtOf x.2 else weightV l o
theorem wtOf_bd (n : Int) : 1 ≤ wtOf n ∧ wtOf n ≤ 64 := by unfold wtOf; split <;> omega
theorem weightV_bd (l : List (ByteArray × Int)) (o : ByteArray) : 1 ≤ weightV l o ∧ weightV l o ≤ 64 := by
  induction l with
  | nil => simp [weightV]
  | cons x l ih => unfold weightV; split; exact wtOf_bd _; exact ih
/-- a slice of n pairs reads as a list of pairs -/
def Prow (w : World) (A : Option Addr) (n : Nat) (us : List (ByteArray × Int)) : Prop :=
  us.length = n ∧ (0 < n → ∃ b off, A = some ⟨b, off, none⟩ ∧ ∀ (j : Nat) (x : ByteArray × Int), us[j]? = some x → w.cell? ⟨b, off + j * 2, none⟩ = some (.string x.1) ∧ w.cell? ⟨b, off + j * 2 + 1, none⟩ = some (.int .i64 x.2))
theorem Prow.later {w w' : World} {A : Option Addr} {n : Nat} {us : List (ByteArray × Int)} (h : Prow w A n us) (hb : Below w.heap.size w w') : Prow w' A n us :=
  ⟨h.1, fun hn => by
    obtain ⟨b, off, hA, hc⟩ := h.2 hn
    exact ⟨b, off, hA, fun j x hx => ⟨cell_later hb (hc j x hx).1, cell_later hb (hc j x hx).2⟩⟩⟩
theorem Prow.nil (w : World) : Prow w none 0 [] := ⟨rfl, fun h => absurd h (by omega)⟩
theorem ret_int {a b : Int} (h : a = b) : Ending.returned (.int .i64 a) = Ending.returned (.int .i64 b) := by rw [h]
theorem ret_bool {a b : Bool} (h : a = b) : Ending.returned (.bool a) = Ending.returned (.bool b) := by rw [h]
theorem used_step {us : List (ByteArray × Int)} {k : Nat} {x : ByteArray × Int} (h : us[k]? = some x) (o : ByteArray) : usedV (us.drop k) o = if (x.1.toList == o.toList) = true then x.2 else usedV (us.drop (k + 1)) o := by
  rw [List.drop_eq_getElem_cons (List.getElem?_eq_some_iff.1 h).1, (List.getElem?_eq_some_iff.1 h).2]; rfl
theorem weight_step {us : List (ByteArray × Int)} {k : Nat} {x : ByteArray × Int} (h : us[k]? = some x) (o : ByteArray) : weightV (us.drop k) o = if (x.1.toList == o.toList) = true then wtOf x.2 else weightV (us.drop (k + 1)) o := by
  rw [List.drop_eq_getElem_cons (List.getElem?_eq_some_iff.1 h).1, (List.getElem?_eq_some_iff.1 h).2]; rfl
theorem used_end {us : List (ByteArray × Int)} {k : Nat} (h : us.length ≤ k) (o : ByteArray) : usedV (us.drop k) o = 0 := by rw [List.drop_eq_nil_of_le h]; rfl
theorem weight_end {us : List (ByteArray × Int)} {k : Nat} (h : us.length ≤ k) (o : ByteArray) : weightV (us.drop k) o = 1 := by rw [List.drop_eq_nil_of_le h]; rfl

set_option maxHeartbeats 1000000 in
theorem usedE (A : Option Addr) (n c : Nat) (us : List (ByteArray × Int)) (o : ByteArray) (w : World) (hr : Prow w A n us) (hn : n ≤ 1000) :
    Calls Try.prog 16 #[.slice A n c, .string o] w fun e w' => e = .returned (.int .i64 (usedV us o)) ∧ Below w.heap.size w w' := by
  obtain ⟨hlen, hrow⟩ := hr
  have HL := Lib.hid hlen
  clear hlen
  go_enter Try.func16, Try.ntmps16
  go_wp2
  go_loopw [9] (fun i wv => ∃ k : Nat, k ≤ n ∧ i = .int .i64 k ∧ Hid (usedV us o = usedV (us.drop k) o) ∧ Below w.heap.size w wv) (fun i _ => n - (intOf i).toNat)
  case atStart => exact ⟨0, by omega, rfl, rfl, .refl _ _⟩
  case round =>
    obtain ⟨k, hk, rfl, HU, hb⟩ := hrel
    by_cases hkn : k < n
    · obtain ⟨b, off, rfl, hcell⟩ := hrow (by omega)
      obtain ⟨x, hx⟩ : ∃ x, us[k]? = some x := ⟨us[k]'(by have := HL.out; omega), List.getElem?_eq_getElem _⟩
      obtain ⟨c1, c2⟩ := hcell k x hx
      have HX := Lib.hid hx
      clear hx hcell hrow
      have d1 := cell_later hb c1
      have d2 := cell_later hb c2
      cases ho : (x.1.toList == o.toList)
      · have HO := Lib.hid ho
        go_wp2
        case roundEnd => exact ⟨⟨k + 1, by omega, rfl, Lib.hid (by rw [HU.out, used_step HX.out, HO.out]; rfl), hb.alloc hb.size _⟩, by simp [intOf]; omega⟩
      · have HO := Lib.hid ho
        go_wp2
        go_ret
        exact ⟨ret_int (by rw [HU.out, used_step HX.out, HO.out]; rfl), (hb.alloc hb.size _)⟩
    · go_wp2
      go_ret
      exact ⟨ret_int (by rw [HU.out, used_end (by have := HL.out; omega)]), (hb)⟩

set_option maxHeartbeats 1000000 in
theorem usedF (A : Option Addr) (n c : Nat) (us : List (ByteArray × Int)) (o : ByteArray) (w : World) (hr : Prow w A n us) (hn : n ≤ 1000) :
    Calls Try.prog 17 #[.slice A n c, .string o] w fun e w' => e = .returned (.int .i64 (usedV us o)) ∧ w = w' := by
  obtain ⟨hlen, hrow⟩ := hr
  have HL := Lib.hid hlen
  clear hlen
  go_enter Try.func17, Try.ntmps17
  go_wp2
  go_loop [5] (fun i => ∃ k : Nat, k ≤ n ∧ i = .int .i64 k ∧ Hid (usedV us o = usedV (us.drop k) o)) (fun i => n - (intOf i).toNat)
  case atStart => exact ⟨0, by omega, rfl, rfl⟩
  case round =>
    obtain ⟨k, hk, rfl, HU⟩ := hrel
    by_cases hkn : k < n
    · obtain ⟨b, off, rfl, hcell⟩ := hrow (by omega)
      obtain ⟨x, hx⟩ : ∃ x, us[k]? = some x := ⟨us[k]'(by have := HL.out; omega), List.getElem?_eq_getElem _⟩
      obtain ⟨c1, c2⟩ := hcell k x hx
      have HX := Lib.hid hx
      clear hx hcell hrow
      cases ho : (x.1.toList == o.toList)
      · have HO := Lib.hid ho
        go_wp2
        case roundEnd => exact ⟨⟨k + 1, by omega, rfl, Lib.hid (by rw [HU.out, used_step HX.out, HO.out]; rfl)⟩, by simp [intOf]; omega⟩
      · have HO := Lib.hid ho
        go_wp2
        go_ret
        exact ⟨ret_int (by rw [HU.out, used_step HX.out, HO.out]; rfl), rfl⟩
    · go_wp2
      go_ret
      exact ⟨ret_int (by rw [HU.out, used_end (by have := HL.out; omega)]), rfl⟩

set_option maxHeartbeats 1000000 in
theorem weightE (A : Option Addr) (n c : Nat) (us : List (ByteArray × Int)) (o : ByteArray) (w : World) (hr : Prow w A n us) (hn : n ≤ 1000) :
    Calls Try.prog 14 #[.slice A n c, .string o] w fun e w' => e = .returned (.int .i64 (weightV us o)) ∧ Below w.heap.size w w' := by
  obtain ⟨hlen, hrow⟩ := hr
  have HL := Lib.hid hlen
  clear hlen
  go_enter Try.func14, Try.ntmps14
  go_wp2
  go_loopw [9] (fun i wv => ∃ k : Nat, k ≤ n ∧ i = .int .i64 k ∧ Hid (weightV us o = weightV (us.drop k) o) ∧ Below w.heap.size w wv) (fun i _ => n - (intOf i).toNat)
  case atStart => exact ⟨0, by omega, rfl, rfl, .refl _ _⟩
  case round =>
    obtain ⟨k, hk, rfl, HU, hb⟩ := hrel
    by_cases hkn : k < n
    · obtain ⟨b, off, rfl, hcell⟩ := hrow (by omega)
      obtain ⟨x, hx⟩ : ∃ x, us[k]? = some x := ⟨us[k]'(by have := HL.out; omega), List.getElem?_eq_getElem _⟩
      obtain ⟨c1, c2⟩ := hcell k x hx
      have HX := Lib.hid hx
      clear hx hcell hrow
      have d1 := cell_later hb c1
      have d2 := cell_later hb c2
      cases ho : (x.1.toList == o.toList)
      · have HO := Lib.hid ho
        go_wp2
        case roundEnd => exact ⟨⟨k + 1, by omega, rfl, Lib.hid (by rw [HU.out, weight_step HX.out, HO.out]; rfl), hb.alloc hb.size _⟩, by simp [intOf]; omega⟩
      · have HO := Lib.hid ho
        by_cases h1 : 1 ≤ x.2
        · by_cases h2 : x.2 ≤ 64
          · have hw : Hid (x.2 = wtOf x.2) := Lib.hid (by unfold wtOf; rw [if_pos ⟨h1, h2⟩])
            go_wp2
            go_ret
            exact ⟨ret_int (by rw [HU.out, weight_step HX.out, HO.out]; exact hw.out), (hb.alloc hb.size _)⟩
          · have hw : Hid (1 = wtOf x.2) := Lib.hid (by unfold wtOf; rw [if_neg (by omega)])
            go_wp2
            go_ret
            exact ⟨ret_int (by rw [HU.out, weight_step HX.out, HO.out]; exact hw.out), (hb.alloc hb.size _)⟩
        · have hw : Hid (1 = wtOf x.2) := Lib.hid (by unfold wtOf; rw [if_neg (by omega)])
          go_wp2
          go_ret
          exact ⟨ret_int (by rw [HU.out, weight_step HX.out, HO.out]; exact hw.out), (hb.alloc hb.size _)⟩
    · go_wp2
      go_ret
      exact ⟨ret_int (by rw [HU.out, weight_end (by have := HL.out; omega)]), (hb)⟩

set_option maxHeartbeats 1000000 in
theorem weightF (A : Option Addr) (n c : Nat) (us : List (ByteArray × Int)) (o : ByteArray) (w : World) (hr : Prow w A n us) (hn : n ≤ 1000) :
    Calls Try.prog 15 #[.slice A n c, .string o] w fun e w' => e = .returned (.int .i64 (weightV us o)) ∧ w = w' := by
  obtain ⟨hlen, hrow⟩ := hr
  have HL := Lib.hid hlen
  clear hlen
  go_enter Try.func15, Try.ntmps15
  go_wp2
  go_loop [5] (fun i => ∃ k : Nat, k ≤ n ∧ i = .int .i64 k ∧ Hid (weightV us o = weightV (us.drop k) o)) (fun i => n - (intOf i).toNat)
  case atStart => exact ⟨0, by omega, rfl, rfl⟩
  case round =>
    obtain ⟨k, hk, rfl, HU⟩ := hrel
    by_cases hkn : k < n
    · obtain ⟨b, off, rfl, hcell⟩ := hrow (by omega)
      obtain ⟨x, hx⟩ : ∃ x, us[k]? = some x := ⟨us[k]'(by have := HL.out; omega), List.getElem?_eq_getElem _⟩
      obtain ⟨c1, c2⟩ := hcell k x hx
      have HX := Lib.hid hx
      clear hx hcell hrow
      cases ho : (x.1.toList == o.toList)
      · have HO := Lib.hid ho
        go_wp2
        case roundEnd => exact ⟨⟨k + 1, by omega, rfl, Lib.hid (by rw [HU.out, weight_step HX.out, HO.out]; rfl)⟩, by simp [intOf]; omega⟩
      · have HO := Lib.hid ho
        by_cases h1 : 1 ≤ x.2
        · by_cases h2 : x.2 ≤ 64
          · have hw : Hid (x.2 = wtOf x.2) := Lib.hid (by unfold wtOf; rw [if_pos ⟨h1, h2⟩])
            go_wp2
            go_ret
            exact ⟨ret_int (by rw [HU.out, weight_step HX.out, HO.out]; exact hw.out), rfl⟩
          · have hw : Hid (1 = wtOf x.2) := Lib.hid (by unfold wtOf; rw [if_neg (by omega)])
            go_wp2
            go_ret
            exact ⟨ret_int (by rw [HU.out, weight_step HX.out, HO.out]; exact hw.out), rfl⟩
        · have hw : Hid (1 = wtOf x.2) := Lib.hid (by unfold wtOf; rw [if_neg (by omega)])
          go_wp2
          go_ret
          exact ⟨ret_int (by rw [HU.out, weight_step HX.out, HO.out]; exact hw.out), rfl⟩
    · go_wp2
      go_ret
      exact ⟨ret_int (by rw [HU.out, weight_end (by have := HL.out; omega)]), rfl⟩
end Go.Proofs.Ytknpcphaieoocaa
