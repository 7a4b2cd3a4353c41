/- Contracts of put and of the program's Format. */ -/
import Derived.Test.YtiombgjkcfhibaaDoorForm
import Derived.Laws.Rows
namespace Go.Proofs.YtiombgjkcfhibaaDoor
open Go.RowKit
set_option linter.unusedSimpArgs false
set_option linter.unusedVariables false

/-- a byte as a value -/
def bv (c : UInt8) : Value := .int .u8 (c.toNat : Int)
/-- block g is a row of bytes, with the mark behind its last cell -/
def BlkB (w : World) (g : Nat) (l : List UInt8) : Prop := w.heap[g]? = some (.cells (l.map bv).toArray 5 (l.length, l.length + 1))
theorem BlkB.cell {w : World} {g : Nat} {l : List UInt8} (h : BlkB w g l) (j : Nat) (c : UInt8) (hj : l[j]? = some c) : w.cell? ⟨g, j, none⟩ = some (.int .u8 (c.toNat : Int)) := by
  rw [cell_of_row w g j _ _ _ h]; simp [hj, bv]
theorem BlkB.free {w : World} {g : Nat} {l : List UInt8} (h : BlkB w g l) (j : Nat) (hj : j < l.length) : w.frozen? ⟨g, j, none⟩ = false := by
  unfold BlkB at h
  simp [World.frozen?, h]; omega
theorem BlkB.lt {w : World} {g : Nat} {l : List UInt8} (h : BlkB w g l) : g < w.heap.size := by
  rcases Nat.lt_or_ge g w.heap.size with h1 | h1
  · exact h1
  · unfold BlkB at h; rw [Array.getElem?_eq_none h1] at h; cases h
theorem BlkB.set {w : World} {g : Nat} {l : List UInt8} (h : BlkB w g l) (j : Nat) (c : UInt8) : BlkB (w.setCell ⟨g, j, none⟩ (.int .u8 (c.toNat : Int))) g (l.set j c) := by
  unfold BlkB at h ⊢
  simp only [World.setCell, Array.getElem?_modify]
  rw [if_pos trivial, h]
  simp [List.map_set, bv]
theorem set_mid (a t b : List UInt8) (x c : UInt8) : ((a ++ [x]) ++ t ++ b).set a.length c = a ++ (c :: t) ++ b := by
  rw [List.append_assoc, List.append_assoc, List.set_append_right _ _ (Nat.le_refl _)]
  simp

set_option maxHeartbeats 1000000 in
theorem putE (g off n cap : Nat) (v : Int) (l : List UInt8) (w : World) (hB : BlkB w g l) (hl : off + n ≤ l.length) (hl2 : l.length ≤ 100) (hn : n ≤ 4) (hc : n ≤ cap) (hcap : cap ≤ 100) (v0 : 0 ≤ v) (v1 : v < 10 ^ n) :
    Calls Tryd.prog 31 #[.slice (some ⟨g, off, none⟩) n cap, .int .i64 v] w fun e w' => e = .returned (.tuple #[]) ∧ BlkB w' g (l.take off ++ dig n v ++ l.drop (off + n)) ∧ Below g w w' := by
  have HV := Lib.hid v1
  have HBk := Lib.hid hB
  clear v1 hB
  go_enter Tryd.func31, Tryd.ntmps31
  go_wp2
  go_loopw [1, 4] (fun a b wr => ∃ (j : Nat) (m : Int) (t : List UInt8), j ≤ n ∧ 0 ≤ m ∧ m < 10 ^ j ∧ a = .int .i64 m ∧ b = .int .i64 ((j : Int) - 1) ∧ dig j m ++ t = dig n v ∧ BlkB wr g (l.take (off + j) ++ t ++ l.drop (off + n)) ∧ Below g w wr) (fun _ b _ => (intOf b + 1).toNat)
  case atStart => exact ⟨n, v, [], by omega, v0, HV.out, rfl, rfl, by simp, by simpa using HBk.out, Below.refl _ _⟩
  case round =>
    obtain ⟨j, m, t, j4, m0, m1, rfl, rfl, hd, hb, hbel⟩ := hrel
    have hmb : m ≤ 9999 := by
      have : (10 : Int) ^ j ≤ 10000 := (show ∀ k, k ≤ 4 → (10 : Int) ^ k ≤ 10000 by decide) _ (by omega)
      omega
    have HD := Lib.hid hd
    have HB := Lib.hid hb
    have HE := Lib.hid hbel
    have HM := Lib.hid m1
    clear hd hb hbel m1
    by_cases hj : j = 0
    · subst hj
      have ht : Hid (t = dig n v) := HD.out
      go_wp2
      go_end0
      exact ⟨rfl, by have := HB.out; rw [ht.out] at this; simpa using this, HE.out⟩
    · obtain ⟨i, rfl⟩ : ∃ i, j = i + 1 := ⟨j - 1, by omega⟩
      rw [show (((i + 1 : Nat) : Int) - 1) = (i : Int) by omega]
      have hlt : off + i < l.length := by omega
      have htk : l.take (off + (i + 1)) = l.take (off + i) ++ [l[off + i]] := by
        rw [show off + (i + 1) = off + i + 1 by omega, List.take_succ_eq_append_getElem hlt]
      have hla : (l.take (off + i)).length = off + i := by rw [List.length_take]; omega
      have hll : (l.take (off + (i + 1)) ++ t ++ l.drop (off + n)).length = (l.take (off + (i + 1)) ++ t ++ l.drop (off + n)).length := rfl
      have hcell : wr.cell? ⟨g, off + i, none⟩ = some (.int .u8 ((l[off + i]).toNat : Int)) := HB.out.cell _ _ (by
        rw [htk, List.append_assoc, List.append_assoc, List.getElem?_append_right (by rw [hla]; exact Nat.le_refl _), hla]; simp)
      have hfree : wr.frozen? ⟨g, off + i, none⟩ = false := HB.out.free _ (by rw [htk]; simp [hla]; omega)
      have hset := HB.out.set (off + i) (dg1 m)
      rw [htk] at hset
      have hset2 : Hid (BlkB (wr.setCell ⟨g, off + i, none⟩ (.int .u8 (48 + m % 10))) g (l.take (off + i) ++ (dg1 m :: t) ++ l.drop (off + n))) := Lib.hid (by
        have e := set_mid (l.take (off + i)) t (l.drop (off + n)) (l[off + i]) (dg1 m)
        rw [hla] at e
        rw [e, dg1_toNat] at hset
        exact hset)
      have hgl := HB.out.lt
      clear hset htk hla hll
      generalize ((l[off + i]).toNat : Int) = old at hcell
      have hin : (i : Int) < (n : Int) := by omega
      go_wp2
      go_roundw
      case rel => exact ⟨i, m / 10, dg1 m :: t, by omega, by omega, by have := HM.out; rw [Int.pow_succ] at this; omega, rfl, rfl, by rw [← HD.out]; show dig i (m / 10) ++ dg1 m :: t = (dig i (m / 10) ++ [dg1 m]) ++ t; simp, hset2.out, HE.out.setCell (Nat.le_refl _) _⟩
      case measure => simp [intOf]

/-- the row that the program's Format begins with -/
def formL : List UInt8 := [48, 48, 48, 48, 45, 48, 48, 45, 48, 48, 84, 48, 48, 58, 48, 48]
theorem back_str (w : World) (g : Nat) (l : List UInt8) (h : BlkB w g l) (cap : Nat) (n : Nat) (hn : n = l.length) : (convert 44 9 (.slice (some ⟨g, 0, none⟩) n cap)).run Tryd.prog w = .ok (.string (mkS l)) w := by
  subst hn
  refine run_convert_bytes_back w 44 9 5 ⟨g, 0, none⟩ cap l Tryd.underlying44 Tryd.underlying5 Tryd.underlying9 (fun j hj => ?_)
  have e : (⟨g, 0, none⟩ : Addr).add j = ⟨g, 0 + j, none⟩ := by unfold Addr.add; split <;> simp_all
  rw [e, Nat.zero_add]
  exact h.cell j _ (List.getElem?_eq_getElem hj)
theorem put4 (g off cap : Nat) (v : Int) (l : List UInt8) (w : World) (hB : BlkB w g l) (hl : off + 4 ≤ l.length) (hl2 : l.length ≤ 100) (hc : 4 ≤ cap) (hcap : cap ≤ 100) (v0 : 0 ≤ v) (v1 : v ≤ 9999) :
    Calls Tryd.prog 31 #[.slice (some ⟨g, off, none⟩) 4 cap, .int .i64 v] w fun e w' => e = .returned (.tuple #[]) ∧ BlkB w' g (l.take off ++ dig 4 v ++ l.drop (off + 4)) ∧ Below g w w' :=
  putE g off 4 cap v l w hB hl hl2 (by omega) hc hcap v0 (by have : (10 : Int) ^ 4 = 10000 := by decide
                                                             omega)
theorem put2 (g off cap : Nat) (v : Int) (l : List UInt8) (w : World) (hB : BlkB w g l) (hl : off + 2 ≤ l.length) (hl2 : l.length ≤ 100) (hc : 2 ≤ cap) (hcap : cap ≤ 100) (v0 : 0 ≤ v) (v1 : v ≤ 99) :
    Calls Tryd.prog 31 #[.slice (some ⟨g, off, none⟩) 2 cap, .int .i64 v] w fun e w' => e = .returned (.tuple #[]) ∧ BlkB w' g (l.take off ++ dig 2 v ++ l.drop (off + 2)) ∧ Below g w w' :=
  putE g off 2 cap v l w hB hl hl2 (by omega) hc hcap v0 (by have : (10 : Int) ^ 2 = 100 := by decide
                                                             omega)

set_option maxHeartbeats 1000000 in
theorem formatE (m : Int) (w : World) (hT : Tab w) (h0 : 0 ≤ m) (h1 : m ≤ 575999999) : Calls Tryd.prog 23 #[.int .i64 m] w (FmtR m w) := by
  have b1 : decide (m < 0) = false := by simp; omega
  have b2 : decide (575999999 < m) = false := by simp; omega
  have kc := fun (w : World) (C : Array Value) (n c : Nat) => Lib.run_convert_bytes_const (P := Tryd.prog) w 44 5 C n c Tryd.underlying44 Tryd.underlying5
  go_enter Tryd.func23, Tryd.ntmps23
  go_wp2_with fail
  refine (dateE _ _ hT (by omega) (by omega)).mono ?_
  rintro e w1 ⟨y, mo, d, hD, rfl, rfl⟩
  obtain ⟨y1, y2, m1, m2, d1, d2⟩ := date_bd hD (by omega)
  have HD := Lib.hid hD
  clear hD
  go_wp2_with fail
  refine (put4 w.heap.size 0 16 y formL _ (heap_alloc_new _ _) (by decide) (by decide) (by omega) (by omega) (by omega) (by omega)).mono ?_
  rintro e u1 ⟨rfl, hp1, hb1⟩
  have P1 := Lib.hid hp1
  have Q1 := Lib.hid hb1
  clear hp1 hb1
  go_wp2_with fail
  refine (put2 w.heap.size 5 11 mo _ _ P1.out (by show 5 + 2 ≤ 16; omega) (by show 16 ≤ 100; omega) (by omega) (by omega) (by omega) (by omega)).mono ?_
  rintro e u2 ⟨rfl, hp2, hb2⟩
  have P2 := Lib.hid hp2
  have Q2 := Lib.hid hb2
  clear hp2 hb2
  go_wp2_with fail
  refine (put2 w.heap.size 8 8 d _ _ P2.out (by show 8 + 2 ≤ 16; omega) (by show 16 ≤ 100; omega) (by omega) (by omega) (by omega) (by omega)).mono ?_
  rintro e u3 ⟨rfl, hp3, hb3⟩
  have P3 := Lib.hid hp3
  have Q3 := Lib.hid hb3
  clear hp3 hb3
  have hh : m / 60 % 24 = m % 1440 / 60 := by omega
  go_wp2_with fail
  refine (put2 w.heap.size 11 5 _ _ _ P3.out (by show 11 + 2 ≤ 16; omega) (by show 16 ≤ 100; omega) (by omega) (by omega) (by omega) (by omega)).mono ?_
  rintro e u4 ⟨rfl, hp4, hb4⟩
  have P4 := Lib.hid hp4
  have Q4 := Lib.hid hb4
  clear hp4 hb4
  go_wp2_with fail
  refine (put2 w.heap.size 14 2 _ _ _ P4.out (by show 14 + 2 ≤ 16; omega) (by show 16 ≤ 100; omega) (by omega) (by omega) (by omega) (by omega)).mono ?_
  rintro e u5 ⟨rfl, hp5, hb5⟩
  have hbk := back_str u5 w.heap.size _ hp5 16 16 rfl
  have Q5 := Lib.hid hb5
  clear hp5 hb5
  generalize hL : (List.take 14 _ ++ dig 2 (m % 60) ++ List.drop (14 + 2) _ : List UInt8) = L at hbk
  have HL := Lib.hid hL
  clear hL
  go_wp2_with fail
  go_ret2
  exact ⟨y, mo, d, HD.out, ret_si (congrArg mkS (HL.out.symm.trans rfl)), ((Below.refl _ _).alloc (Nat.le_refl _) _).trans (Q1.out.trans (Q2.out.trans (Q3.out.trans (Q4.out.trans Q5.out))))⟩
end Go.Proofs.YtiombgjkcfhibaaDoor
