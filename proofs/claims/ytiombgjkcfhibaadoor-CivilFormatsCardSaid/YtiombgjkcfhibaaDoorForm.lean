/- Contracts of the functions that write texts of times. */ -/
import Derived.Test.YtiombgjkcfhibaaDoorFmt
import Derived.Test.YtiombgjkcfhibaaDoorParse2
import Derived.Lib.SlBytesConst
import Derived.Laws.BytesArg
namespace Go.Proofs.YtiombgjkcfhibaaDoor
open Go.RowKit
set_option linter.unusedSimpArgs false
set_option linter.unusedVariables false

theorem ret_str {a b : ByteArray} (h : a = b) : Ending.returned (.string a) = .returned (.string b) := by rw [h]
theorem bs_one (u : UInt8) (s : ByteArray) : bs (⟨#[u]⟩ ++ s) = u :: bs s := by rw [bs_append]; rfl

/-- a string out of one byte in a new block -/
theorem conv_one (c : Int) (W : World) : (convert 44 9 (.slice (some ⟨W.heap.size, 0, none⟩) 1 1)).run Tryd.prog (W.alloc (.cells #[.int .u8 c] 5)) = .ok (.string ⟨#[UInt8.ofNat c.toNat]⟩) (W.alloc (.cells #[.int .u8 c] 5)) := by
  have h := run_convert_bytes_arg (P := Tryd.prog) (W.alloc (.cells #[.int .u8 c] 5)) 44 5 Tryd.underlying44 Tryd.underlying5 W.heap.size 0 1 1 [c] rfl (fun i hi => by
    have : i = 0 := by omega
    subst this
    simp [go_sem]) 9 Tryd.underlying9
  exact h

set_option maxHeartbeats 1000000 in
theorem paddedF (k : Nat) (n : Int) (w : World) (hk : k ≤ 4) (h0 : 0 ≤ n) (hn : n < 10 ^ k) : Calls Tryd.prog 30 #[.int .i64 n, .int .i64 (k : Int)] w fun e w' => e = .returned (.string (mkS (dig k n))) ∧ Below w.heap.size w w' := by
  have hc := conv_one
  have HN := Lib.hid hn
  clear hn
  go_enter Tryd.func30, Tryd.ntmps30
  go_wp2
  go_loopw [0, 1, 5] (fun a b s wr => ∃ (j : Nat) (m : Int) (S : ByteArray), j ≤ 4 ∧ 0 ≤ m ∧ m < 10 ^ j ∧ a = .int .i64 m ∧ b = .int .i64 (j : Int) ∧ s = .string S ∧ dig j m ++ bs S = dig k n ∧ S.size + j = k ∧ Below w.heap.size w wr) (fun _ b _ _ => (intOf b).toNat)
  case atStart => exact ⟨k, n, ⟨#[]⟩, hk, h0, HN.out, rfl, rfl, rfl, by simp [bs], by show 0 + k = k; omega, Below.refl _ _⟩
  case round =>
    obtain ⟨j, m, S, j4, m0, m1, rfl, rfl, rfl, hd, hs, hb⟩ := hrel
    have hmb : m ≤ 9999 := by
      have : (10 : Int) ^ j ≤ 10000 := (show ∀ k, k ≤ 4 → (10 : Int) ^ k ≤ 10000 by decide) _ j4
      omega
    have HD := Lib.hid hd
    have HB := Lib.hid hb
    have hsz := hb.size
    have HM := Lib.hid m1
    have hS : S.size ≤ 4 := by omega
    have HS := Lib.hid hs
    clear hd hb m1 hs
    by_cases hj : j = 0
    · have hz : m = 0 := by have := HM.out; rw [hj] at this; simp at this; omega
      have b1 : decide ((0 : Int) < (j : Int)) = false := by simp; omega
      have b2 : decide ((0 : Int) < m) = false := by simp; omega
      have HJ := Lib.hid hj
      have HZ := Lib.hid hz
      clear hj hz
      go_wp2
      go_ret
      exact ⟨ret_str (eq_mkS (by have := HD.out; rw [HJ.out] at this; exact this)), HB.out⟩
    · obtain ⟨i, rfl⟩ : ∃ i, j = i + 1 := ⟨j - 1, by omega⟩
      have b1 : decide ((0 : Int) < ((i + 1 : Nat) : Int)) = true := by simp <;> omega
      have hi : (i : Int) ≤ 3 := by omega
      go_wp2
      go_roundw
      case rel => exact ⟨i, m / 10, _, by omega, by omega, by have := HM.out; rw [Int.pow_succ] at this; omega, rfl, rfl, rfl, by rw [bs_one, ← HD.out]; show dig i (m / 10) ++ (dg1 m :: bs S) = (dig i (m / 10) ++ [dg1 m]) ++ bs S; simp, by have := HS.out; simp only [ByteArray.size_append]; show 1 + S.size + i = k; omega, HB.out.alloc hsz _⟩
      case measure => simp [intOf]
theorem padded4 (n : Int) (w : World) (h0 : 0 ≤ n) (hn : n ≤ 9999) : Calls Tryd.prog 30 #[.int .i64 n, .int .i64 4] w fun e w' => e = .returned (.string (mkS (dig 4 n))) ∧ Below w.heap.size w w' :=
  paddedF 4 n w (by omega) h0 (by have : (10 : Int) ^ 4 = 10000 := by decide
                                  omega)
theorem padded2 (n : Int) (w : World) (h0 : 0 ≤ n) (hn : n ≤ 99) : Calls Tryd.prog 30 #[.int .i64 n, .int .i64 2] w fun e w' => e = .returned (.string (mkS (dig 2 n))) ∧ Below w.heap.size w w' :=
  paddedF 2 n w (by omega) h0 (by have : (10 : Int) ^ 2 = 100 := by decide
                                  omega)

theorem ret_si {s t : ByteArray} {k : IntKind} {a : Int} (h : s = t) : Ending.returned (.tuple #[.string s, .int k a]) = .returned (.tuple #[.string t, .int k a]) := by rw [h]
theorem bthen {B : Nat} {a b c : World} (h : Below B a b) (hB : B ≤ a.heap.size) (k : Below b.heap.size b c) : Below B a c := h.trans (k.mono (Nat.le_trans hB h.size))
/-- the result of Format inside its range -/
def FmtR (m : Int) (w : World) (e : Ending) (w' : World) : Prop := ∃ y mo d : Int, IsDate (m / 1440) y mo d ∧ e = .returned (.tuple #[.string (mkS (fmtl y mo d (m % 1440 / 60) (m % 60))), .int .i64 0]) ∧ Below w.heap.size w w'
theorem date_bd {k y m d : Int} (h : IsDate k y m d) (hk : k ≤ 400000) : 1970 ≤ y ∧ y ≤ 3065 ∧ 1 ≤ m ∧ m ≤ 12 ∧ 1 ≤ d ∧ d ≤ 31 := by
  obtain ⟨h1, h2⟩ := h
  have a := num_lo h1
  have b := dby_lt (y := y) (n := k) (by omega) hk
  obtain ⟨c1, c2, c3, c4, c5⟩ := h1
  have := dim_bd y m
  omega
theorem formatNoF (m : Int) (w : World) (h : m < 0 ∨ 575999999 < m) : Calls Tryd.prog 17 #[.int .i64 m] w fun e w' => e = .returned (.tuple #[.string ⟨#[]⟩, .int .i64 1]) ∧ w = w' := by
  rcases h with h | h
  · go_enter Tryd.func17, Tryd.ntmps17
    go_wp2
    go_ret2
    exact ⟨rfl, rfl⟩
  · have b : decide (m < 0) = false := by simp; omega
    go_enter Tryd.func17, Tryd.ntmps17
    go_wp2
    go_ret2
    exact ⟨rfl, rfl⟩
theorem formatNoE (m : Int) (w : World) (h : m < 0 ∨ 575999999 < m) : Calls Tryd.prog 23 #[.int .i64 m] w fun e w' => e = .returned (.tuple #[.string ⟨#[]⟩, .int .i64 1]) ∧ w = w' := by
  rcases h with h | h
  · go_enter Tryd.func23, Tryd.ntmps23
    go_wp2
    go_ret2
    exact ⟨rfl, rfl⟩
  · have b : decide (m < 0) = false := by simp; omega
    go_enter Tryd.func23, Tryd.ntmps23
    go_wp2
    go_ret2
    exact ⟨rfl, rfl⟩
theorem bs_chain (a b c d e : List UInt8) : bs (mkS a ++ ⟨#[45]⟩ ++ mkS b ++ ⟨#[45]⟩ ++ mkS c ++ ⟨#[84]⟩ ++ mkS d ++ ⟨#[58]⟩ ++ mkS e) = a ++ ([45] ++ (b ++ ([45] ++ (c ++ ([84] ++ (d ++ ([58] ++ e))))))) := by
  simp only [bs_append, bs_mkS]
  show a ++ [45] ++ b ++ [45] ++ c ++ [84] ++ d ++ [58] ++ e = _
  simp
set_option maxHeartbeats 1000000 in
theorem formatF (m : Int) (w : World) (h0 : 0 ≤ m) (h1 : m ≤ 575999999) : Calls Tryd.prog 17 #[.int .i64 m] w (FmtR m w) := by
  have b1 : decide (m < 0) = false := by simp; omega
  have b2 : decide (575999999 < m) = false := by simp; omega
  have s4 : ∀ x, (mkS (dig 4 x)).size = 4 := fun x => by rw [mkS_size, dig_length]
  have s2 : ∀ x, (mkS (dig 2 x)).size = 2 := fun x => by rw [mkS_size, dig_length]
  go_enter Tryd.func17, Tryd.ntmps17
  go_wp2_with fail
  refine (dateF _ _ (by omega) (by omega)).mono ?_
  rintro e w1 ⟨y, mo, d, hD, rfl, rfl⟩
  obtain ⟨y1, y2, m1, m2, d1, d2⟩ := date_bd hD (by omega)
  have HD := Lib.hid hD
  clear hD
  go_wp2_with fail
  refine (padded4 _ _ (by omega) (by omega)).mono ?_
  rintro e u1 ⟨rfl, hb1⟩
  have B1 := Lib.hid hb1
  clear hb1
  go_wp2_with fail
  refine (padded2 _ _ (by omega) (by omega)).mono ?_
  rintro e u2 ⟨rfl, hb2⟩
  have B2 := Lib.hid hb2
  clear hb2
  go_wp2_with fail
  refine (padded2 _ _ (by omega) (by omega)).mono ?_
  rintro e u3 ⟨rfl, hb3⟩
  have B3 := Lib.hid hb3
  clear hb3
  go_wp2_with fail
  refine (padded2 _ _ (by omega) (by omega)).mono ?_
  rintro e u4 ⟨rfl, hb4⟩
  have B4 := Lib.hid hb4
  clear hb4
  go_wp2_with fail
  refine (padded2 _ _ (by omega) (by omega)).mono ?_
  rintro e u5 ⟨rfl, hb5⟩
  have B5 := Lib.hid hb5
  clear hb5
  go_wp2_with fail
  go_ret2
  exact ⟨y, mo, d, HD.out, ret_si (eq_mkS (bs_chain _ _ _ _ _)), bthen (bthen (bthen (bthen B1.out (Nat.le_refl _) B2.out) (Nat.le_refl _) B3.out) (Nat.le_refl _) B4.out) (Nat.le_refl _) B5.out⟩
end Go.Proofs.YtiombgjkcfhibaaDoor
