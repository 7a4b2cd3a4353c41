/- Texts of times that are written: digits, the text of a time, reading it again, the order of the texts. No program here. -/
import Derived.Test.YtiombgjkcfhibaaDoorText
import Derived.Test.YtiombgjkcfhibaaDoorDate
namespace Go.Proofs.YtiombgjkcfhibaaDoor
open Go.RowKit
set_option linter.unusedSimpArgs false
set_option linter.unusedVariables false

/-- the string of some bytes -/
def mkS (l : List UInt8) : ByteArray := ⟨l.toArray⟩
theorem bs_mkS (l : List UInt8) : bs (mkS l) = l := rfl
theorem mkS_bs (s : ByteArray) : mkS (bs s) = s := rfl
theorem mkS_size (l : List UInt8) : (mkS l).size = l.length := rfl
theorem bs_append (a b : ByteArray) : bs (a ++ b) = bs a ++ bs b := by unfold bs; simp [ByteArray.data_append]
theorem eq_mkS {s : ByteArray} {l : List UInt8} (h : bs s = l) : s = mkS l := by rw [← h]; rfl

/-- one digit -/
def dg1 (n : Int) : UInt8 := UInt8.ofNat (48 + n % 10).toNat
theorem dg1_toNat (n : Int) : ((dg1 n).toNat : Int) = 48 + n % 10 := by
  unfold dg1
  have h : (48 + n % 10).toNat < 256 := by omega
  have : (UInt8.ofNat (48 + n % 10).toNat).toNat = (48 + n % 10).toNat := by
    rw [UInt8.toNat_ofNat']; exact Nat.mod_eq_of_lt h
  rw [this]; omega
theorem dg1_dgB (n : Int) : dgB (dg1 n) = true := dgB_iff.2 (by have := dg1_toNat n; omega)
/-- k digits of a number -/
def dig : Nat → Int → List UInt8
  | 0, _ => []
  | k + 1, n => dig k (n / 10) ++ [dg1 n]
theorem dig_length : ∀ (k : Nat) (n : Int), (dig k n).length = k
  | 0, _ => rfl
  | k + 1, n => by unfold dig; rw [List.length_append, dig_length k]; rfl
theorem dig_all : ∀ (k : Nat) (n : Int), (dig k n).all dgB = true
  | 0, _ => rfl
  | k + 1, n => by unfold dig; rw [List.all_append, dig_all k]; simp [dg1_dgB]
theorem nmb_dig2 {n : Int} (h0 : 0 ≤ n) (h : n ≤ 99) : nmb (dig 2 n) = n := by
  show nmb (([] ++ [dg1 (n / 10)]) ++ [dg1 n]) = n
  rw [nmb_snoc, nmb_snoc, dg1_toNat, dg1_toNat]
  simp [nmb]; omega
theorem nmb_dig4 {n : Int} (h0 : 0 ≤ n) (h : n ≤ 9999) : nmb (dig 4 n) = n := by
  show nmb (((([] ++ [dg1 (n / 10 / 10 / 10)]) ++ [dg1 (n / 10 / 10)]) ++ [dg1 (n / 10)]) ++ [dg1 n]) = n
  rw [nmb_snoc, nmb_snoc, nmb_snoc, nmb_snoc, dg1_toNat, dg1_toNat, dg1_toNat, dg1_toNat]
  simp [nmb]; omega

/-- the text of a time -/
def fmtl (y mo d h mi : Int) : List UInt8 := dig 4 y ++ ([45] ++ (dig 2 mo ++ ([45] ++ (dig 2 d ++ ([84] ++ (dig 2 h ++ ([58] ++ dig 2 mi)))))))
theorem fmtl_length (y mo d h mi : Int) : (fmtl y mo d h mi).length = 16 := by
  unfold fmtl; simp only [List.length_append, dig_length, List.length_cons, List.length_nil]
theorem fmtl_groups (y mo d h mi : Int) : grp (fmtl y mo d h mi) 0 4 = dig 4 y ∧ grp (fmtl y mo d h mi) 5 7 = dig 2 mo ∧ grp (fmtl y mo d h mi) 8 10 = dig 2 d ∧ grp (fmtl y mo d h mi) 11 13 = dig 2 h ∧ grp (fmtl y mo d h mi) 14 16 = dig 2 mi := ⟨rfl, rfl, rfl, rfl, rfl⟩
theorem fmtl_form (y mo d h mi : Int) : formB (fmtl y mo d h mi) = true := by
  rw [form_split _ (fmtl_length _ _ _ _ _)]
  obtain ⟨g1, g2, g3, g4, g5⟩ := fmtl_groups y mo d h mi
  have hs : sepB (fmtl y mo d h mi) = true := by
    have e1 : byt (fmtl y mo d h mi) 4 = 45 := rfl
    have e2 : byt (fmtl y mo d h mi) 7 = 45 := rfl
    have e3 : byt (fmtl y mo d h mi) 10 = 84 := rfl
    have e4 : byt (fmtl y mo d h mi) 13 = 58 := rfl
    unfold sepB; rw [e1, e2, e3, e4]; rfl
  unfold allDg
  rw [hs, g1, g2, g3, g4, g5, dig_all, dig_all, dig_all, dig_all, dig_all]
  rfl

/-- the text of a number of minutes whose date is y, mo, d -/
theorem fmt_reads {m y mo d : Int} (h0 : 0 ≤ m) (h1 : m ≤ 575999999) (hD : IsDate (m / 1440) y mo d) (b : 1970 ≤ y ∧ y ≤ 3065 ∧ 1 ≤ mo ∧ mo ≤ 12 ∧ 1 ≤ d ∧ d ≤ 31) :
    pV (fmtl y mo d (m % 1440 / 60) (m % 60)) = m ∧ pE (fmtl y mo d (m % 1440 / 60) (m % 60)) = 0 := by
  obtain ⟨g1, g2, g3, g4, g5⟩ := fmtl_groups y mo d (m % 1440 / 60) (m % 60)
  have e1 : tY (fmtl y mo d (m % 1440 / 60) (m % 60)) = y := by unfold tY; rw [g1]; exact nmb_dig4 (by omega) (by omega)
  have e2 : tMo (fmtl y mo d (m % 1440 / 60) (m % 60)) = mo := by unfold tMo; rw [g2]; exact nmb_dig2 (by omega) (by omega)
  have e3 : tD (fmtl y mo d (m % 1440 / 60) (m % 60)) = d := by unfold tD; rw [g3]; exact nmb_dig2 (by omega) (by omega)
  have e4 : tH (fmtl y mo d (m % 1440 / 60) (m % 60)) = m % 1440 / 60 := by unfold tH; rw [g4]; exact nmb_dig2 (by omega) (by omega)
  have e5 : tMi (fmtl y mo d (m % 1440 / 60) (m % 60)) = m % 60 := by unfold tMi; rw [g5]; exact nmb_dig2 (by omega) (by omega)
  have hok : okDate y mo d = true := okDate_iff.2 ⟨hD.1, by rw [hD.2]; omega⟩
  have hdv : dayV y mo d = m / 1440 := by unfold dayV; rw [if_pos hok, hD.2]
  have em : tMin (fmtl y mo d (m % 1440 / 60) (m % 60)) = m := by unfold tMin; rw [e1, e2, e3, e4, e5, hdv]; omega
  have eo : tOk (fmtl y mo d (m % 1440 / 60) (m % 60)) = true := by
    unfold tOk; rw [em, e1, e2, e3, e4, e5, hok]; simp; omega
  have hf := fmtl_form y mo d (m % 1440 / 60) (m % 60)
  have hl := fmtl_length y mo d (m % 1440 / 60) (m % 60)
  unfold pV pE
  rw [em, eo, hf]
  simp [hl]

/-! the order -/
theorem less_append : ∀ (a b x y : List UInt8), a.length = b.length → Op.bytesLess (a ++ x) (b ++ y) = (Op.bytesLess a b || (a == b && Op.bytesLess x y))
  | [], [], x, y, _ => by simp [Op.bytesLess]
  | [], _ :: _, _, _, h => by simp at h
  | _ :: _, [], _, _, h => by simp at h
  | a :: al, b :: bl, x, y, h => by
    have ih := less_append al bl x y (by simpa using h)
    simp only [List.cons_append, Op.bytesLess, ih]
    cases decide (a < b) <;> cases hab : (a == b) <;> simp [List.cons_beq_cons, hab]
theorem dig_less : ∀ (k : Nat) (x y : Int), 0 ≤ x → 0 ≤ y → x < 10 ^ k → y < 10 ^ k → Op.bytesLess (dig k x) (dig k y) = decide (x < y) ∧ (dig k x == dig k y) = decide (x = y)
  | 0, x, y, hx, hy, h1, h2 => by
    simp at h1 h2
    have : x = 0 := by omega
    have : y = 0 := by omega
    subst x; subst y; simp [dig, Op.bytesLess]
  | k + 1, x, y, hx, hy, h1, h2 => by
    rw [Int.pow_succ] at h1 h2
    obtain ⟨i1, i2⟩ := dig_less k (x / 10) (y / 10) (by omega) (by omega) (by omega) (by omega)
    have hl : (dig k (x / 10)).length = (dig k (y / 10)).length := by rw [dig_length, dig_length]
    have d1 := dg1_toNat x
    have d2 := dg1_toNat y
    constructor
    · unfold dig
      rw [less_append _ _ _ _ hl, i1, i2]
      have e : Op.bytesLess [dg1 x] [dg1 y] = decide (x % 10 < y % 10) := by
        simp only [Op.bytesLess, Bool.and_false, Bool.or_false]
        rw [Bool.eq_iff_iff]; simp [UInt8.lt_iff_toNat_lt]; omega
      rw [e, Bool.eq_iff_iff]; simp; omega
    · unfold dig
      rw [Bool.eq_iff_iff]
      rw [beq_iff_eq, decide_eq_true_iff]
      have i3 : dig k (x / 10) = dig k (y / 10) ↔ x / 10 = y / 10 := by
        have := i2; rw [Bool.eq_iff_iff, beq_iff_eq, decide_eq_true_iff] at this; exact this
      constructor
      · intro h
        obtain ⟨h3, h4⟩ := List.append_inj h hl
        have h5 := i3.1 h3
        have h6 : dg1 x = dg1 y := by simpa using h4
        rw [h6] at d1
        omega
      · rintro rfl; rfl

/-- the date, the hour and the minute are ordered as the minutes are -/
theorem time_less {m n y mo d y' mo' d' : Int} (hm : 0 ≤ m) (hn : 0 ≤ n) (h : IsDate (m / 1440) y mo d) (h' : IsDate (n / 1440) y' mo' d') :
    (y < y' ∨ (y = y' ∧ (mo < mo' ∨ (mo = mo' ∧ (d < d' ∨ (d = d' ∧ (m % 1440 / 60 < n % 1440 / 60 ∨ (m % 1440 / 60 = n % 1440 / 60 ∧ m % 60 < n % 60)))))))) ↔ m < n := by
  obtain ⟨v, e⟩ := h
  obtain ⟨v', e'⟩ := h'
  have v0 := v
  have v0' := v'
  obtain ⟨a1, a2, a3, a4, a5⟩ := v
  obtain ⟨b1, b2, b3, b4, b5⟩ := v'
  rcases Int.lt_trichotomy y y' with hy | rfl | hy
  · have := num_hi v0; have := num_lo v0'; have := dby_mono (y + 1) y' (by omega)
    constructor <;> intro _ <;> omega
  · rcases Int.lt_trichotomy mo mo' with hmo | rfl | hmo
    · have := cum_mono' y (mo + 1) mo' (by omega) (by omega) (by omega)
      have := cum_succ y mo a2 a3
      unfold num at e e'
      constructor <;> intro _ <;> omega
    · unfold num at e e'
      constructor <;> intro _ <;> omega
    · have := cum_mono' y (mo' + 1) mo (by omega) (by omega) (by omega)
      have := cum_succ y mo' b2 b3
      unfold num at e e'
      constructor <;> intro _ <;> omega
  · have := num_hi v0'; have := num_lo v0; have := dby_mono (y' + 1) y (by omega)
    constructor <;> intro _ <;> omega
theorem beq_same (l : List UInt8) : (l == l) = true := by simp
theorem fmt_less {m n y mo d y' mo' d' : Int} (hm : 0 ≤ m) (hn : 0 ≤ n) (h : IsDate (m / 1440) y mo d) (h' : IsDate (n / 1440) y' mo' d')
    (b : 1970 ≤ y ∧ y ≤ 3065 ∧ 1 ≤ mo ∧ mo ≤ 12 ∧ 1 ≤ d ∧ d ≤ 31) (b' : 1970 ≤ y' ∧ y' ≤ 3065 ∧ 1 ≤ mo' ∧ mo' ≤ 12 ∧ 1 ≤ d' ∧ d' ≤ 31) :
    Op.bytesLess (fmtl y mo d (m % 1440 / 60) (m % 60)) (fmtl y' mo' d' (n % 1440 / 60) (n % 60)) = decide (m < n) := by
  have p4 : (10 : Int) ^ 4 = 10000 := by decide
  have p2 : (10 : Int) ^ 2 = 100 := by decide
  obtain ⟨x1, z1⟩ := dig_less 4 y y' (by omega) (by omega) (by omega) (by omega)
  obtain ⟨x2, z2⟩ := dig_less 2 mo mo' (by omega) (by omega) (by omega) (by omega)
  obtain ⟨x3, z3⟩ := dig_less 2 d d' (by omega) (by omega) (by omega) (by omega)
  obtain ⟨x4, z4⟩ := dig_less 2 (m % 1440 / 60) (n % 1440 / 60) (by omega) (by omega) (by omega) (by omega)
  obtain ⟨x5, _⟩ := dig_less 2 (m % 60) (n % 60) (by omega) (by omega) (by omega) (by omega)
  have s1 : Op.bytesLess [45] [45] = false := by decide
  have s2 : Op.bytesLess [84] [84] = false := by decide
  have s3 : Op.bytesLess [58] [58] = false := by decide
  have q1 : ([45] == ([45] : List UInt8)) = true := by decide
  have q2 : ([84] == ([84] : List UInt8)) = true := by decide
  have q3 : ([58] == ([58] : List UInt8)) = true := by decide
  unfold fmtl
  rw [less_append _ _ _ _ (by rw [dig_length, dig_length]), less_append [45] [45] _ _ rfl, less_append _ _ _ _ (by rw [dig_length, dig_length]), less_append [45] [45] _ _ rfl,
    less_append _ _ _ _ (by rw [dig_length, dig_length]), less_append [84] [84] _ _ rfl, less_append _ _ _ _ (by rw [dig_length, dig_length]), less_append [58] [58] _ _ rfl,
    x1, x2, x3, x4, x5, z1, z2, z3, z4, s1, s2, s3, q1, q2, q3]
  simp only [Bool.false_or, Bool.true_and]
  rw [Bool.eq_iff_iff, decide_eq_true_iff, ← time_less hm hn h h']
  simp only [Bool.or_eq_true, Bool.and_eq_true, decide_eq_true_iff]
end Go.Proofs.YtiombgjkcfhibaaDoor
