/- Plain calendar arithmetic of chapter 3. No program here. -/
import Derived.WalkKit
namespace Go.Proofs.YtiombgjkcfhibaaDoor
set_option linter.unusedSimpArgs false
set_option linter.unusedVariables false

def lpB (y : Int) : Bool := decide (y % 4 = 0) && (decide (y % 100 ≠ 0) || decide (y % 400 = 0))
def lp (y : Int) : Int := if lpB y = true then 1 else 0
theorem lp_01 (y : Int) : lp y = 0 ∨ lp y = 1 := by unfold lp; split <;> simp
theorem lpB_iff (y : Int) : lpB y = true ↔ (y % 4 = 0 ∧ (y % 100 ≠ 0 ∨ y % 400 = 0)) := by unfold lpB; simp

/-- days of a month -/
def dim (y m : Int) : Int := if m = 2 then 28 + lp y else if m = 4 ∨ m = 6 ∨ m = 9 ∨ m = 11 then 30 else 31
/-- days before a month of the year -/
def cum (y m : Int) : Int :=
  if m ≤ 1 then 0 else if m = 2 then 31 else if m = 3 then 59 + lp y else if m = 4 then 90 + lp y else if m = 5 then 120 + lp y
  else if m = 6 then 151 + lp y else if m = 7 then 181 + lp y else if m = 8 then 212 + lp y else if m = 9 then 243 + lp y
  else if m = 10 then 273 + lp y else if m = 11 then 304 + lp y else if m = 12 then 334 + lp y else 365 + lp y
/-- days before a year, from 1970 on -/
def dby (y : Int) : Int := 365 * (y - 1970) + ((y - 1) / 4 - 492) - ((y - 1) / 100 - 19) + ((y - 1) / 400 - 4)

theorem dby_1970 : dby 1970 = 0 := by decide
theorem dby_succ (y : Int) : dby (y + 1) = dby y + 365 + lp y := by
  have h : lp y = if (y % 4 = 0 ∧ (y % 100 ≠ 0 ∨ y % 400 = 0)) then 1 else 0 := by unfold lp; simp only [lpB_iff]
  rw [h]; unfold dby
  split <;> omega
theorem cum_1 (y : Int) : cum y 1 = 0 := by simp [cum]
theorem cum_13 (y : Int) : cum y 13 = 365 + lp y := by simp [cum]
theorem m_cases (m : Int) (h1 : 1 ≤ m) (h2 : m ≤ 12) : m = 1 ∨ m = 2 ∨ m = 3 ∨ m = 4 ∨ m = 5 ∨ m = 6 ∨ m = 7 ∨ m = 8 ∨ m = 9 ∨ m = 10 ∨ m = 11 ∨ m = 12 := by omega
theorem cum_succ (y m : Int) (h1 : 1 ≤ m) (h2 : m ≤ 12) : cum y (m + 1) = cum y m + dim y m := by
  rcases m_cases m h1 h2 with rfl | rfl | rfl | rfl | rfl | rfl | rfl | rfl | rfl | rfl | rfl | rfl <;> simp [cum, dim] <;> omega
theorem dim_bd (y m : Int) : 28 ≤ dim y m ∧ dim y m ≤ 31 := by
  have := lp_01 y
  unfold dim; split
  · omega
  · split <;> omega

/-- a date that exists, from 1970 on -/
def vld (y m d : Int) : Prop := 1970 ≤ y ∧ 1 ≤ m ∧ m ≤ 12 ∧ 1 ≤ d ∧ d ≤ dim y m
/-- the number of a date -/
def num (y m d : Int) : Int := dby y + cum y m + d - 1

theorem cum_mono (y m : Int) (h1 : 1 ≤ m) (k : Nat) (h : m + k ≤ 13) : cum y m ≤ cum y (m + k) := by
  induction k with
  | zero => simp
  | succ k ih =>
    have h3 := cum_succ y (m + k) (by omega) (by omega)
    have h4 := dim_bd y (m + k)
    have h5 := ih (by omega)
    have e : m + ((k + 1 : Nat) : Int) = m + k + 1 := by omega
    rw [e, h3]; omega
theorem cum_mono' (y m m' : Int) (h1 : 1 ≤ m) (h : m ≤ m') (h2 : m' ≤ 13) : cum y m ≤ cum y m' := by
  obtain ⟨k, hk⟩ := Int.eq_ofNat_of_zero_le (show 0 ≤ m' - m by omega)
  have e : m' = m + k := by omega
  rw [e]; exact cum_mono y m h1 k (by omega)
theorem dby_mono_nat (y : Int) (k : Nat) : dby y ≤ dby (y + k) := by
  induction k with
  | zero => simp
  | succ k ih =>
    have e : y + ((k + 1 : Nat) : Int) = y + k + 1 := by omega
    have := dby_succ (y + k); have h1 := lp_01 (y + k)
    rw [e, this]; omega
theorem dby_mono (y y' : Int) (h : y ≤ y') : dby y ≤ dby y' := by
  obtain ⟨k, hk⟩ := Int.eq_ofNat_of_zero_le (show 0 ≤ y' - y by omega)
  have e : y' = y + k := by omega
  rw [e]; exact dby_mono_nat y k
theorem num_lo {y m d : Int} (h : vld y m d) : dby y ≤ num y m d := by
  obtain ⟨_, h2, h3, h4, _⟩ := h
  have := cum_mono' y 1 m (by omega) h2 (by omega)
  rw [cum_1] at this; unfold num; omega
theorem num_hi {y m d : Int} (h : vld y m d) : num y m d < dby (y + 1) := by
  obtain ⟨_, h2, h3, h4, h5⟩ := h
  have h6 := cum_mono' y (m + 1) 13 (by omega) (by omega) (by omega)
  have h7 := cum_succ y m h2 h3
  rw [cum_13] at h6; unfold num; rw [dby_succ]; omega
theorem num_inj {y m d y' m' d' : Int} (h : vld y m d) (h' : vld y' m' d') (e : num y m d = num y' m' d') : y = y' ∧ m = m' ∧ d = d' := by
  have hy : y = y' := by
    rcases Int.lt_trichotomy y y' with hlt | he | hlt
    · have := dby_mono (y + 1) y' (by omega); have := num_hi h; have := num_lo h'; omega
    · exact he
    · have := dby_mono (y' + 1) y (by omega); have := num_hi h'; have := num_lo h; omega
  subst hy
  obtain ⟨_, h2, h3, h4, h5⟩ := h
  obtain ⟨_, k2, k3, k4, k5⟩ := h'
  have hm : m = m' := by
    unfold num at e
    rcases Int.lt_trichotomy m m' with hlt | he | hlt
    · have := cum_mono' y (m + 1) m' (by omega) (by omega) (by omega); have := cum_succ y m h2 h3; omega
    · exact he
    · have := cum_mono' y (m' + 1) m (by omega) (by omega) (by omega); have := cum_succ y m' k2 k3; omega
  subst hm
  unfold num at e
  exact ⟨rfl, rfl, by omega⟩
/-- the day behind a date -/
theorem num_next {y m d u v w : Int} (h : vld y m d) (h' : vld u v w) (e : num u v w = num y m d + 1) :
    (v = m ∧ u = y ∧ w = d + 1) ∨ (w = 1 ∧ ((v = m + 1 ∧ u = y) ∨ (v = 1 ∧ m = 12 ∧ u = y + 1))) := by
  have h0 := h
  obtain ⟨h1, h2, h3, h4, h5⟩ := h
  by_cases hd : d < dim y m
  · have := num_inj h' (y' := y) (m' := m) (d' := d + 1) ⟨h1, h2, h3, by omega, by omega⟩ (by rw [e]; unfold num; omega)
    left; omega
  · by_cases hm : m < 12
    · have hdb := dim_bd y (m + 1)
      have hc := cum_succ y m h2 h3
      have := num_inj h' (y' := y) (m' := m + 1) (d' := 1) ⟨h1, by omega, by omega, by omega, by omega⟩ (by rw [e]; unfold num; omega)
      right; omega
    · have hm : m = 12 := by omega
      subst hm
      have hdb := dim_bd (y + 1) 1
      have hc := cum_succ y 12 h2 h3
      rw [show (12 : Int) + 1 = 13 from rfl, cum_13] at hc
      have hs := dby_succ y
      have := num_inj h' (y' := y + 1) (m' := 1) (d' := 1) ⟨by omega, by omega, by omega, by omega, by omega⟩ (by rw [e]; unfold num; rw [cum_1]; omega)
      right; omega

/-- the day of the week -/
def wk (n : Int) : Int := if 0 ≤ n ∧ n ≤ 400000 then (n + 3) % 7 else -1
/-- a date whose number is from 0 to MaxDay -/
def okDate (y m d : Int) : Bool := decide (1970 ≤ y ∧ 1 ≤ m ∧ m ≤ 12 ∧ 1 ≤ d ∧ d ≤ dim y m ∧ num y m d ≤ 400000)
def dayV (y m d : Int) : Int := if okDate y m d = true then num y m d else 0
theorem okDate_iff {y m d : Int} : okDate y m d = true ↔ (vld y m d ∧ num y m d ≤ 400000) := by
  unfold okDate vld; rw [decide_eq_true_iff]
  constructor
  · rintro ⟨a, b, c, d, e, f⟩; exact ⟨⟨a, b, c, d, e⟩, f⟩
  · rintro ⟨⟨a, b, c, d, e⟩, f⟩; exact ⟨a, b, c, d, e, f⟩
theorem okDate_no {y m d : Int} (h : ¬ (vld y m d ∧ num y m d ≤ 400000)) : okDate y m d = false := by
  cases h' : okDate y m d
  · rfl
  · exact absurd (okDate_iff.1 h') h
theorem dby_3066 : dby 3066 = 400306 := by decide
theorem okDate_far {y m d : Int} (h : 3066 ≤ y) : okDate y m d = false := by
  refine okDate_no fun ⟨h1, h2⟩ => ?_
  have := num_lo h1
  have := dby_mono 3066 y h
  rw [dby_3066] at this; omega
theorem dby_bd {y : Int} (h1 : 1970 ≤ y) (h2 : y ≤ 3066) : 0 ≤ dby y ∧ dby y ≤ 400306 := by
  have a := dby_mono 1970 y h1
  have b := dby_mono y 3066 h2
  rw [dby_1970] at a; rw [dby_3066] at b; omega
theorem cum_bd {y m : Int} (h1 : 1 ≤ m) (h2 : m ≤ 12) : 0 ≤ cum y m ∧ cum y m ≤ 366 := by
  have a := cum_mono' y 1 m (by omega) h1 (by omega)
  have b := cum_mono' y m 13 h1 (by omega) (by omega)
  have c := lp_01 y
  rw [cum_1] at a; rw [cum_13] at b; omega
/-! bits -/
theorem and_mask (x : Int) (k : Nat) (hk : k ≤ 62) : bits .and .i64 x ((2 : Int) ^ k - 1) = x % 2 ^ k := by
  have hp : (2 : Nat) ^ k < 2 ^ 63 := Nat.pow_lt_pow_right (by omega) (by omega)
  have hpos : 0 < (2 : Nat) ^ k := Nat.pow_pos (by omega)
  have e1 : ((2 : Int) ^ k - 1) = ((2 ^ k - 1 : Nat) : Int) := by
    rw [Int.ofNat_sub (by omega)]; simp
  have e2 : (BitVec.ofInt 64 ((2 ^ k - 1 : Nat) : Int)).toNat = 2 ^ k - 1 := by
    rw [BitVec.ofInt_natCast, BitVec.toNat_ofNat]; exact Nat.mod_eq_of_lt (by omega)
  show IntKind.i64.wrap ((BitVec.ofInt 64 x &&& BitVec.ofInt 64 ((2 : Int) ^ k - 1)).toNat : Int) = _
  rw [e1, BitVec.toNat_and, e2, Nat.and_two_pow_sub_one_eq_mod, BitVec.toNat_ofInt]
  have e3 : ((((x % ((2 ^ 64 : Nat) : Int)).toNat % 2 ^ k : Nat)) : Int) = x % 2 ^ k := by
    have hnn : 0 ≤ x % ((2 ^ 64 : Nat) : Int) := Int.emod_nonneg _ (by simp)
    rw [Int.natCast_emod, Int.toNat_of_nonneg hnn]
    have hd : ((2 ^ k : Nat) : Int) ∣ ((2 ^ 64 : Nat) : Int) := Int.ofNat_dvd.2 (Nat.pow_dvd_pow 2 (by omega))
    rw [Int.emod_emod_of_dvd _ hd]; simp
  rw [e3, IntKind.wrap_i64]
  have h0 : 0 ≤ x % (2 : Int) ^ k := Int.emod_nonneg _ (by have := Int.ofNat_lt.2 hpos; simp at this; omega)
  have h1 : x % (2 : Int) ^ k < 2 ^ k := Int.emod_lt_of_pos _ (by have := Int.ofNat_lt.2 hpos; simpa using this)
  have h2 : (2 : Int) ^ k < 9223372036854775808 := by
    have := Int.ofNat_lt.2 hp
    simpa using this
  omega
theorem and7 (x : Int) : bits .and .i64 x 7 = x % 8 := and_mask x 3 (by omega)
theorem and15 (x : Int) : bits .and .i64 x 15 = x % 16 := and_mask x 4 (by omega)
theorem and63 (x : Int) : bits .and .i64 x 63 = x % 64 := and_mask x 6 (by omega)
theorem and255 (x : Int) : bits .and .i64 x 255 = x % 256 := and_mask x 8 (by omega)
theorem and1023 (x : Int) : bits .and .i64 x 1023 = x % 1024 := and_mask x 10 (by omega)
theorem and2047 (x : Int) : bits .and .i64 x 2047 = x % 2048 := and_mask x 11 (by omega)
theorem and16777215 (x : Int) : bits .and .i64 x 16777215 = x % 16777216 := and_mask x 24 (by omega)
theorem and1073741823 (x : Int) : bits .and .i64 x 1073741823 = x % 1073741824 := and_mask x 30 (by omega)
end Go.Proofs.YtiombgjkcfhibaaDoor
