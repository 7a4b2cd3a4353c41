/- Plain arithmetic of chapter 2: what the functions of package exact and of its reference compute. No program here. -/
import Derived.WalkKit
namespace Go.Proofs.Ytkjhgnjoiocogaa
set_option linter.unusedSimpArgs false
set_option linter.unusedVariables false

/-- from -MaxInt to MaxInt -/
def sm (n : Int) : Bool := decide (-1073741824 ≤ n) && decide (n ≤ 1073741824)
theorem sm_iff {n : Int} : sm n = true ↔ (-1073741824 ≤ n ∧ n ≤ 1073741824) := by unfold sm; simp
theorem sm_yes {n : Int} (h : sm n = true) : -1073741824 ≤ n ∧ n ≤ 1073741824 := sm_iff.1 h
theorem sm_no {n : Int} (h : sm n = false) : n < -1073741824 ∨ 1073741824 < n := by
  rcases Int.lt_or_le n (-1073741824) with h1 | h1
  · exact .inl h1
  rcases Int.lt_or_le 1073741824 n with h2 | h2
  · exact .inr h2
  have := sm_iff.2 ⟨h1, h2⟩; rw [h] at this; cases this

/-- a number if it is small, else 0 -/
def valC (n : Int) : Int := if sm n = true then n else 0
def okR (a b r : Int) : Bool := sm a && sm b && sm r
def valR (a b r : Int) : Int := if okR a b r = true then r else 0

/-- division rounding down -/
def qf (a b : Int) : Int := if a.tmod b ≠ 0 ∧ decide (a.tmod b < 0) ≠ decide (b < 0) then a.tdiv b - 1 else a.tdiv b
def rf (a b : Int) : Int := if a.tmod b ≠ 0 ∧ decide (a.tmod b < 0) ≠ decide (b < 0) then a.tmod b + b else a.tmod b
def okD (a b : Int) : Bool := sm a && sm b && !(b == 0)
def valQ (a b : Int) : Int := if okD a b = true then qf a b else 0
def valM (a b : Int) : Int := if okD a b = true then rf a b else 0

theorem qf_rf (a b : Int) : qf a b * b + rf a b = a := by
  have h := Int.tmod_add_mul_tdiv a b
  unfold qf rf
  split
  · rw [Int.sub_mul, Int.mul_comm]; omega
  · rw [Int.mul_comm]; omega
theorem tmod_bd_pos (a b : Int) (hb : 0 < b) : -b < a.tmod b ∧ a.tmod b < b := ⟨Int.lt_tmod_of_pos a hb, Int.tmod_lt_of_pos a hb⟩
theorem tmod_bd_neg (a b : Int) (hb : b < 0) : b < a.tmod b ∧ a.tmod b < -b := by
  have := tmod_bd_pos a (-b) (by omega)
  rw [Int.tmod_neg] at this
  omega
theorem rf_pos (a b : Int) (hb : 0 < b) : 0 ≤ rf a b ∧ rf a b < b := by
  have := tmod_bd_pos a b hb
  unfold rf
  have hn : decide (b < 0) = false := by simp; omega
  rw [hn]
  split <;> simp_all <;> omega
theorem rf_neg (a b : Int) (hb : b < 0) : b < rf a b ∧ rf a b ≤ 0 := by
  have := tmod_bd_neg a b hb
  unfold rf
  have hn : decide (b < 0) = true := by simp; omega
  rw [hn]
  split <;> simp_all <;> omega

/-! bits -/
theorem and_mask (x : Int) (k : Nat) (hk : k ≤ 62) : bits .and .i64 x ((2 : Int) ^ k - 1) = x % 2 ^ k := by
  have hp : (2 : Nat) ^ k < 2 ^ 63 := Nat.pow_lt_pow_right (by omega) (by omega)
  have hpos : 0 < (2 : Nat) ^ k := Nat.pow_pos (by omega)
  have e1 : ((2 : Int) ^ k - 1) = ((2 ^ k - 1 : Nat) : Int) := by
    rw [Int.ofNat_sub (by omega)]; simp
  have e2 : (BitVec.ofInt 64 ((2 ^ k - 1 : Nat) : Int)).toNat = 2 ^ k - 1 := by
    rw [BitVec.ofInt_natCast, BitVec.toNat_ofNat]; exact Nat.mod_eq_of_lt (by omega)
  show IntKind.i64.wrap ((BitVec.ofInt 64 x &&& BitVec.ofInt 64 ((2 : Int) ^ k - 1)).toNat : Int) = _
  rw [e1, BitVec.toNat_and, e2, Nat.and_two_pow_sub_one_eq_mod, BitVec.toNat_ofInt]
  have e3 : ((((x % ((2 ^ 64 : Nat) : Int)).toNat % 2 ^ k : Nat)) : Int) = x % 2 ^ k := by
    have hnn : 0 ≤ x % ((2 ^ 64 : Nat) : Int) := Int.emod_nonneg _ (by simp)
    rw [Int.natCast_emod, Int.toNat_of_nonneg hnn]
    have hd : ((2 ^ k : Nat) : Int) ∣ ((2 ^ 64 : Nat) : Int) := Int.ofNat_dvd.2 (Nat.pow_dvd_pow 2 (by omega))
    rw [Int.emod_emod_of_dvd _ hd]; simp
  rw [e3, IntKind.wrap_i64]
  have h0 : 0 ≤ x % (2 : Int) ^ k := Int.emod_nonneg _ (by have := Int.ofNat_lt.2 hpos; simp at this; omega)
  have h1 : x % (2 : Int) ^ k < 2 ^ k := Int.emod_lt_of_pos _ (by have := Int.ofNat_lt.2 hpos; simpa using this)
  have h2 : (2 : Int) ^ k < 9223372036854775808 := by
    have := Int.ofNat_lt.2 hp
    simpa using this
  omega
theorem and1 (x : Int) : bits .and .i64 x 1 = x % 2 := and_mask x 1 (by omega)
theorem and3 (x : Int) : bits .and .i64 x 3 = x % 4 := and_mask x 2 (by omega)
theorem and7 (x : Int) : bits .and .i64 x 7 = x % 8 := and_mask x 3 (by omega)
theorem and15 (x : Int) : bits .and .i64 x 15 = x % 16 := and_mask x 4 (by omega)
theorem and31 (x : Int) : bits .and .i64 x 31 = x % 32 := and_mask x 5 (by omega)
theorem and255 (x : Int) : bits .and .i64 x 255 = x % 256 := and_mask x 8 (by omega)
theorem and1023 (x : Int) : bits .and .i64 x 1023 = x % 1024 := and_mask x 10 (by omega)

/-- a number near the limits, or a small one -/
def nr (n : Int) : Int := if n / 256 % 4 = 0 then 1073741824 - n % 8 + 3 else if n / 256 % 4 = 1 then n % 8 - 3 - 1073741824 else n % 256 - 128
theorem nr_bd (n : Int) : -1073741827 ≤ nr n ∧ nr n ≤ 1073741827 := by
  unfold nr; split
  · omega
  · split <;> omega

theorem mul_bd (a b : Int) (a1 : -1073741824 ≤ a) (a2 : a ≤ 1073741824) (b1 : -1073741824 ≤ b) (b2 : b ≤ 1073741824) : -1152921504606846976 ≤ a * b ∧ a * b ≤ 1152921504606846976 := by
  have h1 : a.natAbs ≤ 1073741824 := by omega
  have h2 : b.natAbs ≤ 1073741824 := by omega
  have h3 : (a * b).natAbs = a.natAbs * b.natAbs := Int.natAbs_mul a b
  have h4 := Nat.mul_le_mul h1 h2
  omega
theorem tdiv_bd (a b : Int) (a1 : -1073741824 ≤ a) (a2 : a ≤ 1073741824) : -1073741824 ≤ a.tdiv b ∧ a.tdiv b ≤ 1073741824 := by
  have h := Int.natAbs_tdiv a b
  have h1 : a.natAbs.div b.natAbs ≤ a.natAbs := Nat.div_le_self a.natAbs b.natAbs
  rw [← h] at h1
  omega
theorem tmod_bd (a b : Int) (b1 : -1073741824 ≤ b) (b2 : b ≤ 1073741824) (hb : b ≠ 0) : -1073741824 < a.tmod b ∧ a.tmod b < 1073741824 := by
  rcases Int.lt_or_gt_of_ne hb with h | h
  · have := tmod_bd_neg a b h; omega
  · have := tmod_bd_pos a b h; omega

/-- rounding down, for positive b -/
def fl (a b : Int) : Int := if a.tmod b < 0 then a.tdiv b - 1 else a.tdiv b
theorem qf_fl (a b : Int) : qf a b = if b < 0 then fl (-a) (-b) else fl a b := by
  unfold qf fl
  rw [Int.neg_tdiv_neg, Int.tmod_neg, Int.neg_tmod]
  by_cases hn : b < 0
  · rw [if_pos hn]
    by_cases h0 : a.tmod b = 0
    · simp [h0]
    · by_cases h1 : a.tmod b < 0
      · rw [if_neg (by simp [h1, hn]), if_neg (by omega)]
      · rw [if_pos ⟨h0, by simp [h1, hn]⟩, if_pos (by omega)]
  · rw [if_neg hn]
    by_cases h1 : a.tmod b < 0
    · rw [if_pos ⟨by omega, by simp [h1, hn]⟩, if_pos h1]
    · rw [if_neg (by simp [h1, hn]), if_neg h1]
theorem okD_sm {a b : Int} (h : okD a b = true) : sm a = true ∧ sm b = true ∧ b ≠ 0 := by
  unfold okD at h; simp at h; exact ⟨h.1.1, h.1.2, h.2⟩

/-- a well-formed ratio -/
def wf (n d : Int) : Bool := sm n && (decide (1 ≤ d) && decide (d ≤ 1073741824))
theorem wf_bd {n d : Int} (h : wf n d = true) : (-1073741824 ≤ n ∧ n ≤ 1073741824) ∧ 1 ≤ d ∧ d ≤ 1073741824 := by
  unfold wf at h; simp at h; exact ⟨sm_yes h.1, h.2.1, h.2.2⟩
/-- a share that lies within two ratios -/
def wi (p q n d n' d' : Int) : Bool := decide (0 ≤ p) && decide (p ≤ q) && decide (q ≤ 1073741824) && wf n d && wf n' d' && (q == 0 || (decide (n * q ≤ p * d) && decide (p * d' ≤ n' * q)))
/-- the sign of a comparison -/
def sg (a b : Int) : Int := if a < b then -1 else if b < a then 1 else 0
def cr (n d n' d' : Int) : Int := if (wf n d && wf n' d') = true then sg (n * d') (n' * d) else 0

/-! lowest terms -/
def gg (n d : Int) : Nat := Nat.gcd n.natAbs d.natAbs
def rN (n d : Int) : Int := if wf n d = true then n.tdiv (gg n d) else 0
def rD (n d : Int) : Int := if wf n d = true then d / (gg n d) else 0
theorem gg_pos {n d : Int} (h : wf n d = true) : 1 ≤ gg n d := by
  have := wf_bd h
  exact Nat.gcd_pos_of_pos_right _ (by omega)
theorem gg_le {n d : Int} (h : wf n d = true) : (gg n d : Int) ≤ d := by
  have := wf_bd h
  have h1 : gg n d ≤ d.natAbs := Nat.gcd_le_right _ (by omega)
  omega
theorem rN_mul {n d : Int} (h : wf n d = true) : rN n d * gg n d = n := by
  have hd : ((gg n d : Nat) : Int) ∣ n := Int.ofNat_dvd_left.2 (Nat.gcd_dvd_left _ _)
  unfold rN; rw [if_pos h]
  exact Int.tdiv_mul_cancel hd
theorem rD_mul {n d : Int} (h : wf n d = true) : rD n d * gg n d = d := by
  have hd : ((gg n d : Nat) : Int) ∣ d := Int.ofNat_dvd_left.2 (Nat.gcd_dvd_right _ _)
  unfold rD; rw [if_pos h]
  exact Int.ediv_mul_cancel hd
theorem rwf {n d : Int} (h : wf n d = true) : wf (rN n d) (rD n d) = true := by
  obtain ⟨⟨h1, h2⟩, h3, h4⟩ := wf_bd h
  have hg := gg_pos h
  have e1 := rN_mul h
  have e2 := rD_mul h
  have a1 : (rN n d).natAbs * gg n d = n.natAbs := by
    have := congrArg Int.natAbs e1; rw [Int.natAbs_mul] at this; simpa using this
  have a2 : (rN n d).natAbs ≤ n.natAbs := by rw [← a1]; exact Nat.le_mul_of_pos_right _ hg
  have a3 : (rD n d).natAbs * gg n d = d.natAbs := by
    have := congrArg Int.natAbs e2; rw [Int.natAbs_mul] at this; simpa using this
  have a4 : (rD n d).natAbs ≤ d.natAbs := by rw [← a3]; exact Nat.le_mul_of_pos_right _ hg
  have a5 : 0 < rD n d := by
    rcases Int.lt_or_le 0 (rD n d) with h0 | h0
    · exact h0
    · have : rD n d * gg n d ≤ 0 := Int.mul_nonpos_of_nonpos_of_nonneg h0 (by omega)
      omega
  unfold wf; simp
  exact ⟨sm_iff.2 (by omega), by omega, by omega⟩
theorem gg_one {n d : Int} (h : wf n d = true) : gg (rN n d) (rD n d) = 1 := by
  have e1 := rN_mul h
  have e2 := rD_mul h
  have hg := gg_pos h
  have a1 : (rN n d).natAbs * gg n d = n.natAbs := by
    have := congrArg Int.natAbs e1; rw [Int.natAbs_mul] at this; simpa using this
  have a3 : (rD n d).natAbs * gg n d = d.natAbs := by
    have := congrArg Int.natAbs e2; rw [Int.natAbs_mul] at this; simpa using this
  have hm : Nat.gcd ((rN n d).natAbs * gg n d) ((rD n d).natAbs * gg n d) = gg (rN n d) (rD n d) * gg n d := Nat.gcd_mul_right _ _ _
  rw [a1, a3] at hm
  have : gg n d = gg (rN n d) (rD n d) * gg n d := hm
  have h1 : 1 * gg n d = gg (rN n d) (rD n d) * gg n d := by omega
  exact (Nat.eq_of_mul_eq_mul_right hg h1).symm
theorem r_again {n d : Int} (h : wf n d = true) : rN (rN n d) (rD n d) = rN n d ∧ rD (rN n d) (rD n d) = rD n d := by
  have h1 := gg_one h
  have h2 := rwf h
  have e1 := rN_mul h2
  have e2 := rD_mul h2
  rw [h1] at e1 e2
  exact ⟨by simpa using e1, by simpa using e2⟩
theorem r_same {n d : Int} (h : wf n d = true) : rN n d * d = n * rD n d := by
  have e1 := rN_mul h
  have e2 := rD_mul h
  calc rN n d * d = rN n d * (rD n d * gg n d) := by rw [e2]
    _ = (rN n d * gg n d) * rD n d := by rw [Int.mul_assoc, Int.mul_comm (rD n d)]
    _ = n * rD n d := by rw [e1]

/-- a well-formed ratio out of two numbers -/
def sn (a b : Int) : Int := if wf (nr a) (nr b) = true then nr a else a % 16
def sd (a b : Int) : Int := if wf (nr a) (nr b) = true then nr b else 1 + b % 16
theorem swf (a b : Int) : wf (sn a b) (sd a b) = true := by
  unfold sn sd
  cases h : wf (nr a) (nr b)
  · simp only [Bool.false_eq_true, if_false]
    unfold wf; simp; exact ⟨sm_iff.2 (by omega), by omega, by omega⟩
  · simp only [if_true]; exact h
end Go.Proofs.Ytkjhgnjoiocogaa
