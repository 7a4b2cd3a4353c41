/- Texts of times, as lists of bytes: the form, the numbers in it, and what reading a text gives. No program here. -/
import Derived.Test.YtiombgjkcfhibaaDoorPlain
namespace Go.Proofs.YtiombgjkcfhibaaDoor
set_option linter.unusedSimpArgs false
set_option linter.unusedVariables false

def bs (s : ByteArray) : List UInt8 := s.data.toList
theorem bs_length (s : ByteArray) : (bs s).length = s.size := by unfold bs; simp
/-- the byte at a place -/
def byt (l : List UInt8) (k : Nat) : Int := ((l.getD k 0).toNat : Int)
theorem byt_bd (l : List UInt8) (k : Nat) : 0 ≤ byt l k ∧ byt l k ≤ 255 := by
  unfold byt
  have := (l.getD k 0).toNat_lt
  omega
def dgB (c : UInt8) : Bool := decide (48 ≤ c.toNat) && decide (c.toNat ≤ 57)
theorem dgB_iff {c : UInt8} : dgB c = true ↔ (48 ≤ c.toNat ∧ c.toNat ≤ 57) := by unfold dgB; simp
/-- the number that digits spell -/
def nmb (l : List UInt8) : Int := l.foldl (fun a c => 10 * a + ((c.toNat : Int) - 48)) 0
theorem nmb_snoc (l : List UInt8) (c : UInt8) : nmb (l ++ [c]) = 10 * nmb l + ((c.toNat : Int) - 48) := by unfold nmb; rw [List.foldl_append]; rfl
theorem take_byt (l : List UInt8) (k : Nat) (h : k < l.length) : l.take (k + 1) = l.take k ++ [l.getD k 0] := by
  rw [List.take_add_one, List.getElem?_eq_getElem h, List.getD_eq_getElem?_getD, List.getElem?_eq_getElem h]; rfl
theorem nmb_take (l : List UInt8) (k : Nat) (h : k < l.length) : nmb (l.take (k + 1)) = 10 * nmb (l.take k) + (byt l k - 48) := by
  rw [take_byt l k h, nmb_snoc]; rfl
theorem all_take (l : List UInt8) (k : Nat) (h : l.all dgB = true) : (l.take k).all dgB = true := by
  rw [List.all_eq_true] at h ⊢
  intro x hx; exact h x (List.mem_of_mem_take hx)
theorem all_byt (l : List UInt8) (k : Nat) (hk : k < l.length) (h : l.all dgB = true) : 48 ≤ byt l k ∧ byt l k ≤ 57 := by
  rw [List.all_eq_true] at h
  have hm : l.getD k 0 ∈ l := by
    rw [List.getD_eq_getElem?_getD, List.getElem?_eq_getElem hk]; exact List.getElem_mem hk
  have := dgB_iff.1 (h _ hm)
  unfold byt; omega
theorem nmb_bd_take (l : List UInt8) (h : l.all dgB = true) : ∀ n, n ≤ l.length → 0 ≤ nmb (l.take n) ∧ nmb (l.take n) + 1 ≤ 10 ^ n
  | 0, _ => by simp [nmb]
  | n + 1, hn => by
    have h1 := nmb_bd_take l h n (by omega)
    have h2 := all_byt l n (by omega) h
    rw [nmb_take l n (by omega), Int.pow_succ]
    omega
theorem nmb_bd (l : List UInt8) (h : l.all dgB = true) : 0 ≤ nmb l ∧ nmb l + 1 ≤ 10 ^ l.length := by
  have := nmb_bd_take l h l.length (Nat.le_refl _)
  rwa [List.take_length] at this
/-- digits, or -1 -/
def dgs (l : List UInt8) : Int := if l.all dgB = true then nmb l else -1

theorem dgs_no {l : List UInt8} {k : Nat} (hk : k < l.length) (h : ¬ (48 ≤ ((l.getD k 0).toNat : Int) ∧ ((l.getD k 0).toNat : Int) ≤ 57)) : dgs l = -1 := by
  unfold dgs
  rw [if_neg]
  intro ha
  have := all_byt l k hk ha
  unfold byt at this
  exact h this
/-! the form of a time -/
def fmb (k : Nat) : Int := ([48, 48, 48, 48, 45, 48, 48, 45, 48, 48, 84, 48, 48, 58, 48, 48] : List Int).getD k 0
def chk (f c : Int) : Bool := if f = 48 then decide (48 ≤ c) && decide (c ≤ 57) else decide (c = f)
def formTo (l : List UInt8) (k : Nat) : Bool := (List.range k).all fun j => chk (fmb j) (byt l j)
def formB (l : List UInt8) : Bool := formTo l 16
theorem formTo_succ (l : List UInt8) (k : Nat) : formTo l (k + 1) = (formTo l k && chk (fmb k) (byt l k)) := by
  unfold formTo; rw [List.range_succ, List.all_append]; simp
theorem formTo_no (l : List UInt8) (k n : Nat) (h : k < n) (hc : chk (fmb k) (byt l k) = false) : formTo l n = false := by
  unfold formTo; rw [List.all_eq_false]
  exact ⟨k, List.mem_range.2 h, by simp [hc]⟩
def grp (l : List UInt8) (a b : Nat) : List UInt8 := (l.drop a).take (b - a)
theorem bs_extract (s : ByteArray) (a b : Nat) : bs (s.extract a b) = grp (bs s) a b := by
  unfold bs grp; simp [ByteArray.data_extract, Array.toList_extract, List.extract_eq_take_drop]
theorem split16 (l : List UInt8) (h : l.length = 16) : ∃ c0 c1 c2 c3 c4 c5 c6 c7 c8 c9 c10 c11 c12 c13 c14 c15, l = [c0, c1, c2, c3, c4, c5, c6, c7, c8, c9, c10, c11, c12, c13, c14, c15] := by
  match l, h with
  | [c0, c1, c2, c3, c4, c5, c6, c7, c8, c9, c10, c11, c12, c13, c14, c15], _ => exact ⟨c0, c1, c2, c3, c4, c5, c6, c7, c8, c9, c10, c11, c12, c13, c14, c15, rfl⟩
/-- the signs between the digits -/
def sepB (l : List UInt8) : Bool := decide (byt l 4 = 45) && (decide (byt l 7 = 45) && (decide (byt l 10 = 84) && decide (byt l 13 = 58)))
def allDg (l : List UInt8) : Bool := (grp l 0 4).all dgB && ((grp l 5 7).all dgB && ((grp l 8 10).all dgB && ((grp l 11 13).all dgB && (grp l 14 16).all dgB)))
theorem chk_dg (c : UInt8) : chk 48 (c.toNat : Int) = dgB c := by
  unfold chk dgB; simp only [if_true]
  rw [Bool.eq_iff_iff]; simp; omega
theorem form_split (l : List UInt8) (h : l.length = 16) : formB l = (sepB l && allDg l) := by
  obtain ⟨c0, c1, c2, c3, c4, c5, c6, c7, c8, c9, c10, c11, c12, c13, c14, c15, rfl⟩ := split16 l h
  have e : formB [c0, c1, c2, c3, c4, c5, c6, c7, c8, c9, c10, c11, c12, c13, c14, c15] = (dgB c0 && (dgB c1 && (dgB c2 && (dgB c3 && (decide ((c4.toNat : Int) = 45) && (dgB c5 && (dgB c6 && (decide ((c7.toNat : Int) = 45) && (dgB c8 && (dgB c9 && (decide ((c10.toNat : Int) = 84) && (dgB c11 && (dgB c12 && (decide ((c13.toNat : Int) = 58) && (dgB c14 && dgB c15))))))))))))))) := by
    have r : List.range 16 = [0, 1, 2, 3, 4, 5, 6, 7, 8, 9, 10, 11, 12, 13, 14, 15] := by decide
    have k0 : ∀ x : Int, chk 45 x = decide (x = 45) := fun x => by unfold chk; rw [if_neg (by decide)]
    have k1 : ∀ x : Int, chk 84 x = decide (x = 84) := fun x => by unfold chk; rw [if_neg (by decide)]
    have k2 : ∀ x : Int, chk 58 x = decide (x = 58) := fun x => by unfold chk; rw [if_neg (by decide)]
    simp only [← chk_dg, ← k0, ← k1, ← k2]
    unfold formB formTo
    rw [r]
    simp only [List.all_cons, List.all_nil, Bool.and_true]
    rfl
  rw [e]
  unfold sepB allDg grp byt
  simp only [List.drop, List.take, List.all_cons, List.all_nil, List.getD_cons_succ, List.getD_cons_zero, Bool.and_true]
  rw [Bool.eq_iff_iff]; simp only [Bool.and_eq_true]
  constructor
  · rintro ⟨a0, a1, a2, a3, a4, a5, a6, a7, a8, a9, a10, a11, a12, a13, a14, a15⟩
    exact ⟨⟨a4, a7, a10, a13⟩, ⟨a0, a1, a2, a3⟩, ⟨a5, a6⟩, ⟨a8, a9⟩, ⟨a11, a12⟩, a14, a15⟩
  · rintro ⟨⟨a4, a7, a10, a13⟩, ⟨a0, a1, a2, a3⟩, ⟨a5, a6⟩, ⟨a8, a9⟩, ⟨a11, a12⟩, a14, a15⟩
    exact ⟨a0, a1, a2, a3, a4, a5, a6, a7, a8, a9, a10, a11, a12, a13, a14, a15⟩

/-! reading -/
def tY (l : List UInt8) : Int := nmb (grp l 0 4)
def tMo (l : List UInt8) : Int := nmb (grp l 5 7)
def tD (l : List UInt8) : Int := nmb (grp l 8 10)
def tH (l : List UInt8) : Int := nmb (grp l 11 13)
def tMi (l : List UInt8) : Int := nmb (grp l 14 16)
def tMin (l : List UInt8) : Int := dayV (tY l) (tMo l) (tD l) * 1440 + tH l * 60 + tMi l
def tOk (l : List UInt8) : Bool := okDate (tY l) (tMo l) (tD l) && (decide (tH l ≤ 23) && (decide (tMi l ≤ 59) && decide (tMin l ≤ 575999999)))
def pV (l : List UInt8) : Int := if (decide (l.length = 16) && formB l && tOk l) = true then tMin l else 0
def pE (l : List UInt8) : Int := if (decide (l.length = 16) && formB l) = true then (if tOk l = true then 0 else 1) else 3

theorem form_groups (l : List UInt8) (h : l.length = 16) (hf : formTo l 16 = true) : (grp l 0 4).all dgB = true ∧ (grp l 5 7).all dgB = true ∧ (grp l 8 10).all dgB = true ∧ (grp l 11 13).all dgB = true ∧ (grp l 14 16).all dgB = true := by
  have e := form_split l h
  have hf' : formB l = true := hf
  rw [hf'] at e
  have := e.symm
  simp only [Bool.and_eq_true, allDg] at this
  exact this.2
theorem grp_len (l : List UInt8) (a b : Nat) (h : l.length = 16) (hb : b ≤ 16) : (grp l a b).length = b - a := by unfold grp; rw [List.length_take, List.length_drop]; omega
theorem grp_bd (l : List UInt8) (h : l.length = 16) (hf : formTo l 16 = true) : (0 ≤ tY l ∧ tY l ≤ 9999) ∧ (0 ≤ tMo l ∧ tMo l ≤ 99) ∧ (0 ≤ tD l ∧ tD l ≤ 99) ∧ (0 ≤ tH l ∧ tH l ≤ 99) ∧ (0 ≤ tMi l ∧ tMi l ≤ 99) := by
  obtain ⟨g1, g2, g3, g4, g5⟩ := form_groups l h hf
  have b1 := nmb_bd _ g1
  have b2 := nmb_bd _ g2
  have b3 := nmb_bd _ g3
  have b4 := nmb_bd _ g4
  have b5 := nmb_bd _ g5
  rw [grp_len l _ _ h (by omega)] at b1 b2 b3 b4 b5
  unfold tY tMo tD tH tMi
  simp only [Nat.reduceSub] at b1 b2 b3 b4 b5
  have e4 : (10 : Int) ^ 4 = 10000 := by decide
  have e2 : (10 : Int) ^ 2 = 100 := by decide
  omega
theorem dayV_bd (y m d : Int) : 0 ≤ dayV y m d ∧ dayV y m d ≤ 400000 := by
  unfold dayV
  split
  · rename_i h
    obtain ⟨h1, h2⟩ := okDate_iff.1 h
    have := num_lo h1
    have := dby_mono 1970 y h1.1
    rw [dby_1970] at this
    omega
  · omega
theorem p_yes (l : List UInt8) (h : l.length = 16) (hf : formTo l 16 = true) :
    pV l = (if (okDate (tY l) (tMo l) (tD l) && (decide (tH l ≤ 23) && (decide (tMi l ≤ 59) && decide (dayV (tY l) (tMo l) (tD l) * 1440 + tH l * 60 + tMi l ≤ 575999999)))) = true then dayV (tY l) (tMo l) (tD l) * 1440 + tH l * 60 + tMi l else 0) ∧
    pE l = (if (okDate (tY l) (tMo l) (tD l) && (decide (tH l ≤ 23) && (decide (tMi l ≤ 59) && decide (dayV (tY l) (tMo l) (tD l) * 1440 + tH l * 60 + tMi l ≤ 575999999)))) = true then 0 else 1) := by
  have hf' : formB l = true := hf
  unfold pV pE tOk tMin
  rw [hf']
  simp only [h, decide_true, Bool.true_and, Bool.and_true, if_true]
  exact ⟨trivial, trivial⟩
end Go.Proofs.YtiombgjkcfhibaaDoor
