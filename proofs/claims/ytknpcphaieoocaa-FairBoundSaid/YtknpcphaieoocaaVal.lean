/- The two Validate: the same answers. -/
import Derived.Test.YtknpcphaieoocaaNam
namespace Go.Proofs.Ytknpcphaieoocaa
open Go.RowKit
set_option linter.unusedSimpArgs false
set_option linter.unusedVariables false

theorem less_flip (a b : List UInt8) : (Op.bytesLess a b || a == b) = !(Op.bytesLess b a) := by
  induction a generalizing b with
  | nil => cases b <;> simp [Op.bytesLess]
  | cons x a ih =>
    cases b with
    | nil => simp [Op.bytesLess]
    | cons y b =>
      by_cases h1 : x = y
      · subst h1
        have := ih b
        have hx : ¬ x < x := UInt8.lt_irrefl x
        simp [Op.bytesLess, hx] at this ⊢
        exact this
      · have h2 : ¬ y = x := fun e => h1 e.symm
        by_cases h3 : x < y
        · have h4 : ¬ y < x := fun h => UInt8.lt_irrefl x (UInt8.lt_trans h3 h)
          simp [Op.bytesLess, h1, h2, h3, h4]
        · have h4 : y < x := by
            rcases UInt8.lt_or_lt_of_ne h1 with h | h
            · exact absurd h h3
            · exact h
          simp [Op.bytesLess, h1, h2, h3, h4]
/-- what is wrong with a share; 0: nothing -/
noncomputable def codeV (prev : Option ByteArray) (x : ByteArray × Int) : Int :=
  if x.1.toList.isEmpty = false ∧ nameV x.1 = false then 4 else
  if (match prev with | none => false | some p => leqS x.1 p) = true then 14 else
  if x.2 < 1 ∨ 64 < x.2 then 1 else 0
noncomputable def fromV : Option ByteArray → List (ByteArray × Int) → Int
  | _, [] => 0
  | prev, x :: l => if codeV prev x = 0 then fromV (some x.1) l else codeV prev x
/-- what is wrong with a list of shares -/
noncomputable def validV (ss : List (ByteArray × Int)) : Int := if 64 < ss.length then 2 else fromV none ss
/-- the name ahead of a place -/
def prevV (ss : List (ByteArray × Int)) (k : Nat) : Option ByteArray := if k = 0 then none else (ss[k - 1]?).map (·.1)
theorem from_step {ss : List (ByteArray × Int)} {k : Nat} {x : ByteArray × Int} (h : ss[k]? = some x) : fromV (prevV ss k) (ss.drop k) = if codeV (prevV ss k) x = 0 then fromV (prevV ss (k + 1)) (ss.drop (k + 1)) else codeV (prevV ss k) x := by
  rw [List.drop_eq_getElem_cons (List.getElem?_eq_some_iff.1 h).1, (List.getElem?_eq_some_iff.1 h).2]
  have : prevV ss (k + 1) = some x.1 := by unfold prevV; rw [if_neg (by omega), Nat.add_sub_cancel, h]; rfl
  rw [this]
  rfl
theorem from_end {ss : List (ByteArray × Int)} {k : Nat} (h : ss.length ≤ k) (p : Option ByteArray) : fromV p (ss.drop k) = 0 := by rw [List.drop_eq_nil_of_le h]; rfl
theorem code_4 {p : Option ByteArray} {x : ByteArray × Int} (h1 : x.1.toList.isEmpty = false) (h2 : nameV x.1 = false) : codeV p x = 4 := if_pos ⟨h1, h2⟩
theorem code_14 {p : ByteArray} {x : ByteArray × Int} (h1 : ¬ (x.1.toList.isEmpty = false ∧ nameV x.1 = false)) (h2 : leqS x.1 p = true) : codeV (some p) x = 14 := by
  unfold codeV
  rw [if_neg h1, if_pos h2]
theorem code_1 {p : Option ByteArray} {x : ByteArray × Int} (h1 : ¬ (x.1.toList.isEmpty = false ∧ nameV x.1 = false)) (h2 : ∀ q, p = some q → leqS x.1 q = false) (h3 : x.2 < 1 ∨ 64 < x.2) : codeV p x = 1 := by
  unfold codeV
  rw [if_neg h1, if_neg, if_pos h3]
  cases p with
  | none => simp
  | some q => simp [h2 q rfl]
theorem code_0 {p : Option ByteArray} {x : ByteArray × Int} (h1 : ¬ (x.1.toList.isEmpty = false ∧ nameV x.1 = false)) (h2 : ∀ q, p = some q → leqS x.1 q = false) (h3 : ¬ (x.2 < 1 ∨ 64 < x.2)) : codeV p x = 0 := by
  unfold codeV
  rw [if_neg h1, if_neg, if_neg h3]
  cases p with
  | none => simp
  | some q => simp [h2 q rfl]
theorem prev_0 (ss : List (ByteArray × Int)) : prevV ss 0 = none := rfl
theorem prev_s {ss : List (ByteArray × Int)} {k : Nat} {y : ByteArray × Int} (hk : ¬ k = 0) (h : ss[k - 1]? = some y) : prevV ss k = some y.1 := by unfold prevV; rw [if_neg hk, h]; rfl

set_option maxRecDepth 100000 in
set_option maxHeartbeats 4000000 in
theorem validE (A : Option Addr) (n c : Nat) (ss : List (ByteArray × Int)) (w : World) (hS : Prow w A n ss) (hn : n ≤ 1000) :
    Calls Try.prog 11 #[.slice A n c] w fun e w' => e = .returned (.int .i64 (validV ss)) ∧ Below w.heap.size w w' := by
  have HS := Lib.hid hS
  have HL := Lib.hid hS.1
  clear hS
  by_cases h64 : 64 < n
  · have HV : Hid (2 = validV ss) := Lib.hid (by unfold validV; rw [if_pos (by have := HL.out; omega)])
    go_enter Try.func11, Try.ntmps11
    go_wp2
    go_ret
    exact ⟨ret_int HV.out, .refl _ _⟩
  · have HV : Hid (fromV (prevV ss 0) (ss.drop 0) = validV ss) := Lib.hid (by unfold validV; rw [if_neg (by have := HL.out; omega)]; rfl)
    go_enter Try.func11, Try.ntmps11
    go_wp2
    go_loopw [10] (fun i wv => ∃ k : Nat, k ≤ n ∧ i = .int .i64 k ∧ Hid (fromV (prevV ss k) (ss.drop k) = validV ss) ∧ Below w.heap.size w wv) (fun i _ => n - (intOf i).toNat)
    case atStart => exact ⟨0, by omega, rfl, HV, .refl _ _⟩
    case round =>
      obtain ⟨k, hk, rfl, HU, hb⟩ := hrel
      have HB := Lib.hid hb
      clear hb HV
      by_cases hkn : k < n
      · obtain ⟨b, off, rfl, hcell⟩ := HS.out.2 (by omega)
        obtain ⟨x, hx⟩ : ∃ x, ss[k]? = some x := ⟨ss[k]'(by have := HL.out; omega), List.getElem?_eq_getElem _⟩
        obtain ⟨c1, c2⟩ := hcell k x hx
        have HST := Lib.hid (from_step hx)
        have hf2 : (off + k * 2) = (off + k * 2) := rfl
        clear hf2
        have c1 := cell_later HB.out c1
        have c2 := cell_later HB.out c2
        have HB1 := Lib.hid (HB.out.alloc HB.out.size (.cells #[.string x.1, .int .i64 x.2] 51))
        have n1 : (wr.alloc (.cells #[.string x.1, .int .i64 x.2] 51)).cell? ⟨wr.heap.size, 0, none⟩ = some (.string x.1) := by simp
        have n2 : (wr.alloc (.cells #[.string x.1, .int .i64 x.2] 51)).cell? ⟨wr.heap.size, 1, none⟩ = some (.int .i64 x.2) := by simp
        cases he : x.1.toList.isEmpty
        · cases hnm : nameV x.1
          · have HN : Hid (4 = validV ss) := Lib.hid (by rw [← HU.out, HST.out, code_4 he hnm]; rfl)
            go_wp2_with (go_at_call 26; refine (nameE x.1 _).mono ?_; rintro e w5 ⟨rfl, hb5⟩; have n1 := cell_later hb5 n1; have n2 := cell_later hb5 n2; have HB5 := Lib.hid (bthen HB1.out (Nat.le_refl _) hb5); skip; clear hb5 HB1)
            go_ret
            exact ⟨ret_int HN.out, HB5.out⟩
          · have HP : Hid (¬ (x.1.toList.isEmpty = false ∧ nameV x.1 = false)) := Lib.hid (by rw [hnm]; simp)
            by_cases h0 : k = 0
            · have HQ : Hid (∀ q, prevV ss k = some q → leqS x.1 q = false) := Lib.hid (fun q hq => by rw [h0, prev_0] at hq; cases hq)
              by_cases a1 : x.2 < 1
              · have HN : Hid (1 = validV ss) := Lib.hid (by rw [← HU.out, HST.out, code_1 HP.out HQ.out (.inl a1)]; rfl)
                have g9 : ¬ (0 < k) := by omega
                clear h0
                go_wp2_with (go_at_call 26; refine (nameE x.1 _).mono ?_; rintro e w5 ⟨rfl, hb5⟩; have n1 := cell_later hb5 n1; have n2 := cell_later hb5 n2; have HB5 := Lib.hid (bthen HB1.out (Nat.le_refl _) hb5); skip; clear hb5 HB1)
                go_quiet (fail)
                go_wp2
                go_ret
                exact ⟨ret_int HN.out, below_drewN HB5.out _⟩
              · by_cases a2 : 64 < x.2
                · have HN : Hid (1 = validV ss) := Lib.hid (by rw [← HU.out, HST.out, code_1 HP.out HQ.out (.inr a2)]; rfl)
                  have g9 : ¬ (0 < k) := by omega
                  clear h0
                  go_wp2_with (go_at_call 26; refine (nameE x.1 _).mono ?_; rintro e w5 ⟨rfl, hb5⟩; have n1 := cell_later hb5 n1; have n2 := cell_later hb5 n2; have HB5 := Lib.hid (bthen HB1.out (Nat.le_refl _) hb5); skip; clear hb5 HB1)
                  go_quiet (fail)
                  go_wp2
                  go_ret
                  exact ⟨ret_int HN.out, below_drewN HB5.out _⟩
                · have HN : Hid (fromV (prevV ss (k + 1)) (ss.drop (k + 1)) = validV ss) := Lib.hid (by rw [← HU.out, HST.out, code_0 HP.out HQ.out (by omega)]; rfl)
                  have g9 : ¬ (0 < k) := by omega
                  clear h0
                  go_wp2_with (go_at_call 26; refine (nameE x.1 _).mono ?_; rintro e w5 ⟨rfl, hb5⟩; have n1 := cell_later hb5 n1; have n2 := cell_later hb5 n2; have HB5 := Lib.hid (bthen HB1.out (Nat.le_refl _) hb5); skip; clear hb5 HB1)
                  go_quiet (fail)
                  go_wp2
                  case roundEnd => exact ⟨⟨k + 1, by omega, by go_num, HN, below_drewN HB5.out _⟩, by simp [intOf]; omega⟩
            · obtain ⟨y, hy⟩ : ∃ y, ss[k - 1]? = some y := ⟨ss[k - 1]'(by have := HL.out; omega), List.getElem?_eq_getElem _⟩
              have p1 := cell_later HB1.out (hcell (k - 1) y hy).1
              have HPV := Lib.hid (prev_s h0 hy)
              have hw1 : IntKind.i64.wrap ((k : Int) - 1) = ((k - 1 : Nat) : Int) := by rw [IntKind.wrap_i64]; omega
              have hk1 : (k : Int) - 1 = ((k - 1 : Nat) : Int) := by omega
              have g0 : 0 < k := by omega
              have g1 : ((k - 1 : Nat) : Int) < (n : Int) := by omega
              have g2 : (0 : Int) ≤ ((k - 1 : Nat) : Int) := by omega
              have g3 : (((k - 1 : Nat) : Int)).toNat = k - 1 := by omega
              cases hq : (Op.bytesLess x.1.toList y.1.toList || x.1.toList == y.1.toList)
              · have HQ : Hid (∀ q, prevV ss k = some q → leqS x.1 q = false) := Lib.hid (fun q hq2 => by rw [HPV.out] at hq2; cases hq2; exact hq)
                by_cases a1 : x.2 < 1
                · have HN : Hid (1 = validV ss) := Lib.hid (by rw [← HU.out, HST.out, code_1 HP.out HQ.out (.inl a1)]; rfl)
                  clear h0
                  go_wp2_with (go_at_call 26; refine (nameE x.1 _).mono ?_; rintro e w5 ⟨rfl, hb5⟩; have n1 := cell_later hb5 n1; have n2 := cell_later hb5 n2; have HB5 := Lib.hid (bthen HB1.out (Nat.le_refl _) hb5); have p1 := cell_later hb5 p1; clear hb5 HB1)
                  go_quiet (fail)
                  go_wp2
                  go_ret
                  exact ⟨ret_int HN.out, below_drewN HB5.out _⟩
                · by_cases a2 : 64 < x.2
                  · have HN : Hid (1 = validV ss) := Lib.hid (by rw [← HU.out, HST.out, code_1 HP.out HQ.out (.inr a2)]; rfl)
                    clear h0
                    go_wp2_with (go_at_call 26; refine (nameE x.1 _).mono ?_; rintro e w5 ⟨rfl, hb5⟩; have n1 := cell_later hb5 n1; have n2 := cell_later hb5 n2; have HB5 := Lib.hid (bthen HB1.out (Nat.le_refl _) hb5); have p1 := cell_later hb5 p1; clear hb5 HB1)
                    go_quiet (fail)
                    go_wp2
                    go_ret
                    exact ⟨ret_int HN.out, below_drewN HB5.out _⟩
                  · have HN : Hid (fromV (prevV ss (k + 1)) (ss.drop (k + 1)) = validV ss) := Lib.hid (by rw [← HU.out, HST.out, code_0 HP.out HQ.out (by omega)]; rfl)
                    clear h0
                    go_wp2_with (go_at_call 26; refine (nameE x.1 _).mono ?_; rintro e w5 ⟨rfl, hb5⟩; have n1 := cell_later hb5 n1; have n2 := cell_later hb5 n2; have HB5 := Lib.hid (bthen HB1.out (Nat.le_refl _) hb5); have p1 := cell_later hb5 p1; clear hb5 HB1)
                    go_quiet (fail)
                    go_wp2
                    case roundEnd => exact ⟨⟨k + 1, by omega, by go_num, HN, below_drewN HB5.out _⟩, by simp [intOf]; omega⟩
              · have HN : Hid (14 = validV ss) := Lib.hid (by rw [← HU.out, HST.out, HPV.out, code_14 HP.out hq]; rfl)
                clear h0
                go_wp2_with (go_at_call 26; refine (nameE x.1 _).mono ?_; rintro e w5 ⟨rfl, hb5⟩; have n1 := cell_later hb5 n1; have n2 := cell_later hb5 n2; have HB5 := Lib.hid (bthen HB1.out (Nat.le_refl _) hb5); have p1 := cell_later hb5 p1; clear hb5 HB1)
                go_quiet (fail)
                go_wp2
                go_ret
                exact ⟨ret_int HN.out, below_drewN HB5.out _⟩
        · have HP : Hid (¬ (x.1.toList.isEmpty = false ∧ nameV x.1 = false)) := Lib.hid (by rw [he]; simp)
          by_cases h0 : k = 0
          · have HQ : Hid (∀ q, prevV ss k = some q → leqS x.1 q = false) := Lib.hid (fun q hq => by rw [h0, prev_0] at hq; cases hq)
            by_cases a1 : x.2 < 1
            · have HN : Hid (1 = validV ss) := Lib.hid (by rw [← HU.out, HST.out, code_1 HP.out HQ.out (.inl a1)]; rfl)
              have g9 : ¬ (0 < k) := by omega
              clear h0
              go_wp2
              go_quiet (fail)
              go_wp2
              go_ret
              exact ⟨ret_int HN.out, below_drewN HB1.out _⟩
            · by_cases a2 : 64 < x.2
              · have HN : Hid (1 = validV ss) := Lib.hid (by rw [← HU.out, HST.out, code_1 HP.out HQ.out (.inr a2)]; rfl)
                have g9 : ¬ (0 < k) := by omega
                clear h0
                go_wp2
                go_quiet (fail)
                go_wp2
                go_ret
                exact ⟨ret_int HN.out, below_drewN HB1.out _⟩
              · have HN : Hid (fromV (prevV ss (k + 1)) (ss.drop (k + 1)) = validV ss) := Lib.hid (by rw [← HU.out, HST.out, code_0 HP.out HQ.out (by omega)]; rfl)
                have g9 : ¬ (0 < k) := by omega
                clear h0
                go_wp2
                go_quiet (fail)
                go_wp2
                case roundEnd => exact ⟨⟨k + 1, by omega, by go_num, HN, below_drewN HB1.out _⟩, by simp [intOf]; omega⟩
          · obtain ⟨y, hy⟩ : ∃ y, ss[k - 1]? = some y := ⟨ss[k - 1]'(by have := HL.out; omega), List.getElem?_eq_getElem _⟩
            have p1 := cell_later HB1.out (hcell (k - 1) y hy).1
            have HPV := Lib.hid (prev_s h0 hy)
            have hw1 : IntKind.i64.wrap ((k : Int) - 1) = ((k - 1 : Nat) : Int) := by rw [IntKind.wrap_i64]; omega
            have hk1 : (k : Int) - 1 = ((k - 1 : Nat) : Int) := by omega
            have g0 : 0 < k := by omega
            have g1 : ((k - 1 : Nat) : Int) < (n : Int) := by omega
            have g2 : (0 : Int) ≤ ((k - 1 : Nat) : Int) := by omega
            have g3 : (((k - 1 : Nat) : Int)).toNat = k - 1 := by omega
            cases hq : (Op.bytesLess x.1.toList y.1.toList || x.1.toList == y.1.toList)
            · have HQ : Hid (∀ q, prevV ss k = some q → leqS x.1 q = false) := Lib.hid (fun q hq2 => by rw [HPV.out] at hq2; cases hq2; exact hq)
              by_cases a1 : x.2 < 1
              · have HN : Hid (1 = validV ss) := Lib.hid (by rw [← HU.out, HST.out, code_1 HP.out HQ.out (.inl a1)]; rfl)
                clear h0
                go_wp2
                go_quiet (fail)
                go_wp2
                go_ret
                exact ⟨ret_int HN.out, below_drewN HB1.out _⟩
              · by_cases a2 : 64 < x.2
                · have HN : Hid (1 = validV ss) := Lib.hid (by rw [← HU.out, HST.out, code_1 HP.out HQ.out (.inr a2)]; rfl)
                  clear h0
                  go_wp2
                  go_quiet (fail)
                  go_wp2
                  go_ret
                  exact ⟨ret_int HN.out, below_drewN HB1.out _⟩
                · have HN : Hid (fromV (prevV ss (k + 1)) (ss.drop (k + 1)) = validV ss) := Lib.hid (by rw [← HU.out, HST.out, code_0 HP.out HQ.out (by omega)]; rfl)
                  clear h0
                  go_wp2
                  go_quiet (fail)
                  go_wp2
                  case roundEnd => exact ⟨⟨k + 1, by omega, by go_num, HN, below_drewN HB1.out _⟩, by simp [intOf]; omega⟩
            · have HN : Hid (14 = validV ss) := Lib.hid (by rw [← HU.out, HST.out, HPV.out, code_14 HP.out hq]; rfl)
              clear h0
              go_wp2
              go_quiet (fail)
              go_wp2
              go_ret
              exact ⟨ret_int HN.out, below_drewN HB1.out _⟩
      · have HN : Hid (0 = validV ss) := Lib.hid (by rw [← HU.out, from_end (by have := HL.out; omega)])
        go_wp2
        go_ret
        exact ⟨ret_int HN.out, HB.out⟩

set_option maxRecDepth 100000 in
set_option maxHeartbeats 4000000 in
theorem validF (A : Option Addr) (n c : Nat) (ss : List (ByteArray × Int)) (w : World) (hS : Prow w A n ss) (hn : n ≤ 1000) :
    Calls Try.prog 12 #[.slice A n c] w fun e w' => e = .returned (.int .i64 (validV ss)) ∧ Below w.heap.size w w' := by
  have HS := Lib.hid hS
  have HL := Lib.hid hS.1
  clear hS
  by_cases h64 : 64 < n
  · have HV : Hid (2 = validV ss) := Lib.hid (by unfold validV; rw [if_pos (by have := HL.out; omega)])
    go_enter Try.func12, Try.ntmps12
    go_wp2
    go_ret
    exact ⟨ret_int HV.out, .refl _ _⟩
  · have HV : Hid (fromV (prevV ss 0) (ss.drop 0) = validV ss) := Lib.hid (by unfold validV; rw [if_neg (by have := HL.out; omega)]; rfl)
    go_enter Try.func12, Try.ntmps12
    go_wp2
    go_loopw [3] (fun i wv => ∃ k : Nat, k ≤ n ∧ i = .int .i64 k ∧ Hid (fromV (prevV ss k) (ss.drop k) = validV ss) ∧ Below w.heap.size w wv) (fun i _ => n - (intOf i).toNat)
    case atStart => exact ⟨0, by omega, rfl, HV, .refl _ _⟩
    case round =>
      obtain ⟨k, hk, rfl, HU, hb⟩ := hrel
      have HB := Lib.hid hb
      clear hb HV
      by_cases hkn : k < n
      · obtain ⟨b, off, rfl, hcell⟩ := HS.out.2 (by omega)
        obtain ⟨x, hx⟩ : ∃ x, ss[k]? = some x := ⟨ss[k]'(by have := HL.out; omega), List.getElem?_eq_getElem _⟩
        obtain ⟨c1, c2⟩ := hcell k x hx
        have HST := Lib.hid (from_step hx)
        have hf2 : (off + k * 2) = (off + k * 2) := rfl
        clear hf2
        have c1 := cell_later HB.out c1
        have c2 := cell_later HB.out c2
        have HB1 := HB
        cases he : x.1.toList.isEmpty
        · cases hnm : nameV x.1
          · have HN : Hid (4 = validV ss) := Lib.hid (by rw [← HU.out, HST.out, code_4 he hnm]; rfl)
            go_wp2_with (go_at_call 27; refine (nameF x.1 _).mono ?_; rintro e w5 ⟨rfl, rfl⟩; have HB5 := HB1)
            go_ret
            exact ⟨ret_int HN.out, HB5.out⟩
          · have HP : Hid (¬ (x.1.toList.isEmpty = false ∧ nameV x.1 = false)) := Lib.hid (by rw [hnm]; simp)
            by_cases h0 : k = 0
            · have HQ : Hid (∀ q, prevV ss k = some q → leqS x.1 q = false) := Lib.hid (fun q hq => by rw [h0, prev_0] at hq; cases hq)
              by_cases a1 : x.2 < 1
              · have HN : Hid (1 = validV ss) := Lib.hid (by rw [← HU.out, HST.out, code_1 HP.out HQ.out (.inl a1)]; rfl)
                have g9 : ¬ (0 < k) := by omega
                clear h0
                go_wp2_with (go_at_call 27; refine (nameF x.1 _).mono ?_; rintro e w5 ⟨rfl, rfl⟩; have HB5 := HB1)
                go_quiet (fail)
                go_wp2
                go_ret
                exact ⟨ret_int HN.out, below_drewN HB5.out _⟩
              · by_cases a2 : 64 < x.2
                · have HN : Hid (1 = validV ss) := Lib.hid (by rw [← HU.out, HST.out, code_1 HP.out HQ.out (.inr a2)]; rfl)
                  have g9 : ¬ (0 < k) := by omega
                  clear h0
                  go_wp2_with (go_at_call 27; refine (nameF x.1 _).mono ?_; rintro e w5 ⟨rfl, rfl⟩; have HB5 := HB1)
                  go_quiet (fail)
                  go_wp2
                  go_ret
                  exact ⟨ret_int HN.out, below_drewN HB5.out _⟩
                · have HN : Hid (fromV (prevV ss (k + 1)) (ss.drop (k + 1)) = validV ss) := Lib.hid (by rw [← HU.out, HST.out, code_0 HP.out HQ.out (by omega)]; rfl)
                  have g9 : ¬ (0 < k) := by omega
                  clear h0
                  go_wp2_with (go_at_call 27; refine (nameF x.1 _).mono ?_; rintro e w5 ⟨rfl, rfl⟩; have HB5 := HB1)
                  go_quiet (fail)
                  go_wp2
                  case roundEnd => exact ⟨⟨k + 1, by omega, by go_num, HN, below_drewN HB5.out _⟩, by simp [intOf]; omega⟩
            · obtain ⟨y, hy⟩ : ∃ y, ss[k - 1]? = some y := ⟨ss[k - 1]'(by have := HL.out; omega), List.getElem?_eq_getElem _⟩
              have p1 := cell_later HB1.out (hcell (k - 1) y hy).1
              have HPV := Lib.hid (prev_s h0 hy)
              have hw1 : IntKind.i64.wrap ((k : Int) - 1) = ((k - 1 : Nat) : Int) := by rw [IntKind.wrap_i64]; omega
              have hk1 : (k : Int) - 1 = ((k - 1 : Nat) : Int) := by omega
              have g0 : 0 < k := by omega
              have g1 : ((k - 1 : Nat) : Int) < (n : Int) := by omega
              have g2 : (0 : Int) ≤ ((k - 1 : Nat) : Int) := by omega
              have g3 : (((k - 1 : Nat) : Int)).toNat = k - 1 := by omega
              have HFL := Lib.hid (less_flip x.1.toList y.1.toList)
              cases hq : Op.bytesLess y.1.toList x.1.toList
              · have HN : Hid (14 = validV ss) := Lib.hid (by rw [← HU.out, HST.out, HPV.out, code_14 HP.out (by unfold leqS; rw [HFL.out, hq]; rfl)]; rfl)
                clear h0
                go_wp2_with (go_at_call 27; refine (nameF x.1 _).mono ?_; rintro e w5 ⟨rfl, rfl⟩; have HB5 := HB1)
                go_quiet (fail)
                go_wp2
                go_ret
                exact ⟨ret_int HN.out, below_drewN HB5.out _⟩
              · have HQ : Hid (∀ q, prevV ss k = some q → leqS x.1 q = false) := Lib.hid (fun q hq2 => by rw [HPV.out] at hq2; cases hq2; unfold leqS; rw [HFL.out, hq]; rfl)
                by_cases a1 : x.2 < 1
                · have HN : Hid (1 = validV ss) := Lib.hid (by rw [← HU.out, HST.out, code_1 HP.out HQ.out (.inl a1)]; rfl)
                  clear h0
                  go_wp2_with (go_at_call 27; refine (nameF x.1 _).mono ?_; rintro e w5 ⟨rfl, rfl⟩; have HB5 := HB1)
                  go_quiet (fail)
                  go_wp2
                  go_ret
                  exact ⟨ret_int HN.out, below_drewN HB5.out _⟩
                · by_cases a2 : 64 < x.2
                  · have HN : Hid (1 = validV ss) := Lib.hid (by rw [← HU.out, HST.out, code_1 HP.out HQ.out (.inr a2)]; rfl)
                    clear h0
                    go_wp2_with (go_at_call 27; refine (nameF x.1 _).mono ?_; rintro e w5 ⟨rfl, rfl⟩; have HB5 := HB1)
                    go_quiet (fail)
                    go_wp2
                    go_ret
                    exact ⟨ret_int HN.out, below_drewN HB5.out _⟩
                  · have HN : Hid (fromV (prevV ss (k + 1)) (ss.drop (k + 1)) = validV ss) := Lib.hid (by rw [← HU.out, HST.out, code_0 HP.out HQ.out (by omega)]; rfl)
                    clear h0
                    go_wp2_with (go_at_call 27; refine (nameF x.1 _).mono ?_; rintro e w5 ⟨rfl, rfl⟩; have HB5 := HB1)
                    go_quiet (fail)
                    go_wp2
                    case roundEnd => exact ⟨⟨k + 1, by omega, by go_num, HN, below_drewN HB5.out _⟩, by simp [intOf]; omega⟩
        · have HP : Hid (¬ (x.1.toList.isEmpty = false ∧ nameV x.1 = false)) := Lib.hid (by rw [he]; simp)
          by_cases h0 : k = 0
          · have HQ : Hid (∀ q, prevV ss k = some q → leqS x.1 q = false) := Lib.hid (fun q hq => by rw [h0, prev_0] at hq; cases hq)
            by_cases a1 : x.2 < 1
            · have HN : Hid (1 = validV ss) := Lib.hid (by rw [← HU.out, HST.out, code_1 HP.out HQ.out (.inl a1)]; rfl)
              have g9 : ¬ (0 < k) := by omega
              clear h0
              go_wp2
              go_quiet (fail)
              go_wp2
              go_ret
              exact ⟨ret_int HN.out, below_drewN HB1.out _⟩
            · by_cases a2 : 64 < x.2
              · have HN : Hid (1 = validV ss) := Lib.hid (by rw [← HU.out, HST.out, code_1 HP.out HQ.out (.inr a2)]; rfl)
                have g9 : ¬ (0 < k) := by omega
                clear h0
                go_wp2
                go_quiet (fail)
                go_wp2
                go_ret
                exact ⟨ret_int HN.out, below_drewN HB1.out _⟩
              · have HN : Hid (fromV (prevV ss (k + 1)) (ss.drop (k + 1)) = validV ss) := Lib.hid (by rw [← HU.out, HST.out, code_0 HP.out HQ.out (by omega)]; rfl)
                have g9 : ¬ (0 < k) := by omega
                clear h0
                go_wp2
                go_quiet (fail)
                go_wp2
                case roundEnd => exact ⟨⟨k + 1, by omega, by go_num, HN, below_drewN HB1.out _⟩, by simp [intOf]; omega⟩
          · obtain ⟨y, hy⟩ : ∃ y, ss[k - 1]? = some y := ⟨ss[k - 1]'(by have := HL.out; omega), List.getElem?_eq_getElem _⟩
            have p1 := cell_later HB1.out (hcell (k - 1) y hy).1
            have HPV := Lib.hid (prev_s h0 hy)
            have hw1 : IntKind.i64.wrap ((k : Int) - 1) = ((k - 1 : Nat) : Int) := by rw [IntKind.wrap_i64]; omega
            have hk1 : (k : Int) - 1 = ((k - 1 : Nat) : Int) := by omega
            have g0 : 0 < k := by omega
            have g1 : ((k - 1 : Nat) : Int) < (n : Int) := by omega
            have g2 : (0 : Int) ≤ ((k - 1 : Nat) : Int) := by omega
            have g3 : (((k - 1 : Nat) : Int)).toNat = k - 1 := by omega
            have HFL := Lib.hid (less_flip x.1.toList y.1.toList)
            cases hq : Op.bytesLess y.1.toList x.1.toList
            · have HN : Hid (14 = validV ss) := Lib.hid (by rw [← HU.out, HST.out, HPV.out, code_14 HP.out (by unfold leqS; rw [HFL.out, hq]; rfl)]; rfl)
              clear h0
              go_wp2
              go_quiet (fail)
              go_wp2
              go_ret
              exact ⟨ret_int HN.out, below_drewN HB1.out _⟩
            · have HQ : Hid (∀ q, prevV ss k = some q → leqS x.1 q = false) := Lib.hid (fun q hq2 => by rw [HPV.out] at hq2; cases hq2; unfold leqS; rw [HFL.out, hq]; rfl)
              by_cases a1 : x.2 < 1
              · have HN : Hid (1 = validV ss) := Lib.hid (by rw [← HU.out, HST.out, code_1 HP.out HQ.out (.inl a1)]; rfl)
                clear h0
                go_wp2
                go_quiet (fail)
                go_wp2
                go_ret
                exact ⟨ret_int HN.out, below_drewN HB1.out _⟩
              · by_cases a2 : 64 < x.2
                · have HN : Hid (1 = validV ss) := Lib.hid (by rw [← HU.out, HST.out, code_1 HP.out HQ.out (.inr a2)]; rfl)
                  clear h0
                  go_wp2
                  go_quiet (fail)
                  go_wp2
                  go_ret
                  exact ⟨ret_int HN.out, below_drewN HB1.out _⟩
                · have HN : Hid (fromV (prevV ss (k + 1)) (ss.drop (k + 1)) = validV ss) := Lib.hid (by rw [← HU.out, HST.out, code_0 HP.out HQ.out (by omega)]; rfl)
                  clear h0
                  go_wp2
                  go_quiet (fail)
                  go_wp2
                  case roundEnd => exact ⟨⟨k + 1, by omega, by go_num, HN, below_drewN HB1.out _⟩, by simp [intOf]; omega⟩
      · have HN : Hid (0 = validV ss) := Lib.hid (by rw [← HU.out, from_end (by have := HL.out; omega)])
        go_wp2
        go_ret
        exact ⟨ret_int HN.out, HB.out⟩
end Go.Proofs.Ytknpcphaieoocaa
