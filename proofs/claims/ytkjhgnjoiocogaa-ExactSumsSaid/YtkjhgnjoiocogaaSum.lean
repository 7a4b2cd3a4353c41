/- Sums of lists of integers: the plain law, and the contracts of the two functions Sum. */ -/
import Derived.Test.YtkjhgnjoiocogaaWalks
namespace Go.Proofs.Ytkjhgnjoiocogaa
open Go.RowKit
set_option linter.unusedSimpArgs false
set_option linter.unusedVariables false

/-- the sum of a list -/
def isum : List Int → Int
  | [] => 0
  | x :: l => x + isum l
theorem isum_append (a b : List Int) : isum (a ++ b) = isum a + isum b := by
  induction a with
  | nil => simp [isum]
  | cons x l ih => simp only [List.cons_append, isum, ih]; omega
theorem isum_snoc (a : List Int) (x : Int) : isum (a ++ [x]) = isum a + x := by rw [isum_append]; simp [isum]
theorem isum_reverse (a : List Int) : isum a.reverse = isum a := by
  induction a with
  | nil => rfl
  | cons x l ih => rw [List.reverse_cons, isum_snoc, ih]; simp only [isum]; omega
theorem isum_bd (l : List Int) (h : l.all sm = true) : -(1073741824 * (l.length : Int)) ≤ isum l ∧ isum l ≤ 1073741824 * (l.length : Int) := by
  induction l with
  | nil => simp [isum]
  | cons x l ih =>
    simp only [List.all_cons, Bool.and_eq_true] at h
    have h1 := sm_yes h.1
    have h2 := ih h.2
    simp only [isum, List.length_cons]
    omega
/-- all elements and the sum are small -/
def smB (l : List Int) : Bool := l.all sm && sm (isum l)
def smV (l : List Int) : Int := if smB l = true then isum l else 0
theorem smB_no {l : List Int} {k : Nat} {x : Int} (h : l[k]? = some x) (hx : sm x = false) : smB l = false := by
  have hm : x ∈ l := List.mem_of_getElem? h
  unfold smB
  have : l.all sm = false := by
    rw [List.all_eq_false]; exact ⟨x, hm, by simp [hx]⟩
  rw [this]; rfl
theorem smB_reverse (l : List Int) : smB l.reverse = smB l := by unfold smB; rw [isum_reverse, List.all_reverse]
theorem smV_reverse (l : List Int) : smV l.reverse = smV l := by unfold smV; rw [smB_reverse, isum_reverse]

/-- a slice of n elements reads as a list of integers -/
def Row (w : World) (A : Option Addr) (n : Nat) (xs : List Int) : Prop :=
  xs.length = n ∧ (0 < n → ∃ b off, A = some ⟨b, off, none⟩ ∧ ∀ (j : Nat) (x : Int), xs[j]? = some x → w.cell? ⟨b, off + j, none⟩ = some (.int .i64 x))

set_option maxHeartbeats 1000000 in
theorem sumE (A : Option Addr) (n c : Nat) (xs : List Int) (w : World) (hr : Row w A n xs) (hn : n ≤ 1000) :
    Calls Try.prog 19 #[.slice A n c] w fun e w' => e = .returned (.tuple #[.int .i64 (smV xs), .bool (smB xs)]) ∧ w = w' := by
  obtain ⟨hlen, hrow⟩ := hr
  have HL := Lib.hid hlen
  clear hlen
  go_enter Try.func19, Try.ntmps19
  go_wp2
  go_loop [4, 9] (fun s i => ∃ k : Nat, k ≤ n ∧ i = .int .i64 k ∧ s = .int .i64 (isum (xs.take k)) ∧ (xs.take k).all sm = true) (fun _ i => n - (intOf i).toNat)
  case atStart => exact ⟨0, by omega, rfl, rfl, rfl⟩
  case round =>
    obtain ⟨k, hk, rfl, rfl, hall⟩ := hrel
    have HA := Lib.hid hall
    clear hall
    have hb := isum_bd (xs.take k) HA.out
    have hlt : (xs.take k).length ≤ k := List.length_take_le _ _
    have hb1 : -1073741824000 ≤ isum (xs.take k) := by omega
    have hb2 : isum (xs.take k) ≤ 1073741824000 := by omega
    clear hb hlt
    by_cases hkn : k < n
    · obtain ⟨b, off, rfl, hcell⟩ := hrow (by omega)
      obtain ⟨x, hx⟩ : ∃ x, xs[k]? = some x := ⟨xs[k]'(by have := HL.out; omega), List.getElem?_eq_getElem _⟩
      have hc := hcell k x hx
      have HX := Lib.hid hx
      have ht : Hid (xs.take (k + 1) = xs.take k ++ [x]) := Lib.hid (by rw [List.take_add_one, hx]; rfl)
      clear hcell hx hrow
      cases hs : sm x
      · have HS := Lib.hid hs
        have hno : Hid (smB xs = false) := Lib.hid (smB_no HX.out HS.out)
        go_wp2_with (go_at_call 36; refine (smallE _ _).mono ?_; rintro e w' ⟨rfl, rfl⟩)
        go_ret2
        exact ⟨ret_ib (by unfold smV; rw [hno.out]; rfl) hno.out.symm, rfl⟩
      · have HS := Lib.hid hs
        have bx := sm_yes hs
        go_wp2_with (go_at_call 36; refine (smallE _ _).mono ?_; rintro e w' ⟨rfl, rfl⟩)
        go_round
        case rel => exact ⟨k + 1, by omega, by go_num, by rw [ht.out, isum_snoc], by rw [ht.out, List.all_append, HA.out]; simp [HS.out]⟩
        case measure => simp [intOf]; omega
    · obtain rfl : k = n := by omega
      have he : xs.take k = xs := List.take_of_length_le (by have := HL.out; omega)
      rw [he] at HA hb1 hb2 ⊢
      have HE := Lib.hid he
      clear he
      go_wp2_with (go_at_call 37; refine (checkedE _ _).mono ?_; rintro e w' ⟨rfl, rfl⟩)
      go_ret2
      exact ⟨ret_ib (by unfold smV smB valC; rw [HA.out]; simp) (by unfold smB; rw [HA.out]; simp), rfl⟩

set_option maxHeartbeats 1000000 in
theorem sumF (A : Option Addr) (n c : Nat) (xs : List Int) (w : World) (hr : Row w A n xs) (hn : n ≤ 1000) :
    Calls Try.prog 20 #[.slice A n c] w fun e w' => e = .returned (.tuple #[.int .i64 (smV xs), .bool (smB xs)]) ∧ w = w' := by
  obtain ⟨hlen, hrow⟩ := hr
  have HL := Lib.hid hlen
  clear hlen
  go_enter Try.func20, Try.ntmps20
  go_wp2
  go_loop [4, 5] (fun s i => ∃ k : Nat, k ≤ n ∧ i = .int .i64 k ∧ s = .int .i64 (isum (xs.take k)) ∧ (xs.take k).all sm = true) (fun _ i => n - (intOf i).toNat)
  case atStart => exact ⟨0, by omega, rfl, rfl, rfl⟩
  case round =>
    obtain ⟨k, hk, rfl, rfl, hall⟩ := hrel
    have HA := Lib.hid hall
    clear hall
    have hb := isum_bd (xs.take k) HA.out
    have hlt : (xs.take k).length ≤ k := List.length_take_le _ _
    have hb1 : -1073741824000 ≤ isum (xs.take k) := by omega
    have hb2 : isum (xs.take k) ≤ 1073741824000 := by omega
    clear hb hlt
    by_cases hkn : k < n
    · obtain ⟨b, off, rfl, hcell⟩ := hrow (by omega)
      obtain ⟨x, hx⟩ : ∃ x, xs[k]? = some x := ⟨xs[k]'(by have := HL.out; omega), List.getElem?_eq_getElem _⟩
      have hc := hcell k x hx
      have HX := Lib.hid hx
      have ht : Hid (xs.take (k + 1) = xs.take k ++ [x]) := Lib.hid (by rw [List.take_add_one, hx]; rfl)
      clear hcell hx hrow
      cases hs : sm x
      · have HS := Lib.hid hs
        have hno : Hid (smB xs = false) := Lib.hid (smB_no HX.out HS.out)
        go_wp2_with (go_at_call 32; refine (smallF _ _).mono ?_; rintro e w' ⟨rfl, rfl⟩)
        go_ret2
        exact ⟨ret_ib (by unfold smV; rw [hno.out]; rfl) hno.out.symm, rfl⟩
      · have HS := Lib.hid hs
        have bx := sm_yes hs
        go_wp2_with (go_at_call 32; refine (smallF _ _).mono ?_; rintro e w' ⟨rfl, rfl⟩)
        go_round
        case rel => exact ⟨k + 1, by omega, by go_num, by rw [ht.out, isum_snoc], by rw [ht.out, List.all_append, HA.out]; simp [HS.out]⟩
        case measure => simp [intOf]; omega
    · obtain rfl : k = n := by omega
      have he : xs.take k = xs := List.take_of_length_le (by have := HL.out; omega)
      rw [he] at HA hb1 hb2 ⊢
      have HE := Lib.hid he
      clear he
      cases hs : sm (isum xs)
      all_goals
        have HS := Lib.hid hs
        go_wp2_with (go_at_call 32; refine (smallF _ _).mono ?_; rintro e w' ⟨rfl, rfl⟩)
        go_ret2
        exact ⟨ret_ib (by unfold smV smB; rw [HA.out, HS.out]; simp) (by unfold smB; rw [HA.out, HS.out]; simp), rfl⟩
end Go.Proofs.Ytkjhgnjoiocogaa
