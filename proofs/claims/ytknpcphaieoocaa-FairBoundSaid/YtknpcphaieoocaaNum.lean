/- The numbers that are used one after another; the names of the owners. -/
import Derived.Test.YtknpcphaieoocaaNexf
namespace Go.Proofs.Ytknpcphaieoocaa
open Go.RowKit
set_option linter.unusedSimpArgs false
set_option linter.unusedVariables false

/-- the remainder, never negative -/
def placeV (x n : Int) : Int := (x.tmod n + n).tmod n
theorem placeV_bd (x n : Int) (h : 0 < n) : 0 ≤ placeV x n ∧ placeV x n < n := by
  have h1 := Int.lt_tmod_of_pos x h
  unfold placeV
  exact ⟨Int.tmod_nonneg n (by omega), Int.tmod_lt_of_pos _ h⟩
theorem placeE (x n : Int) (w : World) (h0 : 0 < n) (h1 : n ≤ 4294967296) (hx : -9223372036854775808 ≤ x ∧ x ≤ 9223372036854775807) :
    Calls Try.prog 25 #[.int .i64 x, .int .i64 n] w fun e w' => e = .returned (.int .i64 (placeV x n)) ∧ w = w' := by
  have hz : ¬ (n = 0) := by omega
  have hl : decide (n < 1) = false := by simp; omega
  have a1 := Int.lt_tmod_of_pos x h0
  have a2 := Int.tmod_lt_of_pos x h0
  have w1 : wrap64 (x.tmod n) = x.tmod n := by unfold wrap64; omega
  have w2 : wrap64 (x.tmod n + n) = x.tmod n + n := by unfold wrap64; omega
  have b := placeV_bd x n h0
  have w3 : wrap64 ((x.tmod n + n).tmod n) = (x.tmod n + n).tmod n := by unfold placeV at b; unfold wrap64; omega
  have H : Hid ((x.tmod n + n).tmod n = placeV x n) := Lib.hid rfl
  clear b hx a1 a2
  go_enter Try.func25, Try.ntmps25
  go_wp2
  go_ret
  exact ⟨ret_int (by first | exact H.out | (rw [← H.out]; simp_all)), rfl⟩

/-- the state of the numbers: how many have been used -/
def Gst (w : World) (g : Nat) (A : Option Addr) (n c : Nat) (zs : List Int) : Prop :=
  (∃ i : Nat, i ≤ n ∧ w.cell? ⟨g, 1, none⟩ = some (.int .i64 i)) ∧ w.cell? ⟨g, 0, none⟩ = some (.slice A n c) ∧ w.frozen? ⟨g, 1, none⟩ = false ∧ Nrow w A n zs
    ∧ (0 < n → ∀ a, A = some a → a.block ≠ g) ∧ n ≤ 1000 ∧ (∀ z ∈ zs, -9223372036854775808 ≤ z ∧ z ≤ 9223372036854775807)
theorem Gst.of_cells {w w' : World} {g : Nat} {A : Option Addr} {n c : Nat} {zs : List Int} (h : Gst w g A n c zs) (hc : ∀ a, w'.cell? a = w.cell? a) (hf : ∀ a, w'.frozen? a = w.frozen? a) : Gst w' g A n c zs := by
  obtain ⟨⟨i, hi, h1⟩, h0, hz, hr, hne, hn, hb⟩ := h
  exact ⟨⟨i, hi, by rw [hc]; exact h1⟩, by rw [hc]; exact h0, by rw [hf]; exact hz, ⟨hr.1, fun hp => by obtain ⟨b, o, e, hh⟩ := hr.2 hp; exact ⟨b, o, e, fun j x hx => by rw [hc]; exact hh j x hx⟩⟩, hne, hn, hb⟩
theorem Gst.later {w w' : World} {g : Nat} {A : Option Addr} {n c : Nat} {zs : List Int} (h : Gst w g A n c zs) (hb : Below w.heap.size w w') : Gst w' g A n c zs := by
  obtain ⟨⟨i, hi, h1⟩, h0, hz, hr, hne, hn, hbd⟩ := h
  exact ⟨⟨i, hi, cell_later hb h1⟩, cell_later hb h0, (hb.frozen (p := ⟨g, 1, none⟩) (World.block_lt_of_cell? w ⟨g, 1, none⟩ h1)).trans hz, hr.later hb, hne, hn, hbd⟩
theorem Gst.set {w : World} {g : Nat} {A : Option Addr} {n c : Nat} {zs : List Int} (h : Gst w g A n c zs) {j : Nat} (hj : j ≤ n) : Gst (w.setCell ⟨g, 1, none⟩ (.int .i64 j)) g A n c zs := by
  obtain ⟨⟨i, hi, h1⟩, h0, hz, hr, hne, hn, hbd⟩ := h
  refine ⟨⟨j, hj, by simp [World.cell?_setCell_same', h1]⟩, by rw [World.cell?_setCell_other (h := by simp)]; exact h0, by simpa using hz, ⟨hr.1, fun hp => (nrow_set hr _ _ (hne hp)).2 hp⟩, hne, hn, hbd⟩

set_option maxHeartbeats 1000000 in
theorem nextN (g : Nat) (A : Option Addr) (n c : Nat) (zs : List Int) (m : Int) (w : World) (h : Gst w g A n c zs) (hm : 0 < m) (hm1 : m ≤ 4294967296) :
    Calls Try.prog 24 #[.pointer (some ⟨g, 0, none⟩), .int .i64 m] w fun e w' => ∃ v : Nat, e = .returned (.int .i64 v) ∧ (v : Int) < m ∧ Gst w' g A n c zs ∧ w.grownBy w' (some g) := by
  have HG := Lib.hid h
  obtain ⟨⟨i, hi, c1⟩, c0, hfz, hrow, hne, hn, hbd⟩ := h
  have hl : decide (m < 1) = false := by simp; omega
  have HM := Lib.hid hm
  by_cases hin : i < n
  · obtain ⟨x, hx⟩ : ∃ x, zs[i]? = some x := ⟨zs[i]'(by have := hrow.1; omega), List.getElem?_eq_getElem _⟩
    obtain ⟨b, off, rfl, hcell⟩ := hrow.2 (by omega)
    have cx := hcell i x hx
    have hxb := Lib.hid (hbd x (List.mem_of_getElem? hx))
    have hnb := hne (by omega) _ rfl
    have hnb2 : ¬ b = g := hnb
    clear hne hnb hrow hcell hx hbd
    have hwi : IntKind.i64.wrap (i : Int) = i := by rw [IntKind.wrap_i64]; omega
    have hwj : (i : Int) < (n : Int) := by omega
    have P := fun w => flipw (placeE x m w hm hm1 hxb.out)
    clear hm
    go_enter Try.func24, Try.ntmps24
    go_wp2
    go_quiet (fail)
    go_wp2
    go_quiet ((go_at_call 25; with_reducible exact Calls.quiet_of_same (P _)))
    go_wp2
    go_ret
    have hpv := placeV_bd x m HM.out
    refine ⟨(placeV x m).toNat, ret_int (by omega), by omega, ?_, ?_⟩
    · exact (HG.out.set (j := i + 1) (by omega)).of_cells (fun _ => rfl) (fun _ => rfl)
    · exact ⟨rfl, rfl, rfl, by simp [World.setCell, World.drewN], fun k _ hk => Below.heap_setCell _ _ _ _ (fun e => hk (by rw [e]))⟩
  · have : i = n := by omega
    subst this
    clear hrow hne hbd hm hin
    go_enter Try.func24, Try.ntmps24
    go_wp2
    go_quiet (fail)
    go_wp2
    go_ret
    refine ⟨0, rfl, HM.out, ?_, ?_⟩
    · exact HG.out.of_cells (fun _ => rfl) (fun _ => rfl)
    · exact ⟨rfl, rfl, rfl, Nat.le_refl _, fun _ _ _ => rfl⟩
/-- the world of the names' block -/
theorem namesE (w : World) : Calls Try.prog 13 #[] w fun e w' => e = .returned (.slice (some ⟨w.heap.size, 0, none⟩) 4 4) ∧ w.alloc (.cells #[.string ⟨#[]⟩, .string ⟨#[97]⟩, .string ⟨#[98]⟩, .string ⟨#[99]⟩] 9) = w' := by
  go_enter Try.func13, Try.ntmps13
  go_wp2
  go_ret
  exact ⟨rfl, rfl⟩
end Go.Proofs.Ytknpcphaieoocaa
