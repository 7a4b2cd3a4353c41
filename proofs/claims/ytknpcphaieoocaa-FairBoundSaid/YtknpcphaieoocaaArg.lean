/- Arguments that are slices of integers; what Next answers for tasks that were made. -/
import Derived.Test.YtknpcphaieoocaaKno
import Derived.Test.YtknpcphaieoocaaFrame
namespace Go.Proofs.Ytknpcphaieoocaa
open Go.ChangeShapes Go.WideShapes Go.ChangeAt Go.RowKit
set_option linter.unusedSimpArgs false
set_option linter.unusedVariables false

/-- a slice of integers that came in -/
def Irow (W : World) (A : Option Addr) (n : Nat) (zs : List Int) : Prop := Nrow W A n zs ∧ (∀ z ∈ zs, -9223372036854775808 ≤ z ∧ z ≤ 9223372036854775807) ∧ (0 < n → ∀ a, A = some a → a.block < W.heap.size)
theorem irow_of_trod {H : Type} {enc : TypeId × Value → H} {W : World} {a0 : Option Addr} {len0 cap0 : Nat} {d : DataW H} {p : List MemPlace}
    (h0 : DataW.Trod enc Try.prog W 0 (fun _ => true) true 24 (.slice a0 len0 cap0) d p) : ∃ xs, Irow W a0 len0 xs := by
  obtain ⟨fuel, hf⟩ := h0
  rcases open_ints Try.underlying24 Try.underlying3 (by kernel_rfl) hf with ⟨hcs, _⟩ | ⟨x, l, c, zs, hcs, _, hl, hm, hz, _, hcell, hwz⟩
  · simp [Value.cells] at hcs
    obtain ⟨rfl, rfl, rfl⟩ := hcs
    exact ⟨[], ⟨rfl, fun h => absurd h (by omega)⟩, fun z h => by simp at h, fun h => absurd h (by omega)⟩
  · simp [Value.cells] at hcs
    obtain ⟨rfl, rfl, rfl⟩ := hcs
    have hz' : zs.length = cap0 := by simpa using hz
    have hw : ∀ z ∈ zs, -9223372036854775808 ≤ z ∧ z ≤ 9223372036854775807 := fun z hzz => bounds_i64 (hwz z hzz)
    refine ⟨zs.take len0, ⟨by rw [List.length_take]; omega, fun hn => ?_⟩, fun z h => hw z (List.mem_of_mem_take h), fun hn a ha => ?_⟩
    · obtain ⟨b, off, spot⟩ := x
      have hc := hcell 0 (by omega)
      have hspot : spot = none := by simpa [Addr.add] using World.cell?_spot hc
      subst hspot
      refine ⟨b, off, rfl, fun j v hj => ?_⟩
      have hjl : j < len0 := by
        have := (List.getElem?_eq_some_iff.1 hj).1
        rw [List.length_take] at this; omega
      have hcj := hcell j (by omega)
      rw [addr_lit] at hcj
      rw [List.getElem?_take_of_lt hjl] at hj
      rw [hcj, List.getD_eq_getElem?_getD, hj]; rfl
    · cases ha
      have hc := hcell 0 (by omega)
      have := World.block_lt_of_cell? W _ hc
      rwa [blk_add] at this
theorem good_needs {ts : List Task} (h : ∀ t ∈ ts, goodT t) (w : World) : ∀ t ∈ ts, needsOk w t := by
  intro t ht
  obtain ⟨h1, h2, h3, h4, h5, _⟩ := h t ht
  refine ⟨⟨[], ?_⟩, by omega, by omega, fun _ => h3⟩
  rw [h1, h2]; exact Nrow.nil w
theorem nrow0 (w : World) (A : Option Addr) : Nrow w A 0 [] := ⟨rfl, fun h => absurd h (by omega)⟩
/-- Next at tasks that were made: nothing, as there is nothing or it does not fit; or the chosen one -/
theorem next_made {ss us : List (ByteArray × Int)} {ts : List Task} {r cp : Int} {w w' : World} {e : Ending} (hg : ∀ t ∈ ts, goodT t) (h : NextR ss us ts r cp w e w') :
    Below w.heap.size w w' ∧ ((okV ss us ts r cp = false ∧ e = .returned (.tuple #[zTask.val, .bool false])) ∨
      (okV ss us ts r cp = true ∧ ∃ na nc, e = .returned (.tuple #[Task.val { (minT ss us ts) with na := na, nn := 0, nc := nc }, .bool true]))) := by
  obtain ⟨hb, h1 | ⟨h1, na, nc, he, _⟩⟩ := h
  · exact ⟨hb, .inl h1⟩
  · refine ⟨hb, .inr ⟨h1, na, nc, ?_⟩⟩
    have hne : ts ≠ [] := fun e => by subst e; simp [okV] at h1
    have := (hg _ (minT_mem ss us hne)).2.1
    rw [he]
    simp only [Task.val, this]
theorem madeN {A : Option Addr} {n c : Nat} {zs : List Int} {w w' : World} {e : Ending} (h : MadeR A n c zs w e w') :
    ∃ (A1 A2 A3 : Option Addr) (c1 c2 c3 g N M K : Nat) (ts : List Task) (ss us : List (ByteArray × Int)),
    e = .returned (.tuple #[.slice A1 N c1, .slice A2 M c2, .slice A3 K c3, .pointer (some ⟨g, 0, none⟩)])
    ∧ Below w.heap.size w w' ∧ Trow w' A1 N ts ∧ Prow w' A2 M ss ∧ Prow w' A3 K us ∧ Gst w' g A n c zs ∧ N < 9 ∧ M ≤ 4 ∧ K ≤ 4 ∧ (∀ t ∈ ts, goodT t) ∧ smallU us ∧ w.heap.size ≤ g ∧ (∀ a, A1 = some a → g < a.block) ∧ (∀ a, A2 = some a → g < a.block) ∧ (∀ a, A3 = some a → g < a.block) := by
  obtain ⟨A1, A2, A3, c1, c2, c3, g, ts, ss, us, h1, h2, h3, h4, h5, h6, h7, h8, h9, h10, h11, h12, h13, h14, h15⟩ := h
  exact ⟨A1, A2, A3, c1, c2, c3, g, _, _, _, ts, ss, us, h1, h2, h3, h4, h5, h6, h7, h8, h9, h10, h11, h12, h13, h14, h15⟩
end Go.Proofs.Ytknpcphaieoocaa
