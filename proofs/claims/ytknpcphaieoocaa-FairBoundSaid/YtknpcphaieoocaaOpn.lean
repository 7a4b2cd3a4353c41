/- Arguments that are slices of structs. -/
import Derived.Test.YtknpcphaieoocaaLig
import Derived.Deep.SlicePairs
namespace Go.Proofs.Ytknpcphaieoocaa
open Go.ChangeShapes Go.WideShapes Go.ChangeAt Go.RowKit
set_option linter.unusedSimpArgs false
set_option linter.unusedVariables false

instance : Inhabited Task := ⟨zTask⟩
theorem add0 (a : Addr) : a.add 0 = a := by unfold Addr.add; simp
theorem add_spot {a : Addr} {W : World} {v : Value} (h : W.cell? a = some v) : ∃ b off, a = ⟨b, off, none⟩ := by
  obtain ⟨b, off, spot⟩ := a
  have hspot := World.cell?_spot h
  exact ⟨b, off, by simpa using hspot⟩
theorem prow_of_trod {H : Type} {enc : TypeId × Value → H} {W : World} {T E : TypeId} {f0 f1 : Field} (hT : Try.prog.underlying T = some (.slice E)) (hE : Try.prog.underlying E = some (.struct #[f0, f1])) (ce : Try.prog.cellsOf E = 2)
    (o0 : f0.offset = 0) (o1 : f1.offset = 1) (t0 : f0.type = 9) (t1 : f1.type = 3) {a0 : Option Addr} {len0 cap0 : Nat} {d : DataW H} {p : List MemPlace}
    (h0 : DataW.Trod enc Try.prog W 0 (fun _ => true) true T (.slice a0 len0 cap0) d p) : ∃ us, Prow W a0 len0 us ∧ (a0 = none → cap0 = 0) := by
  obtain ⟨fuel, hf⟩ := h0
  rcases Go.Deep.open_slice_pairs hT hE ce o0 o1 (by rw [t0]; kernel_rfl) (by rw [t1]; kernel_rfl) hf with ⟨hcs, _⟩ | ⟨a, len, cap, m, n, V0, V1, D0, D1, P0, P1, hcs, _, hl, hm, hmm, _, hx⟩
  · simp [Value.cells] at hcs
    obtain ⟨rfl, rfl, rfl⟩ := hcs
    exact ⟨[], ⟨rfl, fun h => absurd h (by omega)⟩, fun _ => rfl⟩
  · simp [Value.cells] at hcs
    obtain ⟨rfl, rfl, rfl⟩ := hcs
    have hmc : m = cap0 := by simpa using hmm
    have each : ∀ i, i < len0 → ∃ x : ByteArray × Int, W.cell? (a.add (i * 2)) = some (.string x.1) ∧ W.cell? (a.add (i * 2 + 1)) = some (.int .i64 x.2) := by
      intro i hi
      obtain ⟨c0, c1, r0, r1⟩ := hx i (by omega)
      rw [t0] at r0
      rw [t1] at r1
      obtain ⟨s, e0, _, _⟩ := DataW.trod_string Try.underlying9 r0
      obtain ⟨z, e1, _, _⟩ := DataW.trod_int Try.underlying3 r1
      simp at e0 e1
      exact ⟨(s, z), by rw [c0, e0], by rw [c1, e1]⟩
    obtain ⟨f, hf2⟩ := Go.Deep.choose_lt each
    refine ⟨(List.range len0).map f, ⟨by simp, fun hn => ?_⟩, fun h => by cases h⟩
    obtain ⟨b, off, rfl⟩ := add_spot (by have := (hf2 0 hn).1; rwa [Nat.zero_mul, add0] at this)
    refine ⟨b, off, rfl, fun j x hj => ?_⟩
    rw [List.getElem?_map] at hj
    obtain ⟨i, hi, rfl⟩ := Option.map_eq_some_iff.1 hj
    have hji := List.getElem?_eq_some_iff.1 hi
    simp at hji
    obtain ⟨hjl, rfl⟩ := hji
    have := hf2 j hjl
    rw [addr_lit, addr_lit] at this
    exact this
theorem shares_of_trod {H : Type} {enc : TypeId × Value → H} {W : World} {a0 : Option Addr} {len0 cap0 : Nat} {d : DataW H} {p : List MemPlace}
    (h0 : DataW.Trod enc Try.prog W 0 (fun _ => true) true 22 (.slice a0 len0 cap0) d p) : ∃ us, Prow W a0 len0 us ∧ (a0 = none → cap0 = 0) :=
  prow_of_trod Try.underlying22 Try.underlying51 (by kernel_rfl) rfl rfl rfl rfl h0
theorem usages_of_trod {H : Type} {enc : TypeId × Value → H} {W : World} {a0 : Option Addr} {len0 cap0 : Nat} {d : DataW H} {p : List MemPlace}
    (h0 : DataW.Trod enc Try.prog W 0 (fun _ => true) true 23 (.slice a0 len0 cap0) d p) : ∃ us, Prow W a0 len0 us ∧ (a0 = none → cap0 = 0) :=
  prow_of_trod Try.underlying23 Try.underlying55 (by kernel_rfl) rfl rfl rfl rfl h0
/-- a task that came in: its needs can be read -/
def inT (W : World) (t : Task) : Prop := (∃ zs, Nrow W t.na t.nn zs) ∧ (t.na = none → t.nc = 0)
theorem tasks_of_trod {H : Type} {enc : TypeId × Value → H} {W : World} {a0 : Option Addr} {len0 cap0 : Nat} {d : DataW H} {p : List MemPlace}
    (h0 : DataW.Trod enc Try.prog W 0 (fun _ => true) true 27 (.slice a0 len0 cap0) d p) : ∃ ts, Trow W a0 len0 ts ∧ ∀ t ∈ ts, inT W t := by
  obtain ⟨fuel, hf⟩ := h0
  rcases Go.Deep.open_slice Try.underlying27 hf with ⟨hcs, _⟩ | ⟨a, len, cap, m, n, D, Pl, hcs, _, hl, hm, hmm, _, hx⟩
  · simp [Value.cells] at hcs
    obtain ⟨rfl, rfl, rfl⟩ := hcs
    exact ⟨[], ⟨rfl, fun h => absurd h (by omega)⟩, fun t h => by simp at h⟩
  · simp [Value.cells] at hcs
    obtain ⟨rfl, rfl, rfl⟩ := hcs
    have hmc : m = cap0 := by simpa using hmm
    have c41 : Try.prog.cellsOf 41 = 8 := by kernel_rfl
    have c3 : Try.prog.cellsOf 3 = 1 := by kernel_rfl
    have c4 : Try.prog.cellsOf 4 = 1 := by kernel_rfl
    have c9 : Try.prog.cellsOf 9 = 1 := by kernel_rfl
    have c24 : Try.prog.cellsOf 24 = 1 := by kernel_rfl
    have each : ∀ i, i < len0 → ∃ t : Task, (∀ (b off : Nat), a = ⟨b, off, none⟩ → Tcells W b (off + i * 8) t) ∧ inT W t ∧ (∃ v, W.cell? (a.add (i * 8)) = some v) := by
      intro i hi
      obtain ⟨cs', h1, h2⟩ := hx i (by omega)
      rw [c41] at h1
      obtain ⟨_, hlen, hcell⟩ := World.cells?_some h1
      obtain ⟨xs, k, hk, _, _, hxl, hfs⟩ := DataW.trod_struct Try.underlying41 h2
      match cs', hlen, xs, hxl with
      | [v0, v1, v2, v3, v4, v5, v6, v7], _, [y0, y1, y2, y3, y4, y5, y6, y7], _ =>
        have g0 := hfs 0 _ rfl
        have g1 := hfs 1 _ rfl
        have g2 := hfs 2 _ rfl
        have g3 := hfs 3 _ rfl
        have g4 := hfs 4 _ rfl
        have g5 := hfs 5 _ rfl
        have g6 := hfs 6 _ rfl
        have g7 := hfs 7 _ rfl
        simp [c3, c4, c9, c24] at g0 g1 g2 g3 g4 g5 g6 g7
        obtain ⟨z0, e0, _, _⟩ := DataW.trod_int Try.underlying3 g0
        obtain ⟨s1, e1, _, _⟩ := DataW.trod_string Try.underlying9 g1
        obtain ⟨b2, e2, _⟩ := DataW.trod_bool Try.underlying4 g2
        obtain ⟨z3, e3, _, _⟩ := DataW.trod_int Try.underlying3 g3
        obtain ⟨s4, e4, _, _⟩ := DataW.trod_string Try.underlying9 g4
        obtain ⟨z5, e5, _, _⟩ := DataW.trod_int Try.underlying3 g5
        obtain ⟨z6, e6, _, _⟩ := DataW.trod_int Try.underlying3 g6
        have h7 : ∃ na nn nc, v7 = .slice na nn nc ∧ (∃ zs, Nrow W na nn zs) ∧ (na = none → nc = 0) := by
          rcases DataW.trod_slice Try.underlying24 g7 with ⟨hc, _⟩ | ⟨a7, l7, c7, _, _, _, _, hc, _⟩
          · simp at hc
            exact ⟨none, 0, 0, hc, ⟨[], nrow0 W none⟩, fun _ => rfl⟩
          · simp at hc
            subst hc
            obtain ⟨zs, hz, _, _⟩ := irow_of_trod (a0 := some a7) (len0 := l7) (cap0 := c7) (d := y7.1) (p := y7.2) (enc := enc) ⟨_, g7⟩
            exact ⟨some a7, l7, c7, rfl, ⟨zs, hz⟩, fun h => by cases h⟩
        obtain ⟨na, nn, nc, e7, hz, hnil⟩ := h7
        simp at e0 e1 e2 e3 e4 e5 e6
        subst e0 e1 e2 e3 e4 e5 e6 e7
        refine ⟨⟨z0, s1, b2, z3, s4, z5, z6, na, nn, nc⟩, fun b off ha => ?_, ⟨hz, hnil⟩, ?_⟩
        · subst ha
          have k0 := hcell 0 (by omega)
          have k1 := hcell 1 (by omega)
          have k2 := hcell 2 (by omega)
          have k3 := hcell 3 (by omega)
          have k4 := hcell 4 (by omega)
          have k5 := hcell 5 (by omega)
          have k6 := hcell 6 (by omega)
          have k7 := hcell 7 (by omega)
          simp only [addr_lit] at k0 k1 k2 k3 k4 k5 k6 k7
          exact ⟨by simpa using k0, by simpa using k1, by simpa using k2, by simpa using k3, by simpa using k4, by simpa using k5, by simpa using k6, by simpa using k7⟩
        · have k0 := hcell 0 (by omega)
          rw [add0] at k0
          exact ⟨_, k0⟩
    obtain ⟨f, hf2⟩ := Go.Deep.choose_lt each
    refine ⟨(List.range len0).map f, ⟨by simp, fun hn => ?_⟩, fun t ht => ?_⟩
    · obtain ⟨v, hv⟩ := (hf2 0 hn).2.2
      obtain ⟨b, off, rfl⟩ := add_spot (by rwa [Nat.zero_mul, add0] at hv)
      refine ⟨b, off, rfl, fun j x hj => ?_⟩
      rw [List.getElem?_map] at hj
      obtain ⟨i, hi, rfl⟩ := Option.map_eq_some_iff.1 hj
      have hji := List.getElem?_eq_some_iff.1 hi
      simp at hji
      obtain ⟨hjl, rfl⟩ := hji
      exact (hf2 j hjl).1 b off rfl
    · obtain ⟨i, hi, rfl⟩ := List.mem_map.1 ht
      exact (hf2 i (List.mem_range.1 hi)).2.1
end Go.Proofs.Ytknpcphaieoocaa
