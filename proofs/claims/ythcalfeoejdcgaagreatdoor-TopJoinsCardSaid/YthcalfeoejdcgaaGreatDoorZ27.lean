/- The program: slices.Grow, slices.Concat at values. -/
import Derived.Test.YthcalfeoejdcgaaGreatDoorZ26
import Derived.Test.YthcalfeoejdcgaaGreatDoorZ11
import Derived.Lib.AppendZeros
namespace Go.Proofs.YthcalfeoejdcgaaGreatDoor
open Go.RowKit Go.BigFrame
set_option linter.unusedSimpArgs false
set_option linter.unusedVariables false

def NilR (w : World) (e : Ending) (w' : World) : Prop := ∃ v, e = .returned v ∧ ownD kVal w' w.heap.size v 0 [] ∧ Below w.heap.size w w'
set_option maxRecDepth 100000 in
set_option maxHeartbeats 1000000 in
theorem growE (n : Nat) (hn : n ≤ 100000) (w : World) : Calls Tryz.prog 255 #[.slice none 0 0, .int .i64 n] w (NilR w) := by
  obtain ⟨i0, hi0, hz0, hz1, hz2⟩ := info_parts info46
  by_cases h0 : 0 < n
  · have d1 : decide ((n : Int) < 0) = false := decide_eq_false (by omega)
    have d2 : decide ((0 : Int) < n) = true := decide_eq_true (by omega)
    have d3 : decide (0 < n) = true := by simp; omega
    have m1 : IntKind.i64.wrap (n : Int) = n := by rw [IntKind.wrap_i64]; omega
    have hr := Lib.hid fun W : World => Lib.run_append_nil_zeros (P := Tryz.prog) W 63 3 63 46 i0 _ .i64 .i64 Tryz.underlying63 Tryz.underlying3 hi0 hz0 n h0 (by rw [hz1]; decide) (by omega) (by rw [hz2]; omega)
    go_enter Tryz.func255, Tryz.ntmps255
    go_wp2_with (at_builtin; refine Lib.wpList_append_run _ rfl _ _ _ _ rfl _ _ rfl rfl _ _ (hr.out _) ?_)
    have hge := grownCap_ge w n 0 46
    have hle := grownCap_le_maxLen w n 0 46 (by unfold maxLen; omega)
    go_ret
    refine ⟨_, rfl, ⟨[], ⟨rfl, .inr ⟨w.heap.size, grownCap w n 0 46, _, rfl, Nat.le_refl _, (show (w.heap.push (.cells _ 46))[w.heap.size]? = some _ from Array.getElem?_push_size), Nat.zero_le _, hle, ?_, rfl⟩⟩, trivial, fun a h => by cases h⟩, (ballo _ _).drew⟩
    simp only [Array.size_append, Builtin.zeroCells, Array.size_map, Array.size_range]
    show n * 3 + (grownCap w n 0 46 - n) * 3 = grownCap w n 0 46 * 3
    omega
  · obtain rfl : n = 0 := by omega
    go_enter Tryz.func255, Tryz.ntmps255
    go_wp2
    go_ret
    exact ⟨_, rfl, ownD.nil _ _, bself _⟩
/-- rows one behind the other -/
def flatR (ls : List (List Val)) : List Val := ls.flatMap id
theorem flatR_snoc {ls : List (List Val)} {k : Nat} {r : List Val} (h : ls[k]? = some r) : flatR (ls.take (k + 1)) = flatR (ls.take k) ++ r := by
  unfold flatR
  rw [take_snoc h, List.flatMap_append]
  simp
theorem flatR_len : ∀ {ls : List (List Val)} (_ : ∀ r ∈ ls, r.length ≤ 12), (flatR ls).length ≤ ls.length * 12
  | [], _ => by simp [flatR]
  | r :: ls, h => by
    have h1 := h r (List.mem_cons_self ..)
    have ih := flatR_len fun x hx => h x (List.mem_cons_of_mem _ hx)
    have e : flatR (r :: ls) = r ++ flatR ls := rfl
    rw [e, List.length_append, List.length_cons]
    omega
set_option maxRecDepth 100000 in
set_option maxHeartbeats 4000000 in
theorem concatE (A : Option Addr) (n c : Nat) (ls : List (List Val)) (w : World) (h : rD kRow w A n ls) (hn : n ≤ 100) (h12 : ∀ r ∈ ls, r.length ≤ 12) : Calls Tryz.prog 212 #[.slice A n c] w (CloR kVal (flatR ls).length (flatR ls) w) := by
  obtain ⟨iV, PV⟩ := pVal
  have H := Lib.hid h
  have HL := Lib.hid h.len
  have H12 := Lib.hid h12
  clear h h12
  go_enter Tryz.func212, Tryz.ntmps212
  go_wp2
  go_loopw [3, 11] (fun s i wr => ∃ k : Nat, k ≤ n ∧ i = .int .i64 k ∧ s = .int .i64 (flatR (ls.take k)).length ∧ wr = w) (fun _ i _ => n - (intOf i).toNat)
  case atStart => exact ⟨0, by omega, rfl, rfl, rfl⟩
  case round =>
    obtain ⟨k, hk, rfl, rfl, rfl⟩ := hrel
    obtain ⟨w, rfl⟩ : ∃ w, w = wr := ⟨_, rfl⟩
    have hsm : (flatR (ls.take k)).length ≤ 1200 := by
      have h1 := flatR_len (ls := ls.take k) fun r hr => H12.out r (List.mem_of_mem_take hr)
      have h2 := List.length_take (i := k) (l := ls)
      omega
    by_cases hlt : k < n
    · obtain ⟨b1, o1, rfl, hc1⟩ := H.out.opn (by omega)
      obtain ⟨r, hr⟩ := get_some (l := ls) (k := k) (by have := HL.out; omega)
      obtain ⟨⟨rA, rN, rC⟩, x3, hcell⟩ := hc1 k r hr
      have x1 := hcell 0 (.slice rA rN rC) (by show 0 < 1; omega) rfl
      have x1 : w.cell? ⟨b1, o1 + k, none⟩ = some (.slice rA rN rC) := by rw [show o1 + k = o1 + k * kRow.C + 0 by show o1 + k = o1 + k * 1 + 0; omega]; exact x1
      have hrl : r.length = rN := (show rVal w rA rN r from x3).len
      have hr12 := H12.out r (List.mem_of_getElem? hr)
      have HS : Hid ((flatR (ls.take (k + 1))).length = (flatR (ls.take k)).length + rN) := Lib.hid (by rw [flatR_snoc hr, List.length_append, hrl])
      have m1 : IntKind.i64.wrap (((flatR (ls.take k)).length : Int) + (rN : Int)) = ((flatR (ls.take k)).length : Int) + (rN : Int) := by rw [IntKind.wrap_i64]; omega
      have d1 : decide (((flatR (ls.take k)).length : Int) + (rN : Int) < 0) = false := by simp; omega
      clear hc1 hr x3 hcell hrl
      go_wp2
      go_roundw
      case rel => exact ⟨k + 1, by omega, by go_num, by rw [HS.out]; simp, by first | rfl | trivial⟩
      case measure => simp [intOf]; omega
    · obtain rfl : k = n := by omega
      have HTT : Hid (ls.take k = ls) := Lib.hid (List.take_of_length_le (by have := HL.out; omega))
      have HG := Lib.hid (growE (flatR (ls.take k)).length (by omega) w)
      go_wp2_with fail
      refine HG.out.mono ?_
      rintro e w1 ⟨v1, rfl, hown1, hb1⟩
      have HB1 := Lib.hid hb1
      have HO1 := Lib.hid hown1
      clear hown1 hb1
      go_wp2
      go_loopw [6, 27] (fun v i wx => ∃ j : Nat, j ≤ k ∧ i = .int .i64 j ∧ Below w.heap.size w wx ∧ Hid (ownD kVal wx w.heap.size v (flatR (ls.take j)).length (flatR (ls.take j)))) (fun _ i _ => k - (intOf i).toNat)
      case atStart => exact ⟨0, by omega, rfl, HB1.out, HO1⟩
      case round =>
        obtain ⟨j, hj, rfl, hbx, HO⟩ := hrel
        obtain ⟨wx, rfl⟩ : ∃ wx, wx = wr := ⟨_, rfl⟩
        have HBX := Lib.hid hbx
        by_cases hjl : j < k
        · obtain ⟨b1, o1, rfl, hc1⟩ := H.out.opn (by omega)
          obtain ⟨r, hr⟩ := get_some (l := ls) (k := j) (by have := HL.out; omega)
          obtain ⟨⟨rA, rN, rC⟩, x3, hcell⟩ := hc1 j r hr
          have x1 := hcell 0 (.slice rA rN rC) (by show 0 < 1; omega) rfl
          have x1 := cell_later hbx (show w.cell? ⟨b1, o1 + j, none⟩ = some (.slice rA rN rC) by rw [show o1 + j = o1 + j * kRow.C + 0 by show o1 + j = o1 + j * 1 + 0; omega]; exact x1)
          have HF : Hid (rVal wx rA rN r) := Lib.hid ((show rVal _ rA rN r from x3).later hbx)
          have HS : Hid (flatR (ls.take (j + 1)) = flatR (ls.take j) ++ r) := Lib.hid (flatR_snoc hr)
          have hr12 := H12.out r (List.mem_of_getElem? hr)
          have hrl := HF.out.len
          have hsz := hbx.size
          have hsm : (flatR (ls.take j)).length ≤ 1200 := by
            have h1 := flatR_len (ls := ls.take j) fun r hr => H12.out r (List.mem_of_mem_take hr)
            have h2 := List.length_take (i := j) (l := ls)
            omega
          have hnn : (flatR (ls.take j)).length + rN < 1000000 := by omega
          have HV0 : Hid (∀ y, u6.ownBlock = some y → w.heap.size ≤ y) := Lib.hid fun y e => (HO.out.lt y e).1
          clear hc1 hr x3 hcell hbx hrl hr12 hsm
          go_wp2_with (at_builtin; refine wpList_cat _ rfl _ _ rfl PV HO.out HF.out (dAll_refl _) rfl rfl hnn hsz (fun a h p hp => by cases hp) ?_; intro v1 w1 hown hg hat)
          have HOF : Hid (ownD kVal w1 w.heap.size v1 (flatR (ls.take (j + 1))).length (flatR (ls.take (j + 1)))) := Lib.hid (own_at2 hown HS.out)
          have HBF := Lib.hid (below_push2 HBX.out hg HV0.out)
          clear hown hg hat
          go_wp2
          go_roundw
          case rel => exact ⟨j + 1, by omega, by go_num, HBF.out, HOF⟩
          case measure => simp [intOf]; omega
        · obtain rfl : j = k := by omega
          have HOZ := Lib.hid (own_at2 HO.out (l' := flatR ls) (by rw [HTT.out]))
          obtain ⟨A8, c8, rfl, hcc8, hrd8, hfr8⟩ := HO.out.rd
          have HLE : Hid ((flatR (ls.take j)).length = (flatR ls).length) := Lib.hid (by rw [HTT.out])
          go_wp2
          go_ret
          have hrd9 : rD kVal wx A8 (flatR ls).length (flatR ls) := by
            have h := hrd8
            rw [HTT.out] at h
            exact h
          refine ⟨A8, c8, by rw [HLE.out]; rfl, hrd9, by rw [← HLE.out]; exact hcc8, hbx, hfr8, ?_⟩
          rw [← HLE.out]
          have h := HOZ.out
          rw [← HLE.out] at h
          exact h
end Go.Proofs.YthcalfeoejdcgaaGreatDoor
