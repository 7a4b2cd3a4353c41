/- Contract of the law's own helper 'changed': a text of 16 bytes with one byte changed is some text. */ -/
import Derived.Test.YtiombgjkcfhibaaDoorPut
namespace Go.Proofs.YtiombgjkcfhibaaDoor
open Go.RowKit
set_option linter.unusedSimpArgs false
set_option linter.unusedVariables false

theorem conv_str (s : ByteArray) (w : World) : ∃ cap w1, (convert 9 44 (.string s)).run Tryd.prog w = .ok (.slice (some ⟨w.heap.size, 0, none⟩) s.size cap) w1 ∧ s.size ≤ cap ∧
    (∀ j (hj : j < s.size), w1.cell? ⟨w.heap.size, j, none⟩ = some (.int .u8 (((bs s)[j]'(by rw [bs_length]; exact hj)).toNat : Int))) ∧ (∀ j, j < s.size → w1.frozen? ⟨w.heap.size, j, none⟩ = false) ∧ Below w.heap.size w w1 := by
  have h := run_bytes_of_string (P := Tryd.prog) w 9 44 5 s Tryd.underlying9 Tryd.underlying44 Tryd.underlying5
  have hge := grownCap_ge w s.size 0 5
  generalize grownCap w s.size 0 5 = cap at h hge
  refine ⟨cap, _, h, hge, fun j hj => ?_, fun j hj => ?_, ?_⟩
  · have e := World.cell?_alloc_mark w.drew (bytesRow s cap) 5 ((bytesRow s cap).size, (bytesRow s cap).size + 1) j
    have e2 := bytesRow_at s cap j hj
    exact e.trans e2
  · have e := World.frozen?_alloc_mark w.drew (bytesRow s cap) 5 (bytesRow s cap).size ((bytesRow s cap).size + 1) j
    have hsz : j < (bytesRow s cap).size := by
      unfold bytesRow
      have : s.data.size = s.size := rfl
      simp; omega
    refine e.trans ?_
    simp; omega
  · exact ((Below.refl _ _).drew).alloc (Nat.le_refl _) _

/-- some text -/
def ChR (w : World) (e : Ending) (w' : World) : Prop := ∃ S : ByteArray, e = .returned (.string S) ∧ Below w.heap.size w w'
set_option maxHeartbeats 1000000 in
theorem changed_any (s : ByteArray) (a b : Int) (w : World) (hs : s.size = 16) (b0 : 0 ≤ b) (b1 : b ≤ 255) : Calls Tryd.prog 18 #[.string s, .int .i64 a, .int .u8 b] w (ChR w) := by
  obtain ⟨cap, w1, hrun, hcap, hcell, hfree, hbel⟩ := conv_str s w
  rw [hs] at hrun
  obtain ⟨j, hj⟩ : ∃ j : Nat, (j : Int) = a % 256 % 16 := ⟨(a % 256 % 16).toNat, by omega⟩
  have hj16 : j < 16 := by omega
  have e1 := and255 a
  have e2 : a % 256 % 16 = (j : Int) := hj.symm
  have j0 : (0 : Int) ≤ (j : Int) := by omega
  have j1 : (j : Int) < 16 := by omega
  have a0 : 0 ≤ a % 256 := by omega
  have hc := hcell j (by omega)
  have hf := hfree j (by omega)
  generalize hold : (((bs s)[j]'(by rw [bs_length]; omega)).toNat : Int) = old at hc
  have hlt := World.block_lt_of_cell? _ _ hc
  have hback : (convert 44 9 (.slice (some ⟨w.heap.size, 0, none⟩) 16 cap)).run Tryd.prog (w1.setCell ⟨w.heap.size, j, none⟩ (.int .u8 b)) = .ok (.string (mkS ((bs s).set j (UInt8.ofNat b.toNat)))) (w1.setCell ⟨w.heap.size, j, none⟩ (.int .u8 b)) := by
    have hl : ((bs s).set j (UInt8.ofNat b.toNat)).length = 16 := by rw [List.length_set, bs_length, hs]
    have := run_convert_bytes_back (P := Tryd.prog) (w1.setCell ⟨w.heap.size, j, none⟩ (.int .u8 b)) 44 9 5 ⟨w.heap.size, 0, none⟩ cap ((bs s).set j (UInt8.ofNat b.toNat)) Tryd.underlying44 Tryd.underlying5 Tryd.underlying9 (fun i hi => by
      have e : (⟨w.heap.size, 0, none⟩ : Addr).add i = ⟨w.heap.size, i, none⟩ := by unfold Addr.add; split <;> simp_all
      rw [e]
      have hi16 : i < 16 := by rw [hl] at hi; exact hi
      by_cases hij : i = j
      · subst hij
        have hb : (((UInt8.ofNat b.toNat).toNat : Nat) : Int) = b := by
          rw [UInt8.toNat_ofNat']
          have : b.toNat % 2 ^ 8 = b.toNat := Nat.mod_eq_of_lt (by omega)
          omega
        rw [List.getElem_set_self, hb]
        exact World.cell?_setCell_same _ _ _ hc
      · rw [List.getElem_set_ne (Ne.symm hij)]
        rw [World.cell?_setCell_other _ _ _ _ (by intro h; injection h; omega)]
        exact hcell i (by omega))
    rw [hl] at this
    exact this
  have HB : Hid (Below w.heap.size w (w1.setCell ⟨w.heap.size, j, none⟩ (.int .u8 b))) := Lib.hid (hbel.setCell (Nat.le_refl _) _)
  clear hcell hfree hbel hj hold
  go_enter Tryd.func18, Tryd.ntmps18
  go_wp2
  go_ret
  exact ⟨_, rfl, HB.out⟩
end Go.Proofs.YtiombgjkcfhibaaDoor
