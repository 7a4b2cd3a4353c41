/- TopGroups: the walk to Filled, and the rest. -/
import Derived.KernelRfl
import Derived.Test.YthcalfeoejdcgaaGreatDoorM16
import Derived.Test.YthcalfeoejdcgaaGreatDoorM17
import Derived.Test.YthcalfeoejdcgaaGreatDoorM18
import Derived.Test.YthcalfeoejdcgaaGreatDoorM19
import Derived.Test.YthcalfeoejdcgaaGreatDoorM20
import Derived.Test.YthcalfeoejdcgaaGreatDoorM21
import Derived.Test.YthcalfeoejdcgaaGreatDoorM22
import Derived.Test.YthcalfeoejdcgaaGreatDoorM23
import Derived.Test.YthcalfeoejdcgaaGreatDoorM24
import Derived.Test.YthcalfeoejdcgaaGreatDoorM25
namespace Go.Proofs.YthcalfeoejdcgaaGreatDoor
section
open Go.RowKit Go.RowKit Go.BigFrame
set_option linter.unusedSimpArgs false
set_option linter.unusedVariables false

theorem run7 {c d : Nat} (hc : c ≤ 2) (hd : d ≤ 2) : endsT (T7 c d) Tryz.f7.results.toList ((R7 c d).code 79 (rest2 Tryz.f7.body) tmF sF) = true :=
  cases_cd (P := fun c d => endsT (T7 c d) Tryz.f7.results.toList ((R7 c d).code 79 (rest2 Tryz.f7.body) tmF sF) = true) hc hd run7_00 run7_01 run7_02 run7_10 run7_11 run7_12 run7_20 run7_21 run7_22
theorem mod3 (n : Int) (h : 0 ≤ n ∧ n ≤ 3) : ∃ c : Nat, c ≤ 2 ∧ n.tmod 3 = c := by
  have : n = 0 ∨ n = 1 ∨ n = 2 ∨ n = 3 := by omega
  rcases this with rfl | rfl | rfl | rfl
  · exact ⟨0, by omega, rfl⟩
  · exact ⟨1, by omega, rfl⟩
  · exact ⟨2, by omega, rfl⟩
  · exact ⟨0, by omega, rfl⟩
theorem wp_abs2 {P : Program} {c0 c1 rest : Code} {Q : Exit → Act → World → Prop} {a : Act} {w : World} (h : ∀ R, R = rest → (Code.seq c0 (.seq c1 R)).wp P Q a w) : (Code.seq c0 (.seq c1 rest)).wp P Q a w := h rest rfl
set_option maxRecDepth 100000 in
set_option maxHeartbeats 2000000 in
theorem groupsE (A : Option Addr) (n c : Nat) (l : List Int) (k : Int) (w : World) (h : rInt w A n l) (hc : n ≤ c) (hn : n ≤ 9223372036854775807) (hc2 : c ≤ 9223372036854775807) (ht : Tbs w) :
    Calls Tryz.prog 7 #[.slice A n c, .int .i64 k] w fun e w' => e = .returned (.bool true) ∧ Below w.heap.size w w' := by
  have HF := Lib.hid (filledE A n c l 10 w h hc hn hc2 (by omega))
  have HT := Lib.hid ht
  clear h ht
  go_enter Tryz.func7, Tryz.ntmps7
  refine wp_abs2 fun R hR => ?_
  have HR := Lib.hid hR
  clear hR
  go_wp2_with fail
  refine HF.out.mono ?_
  rintro e w1 ⟨g, bo, bc, rs, rfl, hblk, hfil, hco, hcc, hb, hg1, hg2⟩
  go_wp2_with fail
  obtain ⟨r0, r1, r2, rfl, ⟨A0, n0, c0, t0, rfl, a2, a3, a4⟩, ⟨A1, n1, c1, t1, rfl, b2, b3, b4⟩, ⟨A2, n2, c2, t2, rfl, d2, d3, d4⟩⟩ := hfil
  obtain ⟨cc, hcc2, ec⟩ := mod3 _ (anD3_le k)
  obtain ⟨dd, hdd2, ed⟩ := mod3 _ (anD3_le (shD2 k))
  have e30 : (3 : Int) * ((10 : Nat) : Int) = 30 := rfl
  rw [e30] at a4 b4 d4
  obtain ⟨hT, hK⟩ := R7_ok (n := k) hcc2 hdd2 (t0 := t0) (t1 := t1) (t2 := t2) a4 b4 d4 ec ed
  obtain ⟨D, ρ, hs, h71, hp71, hD0, hro⟩ := simF (E := ETab (tbG cc dd t0 t1 t2) (numG k)) (w := w) (HT.out.later hb (Nat.le_refl _)) hblk hco hcc (.inl ⟨by omega, tabAt_of a2 (by omega) a3⟩) (.inl ⟨by omega, tabAt_of b2 (by omega) b3⟩) (.inl ⟨by omega, tabAt_of d2 (by omega) d3⟩)
  have e : R = rest2 Tryz.f7.body := HR.out.trans rfl
  clear HR HF
  subst e
  refine rest_ok hT hK (fn := Tryz.f7) (run7 hcc2 hdd2) ⟨hs, ?_, rfl, rfl⟩ (fun D' s' ρ' w' k => ⟨rfl, btr hb (below_ex hro rfl k)⟩)
  exact trel7 (opq_rv (i := 0) (d := 600) (by omega) hD0 rfl (.inr ⟨by omega, rfl⟩)) rfl (slice_rv (e := 4) (r := 12) h71 hp71 rfl (by decide))
end
end Go.Proofs.YthcalfeoejdcgaaGreatDoor
