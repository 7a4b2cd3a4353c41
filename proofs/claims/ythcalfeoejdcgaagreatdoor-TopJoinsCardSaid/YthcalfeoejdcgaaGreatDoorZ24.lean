/- The program: evaluate.null, evaluate.matches. -/
import Derived.Test.YthcalfeoejdcgaaGreatDoorZ23
import Derived.Test.YthcalfeoejdcgaaGreatDoorZ12
import Derived.Test.YthcalfeoejdcgaaGreatDoorZ13
namespace Go.Proofs.YthcalfeoejdcgaaGreatDoor
open Go.RowKit Go.BigFrame
set_option linter.unusedSimpArgs false
set_option linter.unusedVariables false

def isZ (v : Val) : Bool := (0 == v.k && (0 == v.m && (⟨#[]⟩ : ByteArray).toList == v.s.toList))
theorem isZ_cmp (v : Val) : isZ v = (cmpV v zV == 0) := by
  rw [Bool.eq_iff_iff]
  unfold isZ
  simp only [Bool.and_eq_true, beq_iff_eq]
  rw [cmpV_zero]
  constructor
  · rintro ⟨h1, h2, h3⟩
    obtain ⟨k, m, s⟩ := v
    simp only at h1 h2 h3
    rw [← h1, ← h2, ← toList_inj h3]
    rfl
  · rintro rfl
    exact ⟨rfl, rfl, rfl⟩
theorem nulV_isZ (r : List Val) : nulV r = r.any isZ := by
  unfold nulV
  congr 1
  funext v
  rw [isZ_cmp]
set_option maxRecDepth 100000 in
set_option maxHeartbeats 1000000 in
theorem idx277 (A : Option Addr) (n c : Nat) (l : List Val) (w : World) (h : rVal w A n l) (hn : n ≤ 100000) :
    Calls Tryz.prog 277 #[.slice A n c, .agg #[.int .i64 0, .int .i64 0, .string ⟨#[]⟩]] w fun e w' => e = .returned (.int .i64 (idxV isZ l)) ∧ Below w.heap.size w w' := by
  have HA := Lib.hid h
  have LA := Lib.hid h.len
  clear h
  go_enter Tryz.func277, Tryz.ntmps277
  go_wp2
  go_loopw [8] (fun i wr => ∃ k : Nat, k ≤ n ∧ i = .int .i64 k ∧ Below w.heap.size w wr ∧ wr.cell? ⟨w.heap.size, 0, none⟩ = some (.int .i64 0) ∧ wr.cell? ⟨w.heap.size, 1, none⟩ = some (.int .i64 0) ∧ wr.cell? ⟨w.heap.size, 2, none⟩ = some (.string ⟨#[]⟩) ∧ Hid (NoneTo isZ l k)) (fun i _ => n - (intOf i).toNat)
  case atStart => exact ⟨0, by omega, rfl, ballo _ _, by simp, by simp, by simp, Lib.hid fun j _ hj => absurd hj (by omega)⟩
  case round =>
    obtain ⟨k, hk, rfl, hbw, q0, q1, q2, HS⟩ := hrel
    have HBW := Lib.hid hbw
    by_cases h1 : k < n
    · obtain ⟨b1, o1, rfl, hc1⟩ := (HA.out.later hbw).opn (by omega)
      obtain ⟨x, hx⟩ := get_some (l := l) (k := k) (by have := LA.out; omega)
      obtain ⟨x1, x2, x3⟩ := hc1 k x hx
      have HX := Lib.hid hx
      have qe : ∀ W : World, (binOp .eql 46 (.agg #[.int .i64 0, .int .i64 0, .string ⟨#[]⟩]) (.agg #[.int .i64 x.k, .int .i64 x.m, .string x.s])).run Tryz.prog W = .ok (.bool (isZ x)) W := fun W => eql46 0 0 ⟨#[]⟩ x.k x.m x.s W
      have g0 := Gro.cell q0
      have g1 := Gro.cell q1
      have g2 := Gro.cell q2
      have g3 := Gro.cell x1
      have g4 := Gro.cell x2
      have g5 := Gro.cell x3
      have h1' : (k : Int) < (n : Int) := by omega
      clear hc1 hx hbw
      cases hz : isZ x
      · have HZ := Lib.hid hz
        simp only [hz] at qe
        clear hz x1 x2 x3
        go_wp2_with fail
        refine wp_region_quiet_gro (by kernel_rfl) (by kernel_rfl) ?_; (repeat (go_big_quiet_step (fail))); refine wpQuiet_nil ?_; intro _ hw'; obtain ⟨pq, hw''⟩ := hw'; subst hw''; have hbq := pq.below; revert hbq; generalize pq.world = wq; intro hbq
        have HBF := Lib.hid (btr HBW.out hbq)
        have s0 := cell_later hbq q0
        have s1 := cell_later hbq q1
        have s2 := cell_later hbq q2
        clear g0 g1 g2 g3 g4 g5 hbq q0 q1 q2
        go_wp2
        go_roundw
        case rel => exact ⟨k + 1, by omega, by go_num, HBF.out, s0, s1, s2, Lib.hid (HS.out.succ HX.out HZ.out)⟩
        case measure => simp [intOf]; omega
      · have HZ := Lib.hid hz
        simp only [hz] at qe
        clear hz x1 x2 x3
        go_wp2_with fail
        refine wp_region_quiet_gro (by kernel_rfl) (by kernel_rfl) ?_; (repeat (go_big_quiet_step (fail))); refine wpQuiet_nil ?_; intro _ hw'; obtain ⟨pq, hw''⟩ := hw'; subst hw''; have hbq := pq.below; revert hbq; generalize pq.world = wq; intro hbq
        have HBF := Lib.hid (btr HBW.out hbq)
        clear g0 g1 g2 g3 g4 g5 hbq q0 q1 q2
        go_wp2
        go_ret
        exact ⟨ret_int (idxV_hit HS.out HX.out HZ.out).symm, HBF.out⟩
    · go_wp2
      go_ret
      exact ⟨ret_int (idxV_miss (fun j y hy => HS.out j y (by have := LA.out; have := (List.getElem?_eq_some_iff.1 hy).1; omega) hy)).symm, hbw⟩
theorem cont248 (A : Option Addr) (n c : Nat) (l : List Val) (w : World) (h : rVal w A n l) (hn : n ≤ 100000) :
    Calls Tryz.prog 248 #[.slice A n c, .agg #[.int .i64 0, .int .i64 0, .string ⟨#[]⟩]] w fun e w' => e = .returned (.bool (nulV l)) ∧ Below w.heap.size w w' := by
  have H := Lib.hid (idx277 A n c l (w.alloc (.cells #[.int .i64 0, .int .i64 0, .string ⟨#[]⟩] 46)) (h.later (ballo _ _)) hn)
  clear h
  go_enter Tryz.func248, Tryz.ntmps248
  go_wp2_with fail
  refine H.out.mono ?_
  rintro e w1 ⟨rfl, hb1⟩
  have HB1 := Lib.hid (btr (ballo _ _) hb1)
  clear hb1
  go_wp2
  go_ret
  exact ⟨ret_bool (by rw [nulV_isZ, ← idxV_ge]), HB1.out⟩
theorem nullE (A : Option Addr) (n c : Nat) (l : List Val) (w : World) (h : rVal w A n l) (hn : n ≤ 100000) :
    Calls Tryz.prog 210 #[.slice A n c] w fun e w' => e = .returned (.bool (nulV l)) ∧ Below w.heap.size w w' := by
  have H := Lib.hid (cont248 A n c l w h hn)
  clear h
  go_enter Tryz.func210, Tryz.ntmps210
  go_wp2_with fail
  refine H.out.mono ?_
  rintro e w1 ⟨rfl, hb1⟩
  have HB1 := Lib.hid hb1
  clear hb1
  go_wp2
  go_ret
  exact ⟨ret_bool rfl, HB1.out⟩
end Go.Proofs.YthcalfeoejdcgaaGreatDoor
