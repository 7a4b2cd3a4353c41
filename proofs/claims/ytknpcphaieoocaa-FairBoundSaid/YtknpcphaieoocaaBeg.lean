/- The reference's comparison of two tasks. -/
import Derived.Test.YtknpcphaieoocaaBef
namespace Go.Proofs.Ytknpcphaieoocaa
open Go.RowKit
set_option linter.unusedSimpArgs false
set_option linter.unusedVariables false

theorem cb_lt (a b : List UInt8) : Op.bytesLess a b = decide (Lib.compareBytes a b < 0) := by
  induction a generalizing b with
  | nil => cases b <;> simp [Op.bytesLess, Lib.compareBytes]
  | cons x a ih =>
    cases b with
    | nil => simp [Op.bytesLess, Lib.compareBytes]
    | cons y b =>
      unfold Op.bytesLess Lib.compareBytes
      by_cases h1 : x < y
      · simp [h1]
      · by_cases h2 : y < x
        · have : ¬ x = y := fun h => by subst h; exact UInt8.lt_irrefl _ h2
          simp [h1, h2, this]
        · have : x = y := by
            have h3 := UInt8.not_lt.1 h1
            have h4 := UInt8.not_lt.1 h2
            exact UInt8.le_antisymm h4 h3
          subst this
          simp [h1, ih]
theorem cb_zero (a b : List UInt8) : Lib.compareBytes a b = 0 ↔ a = b := by
  induction a generalizing b with
  | nil => cases b <;> simp [Lib.compareBytes]
  | cons x a ih =>
    cases b with
    | nil => simp [Lib.compareBytes]
    | cons y b =>
      unfold Lib.compareBytes
      by_cases h1 : x < y
      · have : ¬ x = y := fun h => by subst h; exact UInt8.lt_irrefl _ h1
        simp [h1, this]
      · by_cases h2 : y < x
        · have : ¬ x = y := fun h => by subst h; exact UInt8.lt_irrefl _ h2
          simp [h1, h2, this]
        · have : x = y := by
            have h3 := UInt8.not_lt.1 h1
            have h4 := UInt8.not_lt.1 h2
            exact UInt8.le_antisymm h4 h3
          subst this
          simp [h1, ih]
theorem ci_lt (a b : Int) : Lib.compareInt a b < 0 ↔ a < b := by unfold Lib.compareInt; split; simpa; split <;> simp <;> omega
theorem ci_zero (a b : Int) : Lib.compareInt a b = 0 ↔ a = b := by unfold Lib.compareInt; split; simp; omega; split <;> simp <;> omega
/-- the reference's comparison -/
def befV (ss us : List (ByteArray × Int)) (oa : ByteArray) (pa ia : Int) (ob : ByteArray) (pb ib : Int) : Bool := decide (cmpV ss us oa pa ia ob pb ib < 0)
theorem toList_inj {a b : ByteArray} (h : a.toList = b.toList) : a = b := by
  rw [ByteArray.toList_eq, ByteArray.toList_eq] at h
  cases a; cases b; simpa using h
theorem lt_congr {a b : Int} (h : a = b) : decide (a < 0) = decide (b < 0) := by rw [h]
theorem bef1 (ss us : List (ByteArray × Int)) (oa : ByteArray) (pa ia : Int) (ob : ByteArray) (pb ib : Int) (h : ¬ pa = pb) : befV ss us oa pa ia ob pb ib = decide (pb < pa) := by
  have e : cmpV ss us oa pa ia ob pb ib = Lib.compareInt pb pa := if_neg (by rw [ci_zero]; omega)
  exact (lt_congr e).trans (by simp only [ci_lt])
theorem bef2 (ss us : List (ByteArray × Int)) (oa : ByteArray) (pa ia : Int) (ob : ByteArray) (ib : Int) (x y : Int) (ho : (oa.toList == ob.toList) = false) (hx : usedV us oa * weightV ss ob = x) (hy : usedV us ob * weightV ss oa = y) :
    befV ss us oa pa ia ob pa ib = if x = y then Op.bytesLess oa.toList ob.toList else decide (x < y) := by
  have e0 : cmpV ss us oa pa ia ob pa ib = orV [Lib.compareInt (usedV us oa * weightV ss ob) (usedV us ob * weightV ss oa), Lib.compareBytes oa.toList ob.toList, Lib.compareInt ia ib] := if_pos (by rw [ci_zero])
  rw [hx, hy] at e0
  by_cases h : x = y
  · have e1 : orV [Lib.compareInt x y, Lib.compareBytes oa.toList ob.toList, Lib.compareInt ia ib] = orV [Lib.compareBytes oa.toList ob.toList, Lib.compareInt ia ib] := if_pos (by rw [ci_zero]; exact h)
    have e2 : orV [Lib.compareBytes oa.toList ob.toList, Lib.compareInt ia ib] = Lib.compareBytes oa.toList ob.toList := if_neg (by rw [cb_zero]; simpa using ho)
    rw [if_pos h, cb_lt]
    exact lt_congr (e0.trans (e1.trans e2))
  · have e1 : orV [Lib.compareInt x y, Lib.compareBytes oa.toList ob.toList, Lib.compareInt ia ib] = Lib.compareInt x y := if_neg (by rw [ci_zero]; exact h)
    rw [if_neg h]
    exact (lt_congr (e0.trans e1)).trans (by simp only [ci_lt])
theorem bef3 (ss us : List (ByteArray × Int)) (oa : ByteArray) (pa ia : Int) (ob : ByteArray) (ib : Int) (ho : (oa.toList == ob.toList) = true) :
    befV ss us oa pa ia ob pa ib = decide (ia < ib) := by
  obtain rfl : oa = ob := toList_inj (by simpa using ho)
  have e0 : cmpV ss us oa pa ia oa pa ib = orV [Lib.compareInt (usedV us oa * weightV ss oa) (usedV us oa * weightV ss oa), Lib.compareBytes oa.toList oa.toList, Lib.compareInt ia ib] := if_pos (by rw [ci_zero])
  have e1 : orV [Lib.compareInt (usedV us oa * weightV ss oa) (usedV us oa * weightV ss oa), Lib.compareBytes oa.toList oa.toList, Lib.compareInt ia ib] = orV [Lib.compareBytes oa.toList oa.toList, Lib.compareInt ia ib] := if_pos (by rw [ci_zero])
  have e2 : orV [Lib.compareBytes oa.toList oa.toList, Lib.compareInt ia ib] = orV [Lib.compareInt ia ib] := if_pos (by rw [cb_zero])
  have e3 : orV [Lib.compareInt ia ib] = Lib.compareInt ia ib := by
    by_cases h : Lib.compareInt ia ib = 0
    · rw [h]; rfl
    · exact if_neg h
  exact (lt_congr (e0.trans (e1.trans (e2.trans e3)))).trans (by simp only [ci_lt])
theorem below_drewN {B : Nat} {a w : World} (h : Below B a w) (n : Nat) : Below B a (w.drewN n) := ⟨h.os, h.tape, h.output, h.size, h.block⟩
theorem flipw {P : Program} {f : FuncId} {args : Array Value} {w : World} {v : Value} (h : Calls P f args w fun e w' => e = .returned v ∧ w = w') : Calls P f args w fun e w' => e = .returned v ∧ w' = w := h.mono fun _ _ ⟨a, b⟩ => ⟨a, b.symm⟩
theorem ret_bb {a b : Bool} (h : a = b) : Ending.returned (.bool a) = Ending.returned (.bool b) := by rw [h]

set_option maxRecDepth 100000 in
set_option maxHeartbeats 4000000 in
theorem beforeF (ia pa ib pb : Int) (oa ob : ByteArray) (ra la da ca na rb lb db cb nb : Value) (Au As : Option Addr) (nu cu ns cs : Nat) (us ss : List (ByteArray × Int)) (w : World)
    (hU : Prow w Au nu us) (hS : Prow w As ns ss) (hnu : nu ≤ 1000) (hns : ns ≤ 1000) (hs : smallU us) :
    Calls Try.prog 33 #[.agg #[.int .i64 ia, ra, la, da, .string oa, ca, .int .i64 pa, na], .agg #[.int .i64 ib, rb, lb, db, .string ob, cb, .int .i64 pb, nb], .slice As ns cs, .slice Au nu cu] w
      fun e w' => e = .returned (.bool (befV ss us oa pa ia ob pb ib)) ∧ Below w.heap.size w w' := by
  have HQ : Hid (∀ q, Below w.heap.size w (((w.alloc (.cells #[.int .i64 ia, ra, la, da, .string oa, ca, .int .i64 pa, na] 41)).alloc (.cells #[.int .i64 ib, rb, lb, db, .string ob, cb, .int .i64 pb, nb] 41)).drewN q)) :=
    Lib.hid fun q => below_drewN (((Below.refl _ w).alloc (Nat.le_refl _) _).alloc (by simp) _) _
  have HR : Hid (Below w.heap.size w ((w.alloc (.cells #[.int .i64 ia, ra, la, da, .string oa, ca, .int .i64 pa, na] 41)).alloc (.cells #[.int .i64 ib, rb, lb, db, .string ob, cb, .int .i64 pb, nb] 41))) :=
    Lib.hid (((Below.refl _ w).alloc (Nat.le_refl _) _).alloc (by simp) _)
  by_cases hp : pa = pb
  · subst hp
    cases ho : (oa.toList == ob.toList)
    · have HO := Lib.hid ho
      have m1 := prod_wrap hs ss oa ob
      have m2 := prod_wrap hs ss ob oa
      obtain ⟨x, hx⟩ : ∃ x, usedV us oa * weightV ss ob = x := ⟨_, rfl⟩
      obtain ⟨y, hy⟩ : ∃ y, usedV us ob * weightV ss oa = y := ⟨_, rfl⟩
      have m3 := prod_bd hs ss oa ob
      have m4 := prod_bd hs ss ob oa
      rw [hx] at m1 m3
      rw [hy] at m2 m4
      have w1 : wrap64 x = x := by unfold wrap64; omega
      have w2 : wrap64 y = y := by unfold wrap64; omega
      have HB := Lib.hid (bef2 ss us oa pa ia ob ib x y ho hx hy)
      have hU1 := fun q => hU.later (HQ.out q)
      have hS1 := fun q => hS.later (HQ.out q)
      clear hU hS hs
      by_cases hxy : x = y
      · have hxy1 : (x == y) = true := by simpa using hxy
        have HX := Lib.hid hxy
        clear hxy
        go_enter Try.func33, Try.ntmps33
        go_wp2
        go_quiet ((first
          | (go_at_call 17; with_reducible exact Calls.quiet_of_same (flipw (usedF _ _ _ us _ _ (hU1 _) hnu)))
          | (go_at_call 15; with_reducible exact Calls.quiet_of_same (flipw (weightF _ _ _ ss _ _ (hS1 _) hns)))))
        go_wp2
        go_ret
        exact ⟨ret_bb (by rw [HB.out, if_pos HX.out]), HQ.out _⟩
      · have hxy1 : (x == y) = false := by simpa using hxy
        have HX := Lib.hid hxy
        clear hxy
        go_enter Try.func33, Try.ntmps33
        go_wp2
        go_quiet ((first
          | (go_at_call 17; with_reducible exact Calls.quiet_of_same (flipw (usedF _ _ _ us _ _ (hU1 _) hnu)))
          | (go_at_call 15; with_reducible exact Calls.quiet_of_same (flipw (weightF _ _ _ ss _ _ (hS1 _) hns)))))
        go_wp2
        go_ret
        exact ⟨ret_bb (by rw [HB.out, if_neg HX.out]), HQ.out _⟩
    · have HB := Lib.hid (bef3 ss us oa pa ia ob ib ho)
      clear hU hS hs
      go_enter Try.func33, Try.ntmps33
      go_wp2
      go_ret
      exact ⟨ret_bb (by rw [HB.out]), HR.out⟩
  · have hp1 : (pa == pb) = false := by simpa using hp
    have HB := Lib.hid (bef1 ss us oa pa ia ob pb ib hp)
    clear hU hS hs hp
    go_enter Try.func33, Try.ntmps33
    go_wp2
    go_ret
    exact ⟨ret_bb (by rw [HB.out]), HR.out⟩
end Go.Proofs.Ytknpcphaieoocaa
