/- The program: the parts of a table; The program: valid bags, tables; The program: aggregates: valid groups, totals, integers; The program: the value of an aggregate; The program: aggregate.Result. -/
import Derived.Deep.RegionLaw
import Derived.Shelf.SlicesQ.Reverse
import Derived.Ground.SlgnProg
import Derived.Test.YthcalfeoejdcgaaGreatDoorZ10
import Derived.Test.YthcalfeoejdcgaaGreatDoorZ11
import Derived.Test.YthcalfeoejdcgaaGreatDoorZ12
namespace Go.Proofs.YthcalfeoejdcgaaGreatDoor
section
open Go.RowKit Go.BigFrame
set_option linter.unusedSimpArgs false
set_option linter.unusedVariables false

theorem valid_cel {r : List Val} (h : ∀ v ∈ r, validV v = true) (i : Int) : validV (cel r i) = true := by
  unfold cel
  split
  · rename_i h2
    have hlt : i.toNat < r.length := by omega
    rw [List.getD_eq_getElem?_getD, List.getElem?_eq_getElem hlt]
    exact h _ (List.getElem_mem _)
  · exact valid_zV
theorem valid_pk {r : List Val} (h : ∀ v ∈ r, validV v = true) (is : List Int) : ∀ v ∈ pkV is r, validV v = true := fun v hv => by
  obtain ⟨i, _, rfl⟩ := List.mem_map.1 hv
  exact valid_cel h i
end
section
open Go.RowKit Go.BigFrame
set_option linter.unusedSimpArgs false
set_option linter.unusedVariables false

theorem Asc.at_ : ∀ {t : Tab} (_ : Asc t) {i j : Nat} {p x : List Val × Int} (_ : i < j) (_ : t[i]? = some p) (_ : t[j]? = some x), cmpR p.1 x.1 < 0
  | [], _, i, j, p, x, _, hi, _ => by simp at hi
  | y :: t, h, 0, j + 1, p, x, _, hi, hj => by
    simp at hi; subst hi
    exact h.1 x (List.mem_of_getElem? (by simpa using hj))
  | y :: t, h, i + 1, j + 1, p, x, hl, hi, hj => Asc.at_ h.2 (i := i) (j := j) (by omega) (by simpa using hi) (by simpa using hj)
set_option maxRecDepth 100000 in
set_option maxHeartbeats 1000000 in
theorem bvalE (A : Option Addr) (n c : Nat) (t : Tab) (w : World) (ht : rTab w A n t) (hok : okBag t) : Calls Tryz.prog 66 #[.slice A n c] w fun e w' => e = .returned (.int .i64 0) ∧ Below w.heap.size w w' := by
  have HT := Lib.hid ht
  have HL := Lib.hid ht.len
  have HK := Lib.hid hok
  have hn : n ≤ 4096 := by have := ht.len; have := hok.1; omega
  have d1 : decide (4096 < n) = false := by simp; omega
  clear ht hok
  go_enter Tryz.func66, Tryz.ntmps66
  go_wp2
  go_loopw [11] (fun i wr => ∃ k : Nat, k ≤ n ∧ i = .int .i64 k ∧ Below w.heap.size w wr) (fun i _ => n - (intOf i).toNat)
  case atStart => exact ⟨0, by omega, rfl, bself _⟩
  case round =>
    obtain ⟨k, hk, rfl, hbw⟩ := hrel
    have HBW := Lib.hid hbw
    by_cases hlt : k < n
    · obtain ⟨b1, o1, rfl, hc1⟩ := HT.out.opn (by omega)
      obtain ⟨x, hx⟩ := get_some (l := t) (k := k) (by have := HL.out; omega)
      obtain ⟨rA, rN, rC, x1, x2, x3⟩ := hc1 k x hx
      have hm := HK.out.2.2 x (List.mem_of_getElem? hx)
      have e0 : (x.2 == 0) = false := by have := HK.out.2.1.2 x (List.mem_of_getElem? hx); simp; exact this
      have y1 := cell_later hbw x1
      have y2 := cell_later hbw x2
      have X3 := Lib.hid x3
      have h12 := hm.1
      have HF := Lib.hid (formedE rA rN rC x.1 x.2 (wr.alloc (.cells #[.slice rA rN rC, .int .i64 x.2] 65)) (x3.later (btr hbw (ballo _ _))) hm.1 hm.2.2.2 hm.2.1 hm.2.2.1)
      by_cases hk0 : k = 0
      · subst hk0
        simp only [Nat.zero_mul, Nat.add_zero] at y1 y2
        clear hc1 hx x3 hm hbw
        go_wp2_with fail
        refine HF.out.mono ?_
        rintro e w2 ⟨rfl, hb2⟩
        have z1 : w2.cell? ⟨wr.heap.size, 0, none⟩ = some (.slice rA rN rC) := cell_later hb2 (by simp)
        have z2 : w2.cell? ⟨wr.heap.size, 1, none⟩ = some (.int .i64 x.2) := cell_later hb2 (by simp)
        have HB2 := Lib.hid (btr HBW.out (btr (ballo _ _) hb2))
        clear hb2
        go_wp2_with fail
        go_quiet (fail)
        go_wp2
        go_roundw
        case rel => exact ⟨1, by omega, by go_num, below_drewN HB2.out _⟩
        case measure => simp [intOf]; omega
      · obtain ⟨p, hp⟩ := get_some (l := t) (k := k - 1) (by have := HL.out; omega)
        obtain ⟨qA, qN, qC, p1, p2, p3⟩ := hc1 (k - 1) p hp
        have hcm := HK.out.2.1.1.at_ (by omega) hp hx
        have k1 : decide (0 ≤ cmpR p.1 x.1) = false := by simp; omega
        have P3 := Lib.hid p3
        have hp12 := (HK.out.2.2 p (List.mem_of_getElem? hp)).1
        have d3 : decide (0 < k) = true := by simp; omega
        have i0 : (1 : Int) ≤ (k : Int) := by omega
        have i1 : IntKind.i64.wrap ((k : Int) - 1) = (k : Int) - 1 := by rw [IntKind.wrap_i64]; omega
        have i2 : ((k : Int) - 1).toNat = k - 1 := by omega
        have i3 : (k : Int) - 1 < n := by omega
        have i4 : (0 : Int) ≤ (k : Int) - 1 := by omega
        clear hc1 hx x3 hm hbw hcm hk0 hp p3
        go_wp2_with fail
        refine HF.out.mono ?_
        rintro e w2 ⟨rfl, hb2⟩
        have z1 : w2.cell? ⟨wr.heap.size, 0, none⟩ = some (.slice rA rN rC) := cell_later hb2 (by simp)
        have z2 : w2.cell? ⟨wr.heap.size, 1, none⟩ = some (.int .i64 x.2) := cell_later hb2 (by simp)
        have hbA := btr HBW.out (btr (ballo _ _) hb2)
        have HB2 := Lib.hid hbA
        have g1 := Gro.cell z1
        have g2 := Gro.cell (cell_later hbA p1)
        clear hb2 hbA
        go_wp2_with fail
        refine wp_region_quiet_gro (by kernel_rfl) (by kernel_rfl) ?_; (repeat (go_big_quiet_step ((go_at_call 42; exact Calls.gro_of (cmrE qA qN qC rA rN rC p.1 x.1 _ (P3.out.later (btr HB2.out (Gro.below _))) (X3.out.later (btr HB2.out (Gro.below _))) (by omega) (by omega)))))); refine wpQuiet_nil ?_; intro _ hw'; obtain ⟨pq, hw''⟩ := hw'; subst hw''; have hbq := pq.below; revert hbq; generalize pq.world = wq; intro hbq
        have HB3 := Lib.hid (btr HB2.out hbq)
        clear g1 g2 hbq
        go_wp2
        go_roundw
        case rel => exact ⟨k + 1, by omega, by go_num, HB3.out⟩
        case measure => simp [intOf]; omega
    · go_wp2
      go_ret
      exact ⟨ret_int rfl, hbw⟩
theorem clo69 (rA : Option Addr) (rN rC : Nat) (c : Int) (w : World) (h : 0 < c) : Calls Tryz.prog 69 #[.agg #[.slice rA rN rC, .int .i64 c]] w fun e w' => e = .returned (.bool false) ∧ Below w.heap.size w w' := by
  go_enter Tryz.func69, Tryz.ntmps69
  go_wp2
  go_ret
  exact ⟨ret_bool (by simp; omega), ballo _ _⟩
set_option maxRecDepth 100000 in
theorem idx_96_69  (p : Ent → Bool) (A : Option Addr) (n c : Nat) (l : List Ent) (w : World) (h : rEnt w A n l) (hn : n ≤ 100000)
    (hG : ∀ (W : World) (x : Ent), Below w.heap.size w W → x ∈ l → Calls Tryz.prog 69 #[.agg #[.slice x.rA x.rN x.rC, .int .i64 x.c]] W fun e w' => e = .returned (.bool (p x)) ∧ Below W.heap.size W w') :
    Calls Tryz.prog 96 #[.slice A n c, .func (.func 69) #[] #[]] w fun e w' => e = .returned (.int .i64 (idxV p l)) ∧ Below w.heap.size w w' := by
  have HA := Lib.hid h
  have LA := Lib.hid h.len
  have HG := Lib.hid hG
  clear h hG
  go_enter Tryz.func96, Tryz.ntmps96
  go_wp2
  go_loopw [8] (fun i wr => ∃ k : Nat, k ≤ n ∧ i = .int .i64 k ∧ Below w.heap.size w wr ∧ Hid (NoneTo p l k)) (fun i _ => n - (intOf i).toNat)
  case atStart => exact ⟨0, by omega, rfl, bself _, Lib.hid fun j _ hj => absurd hj (by omega)⟩
  case round =>
    obtain ⟨k, hk, rfl, hbw, HS⟩ := hrel
    have HBW := Lib.hid hbw
    by_cases h1 : k < n
    · obtain ⟨b1, o1, rfl, hc1⟩ := (HA.out.later hbw).opn (by omega)
      obtain ⟨x, hx⟩ := get_some (l := l) (k := k) (by have := LA.out; omega)
      have hcells := hc1 k x hx
      have HX := Lib.hid hx
      have HC := Lib.hid (HG.out wr x hbw (List.mem_of_getElem? hx))
      clear hc1 hx hbw
      (repeat (obtain ⟨_, hcells⟩ := hcells))
      cases hz : p x
      · have HZ := Lib.hid hz
        go_wp2_with fail
        refine HC.out.mono ?_
        rintro e w2 ⟨rfl, hb2⟩
        have HB2 := Lib.hid (btr HBW.out hb2)
        clear hb2
        go_wp2
        go_roundw
        case rel => exact ⟨k + 1, by omega, by go_num, HB2.out, Lib.hid (HS.out.succ HX.out HZ.out)⟩
        case measure => simp [intOf]; omega
      · have HZ := Lib.hid hz
        go_wp2_with fail
        refine HC.out.mono ?_
        rintro e w2 ⟨rfl, hb2⟩
        have HB2 := Lib.hid (btr HBW.out hb2)
        clear hb2
        go_wp2
        go_ret
        exact ⟨ret_int (idxV_hit HS.out HX.out HZ.out).symm, HB2.out⟩
    · go_wp2
      go_ret
      exact ⟨ret_int (idxV_miss (fun j y hy => HS.out j y (by have := LA.out; have := (List.getElem?_eq_some_iff.1 hy).1; omega) hy)).symm, hbw⟩
theorem cont68 (A : Option Addr) (n c : Nat) (t : Tab) (w : World) (ht : rTab w A n t) (hn : n ≤ 100000) (hp : ∀ x ∈ t, 0 < x.2) :
    Calls Tryz.prog 68 #[.slice A n c, .func (.func 69) #[] #[]] w fun e w' => e = .returned (.bool false) ∧ Below w.heap.size w w' := by
  obtain ⟨es, h1, h2⟩ := ht
  have H := Lib.hid (idx_96_69 (fun _ => false) A n c es w h1 hn (fun W x _ hx => by
    obtain ⟨j, hj⟩ := List.getElem?_of_mem hx
    obtain ⟨y, hy, hr⟩ := h2.get hj
    exact clo69 x.rA x.rN x.rC x.c W (by rw [hr.2]; exact hp y (List.mem_of_getElem? hy))))
  have hi : Hid (idxV (fun _ : Ent => false) es = -1) := Lib.hid (idxV_miss fun _ _ _ => rfl)
  have H2 : Hid (Calls Tryz.prog 96 #[.slice A n c, .func (.func 69) #[] #[]] w fun e w' => e = .returned (.int .i64 (-1)) ∧ Below w.heap.size w w') := Lib.hid (by have h := H.out; rw [hi.out] at h; exact h)
  clear h1 h2 H hi hp
  go_enter Tryz.func68, Tryz.ntmps68
  go_wp2_with (go_at_call 96; refine (H2.out).mono ?_; rintro e w' ⟨rfl, hb⟩)
  go_ret
  exact ⟨ret_bool rfl, hb⟩
theorem isTabE (A : Option Addr) (n c : Nat) (t : Tab) (w : World) (ht : rTab w A n t) (hok : okTab t) : Calls Tryz.prog 41 #[.slice A n c] w fun e w' => e = .returned (.bool true) ∧ Below w.heap.size w w' := by
  have H := Lib.hid (bvalE A n c t w ht hok.1)
  have H2 := Lib.hid fun W (hb : Below w.heap.size w W) => cont68 A n c t W (ht.later hb) (by have := ht.len; have := hok.1.1; omega) hok.2
  clear ht hok
  go_enter Tryz.func41, Tryz.ntmps41
  go_wp2_with fail
  refine H.out.mono ?_
  rintro e w1 ⟨rfl, hb1⟩
  have HB1 := Lib.hid hb1
  have H3 := Lib.hid (H2.out w1 hb1)
  clear hb1
  go_wp2_with fail
  refine H3.out.mono ?_
  rintro e w2 ⟨rfl, hb2⟩
  have HB2 := Lib.hid (btr HB1.out hb2)
  clear hb2
  go_wp2
  go_ret
  exact ⟨ret_bool rfl, HB2.out⟩
end
section
open Go.RowKit Go.BigFrame
set_option linter.unusedSimpArgs false
set_option linter.unusedVariables false

end
section
open Go.RowKit Go.BigFrame Go.Shelf Go.Sort Go.Lib
set_option linter.unusedSimpArgs false
set_option linter.unusedVariables false

end
section
open Go.RowKit Go.BigFrame
set_option linter.unusedSimpArgs false
set_option linter.unusedVariables false

end
end Go.Proofs.YthcalfeoejdcgaaGreatDoor
