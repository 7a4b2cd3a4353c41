/- The program: bag.Except. -/
import Derived.Test.YthcalfeoejdcgaaGreatDoorZ30
namespace Go.Proofs.YthcalfeoejdcgaaGreatDoor
open Go.RowKit Go.BigFrame
set_option linter.unusedSimpArgs false
set_option linter.unusedVariables false

theorem put0E (v : Value) (rA : Option Addr) (rN rC : Nat) (w : World) : Calls Tryz.prog 43 #[v, .slice rA rN rC, .int .i64 0] w fun e w' => e = .returned (.tuple #[v, .bool true]) ∧ w' = w := by
  go_enter Tryz.func43, Tryz.ntmps43
  go_wp2
  go_ret2
  exact ⟨rfl, rfl⟩
theorem cnt_abv {l : Tab} {r : List Val} (h : ∀ z ∈ l, 0 < cmpR z.1 r) : cnt l r = 0 := cnt_none fun z hz e => by
  have := h z hz
  rw [e, cmpR_self] at this
  omega
theorem asc_gt {y : List Val × Int} {l : Tab} {r : List Val} (h : Asc (y :: l)) (hy : 0 ≤ cmpR y.1 r) : ∀ z ∈ l, 0 < cmpR z.1 r := fun z hz => by
  have h1 := h.1 z hz
  have h2 := cmpR_flip y.1 z.1
  have h3 := cmpR_flip r z.1
  by_cases e : cmpR y.1 r = 0
  · rw [← (cmpR_zero _ _).1 e]; omega
  · have h4 := cmpR_flip r y.1
    have := cmpR_trans r y.1 z.1 (by omega) h1
    omega
theorem cnt_head {y : List Val × Int} {l : Tab} {r : List Val} (h : Asc (y :: l)) (hy : 0 ≤ cmpR y.1 r) : cnt (y :: l) r = if cmpR y.1 r = 0 then y.2 else 0 := by
  rw [cnt, cnt_abv (asc_gt h hy)]; omega
theorem exc_take {ta tb : Tab} {k : Nat} {x : List Val × Int} (hx : ta[k]? = some x) : excV (ta.take (k + 1)) tb = excV (ta.take k) tb ++ if (excF tb x).2 = 0 then [] else [excF tb x] := by
  unfold excV
  rw [take_snoc hx, List.map_append, List.filter_append]
  congr 1
  by_cases h : (excF tb x).2 = 0 <;> simp [h]
theorem excV_len (a b : Tab) : (excV a b).length ≤ a.length := by
  unfold excV
  refine Nat.le_trans (List.length_filter_le _ _) ?_
  rw [List.length_map]
  exact Nat.le_refl _
/-- what is left of the second table: nothing that a later row wants is gone -/
structure ExcTo (ta tb lb : Tab) (k : Nat) : Prop where
  asc : Asc lb
  ok : ∀ y ∈ lb, 0 < y.2 ∧ y.2 ≤ 65536 ∧ y.1.length ≤ 12
  cn : ∀ z ∈ ta.drop k, cnt lb z.1 = cnt tb z.1
theorem ExcTo.next {ta tb lb : Tab} {k : Nat} (h : ExcTo ta tb lb k) : ExcTo ta tb lb (k + 1) := ⟨h.asc, h.ok, fun z hz => h.cn z (by
  rw [← List.drop_drop] at hz
  exact List.mem_of_mem_drop hz)⟩
theorem ExcTo.skip {ta tb lb : Tab} {k : Nat} {x y : List Val × Int} (h : ExcTo ta tb (y :: lb) k) (ha : Asc ta) (hx : ta[k]? = some x) (hy : cmpR y.1 x.1 < 0) : ExcTo ta tb lb k :=
  ⟨h.asc.2, fun z hz => h.ok z (List.mem_cons_of_mem _ hz), fun z hz => by
    have h1 := h.cn z hz
    have hd : ta.drop k = x :: ta.drop (k + 1) := by
      have h2 := List.getElem?_eq_some_iff.1 hx
      rw [List.drop_eq_getElem_cons h2.1, h2.2]
    have hlt : cmpR y.1 z.1 < 0 := by
      rw [hd] at hz
      rcases List.mem_cons.1 hz with rfl | hz
      · exact hy
      · have hpw := (asc_pw.1 ha).drop (i := k)
        rw [hd] at hpw
        exact cmpR_trans _ _ _ hy ((List.pairwise_cons.1 hpw).1 z hz)
    have e : cnt (y :: lb) z.1 = (if cmpR y.1 z.1 = 0 then y.2 else 0) + cnt lb z.1 := rfl
    rw [← h1, e, if_neg (by omega)]
    omega⟩
set_option maxRecDepth 100000 in
set_option maxHeartbeats 20000000 in
theorem exceptE (A : Option Addr) (n c : Nat) (B : Option Addr) (m d : Nat) (ta tb : Tab) (w : World) (ha : rTab w A n ta) (hb : rTab w B m tb) (hd : m ≤ d) (oa : okTab ta) (ob : okTab tb) :
    Calls Tryz.prog 21 #[.slice A n c, .slice B m d] w (Tab2R (excV ta tb) w) := by
  have H1 := Lib.hid (bothE A n c B m d ta tb w ha hb oa.1 ob.1)
  have H2 := Lib.hid fun W (h : Below w.heap.size w W) => isTabE A n c ta W (ha.later h) oa
  have H3 := Lib.hid fun W (h : Below w.heap.size w W) => isTabE B m d tb W (hb.later h) ob
  have hn : n ≤ 4096 := by have := ha.len; have := oa.1.1; omega
  have hm : m ≤ 4096 := by have := hb.len; have := ob.1.1; omega
  have HA := Lib.hid ha
  have HL := Lib.hid ha.len
  have HB0 := Lib.hid hb
  have HOA := Lib.hid oa
  have HE0 : Hid (ExcTo ta tb tb 0) := Lib.hid ⟨ob.1.2.1.1, fun y hy => ⟨ob.2 y hy, (ob.1.2.2 y hy).2.2.1, (ob.1.2.2 y hy).1⟩, fun _ _ => rfl⟩
  clear ha hb oa ob
  go_enter Tryz.func21, Tryz.ntmps21
  go_wp2_with fail
  refine H1.out.mono ?_
  rintro e w1 ⟨rfl, hb1⟩
  have HB1 := Lib.hid hb1
  have H4 := Lib.hid (H2.out w1 hb1)
  clear hb1
  go_wp2_with fail
  refine H4.out.mono ?_
  rintro e w2 ⟨rfl, hb2⟩
  have HB2 := Lib.hid (btr HB1.out hb2)
  have H5 := Lib.hid (H3.out w2 HB2.out)
  clear hb2
  go_wp2_with fail
  refine H5.out.mono ?_
  rintro e w3 ⟨rfl, hb3⟩
  have HB3 := Lib.hid (btr HB2.out hb3)
  clear hb3
  go_wp2
  go_loopw [1, 7, 27] (fun b v i wr => ∃ (k : Nat) (B : Option Addr) (m d : Nat) (lb : Tab), k ≤ n ∧ i = .int .i64 k ∧ b = .slice B m d ∧ m ≤ d ∧ Below w.heap.size w wr ∧ Hid (rTab w B m lb) ∧ Hid (ExcTo ta tb lb k) ∧ Hid (ownD (kEntF w.heap.size) wr w.heap.size v (excV (ta.take k) tb).length (excV (ta.take k) tb))) (fun _ _ i _ => n - (intOf i).toNat)
  case atStart => exact ⟨0, B, m, d, tb, by omega, rfl, rfl, hd, HB3.out, HB0, HE0, Lib.hid (ownD.nil _ _)⟩
  case round =>
    obtain ⟨k, B, m, d, lb, hk, rfl, rfl, hmd, hbw, HLB, HLF, HO⟩ := hrel
    obtain ⟨wo, rfl⟩ : ∃ wo, wo = wr := ⟨_, rfl⟩
    have HBW := Lib.hid hbw
    by_cases hlt : k < n
    · obtain ⟨b1, o1, rfl, hc1⟩ := HA.out.opn (by omega)
      obtain ⟨x, hx⟩ := get_some (l := ta) (k := k) (by have := HL.out; omega)
      obtain ⟨rA, rN, rC, x1, x2, x3⟩ := hc1 k x hx
      have X3 := Lib.hid x3
      have hm2 := List.mem_of_getElem? hx
      have hx12 := (HOA.out.1.2.2 x hm2).1
      have hrN : rN ≤ 12 := by have := x3.len; omega
      have hcb0 := (HOA.out.1.2.2 x hm2).2.2.1
      have hcp := HOA.out.2 x hm2
      have HX := Lib.hid hx
      have HXT : Hid (excV (ta.take (k + 1)) tb = excV (ta.take k) tb ++ if (excF tb x).2 = 0 then [] else [excF tb x]) := Lib.hid (exc_take hx)
      have HMD : Hid (x ∈ ta.drop k) := Lib.hid (by
        have h2 := List.getElem?_eq_some_iff.1 hx
        rw [List.drop_eq_getElem_cons h2.1, h2.2]
        exact List.mem_cons_self ..)
      have hlen : (excV (ta.take k) tb).length < 1000000 := by have h1 := excV_len (ta.take k) tb; have h2 := List.length_take (i := k) (l := ta); omega
      have HV0 : Hid (∀ j, u7.ownBlock = some j → w.heap.size ≤ j) := Lib.hid fun j e => (HO.out.lt j e).1
      have z1 := cell_later hbw x1
      have z2 := cell_later hbw x2
      clear hc1 hx x3 hbw x1 x2 hm2
      go_wp2
      go_loopw [1] (fun b wx => ∃ (B : Option Addr) (m d : Nat) (lb : Tab), b = .slice B m d ∧ m ≤ d ∧ Below wo.heap.size wo wx ∧ wx.cell? ⟨wo.heap.size, 0, none⟩ = some (.slice rA rN rC) ∧ wx.cell? ⟨wo.heap.size, 1, none⟩ = some (.int .i64 x.2) ∧ Hid (rTab w B m lb) ∧ Hid (ExcTo ta tb lb k)) (fun b _ => match b with | .slice _ m _ => m | _ => 0)
      case atStart => exact ⟨_, _, _, lb, rfl, hmd, ballo _ _, by simp, by simp, HLB, HLF⟩
      case round =>
        obtain ⟨B, m, d, lb, rfl, hmd, hbx, q0, q1, HLB, HLF0⟩ := hrel
        have HQX := Lib.hid hbx
        have HWX := Lib.hid (btr HBW.out hbx)
        have HLF := Lib.hid HLF0.out.next
        by_cases hm0 : m = 0
        · obtain rfl : lb = [] := List.eq_nil_of_length_eq_zero (by have := HLB.out.len; omega)
          subst hm0
          have hcb : x.2 ≤ 65536 := hcb0
          have HVV : Hid (excF tb x = (x.1, max x.2 0)) := Lib.hid (by
            unfold excF
            rw [← HLF0.out.cn x HMD.out]
            show (x.1, max (x.2 - 0) 0) = _
            rw [Int.sub_zero])
          clear hbx
          go_wp2_with fail
          refine wp_region_quiet_gro (by kernel_rfl) (by kernel_rfl) ?_; (repeat (go_big_quiet_step (fail))); refine wpQuiet_nil ?_; intro _ hw'; obtain ⟨pq, hw''⟩ := hw'; subst hw''; have hbq := pq.below; revert hbq; generalize pq.world = wq; intro hbq
          have HQ2 := Lib.hid (btr HQX.out hbq)
          have HW2 := Lib.hid (btr HWX.out hbq)
          have s0 := cell_later hbq q0
          have s1 := cell_later hbq q1
          clear hbq q0 q1
          go_wp2_with fail
          refine wp_region_quiet_gro (by kernel_rfl) (by kernel_rfl) ?_; (repeat (go_big_quiet_step (fail))); refine wpQuiet_nil ?_; intro _ hw'; obtain ⟨pq, hw''⟩ := hw'; subst hw''; have hbq := pq.below; revert hbq; generalize pq.world = wq; intro hbq
          obtain ⟨wc, rfl⟩ : ∃ wc, wc = wq := ⟨_, rfl⟩
          have HQC := Lib.hid (btr HQ2.out hbq)
          have HWC := Lib.hid (btr HW2.out hbq)
          have r0 := cell_later hbq s0
          have hszc := HWC.out.size
          clear hbq s0 s1
          by_cases hz : 0 < max x.2 0
          · have HPU := Lib.hid (putE w.heap.size u7 _ (excV (ta.take k) tb) rA rN rC x.1 (max x.2 0) wc (HO.out.later HQC.out) (X3.out.later HWC.out) hrN hz (by have := hcb; omega) hszc hlen)
            have HXF : Hid (excV (ta.take (k + 1)) tb = excV (ta.take k) tb ++ [(x.1, max x.2 0)]) := Lib.hid (by rw [HXT.out, HVV.out, if_neg (by show ¬ max (x.2) 0 = 0; omega)])
            clear hz
            go_wp2_with fail
            refine HPU.out.mono ?_
            rintro e w' ⟨v', rfl, hown', hgrow⟩
            have HBF := Lib.hid (below_push2 HWC.out hgrow HV0.out)
            have HOF : Hid (ownD (kEntF w.heap.size) w' w.heap.size v' (excV (ta.take (k + 1)) tb).length (excV (ta.take (k + 1)) tb)) := Lib.hid (own_at2 hown' HXF.out)
            clear hown' hgrow
            go_wp2
            go_roundw
            case rel => exact ⟨k + 1, _, _, _, _, by omega, by go_num, rfl, hmd, HBF.out, HLB, HLF, HOF⟩
            case measure => simp [intOf]; omega
          · have hz0 : max x.2 0 = 0 := by omega
            have HXF : Hid (excV (ta.take (k + 1)) tb = excV (ta.take k) tb) := Lib.hid (by rw [HXT.out, HVV.out, if_pos (by show max (x.2) 0 = 0; omega), List.append_nil])
            have HOF : Hid (ownD (kEntF w.heap.size) wc w.heap.size u7 (excV (ta.take (k + 1)) tb).length (excV (ta.take (k + 1)) tb)) := Lib.hid (own_at2 (HO.out.later HQC.out) HXF.out)
            have HPU : Hid (Calls Tryz.prog 43 #[u7, .slice rA rN rC, .int .i64 (max x.2 0)] wc fun e w' => e = .returned (.tuple #[u7, .bool true]) ∧ w' = wc) := Lib.hid (by rw [hz0]; exact put0E u7 rA rN rC wc)
            clear hz hz0
            go_wp2_with fail
            refine HPU.out.mono ?_
            rintro e w' ⟨rfl, rfl⟩
            go_wp2
            go_roundw
            case rel => exact ⟨k + 1, _, _, _, _, by omega, by go_num, rfl, hmd, HWC.out, HLB, HLF, HOF⟩
            case measure => simp [intOf]; omega
        · obtain ⟨y, lb, rfl⟩ : ∃ x l, lb = x :: l := by
            cases lb with
            | nil => have := HLB.out.len; simp at this; omega
            | cons x l => exact ⟨x, l, rfl⟩
          have dm : decide (0 < (m : Int)) = true := by simp; omega
          have dm3 : decide (0 < m) = true := by simp; omega
          obtain ⟨b2, o2, rfl, hc2⟩ := HLB.out.opn (by omega)
          obtain ⟨sA, sN, sC, y1, y2, y3⟩ := hc2 0 y rfl
          simp only [Nat.zero_mul, Nat.add_zero] at y1 y2
          have Y3 := Lib.hid y3
          have hy := HLF0.out.ok y (List.mem_cons_self ..)
          have hy12 := hy.2.2
          have hy0 := hy.1
          have j0 : 0 < m := by omega
          have j1 : (0 : Int) < (m : Int) := by omega
          have j2 : (1 : Int) ≤ (m : Int) := by omega
          have j3 : (1 : Int) ≤ (d : Int) := by omega
          have gx0 := Gro.cell q0
          have gy1 := Gro.cell (cell_later HWX.out y1)
          clear hc2 y3 hy
          by_cases hcmp : cmpR y.1 x.1 < 0
          · have k1 : decide (cmpR y.1 x.1 < 0) = true := by simp; omega
            have HTB := Lib.hid (rD.cut (K := kEnt) (HLB.out) (by omega) hmd)
            have HL2 : Hid (ExcTo ta tb lb k) := Lib.hid (HLF0.out.skip HOA.out.1.2.1.1 HX.out hcmp)
            clear hcmp
            go_wp2_with fail
            refine wp_region_quiet_gro (by kernel_rfl) (by kernel_rfl) ?_; (repeat (go_big_quiet_step ((go_at_call 42; exact Calls.gro_of (cmrE sA sN sC rA rN rC y.1 x.1 _ (Y3.out.later (btr HWX.out (Gro.below _))) (X3.out.later (btr HWX.out (Gro.below _))) (by omega) (by omega)))))); refine wpQuiet_nil ?_; intro _ hw'; obtain ⟨pq, hw''⟩ := hw'; subst hw''; have hbq := pq.below; revert hbq; generalize pq.world = wq; intro hbq
            have HQF := Lib.hid (btr HQX.out hbq)
            have s0 := cell_later hbq q0
            have s1 := cell_later hbq q1
            clear gx0 gy1 hbq q0 q1 hbx
            have hcc : (d = 1 ∧ Hid (rTab w (some ⟨b2, o2, none⟩) (m - 1) lb)) ∨ (¬ d = 1 ∧ Hid (rTab w (some ⟨b2, o2 + 2, none⟩) (m - 1) lb)) := by
              have h3 := HTB.out
              by_cases h : d = 1
              · rw [if_pos h] at h3
                exact .inl ⟨h, Lib.hid h3⟩
              · rw [if_neg h, Option.map_some, addr_lit] at h3
                exact .inr ⟨h, Lib.hid h3⟩
            rcases hcc with ⟨hcc, HT3⟩ | ⟨hcc, HT3⟩
            all_goals
              go_wp2
              exact ⟨⟨_, _, _, lb, rfl, by omega, HQF.out, s0, s1, HT3, HL2⟩, by simp; omega⟩
          · have k1 : decide (cmpR y.1 x.1 < 0) = false := by simp; omega
            have hcn : cnt (y :: lb) x.1 = if cmpR y.1 x.1 = 0 then y.2 else 0 := cnt_head HLF0.out.asc (by omega)
            rw [HLF0.out.cn x HMD.out] at hcn
            by_cases heq : cmpR y.1 x.1 = 0
            · have k2 : (cmpR y.1 x.1 == 0) = true := by simp [heq]
              have HVV : Hid (excF tb x = (x.1, max (x.2 - y.2) 0)) := Lib.hid (by unfold excF; rw [hcn, if_pos heq])
              have hcb : x.2 - y.2 ≤ 65536 := by omega
              have hyb := (HLF0.out.ok y (List.mem_cons_self ..)).2.1
              have iw : IntKind.i64.wrap (x.2 - y.2) = x.2 - y.2 := by rw [IntKind.wrap_i64]; omega
              clear hcmp hcn heq
              go_wp2_with fail
              refine wp_region_quiet_gro (by kernel_rfl) (by kernel_rfl) ?_; (repeat (go_big_quiet_step ((go_at_call 42; exact Calls.gro_of (cmrE sA sN sC rA rN rC y.1 x.1 _ (Y3.out.later (btr HWX.out (Gro.below _))) (X3.out.later (btr HWX.out (Gro.below _))) (by omega) (by omega)))))); refine wpQuiet_nil ?_; intro _ hw'; obtain ⟨pq, hw''⟩ := hw'; subst hw''; have hbq := pq.below; revert hbq; generalize pq.world = wq; intro hbq
              have HQ2 := Lib.hid (btr HQX.out hbq)
              have HW2 := Lib.hid (btr HWX.out hbq)
              have s0 := cell_later hbq q0
              have s1 := cell_later hbq q1
              have gx0 := Gro.cell s0
              have gy1 := Gro.cell (cell_later HW2.out y1)
              clear gx0 gy1 hbq q0 q1 hbx
              have gx0 := Gro.cell s0
              have gy1 := Gro.cell (cell_later HW2.out y1)
              go_wp2_with fail
              refine wp_region_quiet_gro (by kernel_rfl) (by kernel_rfl) ?_; (repeat (go_big_quiet_step ((go_at_call 42; exact Calls.gro_of (cmrE sA sN sC rA rN rC y.1 x.1 _ (Y3.out.later (btr HW2.out (Gro.below _))) (X3.out.later (btr HW2.out (Gro.below _))) (by omega) (by omega)))))); refine wpQuiet_nil ?_; intro _ hw'; obtain ⟨pq, hw''⟩ := hw'; subst hw''; have hbq := pq.below; revert hbq; generalize pq.world = wq; intro hbq
              obtain ⟨wc, rfl⟩ : ∃ wc, wc = wq := ⟨_, rfl⟩
              have HQC := Lib.hid (btr HQ2.out hbq)
              have HWC := Lib.hid (btr HW2.out hbq)
              have r0 := cell_later hbq s0
              have ry := cell_later HWC.out y2
              have hszc := HWC.out.size
              clear gx0 gy1 hbq s0 s1
              by_cases hz : 0 < max (x.2 - y.2) 0
              · have HPU := Lib.hid (putE w.heap.size u7 _ (excV (ta.take k) tb) rA rN rC x.1 (max (x.2 - y.2) 0) wc (HO.out.later HQC.out) (X3.out.later HWC.out) hrN hz (by have := hcb; omega) hszc hlen)
                have HXF : Hid (excV (ta.take (k + 1)) tb = excV (ta.take k) tb ++ [(x.1, max (x.2 - y.2) 0)]) := Lib.hid (by rw [HXT.out, HVV.out, if_neg (by show ¬ max ((x.2 - y.2)) 0 = 0; omega)])
                clear hz
                go_wp2_with fail
                refine HPU.out.mono ?_
                rintro e w' ⟨v', rfl, hown', hgrow⟩
                have HBF := Lib.hid (below_push2 HWC.out hgrow HV0.out)
                have HOF : Hid (ownD (kEntF w.heap.size) w' w.heap.size v' (excV (ta.take (k + 1)) tb).length (excV (ta.take (k + 1)) tb)) := Lib.hid (own_at2 hown' HXF.out)
                clear hown' hgrow
                go_wp2
                go_roundw
                case rel => exact ⟨k + 1, _, _, _, _, by omega, by go_num, rfl, hmd, HBF.out, HLB, HLF, HOF⟩
                case measure => simp [intOf]; omega
              · have hz0 : max (x.2 - y.2) 0 = 0 := by omega
                have HXF : Hid (excV (ta.take (k + 1)) tb = excV (ta.take k) tb) := Lib.hid (by rw [HXT.out, HVV.out, if_pos (by show max ((x.2 - y.2)) 0 = 0; omega), List.append_nil])
                have HOF : Hid (ownD (kEntF w.heap.size) wc w.heap.size u7 (excV (ta.take (k + 1)) tb).length (excV (ta.take (k + 1)) tb)) := Lib.hid (own_at2 (HO.out.later HQC.out) HXF.out)
                have HPU : Hid (Calls Tryz.prog 43 #[u7, .slice rA rN rC, .int .i64 (max (x.2 - y.2) 0)] wc fun e w' => e = .returned (.tuple #[u7, .bool true]) ∧ w' = wc) := Lib.hid (by rw [hz0]; exact put0E u7 rA rN rC wc)
                clear hz hz0
                go_wp2_with fail
                refine HPU.out.mono ?_
                rintro e w' ⟨rfl, rfl⟩
                go_wp2
                go_roundw
                case rel => exact ⟨k + 1, _, _, _, _, by omega, by go_num, rfl, hmd, HWC.out, HLB, HLF, HOF⟩
                case measure => simp [intOf]; omega
            · have k2 : (cmpR y.1 x.1 == 0) = false := by simp [heq]
              have HVV : Hid (excF tb x = (x.1, max x.2 0)) := Lib.hid (by unfold excF; rw [hcn, if_neg heq, Int.sub_zero])
              have hcb : x.2 ≤ 65536 := hcb0
              clear hcmp hcn heq
              go_wp2_with fail
              refine wp_region_quiet_gro (by kernel_rfl) (by kernel_rfl) ?_; (repeat (go_big_quiet_step ((go_at_call 42; exact Calls.gro_of (cmrE sA sN sC rA rN rC y.1 x.1 _ (Y3.out.later (btr HWX.out (Gro.below _))) (X3.out.later (btr HWX.out (Gro.below _))) (by omega) (by omega)))))); refine wpQuiet_nil ?_; intro _ hw'; obtain ⟨pq, hw''⟩ := hw'; subst hw''; have hbq := pq.below; revert hbq; generalize pq.world = wq; intro hbq
              have HQ2 := Lib.hid (btr HQX.out hbq)
              have HW2 := Lib.hid (btr HWX.out hbq)
              have s0 := cell_later hbq q0
              have s1 := cell_later hbq q1
              clear gx0 gy1 hbq q0 q1 hbx
              have gx0 := Gro.cell s0
              have gy1 := Gro.cell (cell_later HW2.out y1)
              go_wp2_with fail
              refine wp_region_quiet_gro (by kernel_rfl) (by kernel_rfl) ?_; (repeat (go_big_quiet_step ((go_at_call 42; exact Calls.gro_of (cmrE sA sN sC rA rN rC y.1 x.1 _ (Y3.out.later (btr HW2.out (Gro.below _))) (X3.out.later (btr HW2.out (Gro.below _))) (by omega) (by omega)))))); refine wpQuiet_nil ?_; intro _ hw'; obtain ⟨pq, hw''⟩ := hw'; subst hw''; have hbq := pq.below; revert hbq; generalize pq.world = wq; intro hbq
              obtain ⟨wc, rfl⟩ : ∃ wc, wc = wq := ⟨_, rfl⟩
              have HQC := Lib.hid (btr HQ2.out hbq)
              have HWC := Lib.hid (btr HW2.out hbq)
              have r0 := cell_later hbq s0
              have hszc := HWC.out.size
              clear gx0 gy1 hbq s0 s1
              by_cases hz : 0 < max x.2 0
              · have HPU := Lib.hid (putE w.heap.size u7 _ (excV (ta.take k) tb) rA rN rC x.1 (max x.2 0) wc (HO.out.later HQC.out) (X3.out.later HWC.out) hrN hz (by have := hcb; omega) hszc hlen)
                have HXF : Hid (excV (ta.take (k + 1)) tb = excV (ta.take k) tb ++ [(x.1, max x.2 0)]) := Lib.hid (by rw [HXT.out, HVV.out, if_neg (by show ¬ max (x.2) 0 = 0; omega)])
                clear hz
                go_wp2_with fail
                refine HPU.out.mono ?_
                rintro e w' ⟨v', rfl, hown', hgrow⟩
                have HBF := Lib.hid (below_push2 HWC.out hgrow HV0.out)
                have HOF : Hid (ownD (kEntF w.heap.size) w' w.heap.size v' (excV (ta.take (k + 1)) tb).length (excV (ta.take (k + 1)) tb)) := Lib.hid (own_at2 hown' HXF.out)
                clear hown' hgrow
                go_wp2
                go_roundw
                case rel => exact ⟨k + 1, _, _, _, _, by omega, by go_num, rfl, hmd, HBF.out, HLB, HLF, HOF⟩
                case measure => simp [intOf]; omega
              · have hz0 : max x.2 0 = 0 := by omega
                have HXF : Hid (excV (ta.take (k + 1)) tb = excV (ta.take k) tb) := Lib.hid (by rw [HXT.out, HVV.out, if_pos (by show max (x.2) 0 = 0; omega), List.append_nil])
                have HOF : Hid (ownD (kEntF w.heap.size) wc w.heap.size u7 (excV (ta.take (k + 1)) tb).length (excV (ta.take (k + 1)) tb)) := Lib.hid (own_at2 (HO.out.later HQC.out) HXF.out)
                have HPU : Hid (Calls Tryz.prog 43 #[u7, .slice rA rN rC, .int .i64 (max x.2 0)] wc fun e w' => e = .returned (.tuple #[u7, .bool true]) ∧ w' = wc) := Lib.hid (by rw [hz0]; exact put0E u7 rA rN rC wc)
                clear hz hz0
                go_wp2_with fail
                refine HPU.out.mono ?_
                rintro e w' ⟨rfl, rfl⟩
                go_wp2
                go_roundw
                case rel => exact ⟨k + 1, _, _, _, _, by omega, by go_num, rfl, hmd, HWC.out, HLB, HLF, HOF⟩
                case measure => simp [intOf]; omega
    · obtain rfl : k = n := by omega
      have HTT : ta.take k = ta := List.take_of_length_le (by have := HL.out; omega)
      obtain ⟨A8, c8, rfl, hcc8, hrd8, hfr8⟩ := HO.out.rd
      have HR8 : Hid (rTabF wo w.heap.size A8 (excV (ta.take k) tb).length (excV ta tb)) := Lib.hid ⟨by rw [HTT] at hrd8 ⊢; exact hrd8, fun _ a e => (hfr8 a e).1⟩
      clear hrd8 hfr8 HTT
      go_wp2
      go_ret2
      exact ⟨_, _, _, rfl, HR8.out, hcc8, hbw⟩
end Go.Proofs.YthcalfeoejdcgaaGreatDoor
