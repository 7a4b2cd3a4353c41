/- The program: bag.both, bag.merge (adding), bag.Add. -/
import Derived.Test.YthcalfeoejdcgaaGreatDoorZ12
import Derived.Test.YthcalfeoejdcgaaGreatDoorZ13
import Derived.Test.YthcalfeoejdcgaaGreatDoorZ09
namespace Go.Proofs.YthcalfeoejdcgaaGreatDoor
open Go.RowKit Go.BigFrame
set_option linter.unusedSimpArgs false
set_option linter.unusedVariables false

theorem bothE (A : Option Addr) (n c : Nat) (B : Option Addr) (m d : Nat) (ta tb : Tab) (w : World) (ha : rTab w A n ta) (hb : rTab w B m tb) (oa : okBag ta) (ob : okBag tb) :
    Calls Tryz.prog 39 #[.slice A n c, .slice B m d] w fun e w' => e = .returned (.int .i64 0) ∧ Below w.heap.size w w' := by
  have H1 := Lib.hid (bvalE A n c ta w ha oa)
  have H2 := Lib.hid fun W (h : Below w.heap.size w W) => bvalE B m d tb W (hb.later h) ob
  clear ha hb oa ob
  go_enter Tryz.func39, Tryz.ntmps39
  go_wp2_with fail
  refine H1.out.mono ?_
  rintro e w1 ⟨rfl, hb1⟩
  have HB1 := Lib.hid hb1
  have H3 := Lib.hid (H2.out w1 hb1)
  clear hb1
  go_wp2_with fail
  refine H3.out.mono ?_
  rintro e w2 ⟨rfl, hb2⟩
  have HB2 := Lib.hid (btr HB1.out hb2)
  clear hb2
  go_wp2
  go_ret
  exact ⟨ret_int rfl, HB2.out⟩
theorem merge_bag {a b : Tab} (ha : Bag a) (hb : Bag b) (pa : ∀ x ∈ a, 0 < x.2) (pb : ∀ x ∈ b, 0 < x.2) (la : ∀ x ∈ a, x.1.length ≤ 12) (lb : ∀ x ∈ b, x.1.length ≤ 12) : mergeV a b = normV (a ++ b) := by
  obtain ⟨h1, h2, h3, h4, h5⟩ := mergeV_all _ a b (Nat.le_refl _) ha.1 hb.1
  have h6 := h5 (fun x hx => ⟨pa x hx, la x hx⟩) (fun x hx => ⟨pb x hx, lb x hx⟩)
  refine norm_eq ⟨h1, fun x hx => ?_⟩ fun r => by rw [h2, cnt_append]
  have := (h6 x hx).1
  omega
theorem mergeV_len : ∀ (n : Nat) (a b : Tab), a.length + b.length ≤ n → (mergeV a b).length ≤ a.length + b.length
  | _, [], b, _ => by rw [mergeV_nil]; simp
  | _, x :: a, [], _ => by rw [mergeV_nil2]; simp
  | 0, x :: a, y :: b, h => by simp at h
  | n + 1, x :: a, y :: b, h => by
    simp only [List.length_cons] at h
    rcases Int.lt_trichotomy (cmpR x.1 y.1) 0 with c | c | c
    · rw [mergeV_lt c]
      have := mergeV_len n a (y :: b) (by simp only [List.length_cons]; omega)
      simp only [List.length_cons] at this ⊢; omega
    · rw [mergeV_eq c]
      have := mergeV_len n a b (by omega)
      simp only [List.length_cons] at this ⊢; omega
    · rw [mergeV_gt c]
      have := mergeV_len n (x :: a) b (by simp only [List.length_cons]; omega)
      simp only [List.length_cons] at this ⊢; omega
set_option maxRecDepth 100000 in
set_option maxHeartbeats 2000000 in
theorem bmergeE (A : Option Addr) (n c : Nat) (B : Option Addr) (m d : Nat) (ta tb : Tab) (w : World) (ha : rTab w A n ta) (hb : rTab w B m tb) (hc : n ≤ c) (hd : m ≤ d) (ea : eOk ta) (eb : eOk tb) (hs : sumC ta + sumC tb ≤ 65536) (hl : n + m ≤ 4096) :
    Calls Tryz.prog 40 #[.slice A n c, .slice B m d, .int .i64 1] w (Tab2R (mergeV ta tb) w) := by
  have HA := Lib.hid ha
  have HB := Lib.hid hb
  have EA := Lib.hid ea
  have EB := Lib.hid eb
  have HSS := Lib.hid hs
  have HL0 := Lib.hid hl
  have HLT : Hid ((mergeV ta tb).length ≤ 4096) := Lib.hid (by have h1 := mergeV_len _ ta tb (Nat.le_refl _); have := ha.len; have := hb.len; omega)
  clear ha hb ea eb hs hl
  go_enter Tryz.func40, Tryz.ntmps40
  go_wp2
  go_loopw [0, 1, 8, 9] (fun a b o ok wr => ∃ (A : Option Addr) (n c : Nat) (B : Option Addr) (m d : Nat) (la lb lo : Tab) (no : Nat), a = .slice A n c ∧ b = .slice B m d ∧ ok = .bool true ∧ n ≤ c ∧ m ≤ d ∧ Hid (rTab w A n la) ∧ Hid (rTab w B m lb) ∧ Hid (eOk la ∧ eOk lb ∧ sumC la + sumC lb ≤ 65536) ∧ Hid (ownD (kEntF w.heap.size) wr w.heap.size o no lo) ∧ no + n + m ≤ 4096 ∧ Below w.heap.size w wr ∧ Hid (lo ++ mergeV la lb = mergeV ta tb))
    (fun a b _ _ _ => match a, b with | .slice _ n _, .slice _ m _ => n + m | _, _ => 0)
  case atStart => exact ⟨A, n, c, B, m, d, ta, tb, [], 0, rfl, rfl, rfl, hc, hd, HA, HB, Lib.hid ⟨EA.out, EB.out, HSS.out⟩, Lib.hid (ownD.nil _ _), by have := HL0.out; omega, bself _, Lib.hid rfl⟩
  case round =>
    obtain ⟨A, n, c, B, m, d, la, lb, lo, no, rfl, rfl, rfl, hnc, hmd, HLA, HLB, HE, HO, hno, hbw, HM⟩ := hrel
    have hv0 : ∀ k, u8.ownBlock = some k → w.heap.size ≤ k := fun k e => (HO.out.lt k e).1
    have HV0 := Lib.hid hv0
    have HBW := Lib.hid hbw
    have hsz := hbw.size
    have hnk : no < 1000000 := by omega
    have iadd : IntKind.i64.wrap ((n : Int) + (m : Int)) = (n : Int) + (m : Int) := by rw [IntKind.wrap_i64]; omega
    by_cases hn0 : n = 0
    · obtain rfl : la = [] := List.eq_nil_of_length_eq_zero (by have := HLA.out.len; omega)
      subst hn0
      by_cases hm0 : m = 0
      · obtain rfl : lb = [] := List.eq_nil_of_length_eq_zero (by have := HLB.out.len; omega)
        subst hm0
        obtain ⟨A', c', rfl, hcc, hrd, hfr⟩ := HO.out.rd
        have HR : Hid (rTabF wr w.heap.size A' no (mergeV ta tb)) := Lib.hid (by rw [← HM.out, mergeV_nil, List.append_nil]; exact ⟨hrd, fun _ a e => (hfr a e).1⟩)
        have HD := Lib.hid (doneE A' no c' wr (by omega))
        clear hrd hfr
        go_wp2_with fail
        refine HD.out.mono ?_
        rintro e w' ⟨rfl, rfl⟩
        go_wp2
        go_ret2
        exact ⟨_, _, _, rfl, HR.out, hcc, hbw⟩
      · obtain ⟨y, lb, rfl⟩ : ∃ x l, lb = x :: l := by
          cases lb with
          | nil => have := HLB.out.len; simp at this; omega
          | cons x l => exact ⟨x, l, rfl⟩
        have dm : decide (0 < (0 : Int) + (m : Int)) = true := by simp; omega
        have dm2 : decide (0 < (m : Int)) = true := by simp; omega
        have dm3 : decide (0 < m) = true := by simp; omega
        obtain ⟨b2, o2, rfl, hc2⟩ := HLB.out.opn (by omega)
        obtain ⟨sA, sN, sC, y1, y2, y3⟩ := hc2 0 y rfl
        simp only [Nat.zero_mul, Nat.add_zero] at y1 y2
        have Y3 := Lib.hid y3
        have HM2 : Hid ((lo ++ [y]) ++ mergeV [] lb = mergeV ta tb) := Lib.hid (by rw [← HM.out, mergeV_nil, mergeV_nil]; simp)
        have HE2 : Hid (eOk [] ∧ eOk lb ∧ sumC [] + sumC lb ≤ 65536) := Lib.hid ⟨HE.out.1, HE.out.2.1.tail, by have h := HE.out.2.2; have h2 := HE.out.2.1 y (List.mem_cons_self ..); rw [sumC, sumC] at h; rw [sumC]; omega⟩
        have hy0 := (HE.out.2.1 y (List.mem_cons_self ..)).1
        have hy1 : y.2 ≤ 65536 := by have h := HE.out.2.2; have h2 := HE.out.2.1.tail.sum; rw [sumC, sumC] at h; omega
        have hsN : sN ≤ 12 := by have := y3.len; have := (HE.out.2.1 y (List.mem_cons_self ..)).2; omega
        have HTB := Lib.hid (rD.cut (K := kEnt) (HLB.out) (by omega) hmd)
        have HBQ := Lib.hid (bself wr)
        have HBA := HBW
        have i0 : 0 < m := by omega
        have i1 : (0 : Int) < (m : Int) := by omega
        have i2 : (1 : Int) ≤ (m : Int) := by omega
        have i3 : (1 : Int) ≤ (d : Int) := by omega
        have z1 := cell_later hbw y1
        have z2 := cell_later hbw y2
        clear hc2 y3 hv0
        have hcc : (d = 1 ∧ Hid (rTab w (some ⟨b2, o2, none⟩) (m - 1) lb)) ∨ (¬ d = 1 ∧ Hid (rTab w (some ⟨b2, o2 + 2, none⟩) (m - 1) lb)) := by
          have h3 := HTB.out
          by_cases h : d = 1
          · rw [if_pos h] at h3
            exact .inl ⟨h, Lib.hid h3⟩
          · rw [if_neg h, Option.map_some, addr_lit] at h3
            exact .inr ⟨h, Lib.hid h3⟩
        have iw : IntKind.i64.wrap y.2 = y.2 := by rw [IntKind.wrap_i64]; omega
        have hszd : w.heap.size ≤ wr.drew.heap.size := hsz
        go_wp2_with fail
        go_region_held3 (fun w' => Below w.heap.size w w' ∧ w'.cell? ⟨b2, o2, none⟩ = some (.slice sA sN sC) ∧ w'.cell? ⟨b2, o2 + 1, none⟩ = some (.int .i64 y.2))
          ((refine (fun (hB : Below w.heap.size w _) => ⟨hB, cell_later hB y1, cell_later hB y2⟩) ?_; first | exact Below.drew HBA.out | (go_split_ands; exact below_push2 (Below.drew HBA.out) (by assumption) HV0.out)))
          ((go_at_call 43; go_split_ands; (with_reducible refine (putE w.heap.size u8 no lo sA sN sC y.1 y.2 _ (HO.out.later (Below.drew HBQ.out)) (Y3.out.later (Below.drew HBA.out)) hsN hy0 hy1 hszd hnk).mono ?_); rintro e w' ⟨v', rfl, hown', hgrow⟩))
        go_split_ands
        have HBF : Hid (Below w.heap.size w w') := Lib.hid (by assumption)
        have HOF := Lib.hid hown'
        clear hown' hgrow
        rcases hcc with ⟨hcc, HT3⟩ | ⟨hcc, HT3⟩
        all_goals
          go_wp2
          exact ⟨⟨_, _, _, _, _, _, [], lb, lo ++ [y], no + 1, rfl, rfl, rfl, hnc, by omega, HLA, HT3, HE2, HOF, by omega, HBF.out, HM2⟩, by simp; omega⟩
    · obtain ⟨x, la, rfl⟩ : ∃ x l, la = x :: l := by
        cases la with
        | nil => have := HLA.out.len; simp at this; omega
        | cons x l => exact ⟨x, l, rfl⟩
      have dn : decide (0 < (n : Int) + (m : Int)) = true := by simp; omega
      have dn3 : decide (0 < n + m) = true := by simp; omega
      have zn : ((n : Int) == 0) = false := by simp; omega
      obtain ⟨b1, o1, rfl, hc1⟩ := HLA.out.opn (by omega)
      obtain ⟨rA, rN, rC, x1, x2, x3⟩ := hc1 0 x rfl
      simp only [Nat.zero_mul, Nat.add_zero] at x1 x2
      have X3 := Lib.hid x3
      have hx0 := (HE.out.1 x (List.mem_cons_self ..)).1
      have hx1 : x.2 ≤ 65536 := by have h := HE.out.2.2; have h2 := HE.out.1.tail.sum; have h3 := HE.out.2.1.sum; rw [sumC] at h; omega
      have hrN : rN ≤ 12 := by have := x3.len; have := (HE.out.1 x (List.mem_cons_self ..)).2; omega
      have HTA := Lib.hid (rD.cut (K := kEnt) (HLA.out) (by omega) hnc)
      have i0 : 0 < n := by omega
      have i1 : (0 : Int) < (n : Int) := by omega
      have i2 : (1 : Int) ≤ (n : Int) := by omega
      have i3 : (1 : Int) ≤ (c : Int) := by omega
      by_cases hm0 : m = 0
      · obtain rfl : lb = [] := List.eq_nil_of_length_eq_zero (by have := HLB.out.len; omega)
        subst hm0
        have HM2 : Hid ((lo ++ [x]) ++ mergeV la [] = mergeV ta tb) := Lib.hid (by rw [← HM.out, mergeV_nil2, mergeV_nil2]; simp)
        have HE2 : Hid (eOk la ∧ eOk [] ∧ sumC la + sumC [] ≤ 65536) := Lib.hid ⟨HE.out.1.tail, HE.out.2.1, by have h := HE.out.2.2; have h2 := HE.out.1 x (List.mem_cons_self ..); rw [sumC, sumC] at h; rw [sumC]; omega⟩
        have HBQ := Lib.hid (bself wr)
        have HBA := HBW
        have z1 := cell_later hbw x1
        have z2 := cell_later hbw x2
        clear hc1 x3 hv0
        have hcc : (c = 1 ∧ Hid (rTab w (some ⟨b1, o1, none⟩) (n - 1) la)) ∨ (¬ c = 1 ∧ Hid (rTab w (some ⟨b1, o1 + 2, none⟩) (n - 1) la)) := by
          have h3 := HTA.out
          by_cases h : c = 1
          · rw [if_pos h] at h3
            exact .inl ⟨h, Lib.hid h3⟩
          · rw [if_neg h, Option.map_some, addr_lit] at h3
            exact .inr ⟨h, Lib.hid h3⟩
        have hszd : w.heap.size ≤ wr.drew.heap.size := hsz
        go_wp2_with fail
        go_region_held3 (fun w' => Below w.heap.size w w' ∧ w'.cell? ⟨b1, o1, none⟩ = some (.slice rA rN rC) ∧ w'.cell? ⟨b1, o1 + 1, none⟩ = some (.int .i64 x.2))
          ((refine (fun (hB : Below w.heap.size w _) => ⟨hB, cell_later hB x1, cell_later hB x2⟩) ?_; first | exact Below.drew HBA.out | (go_split_ands; exact below_push2 (Below.drew HBA.out) (by assumption) HV0.out)))
          ((go_at_call 43; go_split_ands; (with_reducible refine (putE w.heap.size u8 no lo rA rN rC x.1 x.2 _ (HO.out.later (Below.drew HBQ.out)) (X3.out.later (Below.drew HBA.out)) hrN hx0 hx1 hszd hnk).mono ?_); rintro e w' ⟨v', rfl, hown', hgrow⟩))
        go_split_ands
        have HBF : Hid (Below w.heap.size w w') := Lib.hid (by assumption)
        have HOF := Lib.hid hown'
        clear hown' hgrow
        rcases hcc with ⟨hcc, HT3⟩ | ⟨hcc, HT3⟩
        all_goals
          go_wp2
          exact ⟨⟨_, _, _, _, _, _, la, [], lo ++ [x], no + 1, rfl, rfl, rfl, by omega, hmd, HT3, HLB, HE2, HOF, by omega, HBF.out, HM2⟩, by simp; omega⟩
      · obtain ⟨y, lb, rfl⟩ : ∃ x l, lb = x :: l := by
          cases lb with
          | nil => have := HLB.out.len; simp at this; omega
          | cons x l => exact ⟨x, l, rfl⟩
        have zm : ((m : Int) == 0) = false := by simp; omega
        obtain ⟨b2, o2, rfl, hc2⟩ := HLB.out.opn (by omega)
        obtain ⟨sA, sN, sC, y1, y2, y3⟩ := hc2 0 y rfl
        simp only [Nat.zero_mul, Nat.add_zero] at y1 y2
        have Y3 := Lib.hid y3
        have hy0 := (HE.out.2.1 y (List.mem_cons_self ..)).1
        have hy1 : y.2 ≤ 65536 := by have h := HE.out.2.2; have h2 := HE.out.2.1.tail.sum; have h3 := HE.out.1.sum; rw [sumC, sumC] at h; rw [sumC] at h3; omega
        have hsN : sN ≤ 12 := by have := y3.len; have := (HE.out.2.1 y (List.mem_cons_self ..)).2; omega
        have HTB := Lib.hid (rD.cut (K := kEnt) (HLB.out) (by omega) hmd)
        have j0 : 0 < m := by omega
        have j1 : (0 : Int) < (m : Int) := by omega
        have j2 : (1 : Int) ≤ (m : Int) := by omega
        have j3 : (1 : Int) ≤ (d : Int) := by omega
        have hx12 := (HE.out.1 x (List.mem_cons_self ..)).2
        have hy12 := (HE.out.2.1 y (List.mem_cons_self ..)).2
        have gx1 := Gro.cell (cell_later hbw x1)
        have gy1 := Gro.cell (cell_later hbw y1)
        clear hc1 hc2 x3 y3 hv0
        rcases Int.lt_trichotomy (cmpR x.1 y.1) 0 with hcmp | hcmp | hcmp
        · have k1 : decide (cmpR x.1 y.1 < 0) = true := by simp; omega
          have HM2 : Hid ((lo ++ [x]) ++ mergeV la (y :: lb) = mergeV ta tb) := Lib.hid (by rw [← HM.out, mergeV_lt hcmp]; simp)
          have HE2 : Hid (eOk la ∧ eOk (y :: lb) ∧ sumC la + sumC (y :: lb) ≤ 65536) := Lib.hid ⟨HE.out.1.tail, HE.out.2.1, by have h := HE.out.2.2; have h2 := HE.out.1 x (List.mem_cons_self ..); rw [sumC] at h; omega⟩
          clear hcmp
          go_wp2_with fail
          refine wp_region_quiet_gro (by kernel_rfl) (by kernel_rfl) ?_; (repeat (go_big_quiet_step ((go_at_call 42; exact Calls.gro_of (cmrE rA rN rC sA sN sC x.1 y.1 _ (X3.out.later (btr hbw (Gro.below _))) (Y3.out.later (btr hbw (Gro.below _))) (by omega) (by omega)))))); refine wpQuiet_nil ?_; intro _ hw'; obtain ⟨pq, hw''⟩ := hw'; subst hw''; have hbq := pq.below; revert hbq; generalize pq.world = wq; intro hbq
          have HBQ := Lib.hid hbq
          have HBA := Lib.hid (btr hbw hbq)
          have hsz := HBA.out.size
          have z1 := cell_later HBA.out x1
          have z2 := cell_later HBA.out x2
          clear gx1 gy1 hbq
          have hcc : (c = 1 ∧ Hid (rTab w (some ⟨b1, o1, none⟩) (n - 1) la)) ∨ (¬ c = 1 ∧ Hid (rTab w (some ⟨b1, o1 + 2, none⟩) (n - 1) la)) := by
            have h3 := HTA.out
            by_cases h : c = 1
            · rw [if_pos h] at h3
              exact .inl ⟨h, Lib.hid h3⟩
            · rw [if_neg h, Option.map_some, addr_lit] at h3
              exact .inr ⟨h, Lib.hid h3⟩
          have hszd : w.heap.size ≤ wq.drew.heap.size := hsz
          go_wp2_with fail
          go_region_held3 (fun w' => Below w.heap.size w w' ∧ w'.cell? ⟨b1, o1, none⟩ = some (.slice rA rN rC) ∧ w'.cell? ⟨b1, o1 + 1, none⟩ = some (.int .i64 x.2))
            ((refine (fun (hB : Below w.heap.size w _) => ⟨hB, cell_later hB x1, cell_later hB x2⟩) ?_; first | exact Below.drew HBA.out | (go_split_ands; exact below_push2 (Below.drew HBA.out) (by assumption) HV0.out)))
            ((go_at_call 43; go_split_ands; (with_reducible refine (putE w.heap.size u8 no lo rA rN rC x.1 x.2 _ (HO.out.later (Below.drew HBQ.out)) (X3.out.later (Below.drew HBA.out)) hrN hx0 hx1 hszd hnk).mono ?_); rintro e w' ⟨v', rfl, hown', hgrow⟩))
          go_split_ands
          have HBF : Hid (Below w.heap.size w w') := Lib.hid (by assumption)
          have HOF := Lib.hid hown'
          clear hown' hgrow
          rcases hcc with ⟨hcc, HT3⟩ | ⟨hcc, HT3⟩
          all_goals
            go_wp2
            exact ⟨⟨_, _, _, _, _, _, la, _, lo ++ [x], no + 1, rfl, rfl, rfl, by omega, hmd, HT3, HLB, HE2, HOF, by omega, HBF.out, HM2⟩, by simp; omega⟩
        · have k1 : decide (cmpR x.1 y.1 < 0) = false := by simp; omega
          have k2 : decide (0 < cmpR x.1 y.1) = false := by simp; omega
          have HM2 : Hid ((lo ++ [(x.1, x.2 + y.2)]) ++ mergeV la lb = mergeV ta tb) := Lib.hid (by rw [← HM.out, mergeV_eq hcmp]; simp)
          have HE2 : Hid (eOk la ∧ eOk lb ∧ sumC la + sumC lb ≤ 65536) := Lib.hid ⟨HE.out.1.tail, HE.out.2.1.tail, by have h := HE.out.2.2; have h2 := HE.out.1 x (List.mem_cons_self ..); have h3 := HE.out.2.1 y (List.mem_cons_self ..); rw [sumC, sumC] at h; omega⟩
          have b2' : x.2 + y.2 ≤ 65536 := by
            have h := HE.out.2.2
            have h2 := HE.out.1.tail.sum
            have h3 := HE.out.2.1.tail.sum
            rw [sumC, sumC] at h; omega
          have b0' : 0 < x.2 + y.2 := by omega
          have iw1 : IntKind.i64.wrap (1 * y.2) = y.2 := by rw [IntKind.wrap_i64]; omega
          have iw2 : IntKind.i64.wrap y.2 = y.2 := by rw [IntKind.wrap_i64]; omega
          have iw : IntKind.i64.wrap (x.2 + y.2) = x.2 + y.2 := by rw [IntKind.wrap_i64]; omega
          clear hcmp
          go_wp2_with fail
          refine wp_region_quiet_gro (by kernel_rfl) (by kernel_rfl) ?_; (repeat (go_big_quiet_step ((go_at_call 42; exact Calls.gro_of (cmrE rA rN rC sA sN sC x.1 y.1 _ (X3.out.later (btr hbw (Gro.below _))) (Y3.out.later (btr hbw (Gro.below _))) (by omega) (by omega)))))); refine wpQuiet_nil ?_; intro _ hw'; obtain ⟨pq, hw''⟩ := hw'; subst hw''; have hbq := pq.below; revert hbq; generalize pq.world = wq; intro hbq
          have HBQ := Lib.hid hbq
          have HBA := Lib.hid (btr hbw hbq)
          have hsz := HBA.out.size
          have z1 := cell_later HBA.out x1
          have z2 := cell_later HBA.out x2
          have z3 := cell_later HBA.out y2
          clear gx1 gy1 hbq
          have hszd : w.heap.size ≤ wq.drew.heap.size := hsz
          go_wp2_with fail
          go_region_held3 (fun w' => Below w.heap.size w w' ∧ w'.cell? ⟨b1, o1, none⟩ = some (.slice rA rN rC) ∧ w'.cell? ⟨b1, o1 + 1, none⟩ = some (.int .i64 x.2) ∧ w'.cell? ⟨b2, o2 + 1, none⟩ = some (.int .i64 y.2))
            ((refine (fun (hB : Below w.heap.size w _) => ⟨hB, cell_later hB x1, cell_later hB x2, cell_later hB y2⟩) ?_; first | exact Below.drew HBA.out | (go_split_ands; exact below_push2 (Below.drew HBA.out) (by assumption) HV0.out)))
            ((go_at_call 43; go_split_ands; (with_reducible refine (putE w.heap.size u8 no lo rA rN rC x.1 (x.2 + y.2) _ (HO.out.later (Below.drew HBQ.out)) (X3.out.later (Below.drew HBA.out)) hrN b0' b2' hszd hnk).mono ?_); rintro e w' ⟨v', rfl, hown', hgrow⟩))
          go_split_ands
          have HBF : Hid (Below w.heap.size w w') := Lib.hid (by assumption)
          have HOF := Lib.hid hown'
          clear hown' hgrow
          go_wp2_with fail
          go_quiet (fail)
          go_wp2
          have HTA4 : Hid (rTab w (if c = 1 then some ⟨b1, o1, none⟩ else some ⟨b1, o1 + 2, none⟩) (n - 1) la) := Lib.hid (by have h := HTA.out; rw [Option.map_some, addr_lit] at h; exact h)
          have HTB4 : Hid (rTab w (if d = 1 then some ⟨b2, o2, none⟩ else some ⟨b2, o2 + 2, none⟩) (m - 1) lb) := Lib.hid (by have h := HTB.out; rw [Option.map_some, addr_lit] at h; exact h)
          exact ⟨⟨_, _, _, _, _, _, la, lb, lo ++ [(x.1, x.2 + y.2)], no + 1, rfl, rfl, rfl, by omega, by omega, HTA4, HTB4, HE2, Lib.hid (HOF.out.later (below_drewn _ _)), by omega, below_drewN HBF.out _, HM2⟩, by simp; omega⟩
        · have k1 : decide (cmpR x.1 y.1 < 0) = false := by simp; omega
          have k2 : decide (0 < cmpR x.1 y.1) = true := by simp; omega
          have HM2 : Hid ((lo ++ [y]) ++ mergeV (x :: la) lb = mergeV ta tb) := Lib.hid (by rw [← HM.out, mergeV_gt hcmp]; simp)
          have HE2 : Hid (eOk (x :: la) ∧ eOk lb ∧ sumC (x :: la) + sumC lb ≤ 65536) := Lib.hid ⟨HE.out.1, HE.out.2.1.tail, by have h := HE.out.2.2; have h2 := HE.out.2.1 y (List.mem_cons_self ..); rw [sumC, sumC] at h; rw [sumC]; omega⟩
          clear hcmp
          go_wp2_with fail
          refine wp_region_quiet_gro (by kernel_rfl) (by kernel_rfl) ?_; (repeat (go_big_quiet_step ((go_at_call 42; exact Calls.gro_of (cmrE rA rN rC sA sN sC x.1 y.1 _ (X3.out.later (btr hbw (Gro.below _))) (Y3.out.later (btr hbw (Gro.below _))) (by omega) (by omega)))))); refine wpQuiet_nil ?_; intro _ hw'; obtain ⟨pq, hw''⟩ := hw'; subst hw''; have hbq := pq.below; revert hbq; generalize pq.world = wq; intro hbq
          have HBQ := Lib.hid hbq
          have HBA := Lib.hid (btr hbw hbq)
          have hsz := HBA.out.size
          have z1 := cell_later HBA.out y1
          have z2 := cell_later HBA.out y2
          clear gx1 gy1 hbq
          have hcc : (d = 1 ∧ Hid (rTab w (some ⟨b2, o2, none⟩) (m - 1) lb)) ∨ (¬ d = 1 ∧ Hid (rTab w (some ⟨b2, o2 + 2, none⟩) (m - 1) lb)) := by
            have h3 := HTB.out
            by_cases h : d = 1
            · rw [if_pos h] at h3
              exact .inl ⟨h, Lib.hid h3⟩
            · rw [if_neg h, Option.map_some, addr_lit] at h3
              exact .inr ⟨h, Lib.hid h3⟩
          have iw : IntKind.i64.wrap y.2 = y.2 := by rw [IntKind.wrap_i64]; omega
          have hszd : w.heap.size ≤ wq.drew.heap.size := hsz
          go_wp2_with fail
          go_region_held3 (fun w' => Below w.heap.size w w' ∧ w'.cell? ⟨b2, o2, none⟩ = some (.slice sA sN sC) ∧ w'.cell? ⟨b2, o2 + 1, none⟩ = some (.int .i64 y.2))
            ((refine (fun (hB : Below w.heap.size w _) => ⟨hB, cell_later hB y1, cell_later hB y2⟩) ?_; first | exact Below.drew HBA.out | (go_split_ands; exact below_push2 (Below.drew HBA.out) (by assumption) HV0.out)))
            ((go_at_call 43; go_split_ands; (with_reducible refine (putE w.heap.size u8 no lo sA sN sC y.1 y.2 _ (HO.out.later (Below.drew HBQ.out)) (Y3.out.later (Below.drew HBA.out)) hsN hy0 hy1 hszd hnk).mono ?_); rintro e w' ⟨v', rfl, hown', hgrow⟩))
          go_split_ands
          have HBF : Hid (Below w.heap.size w w') := Lib.hid (by assumption)
          have HOF := Lib.hid hown'
          clear hown' hgrow
          rcases hcc with ⟨hcc, HT3⟩ | ⟨hcc, HT3⟩
          all_goals
            go_wp2
            exact ⟨⟨_, _, _, _, _, _, _, lb, lo ++ [y], no + 1, rfl, rfl, rfl, hnc, by omega, HLA, HT3, HE2, HOF, by omega, HBF.out, HM2⟩, by simp; omega⟩
/-- the sum of two tables -/
def addV (a b : Tab) : Tab := normV (a ++ b)
structure okAdd (a b : Tab) : Prop where
  ta : okTab a
  tb : okTab b
  len : a.length + b.length ≤ 4096
  sum : sumC a + sumC b ≤ 65536
theorem addE (A : Option Addr) (n c : Nat) (B : Option Addr) (m d : Nat) (ta tb : Tab) (w : World) (ha : rTab w A n ta) (hb : rTab w B m tb) (hc : n ≤ c) (hd : m ≤ d) (hok : okAdd ta tb) :
    Calls Tryz.prog 19 #[.slice A n c, .slice B m d] w (Tab2R (addV ta tb) w) := by
  have H1 := Lib.hid (bothE A n c B m d ta tb w ha hb hok.ta.1 hok.tb.1)
  have H2 := Lib.hid fun W (h : Below w.heap.size w W) => bmergeE A n c B m d ta tb W (ha.later h) (hb.later h) hc hd (fun x hx => ⟨hok.ta.2 x hx, (hok.ta.1.2.2 x hx).1⟩) (fun x hx => ⟨hok.tb.2 x hx, (hok.tb.1.2.2 x hx).1⟩) hok.sum (by have := ha.len; have := hb.len; have := hok.len; omega)
  have HV : Hid (mergeV ta tb = addV ta tb) := Lib.hid (merge_bag hok.ta.1.2.1 hok.tb.1.2.1 hok.ta.2 hok.tb.2 (fun x hx => (hok.ta.1.2.2 x hx).1) (fun x hx => (hok.tb.1.2.2 x hx).1))
  clear ha hb hok
  go_enter Tryz.func19, Tryz.ntmps19
  go_wp2_with fail
  refine H1.out.mono ?_
  rintro e w1 ⟨rfl, hb1⟩
  have HB1 := Lib.hid hb1
  have H3 := Lib.hid (H2.out w1 hb1)
  clear hb1
  go_wp2_with fail
  refine H3.out.mono ?_
  rintro e w2 ⟨A9, n9, c9, rfl, hr9, hc9, hb9⟩
  have HR9 : Hid (rTabF w2 w.heap.size A9 n9 (addV ta tb)) := Lib.hid (by rw [← HV.out]; exact hr9.mono HB1.out.size)
  have HB9 := Lib.hid (btr HB1.out hb9)
  clear hr9 hb9
  go_wp2
  go_ret2
  exact ⟨_, _, _, rfl, HR9.out, hc9, HB9.out⟩
end Go.Proofs.YthcalfeoejdcgaaGreatDoor
