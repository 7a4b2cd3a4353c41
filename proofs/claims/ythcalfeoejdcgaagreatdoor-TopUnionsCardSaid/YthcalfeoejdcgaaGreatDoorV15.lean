import Derived.Test.YthcalfeoejdcgaaGreatDoorV13
namespace Go.Proofs.YthcalfeoejdcgaaGreatDoor
set_option linter.unusedSimpArgs false
set_option linter.unusedVariables false
section
open Go.BigFrame Go.RowKit
theorem bothE (A : Option Addr) (n c : Nat) (B : Option Addr) (m d : Nat) (ta tb : Tab) (w : World) (ha : rTab w A n ta) (hb : rTab w B m tb) (oa : okBag ta) (ob : okBag tb) :
 Calls Tryz.prog 39 #[.slice A n c, .slice B m d] w fun e w' => e = .returned (.int .i64 0) /\ Below w.heap.size w w' := by
 have H1 := qL (zn4 A n c ta w ha oa)
 have H2 := qL fun W (h : Below w.heap.size w W) => zn4 B m d tb W (hb.later h) ob
 clear ha hb oa ob
 go_enter Tryz.func39, Tryz.ntmps39
 go_wp2_with fail
 refine H1.out.mono ?_
 rintro e w1 ⟨rfl, hb1⟩
 have HB1 := qL hb1
 have H3 := qL (H2.out w1 hb1)
 clear hb1
 go_wp2_with fail
 refine H3.out.mono ?_
 rintro e w2 ⟨rfl, hb2⟩
 have HB2 := qL (btr HB1.out hb2)
 clear hb2
 go_wp2
 go_ret
 exact ⟨zak rfl, HB2.out⟩
theorem zpf {a b : Tab} (ha : Bag a) (hb : Bag b) (pa : ∀ x ∈ a, 0 < x.2) (pb : ∀ x ∈ b, 0 < x.2) (la : ∀ x ∈ a, x.1.length <= 12) (lb : ∀ x ∈ b, x.1.length <= 12) : mergeV a b = normV (a ++ b) := by
 obtain ⟨h1, h2, h3, h4, h5⟩ := zcy _ a b (qV _) ha.1 hb.1
 have h6 := h5 (fun x hx => ⟨pa x hx, la x hx⟩) (fun x hx => ⟨pb x hx, lb x hx⟩)
 refine zh9 ⟨h1, fun x hx => ?_⟩ fun r => by rw [h2, zcc]
 have := (h6 x hx).1
 omega
theorem zdp : ∀ (n : Nat) (a b : Tab), a.length + b.length <= n -> (mergeV a b).length <= a.length + b.length
 | _, [], b, _ => by rw [zbr]; simp
 | _, x :: a, [], _ => by rw [zby]; simp
 | 0, x :: a, y :: b, h => by simp at h
 | n + 1, x :: a, y :: b, h => by
   simp only [List.length_cons] at h
   rcases Int.lt_trichotomy (cmpR x.1 y.1) 0 with c | c | c
   . rw [zek c]
     have := zdp n a (y :: b) (by simp only [List.length_cons]; omega)
     simp only [List.length_cons] at this ⊢; omega
   . rw [zei c]
     have := zdp n a b qF
     simp only [List.length_cons] at this ⊢; omega
   . rw [zej c]
     have := zdp n (x :: a) b (by simp only [List.length_cons]; omega)
     simp only [List.length_cons] at this ⊢; omega
set_option maxRecDepth 100000 in
set_option maxHeartbeats 2000000 in
theorem bmergeE (A : Option Addr) (n c : Nat) (B : Option Addr) (m d : Nat) (ta tb : Tab) (w : World) (ha : rTab w A n ta) (hb : rTab w B m tb) (hc : n <= c) (hd : m <= d) (ea : eOk ta) (eb : eOk tb) (hs : sumC ta + sumC tb <= 65536) (hl : n + m <= 4096) :
 Calls Tryz.prog 40 #[.slice A n c, .slice B m d, .int .i64 1] w (Tab2R (mergeV ta tb) w) := by
 have HA := qL ha
 have HB := qL hb
 have EA := qL ea
 have EB := qL eb
 have HSS := qL hs
 have HL0 := qL hl
 have HLT : Hid ((mergeV ta tb).length <= 4096) := qL (by have h1 := zdp _ ta tb (qV _); have := ha.len; have := hb.len; omega)
 clear ha hb ea eb hs hl
 go_enter Tryz.func40, Tryz.ntmps40
 go_wp2
 go_loopw [0, 1, 8, 9] (fun a b o ok wr => ∃ (A : Option Addr) (n c : Nat) (B : Option Addr) (m d : Nat) (la lb lo : Tab) (no : Nat), a = .slice A n c /\ b = .slice B m d /\ ok = .bool true /\ n <= c /\ m <= d /\ Hid (rTab w A n la) /\ Hid (rTab w B m lb) /\ Hid (eOk la /\ eOk lb /\ sumC la + sumC lb <= 65536) /\ Hid (ownD (kEntF w.heap.size) wr w.heap.size o no lo) /\ no + n + m <= 4096 /\ Below w.heap.size w wr /\ Hid (lo ++ mergeV la lb = mergeV ta tb))
  (fun a b _ _ _ => match a, b with | .slice _ n _, .slice _ m _ => n + m | _, _ => 0)
 case atStart => exact ⟨A, n, c, B, m, d, ta, tb, [], 0, rfl, rfl, rfl, hc, hd, HA, HB, qL ⟨EA.out, EB.out, HSS.out⟩, qL (ownD.nil _ _), by have := HL0.out; omega, za0 _, qL rfl⟩
 case round =>
  obtain ⟨A, n, c, B, m, d, la, lb, lo, no, rfl, rfl, rfl, hnc, hmd, HLA, HLB, HE, HO, hno, hbw, HM⟩ := hrel
  have hv0 : ∀ k, u8.ownBlock = some k -> w.heap.size <= k := fun k e => (HO.out.lt k e).1
  have HV0 := qL hv0
  have HBW := qL hbw
  have hsz := hbw.size
  have hnk : no < 1000000 := by omega
  have iadd : IntKind.i64.wrap ((n : Int) + (m : Int)) = (n : Int) + (m : Int) := by rw [IntKind.wrap_i64]; omega
  by_cases hn0 : n = 0
  . obtain rfl : la = [] := List.eq_nil_of_length_eq_zero (by have := HLA.out.len; omega)
    subst hn0
    by_cases hm0 : m = 0
    . obtain rfl : lb = [] := List.eq_nil_of_length_eq_zero (by have := HLB.out.len; omega)
      subst hm0
      obtain ⟨A', c', rfl, hcc, hrd, hfr⟩ := HO.out.rd
      have HR : Hid (rTabF wr w.heap.size A' no (mergeV ta tb)) := qL (by rw [<- HM.out, zbr, List.append_nil]; exact ⟨hrd, fun _ a e => (hfr a e).1⟩)
      have HD := qL (doneE A' no c' wr qF)
      clear hrd hfr
      go_wp2_with fail
      refine HD.out.mono ?_
      rintro e w' ⟨rfl, rfl⟩
      go_wp2
      go_ret2
      exact ⟨_, _, _, rfl, HR.out, hcc, hbw⟩
    . obtain ⟨y, lb, rfl⟩ : ∃ x l, lb = x :: l := by
       cases lb with
       | nil => have := HLB.out.len; simp at this; omega
       | cons x l => exact ⟨x, l, rfl⟩
      have dm : decide (0 < (0 : Int) + (m : Int)) = true := by simp; omega
      have dm2 : decide (0 < (m : Int)) = true := by simp; omega
      have dm3 : decide (0 < m) = true := by simp; omega
      obtain ⟨b2, o2, rfl, hc2⟩ := HLB.out.opn qF
      obtain ⟨sA, sN, sC, y1, y2, y3⟩ := hc2 0 y rfl
      simp only [Nat.zero_mul, Nat.add_zero] at y1 y2
      have Y3 := qL y3
      have HM2 : Hid ((lo ++ [y]) ++ mergeV [] lb = mergeV ta tb) := qL (by rw [<- HM.out, zbr, zbr]; simp)
      have HE2 : Hid (eOk [] /\ eOk lb /\ sumC [] + sumC lb <= 65536) := qL ⟨HE.out.1, HE.out.2.1.tail, by have h := HE.out.2.2; have h2 := HE.out.2.1 y (List.mem_cons_self ..); rw [sumC, sumC] at h; rw [sumC]; omega⟩
      have hy0 := (HE.out.2.1 y (List.mem_cons_self ..)).1
      have hy1 : y.2 <= 65536 := by have h := HE.out.2.2; have h2 := HE.out.2.1.tail.sum; rw [sumC, sumC] at h; omega
      have hsN : sN <= 12 := by have := y3.len; have := (HE.out.2.1 y (List.mem_cons_self ..)).2; omega
      have HTB := qL (rD.cut (K := kEnt) (HLB.out) qF hmd)
      have HBQ := qL (za0 wr)
      have HBA := HBW
      have i0 : 0 < m := by omega
      have i1 : (0 : Int) < (m : Int) := by omega
      have i2 : (1 : Int) <= (m : Int) := by omega
      have i3 : (1 : Int) <= (d : Int) := by omega
      have z1 := qM hbw y1
      have z2 := qM hbw y2
      clear hc2 y3 hv0
      have hcc : (d = 1 /\ Hid (rTab w (some ⟨b2, o2, none⟩) (m - 1) lb)) ∨ (¬ d = 1 /\ Hid (rTab w (some ⟨b2, o2 + 2, none⟩) (m - 1) lb)) := by
       have h3 := HTB.out
       by_cases h : d = 1
       . rw [if_pos h] at h3
         exact .inl ⟨h, qL h3⟩
       . rw [if_neg h, Option.map_some, zaw] at h3
         exact .inr ⟨h, qL h3⟩
      have iw : IntKind.i64.wrap y.2 = y.2 := by rw [IntKind.wrap_i64]; omega
      have hszd : w.heap.size <= wr.drew.heap.size := hsz
      go_wp2_with fail
      go_region_held3 (fun w' => Below w.heap.size w w' /\ w'.cell? ⟨b2, o2, none⟩ = some (.slice sA sN sC) /\ w'.cell? ⟨b2, o2 + 1, none⟩ = some (.int .i64 y.2))
       ((refine (fun (hB : Below w.heap.size w _) => ⟨hB, qM hB y1, qM hB y2⟩) ?_; first | exact Below.drew HBA.out | (go_split_ands; exact zaf (Below.drew HBA.out) qI HV0.out)))
       ((go_at_call 43; go_split_ands; (with_reducible refine (putE w.heap.size u8 no lo sA sN sC y.1 y.2 _ (HO.out.later (Below.drew HBQ.out)) (Y3.out.later (Below.drew HBA.out)) hsN hy0 hy1 hszd hnk).mono ?_); rintro e w' ⟨v', rfl, hown', hgrow⟩))
      go_split_ands
      have HBF : Hid (Below w.heap.size w w') := qL qI
      have HOF := qL hown'
      clear hown' hgrow
      rcases hcc with ⟨hcc, HT3⟩ | ⟨hcc, HT3⟩
      all_goals
       go_wp2
       exact ⟨⟨_, _, _, _, _, _, [], lb, lo ++ [y], no + 1, rfl, rfl, rfl, hnc, by omega, HLA, HT3, HE2, HOF, by omega, HBF.out, HM2⟩, by simp; omega⟩
  . obtain ⟨x, la, rfl⟩ : ∃ x l, la = x :: l := by
     cases la with
     | nil => have := HLA.out.len; simp at this; omega
     | cons x l => exact ⟨x, l, rfl⟩
    have dn : decide (0 < (n : Int) + (m : Int)) = true := by simp; omega
    have dn3 : decide (0 < n + m) = true := by simp; omega
    have zn : ((n : Int) == 0) = false := by simp; omega
    obtain ⟨b1, o1, rfl, hc1⟩ := HLA.out.opn qF
    obtain ⟨rA, rN, rC, x1, x2, x3⟩ := hc1 0 x rfl
    simp only [Nat.zero_mul, Nat.add_zero] at x1 x2
    have X3 := qL x3
    have hx0 := (HE.out.1 x (List.mem_cons_self ..)).1
    have hx1 : x.2 <= 65536 := by have h := HE.out.2.2; have h2 := HE.out.1.tail.sum; have h3 := HE.out.2.1.sum; rw [sumC] at h; omega
    have hrN : rN <= 12 := by have := x3.len; have := (HE.out.1 x (List.mem_cons_self ..)).2; omega
    have HTA := qL (rD.cut (K := kEnt) (HLA.out) qF hnc)
    have i0 : 0 < n := by omega
    have i1 : (0 : Int) < (n : Int) := by omega
    have i2 : (1 : Int) <= (n : Int) := by omega
    have i3 : (1 : Int) <= (c : Int) := by omega
    by_cases hm0 : m = 0
    . obtain rfl : lb = [] := List.eq_nil_of_length_eq_zero (by have := HLB.out.len; omega)
      subst hm0
      have HM2 : Hid ((lo ++ [x]) ++ mergeV la [] = mergeV ta tb) := qL (by rw [<- HM.out, zby, zby]; simp)
      have HE2 : Hid (eOk la /\ eOk [] /\ sumC la + sumC [] <= 65536) := qL ⟨HE.out.1.tail, HE.out.2.1, by have h := HE.out.2.2; have h2 := HE.out.1 x (List.mem_cons_self ..); rw [sumC, sumC] at h; rw [sumC]; omega⟩
      have HBQ := qL (za0 wr)
      have HBA := HBW
      have z1 := qM hbw x1
      have z2 := qM hbw x2
      clear hc1 x3 hv0
      have hcc : (c = 1 /\ Hid (rTab w (some ⟨b1, o1, none⟩) (n - 1) la)) ∨ (¬ c = 1 /\ Hid (rTab w (some ⟨b1, o1 + 2, none⟩) (n - 1) la)) := by
       have h3 := HTA.out
       by_cases h : c = 1
       . rw [if_pos h] at h3
         exact .inl ⟨h, qL h3⟩
       . rw [if_neg h, Option.map_some, zaw] at h3
         exact .inr ⟨h, qL h3⟩
      have hszd : w.heap.size <= wr.drew.heap.size := hsz
      go_wp2_with fail
      go_region_held3 (fun w' => Below w.heap.size w w' /\ w'.cell? ⟨b1, o1, none⟩ = some (.slice rA rN rC) /\ w'.cell? ⟨b1, o1 + 1, none⟩ = some (.int .i64 x.2))
       ((refine (fun (hB : Below w.heap.size w _) => ⟨hB, qM hB x1, qM hB x2⟩) ?_; first | exact Below.drew HBA.out | (go_split_ands; exact zaf (Below.drew HBA.out) qI HV0.out)))
       ((go_at_call 43; go_split_ands; (with_reducible refine (putE w.heap.size u8 no lo rA rN rC x.1 x.2 _ (HO.out.later (Below.drew HBQ.out)) (X3.out.later (Below.drew HBA.out)) hrN hx0 hx1 hszd hnk).mono ?_); rintro e w' ⟨v', rfl, hown', hgrow⟩))
      go_split_ands
      have HBF : Hid (Below w.heap.size w w') := qL qI
      have HOF := qL hown'
      clear hown' hgrow
      rcases hcc with ⟨hcc, HT3⟩ | ⟨hcc, HT3⟩
      all_goals
       go_wp2
       exact ⟨⟨_, _, _, _, _, _, la, [], lo ++ [x], no + 1, rfl, rfl, rfl, by omega, hmd, HT3, HLB, HE2, HOF, by omega, HBF.out, HM2⟩, by simp; omega⟩
    . obtain ⟨y, lb, rfl⟩ : ∃ x l, lb = x :: l := by
       cases lb with
       | nil => have := HLB.out.len; simp at this; omega
       | cons x l => exact ⟨x, l, rfl⟩
      have zm : ((m : Int) == 0) = false := by simp; omega
      obtain ⟨b2, o2, rfl, hc2⟩ := HLB.out.opn qF
      obtain ⟨sA, sN, sC, y1, y2, y3⟩ := hc2 0 y rfl
      simp only [Nat.zero_mul, Nat.add_zero] at y1 y2
      have Y3 := qL y3
      have hy0 := (HE.out.2.1 y (List.mem_cons_self ..)).1
      have hy1 : y.2 <= 65536 := by have h := HE.out.2.2; have h2 := HE.out.2.1.tail.sum; have h3 := HE.out.1.sum; rw [sumC, sumC] at h; rw [sumC] at h3; omega
      have hsN : sN <= 12 := by have := y3.len; have := (HE.out.2.1 y (List.mem_cons_self ..)).2; omega
      have HTB := qL (rD.cut (K := kEnt) (HLB.out) qF hmd)
      have j0 : 0 < m := by omega
      have j1 : (0 : Int) < (m : Int) := by omega
      have j2 : (1 : Int) <= (m : Int) := by omega
      have j3 : (1 : Int) <= (d : Int) := by omega
      have hx12 := (HE.out.1 x (List.mem_cons_self ..)).2
      have hy12 := (HE.out.2.1 y (List.mem_cons_self ..)).2
      have gx1 := Gro.cell (qM hbw x1)
      have gy1 := Gro.cell (qM hbw y1)
      clear hc1 hc2 x3 y3 hv0
      rcases Int.lt_trichotomy (cmpR x.1 y.1) 0 with hcmp | hcmp | hcmp
      . have k1 : decide (cmpR x.1 y.1 < 0) = true := by simp; omega
        have HM2 : Hid ((lo ++ [x]) ++ mergeV la (y :: lb) = mergeV ta tb) := qL (by rw [<- HM.out, zek hcmp]; simp)
        have HE2 : Hid (eOk la /\ eOk (y :: lb) /\ sumC la + sumC (y :: lb) <= 65536) := qL ⟨HE.out.1.tail, HE.out.2.1, by have h := HE.out.2.2; have h2 := HE.out.1 x (List.mem_cons_self ..); rw [sumC] at h; omega⟩
        clear hcmp
        go_wp2_with fail
        refine zai qG qG ?_; (repeat (go_big_quiet_step ((go_at_call 42; exact Calls.gro_of (cmrE rA rN rC sA sN sC x.1 y.1 _ (X3.out.later (btr hbw (Gro.below _))) (Y3.out.later (btr hbw (Gro.below _))) qF qF))))); refine wpQuiet_nil ?_; intro _ hw'; obtain ⟨pq, hw''⟩ := hw'; subst hw''; have hbq := pq.below; revert hbq; generalize pq.world = wq; intro hbq
        have HBQ := qL hbq
        have HBA := qL (btr hbw hbq)
        have hsz := HBA.out.size
        have z1 := qM HBA.out x1
        have z2 := qM HBA.out x2
        clear gx1 gy1 hbq
        have hcc : (c = 1 /\ Hid (rTab w (some ⟨b1, o1, none⟩) (n - 1) la)) ∨ (¬ c = 1 /\ Hid (rTab w (some ⟨b1, o1 + 2, none⟩) (n - 1) la)) := by
         have h3 := HTA.out
         by_cases h : c = 1
         . rw [if_pos h] at h3
           exact .inl ⟨h, qL h3⟩
         . rw [if_neg h, Option.map_some, zaw] at h3
           exact .inr ⟨h, qL h3⟩
        have hszd : w.heap.size <= wq.drew.heap.size := hsz
        go_wp2_with fail
        go_region_held3 (fun w' => Below w.heap.size w w' /\ w'.cell? ⟨b1, o1, none⟩ = some (.slice rA rN rC) /\ w'.cell? ⟨b1, o1 + 1, none⟩ = some (.int .i64 x.2))
         ((refine (fun (hB : Below w.heap.size w _) => ⟨hB, qM hB x1, qM hB x2⟩) ?_; first | exact Below.drew HBA.out | (go_split_ands; exact zaf (Below.drew HBA.out) qI HV0.out)))
         ((go_at_call 43; go_split_ands; (with_reducible refine (putE w.heap.size u8 no lo rA rN rC x.1 x.2 _ (HO.out.later (Below.drew HBQ.out)) (X3.out.later (Below.drew HBA.out)) hrN hx0 hx1 hszd hnk).mono ?_); rintro e w' ⟨v', rfl, hown', hgrow⟩))
        go_split_ands
        have HBF : Hid (Below w.heap.size w w') := qL qI
        have HOF := qL hown'
        clear hown' hgrow
        rcases hcc with ⟨hcc, HT3⟩ | ⟨hcc, HT3⟩
        all_goals
         go_wp2
         exact ⟨⟨_, _, _, _, _, _, la, _, lo ++ [x], no + 1, rfl, rfl, rfl, by omega, hmd, HT3, HLB, HE2, HOF, by omega, HBF.out, HM2⟩, by simp; omega⟩
      . have k1 : decide (cmpR x.1 y.1 < 0) = false := by simp; omega
        have k2 : decide (0 < cmpR x.1 y.1) = false := by simp; omega
        have HM2 : Hid ((lo ++ [(x.1, x.2 + y.2)]) ++ mergeV la lb = mergeV ta tb) := qL (by rw [<- HM.out, zei hcmp]; simp)
        have HE2 : Hid (eOk la /\ eOk lb /\ sumC la + sumC lb <= 65536) := qL ⟨HE.out.1.tail, HE.out.2.1.tail, by have h := HE.out.2.2; have h2 := HE.out.1 x (List.mem_cons_self ..); have h3 := HE.out.2.1 y (List.mem_cons_self ..); rw [sumC, sumC] at h; omega⟩
        have b2' : x.2 + y.2 <= 65536 := by
         have h := HE.out.2.2
         have h2 := HE.out.1.tail.sum
         have h3 := HE.out.2.1.tail.sum
         rw [sumC, sumC] at h; omega
        have b0' : 0 < x.2 + y.2 := by omega
        have iw1 : IntKind.i64.wrap (1 * y.2) = y.2 := by rw [IntKind.wrap_i64]; omega
        have iw2 : IntKind.i64.wrap y.2 = y.2 := by rw [IntKind.wrap_i64]; omega
        have iw : IntKind.i64.wrap (x.2 + y.2) = x.2 + y.2 := by rw [IntKind.wrap_i64]; omega
        clear hcmp
        go_wp2_with fail
        refine zai qG qG ?_; (repeat (go_big_quiet_step ((go_at_call 42; exact Calls.gro_of (cmrE rA rN rC sA sN sC x.1 y.1 _ (X3.out.later (btr hbw (Gro.below _))) (Y3.out.later (btr hbw (Gro.below _))) qF qF))))); refine wpQuiet_nil ?_; intro _ hw'; obtain ⟨pq, hw''⟩ := hw'; subst hw''; have hbq := pq.below; revert hbq; generalize pq.world = wq; intro hbq
        have HBQ := qL hbq
        have HBA := qL (btr hbw hbq)
        have hsz := HBA.out.size
        have z1 := qM HBA.out x1
        have z2 := qM HBA.out x2
        have z3 := qM HBA.out y2
        clear gx1 gy1 hbq
        have hszd : w.heap.size <= wq.drew.heap.size := hsz
        go_wp2_with fail
        go_region_held3 (fun w' => Below w.heap.size w w' /\ w'.cell? ⟨b1, o1, none⟩ = some (.slice rA rN rC) /\ w'.cell? ⟨b1, o1 + 1, none⟩ = some (.int .i64 x.2) /\ w'.cell? ⟨b2, o2 + 1, none⟩ = some (.int .i64 y.2))
         ((refine (fun (hB : Below w.heap.size w _) => ⟨hB, qM hB x1, qM hB x2, qM hB y2⟩) ?_; first | exact Below.drew HBA.out | (go_split_ands; exact zaf (Below.drew HBA.out) qI HV0.out)))
         ((go_at_call 43; go_split_ands; (with_reducible refine (putE w.heap.size u8 no lo rA rN rC x.1 (x.2 + y.2) _ (HO.out.later (Below.drew HBQ.out)) (X3.out.later (Below.drew HBA.out)) hrN b0' b2' hszd hnk).mono ?_); rintro e w' ⟨v', rfl, hown', hgrow⟩))
        go_split_ands
        have HBF : Hid (Below w.heap.size w w') := qL qI
        have HOF := qL hown'
        clear hown' hgrow
        go_wp2_with fail
        go_quiet (fail)
        go_wp2
        have HTA4 : Hid (rTab w (if c = 1 then some ⟨b1, o1, none⟩ else some ⟨b1, o1 + 2, none⟩) (n - 1) la) := qL (by have h := HTA.out; rw [Option.map_some, zaw] at h; exact h)
        have HTB4 : Hid (rTab w (if d = 1 then some ⟨b2, o2, none⟩ else some ⟨b2, o2 + 2, none⟩) (m - 1) lb) := qL (by have h := HTB.out; rw [Option.map_some, zaw] at h; exact h)
        exact ⟨⟨_, _, _, _, _, _, la, lb, lo ++ [(x.1, x.2 + y.2)], no + 1, rfl, rfl, rfl, by omega, by omega, HTA4, HTB4, HE2, qL (HOF.out.later (zbh _ _)), by omega, za6 HBF.out _, HM2⟩, by simp; omega⟩
      . have k1 : decide (cmpR x.1 y.1 < 0) = false := by simp; omega
        have k2 : decide (0 < cmpR x.1 y.1) = true := by simp; omega
        have HM2 : Hid ((lo ++ [y]) ++ mergeV (x :: la) lb = mergeV ta tb) := qL (by rw [<- HM.out, zej hcmp]; simp)
        have HE2 : Hid (eOk (x :: la) /\ eOk lb /\ sumC (x :: la) + sumC lb <= 65536) := qL ⟨HE.out.1, HE.out.2.1.tail, by have h := HE.out.2.2; have h2 := HE.out.2.1 y (List.mem_cons_self ..); rw [sumC, sumC] at h; rw [sumC]; omega⟩
        clear hcmp
        go_wp2_with fail
        refine zai qG qG ?_; (repeat (go_big_quiet_step ((go_at_call 42; exact Calls.gro_of (cmrE rA rN rC sA sN sC x.1 y.1 _ (X3.out.later (btr hbw (Gro.below _))) (Y3.out.later (btr hbw (Gro.below _))) qF qF))))); refine wpQuiet_nil ?_; intro _ hw'; obtain ⟨pq, hw''⟩ := hw'; subst hw''; have hbq := pq.below; revert hbq; generalize pq.world = wq; intro hbq
        have HBQ := qL hbq
        have HBA := qL (btr hbw hbq)
        have hsz := HBA.out.size
        have z1 := qM HBA.out y1
        have z2 := qM HBA.out y2
        clear gx1 gy1 hbq
        have hcc : (d = 1 /\ Hid (rTab w (some ⟨b2, o2, none⟩) (m - 1) lb)) ∨ (¬ d = 1 /\ Hid (rTab w (some ⟨b2, o2 + 2, none⟩) (m - 1) lb)) := by
         have h3 := HTB.out
         by_cases h : d = 1
         . rw [if_pos h] at h3
           exact .inl ⟨h, qL h3⟩
         . rw [if_neg h, Option.map_some, zaw] at h3
           exact .inr ⟨h, qL h3⟩
        have iw : IntKind.i64.wrap y.2 = y.2 := by rw [IntKind.wrap_i64]; omega
        have hszd : w.heap.size <= wq.drew.heap.size := hsz
        go_wp2_with fail
        go_region_held3 (fun w' => Below w.heap.size w w' /\ w'.cell? ⟨b2, o2, none⟩ = some (.slice sA sN sC) /\ w'.cell? ⟨b2, o2 + 1, none⟩ = some (.int .i64 y.2))
         ((refine (fun (hB : Below w.heap.size w _) => ⟨hB, qM hB y1, qM hB y2⟩) ?_; first | exact Below.drew HBA.out | (go_split_ands; exact zaf (Below.drew HBA.out) qI HV0.out)))
         ((go_at_call 43; go_split_ands; (with_reducible refine (putE w.heap.size u8 no lo sA sN sC y.1 y.2 _ (HO.out.later (Below.drew HBQ.out)) (Y3.out.later (Below.drew HBA.out)) hsN hy0 hy1 hszd hnk).mono ?_); rintro e w' ⟨v', rfl, hown', hgrow⟩))
        go_split_ands
        have HBF : Hid (Below w.heap.size w w') := qL qI
        have HOF := qL hown'
        clear hown' hgrow
        rcases hcc with ⟨hcc, HT3⟩ | ⟨hcc, HT3⟩
        all_goals
         go_wp2
         exact ⟨⟨_, _, _, _, _, _, _, lb, lo ++ [y], no + 1, rfl, rfl, rfl, hnc, by omega, HLA, HT3, HE2, HOF, by omega, HBF.out, HM2⟩, by simp; omega⟩
def addV (a b : Tab) : Tab := normV (a ++ b)
structure okAdd (a b : Tab) : Prop where
 ta : okTab a
 tb : okTab b
 len : a.length + b.length <= 4096
 sum : sumC a + sumC b <= 65536
theorem addE (A : Option Addr) (n c : Nat) (B : Option Addr) (m d : Nat) (ta tb : Tab) (w : World) (ha : rTab w A n ta) (hb : rTab w B m tb) (hc : n <= c) (hd : m <= d) (hok : okAdd ta tb) :
 Calls Tryz.prog 19 #[.slice A n c, .slice B m d] w (Tab2R (addV ta tb) w) := by
 have H1 := qL (bothE A n c B m d ta tb w ha hb hok.ta.1 hok.tb.1)
 have H2 := qL fun W (h : Below w.heap.size w W) => bmergeE A n c B m d ta tb W (ha.later h) (hb.later h) hc hd (fun x hx => ⟨hok.ta.2 x hx, (hok.ta.1.2.2 x hx).1⟩) (fun x hx => ⟨hok.tb.2 x hx, (hok.tb.1.2.2 x hx).1⟩) hok.sum (by have := ha.len; have := hb.len; have := hok.len; omega)
 have HV : Hid (mergeV ta tb = addV ta tb) := qL (zpf hok.ta.1.2.1 hok.tb.1.2.1 hok.ta.2 hok.tb.2 (fun x hx => (hok.ta.1.2.2 x hx).1) (fun x hx => (hok.tb.1.2.2 x hx).1))
 clear ha hb hok
 go_enter Tryz.func19, Tryz.ntmps19
 go_wp2_with fail
 refine H1.out.mono ?_
 rintro e w1 ⟨rfl, hb1⟩
 have HB1 := qL hb1
 have H3 := qL (H2.out w1 hb1)
 clear hb1
 go_wp2_with fail
 refine H3.out.mono ?_
 rintro e w2 ⟨A9, n9, c9, rfl, hr9, hc9, hb9⟩
 have HR9 : Hid (rTabF w2 w.heap.size A9 n9 (addV ta tb)) := qL (by rw [<- HV.out]; exact hr9.mono HB1.out.size)
 have HB9 := qL (btr HB1.out hb9)
 clear hr9 hb9
 go_wp2
 go_ret2
 exact ⟨_, _, _, rfl, HR9.out, hc9, HB9.out⟩
def prjL (is : List Int) (t : Tab) : Tab := t.map fun x => (pkV is x.1, x.2)
theorem zie (is : List Int) : ∀ t : Tab, sumC (prjL is t) = sumC t
 | [] => rfl
 | x :: t => by
   have ih := zie is t
   unfold prjL at ih ⊢
   rw [List.map_cons, sumC, sumC, ih]
set_option maxRecDepth 100000 in
set_option maxHeartbeats 1000000 in
theorem projectE (A : Option Addr) (n c : Nat) (t : Tab) (iA : Option Addr) (iN iC : Nat) (is : List Int) (w : World) (ht : rTab w A n t) (hi : rInt w iA iN is) (hok : okTab t) (hs : sumC t <= 65536) (hi12 : iN <= 12) : Calls Tryz.prog 133 #[.slice A n c, .slice iA iN iC] w (Tab2R (prjV is t) w) := by
 obtain ⟨iE, PE⟩ := zpw w.heap.size
 have HT := qL ht
 have HI := qL hi
 have LI := qL hi.len
 have HL := qL ht.len
 have HK := qL hok
 have HS := qL hs
 have hn : n <= 4096 := by have := ht.len; have := hok.1.1; omega
 have H1 := qL (zn4 A n c t w ht hok.1)
 have d12 : decide (12 < iN) = false := by simp; omega
 clear ht hok hi hs
 go_enter Tryz.func133, Tryz.ntmps133
 go_wp2_with fail
 refine H1.out.mono ?_
 rintro e w1 ⟨rfl, hb1⟩
 have HB1 := qL hb1
 clear hb1
 go_wp2
 go_loopw [7, 20] (fun v i wr => ∃ k : Nat, k <= n /\ i = .int .i64 k /\ Below w.heap.size w wr /\ Hid (ownD (kEntF w.heap.size) wr w.heap.size v k (prjL is (t.take k)))) (fun _ i _ => n - (intOf i).toNat)
 case atStart => exact ⟨0, by omega, rfl, HB1.out, qL (ownD.nil _ _)⟩
 case round =>
  obtain ⟨k, hk, rfl, hbw, HO⟩ := hrel
  by_cases hlt : k < n
  . obtain ⟨b1, o1, rfl, hc1⟩ := HT.out.opn qF
    obtain ⟨x, hx⟩ := zah (l := t) (k := k) (by have := HL.out; omega)
    obtain ⟨rA, rN, rC, x1, x2, x3⟩ := hc1 k x hx
    have X3 := qL x3
    have hrN : rN <= 100000 := by have := x3.len; have := (HK.out.1.2.2 x (qP hx)).1; omega
    have hv0 : ∀ j, u7.ownBlock = some j -> w.heap.size <= j /\ j < wr.heap.size := HO.out.lt
    have HV0 := qL hv0
    have HBW := qL hbw
    have HX : Hid (prjL is (t.take (k + 1)) = prjL is (t.take k) ++ [(pkV is x.1, x.2)]) := qL (by unfold prjL; rw [zbc hx, List.map_append]; rfl)
    have z1 := qM hbw x1
    have z2 := qM hbw x2
    have HA : Hid (Below w.heap.size w (wr.alloc (.cells #[.slice rA rN rC, .int .i64 x.2] 65))) := qL (hbw.alloc hbw.size _)
    have c1 : (wr.alloc (.cells #[.slice rA rN rC, .int .i64 x.2] 65)).cell? ⟨wr.heap.size, 0, none⟩ = some (.slice rA rN rC) := by simp
    have c2 : (wr.alloc (.cells #[.slice rA rN rC, .int .i64 x.2] 65)).cell? ⟨wr.heap.size, 1, none⟩ = some (.int .i64 x.2) := by simp
    clear hc1 hx x3 hv0 x1 x2 hbw
    go_wp2_with fail
    have c1d : (wr.alloc (.cells #[.slice rA rN rC, .int .i64 x.2] 65)).drew.cell? ⟨wr.heap.size, 0, none⟩ = some (.slice rA rN rC) := c1
    have c2d : (wr.alloc (.cells #[.slice rA rN rC, .int .i64 x.2] 65)).drew.cell? ⟨wr.heap.size, 1, none⟩ = some (.int .i64 x.2) := c2
    have hk1 : k < 1000000 := by omega
    have hne : some wr.heap.size ≠ u7.ownBlock := fun e => by have := HV0.out _ e.symm; omega
    have hi1 : iN <= 100000 := by omega
    go_region_held3 (fun w' => Below w.heap.size w w' /\ w'.cell? ⟨wr.heap.size, 0, none⟩ = some (.slice rA rN rC) /\ w'.cell? ⟨wr.heap.size, 1, none⟩ = some (.int .i64 x.2))
     ((go_split_ands; refine ⟨?_, ?_, ?_⟩ <;> (with_reducible first | exact HA.out.drew | exact c1d | exact c2d | (refine Below.alloc ?_ (Below.size qI) _; assumption) | exact qM (zae _ _) qI | (exact zaf qI qI (fun k e => (HV0.out k e).1)) | exact World.grownBy.cell qI qI hne | (refine btr ?_ qI; assumption) | exact qM qI qI)))
     (first
       | (go_at_call 207; go_split_ands; (with_reducible refine (picE rA rN rC x.1 iA iN iC is _ (X3.out.later HA.out.drew) (HI.out.later HA.out.drew) hrN hi1).mono ?_); rintro e w' ⟨A1, c1', rfl, hrd1, hcc1, hb1, hfr1, hown1⟩; have HB1 := qL (btr (zae wr _) (zap hb1)); have HSZ := qL (qR HBW.out.size HB1.out.size); have HF1 := qL (zb3 (n := iN) (w1 := wr) (fun k e => (HV0.out k e).2) (fun a e => qR (zae wr _).size (hfr1 a e).1)); have HF2 : Hid (∀ a, A1 = some a -> w.heap.size <= a.block) := qL (fun a e => qR HA.out.size (hfr1 a e).1); have HF3 : Hid (ownD (kEntF w.heap.size) (w'.alloc (.cells #[.slice A1 iN c1', .int .i64 x.2] 65)) w.heap.size u7 k (prjL is (t.take k))) := qL (HO.out.later (HB1.out.alloc HB1.out.size _)); have HF4 : Hid (rVal (w'.alloc (.cells #[.slice A1 iN c1', .int .i64 x.2] 65)) A1 iN (pkV is x.1)) := qL (zb4.1 (hrd1.later (zae _ (.cells #[.slice A1 iN c1', .int .i64 x.2] 65)))))
       | ((refine za3 _ qJ _ _ qJ PE HF3.out ⟨_, 0, none⟩ ⟨A1, iN, c1', x.2⟩ (pkV is x.1, x.2) qJ qJ (zan _ _ _ _ _ _) ⟨⟨HF4.out, rfl⟩, fun _ a e => HF2.out a e⟩ HF1.out hk1 (qR HSZ.out (zae _ _).size) ?_; intro v' w' hown' hgrow hat)))
    go_split_ands
    have HBF : Hid (Below w.heap.size w w') := qL qI
    have HOF : Hid (ownD (kEntF w.heap.size) w' w.heap.size v' (k + 1) (prjL is (t.take (k + 1)))) := qL (by rw [HX.out]; exact hown')
    clear hown' hgrow hat hown1 hrd1 hfr1 hb1
    go_wp2
    go_roundw
    case rel => exact ⟨k + 1, by omega, by go_num, HBF.out, HOF⟩
    case measure => simp [intOf]; omega
  . obtain rfl : k = n := by omega
    have HTT : t.take k = t := List.take_of_length_le (by have := HL.out; omega)
    obtain ⟨A8, c8, rfl, hcc8, hrd8, hfr8⟩ := HO.out.rd
    rw [HTT] at hrd8
    have H := qL (bsumE A8 k c8 (prjL is t) wr (rTabF.tab ⟨hrd8, fun _ a e => (hfr8 a e).1⟩) hn (fun y hy => by
     obtain ⟨z, hz, rfl⟩ := List.mem_map.1 hy
     exact HK.out.2 z hz) (by rw [zie]; exact HS.out) (fun y hy => by
     obtain ⟨z, hz, rfl⟩ := List.mem_map.1 hy
     show (pkV is z.1).length <= 12
     rw [zdi]; have := LI.out; omega))
    clear hrd8 hfr8 HTT
    go_wp2_with fail
    refine H.out.mono ?_
    rintro e w5 ⟨A9, n9, c9, rfl, hr9, hc9, hb9⟩
    have HR9 : Hid (rTabF w5 w.heap.size A9 n9 (prjV is t)) := qL (hr9.mono hbw.size)
    have HB9 := qL (btr hbw hb9)
    clear hr9 hb9
    go_wp2
    go_ret2
    exact ⟨_, _, _, rfl, HR9.out, hc9, HB9.out⟩
end
end Go.Proofs.YthcalfeoejdcgaaGreatDoor
