/- The program: evaluate.semi. -/
import Derived.Test.YthcalfeoejdcgaaGreatDoorZ25
import Derived.Test.YthcalfeoejdcgaaGreatDoorZ11
import Derived.Test.YthcalfeoejdcgaaGreatDoorZ27
namespace Go.Proofs.YthcalfeoejdcgaaGreatDoor
open Go.RowKit Go.BigFrame
set_option linter.unusedSimpArgs false
set_option linter.unusedVariables false

structure okJn (cs cs' : List Col) (nm ot : List ByteArray) (ps : List Int) (t u : Tab) : Prop where
  names : okNames cs nm
  len : nm.length = ot.length
  tab : okTab t
  mat : okMat cs' ot ps u
theorem sem_snoc {wanted : Bool} {ns os : List Int} {t u : Tab} {k : Nat} {x : List Val × Int} (h : t[k]? = some x) : semV wanted ns os (t.take (k + 1)) u = if (isM ns os u x == wanted) = true then semV wanted ns os (t.take k) u ++ [x] else semV wanted ns os (t.take k) u := by
  unfold semV
  rw [take_snoc h, List.filter_append]
  by_cases h1 : (isM ns os u x == wanted) = true
  · rw [if_pos h1]; simp [h1]
  · rw [if_neg h1]; simp [h1]
theorem semV_len (wanted : Bool) (ns os : List Int) (t u : Tab) : (semV wanted ns os t u).length ≤ t.length := List.length_filter_le _ _
theorem isM_null {ns os : List Int} {u : Tab} {x : List Val × Int} (h : nulV (pkV ns x.1) = true) : isM ns os u x = false := by
  unfold isM lnkV
  rw [if_pos h]; rfl
theorem isM_len {ns os : List Int} {u : Tab} {x : List Val × Int} (h : nulV (pkV ns x.1) = false) : isM ns os u x = decide (0 < (matV os [] (pkV ns x.1) u).length) := by
  unfold isM lnkV
  rw [if_neg (by simp [h])]
  cases matV os [] (pkV ns x.1) u <;> simp
set_option maxRecDepth 100000 in
set_option maxHeartbeats 20000000 in
theorem semiE (op : Int) (so : ByteArray) (nA oA iA dA : Option Addr) (nN nC oN oC iN iC dN dC : Nat) (nm : ByteArray) (cA kA rA : Option Addr) (cN cC kN kC rN rC : Nat) (nm' : ByteArray) (cA' kA' rA' : Option Addr) (cN' cC' kN' kC' rN' rC' : Nat) (wanted : Bool) (names others : List ByteArray) (cs cs' : List Col) (t u : Tab) (w : World)
    (hns : rStr w nA nN names) (hos : rStr w oA oN others) (hcs : rCol w cA cN cs) (hcs' : rCol w cA' cN' cs') (ht : rTab w rA rN t) (hu : rTab w rA' rN' u) (hnc : nN ≤ nC) (hoc : oN ≤ oC) (hcn : cN ≤ 12) (hcn' : cN' ≤ 12) (hok : okJn cs cs' names others [] t u) :
    Calls Tryz.prog 135 #[.agg #[.int .i64 op, .string so, .slice nA nN nC, .slice oA oN oC, .slice iA iN iC, .slice dA dN dC], .agg #[.string nm, .slice cA cN cC, .slice kA kN kC, .slice rA rN rC], .agg #[.string nm', .slice cA' cN' cC', .slice kA' kN' kC', .slice rA' rN' rC'], .bool wanted] w (Tab2R (semV wanted (names.map (idxC cs)) (others.map (idxC cs')) t u) w) := by
  obtain ⟨ns, hnsE⟩ : ∃ ns, ns = names.map (idxC cs) := ⟨_, rfl⟩
  obtain ⟨os, hosE⟩ : ∃ os, os = others.map (idxC cs') := ⟨_, rfl⟩
  rw [← hnsE, ← hosE]
  have HNS := Lib.hid hnsE
  have HOS := Lib.hid hosE
  clear hnsE hosE
  obtain ⟨iE, PE⟩ := pEnt
  have HT := Lib.hid ht
  have HK := Lib.hid hok
  have LN := Lib.hid hns.len
  have LO := Lib.hid hos.len
  have LT := Lib.hid ht.len
  have hn12 : nN ≤ 12 := by have := hns.len; have := hos.len; have := hok.len; have := hok.mat.n12; omega
  have hrn : rN ≤ 4096 := by have := ht.len; have := hok.tab.1.1; omega
  obtain ⟨w0, hw0⟩ : ∃ w0, w0 = (((w.alloc (.cells #[.int .i64 op, .string so, .slice nA nN nC, .slice oA oN oC, .slice iA iN iC, .slice dA dN dC] 44)).alloc (.cells #[.string nm, .slice cA cN cC, .slice kA kN kC, .slice rA rN rC] 31)).alloc (.cells #[.string nm', .slice cA' cN' cC', .slice kA' kN' kC', .slice rA' rN' rC'] 31)) := ⟨_, rfl⟩
  have HB0 : Hid (Below w.heap.size w w0) := Lib.hid (by rw [hw0]; exact ((ballo _ _).alloc (by simp) _).alloc (by simp; omega) _)
  have a0 : w0.cell? ⟨w.heap.size, 0, none⟩ = some (.int .i64 op) := by rw [hw0]; exact cell_later (ballo _ _) (cell_later (ballo _ _) (by simp))
  have a1 : w0.cell? ⟨w.heap.size, 1, none⟩ = some (.string so) := by rw [hw0]; exact cell_later (ballo _ _) (cell_later (ballo _ _) (by simp))
  have a2 : w0.cell? ⟨w.heap.size, 2, none⟩ = some (.slice nA nN nC) := by rw [hw0]; exact cell_later (ballo _ _) (cell_later (ballo _ _) (by simp))
  have a3 : w0.cell? ⟨w.heap.size, 3, none⟩ = some (.slice oA oN oC) := by rw [hw0]; exact cell_later (ballo _ _) (cell_later (ballo _ _) (by simp))
  have a4 : w0.cell? ⟨w.heap.size, 4, none⟩ = some (.slice iA iN iC) := by rw [hw0]; exact cell_later (ballo _ _) (cell_later (ballo _ _) (by simp))
  have a5 : w0.cell? ⟨w.heap.size, 5, none⟩ = some (.slice dA dN dC) := by rw [hw0]; exact cell_later (ballo _ _) (cell_later (ballo _ _) (by simp))
  have b0 : w0.cell? ⟨w.heap.size + 1, 0, none⟩ = some (.string nm) := by rw [hw0]; exact cell_later (ballo _ _) (by simp)
  have b1 : w0.cell? ⟨w.heap.size + 1, 1, none⟩ = some (.slice cA cN cC) := by rw [hw0]; exact cell_later (ballo _ _) (by simp)
  have b2 : w0.cell? ⟨w.heap.size + 1, 2, none⟩ = some (.slice kA kN kC) := by rw [hw0]; exact cell_later (ballo _ _) (by simp)
  have b3 : w0.cell? ⟨w.heap.size + 1, 3, none⟩ = some (.slice rA rN rC) := by rw [hw0]; exact cell_later (ballo _ _) (by simp)
  have c0 : w0.cell? ⟨w.heap.size + 2, 0, none⟩ = some (.string nm') := by rw [hw0]; exact new_cell (by simp) (by simp)
  have c1 : w0.cell? ⟨w.heap.size + 2, 1, none⟩ = some (.slice cA' cN' cC') := by rw [hw0]; exact new_cell (by simp) (by simp)
  have c2 : w0.cell? ⟨w.heap.size + 2, 2, none⟩ = some (.slice kA' kN' kC') := by rw [hw0]; exact new_cell (by simp) (by simp)
  have c3 : w0.cell? ⟨w.heap.size + 2, 3, none⟩ = some (.slice rA' rN' rC') := by rw [hw0]; exact new_cell (by simp) (by simp)
  have e1 : (((w.alloc (.cells #[.int .i64 op, .string so, .slice nA nN nC, .slice oA oN oC, .slice iA iN iC, .slice dA dN dC] 44)).alloc (.cells #[.string nm, .slice cA cN cC, .slice kA kN kC, .slice rA rN rC] 31)).alloc (.cells #[.string nm', .slice cA' cN' cC', .slice kA' kN' kC', .slice rA' rN' rC'] 31)).cell? ⟨w.heap.size + 1, 1, none⟩ = some (.slice cA cN cC) := by rw [← hw0]; exact b1
  have e2 : (((w.alloc (.cells #[.int .i64 op, .string so, .slice nA nN nC, .slice oA oN oC, .slice iA iN iC, .slice dA dN dC] 44)).alloc (.cells #[.string nm, .slice cA cN cC, .slice kA kN kC, .slice rA rN rC] 31)).alloc (.cells #[.string nm', .slice cA' cN' cC', .slice kA' kN' kC', .slice rA' rN' rC'] 31)).cell? ⟨w.heap.size, 2, none⟩ = some (.slice nA nN nC) := by rw [← hw0]; exact a2
  have HIX := Lib.hid (indsE cA cN cC cs nA nN nC names w0 (hcs.later HB0.out) (hns.later HB0.out) hok.names (by omega) (by omega) hnc)
  have HMA := Lib.hid fun W (hb : Below w.heap.size w W) => matchesE op so nA oA iA dA nN nC oN oC iN iC dN dC nm' cA' kA' rA' cN' cC' kN' kC' rN' rC' none 0 0 others cs' [] u W (hos.later hb) (hcs'.later hb) (hu.later hb) (Fl.nil _ _ _) hoc hcn' hok.mat
  rw [hw0] at HIX
  clear hns hos hcs hcs' ht hu hok
  go_enter Tryz.func135, Tryz.ntmps135
  go_wp2_with fail
  rw [← hw0] at HIX ⊢
  clear e1 e2 hw0
  refine HIX.out.mono ?_
  rintro e w1 ⟨B1, m1, k1, rfl, hri, hmk, hb1⟩
  have hri : rInt w1 B1 m1 ns := by rw [HNS.out]; exact hri
  have HRI := Lib.hid hri
  have HB1 := Lib.hid (HB0.out.trans (hb1.mono HB0.out.size))
  have a0 := cell_later hb1 a0
  have a1 := cell_later hb1 a1
  have a2 := cell_later hb1 a2
  have a3 := cell_later hb1 a3
  have a4 := cell_later hb1 a4
  have a5 := cell_later hb1 a5
  have b0 := cell_later hb1 b0
  have c0 := cell_later hb1 c0
  have b1 := cell_later hb1 b1
  have c1 := cell_later hb1 c1
  have b2 := cell_later hb1 b2
  have c2 := cell_later hb1 c2
  have b3 := cell_later hb1 b3
  have c3 := cell_later hb1 c3
  have hm1 : m1 = nN := by have := hri.len; rw [HNS.out, List.length_map] at this; have := LN.out; omega
  subst hm1
  have HML := Lib.hid (HMA.out w1 HB1.out)
  clear hri hb1 HIX
  go_wp2_with fail
  refine HML.out.mono ?_
  rintro e w2 ⟨mb, mN, rfl, hmr, hb2⟩
  have hmr : MatRd Tryz.prog w2 mb mN os.length (fun k => matV os [] k u) := by rw [HOS.out]; exact hmr
  have HMR := Lib.hid hmr
  have HB2 := Lib.hid (btr HB1.out hb2)
  have HB12 := Lib.hid hb2
  have b3 := cell_later hb2 b3
  have HOL : Hid (os.length = m1 ∧ ns.length = m1) := Lib.hid (by rw [HOS.out, HNS.out, List.length_map, List.length_map]; have h1 := LN.out; have h2 := LO.out; have h3 := HK.out.len; omega)
  clear a0 a1 a2 a3 a4 a5 b0 b1 b2 c0 c1 c2 c3 hmr hb2 HML HMA
  go_wp2
  go_loopw [13, 31] (fun v iv wr => ∃ k : Nat, k ≤ rN ∧ iv = .int .i64 k ∧ Below w2.heap.size w2 wr ∧ Hid (ownD kEnt wr w2.heap.size v (semV wanted ns os (t.take k) u).length (semV wanted ns os (t.take k) u))) (fun _ iv _ => rN - (intOf iv).toNat)
  case atStart => exact ⟨0, by omega, rfl, bself _, Lib.hid (ownD.nil _ _)⟩
  case round =>
    obtain ⟨k, hk, rfl, hbw, HO⟩ := hrel
    have HBW := Lib.hid hbw
    by_cases hlt : k < rN
    · obtain ⟨g1, o1, rfl, hc1⟩ := HT.out.opn (by omega)
      obtain ⟨x, hx⟩ := get_some (l := t) (k := k) (by have := LT.out; omega)
      obtain ⟨xA, xN, xC, x1, x2, x3⟩ := hc1 k x hx
      have X3 := Lib.hid x3
      have hB := btr HB2.out hbw
      have z1 := cell_later hB x1
      have z2 := cell_later hB x2
      have hmm := List.mem_of_getElem? hx
      have hx12 := (HK.out.tab.1.2.2 x hmm).1
      have hxN : xN ≤ 12 := by have := x3.len; omega
      have HSN : Hid (semV wanted ns os (t.take (k + 1)) u = if (isM ns os u x == wanted) = true then semV wanted ns os (t.take k) u ++ [x] else semV wanted ns os (t.take k) u) := Lib.hid (sem_snoc hx)
      have HVK : Hid (vRow m1 (pkV ns x.1)) := Lib.hid ⟨valid_pk (HK.out.tab.1.2.2 x hmm).2.2.2 ns, by rw [pkV_len]; exact HOL.out.2⟩
      have HXB : Hid (0 < xN → ∀ a, xA = some a → a.block < w2.heap.size) := Lib.hid fun h0 a e => Nat.lt_of_lt_of_le (rVal_lt x3 h0 a e) HB2.out.size
      have hsl : (semV wanted ns os (t.take k) u).length < 1000000 := by have h1 := semV_len wanted ns os (t.take k) u; have h2 := List.length_take (i := k) (l := t); omega
      have HPI := Lib.hid (picE xA xN xC x.1 B1 m1 k1 ns (wr.alloc (.cells #[.slice xA xN xC, .int .i64 x.2] 65)) ((x3.later hB).later (ballo _ _)) ((HRI.out.later (btr HB12.out hbw)).later (ballo _ _)) (by omega) (by omega))
      have HV0 : Hid (∀ y, u13.ownBlock = some y → w2.heap.size ≤ y) := Lib.hid fun y e => (HO.out.lt y e).1
      clear hc1 hx x3 hB hbw x1 x2 hmm
      go_wp2_with fail
      refine HPI.out.mono ?_
      rintro e w3 ⟨A1, c1, rfl, hrd, hcc, hb3, hfr, _⟩
      have HRD : Hid (rVal w3 A1 m1 (pkV ns x.1)) := Lib.hid (rD_Val.1 hrd)
      have HB3 := Lib.hid (btr (ballo wr _) hb3)
      have q0 : w3.cell? ⟨wr.heap.size, 0, none⟩ = some (.slice xA xN xC) := cell_later hb3 (by simp)
      have q1 : w3.cell? ⟨wr.heap.size, 1, none⟩ = some (.int .i64 x.2) := cell_later hb3 (by simp)
      have HNU := Lib.hid (nullE A1 m1 c1 (pkV ns x.1) w3 HRD.out (by omega))
      clear hrd hb3 hfr
      cases hnul : nulV (pkV ns x.1)
      · have HNULL := Lib.hid hnul
        rw [hnul] at HNU
        clear hnul
        go_wp2_with fail
        refine HNU.out.mono ?_
        rintro e w4 ⟨rfl, hb4⟩
        have HB4 := Lib.hid (btr HB3.out hb4)
        have q0 := cell_later hb4 q0
        have q1 := cell_later hb4 q1
        have HKE := Lib.hid (keyE A1 m1 c1 (pkV ns x.1) w4 (HRD.out.later hb4) (by omega) HVK.out.1)
        clear hb4
        go_wp2_with fail
        refine HKE.out.mono ?_
        rintro e w5 ⟨rfl, hb5⟩
        have HB5 := Lib.hid (btr HB4.out hb5)
        have q0 := cell_later hb5 q0
        have q1 := cell_later hb5 q1
        have HM5 := Lib.hid (HMR.out.later (btr HBW.out HB5.out))
        obtain ⟨f, hmp, hrd⟩ := HM5.out
        obtain ⟨lA, lN, lC, hge, hlt2, hlc⟩ := hrd (pkV ns x.1) ⟨HVK.out.1, by rw [HVK.out.2, HOL.out.1]⟩ HNULL.out
        have hlk := hmp.look Tryz.underlying9 Tryz.underlying218 (z := .slice none 0 0) (Tryz.zeroValue29 _) (keyS (pkV ns x.1)) (keyS_small HVK.out.1 (by have := HVK.out.2; omega))
        rw [hge] at hlk
        have HISM : Hid (isM ns os u x = decide (0 < lN)) := Lib.hid (by rw [isM_len HNULL.out, ← hlt2.len])
        clear hb5 hmp hrd hge hlt2
        cases hd : decide (0 < lN) <;> cases wanted
        · have HD := Lib.hid hd
          have HSF : Hid (semV false ns os (t.take (k + 1)) u = semV false ns os (t.take k) u ++ [x]) := Lib.hid (by rw [HSN.out, HISM.out, HD.out]; rfl)
          have HOA : Hid (ownD kEnt (w5.alloc (.cells #[.slice xA xN xC, .int .i64 x.2] 65)) w2.heap.size u13 (semV false ns os (t.take k) u).length (semV false ns os (t.take k) u)) := Lib.hid (HO.out.later (HB5.out.alloc HB5.out.size _))
          have HRA : Hid (rVal (w5.alloc (.cells #[.slice xA xN xC, .int .i64 x.2] 65)) xA xN x.1) := Lib.hid ((X3.out.later (btr HB2.out (btr HBW.out HB5.out))).later (ballo _ _))
          have HFF := Lib.hid (far_old (n := xN) HV0.out HXB.out)
          have hsz5 : w2.heap.size ≤ (w5.alloc (.cells #[.slice xA xN xC, .int .i64 x.2] 65)).heap.size := Nat.le_trans (btr HBW.out HB5.out).size (ballo _ _).size
          go_wp2_with (at_builtin; refine wpList_push _ rfl _ _ rfl PE HOA.out ⟨_, 0, none⟩ ⟨xA, xN, xC, x.2⟩ x rfl rfl (one_block_Ent _ _ _ _ _ _) ⟨HRA.out, rfl⟩ HFF.out hsl hsz5 ?_; intro v' w' hown' hgrow hat)
          have HBF := Lib.hid (below_push2 ((btr HBW.out HB5.out).alloc (btr HBW.out HB5.out).size _) hgrow HV0.out)
          have HOF : Hid (ownD kEnt w' w2.heap.size v' (semV false ns os (t.take (k + 1)) u).length (semV false ns os (t.take (k + 1)) u)) := Lib.hid (own_at2 hown' HSF.out)
          clear hown' hgrow hat
          go_wp2
          go_roundw
          case rel => exact ⟨k + 1, by omega, by go_num, HBF.out, HOF⟩
          case measure => simp [intOf]; omega
        · have HD := Lib.hid hd
          have HSF : Hid (semV true ns os (t.take (k + 1)) u = semV true ns os (t.take k) u) := Lib.hid (by rw [HSN.out, HISM.out, HD.out]; rfl)
          have HBF := Lib.hid (btr HBW.out HB5.out)
          have HOF : Hid (ownD kEnt w5 w2.heap.size u13 (semV true ns os (t.take (k + 1)) u).length (semV true ns os (t.take (k + 1)) u)) := Lib.hid (own_at2 (HO.out.later HB5.out) HSF.out)
          go_wp2
          go_roundw
          case rel => exact ⟨k + 1, by omega, by go_num, HBF.out, HOF⟩
          case measure => simp [intOf]; omega
        · have HD := Lib.hid hd
          have HSF : Hid (semV false ns os (t.take (k + 1)) u = semV false ns os (t.take k) u) := Lib.hid (by rw [HSN.out, HISM.out, HD.out]; rfl)
          have HBF := Lib.hid (btr HBW.out HB5.out)
          have HOF : Hid (ownD kEnt w5 w2.heap.size u13 (semV false ns os (t.take (k + 1)) u).length (semV false ns os (t.take (k + 1)) u)) := Lib.hid (own_at2 (HO.out.later HB5.out) HSF.out)
          go_wp2
          go_roundw
          case rel => exact ⟨k + 1, by omega, by go_num, HBF.out, HOF⟩
          case measure => simp [intOf]; omega
        · have HD := Lib.hid hd
          have HSF : Hid (semV true ns os (t.take (k + 1)) u = semV true ns os (t.take k) u ++ [x]) := Lib.hid (by rw [HSN.out, HISM.out, HD.out]; rfl)
          have HOA : Hid (ownD kEnt (w5.alloc (.cells #[.slice xA xN xC, .int .i64 x.2] 65)) w2.heap.size u13 (semV true ns os (t.take k) u).length (semV true ns os (t.take k) u)) := Lib.hid (HO.out.later (HB5.out.alloc HB5.out.size _))
          have HRA : Hid (rVal (w5.alloc (.cells #[.slice xA xN xC, .int .i64 x.2] 65)) xA xN x.1) := Lib.hid ((X3.out.later (btr HB2.out (btr HBW.out HB5.out))).later (ballo _ _))
          have HFF := Lib.hid (far_old (n := xN) HV0.out HXB.out)
          have hsz5 : w2.heap.size ≤ (w5.alloc (.cells #[.slice xA xN xC, .int .i64 x.2] 65)).heap.size := Nat.le_trans (btr HBW.out HB5.out).size (ballo _ _).size
          go_wp2_with (at_builtin; refine wpList_push _ rfl _ _ rfl PE HOA.out ⟨_, 0, none⟩ ⟨xA, xN, xC, x.2⟩ x rfl rfl (one_block_Ent _ _ _ _ _ _) ⟨HRA.out, rfl⟩ HFF.out hsl hsz5 ?_; intro v' w' hown' hgrow hat)
          have HBF := Lib.hid (below_push2 ((btr HBW.out HB5.out).alloc (btr HBW.out HB5.out).size _) hgrow HV0.out)
          have HOF : Hid (ownD kEnt w' w2.heap.size v' (semV true ns os (t.take (k + 1)) u).length (semV true ns os (t.take (k + 1)) u)) := Lib.hid (own_at2 hown' HSF.out)
          clear hown' hgrow hat
          go_wp2
          go_roundw
          case rel => exact ⟨k + 1, by omega, by go_num, HBF.out, HOF⟩
          case measure => simp [intOf]; omega
      · have HNULL := Lib.hid hnul
        rw [hnul] at HNU
        clear hnul
        have HISM : Hid (isM ns os u x = false) := Lib.hid (isM_null HNULL.out)
        cases wanted
        · go_wp2_with fail
          refine HNU.out.mono ?_
          rintro e w5 ⟨rfl, hb4⟩
          have HB5 := Lib.hid (btr HB3.out hb4)
          have q0 := cell_later hb4 q0
          have q1 := cell_later hb4 q1
          clear hb4
          have HSF : Hid (semV false ns os (t.take (k + 1)) u = semV false ns os (t.take k) u ++ [x]) := Lib.hid (by rw [HSN.out, HISM.out]; rfl)
          have HOA : Hid (ownD kEnt (w5.alloc (.cells #[.slice xA xN xC, .int .i64 x.2] 65)) w2.heap.size u13 (semV false ns os (t.take k) u).length (semV false ns os (t.take k) u)) := Lib.hid (HO.out.later (HB5.out.alloc HB5.out.size _))
          have HRA : Hid (rVal (w5.alloc (.cells #[.slice xA xN xC, .int .i64 x.2] 65)) xA xN x.1) := Lib.hid ((X3.out.later (btr HB2.out (btr HBW.out HB5.out))).later (ballo _ _))
          have HFF := Lib.hid (far_old (n := xN) HV0.out HXB.out)
          have hsz5 : w2.heap.size ≤ (w5.alloc (.cells #[.slice xA xN xC, .int .i64 x.2] 65)).heap.size := Nat.le_trans (btr HBW.out HB5.out).size (ballo _ _).size
          go_wp2_with (at_builtin; refine wpList_push _ rfl _ _ rfl PE HOA.out ⟨_, 0, none⟩ ⟨xA, xN, xC, x.2⟩ x rfl rfl (one_block_Ent _ _ _ _ _ _) ⟨HRA.out, rfl⟩ HFF.out hsl hsz5 ?_; intro v' w' hown' hgrow hat)
          have HBF := Lib.hid (below_push2 ((btr HBW.out HB5.out).alloc (btr HBW.out HB5.out).size _) hgrow HV0.out)
          have HOF : Hid (ownD kEnt w' w2.heap.size v' (semV false ns os (t.take (k + 1)) u).length (semV false ns os (t.take (k + 1)) u)) := Lib.hid (own_at2 hown' HSF.out)
          clear hown' hgrow hat
          go_wp2
          go_roundw
          case rel => exact ⟨k + 1, by omega, by go_num, HBF.out, HOF⟩
          case measure => simp [intOf]; omega
        · go_wp2_with fail
          refine HNU.out.mono ?_
          rintro e w5 ⟨rfl, hb4⟩
          have HB5 := Lib.hid (btr HB3.out hb4)
          clear hb4 q0 q1
          have HSF : Hid (semV true ns os (t.take (k + 1)) u = semV true ns os (t.take k) u) := Lib.hid (by rw [HSN.out, HISM.out]; rfl)
          have HBF := Lib.hid (btr HBW.out HB5.out)
          have HOF : Hid (ownD kEnt w5 w2.heap.size u13 (semV true ns os (t.take (k + 1)) u).length (semV true ns os (t.take (k + 1)) u)) := Lib.hid (own_at2 (HO.out.later HB5.out) HSF.out)
          go_wp2
          go_roundw
          case rel => exact ⟨k + 1, by omega, by go_num, HBF.out, HOF⟩
          case measure => simp [intOf]; omega
    · obtain rfl : k = rN := by omega
      have HTT : t.take k = t := List.take_of_length_le (by have := LT.out; omega)
      obtain ⟨A8, c8, rfl, hcc8, hrd8, hfr8⟩ := HO.out.rd
      have hrd9 : rTab wr A8 (semV wanted ns os (t.take k) u).length (semV wanted ns os t u) := by
        have h := hrd8
        rw [HTT] at h ⊢
        exact h
      have H := Lib.hid (copiedE A8 (semV wanted ns os (t.take k) u).length c8 (semV wanted ns os t u) wr hrd9 (by rw [HTT]; have := semV_len wanted ns os t u; have := LT.out; omega) (fun y hy => (HK.out.tab.1.2.2 y (List.mem_filter.1 hy).1).1))
      clear hrd8 hrd9 hfr8 HTT
      go_wp2_with fail
      refine H.out.mono ?_
      rintro e w5 ⟨A9, n9, c9, rfl, hr9, hc9, hb9⟩
      have HR9 := Lib.hid hr9
      have HB9 := Lib.hid (btr HB2.out (btr hbw hb9))
      have HSZ := Lib.hid (Nat.le_trans HB2.out.size hbw.size)
      clear hr9 hb9
      go_wp2
      go_ret2
      exact ⟨_, _, _, rfl, HR9.out.mono HSZ.out, hc9, HB9.out⟩
end Go.Proofs.YthcalfeoejdcgaaGreatDoor
