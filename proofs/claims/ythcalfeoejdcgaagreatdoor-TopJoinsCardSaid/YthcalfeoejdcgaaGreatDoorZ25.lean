/- The program: evaluate.matches. -/
import Derived.Test.YthcalfeoejdcgaaGreatDoorZ24
import Derived.WalkSpells
import Derived.StillTailTactics
namespace Go.Proofs.YthcalfeoejdcgaaGreatDoor
open Go.RowKit Go.BigFrame
set_option linter.unusedSimpArgs false
set_option linter.unusedVariables false

theorem keyS_small {r : List Val} (hv : ∀ v ∈ r, validV v = true) (h : r.length ≤ 12) : (keyS r).size ≤ maxLen := by
  have h1 := encs_len hv
  have : (keyS r).size = (encRB r).length := by simp [keyS, ByteArray.size]
  rw [this]
  unfold encRB maxLen
  simp only [List.length_cons]
  omega
theorem tag_alloc (w : World) (cs : Array Value) (e : TypeId) : Tag (w.alloc (.cells cs e)) w.heap.size e := ⟨cs, (0, 0), by show (w.heap.push _)[w.heap.size]? = _; simp⟩
theorem pEntT (B : Nat) : ∃ i, KinP Tryz.prog (kEntT B) 29 i (.agg #[.slice none 0 0, .int .i64 0]) 32 := by
  obtain ⟨i, h⟩ := pEnt
  exact ⟨i, ⟨h.ht, h.hi, h.hz, h.hs, h.hb, h.hzs, h.small⟩⟩
structure okMat (cs : List Col) (ns : List ByteArray) (ps : List Int) (u : Tab) : Prop where
  names : okNames cs ns
  n12 : ns.length ≤ 12
  p12 : ps.length ≤ 12
  len : u.length ≤ 4096
  pos : ∀ x ∈ u, 0 < x.2
  sum : sumC u ≤ 65536
  w12 : ∀ x ∈ u, x.1.length ≤ 12
  val : ∀ x ∈ u, vOk x.1
def MatR (os ps : List Int) (u : Tab) (w : World) (e : Ending) (w' : World) : Prop := ∃ b N, e = .returned (.map (some b)) ∧ MatRd Tryz.prog w' b N os.length (fun k => matV os ps k u) ∧ Below w.heap.size w w'
set_option maxRecDepth 100000 in
set_option maxHeartbeats 20000000 in
theorem matchesE (op : Int) (so : ByteArray) (nA oA iA dA : Option Addr) (nN nC oN oC iN iC dN dC : Nat) (nm : ByteArray) (cA kA rA : Option Addr) (cN cC kN kC rN rC : Nat) (pA : Option Addr) (pN pC : Nat) (ns : List ByteArray) (cs : List Col) (ps : List Int) (u : Tab) (w : World)
    (hns : rStr w oA oN ns) (hcs : rCol w cA cN cs) (ht : rTab w rA rN u) (hp : rInt w pA pN ps) (hnc : oN ≤ oC) (hcn : cN ≤ 12) (hok : okMat cs ns ps u) :
    Calls Tryz.prog 209 #[.agg #[.int .i64 op, .string so, .slice nA nN nC, .slice oA oN oC, .slice iA iN iC, .slice dA dN dC], .agg #[.string nm, .slice cA cN cC, .slice kA kN kC, .slice rA rN rC], .slice pA pN pC] w (MatR (ns.map (idxC cs)) ps u w) := by
  obtain ⟨os, hos⟩ : ∃ os, os = ns.map (idxC cs) := ⟨_, rfl⟩
  rw [← hos]
  have HOS := Lib.hid hos
  clear hos
  have HT := Lib.hid ht
  have HK := Lib.hid hok
  have HP := Lib.hid hp
  have LN := Lib.hid hns.len
  have LT := Lib.hid ht.len
  have hon : oN ≤ 12 := by have := hns.len; have := hok.n12; omega
  have hpp12 : pN ≤ 12 := by have := hp.len; have := hok.p12; omega
  have hrn : rN ≤ 4096 := by have := ht.len; have := hok.len; omega
  have LP := Lib.hid hp.len
  have HA : Hid (Below w.heap.size w ((w.alloc (.cells #[.int .i64 op, .string so, .slice nA nN nC, .slice oA oN oC, .slice iA iN iC, .slice dA dN dC] 44)).alloc (.cells #[.string nm, .slice cA cN cC, .slice kA kN kC, .slice rA rN rC] 31))) := Lib.hid ((ballo _ _).alloc (by simp) _)
  have HIX := Lib.hid (indsE cA cN cC cs oA oN oC ns _ (hcs.later HA.out) (hns.later HA.out) hok.names (by omega) (by omega) hnc)
  clear hns hcs ht hp hok
  have qT : ∀ (w : World) (r : Option Nat), (binOp .eql 240 (.map r) (.map none)).run Tryz.prog w = .ok (.bool r.isNone) w := fun w r => run_eql_map_nil w _ _ _ r Tryz.underlying240
  go_enter Tryz.func209, Tryz.ntmps209
  go_wp2_with fail
  refine HIX.out.mono ?_
  rintro e w1 ⟨B1, m1, k1, rfl, hri, hmk, hb1⟩
  rw [← HOS.out] at hri
  have HRI := Lib.hid hri
  have HB1 := Lib.hid (HA.out.trans (hb1.mono HA.out.size))
  have i3 : w1.cell? ⟨w.heap.size + 1, 3, none⟩ = some (.slice rA rN rC) := cell_later hb1 (by (repeat (first | (refine new_cell ?_ rfl; (simp; done)) | (refine new_froz ?_; (simp; done)) | (refine alo_cell ?_ ?_; (focus first | (simp; done) | (simp; omega))) | (refine alo_froz ?_ ?_; (focus first | (simp; done) | (simp; omega))))))
  have hm1 : m1 = oN := by have := hri.len; rw [HOS.out, List.length_map] at this; have := LN.out; omega
  subst hm1
  have HOL : Hid (os.length = m1) := Lib.hid hri.len
  have hmk1 : (Instr.makeMap 258 none).run Tryz.prog w1 = .ok (.map (some w1.heap.size)) (w1.alloc (.map #[] 0)) := by simp [Instr.makeMap]
  have hmk2 : (Instr.makeMap 218 none).run Tryz.prog (w1.alloc (.map #[] 0)) = .ok (.map (some (w1.heap.size + 1))) ((w1.alloc (.map #[] 0)).alloc (.map #[] 0)) := by simp [Instr.makeMap]
  have i32 : ((w1.alloc (.map #[] 0)).alloc (.map #[] 0)).cell? ⟨w.heap.size + 1, 3, none⟩ = some (.slice rA rN rC) := cell_later (ballo _ _) (cell_later (ballo _ _) i3)
  have HG0 : Hid (GS Tryz.prog ((w1.alloc (.map #[] 0)).alloc (.map #[] 0)) (w1.heap.size + 2) 0 m1 pN w1.heap.size (w1.heap.size + 1) os ps [] [] (fun _ => none) (fun _ => none)) := Lib.hid (by
    have h2 := Mp.made (P := Tryz.prog) (k := 9) (w1.alloc (.map #[] 0))
    have e2 : (w1.alloc (.map #[] 0)).heap.size = w1.heap.size + 1 := by simp
    rw [e2] at h2
    exact ⟨fun j x h => by simp at h, PF.nil (by omega), fun x h => by (cases h), fun x h => by (cases h), fun _ _ => ⟨rfl, rfl⟩, (Mp.made (P := Tryz.prog) (k := 9) w1).alloc _, h2, SemG.nil _ _ _⟩)
  obtain ⟨iE, PE⟩ := pEntT (w1.heap.size + 2)
  clear hri hb1 i3 HIX
  go_wp2
  clear hmk1 hmk2
  go_loopw [31] (fun iv wr => ∃ (k : Nat) (l : List GM) (fc fo : List UInt8 → Option Value), k ≤ rN ∧ iv = .int .i64 k ∧ Below w1.heap.size w1 wr ∧ w1.heap.size + 2 ≤ wr.heap.size ∧ Hid (GS Tryz.prog wr (w1.heap.size + 2) (2 * k) m1 pN w1.heap.size (w1.heap.size + 1) os ps (u.take k) l fc fo)) (fun iv _ => rN - (intOf iv).toNat)
  case atStart => exact ⟨0, [], _, _, by omega, rfl, (ballo _ _).alloc (by simp) _, by simp, HG0⟩
  case round =>
    obtain ⟨k, l, fc, fo, hk, rfl, hbw, hsz, HGS0⟩ := hrel
    have HBW := Lib.hid hbw
    by_cases hlt : k < rN
    · obtain ⟨b1, o1, rfl, hc1⟩ := HT.out.opn (by omega)
      obtain ⟨x, hx⟩ := get_some (l := u) (k := k) (by have := LT.out; omega)
      obtain ⟨rA, rN2, rC2, x1, x2, x3⟩ := hc1 k x hx
      have X3 : Hid (rVal w1 rA rN2 x.1) := Lib.hid (x3.later HB1.out)
      have z1 := cell_later (btr HB1.out hbw) x1
      have z2 := cell_later (btr HB1.out hbw) x2
      have hmm := List.mem_of_getElem? hx
      have hx12 := HK.out.w12 x hmm
      have hrN : rN2 ≤ 12 := by have := x3.len; omega
      have hxp := HK.out.pos x hmm
      have HTK : Hid (u.take (k + 1) = u.take k ++ [x]) := Lib.hid (take_snoc hx)
      have HXV : Hid (vOk x.1) := Lib.hid (HK.out.val x hmm)
      have HVK : Hid (vRow m1 (pkV os x.1)) := Lib.hid ⟨valid_pk (HK.out.val x hmm) os, by rw [pkV_len]; exact HOL.out⟩
      have HVR : Hid (vRow pN (pkV ps x.1)) := Lib.hid ⟨valid_pk (HK.out.val x hmm) ps, by rw [pkV_len]; exact LP.out⟩
      have HPI := Lib.hid (picE rA rN2 rC2 x.1 B1 m1 k1 os (wr.alloc (.cells #[.slice rA rN2 rC2, .int .i64 x.2] 65)) (X3.out.later (HBW.out.alloc HBW.out.size _)) (HRI.out.later (HBW.out.alloc HBW.out.size _)) (by omega) (by omega))
      have HXM := Lib.hid hmm
      clear hc1 hx x3 hbw x1 x2 hmm
      go_wp2_with fail
      refine HPI.out.mono ?_
      rintro e w2 ⟨A1, c1, rfl, hrd, hcc, hb2, hfr, _⟩
      have HRD : Hid (rVal w2 A1 m1 (pkV os x.1)) := Lib.hid (rD_Val.1 hrd)
      have HB2 := Lib.hid (btr (ballo wr _) hb2)
      have q0 : w2.cell? ⟨wr.heap.size, 0, none⟩ = some (.slice rA rN2 rC2) := cell_later hb2 (by simp)
      have q1 : w2.cell? ⟨wr.heap.size, 1, none⟩ = some (.int .i64 x.2) := cell_later hb2 (by simp)
      have HTG2 : Hid (Tag w2 wr.heap.size 65) := Lib.hid ((tag_alloc _ _ _).later hb2)
      have HNU := Lib.hid (nullE A1 m1 c1 (pkV os x.1) w2 HRD.out (by omega))
      clear hrd hb2 hfr
      cases hnul : nulV (pkV os x.1)
      · have HNULL := Lib.hid hnul
        rw [hnul] at HNU
        clear hnul
        go_wp2_with fail
        refine HNU.out.mono ?_
        rintro e w3 ⟨rfl, hb3⟩
        have HB3 := Lib.hid (btr HB2.out hb3)
        have q03 := cell_later hb3 q0
        have q13 := cell_later hb3 q1
        have HTG3 := Lib.hid (HTG2.out.later hb3)
        have HKE := Lib.hid (keyE A1 m1 c1 (pkV os x.1) w3 (HRD.out.later hb3) (by omega) HVK.out.1)
        clear hb3 q0 q1
        go_wp2_with fail
        refine HKE.out.mono ?_
        rintro e w4 ⟨rfl, hb4⟩
        have HB4 := Lib.hid (btr HB3.out hb4)
        have q0G0 := cell_later hb4 q03
        have q1G0 := cell_later hb4 q13
        have HTG4 := Lib.hid (HTG3.out.later hb4)
        have HG4 := Lib.hid (HGS0.out.later HB4.out)
        have hks : (keyS (pkV os x.1)).size ≤ maxLen := keyS_small HVK.out.1 (by have := HVK.out.2; omega)
        have HB4w := Lib.hid (btr HBW.out HB4.out)
        have hsz4 : w1.heap.size + 2 ≤ w4.heap.size := Nat.le_trans hsz HB4.out.size
        have hlk := HG4.out.cm.look Tryz.underlying9 Tryz.underlying258 (z := .map none) (Tryz.zeroValue240 _) (keyS (pkV os x.1)) hks
        clear hb4 q03 q13
        by_cases hex : ∃ y ∈ l, y.key = pkV os x.1
        · obtain ⟨y0, hy0, hyk⟩ := hex
          obtain ⟨i, hi0⟩ := List.getElem?_of_mem hy0
          have HI0 := Lib.hid hi0
          have HKEY := hyk
          have hce := HG4.out.c y0 hy0
          rw [hyk] at hce
          rw [hce] at hlk
          simp only [Option.getD_some] at hlk
          obtain ⟨wG, rfl⟩ : ∃ wG, wG = w4 := ⟨_, rfl⟩
          have HGS := HG4
          have HBG := HB4w
          have hszG := hsz4
          have q0G := q0G0
          have q1G := q1G0
          have HTGG := HTG4
          have HDR : Hid (dRows y0.tab) := Lib.hid (by
            have h := HGS.out.sem.tab y0.key (HGS.out.gl i y0 HI0.out (by simp)).kv (HGS.out.sem.nn y0 (List.mem_of_getElem? HI0.out))
            rw [tabOf_mem HGS.out.pf.keys (List.mem_of_getElem? HI0.out) rfl] at h
            rw [h]
            exact (matV_ok fun z hz => HK.out.pos z (List.mem_of_mem_take hz)).1)
          have HTL : Hid (y0.tab.length ≤ 4096) := Lib.hid (by
            have h := HGS.out.sem.tab y0.key (HGS.out.gl i y0 HI0.out (by simp)).kv (HGS.out.sem.nn y0 (List.mem_of_getElem? HI0.out))
            rw [tabOf_mem HGS.out.pf.keys (List.mem_of_getElem? HI0.out) rfl] at h
            rw [h]
            have h4 := (matV_ok (os := os) (ps := ps) (k := y0.key) (u := u.take k) fun z hz => HK.out.pos z (List.mem_of_mem_take hz)).2.2.2
            have e6 := List.length_take (i := k) (l := u)
            have e7 := HK.out.len
            omega)
          have HTB : Hid (∀ z ∈ y0.tab, 0 < z.2 ∧ z.2 ≤ 65536 ∧ y0.tab.length ≤ 4096 ∧ z.2 + x.2 ≤ 65536) := Lib.hid (by
            have h := HGS.out.sem.tab y0.key (HGS.out.gl i y0 HI0.out (by simp)).kv (HGS.out.sem.nn y0 (List.mem_of_getElem? HI0.out))
            rw [tabOf_mem HGS.out.pf.keys (List.mem_of_getElem? HI0.out) rfl] at h
            obtain ⟨_, h2, h3, h4⟩ := matV_ok (os := os) (ps := ps) (k := y0.key) (u := u.take k) fun z hz => HK.out.pos z (List.mem_of_mem_take hz)
            rw [← h] at h2 h3 h4
            intro z hz
            have e1 : z.2 ≤ sumC y0.tab := eOk.le (t := y0.tab) (fun v hv => ⟨(h2 v hv).1, by
              obtain ⟨_, v2, _, e⟩ := h2 v hv
              rw [e, pkV_len]
              have := LP.out
              omega⟩) hz
            have e2 := sumC_split u (k + 1)
            have e3 : sumC (u.take (k + 1)) = sumC (u.take k) + x.2 := by rw [HTK.out, sumC_append]; simp [sumC]
            have e4 : 0 ≤ sumC (u.drop (k + 1)) := sumC_nn fun v hv => HK.out.pos v (List.mem_of_mem_drop hv)
            have e5 := HK.out.sum
            have e6 := List.length_take (i := k) (l := u)
            have e7 := HK.out.len
            exact ⟨(h2 z hz).1, by omega, by omega, by omega⟩)
          clear hce hy0 hi0 hyk q0G0 q1G0
          have hy0 := HGS.out.gl i y0 HI0.out (by simp)
          have HKY : Hid (y0.key = pkV os x.1) := HKEY
          have HVW := Lib.hid (picE rA rN2 rC2 x.1 pA pN pC ps wG (X3.out.later HBG.out) (HP.out.later (btr HB1.out HBG.out)) (by omega) (by omega))
          clear hy0
          go_wp2_with fail
          refine HVW.out.mono ?_
          rintro e w7 ⟨A2, c2, rfl, hrd7, hcc7, hb7, hfr7, hown7⟩
          have HR7 : Hid (rVal w7 A2 pN (pkV ps x.1)) := Lib.hid (rD_Val.1 hrd7)
          have HB7 := Lib.hid (btr HBG.out hb7)
          have HT7 : Hid (0 < pN → ∀ a, A2 = some a → w1.heap.size + 2 ≤ a.block ∧ Tag w7 a.block 46) := Lib.hid fun h0 a e => ⟨Nat.le_trans (Nat.le_trans hszG (by exact Nat.le_refl _)) (hfr7 a e).1, by
            obtain ⟨es, h1, _⟩ := hown7
            obtain ⟨b, o⟩ := a
            obtain ⟨g, cc, e2, _⟩ := World.ownsRow.form h1 h0
            rw [e] at e2
            injection e2 with e2
            injection e2 with e2
            rw [e2]
            exact own_tag h1 g (by rw [e, e2]; rfl)⟩
          have HG7 := Lib.hid (HGS.out.later hb7)
          have q17 := cell_later hb7 q1G
          have q07 := cell_later hb7 q0G
          have HFRA : Hid (∀ a, A2 = some a → wG.heap.size ≤ a.block) := Lib.hid fun a e => (hfr7 a e).1
          have HNS := Lib.hid hb7.size
          have HTG7 := Lib.hid (HTGG.out.later hb7)
          clear hrd7 hb7 hfr7 hown7 q0G q1G
          have hks2 : (keyS (pkV ps x.1)).size ≤ maxLen := keyS_small HVR.out.1 (by have := HVR.out.2; omega)
          have gl1 : ∀ p : Gro w7, (Instr.lookup 258 (.map (some w1.heap.size)) (.string (keyS (pkV os x.1))) false).run Tryz.prog p.world = .ok (.map (some y0.ib)) p.world := fun p => by
            have h := (HG7.out.later p.below).cm.look Tryz.underlying9 Tryz.underlying258 (z := .map none) (Tryz.zeroValue240 _) (keyS (pkV os x.1)) hks
            rw [← HKY.out, HG7.out.c y0 (List.mem_of_getElem? HI0.out)] at h
            rw [← HKY.out]
            exact h
          have gl2 : ∀ p : Gro w7, (Instr.lookup 240 (.map (some y0.ib)) (.string (keyS (pkV ps x.1))) true).run Tryz.prog p.world = .ok (.tuple #[(y0.g (keyS (pkV ps x.1)).data.toList).getD (.int .i64 0), .bool (y0.g (keyS (pkV ps x.1)).data.toList).isSome]) p.world := fun p => ((HG7.out.later p.below).gl i y0 HI0.out (by simp)).map.lookOk Tryz.underlying9 Tryz.underlying240 (z := .int .i64 0) (Tryz.zeroValue3 _) (keyS (pkV ps x.1)) hks2
          by_cases hrow : ∃ z ∈ y0.tab, z.1 = pkV ps x.1
          · obtain ⟨z, hz, hzr⟩ := hrow
            obtain ⟨j, hj⟩ := List.getElem?_of_mem hz
            have hgj := (HG7.out.gl i y0 HI0.out (by simp)).pos.1 j z hj
            rw [hzr] at hgj
            simp only [hgj, Option.getD_some, Option.isSome_some] at gl2
            have HZJ := Lib.hid hj
            have HZR := Lib.hid hzr
            have hjl := (List.getElem?_eq_some_iff.1 hj).1
            obtain ⟨A8, c8, hv8, hc8, hr8, hfr8⟩ := (HG7.out.gl i y0 HI0.out (by simp)).own.rd
            obtain ⟨g8, rfl⟩ : ∃ g8, A8 = some ⟨g8, 0, none⟩ := by
              obtain ⟨es, h1, _⟩ := (HG7.out.gl i y0 HI0.out (by simp)).own
              rw [hv8] at h1
              obtain ⟨g, cc, e2, _⟩ := World.ownsRow.form h1 (by omega)
              injection e2 with e2
              exact ⟨g, e2⟩
            have HV8 := Lib.hid hv8
            have HZB : Hid (0 < z.2 ∧ z.2 ≤ 65536 ∧ y0.tab.length ≤ 4096 ∧ z.2 + x.2 ≤ 65536) := Lib.hid (HTB.out z hz)
            clear hz hzr hj hgj hr8 hfr8 hv8
            go_wp2_with fail
            refine wp_region_quiet_gro (by kernel_rfl) (by kernel_rfl) ?_; (repeat (go_big_quiet_step ((go_at_call 211; exact Calls.gro_of (keyE A2 pN c2 (pkV ps x.1) _ (HR7.out.later (Gro.below _)) hpp12 HVR.out.1))))); refine wpQuiet_nil ?_; intro _ hw'; obtain ⟨pq, hw''⟩ := hw'; subst hw''; have hbq := pq.below; revert hbq; generalize pq.world = wq; intro hbq
            have HB8 := Lib.hid (btr HB7.out hbq)
            have HG8 := Lib.hid (HG7.out.later hbq)
            have q08 := cell_later hbq q07
            have q18 := cell_later hbq q17
            have HQS := Lib.hid hbq.size
            clear gl1 gl2 hbq q07 q17
            have hlo := HG8.out.om.drew.look Tryz.underlying9 Tryz.underlying218 (z := .slice none 0 0) (Tryz.zeroValue29 _) (keyS (pkV os x.1)) hks
            rw [← HKY.out, HG8.out.o y0 (List.mem_of_getElem? HI0.out), HV8.out, HKY.out] at hlo
            have p8 : wq.cell? ⟨g8, j * 2 + 1, none⟩ = some (.int .i64 z.2) := by
              obtain ⟨es, h1, h2, _⟩ := (HG8.out.gl i y0 HI0.out (by simp)).own
              rw [HV8.out] at h1
              obtain ⟨a, ha, hr⟩ := h2.get2 HZJ.out
              have hel : j < es.length := (List.getElem?_eq_some_iff.1 ha).1
              have hc := World.ownsRow.cellAt (by exact h1) (j * 2 + 1) (by have := h2.len; show j * 2 + 1 < y0.tab.length * 2; omega)
              have hf := flat_get encEnt_len ha 1 (by omega)
              rw [hc]
              refine hf.trans ?_
              show some (Value.int .i64 a.c) = _
              rw [hr.1.2]
            have pf : wq.frozen? ⟨g8, j * 2 + 1, none⟩ = false := by
              obtain ⟨es, h1, _⟩ := (HG8.out.gl i y0 HI0.out (by simp)).own
              rw [HV8.out] at h1
              exact World.ownsRow.frozenAt (by exact h1) _
            have iw : IntKind.i64.wrap (z.2 + x.2) = z.2 + x.2 := by have := HZB.out; rw [IntKind.wrap_i64]; omega
            have hj1 : (j : Int) < (y0.tab.length : Int) := by omega
            have hj0 : (0 : Int) ≤ (j : Int) := by omega
            obtain ⟨x', HSET⟩ := (HG8.out.later (Below.drew (bself wq))).hit (e := x) HI0.out HKY.out HDR.out HZJ.out HZR.out HV8.out
            have HBF : Hid (Below w1.heap.size w1 (wq.drew.setCell ⟨g8, j * 2 + 1, none⟩ (.int .i64 (z.2 + x.2)))) := Lib.hid ((Below.drew HB8.out).setCell (by
              have h := ((HG8.out.gl i y0 HI0.out (by simp)).own.lt g8 (by rw [HV8.out]; rfl)).1
              show w1.heap.size ≤ g8
              omega) _)
            have hszf : w1.heap.size + 2 ≤ (wq.drew.setCell ⟨g8, j * 2 + 1, none⟩ (.int .i64 (z.2 + x.2))).heap.size := by have h1 := hszG; have h2 := HNS.out; have h3 := HQS.out; simp only [World.size_setCell]; show w1.heap.size + 2 ≤ wq.heap.size; omega
            have HGF : Hid (GS Tryz.prog (wq.drew.setCell ⟨g8, j * 2 + 1, none⟩ (.int .i64 (z.2 + x.2))) (w1.heap.size + 2) (2 * (k + 1)) m1 pN w1.heap.size (w1.heap.size + 1) os ps (u.take (k + 1)) (l.set i x') fc fo) := Lib.hid (by rw [HTK.out]; exact HSET.mono (by omega))
            clear HSET
            go_wp2_with fail
            have q18d : wq.drew.cell? ⟨wr.heap.size, 1, none⟩ = some (.int .i64 x.2) := q18
            have p8d : wq.drew.cell? ⟨g8, j * 2 + 1, none⟩ = some (.int .i64 z.2) := p8
            have pfd : wq.drew.frozen? ⟨g8, j * 2 + 1, none⟩ = false := pf
            have hlo0 : (Instr.lookup 218 (.map (some (w1.heap.size + 1))) (.string (keyS (pkV os x.1))) false).run Tryz.prog wq = .ok (.slice (some ⟨g8, 0, none⟩) y0.tab.length c8) wq := by
              have hlo := HG8.out.om.look Tryz.underlying9 Tryz.underlying218 (z := .slice none 0 0) (Tryz.zeroValue29 _) (keyS (pkV os x.1)) hks
              rw [← HKY.out, HG8.out.o y0 (List.mem_of_getElem? HI0.out), HV8.out, HKY.out] at hlo
              exact hlo
            go_still_tail 12, (by kernel_rfl)
            clear hlo hlo0 q18 p8 pf
            change wpList _ _ _ _ _ wq.drew
            go_wp2
            go_roundw
            case rel => exact ⟨k + 1, _, _, _, by omega, by go_num, HBF.out, hszf, HGF⟩
            case measure => simp [intOf]; omega
          · have hrn2 : ∀ z ∈ y0.tab, z.1 ≠ pkV ps x.1 := fun z hz e => hrow ⟨z, hz, e⟩
            have HNEW := Lib.hid hrn2
            have hgn : y0.g (keyS (pkV ps x.1)).data.toList = none := (HG7.out.gl i y0 HI0.out (by simp)).pos.2 _ fun z hz e => hrn2 z hz (((HG7.out.gl i y0 HI0.out (by simp)).rv z hz).inj HVR.out hpp12 e)
            simp only [hgn, Option.getD_none, Option.isSome_none] at gl2
            obtain ⟨A8, c8, hv8, hc8, hr8, hfr8⟩ := (HG7.out.gl i y0 HI0.out (by simp)).own.rd
            have HV8 := Lib.hid hv8
            have htl : y0.tab.length ≤ 4096 := HTL.out
            clear hr8 hfr8 hv8 hgn hrow hrn2
            go_wp2_with fail
            refine wp_region_quiet_gro (by kernel_rfl) (by kernel_rfl) ?_; (repeat (go_big_quiet_step ((go_at_call 211; exact Calls.gro_of (keyE A2 pN c2 (pkV ps x.1) _ (HR7.out.later (Gro.below _)) hpp12 HVR.out.1))))); refine wpQuiet_nil ?_; intro _ hw'; obtain ⟨pq, hw''⟩ := hw'; subst hw''; have hbq := pq.below; revert hbq; generalize pq.world = wq; intro hbq
            have HB8 := Lib.hid (btr HB7.out hbq)
            have HG8 := Lib.hid (HG7.out.later hbq)
            have q08 := cell_later hbq q07
            have q18 := cell_later hbq q17
            have HTG8 := Lib.hid (HTG7.out.later hbq)
            have HR8 := Lib.hid (HR7.out.later hbq)
            have HT8 : Hid (0 < pN → ∀ a, A2 = some a → w1.heap.size + 2 ≤ a.block ∧ Tag wq a.block 46) := Lib.hid fun h0 a e => ⟨(HT7.out h0 a e).1, (HT7.out h0 a e).2.later hbq⟩
            have HQS := Lib.hid hbq.size
            clear gl1 gl2 hbq q07 q17
            have HLK : Hid (∀ W : World, Below wq.heap.size wq W → (Instr.lookup 258 (.map (some w1.heap.size)) (.string (keyS (pkV os x.1))) false).run Tryz.prog W = .ok (.map (some y0.ib)) W ∧ (Instr.lookup 218 (.map (some (w1.heap.size + 1))) (.string (keyS (pkV os x.1))) false).run Tryz.prog W = .ok (.slice A8 y0.tab.length c8) W) := Lib.hid fun W hW => by
              have hG := HG8.out.later hW
              have h1 := hG.cm.look Tryz.underlying9 Tryz.underlying258 (z := .map none) (Tryz.zeroValue240 _) (keyS (pkV os x.1)) hks
              have h2 := hG.om.look Tryz.underlying9 Tryz.underlying218 (z := .slice none 0 0) (Tryz.zeroValue29 _) (keyS (pkV os x.1)) hks
              rw [← HKY.out, hG.c y0 (List.mem_of_getElem? HI0.out)] at h1
              rw [← HKY.out, hG.o y0 (List.mem_of_getElem? HI0.out), HV8.out] at h2
              rw [← HKY.out]
              exact ⟨h1, h2⟩
            have HLP : Hid (∀ W W' : World, Below wq.heap.size wq W → W.grownBy W' (some y0.ib) → (Instr.lookup 258 (.map (some w1.heap.size)) (.string (keyS (pkV os x.1))) false).run Tryz.prog W' = .ok (.map (some y0.ib)) W' ∧ (Instr.lookup 218 (.map (some (w1.heap.size + 1))) (.string (keyS (pkV os x.1))) false).run Tryz.prog W' = .ok (.slice A8 y0.tab.length c8) W') := Lib.hid fun W W' hW hg => by
              have hG := HG8.out.later hW
              have hm := List.mem_of_getElem? HI0.out
              have hf := hG.pf.far y0 hm
              have h1 := (hG.cm.kept hg (fun e => by injection e with e; exact hf.1 e.symm)).look Tryz.underlying9 Tryz.underlying258 (z := .map none) (Tryz.zeroValue240 _) (keyS (pkV os x.1)) hks
              have h2 := (hG.om.kept hg (fun e => by injection e with e; exact hf.2 e.symm)).look Tryz.underlying9 Tryz.underlying218 (z := .slice none 0 0) (Tryz.zeroValue29 _) (keyS (pkV os x.1)) hks
              rw [← HKY.out, hG.c y0 hm] at h1
              rw [← HKY.out, hG.o y0 hm, HV8.out] at h2
              rw [← HKY.out]
              exact ⟨h1, h2⟩
            have HMI := Lib.hid (HG8.out.gl i y0 HI0.out (by simp)).map
            have HLD1 := Lib.hid (HLK.out _ (Below.drew (bself wq))).1
            have HLD2 := Lib.hid (HLK.out _ (Below.drew (bself wq))).2
            have hNx : (2 * k) < maxLen := by unfold maxLen; omega
            go_wp2_with fail
            have HKC := Lib.hid (keyE A2 pN c2 (pkV ps x.1) wq.drew (HR8.out.later (Below.drew (bself wq))) hpp12 HVR.out.1)
            have HKN : Hid (∀ W : World, Below wq.drew.heap.size wq.drew W → Below wq.heap.size wq W) := Lib.hid fun W h => below_undrew h
            have hd1 := HLD1.out
            have hd2 := HLD2.out
            go_region_with (go_at_call 211; refine HKC.out.mono ?_; rintro e wk ⟨rfl, hbk⟩; have hbk := HKN.out _ hbk; have hk1 := (HLK.out _ hbk).1; have hk2 := (HLK.out _ hbk).2; obtain ⟨wp, hput, hmp, hgp⟩ := (HMI.out.later hbk).put Tryz.underlying9 Tryz.underlying240 hNx (keyS (pkV ps x.1)) hks2 (.int .i64 (y0.tab.length : Nat)))
            all_goals
              have HBK := Lib.hid hbk
              have HGP := Lib.hid hgp
              have HMP := Lib.hid hmp
              have hp1 := (HLP.out _ _ hbk hgp).2
              have hneb : some wr.heap.size ≠ some y0.ib := fun e => by injection e with e; exact HMI.out.isMap.ne HTG8.out e.symm
              have q1p := hgp.cell (cell_later hbk q18) hneb
              have HFM : Hid (0 < pN → ∀ a, A2 = some a → some a.block ≠ some y0.ib) := Lib.hid fun h0 a e e2 => by injection e2 with e2; exact HMI.out.isMap.ne (HT8.out h0 a e).2 e2.symm
              have HRA : Hid (rVal (wp.alloc (.cells #[.slice A2 pN c2, .int .i64 x.2] 65)) A2 pN (pkV ps x.1)) := Lib.hid ((Fl.kept (HR8.out.later hbk) hgp (fun h0 a e => HFM.out h0 a e)).later (ballo _ _))
              have HTA : Hid (0 < pN → ∀ a, A2 = some a → w1.heap.size + 2 ≤ a.block ∧ Tag (wp.alloc (.cells #[.slice A2 pN c2, .int .i64 x.2] 65)) a.block 46) := Lib.hid fun h0 a e => ⟨(HT8.out h0 a e).1, (((HT8.out h0 a e).2.later HBK.out).kept HGP.out (HFM.out h0 a e)).later (ballo _ _)⟩
              have HOA : Hid (ownD (kEntT (w1.heap.size + 2)) (wp.alloc (.cells #[.slice A2 pN c2, .int .i64 x.2] 65)) (w1.heap.size + 2) (.slice A8 y0.tab.length c8) y0.tab.length y0.tab) := Lib.hid (by
                have h := HG8.out.own_at HI0.out HBK.out HGP.out (ballo wp (.cells #[.slice A2 pN c2, .int .i64 x.2] 65))
                rw [HV8.out] at h
                exact h)
              have HFF : Hid (farFrom [(A2, pN)] (Value.slice A8 y0.tab.length c8).ownBlock) := Lib.hid fun p hp h0 ad e e2 => by
                simp at hp
                subst hp
                rw [← HV8.out] at e2
                exact Tag.ne ((HG8.out.gl i y0 HI0.out (by simp)).tag _ e2.symm) (HT8.out h0 ad e).2 (by decide) rfl
              have HSZP : Hid (w1.heap.size + 2 ≤ wp.heap.size) := Lib.hid (by have h1 := hszG; have h2 := HNS.out; have h3 := HQS.out; have h4 := HBK.out.size; have h5 := HGP.out.size; omega)
              have hszp : w1.heap.size + 2 ≤ (wp.alloc (.cells #[.slice A2 pN c2, .int .i64 x.2] 65)).heap.size := Nat.le_trans HSZP.out (ballo _ _).size
              have hnl : y0.tab.length < 1000000 := by omega
              have HV0 : Hid (∀ b, (Value.slice A8 y0.tab.length c8).ownBlock = some b → w1.heap.size ≤ b) := Lib.hid fun b e => by have := (HOA.out.lt b e).1; omega
              have HBP : Hid (Below w1.heap.size w1 wp) := Lib.hid (below_push2 (v := .slice (some ⟨y0.ib, 0, none⟩) 0 0) (btr HB8.out hbk) hgp (fun q e => by cases e; have h := HG8.out.pf.lo y0 (List.mem_of_getElem? HI0.out); show w1.heap.size ≤ y0.ib; omega))
              clear hbk hgp hmp hk1 hk2 hput hd1 hd2 q18 q08 hneb
              go_wp2_with (at_builtin; refine wpList_push _ rfl _ _ rfl PE HOA.out ⟨_, 0, none⟩ ⟨A2, pN, c2, x.2⟩ (pkV ps x.1, x.2) rfl rfl (one_block_Ent _ _ _ _ _ _) ⟨⟨HRA.out, rfl⟩, HTA.out⟩ HFF.out hnl hszp ?_; intro v' w' hown' hgrow hat; obtain ⟨wz, hput2, hmz, hgz⟩ := (HG8.out.om_at HI0.out HBK.out HGP.out (ballo wp (.cells #[.slice A2 pN c2, .int .i64 x.2] 65)) (by rw [HV8.out]; exact hgrow)).put Tryz.underlying9 Tryz.underlying218 hNx (keyS (pkV os x.1)) hks v')
              have HPU := Lib.hid (HG8.out.push (e := x) hon hpp12 HI0.out HKY.out HVR.out HNEW.out HBK.out HMP.out HGP.out (ballo wp (.cells #[.slice A2 pN c2, .int .i64 x.2] 65)) hown' (by rw [HV8.out]; exact hgrow) (by rw [HV8.out]; exact hat) (by rw [HKY.out]; exact hmz) hgz)
              have HGF := Lib.hid (show ∃ l' fo', GS Tryz.prog wz (w1.heap.size + 2) (2 * (k + 1)) m1 pN w1.heap.size (w1.heap.size + 1) os ps (u.take (k + 1)) l' fc fo' from ⟨_, _, by rw [HTK.out]; exact HPU.out.mono (by omega)⟩)
              have HBF : Hid (Below w1.heap.size w1 wz) := Lib.hid (below_push2 (v := .slice (some ⟨w1.heap.size + 1, 0, none⟩) 0 0) (below_push2 (HBP.out.alloc HBP.out.size _) hgrow HV0.out) hgz (fun q e => by cases e; show w1.heap.size ≤ w1.heap.size + 1; omega))
              have hszf : w1.heap.size + 2 ≤ wz.heap.size := Nat.le_trans hszp (Nat.le_trans hgrow.size hgz.size)
              clear hown' hgrow hat hmz hgz hp1 q1p
              go_wp2
              go_roundw
              case rel =>
                obtain ⟨l', fo', hg⟩ := HGF.out
                exact ⟨k + 1, _, _, _, by omega, by go_num, HBF.out, hszf, Lib.hid hg⟩
              case measure => simp [intOf]; omega
        · have HNK : Hid (∀ y ∈ l, y.key ≠ pkV os x.1) := Lib.hid fun y hy e => hex ⟨y, hy, e⟩
          have hfcn : fc (keyS (pkV os x.1)).data.toList = none := (HG4.out.no _ fun y hy e => by
            obtain ⟨j, hj⟩ := List.getElem?_of_mem hy
            exact HNK.out y hy ((HG4.out.gl j y hj (by simp)).kv.inj HVK.out hon e)).1
          rw [hfcn] at hlk
          simp only [Option.getD_none] at hlk
          have hmk3 : (Instr.makeMap 240 none).run Tryz.prog w4 = .ok (.map (some w4.heap.size)) (w4.alloc (.map #[] 0)) := by simp [Instr.makeMap]
          obtain ⟨wG, hput0, hm0, hg0⟩ := (HG4.out.cm.later (ballo w4 (.map #[] 0))).put Tryz.underlying9 Tryz.underlying258 (by unfold maxLen; omega) (keyS (pkV os x.1)) hks (.map (some w4.heap.size))
          have HE := Lib.hid (HG4.out.empty hon HVK.out HNULL.out HNK.out hm0 hg0)
          obtain ⟨y0, hy0⟩ : ∃ y0 : GM, y0 = ⟨pkV os x.1, [], .slice none 0 0, w4.heap.size, fun _ => none⟩ := ⟨_, rfl⟩
          rw [← hy0] at HE
          have HI0 : Hid ((l ++ [y0])[l.length]? = some y0) := Lib.hid (by simp)
          have HKEY : y0.key = pkV os x.1 := by rw [hy0]
          have HY0 := Lib.hid hy0
          obtain ⟨l2, hl2⟩ : ∃ l2, l2 = l ++ [y0] := ⟨_, rfl⟩
          obtain ⟨fc2, hf2⟩ : ∃ fc2, fc2 = setF fc (keyS (pkV os x.1)).data.toList (.map (some w4.heap.size)) := ⟨_, rfl⟩
          obtain ⟨i, hi2⟩ : ∃ i, i = l.length := ⟨_, rfl⟩
          rw [← hl2, ← hf2] at HE
          rw [← hl2, ← hi2] at HI0
          have HGS := HE
          have hneq : some wr.heap.size ≠ some w1.heap.size := fun e => by injection e with e; omega
          have HBG : Hid (Below w1.heap.size w1 wG) := Lib.hid (below_push2 (v := .slice (some ⟨w1.heap.size, 0, none⟩) 0 0) (HB4w.out.alloc HB4w.out.size _) hg0 (fun q e => by cases e; exact Nat.le_refl _))
          have hszG : w1.heap.size + 2 ≤ wG.heap.size := Nat.le_trans hsz4 (Nat.le_trans (ballo _ _).size hg0.size)
          have q0G := hg0.cell (cell_later (ballo _ _) q0G0) hneq
          have q1G := hg0.cell (cell_later (ballo _ _) q1G0) hneq
          have HTGG := Lib.hid ((HTG4.out.later (ballo w4 (.map #[] 0))).kept hg0 hneq)
          have HDR : Hid (dRows y0.tab) := Lib.hid (by
            have h := HGS.out.sem.tab y0.key (HGS.out.gl i y0 HI0.out (by simp)).kv (HGS.out.sem.nn y0 (List.mem_of_getElem? HI0.out))
            rw [tabOf_mem HGS.out.pf.keys (List.mem_of_getElem? HI0.out) rfl] at h
            rw [h]
            exact (matV_ok fun z hz => HK.out.pos z (List.mem_of_mem_take hz)).1)
          have HTL : Hid (y0.tab.length ≤ 4096) := Lib.hid (by
            have h := HGS.out.sem.tab y0.key (HGS.out.gl i y0 HI0.out (by simp)).kv (HGS.out.sem.nn y0 (List.mem_of_getElem? HI0.out))
            rw [tabOf_mem HGS.out.pf.keys (List.mem_of_getElem? HI0.out) rfl] at h
            rw [h]
            have h4 := (matV_ok (os := os) (ps := ps) (k := y0.key) (u := u.take k) fun z hz => HK.out.pos z (List.mem_of_mem_take hz)).2.2.2
            have e6 := List.length_take (i := k) (l := u)
            have e7 := HK.out.len
            omega)
          have HTB : Hid (∀ z ∈ y0.tab, 0 < z.2 ∧ z.2 ≤ 65536 ∧ y0.tab.length ≤ 4096 ∧ z.2 + x.2 ≤ 65536) := Lib.hid (by
            have h := HGS.out.sem.tab y0.key (HGS.out.gl i y0 HI0.out (by simp)).kv (HGS.out.sem.nn y0 (List.mem_of_getElem? HI0.out))
            rw [tabOf_mem HGS.out.pf.keys (List.mem_of_getElem? HI0.out) rfl] at h
            obtain ⟨_, h2, h3, h4⟩ := matV_ok (os := os) (ps := ps) (k := y0.key) (u := u.take k) fun z hz => HK.out.pos z (List.mem_of_mem_take hz)
            rw [← h] at h2 h3 h4
            intro z hz
            have e1 : z.2 ≤ sumC y0.tab := eOk.le (t := y0.tab) (fun v hv => ⟨(h2 v hv).1, by
              obtain ⟨_, v2, _, e⟩ := h2 v hv
              rw [e, pkV_len]
              have := LP.out
              omega⟩) hz
            have e2 := sumC_split u (k + 1)
            have e3 : sumC (u.take (k + 1)) = sumC (u.take k) + x.2 := by rw [HTK.out, sumC_append]; simp [sumC]
            have e4 : 0 ≤ sumC (u.drop (k + 1)) := sumC_nn fun v hv => HK.out.pos v (List.mem_of_mem_drop hv)
            have e5 := HK.out.sum
            have e6 := List.length_take (i := k) (l := u)
            have e7 := HK.out.len
            exact ⟨(h2 z hz).1, by omega, by omega, by omega⟩)
          clear hfcn hex hm0 hg0 hy0 hl2 hf2 hi2 q0G0 q1G0
          have hy0 := HGS.out.gl i y0 HI0.out (by simp)
          have HKY : Hid (y0.key = pkV os x.1) := HKEY
          have HVW := Lib.hid (picE rA rN2 rC2 x.1 pA pN pC ps wG (X3.out.later HBG.out) (HP.out.later (btr HB1.out HBG.out)) (by omega) (by omega))
          clear hy0
          go_wp2_with fail
          refine HVW.out.mono ?_
          rintro e w7 ⟨A2, c2, rfl, hrd7, hcc7, hb7, hfr7, hown7⟩
          have HR7 : Hid (rVal w7 A2 pN (pkV ps x.1)) := Lib.hid (rD_Val.1 hrd7)
          have HB7 := Lib.hid (btr HBG.out hb7)
          have HT7 : Hid (0 < pN → ∀ a, A2 = some a → w1.heap.size + 2 ≤ a.block ∧ Tag w7 a.block 46) := Lib.hid fun h0 a e => ⟨Nat.le_trans (Nat.le_trans hszG (by exact Nat.le_refl _)) (hfr7 a e).1, by
            obtain ⟨es, h1, _⟩ := hown7
            obtain ⟨b, o⟩ := a
            obtain ⟨g, cc, e2, _⟩ := World.ownsRow.form h1 h0
            rw [e] at e2
            injection e2 with e2
            injection e2 with e2
            rw [e2]
            exact own_tag h1 g (by rw [e, e2]; rfl)⟩
          have HG7 := Lib.hid (HGS.out.later hb7)
          have q17 := cell_later hb7 q1G
          have q07 := cell_later hb7 q0G
          have HFRA : Hid (∀ a, A2 = some a → wG.heap.size ≤ a.block) := Lib.hid fun a e => (hfr7 a e).1
          have HNS := Lib.hid hb7.size
          have HTG7 := Lib.hid (HTGG.out.later hb7)
          clear hrd7 hb7 hfr7 hown7 q0G q1G
          have hks2 : (keyS (pkV ps x.1)).size ≤ maxLen := keyS_small HVR.out.1 (by have := HVR.out.2; omega)
          have gl1 : ∀ p : Gro w7, (Instr.lookup 258 (.map (some w1.heap.size)) (.string (keyS (pkV os x.1))) false).run Tryz.prog p.world = .ok (.map (some y0.ib)) p.world := fun p => by
            have h := (HG7.out.later p.below).cm.look Tryz.underlying9 Tryz.underlying258 (z := .map none) (Tryz.zeroValue240 _) (keyS (pkV os x.1)) hks
            rw [← HKY.out, HG7.out.c y0 (List.mem_of_getElem? HI0.out)] at h
            rw [← HKY.out]
            exact h
          have gl2 : ∀ p : Gro w7, (Instr.lookup 240 (.map (some y0.ib)) (.string (keyS (pkV ps x.1))) true).run Tryz.prog p.world = .ok (.tuple #[(y0.g (keyS (pkV ps x.1)).data.toList).getD (.int .i64 0), .bool (y0.g (keyS (pkV ps x.1)).data.toList).isSome]) p.world := fun p => ((HG7.out.later p.below).gl i y0 HI0.out (by simp)).map.lookOk Tryz.underlying9 Tryz.underlying240 (z := .int .i64 0) (Tryz.zeroValue3 _) (keyS (pkV ps x.1)) hks2
          have hrow : ¬ ∃ z ∈ y0.tab, z.1 = pkV ps x.1 := by rw [HY0.out]; rintro ⟨z, hz, _⟩; cases hz
          have hrn2 : ∀ z ∈ y0.tab, z.1 ≠ pkV ps x.1 := fun z hz e => hrow ⟨z, hz, e⟩
          have HNEW := Lib.hid hrn2
          have hgn : y0.g (keyS (pkV ps x.1)).data.toList = none := (HG7.out.gl i y0 HI0.out (by simp)).pos.2 _ fun z hz e => hrn2 z hz (((HG7.out.gl i y0 HI0.out (by simp)).rv z hz).inj HVR.out hpp12 e)
          simp only [hgn, Option.getD_none, Option.isSome_none] at gl2
          obtain ⟨A8, c8, hv8, hc8, hr8, hfr8⟩ := (HG7.out.gl i y0 HI0.out (by simp)).own.rd
          have HV8 := Lib.hid hv8
          have htl : y0.tab.length ≤ 4096 := HTL.out
          clear hr8 hfr8 hv8 hgn hrow hrn2
          go_wp2_with fail
          refine wp_region_quiet_gro (by kernel_rfl) (by kernel_rfl) ?_; (repeat (go_big_quiet_step ((go_at_call 211; exact Calls.gro_of (keyE A2 pN c2 (pkV ps x.1) _ (HR7.out.later (Gro.below _)) hpp12 HVR.out.1))))); refine wpQuiet_nil ?_; intro _ hw'; obtain ⟨pq, hw''⟩ := hw'; subst hw''; have hbq := pq.below; revert hbq; generalize pq.world = wq; intro hbq
          have HB8 := Lib.hid (btr HB7.out hbq)
          have HG8 := Lib.hid (HG7.out.later hbq)
          have q08 := cell_later hbq q07
          have q18 := cell_later hbq q17
          have HTG8 := Lib.hid (HTG7.out.later hbq)
          have HR8 := Lib.hid (HR7.out.later hbq)
          have HT8 : Hid (0 < pN → ∀ a, A2 = some a → w1.heap.size + 2 ≤ a.block ∧ Tag wq a.block 46) := Lib.hid fun h0 a e => ⟨(HT7.out h0 a e).1, (HT7.out h0 a e).2.later hbq⟩
          have HQS := Lib.hid hbq.size
          clear gl1 gl2 hbq q07 q17
          have HLK : Hid (∀ W : World, Below wq.heap.size wq W → (Instr.lookup 258 (.map (some w1.heap.size)) (.string (keyS (pkV os x.1))) false).run Tryz.prog W = .ok (.map (some y0.ib)) W ∧ (Instr.lookup 218 (.map (some (w1.heap.size + 1))) (.string (keyS (pkV os x.1))) false).run Tryz.prog W = .ok (.slice A8 y0.tab.length c8) W) := Lib.hid fun W hW => by
            have hG := HG8.out.later hW
            have h1 := hG.cm.look Tryz.underlying9 Tryz.underlying258 (z := .map none) (Tryz.zeroValue240 _) (keyS (pkV os x.1)) hks
            have h2 := hG.om.look Tryz.underlying9 Tryz.underlying218 (z := .slice none 0 0) (Tryz.zeroValue29 _) (keyS (pkV os x.1)) hks
            rw [← HKY.out, hG.c y0 (List.mem_of_getElem? HI0.out)] at h1
            rw [← HKY.out, hG.o y0 (List.mem_of_getElem? HI0.out), HV8.out] at h2
            rw [← HKY.out]
            exact ⟨h1, h2⟩
          have HLP : Hid (∀ W W' : World, Below wq.heap.size wq W → W.grownBy W' (some y0.ib) → (Instr.lookup 258 (.map (some w1.heap.size)) (.string (keyS (pkV os x.1))) false).run Tryz.prog W' = .ok (.map (some y0.ib)) W' ∧ (Instr.lookup 218 (.map (some (w1.heap.size + 1))) (.string (keyS (pkV os x.1))) false).run Tryz.prog W' = .ok (.slice A8 y0.tab.length c8) W') := Lib.hid fun W W' hW hg => by
            have hG := HG8.out.later hW
            have hm := List.mem_of_getElem? HI0.out
            have hf := hG.pf.far y0 hm
            have h1 := (hG.cm.kept hg (fun e => by injection e with e; exact hf.1 e.symm)).look Tryz.underlying9 Tryz.underlying258 (z := .map none) (Tryz.zeroValue240 _) (keyS (pkV os x.1)) hks
            have h2 := (hG.om.kept hg (fun e => by injection e with e; exact hf.2 e.symm)).look Tryz.underlying9 Tryz.underlying218 (z := .slice none 0 0) (Tryz.zeroValue29 _) (keyS (pkV os x.1)) hks
            rw [← HKY.out, hG.c y0 hm] at h1
            rw [← HKY.out, hG.o y0 hm, HV8.out] at h2
            rw [← HKY.out]
            exact ⟨h1, h2⟩
          have HMI := Lib.hid (HG8.out.gl i y0 HI0.out (by simp)).map
          have HLD1 := Lib.hid (HLK.out _ (Below.drew (bself wq))).1
          have HLD2 := Lib.hid (HLK.out _ (Below.drew (bself wq))).2
          have hNx : (2 * k + 1) < maxLen := by unfold maxLen; omega
          go_wp2_with fail
          have HKC := Lib.hid (keyE A2 pN c2 (pkV ps x.1) wq.drew (HR8.out.later (Below.drew (bself wq))) hpp12 HVR.out.1)
          have HKN : Hid (∀ W : World, Below wq.drew.heap.size wq.drew W → Below wq.heap.size wq W) := Lib.hid fun W h => below_undrew h
          have hd1 := HLD1.out
          have hd2 := HLD2.out
          go_region_with (go_at_call 211; refine HKC.out.mono ?_; rintro e wk ⟨rfl, hbk⟩; have hbk := HKN.out _ hbk; have hk1 := (HLK.out _ hbk).1; have hk2 := (HLK.out _ hbk).2; obtain ⟨wp, hput, hmp, hgp⟩ := (HMI.out.later hbk).put Tryz.underlying9 Tryz.underlying240 hNx (keyS (pkV ps x.1)) hks2 (.int .i64 (y0.tab.length : Nat)))
          all_goals
            have HBK := Lib.hid hbk
            have HGP := Lib.hid hgp
            have HMP := Lib.hid hmp
            have hp1 := (HLP.out _ _ hbk hgp).2
            have hneb : some wr.heap.size ≠ some y0.ib := fun e => by injection e with e; exact HMI.out.isMap.ne HTG8.out e.symm
            have q1p := hgp.cell (cell_later hbk q18) hneb
            have HFM : Hid (0 < pN → ∀ a, A2 = some a → some a.block ≠ some y0.ib) := Lib.hid fun h0 a e e2 => by injection e2 with e2; exact HMI.out.isMap.ne (HT8.out h0 a e).2 e2.symm
            have HRA : Hid (rVal (wp.alloc (.cells #[.slice A2 pN c2, .int .i64 x.2] 65)) A2 pN (pkV ps x.1)) := Lib.hid ((Fl.kept (HR8.out.later hbk) hgp (fun h0 a e => HFM.out h0 a e)).later (ballo _ _))
            have HTA : Hid (0 < pN → ∀ a, A2 = some a → w1.heap.size + 2 ≤ a.block ∧ Tag (wp.alloc (.cells #[.slice A2 pN c2, .int .i64 x.2] 65)) a.block 46) := Lib.hid fun h0 a e => ⟨(HT8.out h0 a e).1, (((HT8.out h0 a e).2.later HBK.out).kept HGP.out (HFM.out h0 a e)).later (ballo _ _)⟩
            have HOA : Hid (ownD (kEntT (w1.heap.size + 2)) (wp.alloc (.cells #[.slice A2 pN c2, .int .i64 x.2] 65)) (w1.heap.size + 2) (.slice A8 y0.tab.length c8) y0.tab.length y0.tab) := Lib.hid (by
              have h := HG8.out.own_at HI0.out HBK.out HGP.out (ballo wp (.cells #[.slice A2 pN c2, .int .i64 x.2] 65))
              rw [HV8.out] at h
              exact h)
            have HFF : Hid (farFrom [(A2, pN)] (Value.slice A8 y0.tab.length c8).ownBlock) := Lib.hid fun p hp h0 ad e e2 => by
              simp at hp
              subst hp
              rw [← HV8.out] at e2
              exact Tag.ne ((HG8.out.gl i y0 HI0.out (by simp)).tag _ e2.symm) (HT8.out h0 ad e).2 (by decide) rfl
            have HSZP : Hid (w1.heap.size + 2 ≤ wp.heap.size) := Lib.hid (by have h1 := hszG; have h2 := HNS.out; have h3 := HQS.out; have h4 := HBK.out.size; have h5 := HGP.out.size; omega)
            have hszp : w1.heap.size + 2 ≤ (wp.alloc (.cells #[.slice A2 pN c2, .int .i64 x.2] 65)).heap.size := Nat.le_trans HSZP.out (ballo _ _).size
            have hnl : y0.tab.length < 1000000 := by omega
            have HV0 : Hid (∀ b, (Value.slice A8 y0.tab.length c8).ownBlock = some b → w1.heap.size ≤ b) := Lib.hid fun b e => by have := (HOA.out.lt b e).1; omega
            have HBP : Hid (Below w1.heap.size w1 wp) := Lib.hid (below_push2 (v := .slice (some ⟨y0.ib, 0, none⟩) 0 0) (btr HB8.out hbk) hgp (fun q e => by cases e; have h := HG8.out.pf.lo y0 (List.mem_of_getElem? HI0.out); show w1.heap.size ≤ y0.ib; omega))
            clear hbk hgp hmp hk1 hk2 hput hd1 hd2 q18 q08 hneb
            go_wp2_with (at_builtin; refine wpList_push _ rfl _ _ rfl PE HOA.out ⟨_, 0, none⟩ ⟨A2, pN, c2, x.2⟩ (pkV ps x.1, x.2) rfl rfl (one_block_Ent _ _ _ _ _ _) ⟨⟨HRA.out, rfl⟩, HTA.out⟩ HFF.out hnl hszp ?_; intro v' w' hown' hgrow hat; obtain ⟨wz, hput2, hmz, hgz⟩ := (HG8.out.om_at HI0.out HBK.out HGP.out (ballo wp (.cells #[.slice A2 pN c2, .int .i64 x.2] 65)) (by rw [HV8.out]; exact hgrow)).put Tryz.underlying9 Tryz.underlying218 hNx (keyS (pkV os x.1)) hks v')
            have HPU := Lib.hid (HG8.out.push (e := x) hon hpp12 HI0.out HKY.out HVR.out HNEW.out HBK.out HMP.out HGP.out (ballo wp (.cells #[.slice A2 pN c2, .int .i64 x.2] 65)) hown' (by rw [HV8.out]; exact hgrow) (by rw [HV8.out]; exact hat) (by rw [HKY.out]; exact hmz) hgz)
            have HGF := Lib.hid (show ∃ l' fo', GS Tryz.prog wz (w1.heap.size + 2) (2 * (k + 1)) m1 pN w1.heap.size (w1.heap.size + 1) os ps (u.take (k + 1)) l' fc2 fo' from ⟨_, _, by rw [HTK.out]; exact HPU.out.mono (by omega)⟩)
            have HBF : Hid (Below w1.heap.size w1 wz) := Lib.hid (below_push2 (v := .slice (some ⟨w1.heap.size + 1, 0, none⟩) 0 0) (below_push2 (HBP.out.alloc HBP.out.size _) hgrow HV0.out) hgz (fun q e => by cases e; show w1.heap.size ≤ w1.heap.size + 1; omega))
            have hszf : w1.heap.size + 2 ≤ wz.heap.size := Nat.le_trans hszp (Nat.le_trans hgrow.size hgz.size)
            clear hown' hgrow hat hmz hgz hp1 q1p
            go_wp2
            go_roundw
            case rel =>
              obtain ⟨l', fo', hg⟩ := HGF.out
              exact ⟨k + 1, _, _, _, by omega, by go_num, HBF.out, hszf, Lib.hid hg⟩
            case measure => simp [intOf]; omega
      · have HNULL := Lib.hid hnul
        rw [hnul] at HNU
        clear hnul
        go_wp2_with fail
        refine HNU.out.mono ?_
        rintro e w3 ⟨rfl, hb3⟩
        have HB3 := Lib.hid (btr HBW.out (btr HB2.out hb3))
        have HGF : Hid (GS Tryz.prog w3 (w1.heap.size + 2) (2 * (k + 1)) m1 pN w1.heap.size (w1.heap.size + 1) os ps (u.take (k + 1)) l fc fo) := Lib.hid (by
          rw [HTK.out]
          exact ((HGS0.out.later (btr HB2.out hb3)).null HNULL.out).mono (by omega))
        have hszf : w1.heap.size + 2 ≤ w3.heap.size := Nat.le_trans hsz (btr HB2.out hb3).size
        clear hb3 q0 q1
        go_wp2
        go_roundw
        case rel => exact ⟨k + 1, l, fc, fo, by omega, by go_num, HB3.out, hszf, HGF⟩
        case measure => simp [intOf]; omega
    · obtain rfl : k = rN := by omega
      have HTT : Hid (u.take k = u) := Lib.hid (List.take_of_length_le (by have := LT.out; omega))
      have HRD : Hid (MatRd Tryz.prog wr (w1.heap.size + 1) (2 * k) os.length (fun k => matV os ps k u)) := Lib.hid (by
        have h := HGS0.out.read (by omega)
        rw [HTT.out] at h
        rw [HOL.out]
        exact h)
      have HBF := Lib.hid (btr HB1.out hbw)
      go_wp2
      go_ret
      exact ⟨_, _, rfl, HRD.out, HBF.out⟩
end Go.Proofs.YthcalfeoejdcgaaGreatDoor
