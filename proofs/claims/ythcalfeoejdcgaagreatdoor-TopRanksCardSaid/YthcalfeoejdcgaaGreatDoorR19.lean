/- The program: window.partitions; Windows: the lists that Apply goes over. Plain; The program: window.check, window.column; The program: window.Apply; A window and a group agree. Plain. -/
import Derived.Test.YthcalfeoejdcgaaGreatDoorR18
import Derived.Test.YthcalfeoejdcgaaGreatDoorM13
import Derived.Test.YthcalfeoejdcgaaGreatDoorM14
import Derived.Test.YthcalfeoejdcgaaGreatDoorM15
import Derived.Test.YthcalfeoejdcgaaGreatDoorM12
namespace Go.Proofs.YthcalfeoejdcgaaGreatDoor
section
open Go.RowKit Go.BigFrame
set_option linter.unusedSimpArgs false
set_option linter.unusedVariables false

def ones (l : List (List Val)) : Tab := l.map fun r => (r, 1)
def ptsV (is : List Int) (l : List (List Val)) : List (List (List Val)) := (partsV is (ones l)).map rowsP
theorem ones_rowsX (t : Tab) : ones (rowsX t) = expV t := by
  unfold ones rowsX
  rw [List.map_map]
  conv => rhs; rw [← List.map_id (expV t)]
  refine List.map_congr_left fun y hy => ?_
  have := (expV_mem.1 hy).1
  cases y; simp at this; simp [this]
theorem ones_take (l : List (List Val)) (k : Nat) : ones (l.take k) = (ones l).take k := by unfold ones; rw [List.map_take]
theorem parts_ones (is : List Int) (l : List (List Val)) : (partsV is (ones l)).length ≤ l.length := by
  have := partsV_len is (ones l)
  unfold ones at this
  rw [List.length_map] at this
  exact this
theorem pSlc63 : ∃ i, KinP Tryz.prog (kSlc 63) 261 i (.slice none 0 0) 24 := by
  obtain ⟨i, h⟩ := pRow
  exact ⟨i, ⟨h.ht, h.hi, h.hz, h.hs, h.hb, h.hzs, h.small⟩⟩
theorem info261 : (Tryz.prog.info? 261).map (fun i => (i.zero, i.size, i.bytes)) = some (some (.slice none 0 0), 1, 24) := by kernel_rfl
theorem pSlc261 : ∃ i, KinP Tryz.prog (kSlc 261) 271 i (.slice none 0 0) 24 := by
  obtain ⟨i0, hi, hz0, hz1, hz2⟩ := info_parts info261
  exact ⟨i0, ⟨Tryz.underlying271, hi, hz0, hz1, hz2, rfl, by omega⟩⟩
/-- the map from the fingerprints of keys to the partitions -/
def FMap (f : List UInt8 → Option Value) (ps : List (List Val × Tab)) : Prop :=
  (∀ (j : Nat) p, ps[j]? = some p → f (fpS p.1).data.toList = some (.int .i64 j)) ∧ ∀ s, (∀ p ∈ ps, (fpS p.1).data.toList ≠ s) → f s = none
theorem FMap.nil : FMap (fun _ => none) [] := ⟨fun j p h => by simp at h, fun s _ => rfl⟩
def okKeysN (m : Nat) (ps : List (List Val × Tab)) : Prop := ∀ p ∈ ps, (∀ v ∈ p.1, validV v = true) ∧ p.1.length = m
theorem FMap.hit {f : List UInt8 → Option Value} {ps : List (List Val × Tab)} (h : FMap f ps) {j : Nat} {p : List Val × Tab} (hp : ps[j]? = some p) (t : Tab) : FMap f (ps.set j (p.1, t)) := by
  have hj := (List.getElem?_eq_some_iff.1 hp).1
  refine ⟨fun i q hq => ?_, fun s hs => h.2 s fun q hq e2 => ?_⟩
  · rw [List.getElem?_set] at hq
    split at hq
    · rename_i e2
      subst e2
      cases hq
      exact h.1 _ p hp
    · exact h.1 i q hq
  · obtain ⟨i, hi⟩ := List.getElem?_of_mem hq
    by_cases e3 : i = j
    · subst e3
      rw [hp] at hi
      cases hi
      exact hs (p.1, t) (List.mem_of_getElem? (i := i) (by rw [List.getElem?_set, if_pos rfl, if_pos hj])) e2
    · exact hs q (List.mem_of_getElem? (i := i) (by rw [List.getElem?_set, if_neg (Ne.symm e3)]; exact hi)) e2
theorem FMap.miss {f : List UInt8 → Option Value} {ps : List (List Val × Tab)} {m : Nat} (h : FMap f ps) (hk : okKeysN m ps) {k : List Val} (hkk : (∀ v ∈ k, validV v = true) ∧ k.length = m) (hn : ∀ p ∈ ps, p.1 ≠ k) (t : Tab) : FMap (setF f (fpS k).data.toList (.int .i64 ps.length)) (ps ++ [(k, t)]) := by
  refine ⟨fun j p hp => ?_, fun s hs => ?_⟩
  · rw [List.getElem?_append] at hp
    split at hp
    · unfold setF
      rw [if_neg (fun e => hn p (List.mem_of_getElem? hp) (fpS_inj (hk p (List.mem_of_getElem? hp)).1 hkk.1 (by rw [(hk p (List.mem_of_getElem? hp)).2, hkk.2]) e))]
      exact h.1 j p hp
    · rw [List.getElem?_singleton] at hp
      split at hp
      · cases hp
        have e : j = ps.length := by omega
        unfold setF
        rw [if_pos rfl, e]
      · cases hp
  · unfold setF
    rw [if_neg (fun e => hs (k, t) (by simp) e.symm)]
    exact h.2 s fun p hp => hs p (List.mem_append_left _ hp)
theorem FMap.find {f : List UInt8 → Option Value} {ps : List (List Val × Tab)} {m : Nat} (h : FMap f ps) (hk : okKeysN m ps) {k : List Val} (hkk : (∀ v ∈ k, validV v = true) ∧ k.length = m) (hn : ∀ p ∈ ps, p.1 ≠ k) : f (fpS k).data.toList = none :=
  h.2 _ fun p hp e => hn p hp (fpS_inj (hk p hp).1 hkk.1 (by rw [(hk p hp).2, hkk.2]) e)
theorem QS.len_cast {e : TypeId} {w : World} {B0 B n n' c : Nat} {A : Option Addr} {qs : List Slc} {ps : List (List (List Val))} (h : QS e w B0 B (.slice A n c) qs ps) (en : n' = n) : QS e w B0 B (.slice A n' c) qs ps := by rw [en]; exact h
theorem last_part (qs : List Slc) : (flat encPart (qs ++ [(none, 0, 0)]))[qs.length]? = some (.slice none 0 0) := by
  have hg : (qs ++ [((none, 0, 0) : Slc)])[qs.length]? = some (none, 0, 0) := by simp
  have := flat_get encPart_len hg 0 (by omega)
  rw [show qs.length * 1 + 0 = qs.length by omega] at this
  exact this
theorem new_part {w4 : World} {B : Nat} {v4 : Value} {qs : List Slc} (h : ownD (kSlc 261) w4 B v4 (qs.length + 1) (qs ++ [(none, 0, 0)])) :
    ∃ g cc, v4 = .slice (some ⟨g, 0, none⟩) (qs.length + 1) cc ∧ w4.ownsRow B 261 1 (.slice (some ⟨g, 0, none⟩) (qs.length + 1) cc) (qs.length + 1) (flat encPart (qs ++ [(none, 0, 0)])) ∧ w4.cell? ⟨g, qs.length, none⟩ = some (.slice none 0 0) ∧ w4.frozen? ⟨g, qs.length, none⟩ = false := by
  have h5 : w4.ownsRow B 261 1 v4 (qs.length + 1) (flat encPart (qs ++ [(none, 0, 0)])) := (own_shallow (K := kSlc 261) rfl rfl).1 h
  obtain ⟨g, cc, rfl, _, _⟩ := World.ownsRow.form h5 (by omega)
  exact ⟨g, cc, rfl, h5, (h5.cellAt qs.length (by omega)).trans (last_part qs), h5.frozenAt _⟩
def PtsR (is os : List Int) (l : List (List Val)) (w : World) (e : Ending) (w' : World) : Prop := ∃ A n c qs, e = .returned (.slice A n c) ∧ QS 261 w' w.heap.size (w.heap.size + 2) (.slice A n c) qs ((ptsV is l).map (sortW os)) ∧ Below w.heap.size w w'
set_option maxRecDepth 100000 in
set_option maxHeartbeats 20000000 in
theorem partitionsE (A : Option Addr) (n c : Nat) (l : List (List Val)) (B : Option Addr) (m d : Nat) (is : List Int) (O : Option Addr) (oN oC : Nat) (os : List Int) (w : World) (hl : rD kRow w A n l) (hi : rInt w B m is) (ho : rInt w O oN os) (hn : n ≤ 4096) (hm : m ≤ 12) (hoN : oN ≤ 12) (h12 : ∀ r ∈ l, r.length ≤ 12) (hv : ∀ r ∈ l, vOk r) :
    Calls Tryz.prog 264 #[.slice A n c, .slice B m d, .slice O oN oC] w (PtsR is os l w) := by
  obtain ⟨iE, PE⟩ := pSlc63
  obtain ⟨iP, PP⟩ := pSlc261
  have HL := Lib.hid hl
  have HI := Lib.hid hi
  have HO := Lib.hid ho
  have HMI := Lib.hid hi.len
  have HLL := Lib.hid hl.len
  have H12 := Lib.hid h12
  have HV := Lib.hid hv
  have HOB : Hid (0 < oN → ∀ ad, O = some ad → ad.block < w.heap.size) := Lib.hid fun h0 ad e => by
    obtain ⟨b', off, e', hl⟩ := Fl.lt ho (by omega) h0
    rw [e'] at e
    cases e
    exact hl
  clear hl hi ho h12 hv
  have hmk : (Instr.makeMap 240 none).run Tryz.prog (w.alloc (.cells #[.slice O oN oC] 22)) = .ok (.map (some (w.heap.size + 1))) ((w.alloc (.cells #[.slice O oN oC] 22)).alloc (.map #[] 0)) := by simp [Instr.makeMap]
  go_enter Tryz.func264, Tryz.ntmps264
  go_wp2
  clear hmk
  go_loopw [8, 19] (fun v iv wr => ∃ (k : Nat) (qs : List Slc) (f : List UInt8 → Option Value), k ≤ n ∧ iv = .int .i64 k ∧ Below w.heap.size w wr ∧ w.heap.size + 2 ≤ wr.heap.size ∧ wr.cell? ⟨w.heap.size, 0, none⟩ = some (.slice O oN oC) ∧ Hid (QS 261 wr w.heap.size (w.heap.size + 2) v qs ((partsV is (ones (l.take k))).map rowsP)) ∧ Hid (Mp Tryz.prog 9 wr (w.heap.size + 1) k f) ∧ Hid (FMap f (partsV is (ones (l.take k))))) (fun _ iv _ => n - (intOf iv).toNat)
  case atStart => exact ⟨0, [], _, by omega, rfl, (ballo _ _).alloc (by simp) _, by simp, by (repeat (first | (refine new_cell ?_ rfl; (simp; done)) | (refine new_froz ?_; (simp; done)) | (refine alo_cell ?_ ?_; (focus first | (simp; done) | (simp; omega))) | (refine alo_froz ?_ ?_; (focus first | (simp; done) | (simp; omega))))), Lib.hid (QS.nil _ _ _ _), Lib.hid (by have := Mp.made (P := Tryz.prog) (k := 9) (w.alloc (.cells #[.slice O oN oC] 22)); simpa using this), Lib.hid FMap.nil⟩
  case round =>
    obtain ⟨k, qs, f, hk, rfl, hbw, hsz, q0w, HQS, HMP, HMO⟩ := hrel
    have HBW := Lib.hid hbw
    by_cases hlt : k < n
    · obtain ⟨b1, o1, rfl, hc1⟩ := HL.out.opn (by omega)
      obtain ⟨x, hx⟩ := get_some (l := l) (k := k) (by have := HLL.out; omega)
      obtain ⟨⟨rA, rN, rC⟩, x3, hcell⟩ := hc1 k x hx
      have x1 := hcell 0 (.slice rA rN rC) (by show 0 < 1; omega) rfl
      have X3 : Hid (rVal w rA rN x) := Lib.hid x3
      have x1 : w.cell? ⟨b1, o1 + k, none⟩ = some (.slice rA rN rC) := by rw [show o1 + k = o1 + k * kRow.C + 0 by show o1 + k = o1 + k * 1 + 0; omega]; exact x1
      have z1 := cell_later hbw x1
      have hmm := List.mem_of_getElem? hx
      have hx12 := H12.out x hmm
      have hrN : rN ≤ 12 := by have := X3.out.len; omega
      have hxv := HV.out x hmm
      have HTK0 : Hid (partsV is (ones (l.take (k + 1))) = addP (pkV is x) (x, 1) (partsV is (ones (l.take k)))) := Lib.hid (by rw [ones_take, ones_take, take_snoc (x := (x, 1)) (by unfold ones; rw [List.getElem?_map, hx]; rfl), partsV_snoc])
      have HPI := Lib.hid (picE rA rN rC x B m d is wr (X3.out.later hbw) (HI.out.later hbw) (by omega) (by omega))
      have HKV : Hid ((∀ v ∈ pkV is x, validV v = true) ∧ (pkV is x).length = m) := Lib.hid ⟨valid_pk hxv is, by rw [pkV_len]; exact HMI.out⟩
      clear hc1 hx x3 hcell hbw x1 hmm hxv
      go_wp2_with fail
      refine HPI.out.mono ?_
      rintro e w2 ⟨A1, c1, rfl, hrd, hcc, hb2, hfr, _⟩
      have HRD : Hid (rVal w2 A1 m (pkV is x)) := Lib.hid (rD_Val.1 hrd)
      have HB2 := Lib.hid hb2
      have HFP := Lib.hid (fprintE A1 m c1 (pkV is x) w2 HRD.out hm HKV.out.1)
      clear hrd hb2 hfr
      go_wp2_with fail
      refine HFP.out.mono ?_
      rintro e w3 ⟨rfl, hb3⟩
      have HB3 := Lib.hid (btr HB2.out hb3)
      have hks : (fpS (pkV is x)).size ≤ maxLen := by
        have h1 := fpB_len HKV.out.1
        have h2 := HKV.out.2
        have : (fpS (pkV is x)).size = (fpB (pkV is x)).length := by simp [fpS, ByteArray.size]
        rw [this]
        unfold maxLen
        omega
      have HMP3 := Lib.hid (HMP.out.later HB3.out)
      have HQS3 := Lib.hid (HQS.out.later HB3.out)
      have HB3w := Lib.hid (btr HBW.out HB3.out)
      have q03 := cell_later HB3.out q0w
      have HPO := Lib.hid (partsV_ok is (ones (l.take k)))
      have HOKK : Hid (okKeysN m (partsV is (ones (l.take k)))) := Lib.hid fun p hp => by
        obtain ⟨y, hy, e, _⟩ := HPO.out.key hp
        obtain ⟨r, hr, rfl⟩ := List.mem_map.1 hy
        rw [← e]
        exact ⟨valid_pk (HV.out r (List.mem_of_mem_take hr)) is, by rw [pkV_len]; exact HMI.out⟩
      have HQL0 : Hid (qs.length = (partsV is (ones (l.take k))).length) := Lib.hid (by have := HQS3.out.len; rw [List.length_map] at this; exact this.symm)
      have hql : qs.length ≤ 4096 := by have := HQL0.out; have := parts_ones is (l.take k); have h := List.length_take (i := k) (l := l); omega
      clear hb3 q0w
      by_cases hex : ∃ p ∈ partsV is (ones (l.take k)), p.1 = pkV is x
      · obtain ⟨⟨kk, t0⟩, hp, hpk⟩ := hex
        simp only at hpk
        subst hpk
        obtain ⟨j, hj⟩ := List.getElem?_of_mem hp
        have HPJ := Lib.hid hj
        have hjl : j < (partsV is (ones (l.take k))).length := (List.getElem?_eq_some_iff.1 hj).1
        have hfj := HMO.out.1 j _ hj
        have hlook := HMP3.out.lookOk Tryz.underlying9 Tryz.underlying240 (z := .int .i64 0) (Tryz.zeroValue3 w3) (fpS (pkV is x)) hks
        rw [hfj] at hlook
        simp only [Option.getD_some, Option.isSome_some] at hlook
        have HT0 : Hid (t0.length ≤ n) := Lib.hid (by
          have h1 := HPO.out.rows _ hp
          simp only at h1
          rw [h1]
          unfold ofK
          refine Nat.le_trans (List.length_filter_le _ _) ?_
          unfold ones
          rw [List.length_map, List.length_take]
          omega)
        have hjq : j < (qs : List Slc).length := by rw [HQL0.out]; exact hjl
        have HTK : Hid (partsV is (ones (l.take (k + 1))) = (partsV is (ones (l.take k))).set j (pkV is x, t0 ++ [(x, 1)])) := Lib.hid (by rw [HTK0.out, addP_hit HPO.out.pw HPJ.out])
        have HMOF : Hid (FMap f (partsV is (ones (l.take (k + 1))))) := Lib.hid (by rw [HTK.out]; exact HMO.out.hit HPJ.out _)
        obtain ⟨g, cc, hform, _, hgl⟩ := World.ownsRow.form HQS3.out.own (by omega)
        subst hform
        have HQ := HQS3
        have HM := HMP3
        have HBX := HB3w
        have q0 := q03
        have hj1 : (j : Int) < ((qs : List Slc).length : Int) := by omega
        have hj0 : (0 : Int) ≤ (j : Int) := by omega
        clear hj hp hfj
        obtain ⟨⟨sA, sN, sC⟩, ha⟩ := get_some (l := (qs : List Slc)) (k := j) hjq
        obtain ⟨pb, hpb, hr⟩ := HQ.out.rel.get ha
        have hpe : pb = rowsP (pkV is x, t0) := by
          rw [List.getElem?_map, HPJ.out] at hpb
          injection hpb with hpb
          exact hpb.symm
        subst hpe
        obtain ⟨es, hrow, hes⟩ := hr
        have HES := Lib.hid hes
        have HROWB := Lib.hid hrow.lt
        have hg0 := HQ.out.own.lt g rfl
        have HSEP : Hid (∀ y, (Value.slice sA sN sC).ownBlock = some y → w.heap.size + 2 ≤ y ∧ y < w3.heap.size ∧ y ≠ g) := Lib.hid fun y hy => ⟨(hrow.lt y hy).1, (hrow.lt y hy).2, fun e => HQ.out.sep _ (List.mem_of_getElem? ha) y hy (by rw [e]; rfl)⟩
        have p2 : w3.cell? ⟨g, j, none⟩ = some (.slice sA sN sC) := by
          have h := HQ.out.own.cellAt j (by omega)
          have hf := flat_get encPart_len ha 0 (by omega)
          rw [show j * 1 + 0 = j by omega] at hf
          exact h.trans hf
        have pf : w3.frozen? ⟨g, j, none⟩ = false := HQ.out.own.frozenAt _
        have HROW : Hid (ownD (kSlc 63) (w3.alloc (.cells #[.slice rA rN rC] 63)) (w.heap.size + 2) (.slice sA sN sC) sN es) := Lib.hid (((own_shallow (K := kSlc 63) rfl rfl).2 hrow).later (ballo _ _))
        have hsN : sN < 1000000 := by
          have h1 : (flat encPart es).length = sN * 1 := hrow.1
          rw [flat_length encPart_len] at h1
          have h2 := hes.len
          have h3 := HT0.out
          simp only [rowsP, List.length_map] at h2
          omega
        have hbase8 : w.heap.size + 2 ≤ (w3.alloc (.cells #[.slice rA rN rC] 63)).heap.size := Nat.le_trans (by have := hg0; omega) (ballo _ _).size
        have hge : some g ≠ (Value.slice sA sN sC).ownBlock := fun e => (HSEP.out _ e.symm).2.2 rfl
        have p28 : (w3.alloc (.cells #[.slice rA rN rC] 63)).cell? ⟨g, j, none⟩ = some (.slice sA sN sC) := cell_later (ballo _ _) p2
        have pf8 : (w3.alloc (.cells #[.slice rA rN rC] 63)).frozen? ⟨g, j, none⟩ = false := alo_froz hg0.2 pf
        have hgl8 : g < (w3.alloc (.cells #[.slice rA rN rC] 63)).heap.size := Nat.lt_of_lt_of_le hg0.2 (ballo _ _).size
        have HA := Lib.hid ha
        have HQL := Lib.hid HQ.out.len
        have q8 : (w3.alloc (.cells #[.slice rA rN rC] 63)).cell? ⟨w.heap.size, 0, none⟩ = some (.slice O oN oC) := cell_later (ballo _ _) q0
        have hqb : some w.heap.size ≠ (Value.slice sA sN sC).ownBlock := fun e => by have := (HSEP.out _ e.symm).1; omega
        clear hpb hrow hes ha
        go_wp2_with (at_builtin; (refine wpList_push _ rfl _ _ rfl PE HROW.out ⟨_, 0, none⟩ (rA, rN, rC) (rA, rN, rC) rfl rfl (one_block_Row _ _ _ _ _) rfl (fun p hp => by cases hp) hsN hbase8 ?_); intro v' w' hown' hgrow hat; obtain ⟨A9, c9, rfl, hcc9, _, _⟩ := hown'.rd; have s1 := hgrow.cell p28 hge; have sf := (hgrow.frozen_far ⟨g, j, none⟩ hgl8 hge).trans pf8)
        have hrow9 := (own_shallow (K := kSlc 63) rfl rfl).1 hown'
        have HB8 : Hid (Below w.heap.size w (w3.alloc (.cells #[.slice rA rN rC] 63))) := Lib.hid (HBX.out.alloc HBX.out.size _)
        have hB9 := below_push2 HB8.out hgrow (fun y e => by have := (HSEP.out y e).1; omega)
        have HOLD : oldRow w.heap.size w' (rA, rN, rC) x := ⟨X3.out.later hB9, fun h0 ad e => rVal_lt X3.out h0 ad e⟩
        have HREL : dAll (oldRow w.heap.size w') (es ++ [(rA, rN, rC)]) (rowsP (pkV is x, t0) ++ [x]) := dAll.snoc (HES.out.imp fun _ _ h => (h.kept (grown_below (ballo _ _)) (fun q e => by cases e)).kept hgrow (fun q e => by have := (HSEP.out q e).1; omega)) HOLD
        have HTURN := Lib.hid (QS.turn (i := j) (a2 := (A9, sN + 1, c9)) (HQ.out.later (ballo _ (.cells #[.slice rA rN rC] 63))) HA.out (l := rowsP (pkV is x, t0)) (by rw [List.getElem?_map, HPJ.out]; rfl) (by omega) hrow9 HREL hgrow hat rfl)
        have hmb : some (w.heap.size + 1) ≠ (Value.slice sA sN sC).ownBlock := fun e => by have := (HSEP.out _ e.symm).1; omega
        have HMP9 := Lib.hid ((HM.out.later (ballo _ (.cells #[.slice rA rN rC] 63))).kept hgrow hmb)
        have HMPF := Lib.hid (HMP9.out.kept (row := some g) (w' := w'.setCell ⟨g, j, none⟩ (.slice A9 (sN + 1) c9)) ⟨rfl, rfl, rfl, by simp, fun b _ hne => Below.heap_setCell _ _ _ _ (by show b ≠ g; exact fun e => hne (by rw [e]))⟩ (fun e => by injection e with e; omega))
        have HBF := Lib.hid (hB9.setCell (p := ⟨g, j, none⟩) (by show w.heap.size ≤ g; omega) (.slice A9 (sN + 1) c9))
        have q9 : (w'.setCell ⟨g, j, none⟩ (.slice A9 (sN + 1) c9)).cell? ⟨w.heap.size, 0, none⟩ = some (.slice O oN oC) := (World.cell?_setCell_far _ _ _ _ (by show g ≠ w.heap.size; omega)).trans (hgrow.cell q8 hqb)
        have hszf : w.heap.size + 2 ≤ (w'.setCell ⟨g, j, none⟩ (.slice A9 (sN + 1) c9)).heap.size := by have h1 := hgrow.size; have h2 := hbase8; simp only [World.size_setCell]; omega
        clear hown' hrow9 hgrow hat hB9 HOLD HREL
        go_wp2
        go_roundw
        case rel => exact ⟨k + 1, _, _, by omega, by go_num, HBF.out, hszf, q9, Lib.hid (by rw [HTK.out, List.map_set]; have h := HTURN.out; rw [show rowsP (pkV is x, t0 ++ [(x, 1)]) = rowsP (pkV is x, t0) ++ [x] by simp [rowsP]]; exact h.len_cast (by simp)), HMPF.out.mono (by omega) |> Lib.hid, HMOF⟩
        case measure => simp [intOf]; omega
      · have hnone : ∀ p ∈ partsV is (ones (l.take k)), p.1 ≠ pkV is x := fun p hp e => hex ⟨p, hp, e⟩
        have HNO := Lib.hid hnone
        have hfn := HMO.out.find HOKK.out HKV.out hnone
        have hlook := HMP3.out.lookOk Tryz.underlying9 Tryz.underlying240 (z := .int .i64 0) (Tryz.zeroValue3 w3) (fpS (pkV is x)) hks
        rw [hfn] at hlook
        simp only [Option.getD_none, Option.isSome_none] at hlook
        obtain ⟨vA, vc, hvf, _, _⟩ := fl_of_own HQS3.out.own
        obtain ⟨w7, hput, hmp7, hg7⟩ := HMP3.out.put Tryz.underlying9 Tryz.underlying240 (by unfold maxLen; omega) (fpS (pkV is x)) hks (.int .i64 (qs.length : Nat))
        have HMP7 := Lib.hid hmp7
        have HQS7 : Hid (QS 261 w7 w.heap.size (w.heap.size + 2) u8 qs ((partsV is (ones (l.take k))).map rowsP)) := Lib.hid (HQS3.out.low hg7 (fun q e => by cases e; exact ⟨by omega, by omega⟩))
        have hjz : (0 : Int) ≤ (qs.length : Int) := by omega
        have hjy : (qs.length : Int) < ((qs.length + 1 : Nat) : Int) := by omega
        have HB7 : Hid (Below w.heap.size w w7) := Lib.hid (below_push2 (v := .slice (some ⟨w.heap.size + 1, 0, none⟩) 0 0) HB3w.out hg7 (fun q e => by cases e; show w.heap.size ≤ w.heap.size + 1; omega))
        have q07 := hg7.cell q03 (fun e => by injection e with e; have e : w.heap.size = w.heap.size + 1 := e; omega)
        have HW4 : Hid (Below w7.heap.size w7 (w7.alloc (.cells #[.slice none 0 0] 261))) := Lib.hid (ballo _ _)
        have HOP : Hid (ownD (kSlc 261) (w7.alloc (.cells #[.slice none 0 0] 261)) (w.heap.size + 2) u8 qs.length qs) := Lib.hid (((own_shallow (K := kSlc 261) rfl rfl).2 HQS7.out.own).later HW4.out)
        have hbase4 : w.heap.size + 2 ≤ (w7.alloc (.cells #[.slice none 0 0] 261)).heap.size := by have h1 := HB3.out.size; have h2 := hg7.size; have h3 := (ballo w7 (.cells #[.slice none 0 0] 261)).size; omega
        have hql2 : qs.length < 1000000 := by omega
        have HVLT : Hid (∀ y, u8.ownBlock = some y → w.heap.size + 2 ≤ y ∧ y < w7.heap.size) := Lib.hid HQS7.out.own.lt
        have q08 : (w7.alloc (.cells #[.slice none 0 0] 261)).cell? ⟨w.heap.size, 0, none⟩ = some (.slice O oN oC) := cell_later HW4.out q07
        have HFF : Hid (farFrom ((kSlc 261).ptrs (none, 0, 0)) u8.ownBlock) := Lib.hid (fun p hp => by change p ∈ [] at hp; cases hp)
        have HCE : Hid (∀ j u, ((kSlc 261).enc (none, 0, 0))[j]? = some u → (w7.alloc (.cells #[.slice none 0 0] 261)).cell? ((⟨w7.heap.size, 0, none⟩ : Addr).add j) = some u) := Lib.hid (one_block_Row _ _ _ _ _)
        subst hvf
        clear hfn hnone hex hmp7 hg7
        go_wp2_with (first
          | (at_builtin
             refine wpList_push _ rfl _ _ rfl PP HOP.out ⟨_, 0, none⟩ ((none, 0, 0) : Slc) ((none, 0, 0) : Slc) rfl rfl HCE.out rfl HFF.out hql2 hbase4 ?_
             intro v4 w4 hown4 hg4 hat4
             obtain ⟨g, cc, rfl, hown5, -, -⟩ := new_part hown4
             have HQ : Hid (QS 261 w4 w.heap.size (w.heap.size + 2) (.slice (some ⟨g, 0, none⟩) ((qs ++ [(none, 0, 0)]) : List Slc).length cc) (qs ++ [(none, 0, 0)]) ((partsV is (ones (l.take k)) ++ [(pkV is x, [])]).map rowsP)) := Lib.hid (by
               have := QS.push (HQS7.out.later HW4.out) (by omega) hbase4 hown5 hg4 hat4
               rw [List.map_append]
               exact this.len_cast (by simp))
             have hmb4 : some (w.heap.size + 1) ≠ (Value.slice vA qs.length vc).ownBlock := fun e => by have := (HVLT.out _ e.symm).1; omega
             have hqb4 : some w.heap.size ≠ (Value.slice vA qs.length vc).ownBlock := fun e => by have := (HVLT.out _ e.symm).1; omega
             have HM := Lib.hid ((HMP7.out.later HW4.out).kept hg4 hmb4)
             have q0 := hg4.cell q08 hqb4
             have HBX := Lib.hid (below_push2 (btr HB7.out HW4.out) hg4 (fun y e => by have := (HVLT.out y e).1; omega))
             have HPJ : Hid ((partsV is (ones (l.take k)) ++ [(pkV is x, ([] : Tab))])[qs.length]? = some (pkV is x, [])) := Lib.hid (by rw [HQL0.out]; simp)
             have HT0 : Hid (([] : Tab).length ≤ n) := Lib.hid (Nat.zero_le _)
             have hjq : qs.length < ((qs ++ [(none, 0, 0)]) : List Slc).length := by simp
             have HTK : Hid (partsV is (ones (l.take (k + 1))) = (partsV is (ones (l.take k)) ++ [(pkV is x, ([] : Tab))]).set qs.length (pkV is x, ([] : Tab) ++ [(x, 1)])) := Lib.hid (by rw [HTK0.out, addP_miss HNO.out, HQL0.out]; simp)
             have HMOF : Hid (FMap (setF f (fpS (pkV is x)).data.toList (.int .i64 qs.length)) (partsV is (ones (l.take (k + 1))))) := Lib.hid (by
               have := HMO.out.miss HOKK.out HKV.out HNO.out [(x, 1)]
               rw [← HQL0.out] at this
               rw [HTK0.out, addP_miss HNO.out]
               exact this)
             clear hown4 hown5 hg4 hat4
             obtain ⟨⟨sA, sN, sC⟩, ha⟩ := get_some (l := (qs ++ [(none, 0, 0)] : List Slc)) (k := qs.length) hjq
             obtain ⟨pb, hpb, hr⟩ := HQ.out.rel.get ha
             have hpe : pb = rowsP (pkV is x, ([] : Tab)) := by
               rw [List.getElem?_map, HPJ.out] at hpb
               injection hpb with hpb
               exact hpb.symm
             subst hpe
             obtain ⟨es, hrow, hes⟩ := hr
             have HES := Lib.hid hes
             have HROWB := Lib.hid hrow.lt
             have hg0 := HQ.out.own.lt g rfl
             have HSEP : Hid (∀ y, (Value.slice sA sN sC).ownBlock = some y → w.heap.size + 2 ≤ y ∧ y < w4.heap.size ∧ y ≠ g) := Lib.hid fun y hy => ⟨(hrow.lt y hy).1, (hrow.lt y hy).2, fun e => HQ.out.sep _ (List.mem_of_getElem? ha) y hy (by rw [e]; rfl)⟩
             have p2 : w4.cell? ⟨g, qs.length, none⟩ = some (.slice sA sN sC) := by
               have h := HQ.out.own.cellAt qs.length (by omega)
               have hf := flat_get encPart_len ha 0 (by omega)
               rw [show qs.length * 1 + 0 = qs.length by omega] at hf
               exact h.trans hf
             have pf : w4.frozen? ⟨g, qs.length, none⟩ = false := HQ.out.own.frozenAt _
             have HROW : Hid (ownD (kSlc 63) (w4.alloc (.cells #[.slice rA rN rC] 63)) (w.heap.size + 2) (.slice sA sN sC) sN es) := Lib.hid (((own_shallow (K := kSlc 63) rfl rfl).2 hrow).later (ballo _ _))
             have hsN : sN < 1000000 := by
               have h1 : (flat encPart es).length = sN * 1 := hrow.1
               rw [flat_length encPart_len] at h1
               have h2 := hes.len
               have h3 := HT0.out
               simp only [rowsP, List.length_map] at h2
               omega
             have hbase8 : w.heap.size + 2 ≤ (w4.alloc (.cells #[.slice rA rN rC] 63)).heap.size := Nat.le_trans (by have := hg0; omega) (ballo _ _).size
             have hge : some g ≠ (Value.slice sA sN sC).ownBlock := fun e => (HSEP.out _ e.symm).2.2 rfl
             have p28 : (w4.alloc (.cells #[.slice rA rN rC] 63)).cell? ⟨g, qs.length, none⟩ = some (.slice sA sN sC) := cell_later (ballo _ _) p2
             have pf8 : (w4.alloc (.cells #[.slice rA rN rC] 63)).frozen? ⟨g, qs.length, none⟩ = false := alo_froz hg0.2 pf
             have hgl8 : g < (w4.alloc (.cells #[.slice rA rN rC] 63)).heap.size := Nat.lt_of_lt_of_le hg0.2 (ballo _ _).size
             have HA := Lib.hid ha
             have HQL := Lib.hid HQ.out.len
             have q8 : (w4.alloc (.cells #[.slice rA rN rC] 63)).cell? ⟨w.heap.size, 0, none⟩ = some (.slice O oN oC) := cell_later (ballo _ _) q0
             have hqb : some w.heap.size ≠ (Value.slice sA sN sC).ownBlock := fun e => by have := (HSEP.out _ e.symm).1; omega
             clear hpb hrow hes ha)
          | (at_builtin; (refine wpList_push _ rfl _ _ rfl PE HROW.out ⟨_, 0, none⟩ (rA, rN, rC) (rA, rN, rC) rfl rfl (one_block_Row _ _ _ _ _) rfl (fun p hp => by cases hp) hsN hbase8 ?_); intro v' w' hown' hgrow hat; obtain ⟨A9, c9, rfl, hcc9, _, _⟩ := hown'.rd; have s1 := hgrow.cell p28 hge; have sf := (hgrow.frozen_far ⟨g, qs.length, none⟩ hgl8 hge).trans pf8))
        have hrow9 := (own_shallow (K := kSlc 63) rfl rfl).1 hown'
        have HB8 : Hid (Below w.heap.size w (w4.alloc (.cells #[.slice rA rN rC] 63))) := Lib.hid (HBX.out.alloc HBX.out.size _)
        have hB9 := below_push2 HB8.out hgrow (fun y e => by have := (HSEP.out y e).1; omega)
        have HOLD : oldRow w.heap.size w' (rA, rN, rC) x := ⟨X3.out.later hB9, fun h0 ad e => rVal_lt X3.out h0 ad e⟩
        have HREL : dAll (oldRow w.heap.size w') (es ++ [(rA, rN, rC)]) (rowsP (pkV is x, ([] : Tab)) ++ [x]) := dAll.snoc (HES.out.imp fun _ _ h => (h.kept (grown_below (ballo _ _)) (fun q e => by cases e)).kept hgrow (fun q e => by have := (HSEP.out q e).1; omega)) HOLD
        have HTURN := Lib.hid (QS.turn (i := qs.length) (a2 := (A9, sN + 1, c9)) (HQ.out.later (ballo _ (.cells #[.slice rA rN rC] 63))) HA.out (l := rowsP (pkV is x, ([] : Tab))) (by rw [List.getElem?_map, HPJ.out]; rfl) (by omega) hrow9 HREL hgrow hat rfl)
        have hmb : some (w.heap.size + 1) ≠ (Value.slice sA sN sC).ownBlock := fun e => by have := (HSEP.out _ e.symm).1; omega
        have HMP9 := Lib.hid ((HM.out.later (ballo _ (.cells #[.slice rA rN rC] 63))).kept hgrow hmb)
        have HMPF := Lib.hid (HMP9.out.kept (row := some g) (w' := w'.setCell ⟨g, qs.length, none⟩ (.slice A9 (sN + 1) c9)) ⟨rfl, rfl, rfl, by simp, fun b _ hne => Below.heap_setCell _ _ _ _ (by show b ≠ g; exact fun e => hne (by rw [e]))⟩ (fun e => by injection e with e; omega))
        have HBF := Lib.hid (hB9.setCell (p := ⟨g, qs.length, none⟩) (by show w.heap.size ≤ g; omega) (.slice A9 (sN + 1) c9))
        have q9 : (w'.setCell ⟨g, qs.length, none⟩ (.slice A9 (sN + 1) c9)).cell? ⟨w.heap.size, 0, none⟩ = some (.slice O oN oC) := (World.cell?_setCell_far _ _ _ _ (by show g ≠ w.heap.size; omega)).trans (hgrow.cell q8 hqb)
        have hszf : w.heap.size + 2 ≤ (w'.setCell ⟨g, qs.length, none⟩ (.slice A9 (sN + 1) c9)).heap.size := by have h1 := hgrow.size; have h2 := hbase8; simp only [World.size_setCell]; omega
        clear hown' hrow9 hgrow hat hB9 HOLD HREL
        go_wp2
        go_roundw
        case rel => exact ⟨k + 1, _, _, by omega, by go_num, HBF.out, hszf, q9, Lib.hid (by rw [HTK.out, List.map_set]; have h := HTURN.out; rw [show rowsP (pkV is x, ([] : Tab) ++ [(x, 1)]) = rowsP (pkV is x, ([] : Tab)) ++ [x] by simp [rowsP]]; exact h.len_cast (by simp)), HMPF.out.mono (by omega) |> Lib.hid, HMOF⟩
        case measure => simp [intOf]; omega
    · obtain rfl : k = n := by omega
      have HTT : Hid (l.take k = l) := Lib.hid (List.take_of_length_le (by have := HLL.out; omega))
      have HQS2 : Hid (QS 261 wr w.heap.size (w.heap.size + 2) u8 qs (ptsV is l)) := Lib.hid (by have := HQS.out; rw [HTT.out] at this; exact this)
      obtain ⟨vA, vc, rfl, _, _⟩ := fl_of_own HQS.out.own
      have HPL : Hid (∀ p ∈ ptsV is l, 0 < p.length ∧ p.length ≤ k ∧ ∀ r ∈ p, r.length ≤ 12) := Lib.hid fun p hp => by
        obtain ⟨⟨ky, t⟩, hp2, rfl⟩ := List.mem_map.1 hp
        have ok := partsV_ok is (ones l)
        refine ⟨?_, ?_, fun r hr => ?_⟩
        · have := ok.ne _ hp2
          show 0 < (t.map (·.1)).length
          rw [List.length_map]
          exact List.length_pos_iff.2 this
        · show (t.map (·.1)).length ≤ k
          rw [List.length_map]
          have h1 := ok.rows _ hp2
          simp only at h1
          rw [h1]
          unfold ofK
          refine Nat.le_trans (List.length_filter_le _ _) ?_
          unfold ones
          rw [List.length_map]
          exact Nat.le_of_eq HLL.out
        · obtain ⟨y, hy, rfl⟩ := List.mem_map.1 hr
          have h1 := ((ok.mem hp2).1 hy).1
          obtain ⟨r2, hr2, rfl⟩ := List.mem_map.1 h1
          exact H12.out r2 hr2
      have HQN : Hid (qs.length = (ptsV is l).length) := Lib.hid HQS2.out.len.symm
      have hql : qs.length ≤ 4096 := by have h1 := HQN.out; have h := parts_ones is l; unfold ptsV at h1; rw [List.length_map] at h1; have := HLL.out; omega
      clear HQS HMP HMO
      go_wp2
      go_loopw [56] (fun jv wx => ∃ j : Nat, j ≤ qs.length ∧ jv = .int .i64 j ∧ Below w.heap.size w wx ∧ wx.cell? ⟨w.heap.size, 0, none⟩ = some (.slice O oN oC) ∧ Hid (QS 261 wx w.heap.size (w.heap.size + 2) (.slice vA qs.length vc) qs (((ptsV is l).take j).map (sortW os) ++ (ptsV is l).drop j))) (fun jv _ => qs.length - (intOf jv).toNat)
      case atStart => exact ⟨0, by omega, rfl, hbw, q0w, Lib.hid (by rw [List.take_zero, List.map_nil, List.nil_append, List.drop_zero]; exact HQS2.out)⟩
      case round =>
        obtain ⟨j, hj, rfl, hbx, q0, HQ⟩ := hrel
        have HBX := Lib.hid hbx
        by_cases hjl : j < qs.length
        · obtain ⟨⟨sA, sN, sC⟩, ha⟩ := get_some (l := qs) (k := j) hjl
          obtain ⟨p, hp⟩ := get_some (l := ptsV is l) (k := j) (by have := HQN.out; omega)
          have hpm := HPL.out p (List.mem_of_getElem? hp)
          have hlj : (((ptsV is l).take j).map (sortW os)).length = j := by rw [List.length_map, List.length_take]; have := HQN.out; omega
          have hpj : (((ptsV is l).take j).map (sortW os) ++ (ptsV is l).drop j)[j]? = some p := by
            rw [List.getElem?_append_right (by omega), hlj, Nat.sub_self, List.getElem?_drop]
            exact hp
          obtain ⟨pb, hpb, hr⟩ := HQ.out.rel.get ha
          rw [hpj] at hpb
          cases hpb
          obtain ⟨es, hrow, hes⟩ := hr
          have hsn : sN = p.length := by
            have h1 : (flat encPart es).length = sN * 1 := hrow.1
            rw [flat_length encPart_len] at h1
            have := hes.len
            omega
          obtain ⟨g2, cc2, hform2, _, hgl2⟩ := World.ownsRow.form hrow (by show 0 < sN; omega)
          have e2 : sA = some ⟨g2, 0, none⟩ ∧ sC = cc2 := by
            have h : Value.slice sA sN sC = .slice (some ⟨g2, 0, none⟩) sN cc2 := hform2
            injection h with h1 h2 h3
            exact ⟨h1, h3⟩
          obtain ⟨rfl, rfl⟩ := e2
          obtain ⟨g, cc, hform, _, hgl⟩ := World.ownsRow.form HQ.out.own (by omega)
          have e3 : vA = some ⟨g, 0, none⟩ ∧ vc = cc := by
            injection hform with h1 h2 h3
            exact ⟨h1, h3⟩
          obtain ⟨rfl, rfl⟩ := e3
          have p2 : wr.cell? ⟨g, j, none⟩ = some (.slice (some ⟨g2, 0, none⟩) sN sC) := by
            have h := HQ.out.own.cellAt j (by omega)
            have hf := flat_get encPart_len ha 0 (by omega)
            rw [show j * 1 + 0 = j by omega] at hf
            exact h.trans hf
          have HSR := Lib.hid (sortRE g2 sN sC (w.heap.size + 2) w.heap.size es p O oN oC os w.heap.size wr hrow hes (by omega) (by omega) (by omega) hpm.2.2 (HO.out.later hbx) hoN (fun h0 ad e => by have := HOB.out h0 ad e; omega) q0 (by omega))
          have HA := Lib.hid ha
          have HP := Lib.hid hp
          have HLJ := Lib.hid hlj
          have hgb := hrow.lt g2 rfl
          have HQ0 := Lib.hid q0
          clear ha hp hpj hrow hes hform hform2 hpm hbx hlj q0 hsn
          go_wp2_with fail
          refine HSR.out.mono ?_
          rintro e w5 ⟨rfl, es', hown5, hrel5, hg5⟩
          have HQ5 := Lib.hid (QS.turn0 (i := j) (a := (some ⟨g2, 0, none⟩, sN, sC)) HQ.out HA.out (by omega) hown5 hrel5 hg5)
          have q05 := hg5.cell HQ0.out (fun e => by injection e with e; have e : w.heap.size = g2 := e; have := hgb.1; omega)
          have HB5 := Lib.hid (below_push2 (v := .slice (some ⟨g2, 0, none⟩) sN sC) HBX.out hg5 (fun y e => by cases e; have := hgb.1; show w.heap.size ≤ g2; omega))
          have HEQ : Hid ((((ptsV is l).take j).map (sortW os) ++ (ptsV is l).drop j).set j (sortW os p) = ((ptsV is l).take (j + 1)).map (sortW os) ++ (ptsV is l).drop (j + 1)) := Lib.hid (by
            have hd : (ptsV is l).drop j = p :: (ptsV is l).drop (j + 1) := by
              have h1 := (List.getElem?_eq_some_iff.1 HP.out)
              rw [List.drop_eq_getElem_cons h1.1, h1.2]
            rw [hd, take_snoc HP.out, List.map_append, List.set_append_right _ _ (by rw [HLJ.out]; exact Nat.le_refl _), HLJ.out, Nat.sub_self]
            simp)
          clear hown5 hrel5 hg5
          go_wp2
          go_roundw
          case rel => exact ⟨j + 1, by omega, by go_num, HB5.out, q05, Lib.hid (by rw [← HEQ.out]; exact HQ5.out)⟩
          case measure => simp [intOf]; omega
        · obtain rfl : j = qs.length := by omega
          have HQF : Hid (QS 261 wr w.heap.size (w.heap.size + 2) (.slice vA qs.length vc) qs ((ptsV is l).map (sortW os))) := Lib.hid (by
            have := HQ.out
            rw [HQN.out, List.take_length, List.drop_length, List.append_nil] at this
            rw [HQN.out]
            exact this)
          clear q0
          go_wp2
          go_ret
          exact ⟨_, _, _, qs, rfl, HQF.out, hbx⟩
end
section
open Go.RowKit
set_option linter.unusedSimpArgs false
set_option linter.unusedVariables false

theorem addP_sum (k : List Val) (x : List Val × Int) : ∀ ps : List (List Val × Tab), ((addP k x ps).map fun p => p.2.length).sum = (ps.map fun p => p.2.length).sum + 1
  | [] => rfl
  | p :: l => by
    have ih := addP_sum k x l
    unfold addP
    split
    · simp only [List.map_cons, List.sum_cons, List.length_append, List.length_singleton]; omega
    · simp only [List.map_cons, List.sum_cons, ih]; omega
theorem parts_sum (is : List Int) (t : Tab) : ((partsV is t).map fun p => p.2.length).sum = t.length := by
  have h : ∀ (l : Tab) (ps : List (List Val × Tab)), ((l.foldl (fun l x => addP (pkV is x.1) x l) ps).map fun p => p.2.length).sum = (ps.map fun p => p.2.length).sum + l.length := by
    intro l
    induction l with
    | nil => intro ps; rfl
    | cons x l ih => intro ps; rw [List.foldl_cons, ih, addP_sum, List.length_cons]; omega
  have := h t []
  simpa [partsV] using this
/-- the sorted partitions -/
def srtV (is os : List Int) (t : Tab) : List (List (List Val)) := (ptsV is (rowsX t)).map (sortW os)
theorem srtV_eq (is os : List Int) (t : Tab) : srtV is os t = (partsV is (expV t)).map fun p => sortW os (rowsP p) := by
  unfold srtV ptsV
  rw [ones_rowsX, List.map_map]
  rfl
theorem numW_len (os : List Int) (is : List WItm) (l : List (List Val)) : (numW os is l).length = l.length := by simp [numW]
/-- what is written from the first partitions -/
def wrtV (os : List Int) (is : List WItm) (ls : List (List (List Val))) : Tab := ls.flatMap (numW os is)
theorem wrt_list (ps os : List Int) (is : List WItm) (t : Tab) : wrtV os is (srtV ps os t) = listW ps os is t := by
  unfold wrtV listW
  rw [srtV_eq, List.flatMap_map]
theorem wrt_snoc {os : List Int} {is : List WItm} {ls : List (List (List Val))} {k : Nat} {l : List (List Val)} (h : ls[k]? = some l) : wrtV os is (ls.take (k + 1)) = wrtV os is (ls.take k) ++ numW os is l := by
  unfold wrtV
  rw [take_snoc h, List.flatMap_append]
  simp
theorem wrt_len (os : List Int) (is : List WItm) (ls : List (List (List Val))) : (wrtV os is ls).length = (ls.map List.length).sum := by
  unfold wrtV
  induction ls with
  | nil => rfl
  | cons l ls ih => rw [List.flatMap_cons, List.length_append, ih, numW_len, List.map_cons, List.sum_cons]
theorem srt_sum (is os : List Int) (t : Tab) : ((srtV is os t).map List.length).sum = (expV t).length := by
  rw [srtV_eq, List.map_map, ← parts_sum is (expV t)]
  congr 1
  refine List.map_congr_left fun p _ => ?_
  show (sortW os (rowsP p)).length = _
  rw [sortW_len]
  simp [rowsP]
theorem sum_take_le : ∀ (l : List Nat) (k : Nat), (l.take k).sum ≤ l.sum
  | [], k => by simp
  | x :: l, 0 => by simp
  | x :: l, k + 1 => by
    have := sum_take_le l k
    simp only [List.take_succ_cons, List.sum_cons]
    omega
theorem srt_le {is os : List Int} {t : Tab} {k : Nat} {l : List (List Val)} (h : (srtV is os t)[k]? = some l) (its : List WItm) : (wrtV os its ((srtV is os t).take k)).length + l.length ≤ (expV t).length := by
  rw [← srt_sum is os t]
  have h1 := sum_take_le ((srtV is os t).map List.length) (k + 1)
  rw [← List.map_take, take_snoc h, List.map_append, List.sum_append] at h1
  rw [wrt_len]
  simpa using h1
theorem numW_get {os : List Int} {is : List WItm} {l : List (List Val)} {p : Nat} {r : List Val} (h : l[p]? = some r) : (numW os is l)[p]? = some (r ++ extW os is l p, 1) := by
  have hp := (List.getElem?_eq_some_iff.1 h).1
  unfold numW
  rw [List.getElem?_map, List.getElem?_range hp, Option.map_some]
  have : rowAt l p = r := by unfold rowAt; rw [List.getD_eq_getElem?_getD, h]; rfl
  rw [this]
theorem numW_snoc {os : List Int} {is : List WItm} {l : List (List Val)} {p : Nat} {r : List Val} (h : l[p]? = some r) : (numW os is l).take (p + 1) = (numW os is l).take p ++ [(r ++ extW os is l p, 1)] := take_snoc (numW_get h)
/-- the values of an item, row by row -/
def colL (os : List Int) (x : WItm) (l : List (List Val)) : List Val := (List.range l.length).map (colW os x l)
theorem colL_len (os : List Int) (x : WItm) (l : List (List Val)) : (colL os x l).length = l.length := by simp [colL]
theorem colL_get {os : List Int} {x : WItm} {l : List (List Val)} {p : Nat} (h : p < l.length) : (colL os x l)[p]? = some (colW os x l p) := by
  unfold colL
  rw [List.getElem?_map, List.getElem?_range h, Option.map_some]
theorem extW_snoc {os : List Int} {is : List WItm} {l : List (List Val)} {p j : Nat} {x : WItm} (h : is[j]? = some x) : extW os (is.take (j + 1)) l p = extW os (is.take j) l p ++ [colW os x l p] := by
  unfold extW
  rw [take_snoc h, List.map_append]
  rfl
theorem extW_len (os : List Int) (is : List WItm) (l : List (List Val)) (p : Nat) : (extW os is l p).length = is.length := by simp [extW]
theorem srt_mem {ps os : List Int} {t : Tab} {l : List (List Val)} (h : l ∈ srtV ps os t) {r : List Val} (hr : r ∈ l) : ∃ x ∈ t, 0 < x.2 ∧ x.1 = r := by
  rw [srtV_eq] at h
  obtain ⟨p, hp, rfl⟩ := List.mem_map.1 h
  have h2 := (sortW_perm os (rowsP p)).subset hr
  obtain ⟨y, hy, e⟩ := List.mem_map.1 h2
  obtain ⟨h3, h4⟩ := ((partsV_ok ps (expV t)).mem hp).1 hy
  obtain ⟨h5, x, hx, h6, h7⟩ := expV_mem.1 h3
  exact ⟨x, hx, h6, h7.trans e⟩
theorem valid_colW {os : List Int} {x : WItm} {l : List (List Val)} {p : Nat} (hf : x.f = 1 ∨ x.f = 8) : validV (colW os x l p) = true := by
  unfold colW
  rcases hf with h | h
  · rw [if_pos h]; exact valid_int _
  · rw [if_neg (by omega), if_pos h]; exact valid_int _
theorem listW_ok {ps os : List Int} {is : List WItm} {t : Tab} (hl : ∀ x ∈ t, x.1.length + is.length ≤ 12) (hv : ∀ x ∈ t, vOk x.1) (hf : ∀ x ∈ is, x.f = 1 ∨ x.f = 8) {y : List Val × Int} (hy : y ∈ listW ps os is t) : y.1.length ≤ 12 ∧ vOk y.1 ∧ y.2 = 1 := by
  obtain ⟨p, hp, j, hj, rfl⟩ := listW_mem.1 hy
  obtain ⟨x, hx, _, e, _⟩ := sorted_row (os := os) hp hj
  refine ⟨?_, fun v hv2 => ?_, rfl⟩
  · show (rowAt (sortW os (rowsP p)) j ++ _).length ≤ 12
    rw [← e, List.length_append, extW_len]
    exact hl x hx
  · rcases List.mem_append.1 (show v ∈ rowAt (sortW os (rowsP p)) j ++ _ from hv2) with h1 | h1
    · rw [← e] at h1
      exact hv x hx v h1
    · obtain ⟨i, hi, rfl⟩ := List.mem_map.1 h1
      exact valid_colW (hf i hi)
theorem listW_len (ps os : List Int) (is : List WItm) (t : Tab) : (listW ps os is t).length = (expV t).length := by
  rw [← wrt_list, wrt_len, srt_sum]
end
section
open Go.RowKit Go.BigFrame
set_option linter.unusedSimpArgs false
set_option linter.unusedVariables false

set_option maxRecDepth 100000 in
set_option maxHeartbeats 1000000 in
theorem wchkE (iA : Option Addr) (iN iC : Nat) (its : List Itm) (aA : Option Addr) (aC : Nat) (rA : Option Addr) (rN rC : Nat) (w : World) (hi : rItm w iA iN its) (hn : iN ≤ 100000) (hf : ∀ x ∈ its, x.f = 1 ∨ x.f = 8) :
    Calls Tryz.prog 263 #[.slice iA iN iC, .slice aA iN aC, .slice rA rN rC] w fun e w' => e = .returned (.int .i64 0) ∧ Below w.heap.size w w' := by
  have HI := Lib.hid hi
  have HL := Lib.hid hi.len
  have HF := Lib.hid hf
  clear hi hf
  go_enter Tryz.func263, Tryz.ntmps263
  go_wp2
  go_loopw [19] (fun i wr => ∃ k : Nat, k ≤ iN ∧ i = .int .i64 k ∧ Below w.heap.size w wr) (fun i _ => iN - (intOf i).toNat)
  case atStart => exact ⟨0, by omega, rfl, bself _⟩
  case round =>
    obtain ⟨k, hk, rfl, hbw⟩ := hrel
    by_cases hlt : k < iN
    · obtain ⟨b1, o1, rfl, hci⟩ := (HI.out.later hbw).opn (by omega)
      obtain ⟨x, hx⟩ := get_some (l := its) (k := k) (by have := HL.out; omega)
      obtain ⟨x1, x2, x3, x4, x5⟩ := hci k x hx
      have HBF := Lib.hid (hbw.alloc hbw.size (.cells #[.string x.nm, .int .i64 x.f, .string x.co, .int .i64 x.num, .slice x.exA x.exN x.exC] 40))
      have hfx := HF.out x (List.mem_of_getElem? hx)
      clear hci hx hbw
      rcases hfx with e | e
      all_goals
        rw [e] at x2 HBF
        clear e
        go_wp2
        go_roundw
        case rel => exact ⟨k + 1, by omega, by go_num, HBF.out⟩
        case measure => simp [intOf]; omega
    · obtain rfl : k = iN := by omega
      go_wp2
      go_ret
      exact ⟨ret_int rfl, hbw⟩
/-- filled up to a place -/
def FilTo (f : Nat → Val) (n k : Nat) (r : List Val) : Prop := r.length = n ∧ ∀ j, j < k → r[j]? = some (f j)
theorem FilTo.put {f : Nat → Val} {n k : Nat} {r : List Val} (h : FilTo f n k r) (hk : k < n) : FilTo f n (k + 1) (r.set k (f k)) :=
  ⟨by rw [List.length_set]; exact h.1, fun j hj => by
    rw [List.getElem?_set]
    split
    · rename_i e
      subst e
      rw [if_pos (by rw [h.1]; exact hk)]
    · exact h.2 j (by omega)⟩
theorem FilTo.end_ {f : Nat → Val} {n : Nat} {r : List Val} (h : FilTo f n n r) : r = (List.range n).map f := by
  apply List.ext_getElem?
  intro j
  rw [List.getElem?_map]
  by_cases hj : j < n
  · rw [h.2 j hj, List.getElem?_range hj]; rfl
  · rw [List.getElem?_eq_none (by rw [h.1]; omega), List.getElem?_eq_none (by simp; omega)]; rfl
theorem colW_num {os : List Int} {x : WItm} {l : List (List Val)} (p : Nat) : (x.f = 1 → colW os x l p = intV l.length) ∧ (x.f = 8 → colW os x l p = intV ((p : Int) + 1)) := by
  unfold colW
  exact ⟨fun h => if_pos h, fun h => by rw [if_neg (by omega), if_pos h]⟩
theorem wint3 (n : Int) (w : World) : Calls Tryz.prog 292 #[.int .i64 n] w fun e w' => e = .returned (.agg #[.int .i64 (intV n).k, .int .i64 (intV n).m, .string (intV n).s]) ∧ Below w.heap.size w w' := wintE n w
set_option maxRecDepth 100000 in
set_option maxHeartbeats 2000000 in
theorem columnE (nm co : ByteArray) (f num : Int) (exA : Option Addr) (exN exC : Nat) (lA : Option Addr) (lN lC : Nat) (oA : Option Addr) (oN oC : Nat) (arg : Int) (os : List Int) (l : List (List Val)) (w : World) (hl : l.length = lN) (hf : f = 1 ∨ f = 8) (hn : lN ≤ 4096) :
    Calls Tryz.prog 265 #[.agg #[.string nm, .int .i64 f, .string co, .int .i64 num, .slice exA exN exC], .slice lA lN lC, .slice oA oN oC, .int .i64 arg] w (CloR kVal lN (colL os ⟨f, num, arg⟩ l) w) := by
  obtain ⟨i0, hi0, hz0, hz1, hz2⟩ := info_parts info46
  have hmk : ∀ W : World, ∃ w', (Instr.makeSlice 63 (.int .i64 (lN : Int)) (.int .i64 (lN : Int))).run Tryz.prog W = .ok (.slice (some ⟨W.heap.size, 0, none⟩) lN lN) w' ∧
      w'.ownsRow W.heap.size 46 3 (.slice (some ⟨W.heap.size, 0, none⟩) lN lN) lN (flat encVal (List.replicate lN (⟨0, 0, ⟨#[]⟩⟩ : Val))) ∧ W.grownBy w' none := fun W => by
    have := run_make_full (P := Tryz.prog) W W.heap.size 63 46 i0 _ 3 Tryz.underlying63 hi0 hz0 hz1 .i64 .i64 lN (by rw [hz2]; omega) (by unfold maxLen; omega) (Nat.le_refl _)
    rwa [made_gen (⟨0, 0, ⟨#[]⟩⟩ : Val) _ encVal_len rfl] at this
  obtain ⟨w0, hw0⟩ : ∃ w0, w0 = (((w.alloc (.cells #[.string nm, .int .i64 f, .string co, .int .i64 num, .slice exA exN exC] 40)).alloc (.cells #[.slice lA lN lC] 261)).alloc (.cells #[.int .i64 arg] 3)).alloc (.cells #[.int .i64 lN] 3) := ⟨_, rfl⟩
  obtain ⟨w1, hm1, hm2, hm3⟩ := hmk w0
  have hs0 : w0.heap.size = w.heap.size + 4 := by rw [hw0]; simp
  rw [hs0] at hm2 hm1
  have HM := Lib.hid hm2
  have hB0 : Below w.heap.size w w0 := by rw [hw0]; exact (((ballo _ _).alloc (by simp) _).alloc (by simp; omega) _).alloc (by simp; omega) _
  have hB1 : Below w.heap.size w w1 := btr hB0 (below_of_grown hm3 (Nat.le_refl _) (fun k h => by cases h))
  have bb : Below w0.heap.size w0 w1 := below_of_grown hm3 (Nat.le_refl _) (fun k h => by cases h)
  have f1 : w1.cell? ⟨w.heap.size, 1, none⟩ = some (.int .i64 f) := cell_later bb (by rw [hw0]; exact cell_later (ballo _ _) (cell_later (ballo _ _) (cell_later (ballo _ _) (by simp))))
  have f2 : w1.cell? ⟨w.heap.size + 1, 0, none⟩ = some (.slice lA lN lC) := cell_later bb (by rw [hw0]; exact cell_later (ballo _ _) (cell_later (ballo _ _) (by simp)))
  have f3 : w1.cell? ⟨w.heap.size + 3, 0, none⟩ = some (.int .i64 lN) := cell_later bb (by rw [hw0]; exact new_cell (by simp) (by simp))
  rw [hw0] at hm1
  have HB1 := Lib.hid hB1
  have HF := Lib.hid hf
  have HLL := Lib.hid hl
  clear hmk hm2 hm3 hs0 hw0 hB0 hB1 bb hf hl
  go_enter Tryz.func265, Tryz.ntmps265
  go_wp2
  clear hm1
  go_loopw [24] (fun i wr => ∃ (k : Nat) (r : List Val), k ≤ lN ∧ i = .int .i64 k ∧ Below w.heap.size w wr ∧ wr.cell? ⟨w.heap.size, 1, none⟩ = some (.int .i64 f) ∧ wr.cell? ⟨w.heap.size + 3, 0, none⟩ = some (.int .i64 lN) ∧ Hid (wr.ownsRow (w.heap.size + 4) 46 3 (.slice (some ⟨w.heap.size + 4, 0, none⟩) lN lN) lN (flat encVal r)) ∧ Hid (FilTo (colW os ⟨f, num, arg⟩ l) lN k r)) (fun i _ => lN - (intOf i).toNat)
  case atStart => exact ⟨0, _, by omega, rfl, HB1.out, f1, f3, HM, Lib.hid ⟨by rw [List.length_replicate], fun j hj => absurd hj (by omega)⟩⟩
  case round =>
    obtain ⟨k, r, hk, rfl, hbw, g1, g3, HO, HP⟩ := hrel
    have HBW := Lib.hid hbw
    by_cases hlt : k < lN
    · obtain ⟨y, hy⟩ : ∃ y, y = colW os ⟨f, num, arg⟩ l k := ⟨_, rfl⟩
      have HFT : Hid (FilTo (colW os ⟨f, num, arg⟩ l) lN (k + 1) (r.set k y)) := Lib.hid (by rw [hy]; exact HP.out.put hlt)
      obtain ⟨q, hq⟩ := get_some (l := r) (k := k) (by have := HP.out.1; omega)
      have HQ := Lib.hid hq
      have HY : Hid ((f = 1 → y = intV lN) ∧ (f = 8 → y = intV ((k : Int) + 1))) := Lib.hid (by rw [hy, ← HLL.out]; exact colW_num (x := ⟨f, num, arg⟩) k)
      clear hy hq
      have htail : ∀ w5 : World, Below wr.heap.size wr w5 → Hid ((w5.cell? ⟨w.heap.size + 4, k * 3, none⟩ = some (held w5 ⟨w.heap.size + 4, k * 3, none⟩) ∧ w5.cell? ⟨w.heap.size + 4, k * 3 + 1, none⟩ = some (held w5 ⟨w.heap.size + 4, k * 3 + 1, none⟩) ∧ w5.cell? ⟨w.heap.size + 4, k * 3 + 2, none⟩ = some (held w5 ⟨w.heap.size + 4, k * 3 + 2, none⟩) ∧ ∀ o, w5.frozen? ⟨w.heap.size + 4, o, none⟩ = false) ∧
          ∃ W, W = ((w5.setCell ⟨w.heap.size + 4, k * 3, none⟩ (.int .i64 y.k)).setCell ⟨w.heap.size + 4, k * 3 + 1, none⟩ (.int .i64 y.m)).setCell ⟨w.heap.size + 4, k * 3 + 2, none⟩ (.string y.s) ∧ Below w.heap.size w W ∧ W.cell? ⟨w.heap.size, 1, none⟩ = some (.int .i64 f) ∧ W.cell? ⟨w.heap.size + 3, 0, none⟩ = some (.int .i64 lN) ∧ W.ownsRow (w.heap.size + 4) 46 3 (.slice (some ⟨w.heap.size + 4, 0, none⟩) lN lN) lN (flat encVal (r.set k y))) := fun w5 hb5 => Lib.hid (by
        have own : w5.ownsRow (w.heap.size + 4) 46 3 (.slice (some ⟨w.heap.size + 4, 0, none⟩) lN lN) lN (flat encVal r) := ownsRow_later HO.out hb5
        have hB := btr HBW.out hb5
        have hq := HQ.out
        refine ⟨⟨held_some (by rw [own.cellAt _ (by omega)]; exact flat_get encVal_len hq 0 (by omega)), held_some (by rw [own.cellAt _ (by omega)]; exact flat_get encVal_len hq 1 (by omega)), held_some (by rw [own.cellAt _ (by omega)]; exact flat_get encVal_len hq 2 (by omega)), fun o => own.frozenAt o⟩, _, rfl, below_sets hB (by omega), ?_, ?_, own_set3 encVal_len (x := y) rfl own hlt⟩
        · exact (cell_sets (by show w.heap.size ≠ w.heap.size + 4; omega)).trans (cell_later hb5 g1)
        · exact (cell_sets (by show w.heap.size + 3 ≠ w.heap.size + 4; omega)).trans (cell_later hb5 g3))
      have HTL := Lib.hid htail
      have m1 : IntKind.i64.wrap ((k : Int) + 1) = (k : Int) + 1 := by rw [IntKind.wrap_i64]; omega
      clear htail hbw
      rcases HF.out with e | e
      · subst e
        have hy := HY.out.1 rfl
        go_wp2_with fail
        refine (wint3 _ _).mono ?_
        rintro e w5 ⟨rfl, hb5⟩
        rw [← hy]
        clear hy
        obtain ⟨⟨z1, z2, z3, zf⟩, W, hW, t1, t2, t3, t4⟩ := (HTL.out w5 hb5).out
        have T1 := Lib.hid t1
        have T4 := Lib.hid t4
        clear hb5 t1 t4 g1 g3
        go_wp2
        rw [← hW]
        go_roundw
        case rel => exact ⟨k + 1, _, by omega, by go_num, T1.out, t2, t3, T4, HFT⟩
        case measure => simp [intOf]; omega
      · subst e
        have hy := HY.out.2 rfl
        go_wp2_with fail
        refine (wint3 _ _).mono ?_
        rintro e w5 ⟨rfl, hb5⟩
        rw [← hy]
        clear hy
        obtain ⟨⟨z1, z2, z3, zf⟩, W, hW, t1, t2, t3, t4⟩ := (HTL.out w5 hb5).out
        have T1 := Lib.hid t1
        have T4 := Lib.hid t4
        clear hb5 t1 t4 g1 g3
        go_wp2
        rw [← hW]
        go_roundw
        case rel => exact ⟨k + 1, _, by omega, by go_num, T1.out, t2, t3, T4, HFT⟩
        case measure => simp [intOf]; omega
    · obtain rfl : k = lN := by omega
      go_wp2
      go_ret
      obtain ⟨A2, c2, e2, hr2, _⟩ := fl_of_own HO.out
      have hend : r = colL os ⟨f, num, arg⟩ l := by
        have := HP.out.end_
        unfold colL
        rw [HLL.out]; exact this
      cases e2
      exact ⟨_, _, rfl, rD_Val.2 (by rw [← hend]; exact hr2), Nat.le_refl _, hbw, (fun a ha => by cases ha; exact ⟨by show w.heap.size ≤ w.heap.size + 4; omega, (HO.out.lt _ rfl).2⟩), (ownD.mono (K := kVal) (base := w.heap.size + 4) ⟨_, by rw [← hend]; exact HO.out, dAll_refl _, fun a h p hp => by cases hp⟩ (by omega))⟩
end
section
open Go.RowKit Go.BigFrame
set_option linter.unusedSimpArgs false
set_option linter.unusedVariables false

theorem one_block_Slc (w : World) (t : TypeId) (rA : Option Addr) (rN rC : Nat) : ∀ j u, (encPart (rA, rN, rC))[j]? = some u → (w.alloc (.cells #[.slice rA rN rC] t)).cell? ((⟨w.heap.size, 0, none⟩ : Addr).add j) = some u := one_block_Row w t rA rN rC
/-- rows whose cells lie from a block on -/
def kRowF (B : Nat) : Kin (Option Addr × Nat × Nat) (List Val) where
  enc := encPart
  C := 1
  e := 63
  ptrs := fun a => [(a.1, a.2.1)]
  D := fun w a r => rVal w a.1 a.2.1 r ∧ (0 < a.2.1 → ∀ ad, a.1 = some ad → B ≤ ad.block)
  len := fun _ => rfl
  pos := by omega
  one := kRow.one
  later := fun h hb => ⟨kRow.later h.1 hb, h.2⟩
  kept := fun h hg hf => ⟨kRow.kept h.1 hg hf, h.2⟩
  lt := fun h => kRow.lt h.1
theorem pRowF (B : Nat) : ∃ i, KinP Tryz.prog (kRowF B) 261 i (.slice none 0 0) 24 := by
  obtain ⟨i, h⟩ := pRow
  exact ⟨i, ⟨h.ht, h.hi, h.hz, h.hs, h.hb, h.hzs, h.small⟩⟩
theorem rowsF_other {w w' : World} {B : Nat} {A : Option Addr} {n : Nat} {l : List (List Val)} (h : rD (kRowF B) w A n l) (hA : 0 < n → ∀ a, A = some a → B ≤ a.block) (hs : ∀ b, B ≤ b → b < w.heap.size → w'.heap[b]? = w.heap[b]?) : rD kRow w' A n l := by
  obtain ⟨es, h1, h2⟩ := h
  exact ⟨es, h1.from hA hs, h2.imp fun _ _ h => Fl.from h.1 h.2 hs⟩
/-- a partition in memory is a list of rows -/
theorem QS.row {e : TypeId} {w : World} {B0 B n c k : Nat} {A : Option Addr} {qs : List Slc} {ps : List (List (List Val))} {a : Slc} {l : List (List Val)} (h : QS e w B0 B (.slice A n c) qs ps) (ha : qs[k]? = some a) (hl : ps[k]? = some l) : rD kRow w a.1 a.2.1 l ∧ l.length = a.2.1 := by
  obtain ⟨l', hl', es, h1, h2⟩ := h.rel.get ha
  rw [hl] at hl'
  cases hl'
  obtain ⟨A', c', e', hr, _⟩ := fl_of_own h1
  have e1 : a.1 = A' := by
    obtain ⟨x, y, z⟩ := a
    injection e'
  rw [← e1] at hr
  have hrd : rD kRow w a.1 a.2.1 l := ⟨es, hr, h2.imp fun _ _ h => h.1⟩
  exact ⟨hrd, hrd.len⟩
theorem QS.cell {e : TypeId} {w : World} {B0 B n c k : Nat} {A : Option Addr} {qs : List Slc} {ps : List (List (List Val))} {a : Slc} (h : QS e w B0 B (.slice A n c) qs ps) (ha : qs[k]? = some a) : ∃ g, A = some ⟨g, 0, none⟩ ∧ n = qs.length ∧ w.cell? ⟨g, k, none⟩ = some (.slice a.1 a.2.1 a.2.2) := by
  have hk := (List.getElem?_eq_some_iff.1 ha).1
  obtain ⟨g, cc, hform, _, _⟩ := World.ownsRow.form h.own (by omega)
  injection hform with h1 h2 h3
  subst h2
  refine ⟨g, h1, rfl, ?_⟩
  have ho := h.own
  rw [h1] at ho
  have hc := ho.cellAt k (by omega)
  have hf := flat_get encPart_len ha 0 (by omega)
  rw [show k * 1 + 0 = k by omega] at hf
  exact hc.trans hf
/-- an item of a window, with its argument -/
def witsV (its : List Itm) (args : List Int) : List WItm := (its.zip args).map fun x => ⟨x.1.f, x.1.num, x.2⟩
structure okWin (ps os : List Int) (its : List Itm) (args : List Int) (t : Tab) : Prop where
  alen : args.length = its.length
  n12 : ∀ x ∈ t, x.1.length + its.length ≤ 12
  i12 : its.length ≤ 12
  p12 : ps.length ≤ 12
  o12 : os.length ≤ 12
  tab : okTab t
  sum : sumC t ≤ 4096
  fn : ∀ x ∈ its, x.f = 1 ∨ x.f = 8
theorem wits_get {its : List Itm} {args : List Int} {j : Nat} {x : Itm} {g : Int} (h1 : its[j]? = some x) (h2 : args[j]? = some g) : (witsV its args)[j]? = some ⟨x.f, x.num, g⟩ := by
  unfold witsV
  rw [List.getElem?_map, show (its.zip args)[j]? = some (x, g) from List.getElem?_zip_eq_some.2 ⟨h1, h2⟩]
  rfl
theorem wits_len {its : List Itm} {args : List Int} (h : args.length = its.length) : (witsV its args).length = its.length := by
  unfold witsV
  rw [List.length_map, List.length_zip, h, Nat.min_self]
set_option maxRecDepth 100000 in
set_option maxHeartbeats 20000000 in
theorem applyE (iA pA oA aA A : Option Addr) (iN iC pN pC oN oC aN aC n c : Nat) (its : List Itm) (ps os args : List Int) (t : Tab) (w : World)
    (hi : rItm w iA iN its) (hp : rInt w pA pN ps) (ho : rInt w oA oN os) (ha : rInt w aA aN args) (ht : rTab w A n t) (hok : okWin ps os its args t) :
    Calls Tryz.prog 217 #[.slice iA iN iC, .slice pA pN pC, .slice oA oN oC, .slice aA aN aC, .slice A n c] w (Tab2R (winV ps os (witsV its args) t) w) := by
  have HI := Lib.hid hi
  have HO := Lib.hid ho
  have HA := Lib.hid ha
  have HK := Lib.hid hok
  have LI := Lib.hid hi.len
  have hop12 : oN ≤ 12 := by have := ho.len; have := hok.o12; omega
  have hpp12 : pN ≤ 12 := by have := hp.len; have := hok.p12; omega
  have hi12 : iN ≤ 12 := by have := hi.len; have := hok.i12; omega
  obtain rfl : aN = iN := by have := hi.len; have := ha.len; have := hok.alen; omega
  have HX := Lib.hid (expandE A n c t w ht hok.tab hok.sum)
  have HP := Lib.hid hp
  have H12 : Hid (∀ r ∈ rowsX t, r.length ≤ 12 ∧ vOk r) := Lib.hid fun r hr => by
    obtain ⟨y, hy, rfl⟩ := List.mem_map.1 hr
    obtain ⟨_, x, hx, _, e⟩ := expV_mem.1 hy
    rw [← e]
    exact ⟨(hok.tab.1.2.2 x hx).1, (hok.tab.1.2.2 x hx).2.2.2⟩
  have HLN : Hid (((rowsX t).length : Int) ≤ 4096) := Lib.hid (by rw [rowsX_len hok.tab.2]; exact hok.sum)
  clear hi hp ho ha ht hok
  go_enter Tryz.func217, Tryz.ntmps217
  go_wp2_with fail
  refine HX.out.mono ?_
  rintro e w1 ⟨A1, m1, c1, rfl, hrd1, hcc1, hb1⟩
  have HR1 := Lib.hid hrd1
  have HB1 := Lib.hid hb1
  have hm1 : m1 ≤ 4096 := by have := hrd1.len; have := HLN.out; omega
  have HCK := Lib.hid (wchkE iA aN iC its aA aC A1 m1 c1 w1 (HI.out.later hb1) (by omega) HK.out.fn)
  clear hrd1 hb1
  go_wp2_with fail
  refine HCK.out.mono ?_
  rintro e w2 ⟨rfl, hb2⟩
  have HB2 := Lib.hid (btr HB1.out hb2)
  have HPT := Lib.hid (partitionsE A1 m1 c1 (rowsX t) pA pN pC ps oA oN oC os w2 (HR1.out.later hb2) (HP.out.later HB2.out) (HO.out.later HB2.out) hm1 hpp12 hop12 (fun r hr => (H12.out r hr).1) (fun r hr => (H12.out r hr).2))
  clear hb2
  go_wp2_with fail
  refine HPT.out.mono ?_
  rintro e w3 ⟨A3, n3, c3, qs, rfl, hqs, hb3⟩
  have hqs2 : QS 261 w3 w2.heap.size (w2.heap.size + 2) (.slice A3 n3 c3) qs (srtV ps os t) := hqs
  have HQ := Lib.hid hqs2
  have HB3 := Lib.hid (btr HB2.out hb3)
  have HQL : Hid (qs.length = (srtV ps os t).length) := Lib.hid hqs2.len.symm
  obtain rfl : n3 = qs.length := by
    have h := hqs2.own
    rcases Nat.eq_zero_or_pos qs.length with h0 | h0
    · obtain ⟨A', c', e, _⟩ := fl_of_own h
      injection e with _ e _
    · obtain ⟨g, cc, e, _⟩ := World.ownsRow.form h h0
      injection e with _ e _
  have HTOT : Hid ((expV t).length ≤ 4096) := Lib.hid (by have := HLN.out; unfold rowsX at this; rw [List.length_map] at this; omega)
  have hql : qs.length ≤ 4096 := by
    have h1 := HQL.out
    have h2 := srtV_eq ps os t
    have h3 := partsV_len ps (expV t)
    rw [h1, h2, List.length_map]
    have := HTOT.out
    omega
  obtain ⟨iE, PE⟩ := pEntF w3.heap.size
  obtain ⟨iV, PV⟩ := pVal
  have HWL : Hid ((witsV its args).length = aN) := Lib.hid (by rw [wits_len HK.out.alen]; exact LI.out)
  clear hqs hqs2 hb3 HX HCK HPT HP HR1
  go_wp2
  go_loopw [15, 45] (fun v iv wr => ∃ k : Nat, k ≤ qs.length ∧ iv = .int .i64 k ∧ Below w3.heap.size w3 wr ∧ Hid (ownD (kEntF w3.heap.size) wr w3.heap.size v (wrtV os (witsV its args) ((srtV ps os t).take k)).length (wrtV os (witsV its args) ((srtV ps os t).take k)))) (fun _ iv _ => qs.length - (intOf iv).toNat)
  case atStart => exact ⟨0, by omega, rfl, bself _, Lib.hid (ownD.nil _ _)⟩
  case round =>
    obtain ⟨k, hk, rfl, hbw, HOU⟩ := hrel
    obtain ⟨wo, rfl⟩ : ∃ wo, wo = wr := ⟨_, rfl⟩
    have HBW := Lib.hid hbw
    by_cases hlt : k < qs.length
    · obtain ⟨⟨sA, sN, sC⟩, hq⟩ := get_some (l := qs) (k := k) hlt
      obtain ⟨l, hl⟩ := get_some (l := srtV ps os t) (k := k) (by have := HQL.out; omega)
      have HQW := HQ.out.later hbw
      obtain ⟨g, rfl, _, p2⟩ := HQW.cell hq
      have HL := Lib.hid hl
      obtain ⟨hrow, hlen⟩ := HQW.row hq hl
      have HROW : Hid (rD kRow w3 sA sN l) := Lib.hid (HQ.out.row hq hl).1
      have hlen : l.length = sN := hlen
      have HSN := Lib.hid (srt_le hl (witsV its args))
      have hsn : sN ≤ 4096 := by have := HSN.out; have := HTOT.out; omega
      have HLEN := Lib.hid hlen
      have HV0 : Hid (∀ j, u15.ownBlock = some j → w3.heap.size ≤ j ∧ j < wo.heap.size) := Lib.hid HOU.out.lt
      obtain ⟨iR, PR⟩ := pRowF wo.heap.size
      clear hq hl HQW hrow hbw
      go_wp2
      go_loopw [18, 51] (fun v jv wx => ∃ j : Nat, j ≤ aN ∧ jv = .int .i64 j ∧ Below wo.heap.size wo wx ∧ Hid (ownD (kRowF wo.heap.size) wx wo.heap.size v j (((witsV its args).take j).map fun x => colL os x l))) (fun _ jv _ => aN - (intOf jv).toNat)
      case atStart => exact ⟨0, by omega, rfl, bself _, Lib.hid (ownD.nil _ _)⟩
      case round =>
        obtain ⟨j, hj, rfl, hbx, HOX⟩ := hrel
        have HBX := Lib.hid hbx
        by_cases hjl : j < aN
        · obtain ⟨b1, o1, rfl, hci⟩ := HI.out.opn (by omega)
          obtain ⟨x, hx⟩ := get_some (l := its) (k := j) (by have := LI.out; omega)
          obtain ⟨x1, x2, x3, x4, x5⟩ := hci j x hx
          obtain ⟨b2, o2, rfl, hca⟩ := HA.out.opn (by omega)
          obtain ⟨ga, hga⟩ := get_some (l := args) (k := j) (by have := LI.out; have := HK.out.alen; omega)
          have a1 : w.cell? ⟨b2, o2 + j, none⟩ = some (.int .i64 ga) := hca j ga hga
          have bX : Below w.heap.size w wr := btr HB3.out (btr HBW.out hbx)
          have z1 := cell_later bX x1
          have z2 := cell_later bX x2
          have z3 := cell_later bX x3
          have z4 := cell_later bX x4
          have z5 := cell_later bX x5
          have za := cell_later bX a1
          have hfx := HK.out.fn x (List.mem_of_getElem? hx)
          have HGET := Lib.hid (wits_get hx hga)
          have HV1 : Hid (∀ y, u18.ownBlock = some y → wo.heap.size ≤ y ∧ y < wr.heap.size) := Lib.hid HOX.out.lt
          have hszb := hbx.size
          have HA2 : Hid (b2 < wo.heap.size) := Lib.hid (Nat.lt_of_lt_of_le (World.block_lt_of_cell? _ _ a1) (btr HB3.out HBW.out).size)
          clear hci hca hx hga x1 x2 x3 x4 x5 a1 bX hbx
          go_wp2
          have HAB : Hid (Below wo.heap.size wo (wr.alloc (.cells #[.string x.nm, .int .i64 x.f, .string x.co, .int .i64 x.num, .slice x.exA x.exN x.exC] 40))) := Lib.hid (HBX.out.alloc HBX.out.size _)
          have k0 : (wr.alloc (.cells #[.string x.nm, .int .i64 x.f, .string x.co, .int .i64 x.num, .slice x.exA x.exN x.exC] 40)).drew.cell? ⟨wr.heap.size, 0, none⟩ = some (.string x.nm) := by show (wr.alloc _).cell? _ = _; simp
          have k1 : (wr.alloc (.cells #[.string x.nm, .int .i64 x.f, .string x.co, .int .i64 x.num, .slice x.exA x.exN x.exC] 40)).drew.cell? ⟨wr.heap.size, 1, none⟩ = some (.int .i64 x.f) := by show (wr.alloc _).cell? _ = _; simp
          have k2 : (wr.alloc (.cells #[.string x.nm, .int .i64 x.f, .string x.co, .int .i64 x.num, .slice x.exA x.exN x.exC] 40)).drew.cell? ⟨wr.heap.size, 2, none⟩ = some (.string x.co) := by show (wr.alloc _).cell? _ = _; simp
          have k3 : (wr.alloc (.cells #[.string x.nm, .int .i64 x.f, .string x.co, .int .i64 x.num, .slice x.exA x.exN x.exC] 40)).drew.cell? ⟨wr.heap.size, 3, none⟩ = some (.int .i64 x.num) := by show (wr.alloc _).cell? _ = _; simp
          have k4 : (wr.alloc (.cells #[.string x.nm, .int .i64 x.f, .string x.co, .int .i64 x.num, .slice x.exA x.exN x.exC] 40)).drew.cell? ⟨wr.heap.size, 4, none⟩ = some (.slice x.exA x.exN x.exC) := by show (wr.alloc _).cell? _ = _; simp
          have ka : (wr.alloc (.cells #[.string x.nm, .int .i64 x.f, .string x.co, .int .i64 x.num, .slice x.exA x.exN x.exC] 40)).drew.cell? ⟨b2, o2 + j, none⟩ = some (.int .i64 ga) := by show (wr.alloc _).cell? _ = _; exact cell_later (ballo _ _) za
          have hne : some wr.heap.size ≠ u18.ownBlock := fun e => by have := (HV1.out _ e.symm).2; omega
          have hnb : some b2 ≠ u18.ownBlock := fun e => by have h1 := (HV1.out _ e.symm).1; have h2 := HA2.out; omega
          have hj1 : j < 1000000 := by omega
          clear z1 z2 z3 z4 z5 za
          go_region_held3 (fun w' => Below wo.heap.size wo w' ∧ w'.cell? ⟨wr.heap.size, 0, none⟩ = some (.string x.nm) ∧ w'.cell? ⟨wr.heap.size, 1, none⟩ = some (.int .i64 x.f) ∧ w'.cell? ⟨wr.heap.size, 2, none⟩ = some (.string x.co) ∧ w'.cell? ⟨wr.heap.size, 3, none⟩ = some (.int .i64 x.num) ∧ w'.cell? ⟨wr.heap.size, 4, none⟩ = some (.slice x.exA x.exN x.exC) ∧ w'.cell? ⟨b2, o2 + j, none⟩ = some (.int .i64 ga))
            ((go_split_ands; refine ⟨?_, ?_, ?_, ?_, ?_, ?_, ?_⟩ <;> (with_reducible first | exact HAB.out.drew | exact k0 | exact k1 | exact k2 | exact k3 | exact k4 | exact ka | (refine Below.alloc ?_ (Below.size (by assumption)) _; assumption) | exact cell_later (ballo _ _) (by assumption) | (exact below_push2 (by assumption) (by assumption) (fun k e => (HV1.out k e).1)) | exact World.grownBy.cell (by assumption) (by assumption) hne | exact World.grownBy.cell (by assumption) (by assumption) hnb | (refine btr ?_ (by assumption); assumption) | exact cell_later (by assumption) (by assumption))))
            (first
              | (go_at_call 265; go_split_ands; (with_reducible refine (columnE x.nm x.co x.f x.num x.exA x.exN x.exC sA sN sC oA oN oC ga os l _ hlen hfx hsn).mono ?_); rintro e w' ⟨A5, c5, rfl, hrd5, hcc5, hb5, hfr5, hown5⟩; have HB5 := Lib.hid (btr (ballo wr _) (below_undrew hb5)); have HSZ5 := Lib.hid (Nat.le_trans HBX.out.size HB5.out.size); have HF1 := Lib.hid (far_fresh (n := sN) (w1 := wr) (fun k e => (HV1.out k e).2) (fun a e => Nat.le_trans (ballo wr _).size (hfr5 a e).1)); have HF2 : Hid (∀ a, A5 = some a → wo.heap.size ≤ a.block) := Lib.hid (fun a e => Nat.le_trans HAB.out.size (hfr5 a e).1); have HF3 : Hid (ownD (kRowF wo.heap.size) (w'.alloc (.cells #[.slice A5 sN c5] 63)) wo.heap.size u18 j (((witsV its args).take j).map fun x => colL os x l)) := Lib.hid (HOX.out.later (HB5.out.alloc HB5.out.size _)); have HF4 := Lib.hid (rD_Val.1 (hrd5.later (ballo _ (.cells #[.slice A5 sN c5] 63)))))
              | ((refine step_push _ (by rfl) _ _ (by rfl) PR HF3.out ⟨_, 0, none⟩ (A5, sN, c5) (colL os ⟨x.f, x.num, ga⟩ l) (by rfl) (by rfl) (one_block_Slc _ _ _ _ _) ⟨HF4.out, fun _ a e => HF2.out a e⟩ HF1.out hj1 (Nat.le_trans HSZ5.out (ballo _ _).size) ?_; intro v' w' hown' hgrow hat)))
          go_split_ands
          have HBF : Hid (Below wo.heap.size wo w') := Lib.hid (by assumption)
          have HOF : Hid (ownD (kRowF wo.heap.size) w' wo.heap.size v' (j + 1) (((witsV its args).take (j + 1)).map fun x => colL os x l)) := Lib.hid (by rw [take_snoc HGET.out, List.map_append]; exact hown')
          clear hown' hgrow hat hown5 hrd5 hfr5 hb5
          go_wp2
          go_roundw
          case rel => exact ⟨j + 1, by omega, by go_num, HBF.out, HOF⟩
          case measure => simp [intOf]; omega
        · obtain rfl : j = aN := by omega
          obtain ⟨A5, c5, rfl, hcc5, hrd5, hfr5⟩ := HOX.out.rd
          have HTJ : (witsV its args).take j = witsV its args := List.take_of_length_le (by have := HWL.out; omega)
          rw [HTJ] at hrd5
          have HCO := Lib.hid hrd5
          have HCF : Hid (0 < j → ∀ a, A5 = some a → wo.heap.size ≤ a.block) := Lib.hid fun _ a e => (hfr5 a e).1
          obtain ⟨wq, rfl⟩ : ∃ wq, wq = wr := ⟨_, rfl⟩
          have HBQ := Lib.hid (btr HBW.out hbx)
          have hszq := hbx.size
          have HOQ := Lib.hid (HOU.out.later hbx)
          clear hrd5 hfr5 hbx HTJ HOX
          go_wp2
          go_loopw [15, 70] (fun v pv wx => ∃ p : Nat, p ≤ sN ∧ pv = .int .i64 p ∧ Below w3.heap.size w3 wx ∧ wq.heap.size ≤ wx.heap.size ∧ Hid (∀ b, wo.heap.size ≤ b → b < wq.heap.size → wx.heap[b]? = wq.heap[b]?) ∧ Hid (∀ y, v.ownBlock = some y → y < wo.heap.size ∨ wq.heap.size ≤ y) ∧ Hid (ownD (kEntF w3.heap.size) wx w3.heap.size v ((wrtV os (witsV its args) ((srtV ps os t).take k)).length + p) (wrtV os (witsV its args) ((srtV ps os t).take k) ++ (numW os (witsV its args) l).take p))) (fun _ pv _ => sN - (intOf pv).toNat)
          case atStart => exact ⟨0, by omega, rfl, HBQ.out, Nat.le_refl _, Lib.hid fun _ _ _ => rfl, Lib.hid fun y hy => .inl (HV0.out y hy).2, Lib.hid (by simpa using HOQ.out)⟩
          case round =>
            obtain ⟨p, hp, rfl, hbx, hsx, HSM, HNB, HOP⟩ := hrel
            obtain ⟨wx, rfl⟩ : ∃ wx, wx = wr := ⟨_, rfl⟩
            have HBX := Lib.hid hbx
            by_cases hpl : p < sN
            · obtain ⟨b4, o4, rfl, hcr⟩ := HROW.out.opn (by omega)
              obtain ⟨r, hr⟩ := get_some (l := l) (k := p) (by omega)
              obtain ⟨⟨rA, rN, rC⟩, y3, hcell⟩ := hcr p r hr
              have y1 := hcell 0 (.slice rA rN rC) (by show 0 < 1; omega) rfl
              have y1 : w3.cell? ⟨b4, o4 + p, none⟩ = some (.slice rA rN rC) := by rw [show o4 + p = o4 + p * kRow.C + 0 by show o4 + p = o4 + p * 1 + 0; omega]; exact y1
              have Y3 : Hid (rVal w3 rA rN r) := Lib.hid y3
              have z1 := cell_later hbx y1
              have HR := Lib.hid hr
              have hrm : rN + j ≤ 12 := by
                have h1 := Y3.out.len
                obtain ⟨z, hz, _, e⟩ := srt_mem (List.mem_of_getElem? HL.out) (List.mem_of_getElem? hr)
                have h2 := HK.out.n12 z hz
                have h3 := LI.out
                rw [e] at h2
                omega
              have HCL := Lib.hid (cloVE rA rN rC r wx (rD_Val.2 (Y3.out.later hbx)) (by omega))
              have HCW : Hid (rD kRow wx A5 j ((witsV its args).map fun x => colL os x l)) := Lib.hid (rowsF_other HCO.out HCF.out HSM.out)
              have HV2 : Hid (∀ y, u15.ownBlock = some y → w3.heap.size ≤ y ∧ y < wx.heap.size) := Lib.hid HOP.out.lt
              clear hcr hr hcell y1 y3 hbx
              go_wp2_with fail
              refine HCL.out.mono ?_
              rintro e w6 ⟨A6, c6, rfl, hrd6, hcc6, hb6, hfr6, hown6⟩
              have HB6 := Lib.hid hb6
              have HOW := Lib.hid hown6
              clear hrd6 hb6 hfr6 hown6
              go_wp2
              go_loopw [22, 79] (fun v qv wy => ∃ q : Nat, q ≤ j ∧ qv = .int .i64 q ∧ Below wx.heap.size wx wy ∧ Hid (ownD kVal wy wx.heap.size v (rN + q) (r ++ extW os ((witsV its args).take q) l p))) (fun _ qv _ => j - (intOf qv).toNat)
              case atStart => exact ⟨0, by omega, rfl, HB6.out, Lib.hid (by have := HOW.out; simpa [extW] using this)⟩
              case round =>
                obtain ⟨q, hq, rfl, hby, HOY⟩ := hrel
                have HBY := Lib.hid hby
                by_cases hql2 : q < j
                · obtain ⟨b7, o7, rfl, hcc⟩ := HCW.out.opn (by omega)
                  obtain ⟨it, hit⟩ := get_some (l := witsV its args) (k := q) (by have := HWL.out; omega)
                  obtain ⟨⟨vA, vN, vC⟩, y3, hcell⟩ := hcc q (colL os it l) (by rw [List.getElem?_map, hit]; rfl)
                  have y1 := hcell 0 (.slice vA vN vC) (by show 0 < 1; omega) rfl
                  have y1 : wx.cell? ⟨b7, o7 + q, none⟩ = some (.slice vA vN vC) := by rw [show o7 + q = o7 + q * kRow.C + 0 by show o7 + q = o7 + q * 1 + 0; omega]; exact y1
                  have y3 : rVal wx vA vN (colL os it l) := y3
                  have hvn : vN = sN := by have h1 := y3.len; rw [colL_len] at h1; omega
                  subst hvn
                  obtain ⟨b8, o8, rfl, hc8⟩ := y3.opn (by omega)
                  obtain ⟨v1, v2, v3⟩ := hc8 p (colW os it l p) (colL_get (by omega))
                  have q1 := cell_later hby y1
                  have u1 := cell_later hby v1
                  have u2 := cell_later hby v2
                  have u3 := cell_later hby v3
                  obtain ⟨⟨av, am, as'⟩, hav⟩ : ∃ a : Val, a = colW os it l p := ⟨_, rfl⟩
                  rw [← hav] at u1 u2 u3
                  have HEX : Hid (extW os ((witsV its args).take (q + 1)) l p = extW os ((witsV its args).take q) l p ++ [⟨av, am, as'⟩]) := Lib.hid (by rw [extW_snoc hit, ← hav])
                  have HVX := Lib.hid HOY.out.lt
                  have hp1 : (p : Int) < (vN : Int) := by omega
                  have HOA : Hid (ownD kVal (wr.alloc (.cells #[.int .i64 av, .int .i64 am, .string as'] 46)) wx.heap.size u22 (rN + q) (r ++ extW os ((witsV its args).take q) l p)) := Lib.hid (HOY.out.later (ballo _ _))
                  have HN1 : rN + q < 1000000 := by omega
                  have HSZ1 : wx.heap.size ≤ (wr.alloc (.cells #[.int .i64 av, .int .i64 am, .string as'] 46)).heap.size := by have := hby.size; simp; omega
                  have HFF : Hid (farFrom (kVal.ptrs ⟨av, am, as'⟩) u22.ownBlock) := Lib.hid (fun p hp => by change p ∈ [] at hp; cases hp)
                  clear hcc hit hcell y1 y3 hc8 v1 v2 v3 hav hby
                  go_wp2_with (at_builtin; refine wpList_push _ rfl _ _ rfl PV HOA.out ⟨_, 0, none⟩ ⟨av, am, as'⟩ ⟨av, am, as'⟩ rfl rfl (one_block_Val _ _ _ _ _) rfl HFF.out HN1 HSZ1 ?_; intro v' w' hown' hgrow hat)
                  have HBF := Lib.hid (below_push2 (HBY.out.alloc HBY.out.size _) hgrow (fun y e => (HVX.out y e).1))
                  have HOF : Hid (ownD kVal w' wx.heap.size v' (rN + (q + 1)) (r ++ extW os ((witsV its args).take (q + 1)) l p)) := Lib.hid (by rw [HEX.out, ← List.append_assoc]; exact hown')
                  clear hown' hgrow hat
                  go_wp2
                  go_roundw
                  case rel => exact ⟨q + 1, by omega, by go_num, HBF.out, HOF⟩
                  case measure => simp [intOf]; omega
                · obtain rfl : q = j := by omega
                  obtain ⟨A7, c7, rfl, hcc7, hrd7, hfr7⟩ := HOY.out.rd
                  have HIT : (witsV its args).take q = witsV its args := List.take_of_length_le (by have := HWL.out; omega)
                  rw [HIT] at hrd7
                  have HR7 := Lib.hid (rD_Val.1 hrd7)
                  have HFR7 := Lib.hid hfr7
                  have HBY3 := Lib.hid (btr HBX.out hby)
                  have HOA : Hid (ownD (kEntF w3.heap.size) (wr.alloc (.cells #[.slice A7 (rN + q) c7, .int .i64 1] 65)) w3.heap.size u15 ((wrtV os (witsV its args) ((srtV ps os t).take k)).length + p) (wrtV os (witsV its args) ((srtV ps os t).take k) ++ (numW os (witsV its args) l).take p)) := Lib.hid ((HOP.out.later hby).later (ballo _ _))
                  have HRA : Hid (dEnt (wr.alloc (.cells #[.slice A7 (rN + q) c7, .int .i64 1] 65)) ⟨A7, rN + q, c7, 1⟩ (r ++ extW os (witsV its args) l p, 1) ∧ (0 < rN + q → ∀ a, A7 = some a → w3.heap.size ≤ a.block)) := Lib.hid ⟨⟨HR7.out.later (ballo _ _), rfl⟩, fun _ a e => by have := (HFR7.out a e).1; have := HBX.out.size; omega⟩
                  have HFF := Lib.hid (far_fresh (n := rN + q) (w1 := wx) (fun k e => (HV2.out k e).2) (fun a e => (HFR7.out a e).1))
                  have HSZ : w3.heap.size ≤ (wr.alloc (.cells #[.slice A7 (rN + q) c7, .int .i64 1] 65)).heap.size := Nat.le_trans HBY3.out.size (ballo _ _).size
                  have HBYX := Lib.hid hby
                  have hnl : (wrtV os (witsV its args) ((srtV ps os t).take k)).length + p < 1000000 := by have := HSN.out; have := HTOT.out; omega
                  clear hrd7 hfr7 hby HIT HOY
                  go_wp2_with (at_builtin; refine wpList_push _ rfl _ _ rfl PE HOA.out ⟨_, 0, none⟩ ⟨A7, rN + q, c7, 1⟩ (r ++ extW os (witsV its args) l p, 1) rfl rfl (one_block_Ent _ _ _ _ _ _) HRA.out HFF.out hnl HSZ ?_; intro v' w' hown' hgrow hat)
                  have HBF := Lib.hid (below_push2 (HBY3.out.alloc HBY3.out.size _) hgrow (fun y e => (HV2.out y e).1))
                  have HOF : Hid (ownD (kEntF w3.heap.size) w' w3.heap.size v' ((wrtV os (witsV its args) ((srtV ps os t).take k)).length + (p + 1)) (wrtV os (witsV its args) ((srtV ps os t).take k) ++ (numW os (witsV its args) l).take (p + 1))) := Lib.hid (by rw [numW_snoc HR.out, ← List.append_assoc]; exact hown')
                  have HSMF : Hid (∀ b, wo.heap.size ≤ b → b < wq.heap.size → w'.heap[b]? = wq.heap[b]?) := Lib.hid fun b h1 h2 => by
                    rw [hgrow.block b (by have := HBYX.out.size; simp; omega) (fun e => by rcases HNB.out b e.symm with h | h <;> omega), (ballo wr (.cells #[.slice A7 (rN + q) c7, .int .i64 1] 65)).block b (by have := HBYX.out.size; omega), HBYX.out.block b (by omega)]
                    exact HSM.out b h1 h2
                  have HNBF : Hid (∀ y, v'.ownBlock = some y → y < wo.heap.size ∨ wq.heap.size ≤ y) := Lib.hid fun y hy => by
                    rcases hat with h | h
                    · rw [h] at hy; exact HNB.out y hy
                    · rw [h] at hy
                      injection hy with hy
                      have := HBYX.out.size
                      simp at hy
                      right; omega
                  have hszf : wq.heap.size ≤ w'.heap.size := by have h1 := hgrow.size; have h2 := HBYX.out.size; simp at h1; omega
                  clear hown' hgrow hat
                  go_wp2
                  go_roundw
                  case rel => exact ⟨p + 1, by omega, by go_num, HBF.out, hszf, HSMF, HNBF, HOF⟩
                  case measure => simp [intOf]; omega
            · obtain rfl : p = sN := by omega
              have eall : (numW os (witsV its args) l).take p = numW os (witsV its args) l := List.take_of_length_le (by rw [numW_len]; omega)
              have HOF : Hid (ownD (kEntF w3.heap.size) wx w3.heap.size u15 (wrtV os (witsV its args) ((srtV ps os t).take (k + 1))).length (wrtV os (witsV its args) ((srtV ps os t).take (k + 1)))) := Lib.hid (own_at2 HOP.out (by rw [wrt_snoc HL.out, eall]))
              clear eall
              go_wp2
              go_roundw
              case rel => exact ⟨k + 1, by omega, by go_num, hbx, HOF⟩
              case measure => simp [intOf]; omega
    · obtain rfl : k = qs.length := by omega
      have HTT : wrtV os (witsV its args) ((srtV ps os t).take qs.length) = listW ps os (witsV its args) t := by rw [List.take_of_length_le (by have := HQL.out; omega), wrt_list]
      obtain ⟨A8, c8, rfl, hcc8, hrd8, hfr8⟩ := HOU.out.rd
      have hrd9 : rD (kEntF w3.heap.size) wo A8 (wrtV os (witsV its args) ((srtV ps os t).take qs.length)).length (listW ps os (witsV its args) t) := by
        have h := hrd8
        rw [HTT] at h ⊢
        exact h
      have HRG : Hid (∀ y ∈ listW ps os (witsV its args) t, y.1.length ≤ 12 ∧ vOk y.1 ∧ y.2 = 1) := Lib.hid fun y hy => listW_ok (fun x hx => by rw [wits_len HK.out.alen]; exact HK.out.n12 x hx) (fun x hx => (HK.out.tab.1.2.2 x hx).2.2.2) (fun x hx => by
        obtain ⟨z, hz, rfl⟩ := List.mem_map.1 hx
        exact HK.out.fn z.1 (List.of_mem_zip hz).1) hy
      have HLW : Hid ((listW ps os (witsV its args) t).length ≤ 4096) := Lib.hid (by rw [listW_len]; exact HTOT.out)
      have H := Lib.hid (bnormE A8 (wrtV os (witsV its args) ((srtV ps os t).take qs.length)).length c8 (listW ps os (witsV its args) t) wo (rTabF.tab ⟨hrd9, fun _ a e => (hfr8 a e).1⟩) (by rw [HTT]; exact HLW.out) (fun y hy => by rw [(HRG.out y hy).2.2]; omega) (by rw [sumC_ones fun y hy => (HRG.out y hy).2.2]; have := HLW.out; omega) (fun y hy => (HRG.out y hy).1) (fun y hy => (HRG.out y hy).2.1))
      clear hrd8 hrd9 hfr8 HTT
      go_wp2_with fail
      refine H.out.mono ?_
      rintro e w5 ⟨A9, n9, c9, rfl, hr9, hc9, hb9⟩
      have HR9 := Lib.hid hr9
      have HB9 := Lib.hid (btr HB3.out (btr hbw hb9))
      have HSZ := Lib.hid (Nat.le_trans HB3.out.size hbw.size)
      clear hr9 hb9
      go_wp2
      go_ret2
      exact ⟨_, _, _, rfl, HR9.out.mono HSZ.out, hc9, HB9.out⟩
end
section
open Go.RowKit
set_option linter.unusedSimpArgs false
set_option linter.unusedVariables false

theorem cmpR_app : ∀ {a b : List Val} (_ : a.length = b.length) (_ : a ≠ b) (x y : List Val), cmpR (a ++ x) (b ++ y) = cmpR a b
  | [], [], _, h, _, _ => absurd rfl h
  | [], _ :: _, h, _, _, _ => by simp at h
  | _ :: _, [], h, _, _, _ => by simp at h
  | u :: a, v :: b, hl, hne, x, y => by
    simp only [List.cons_append]
    unfold cmpR
    by_cases e : cmpV u v = 0
    · rw [if_pos e, if_pos e]
      refine cmpR_app (by simpa using hl) (fun h => hne ?_) x y
      rw [h, (cmpV_zero _ _).1 e]
    · rw [if_neg e, if_neg e]
theorem asc_pw : ∀ {l : Tab}, Asc l ↔ l.Pairwise fun x y => cmpR x.1 y.1 < 0
  | [] => by simp [Asc]
  | x :: l => by rw [Asc, List.pairwise_cons, asc_pw]
theorem Bag.pw {l : Tab} (h : Bag l) : l.Pairwise fun x y => x.1 ≠ y.1 := (asc_pw.1 h.1).imp fun {x y} hxy e => by rw [e, cmpR_self] at hxy; omega
theorem cel_in {r : List Val} {i : Nat} (h : i < r.length) : cel r i = r[i] := by
  unfold cel
  rw [if_pos ⟨by omega, by omega⟩]
  simp [h]
theorem cel_left {r x : List Val} {i : Int} (h : 0 ≤ i ∧ i < r.length) : cel (r ++ x) i = cel r i := by
  obtain ⟨k, rfl⟩ : ∃ k : Nat, i = k := ⟨i.toNat, by omega⟩
  rw [cel_in (r := r) (by omega), cel_in (r := r ++ x) (by rw [List.length_append]; omega), List.getElem_append_left]
theorem cel_right {r x : List Val} {k : Nat} (h : k < x.length) : cel (r ++ x) ((r.length + k : Nat) : Int) = x[k] := by
  rw [cel_in (r := r ++ x) (by rw [List.length_append]; omega), List.getElem_append_right (by omega)]
  congr 1
  omega
theorem pkV_left {r x : List Val} {is : List Int} (h : ∀ i ∈ is, 0 ≤ i ∧ i < r.length) : pkV is (r ++ x) = pkV is r := List.map_congr_left fun i hi => cel_left (h i hi)
/-- the items of the window: the row's number, the rows -/
def isR : List WItm := [⟨8, 0, -1⟩, ⟨1, 0, -1⟩]
theorem extR (os : List Int) (l : List (List Val)) (p : Nat) : extW os isR l p = [intV ((p : Int) + 1), intV l.length] := rfl
section
variable {m : Nat} {is os : List Int} {t : Tab}
theorem expR_len (hm : ∀ x ∈ t, x.1.length = m) {p : List Val × Tab} (hp : p ∈ partsV is (expV t)) {j : Nat} (hj : j < p.2.length) : (rowAt (sortW os (rowsP p)) j).length = m ∧ pkV is (rowAt (sortW os (rowsP p)) j) = p.1 := by
  obtain ⟨x, hx, _, e, e2⟩ := sorted_row (os := os) hp hj
  rw [← e]
  exact ⟨hm x hx, e2⟩
theorem intV_inj {a b : Int} (ha : -1073741824 ≤ a ∧ a ≤ 1073741824) (hb : -1073741824 ≤ b ∧ b ≤ 1073741824) (h : intV a = intV b) : a = b := by
  rw [intV_ok ha.1 ha.2, intV_ok hb.1 hb.2] at h
  injection h
theorem part_len {ps : List Int} {s : Tab} {p : List Val × Tab} (hp : p ∈ partsV ps s) : p.2.length ≤ s.length := by
  rw [(partsV_ok ps s).rows p hp]
  unfold ofK
  exact List.length_filter_le _ _
theorem exp_len_le (hpos : ∀ x ∈ t, 0 < x.2) {p : List Val × Tab} (hp : p ∈ partsV is (expV t)) : (p.2.length : Int) ≤ sumC t := by
  rw [← expV_len hpos]
  have := part_len hp
  omega
/-- the rows of the window are all different -/
theorem listR_pw (hm : ∀ x ∈ t, x.1.length = m) (hi : ∀ i ∈ is, 0 ≤ i ∧ i < m) (hpos : ∀ x ∈ t, 0 < x.2) (hs : sumC t ≤ 1000000) : (listW is os isR t).Pairwise fun x y => x.1 ≠ y.1 := by
  unfold listW
  rw [List.pairwise_flatMap]
  refine ⟨fun p hp => ?_, ?_⟩
  · unfold numW
    rw [List.pairwise_map]
    refine (List.nodup_range (n := _)).imp_of_mem fun {j k} hj hk hne e => hne ?_
    rw [List.mem_range, sortW_len] at hj hk
    have hj : j < p.2.length := by simpa [rowsP] using hj
    have hk : k < p.2.length := by simpa [rowsP] using hk
    have h1 := (expR_len (os := os) hm hp hj).1
    have h2 := (expR_len (os := os) hm hp hk).1
    have h3 := exp_len_le hpos hp
    have e : rowAt (sortW os (rowsP p)) j ++ extW os isR (sortW os (rowsP p)) j = rowAt (sortW os (rowsP p)) k ++ extW os isR (sortW os (rowsP p)) k := e
    have e2 := (List.append_inj e (by rw [h1, h2])).2
    rw [extR, extR] at e2
    have e3 : intV ((j : Int) + 1) = intV ((k : Int) + 1) := by injection e2
    have := intV_inj (by omega) (by omega) e3
    omega
  · refine (partsV_ok is (expV t)).pw.imp_of_mem fun {p q} hp hq hne x hx y hy e => hne ?_
    obtain ⟨j, hj, rfl⟩ := numW_mem.1 hx
    obtain ⟨k, hk, rfl⟩ := numW_mem.1 hy
    rw [sortW_len] at hj hk
    have hj : j < p.2.length := by simpa [rowsP] using hj
    have hk : k < q.2.length := by simpa [rowsP] using hk
    obtain ⟨h1, h3⟩ := expR_len (os := os) hm hp hj
    obtain ⟨h2, h4⟩ := expR_len (os := os) hm hq hk
    have e : rowAt (sortW os (rowsP p)) j ++ extW os isR (sortW os (rowsP p)) j = rowAt (sortW os (rowsP q)) k ++ extW os isR (sortW os (rowsP q)) k := e
    rw [← h3, ← h4, (List.append_inj e (by rw [h1, h2])).1]
theorem listR_one : ∀ x ∈ listW is os isR t, x.2 = 1 := fun x hx => by
  obtain ⟨p, _, j, _, rfl⟩ := listW_mem.1 hx
  rfl
/-- a number of the first n -/
def oneTo (n : Nat) : Tab := (List.range n).map fun (j : Nat) => ([intV ((j : Int) + 1)], 1)
theorem oneTo_bag {n : Nat} (hn : n ≤ 1000000) : Bag (oneTo n) := by
  refine ⟨asc_pw.2 ?_, fun x hx => ?_⟩
  · unfold oneTo
    rw [List.pairwise_map]
    refine List.pairwise_lt_range.imp_of_mem fun {j k} hj hk hlt => ?_
    rw [List.mem_range] at hj hk
    show cmpR [intV ((j : Int) + 1)] [intV ((k : Int) + 1)] < 0
    rw [cmpR_one, cmpV_neg, intV_ok (by omega) (by omega), intV_ok (by omega) (by omega)]
    exact .inr ⟨rfl, .inl (by show (j : Int) + 1 < (k : Int) + 1; omega)⟩
  · obtain ⟨j, _, rfl⟩ := List.mem_map.1 hx
    show (1 : Int) ≠ 0
    omega
theorem winR_mem (hm : ∀ x ∈ t, x.1.length = m) (hi : ∀ i ∈ is, 0 ≤ i ∧ i < m) (hpos : ∀ x ∈ t, 0 < x.2) (hs : sumC t ≤ 1000000) {y : List Val × Int} :
    y ∈ winV is os isR t ↔ ∃ p ∈ partsV is (expV t), ∃ j, j < p.2.length ∧ y = (rowAt (sortW os (rowsP p)) j ++ [intV ((j : Int) + 1), intV p.2.length], 1) := by
  unfold winV
  rw [normV_ones (listR_pw hm hi hpos hs) listR_one, listW_mem]
  have e : ∀ p : List Val × Tab, ((sortW os (rowsP p)).length : Int) = p.2.length := fun p => by rw [sortW_len]; simp [rowsP]
  constructor
  · rintro ⟨p, hp, j, hj, rfl⟩
    exact ⟨p, hp, j, hj, by rw [extR, e]⟩
  · rintro ⟨p, hp, j, hj, rfl⟩
    exact ⟨p, hp, j, hj, by rw [extR, e]⟩
/-- the aggregates of a partition's rows -/
theorem winR_aggs (hm : ∀ x ∈ t, x.1.length = m) (hi : ∀ i ∈ is, 0 ≤ i ∧ i < m) (hpos : ∀ x ∈ t, 0 < x.2) (hs : sumC t ≤ 1000000) {p : List Val × Tab} (hp : p ∈ partsV is (expV t)) :
    aggV 5 m (ofK is p.1 (winV is os isR t)) = intV p.2.length ∧ aggV 4 ((m : Int) + 1) (ofK is p.1 (winV is os isR t)) = intV p.2.length ∧ aggV 6 m (ofK is p.1 (winV is os isR t)) = intV p.2.length := by
  have hW := fun (y : List Val × Int) => winR_mem (os := os) hm hi hpos hs (y := y)
  have hbag : Bag (winV is os isR t) := normV_bag _
  have ok := partsV_ok is (expV t)
  generalize winV is os isR t = W at hW hbag ⊢
  have hn := exp_len_le hpos hp
  have hne : 0 < p.2.length := List.length_pos_iff.2 (ok.ne p hp)
  -- the rows of this key
  have hR : ∀ y, y ∈ ofK is p.1 W ↔ ∃ j, j < p.2.length ∧ y = (rowAt (sortW os (rowsP p)) j ++ [intV ((j : Int) + 1), intV p.2.length], 1) := fun y => by
    rw [ofK_mem, hW]
    constructor
    · rintro ⟨⟨q, hq, j, hj, rfl⟩, e⟩
      obtain ⟨h1, h2⟩ := expR_len (os := os) hm hq hj
      have e : pkV is (rowAt (sortW os (rowsP q)) j ++ [intV ((j : Int) + 1), intV q.2.length]) = p.1 := e
      rw [pkV_left (by rw [h1]; exact hi), h2] at e
      have : q = p := by
        have h3 := ok.rows q hq
        have h4 := ok.rows p hp
        rw [e] at h3
        exact Prod.ext e (h3.trans h4.symm)
      subst this
      exact ⟨j, hj, rfl⟩
    · rintro ⟨j, hj, rfl⟩
      obtain ⟨h1, h2⟩ := expR_len (os := os) hm hp hj
      exact ⟨⟨p, hp, j, hj, rfl⟩, by show pkV is (_ ++ _) = _; rw [pkV_left (by rw [h1]; exact hi), h2]⟩
  have c4 : ∀ j, j < p.2.length → cel (rowAt (sortW os (rowsP p)) j ++ [intV ((j : Int) + 1), intV p.2.length]) (m : Int) = intV ((j : Int) + 1) := fun j hj => by
    obtain ⟨h1, h2⟩ := expR_len (os := os) hm hp hj
    have := cel_right (r := rowAt (sortW os (rowsP p)) j) (x := [intV ((j : Int) + 1), intV p.2.length]) (k := 0) (by simp)
    rw [h1] at this
    exact this
  have c5 : ∀ j, j < p.2.length → cel (rowAt (sortW os (rowsP p)) j ++ [intV ((j : Int) + 1), intV p.2.length]) ((m : Int) + 1) = intV p.2.length := fun j hj => by
    obtain ⟨h1, h2⟩ := expR_len (os := os) hm hp hj
    have := cel_right (r := rowAt (sortW os (rowsP p)) j) (x := [intV ((j : Int) + 1), intV p.2.length]) (k := 1) (by simp)
    rw [h1] at this
    exact this
  have hRpos : ∀ y ∈ ofK is p.1 W, 0 < y.2 := fun y hy => by
    obtain ⟨j, _, rfl⟩ := (hR y).1 hy
    show (0 : Int) < 1
    omega
  have ik : ∀ a : Int, 0 ≤ a → a ≤ 1000000 → (intV a).k = 2 ∧ (intV a) = ⟨2, a, ⟨#[]⟩⟩ := fun a h1 h2 => by
    rw [intV_ok (by omega) (by omega)]; exact ⟨rfl, rfl⟩
  refine ⟨?_, ?_, ?_⟩
  · refine (aggV_max hRpos).uniq (.inr rfl) (.inr ⟨⟨?_, ?_⟩, fun v hv => ?_⟩)
    · rw [(ik _ (by omega) (by omega)).1]; omega
    · refine ⟨_, (hR _).2 ⟨p.2.length - 1, by omega, rfl⟩, ?_⟩
      show cel _ _ = _
      rw [c4 _ (by omega)]
      congr 1
      omega
    · obtain ⟨_, y, hy, e⟩ := hv
      obtain ⟨j, hj, rfl⟩ := (hR y).1 hy
      rw [c4 j hj] at e
      rw [← e, (ik _ (by omega) (by omega)).2, (ik ((j : Int) + 1) (by omega) (by omega)).2]
      have h1 := cmpV_flip (⟨2, (p.2.length : Int), ⟨#[]⟩⟩ : Val) ⟨2, (j : Int) + 1, ⟨#[]⟩⟩
      by_cases e2 : (p.2.length : Int) = (j : Int) + 1
      · rw [e2, (cmpV_zero _ _).2 rfl]; omega
      · have := (cmpV_neg (⟨2, (j : Int) + 1, ⟨#[]⟩⟩ : Val) ⟨2, (p.2.length : Int), ⟨#[]⟩⟩).2 (.inr ⟨rfl, .inl (by show (j : Int) + 1 < p.2.length; omega)⟩)
        omega
  · refine (aggV_min hRpos).uniq (.inl rfl) (.inr ⟨⟨?_, ?_⟩, fun v hv => ?_⟩)
    · rw [(ik _ (by omega) (by omega)).1]; omega
    · exact ⟨_, (hR _).2 ⟨0, hne, rfl⟩, c5 0 hne⟩
    · obtain ⟨_, y, hy, e⟩ := hv
      obtain ⟨j, hj, rfl⟩ := (hR y).1 hy
      rw [c5 j hj] at e
      rw [← e, (cmpV_zero _ _).2 rfl]; omega
  · have hV : ∀ y, y ∈ valsV m (ofK is p.1 W) ↔ y ∈ oneTo p.2.length := fun y => by
      rw [valsV_mem]
      unfold oneTo
      rw [List.mem_map]
      constructor
      · rintro ⟨x, hx, _, rfl⟩
        obtain ⟨j, hj, rfl⟩ := (hR x).1 hx
        exact ⟨j, List.mem_range.2 hj, by rw [c4 j hj]⟩
      · rintro ⟨j, hj, rfl⟩
        have hj := List.mem_range.1 hj
        exact ⟨_, (hR _).2 ⟨j, hj, rfl⟩, by rw [c4 j hj, (ik _ (by omega) (by omega)).1]; omega, by rw [c4 j hj]⟩
    have hpw : (valsV m (ofK is p.1 W)).Pairwise fun x y => x.1 ≠ y.1 := by
      unfold valsV
      rw [List.pairwise_map]
      have h1 : (ofK is p.1 W).Pairwise fun x y => x.1 ≠ y.1 := by unfold ofK; exact hbag.pw.filter _
      refine (h1.imp_of_mem fun {x y} hx hy hne e => hne ?_).filter _
      obtain ⟨j, hj, rfl⟩ := (hR x).1 hx
      obtain ⟨k, hk, rfl⟩ := (hR y).1 hy
      have e : [cel _ _] = [cel _ _] := e
      rw [c4 j hj, c4 k hk] at e
      have e : intV ((j : Int) + 1) = intV ((k : Int) + 1) := by injection e
      have := intV_inj (by omega) (by omega) e
      have : j = k := by omega
      subst this
      rfl
    have hone : ∀ x ∈ valsV m (ofK is p.1 W), x.2 = 1 := fun x hx => by
      obtain ⟨j, _, rfl⟩ := List.mem_map.1 ((hV x).1 hx)
      rfl
    have e : normV (valsV m (ofK is p.1 W)) = oneTo p.2.length := (normV_bag _).mem_ext (oneTo_bag (by omega)) fun y => by rw [normV_ones hpw hone, hV]
    show intV ((normV (valsV m (ofK is p.1 W))).length : Int) = _
    rw [e]
    simp [oneTo]
/-- three times the last -/
def tri (k : Nat) (y : List Val × Int) : List Val × Int := (y.1.take k ++ [y.1.getD k zV, y.1.getD k zV, y.1.getD k zV], 1)
theorem ranks_eq (hm : ∀ x ∈ t, x.1.length = m) (hi : ∀ i ∈ is, 0 ≤ i ∧ i < m) (hpos : ∀ x ∈ t, 0 < x.2) (hs : sumC t ≤ 1000000) (i : Int) :
    groupV is (fun l => [aggV 5 m l, aggV 4 ((m : Int) + 1) l, aggV 6 m l]) (winV is os isR t) = (groupV is (fun l => [aggV 1 i l]) t).map (tri is.length) := by
  have ok := partsV_ok is t
  have okE := partsV_ok is (expV t)
  have okW := partsV_ok is (winV is os isR t)
  -- the rows of the count
  have hC : ∀ y, y ∈ groupV is (fun l => [aggV 1 i l]) t ↔ ∃ p ∈ partsV is (expV t), y = (p.1 ++ [intV p.2.length], 1) := fun y => by
    rw [groupV_mem]
    have key : ∀ q ∈ partsV is t, ∀ p ∈ partsV is (expV t), p.1 = q.1 → sumC q.2 = (p.2.length : Int) := fun q hq p hp e => by
      rw [okE.rows p hp, ok.rows q hq, ofK_exp, e, expV_len]
      intro x hx
      exact hpos x (ofK_mem.1 hx).1
    constructor
    · rintro ⟨q, hq, rfl⟩
      obtain ⟨x, hx, e, _⟩ := ok.key hq
      obtain ⟨p, hp, e2⟩ := okE.all (x.1, 1) (expV_mem.2 ⟨rfl, x, hx, hpos x hx, rfl⟩)
      have e3 : p.1 = q.1 := e2.trans e
      refine ⟨p, hp, ?_⟩
      show (q.1 ++ [intV (sumC q.2)], (1 : Int)) = _
      rw [key q hq p hp e3, e3]
    · rintro ⟨p, hp, rfl⟩
      obtain ⟨y, hy, e, _⟩ := okE.key hp
      obtain ⟨_, x, hx, _, e1⟩ := expV_mem.1 hy
      obtain ⟨q, hq, e2⟩ := ok.all x hx
      have e3 : p.1 = q.1 := by rw [e2, e1, e]
      refine ⟨q, hq, ?_⟩
      show _ = (q.1 ++ [intV (sumC q.2)], (1 : Int))
      rw [key q hq p hp e3, e3]
  have hkl : ∀ p ∈ partsV is (expV t), p.1.length = is.length := fun p hp => by
    obtain ⟨y, _, e, _⟩ := okE.key hp
    rw [← e, pkV_len]
  have tr : ∀ p ∈ partsV is (expV t), tri is.length (p.1 ++ [intV p.2.length], 1) = (p.1 ++ [intV p.2.length, intV p.2.length, intV p.2.length], 1) := fun p hp => by
    have hl := hkl p hp
    unfold tri
    have e1 : (p.1 ++ [intV p.2.length]).take is.length = p.1 := by rw [← hl]; simp
    have e2 : (p.1 ++ [intV p.2.length]).getD is.length zV = intV p.2.length := by rw [← hl]; simp [List.getD_eq_getElem?_getD]
    show ((p.1 ++ [intV p.2.length]).take is.length ++ [(p.1 ++ [intV p.2.length]).getD is.length zV, (p.1 ++ [intV p.2.length]).getD is.length zV, (p.1 ++ [intV p.2.length]).getD is.length zV], (1 : Int)) = _
    rw [e1, e2]
  have uniq : ∀ p ∈ partsV is (expV t), ∀ q ∈ partsV is (expV t), p.1 = q.1 → p = q := fun p hp q hq e => Prod.ext e (by rw [okE.rows p hp, okE.rows q hq, e])
  have hbc : Bag (groupV is (fun l => [aggV 1 i l]) t) := groupV_bag _ _ _
  have hbm : Bag ((groupV is (fun l => [aggV 1 i l]) t).map (tri is.length)) := by
    refine ⟨asc_pw.2 ?_, fun x hx => ?_⟩
    · rw [List.pairwise_map]
      refine (asc_pw.1 hbc.1).imp_of_mem fun {x y} hx hy hlt => ?_
      obtain ⟨p, hp, rfl⟩ := (hC x).1 hx
      obtain ⟨q, hq, rfl⟩ := (hC y).1 hy
      rw [tr p hp, tr q hq]
      have hll : p.1.length = q.1.length := by rw [hkl p hp, hkl q hq]
      have hne : p.1 ≠ q.1 := fun e => by
        rw [uniq p hp q hq e, cmpR_self] at hlt
        omega
      have hlt : cmpR (p.1 ++ [intV p.2.length]) (q.1 ++ [intV q.2.length]) < 0 := hlt
      rw [cmpR_app hll hne] at hlt
      show cmpR (p.1 ++ _) (q.1 ++ _) < 0
      rw [cmpR_app hll hne]
      exact hlt
    · obtain ⟨y, _, rfl⟩ := List.mem_map.1 hx
      show (1 : Int) ≠ 0
      omega
  refine (groupV_bag _ _ _).mem_ext hbm fun y => ?_
  rw [groupV_mem, List.mem_map]
  constructor
  · rintro ⟨q, hq, rfl⟩
    obtain ⟨z, hz, e, _⟩ := okW.key hq
    obtain ⟨p, hp, j, hj, rfl⟩ := (winR_mem hm hi hpos hs).1 hz
    obtain ⟨h1, h2⟩ := expR_len (os := os) hm hp hj
    have e : pkV is (rowAt (sortW os (rowsP p)) j ++ [intV ((j : Int) + 1), intV p.2.length]) = q.1 := e
    rw [pkV_left (by rw [h1]; exact hi), h2] at e
    refine ⟨_, (hC _).2 ⟨p, hp, rfl⟩, ?_⟩
    rw [tr p hp]
    show _ = (q.1 ++ [aggV 5 m q.2, aggV 4 ((m : Int) + 1) q.2, aggV 6 m q.2], (1 : Int))
    obtain ⟨g1, g2, g3⟩ := winR_aggs (os := os) hm hi hpos hs hp
    rw [okW.rows q hq, ← e, g1, g2, g3]
  · rintro ⟨x, hx, rfl⟩
    obtain ⟨p, hp, rfl⟩ := (hC x).1 hx
    have hne : 0 < p.2.length := List.length_pos_iff.2 (okE.ne p hp)
    obtain ⟨h1, h2⟩ := expR_len (os := os) hm hp hne
    obtain ⟨q, hq, e⟩ := okW.all _ ((winR_mem (os := os) hm hi hpos hs).2 ⟨p, hp, 0, hne, rfl⟩)
    have e : q.1 = pkV is (rowAt (sortW os (rowsP p)) 0 ++ [intV (((0 : Nat) : Int) + 1), intV p.2.length]) := e
    rw [pkV_left (by rw [h1]; exact hi), h2] at e
    refine ⟨q, hq, ?_⟩
    rw [tr p hp]
    show _ = (q.1 ++ [aggV 5 m q.2, aggV 4 ((m : Int) + 1) q.2, aggV 6 m q.2], (1 : Int))
    obtain ⟨g1, g2, g3⟩ := winR_aggs (os := os) hm hi hpos hs hp
    rw [okW.rows q hq, e, g1, g2, g3]
end
end
end Go.Proofs.YthcalfeoejdcgaaGreatDoor
