/- The program: the parts of a table; The program: valid bags, tables; The program: aggregates: valid groups, totals, integers; The program: the value of an aggregate; The program: aggregate.Result. -/
import Derived.Deep.RegionLaw
import Derived.Shelf.SlicesQ.Reverse
import Derived.Ground.SlgnProg
import Derived.Test.YthcalfeoejdcgaaGreatDoorM11
import Derived.Test.YthcalfeoejdcgaaGreatDoorM12
import Derived.Test.YthcalfeoejdcgaaGreatDoorM13
namespace Go.Proofs.YthcalfeoejdcgaaGreatDoor
section
open Go.RowKit Go.BigFrame
set_option linter.unusedSimpArgs false
set_option linter.unusedVariables false

theorem info226 : (Tryz.prog.info? 226).map (fun i => (i.zero, i.size, i.bytes)) = some (some (.agg #[.slice none 0 0, .slice none 0 0]), 2, 48) := by kernel_rfl
theorem pPrt : ∃ i, KinP Tryz.prog (kPrt 226) 223 i (.agg #[.slice none 0 0, .slice none 0 0]) 48 := by
  obtain ⟨i0, hi, hz0, hz1, hz2⟩ := info_parts info226
  exact ⟨i0, ⟨Tryz.underlying223, hi, hz0, hz1, hz2, rfl, by omega⟩⟩
theorem pEntS : ∃ i, KinP Tryz.prog kEntS 29 i (.agg #[.slice none 0 0, .int .i64 0]) 32 := by
  obtain ⟨i, h⟩ := pEnt
  exact ⟨i, ⟨h.ht, h.hi, h.hz, h.hs, h.hb, h.hzs, h.small⟩⟩
/-- the map from the texts of keys to the parts -/
def MapOk (f : List UInt8 → Option Value) (ps : List (List Val × Tab)) : Prop :=
  (∀ (j : Nat) p, ps[j]? = some p → f (keyS p.1).data.toList = some (.int .i64 j)) ∧ ∀ s, (∀ p ∈ ps, (keyS p.1).data.toList ≠ s) → f s = none
theorem MapOk.nil : MapOk (fun _ => none) [] := ⟨fun j p h => by simp at h, fun s _ => rfl⟩
/-- keys that are valid -/
def okKeys (ps : List (List Val × Tab)) : Prop := ∀ p ∈ ps, (∀ v ∈ p.1, validV v = true) ∧ p.1.length ≤ 12
theorem key_ne {a b : List Val} (ha : (∀ v ∈ a, validV v = true) ∧ a.length ≤ 12) (hb : (∀ v ∈ b, validV v = true) ∧ b.length ≤ 12) (h : (keyS a).data.toList = (keyS b).data.toList) : a = b :=
  keyS_inj ha.1 hb.1 ha.2 hb.2 (ByteArray.ext (Array.ext' h))
theorem MapOk.hit {f : List UInt8 → Option Value} {ps : List (List Val × Tab)} (h : MapOk f ps) {j : Nat} {p : List Val × Tab} (hp : ps[j]? = some p) (t : Tab) : MapOk (setF f (keyS p.1).data.toList (.int .i64 j)) (ps.set j (p.1, t)) := by
  have hj := (List.getElem?_eq_some_iff.1 hp).1
  have e : setF f (keyS p.1).data.toList (.int .i64 j) = f := by
    funext s
    unfold setF
    split
    · rename_i e; rw [e]; exact (h.1 j p hp).symm
    · rfl
  rw [e]
  refine ⟨fun i q hq => ?_, fun s hs => h.2 s fun q hq e2 => ?_⟩
  · rw [List.getElem?_set] at hq
    split at hq
    · rename_i e2
      subst e2
      cases hq
      exact h.1 _ p hp
    · exact h.1 i q hq
  · obtain ⟨i, hi⟩ := List.getElem?_of_mem hq
    by_cases e3 : i = j
    · subst e3
      rw [hp] at hi
      cases hi
      exact hs (p.1, t) (List.mem_of_getElem? (i := i) (by rw [List.getElem?_set, if_pos rfl, if_pos hj])) e2
    · exact hs q (List.mem_of_getElem? (i := i) (by rw [List.getElem?_set, if_neg (Ne.symm e3)]; exact hi)) e2
theorem MapOk.miss {f : List UInt8 → Option Value} {ps : List (List Val × Tab)} (h : MapOk f ps) (hk : okKeys ps) {k : List Val} (hkk : (∀ v ∈ k, validV v = true) ∧ k.length ≤ 12) (hn : ∀ p ∈ ps, p.1 ≠ k) (t : Tab) : MapOk (setF f (keyS k).data.toList (.int .i64 ps.length)) (ps ++ [(k, t)]) := by
  refine ⟨fun j p hp => ?_, fun s hs => ?_⟩
  · rw [List.getElem?_append] at hp
    split at hp
    · unfold setF
      rw [if_neg (fun e => hn p (List.mem_of_getElem? hp) (key_ne (hk p (List.mem_of_getElem? hp)) hkk e))]
      exact h.1 j p hp
    · rw [List.getElem?_singleton] at hp
      split at hp
      · cases hp
        have e : j = ps.length := by omega
        unfold setF
        rw [if_pos rfl, e]
      · cases hp
  · unfold setF
    rw [if_neg (fun e => hs (k, t) (by simp) e.symm)]
    exact h.2 s fun p hp => hs p (List.mem_append_left _ hp)
theorem MapOk.find {f : List UInt8 → Option Value} {ps : List (List Val × Tab)} (h : MapOk f ps) (hk : okKeys ps) {k : List Val} (hkk : (∀ v ∈ k, validV v = true) ∧ k.length ≤ 12) (hn : ∀ p ∈ ps, p.1 ≠ k) : f (keyS k).data.toList = none :=
  h.2 _ fun p hp e => hn p hp (key_ne (hk p hp) hkk e)
theorem addP_hit {k : List Val} {x : List Val × Int} : ∀ {ps : List (List Val × Tab)} {j : Nat} {t : Tab} (_ : ps.Pairwise fun p q => p.1 ≠ q.1) (_ : ps[j]? = some (k, t)), addP k x ps = ps.set j (k, t ++ [x])
  | [], j, t, _, h => by simp at h
  | p :: l, 0, t, hp, h => by
    simp at h
    subst h
    rw [addP, if_pos (cmpR_self _)]
    rfl
  | p :: l, j + 1, t, hp, h => by
    have h' : l[j]? = some (k, t) := by simpa using h
    have hne := (List.pairwise_cons.1 hp).1 _ (List.mem_of_getElem? h')
    rw [addP, if_neg (fun e => hne ((cmpR_zero _ _).1 e)), addP_hit (List.pairwise_cons.1 hp).2 h']
    rfl
theorem addP_miss {k : List Val} {x : List Val × Int} : ∀ {ps : List (List Val × Tab)} (_ : ∀ p ∈ ps, p.1 ≠ k), addP k x ps = ps ++ [(k, [x])]
  | [], _ => rfl
  | p :: l, h => by
    rw [addP, if_neg (fun e => h p (List.mem_cons_self ..) ((cmpR_zero _ _).1 e)), addP_miss fun q hq => h q (List.mem_cons_of_mem _ hq)]
    rfl
theorem PS.len_cast {e : TypeId} {w : World} {B0 B n n' c : Nat} {A : Option Addr} {qs : List Prt} {ps : List (List Val × Tab)} (h : PS e w B0 B (.slice A n c) qs ps) (en : n' = n) : PS e w B0 B (.slice A n' c) qs ps := by rw [en]; exact h
def PartsR (is : List Int) (t : Tab) (w : World) (e : Ending) (w' : World) : Prop := ∃ A n c qs, e = .returned (.slice A n c) ∧ PS 226 w' w.heap.size (w.heap.size + 1) (.slice A n c) qs (partsV is t) ∧ Below w.heap.size w w'
theorem valid_cel {r : List Val} (h : ∀ v ∈ r, validV v = true) (i : Int) : validV (cel r i) = true := by
  unfold cel
  split
  · rename_i h2
    have hlt : i.toNat < r.length := by omega
    rw [List.getD_eq_getElem?_getD, List.getElem?_eq_getElem hlt]
    exact h _ (List.getElem_mem _)
  · exact valid_zV
theorem valid_pk {r : List Val} (h : ∀ v ∈ r, validV v = true) (is : List Int) : ∀ v ∈ pkV is r, validV v = true := fun v hv => by
  obtain ⟨i, _, rfl⟩ := List.mem_map.1 hv
  exact valid_cel h i
set_option maxRecDepth 100000 in
set_option maxHeartbeats 1000000 in
theorem partsE (A : Option Addr) (n c : Nat) (t : Tab) (B : Option Addr) (m d : Nat) (is : List Int) (w : World) (ht : rTab w A n t) (hi : rInt w B m is) (hn : n ≤ 4096) (hm0 : 0 < m) (hm : m ≤ 12) (h12 : ∀ x ∈ t, x.1.length ≤ 12) (hv : ∀ x ∈ t, vOk x.1) : Calls Tryz.prog 214 #[.slice A n c, .slice B m d] w (PartsR is t w) := by
  obtain ⟨iP, PP⟩ := pPrt
  obtain ⟨iE, PE⟩ := pEntS
  have HT := Lib.hid ht
  have HI := Lib.hid hi
  have HMI := Lib.hid hi.len
  have HL := Lib.hid ht.len
  have H12 := Lib.hid h12
  have HV := Lib.hid hv
  have dm : ((m : Int) == 0) = false := by simp; omega
  have dm2 : decide ((0 : Int) < (m : Int)) = true := by simp; omega
  clear ht hi h12 hv
  have hmk : (Instr.makeMap 240 none).run Tryz.prog w = .ok (.map (some w.heap.size)) (w.alloc (.map #[] 0)) := by simp [Instr.makeMap]
  go_enter Tryz.func214, Tryz.ntmps214
  go_wp2
  clear hmk
  go_loopw [5, 20] (fun v iv wr => ∃ (k : Nat) (qs : List Prt) (f : List UInt8 → Option Value), k ≤ n ∧ iv = .int .i64 k ∧ Below w.heap.size w wr ∧ w.heap.size < wr.heap.size ∧ Hid (PS 226 wr w.heap.size (w.heap.size + 1) v qs (partsV is (t.take k))) ∧ Hid (Mp Tryz.prog 9 wr w.heap.size k f) ∧ Hid (MapOk f (partsV is (t.take k)))) (fun _ iv _ => n - (intOf iv).toNat)
  case atStart => exact ⟨0, [], _, by omega, rfl, ballo _ _, by simp, Lib.hid (PS.nil _ _ _ _), Lib.hid (Mp.made w), Lib.hid MapOk.nil⟩
  case round =>
    obtain ⟨k, qs, f, hk, rfl, hbw, hsz, HPS, HMP, HMO⟩ := hrel
    have HBW := Lib.hid hbw
    by_cases hlt : k < n
    · obtain ⟨b1, o1, rfl, hc1⟩ := HT.out.opn (by omega)
      obtain ⟨x, hx⟩ := get_some (l := t) (k := k) (by have := HL.out; omega)
      obtain ⟨rA, rN, rC, x1, x2, x3⟩ := hc1 k x hx
      have X3 := Lib.hid x3
      have z1 := cell_later hbw x1
      have z2 := cell_later hbw x2
      have hmm := List.mem_of_getElem? hx
      have hx12 := H12.out x hmm
      have hrN : rN ≤ 12 := by have := x3.len; omega
      have hxv := HV.out x hmm
      have HTK : Hid (partsV is (t.take (k + 1)) = addP (pkV is x.1) x (partsV is (t.take k))) := Lib.hid (by rw [take_snoc hx, partsV_snoc])
      have HPI := Lib.hid (picE rA rN rC x.1 B m d is (wr.alloc (.cells #[.slice rA rN rC, .int .i64 x.2] 65)) (X3.out.later (HBW.out.alloc HBW.out.size _)) (HI.out.later (HBW.out.alloc HBW.out.size _)) (by omega) (by omega))
      have HKV : Hid ((∀ v ∈ pkV is x.1, validV v = true) ∧ (pkV is x.1).length ≤ 12) := Lib.hid ⟨valid_pk hxv is, by rw [pkV_len]; have := HMI.out; omega⟩
      have HMEM := Lib.hid hmm
      clear hc1 hx x3 hbw x1 x2 hmm hxv
      go_wp2_with fail
      refine HPI.out.mono ?_
      rintro e w2 ⟨A1, c1, rfl, hrd, hcc, hb2, hfr, _⟩
      have HRD : Hid (rVal w2 A1 m (pkV is x.1)) := Lib.hid (rD_Val.1 hrd)
      have HB2 := Lib.hid (btr (ballo wr _) hb2)
      have HFR : Hid (∀ a, A1 = some a → wr.heap.size < a.block ∧ a.block < w2.heap.size) := Lib.hid fun a e => ⟨by have := (hfr a e).1; simp at this; omega, (hfr a e).2⟩
      have q0 : w2.cell? ⟨wr.heap.size, 0, none⟩ = some (.slice rA rN rC) := cell_later hb2 (by simp)
      have q1 : w2.cell? ⟨wr.heap.size, 1, none⟩ = some (.int .i64 x.2) := cell_later hb2 (by simp)
      have HKE := Lib.hid (keyE A1 m c1 (pkV is x.1) w2 HRD.out hm HKV.out.1)
      clear hrd hb2 hfr
      go_wp2_with fail
      refine HKE.out.mono ?_
      rintro e w3 ⟨rfl, hb3⟩
      have HB3 := Lib.hid (btr HB2.out hb3)
      have hks : (keyS (pkV is x.1)).size ≤ maxLen := by
        have h1 := encs_len HKV.out.1
        have h2 := HKV.out.2
        have : (keyS (pkV is x.1)).size = (encRB (pkV is x.1)).length := by simp [keyS, ByteArray.size]
        rw [this]
        unfold encRB maxLen
        simp only [List.length_cons]
        omega
      have HMP3 := Lib.hid (HMP.out.later HB3.out)
      have HPS3 := Lib.hid (HPS.out.later HB3.out)
      have q03 := cell_later hb3 q0
      have q13 := cell_later hb3 q1
      have HRD3 := Lib.hid (HRD.out.later hb3)
      have HB3w := Lib.hid (btr HBW.out HB3.out)
      have HPO := Lib.hid (partsV_ok is (t.take k))
      have HOKK : Hid (okKeys (partsV is (t.take k))) := Lib.hid fun p hp => by
        obtain ⟨y, hy, e, _⟩ := HPO.out.key hp
        rw [← e]
        exact ⟨valid_pk (HV.out y (List.mem_of_mem_take hy)) is, by rw [pkV_len]; have := HMI.out; omega⟩
      by_cases hex : ∃ p ∈ partsV is (t.take k), p.1 = pkV is x.1
      · obtain ⟨⟨kk, t0⟩, hp, hpk⟩ := hex
        simp only at hpk
        subst hpk
        obtain ⟨j, hj⟩ := List.getElem?_of_mem hp
        have HPJ := Lib.hid hj
        have hjl : j < (partsV is (t.take k)).length := (List.getElem?_eq_some_iff.1 hj).1
        have hfj := HMO.out.1 j _ hj
        have hlook := HMP3.out.lookOk Tryz.underlying9 Tryz.underlying240 (z := .int .i64 0) (Tryz.zeroValue3 w3) (keyS (pkV is x.1)) hks
        rw [hfj] at hlook
        simp only [Option.getD_some, Option.isSome_some] at hlook
        have HT0 : Hid (t0.length ≤ n) := Lib.hid (by
          have h1 := HPO.out.rows _ hp
          simp only at h1
          rw [h1]
          unfold ofK
          refine Nat.le_trans (List.length_filter_le _ _) ?_
          rw [List.length_take]
          omega)
        clear hj hp hfj hb3
        go_wp2_with fail
        refine (keyE A1 m c1 (pkV is x.1) w3 HRD3.out hm HKV.out.1).mono ?_
        rintro e w6 ⟨rfl, hb6⟩
        obtain ⟨w7, hput, hmp7, hg7⟩ := (HMP3.out.later hb6).put Tryz.underlying9 Tryz.underlying240 (by unfold maxLen; omega) (keyS (pkV is x.1)) hks (.int .i64 (j : Nat))
        have HPS7 : Hid (PS 226 w7 w.heap.size (w.heap.size + 1) u5 qs (partsV is (t.take k))) := Lib.hid ((HPS3.out.later hb6).low hg7 (fun q e => by cases e; exact ⟨Nat.le_refl _, by omega⟩))
        have hnew : some wr.heap.size ≠ some w.heap.size := fun e => by injection e with e; omega
        have q07 := hg7.cell (cell_later hb6 q03) hnew
        have q17 := hg7.cell (cell_later hb6 q13) hnew
        have HB7 : Hid (Below w.heap.size w w7) := Lib.hid (below_push2 (v := .slice (some ⟨w.heap.size, 0, none⟩) 0 0) (btr HB3w.out hb6) hg7 (fun q e => by cases e; exact Nat.le_refl _))
        have HMP7 := Lib.hid hmp7
        have hjq : j < (qs : List Prt).length := by have := HPS7.out.len; have := hjl; omega
        obtain ⟨⟨kA, kN, kC, sA, sN, sC⟩, ha⟩ := get_some (l := (qs : List Prt)) (k := j) hjq
        obtain ⟨pb, hpb, hr⟩ := HPS7.out.rel.get ha
        have hpe : pb = (pkV is x.1, t0) := by have := HPJ.out; rw [this] at hpb; cases hpb; rfl
        subst hpe
        obtain ⟨_, es, hrow, hes⟩ := hr
        obtain ⟨vA2, vc2, hv2, hrp, _⟩ := rPrt_of_own HPS7.out.own
        obtain ⟨g, o2, rfl, hcp⟩ := hrp.opn (by omega)
        obtain ⟨_, p2⟩ := hcp j _ ha
        obtain ⟨g', cc', hform, _, hgl⟩ := World.ownsRow.form HPS7.out.own (by omega)
        rw [hv2] at hform
        cases hform
        simp only [Nat.zero_add] at p2
        have pf : ∀ o, w7.frozen? ⟨g, o, none⟩ = false := fun o => by
          have := HPS7.out.own
          rw [hv2] at this
          exact this.frozenAt o
        have HSEP : Hid (∀ y, (Value.slice sA sN sC).ownBlock = some y → w.heap.size + 1 ≤ y ∧ y < w7.heap.size ∧ y ≠ g) := Lib.hid fun y hy => ⟨(hrow.lt y hy).1, (hrow.lt y hy).2, fun e => HPS7.out.sep _ (List.mem_of_getElem? ha) y hy (by rw [hv2, e]; rfl)⟩
        have HROW : Hid (ownD kEntS (w7.drew.alloc (.cells #[.slice rA rN rC, .int .i64 x.2] 65)) (w.heap.size + 1) (.slice sA sN sC) sN es) := Lib.hid (((own_shallow (K := kEntS) rfl rfl).2 hrow).later ((Below.drew (bself w7)).alloc (Nat.le_refl _) _))
        have HES := Lib.hid hes
        have HA := Lib.hid ha
        have hj1 : (j : Int) < ((qs : List Prt).length : Int) := by omega
        have hj0 : (0 : Int) ≤ (j : Int) := by omega
        have hsN : sN < 1000000 := by
          have h1 : (flat encEnt es).length = sN * 2 := hrow.1
          rw [flat_length encEnt_len] at h1
          have h2 := hes.len
          simp only at h2
          have h3 := HT0.out
          omega
        have HPS8 : Hid (PS 226 (w7.drew.alloc (.cells #[.slice rA rN rC, .int .i64 x.2] 65)) w.heap.size (w.heap.size + 1) (.slice (some ⟨g, 0, none⟩) (qs : List Prt).length vc2) qs (partsV is (t.take k))) := Lib.hid (by
          have := HPS7.out.later ((Below.drew (bself w7)).alloc (Nat.le_refl _) (.cells #[.slice rA rN rC, .int .i64 x.2] 65))
          rw [hv2] at this
          exact this)
        have HES8 : Hid (dAll (oldEnt w.heap.size (w7.drew.alloc (.cells #[.slice rA rN rC, .int .i64 x.2] 65))) es t0) := Lib.hid (hes.imp fun _ _ h => h.kept (grown_below ((Below.drew (bself w7)).alloc (Nat.le_refl _) _)) (fun q e => by cases e))
        have HB8 : Hid (Below w.heap.size w (w7.drew.alloc (.cells #[.slice rA rN rC, .int .i64 x.2] 65))) := Lib.hid ((Below.drew HB7.out).alloc HB7.out.size _)
        have hbase8 : w.heap.size + 1 ≤ (w7.drew.alloc (.cells #[.slice rA rN rC, .int .i64 x.2] 65)).heap.size := by have := HB3.out.size; have := World.block_lt_of_cell? _ _ q07; simp; omega
        have hgl7 : g < w7.heap.size := hgl
        have hg1 : w.heap.size + 1 ≤ g := by
          have := HPS8.out.own.lt g rfl
          exact this.1
        have HMP8 := Lib.hid (HMP7.out.later ((Below.drew (bself w7)).alloc (Nat.le_refl _) (.cells #[.slice rA rN rC, .int .i64 x.2] 65)))
        have p28 : (w7.drew.alloc (.cells #[.slice rA rN rC, .int .i64 x.2] 65)).cell? ⟨g, j * 2 + 1, none⟩ = some (.slice sA sN sC) := cell_later ((Below.drew (bself w7)).alloc (Nat.le_refl _) (.cells #[.slice rA rN rC, .int .i64 x.2] 65)) p2
        have pf8 : (w7.drew.alloc (.cells #[.slice rA rN rC, .int .i64 x.2] 65)).frozen? ⟨g, j * 2 + 1, none⟩ = false := alo_froz hgl7 (pf _)
        have hgl8 : g < (w7.drew.alloc (.cells #[.slice rA rN rC, .int .i64 x.2] 65)).heap.size := Nat.lt_of_lt_of_le hgl7 (ballo w7.drew _).size
        have hge : some g ≠ (Value.slice sA sN sC).ownBlock := fun e => (HSEP.out _ e.symm).2.2 rfl
        clear hmp7 hpb hrow hes hrp hcp ha hg7 hb6
        subst hv2
        go_wp2_with fail
        go_region_law (refine step_push _ (by rfl) _ _ (by rfl) PE HROW.out ⟨_, 0, none⟩ ⟨rA, rN, rC, x.2⟩ ⟨rA, rN, rC, x.2⟩ (by rfl) (by rfl) (one_block_Ent _ _ _ _ _ _) rfl (fun p hp => by cases hp) hsN hbase8 ?_; intro v' w' hown' hgrow hat; obtain ⟨A9, c9, rfl, hcc9, _, _⟩ := hown'.rd; have s1 := hgrow.cell p28 hge; have sf := (hgrow.frozen_far ⟨g, j * 2 + 1, none⟩ hgl8 hge).trans pf8)
        all_goals
          have hrow9 := (own_shallow (K := kEntS) rfl rfl).1 hown'
          have hB9 := below_push2 HB8.out hgrow (fun y e => by have := (HSEP.out y e).1; omega)
          have HOLD : oldEnt w.heap.size w' ⟨rA, rN, rC, x.2⟩ x := ⟨⟨X3.out.later hB9, rfl⟩, fun h0 ad e => rVal_lt X3.out h0 ad e⟩
          have HADD := Lib.hid (PS.add (i := j) HPS8.out HA.out HPJ.out (Nat.le_succ _) hbase8 HES8.out HOLD hrow9 hgrow hat rfl)
          have hmb : some w.heap.size ≠ (Value.slice sA sN sC).ownBlock := fun e => by have := (HSEP.out _ e.symm).1; omega
          have HMP9 := Lib.hid (HMP8.out.kept hgrow hmb)
          have HMPF := Lib.hid (HMP9.out.kept (row := some g) (w' := w'.setCell ⟨g, j * 2 + 1, none⟩ (.slice A9 (sN + 1) c9)) ⟨rfl, rfl, rfl, by simp, fun b _ hne => Below.heap_setCell _ _ _ _ (by show b ≠ g; exact fun e => hne (by rw [e]))⟩ (fun e => by injection e with e; omega))
          have HBF := Lib.hid (hB9.setCell (p := ⟨g, j * 2 + 1, none⟩) (by show w.heap.size ≤ g; omega) (.slice A9 (sN + 1) c9))
          have hszf : w.heap.size < (w'.setCell ⟨g, j * 2 + 1, none⟩ (.slice A9 (sN + 1) c9)).heap.size := by have h1 : (w7.drew.alloc (.cells #[.slice rA rN rC, .int .i64 x.2] 65)).heap.size ≤ w'.heap.size := hgrow.size; have h2 := hbase8; simp only [World.size_setCell]; omega
          clear hown' hrow9 hgrow hat hB9 HOLD
          go_wp2
          go_roundw
          case rel => exact ⟨k + 1, _, _, by omega, by go_num, HBF.out, hszf, Lib.hid (by rw [HTK.out, addP_hit HPO.out.pw HPJ.out]; exact PS.len_cast HADD.out (by simp)), HMPF, Lib.hid (by rw [HTK.out, addP_hit HPO.out.pw HPJ.out]; exact HMO.out.hit HPJ.out _)⟩
          case measure => simp [intOf]; omega
      · have hnone : ∀ p ∈ partsV is (t.take k), p.1 ≠ pkV is x.1 := fun p hp e => hex ⟨p, hp, e⟩
        have HNO := Lib.hid hnone
        have hfn := HMO.out.find HOKK.out HKV.out hnone
        have hlook := HMP3.out.lookOk Tryz.underlying9 Tryz.underlying240 (z := .int .i64 0) (Tryz.zeroValue3 w3) (keyS (pkV is x.1)) hks
        rw [hfn] at hlook
        simp only [Option.getD_none, Option.isSome_none] at hlook
        obtain ⟨vA, vc, hvf, _, _⟩ := rPrt_of_own HPS3.out.own
        have HPL : Hid (qs.length = (partsV is (t.take k)).length) := Lib.hid HPS3.out.len.symm
        have hql : qs.length ≤ 4096 := by have := HPL.out; have := partsV_len is (t.take k); have := List.length_take (i := k) (l := t); omega
        have hkey : 0 < m → ∀ ad, A1 = some ad → w.heap.size + 1 ≤ ad.block ∧ u5.ownBlock ≠ some ad.block ∧ ∀ b ∈ qs, b.blk ≠ some ad.block := fun _ ad e => by
          have h1 := HFR.out ad e
          refine ⟨by omega, fun e2 => ?_, fun b hb e2 => ?_⟩
          · have := (HPS.out.own.lt _ e2).2; omega
          · obtain ⟨j, hj⟩ := List.getElem?_of_mem hb
            obtain ⟨y, _, hr⟩ := HPS.out.rel.get hj
            have := (hr.lt _ e2).2; omega
        have HKEY := Lib.hid hkey
        have HW4 : Hid (Below w3.heap.size w3 (w3.alloc (.cells #[.slice A1 m c1, .slice none 0 0] 226))) := Lib.hid (ballo _ _)
        have HOP : Hid (ownD (kPrt 226) (w3.alloc (.cells #[.slice A1 m c1, .slice none 0 0] 226)) (w.heap.size + 1) u5 qs.length qs) := Lib.hid (((own_shallow (K := kPrt 226) rfl rfl).2 HPS3.out.own).later HW4.out)
        have hbase4 : w.heap.size + 1 ≤ (w3.alloc (.cells #[.slice A1 m c1, .slice none 0 0] 226)).heap.size := by have := HB3.out.size; simp; omega
        have hql2 : qs.length < 1000000 := by omega
        have HVLT : Hid (∀ y, u5.ownBlock = some y → w.heap.size + 1 ≤ y ∧ y < wr.heap.size) := Lib.hid HPS.out.own.lt
        subst hvf
        clear hb3 hfn hnone hex hkey
        go_wp2_with (at_builtin; refine wpList_push _ rfl _ _ rfl PP HOP.out ⟨_, 0, none⟩ ⟨A1, m, c1, none, 0, 0⟩ ⟨A1, m, c1, none, 0, 0⟩ rfl rfl (one_block_Prt _ _ _ _ _ _ _ _) rfl (fun p hp => by cases hp) hql2 hbase4 ?_; intro v4 w4 hown4 hg4 hat4)
        have hown5 := (own_shallow (K := kPrt 226) rfl rfl).1 hown4
        have HPS4 : Hid (PS 226 w4 w.heap.size (w.heap.size + 1) v4 (qs ++ [⟨A1, m, c1, none, 0, 0⟩]) (partsV is (t.take k) ++ [(pkV is x.1, [])])) := Lib.hid (PS.push (HPS3.out.later HW4.out) (HRD3.out.later HW4.out) HKEY.out (Nat.le_succ _) hbase4 hown5 hg4 hat4)
        have hmb4 : some w.heap.size ≠ (Value.slice vA qs.length vc).ownBlock := fun e => by have := (HVLT.out _ e.symm).1; omega
        have hnb4 : some wr.heap.size ≠ (Value.slice vA qs.length vc).ownBlock := fun e => by have := (HVLT.out _ e.symm).2; omega
        have HMP4 := Lib.hid ((HMP3.out.later HW4.out).kept hg4 hmb4)
        have q04 := hg4.cell (cell_later HW4.out q03) hnb4
        have q14 := hg4.cell (cell_later HW4.out q13) hnb4
        have HRD4 : Hid (rVal w4 A1 m (pkV is x.1)) := Lib.hid (Fl.kept (HRD3.out.later HW4.out) hg4 fun h0 ad e e2 => (HKEY.out h0 ad e).2.1 e2.symm)
        have HB4w := Lib.hid (below_push2 (btr HB3w.out HW4.out) hg4 (fun y e => by have := (HVLT.out y e).1; omega))
        have HPJ : Hid ((partsV is (t.take k) ++ [(pkV is x.1, ([] : Tab))])[qs.length]? = some (pkV is x.1, [])) := Lib.hid (by rw [HPL.out]; simp)
        have hjl : qs.length < (partsV is (t.take k) ++ [(pkV is x.1, ([] : Tab))]).length := by rw [List.length_append, HPL.out]; simp
        have HT0 : Hid (([] : Tab).length ≤ n) := Lib.hid (Nat.zero_le _)
        have HMISS : Hid (MapOk (setF f (keyS (pkV is x.1)).data.toList (.int .i64 qs.length)) ((partsV is (t.take k) ++ [(pkV is x.1, [])]).set qs.length (pkV is x.1, [] ++ [x]))) := Lib.hid (by
          have := HMO.out.miss HOKK.out HKV.out HNO.out [x]
          rw [← HPL.out] at this
          have e : (partsV is (t.take k) ++ [(pkV is x.1, ([] : Tab))]).set qs.length (pkV is x.1, [] ++ [x]) = partsV is (t.take k) ++ [(pkV is x.1, [x])] := by rw [HPL.out]; simp
          rw [e]; exact this)
        have HADP : Hid (addP (pkV is x.1) x (partsV is (t.take k)) = (partsV is (t.take k) ++ [(pkV is x.1, [])]).set qs.length (pkV is x.1, [] ++ [x])) := Lib.hid (by rw [addP_miss HNO.out, HPL.out]; simp)
        have hj2 : (qs.length : Int) < (qs.length : Int) + 1 := by omega
        clear hown4 hown5 hg4 hat4
        go_wp2_with fail
        refine (keyE A1 m c1 (pkV is x.1) w4 HRD4.out hm HKV.out.1).mono ?_
        rintro e w6 ⟨rfl, hb6⟩
        obtain ⟨w7, hput, hmp7, hg7⟩ := (HMP4.out.later hb6).put Tryz.underlying9 Tryz.underlying240 (by unfold maxLen; omega) (keyS (pkV is x.1)) hks (.int .i64 (qs.length : Nat))
        have HPS7 : Hid (PS 226 w7 w.heap.size (w.heap.size + 1) v4 (qs ++ [⟨A1, m, c1, none, 0, 0⟩]) (partsV is (t.take k) ++ [(pkV is x.1, [])])) := Lib.hid ((HPS4.out.later hb6).low hg7 (fun q e => by cases e; exact ⟨Nat.le_refl _, by omega⟩))
        have hnew : some wr.heap.size ≠ some w.heap.size := fun e => by injection e with e; omega
        have q07 := hg7.cell (cell_later hb6 q04) hnew
        have q17 := hg7.cell (cell_later hb6 q14) hnew
        have HB7 : Hid (Below w.heap.size w w7) := Lib.hid (below_push2 (v := .slice (some ⟨w.heap.size, 0, none⟩) 0 0) (btr HB4w.out hb6) hg7 (fun q e => by cases e; exact Nat.le_refl _))
        have HMP7 := Lib.hid hmp7
        have hjq : qs.length < ((qs ++ [⟨A1, m, c1, none, 0, 0⟩]) : List Prt).length := by have := HPS7.out.len; have := hjl; omega
        obtain ⟨⟨kA, kN, kC, sA, sN, sC⟩, ha⟩ := get_some (l := ((qs ++ [⟨A1, m, c1, none, 0, 0⟩]) : List Prt)) (k := qs.length) hjq
        obtain ⟨pb, hpb, hr⟩ := HPS7.out.rel.get ha
        have hpe : pb = (pkV is x.1, ([] : Tab)) := by have := HPJ.out; rw [this] at hpb; cases hpb; rfl
        subst hpe
        obtain ⟨_, es, hrow, hes⟩ := hr
        obtain ⟨vA2, vc2, hv2, hrp, _⟩ := rPrt_of_own HPS7.out.own
        obtain ⟨g, o2, rfl, hcp⟩ := hrp.opn (by omega)
        obtain ⟨_, p2⟩ := hcp qs.length _ ha
        obtain ⟨g', cc', hform, _, hgl⟩ := World.ownsRow.form HPS7.out.own (by omega)
        rw [hv2] at hform
        cases hform
        simp only [Nat.zero_add] at p2
        have pf : ∀ o, w7.frozen? ⟨g, o, none⟩ = false := fun o => by
          have := HPS7.out.own
          rw [hv2] at this
          exact this.frozenAt o
        have HSEP : Hid (∀ y, (Value.slice sA sN sC).ownBlock = some y → w.heap.size + 1 ≤ y ∧ y < w7.heap.size ∧ y ≠ g) := Lib.hid fun y hy => ⟨(hrow.lt y hy).1, (hrow.lt y hy).2, fun e => HPS7.out.sep _ (List.mem_of_getElem? ha) y hy (by rw [hv2, e]; rfl)⟩
        have HROW : Hid (ownD kEntS (w7.drew.alloc (.cells #[.slice rA rN rC, .int .i64 x.2] 65)) (w.heap.size + 1) (.slice sA sN sC) sN es) := Lib.hid (((own_shallow (K := kEntS) rfl rfl).2 hrow).later ((Below.drew (bself w7)).alloc (Nat.le_refl _) _))
        have HES := Lib.hid hes
        have HA := Lib.hid ha
        have hj1 : (qs.length : Int) < (((qs ++ [⟨A1, m, c1, none, 0, 0⟩]) : List Prt).length : Int) := by omega
        have hj0 : (0 : Int) ≤ (qs.length : Int) := by omega
        have hsN : sN < 1000000 := by
          have h1 : (flat encEnt es).length = sN * 2 := hrow.1
          rw [flat_length encEnt_len] at h1
          have h2 := hes.len
          simp only at h2
          have h3 := HT0.out
          omega
        have HPS8 : Hid (PS 226 (w7.drew.alloc (.cells #[.slice rA rN rC, .int .i64 x.2] 65)) w.heap.size (w.heap.size + 1) (.slice (some ⟨g, 0, none⟩) ((qs ++ [⟨A1, m, c1, none, 0, 0⟩]) : List Prt).length vc2) (qs ++ [⟨A1, m, c1, none, 0, 0⟩]) (partsV is (t.take k) ++ [(pkV is x.1, [])])) := Lib.hid (by
          have := HPS7.out.later ((Below.drew (bself w7)).alloc (Nat.le_refl _) (.cells #[.slice rA rN rC, .int .i64 x.2] 65))
          rw [hv2] at this
          exact this)
        have HES8 : Hid (dAll (oldEnt w.heap.size (w7.drew.alloc (.cells #[.slice rA rN rC, .int .i64 x.2] 65))) es ([] : Tab)) := Lib.hid (hes.imp fun _ _ h => h.kept (grown_below ((Below.drew (bself w7)).alloc (Nat.le_refl _) _)) (fun q e => by cases e))
        have HB8 : Hid (Below w.heap.size w (w7.drew.alloc (.cells #[.slice rA rN rC, .int .i64 x.2] 65))) := Lib.hid ((Below.drew HB7.out).alloc HB7.out.size _)
        have hbase8 : w.heap.size + 1 ≤ (w7.drew.alloc (.cells #[.slice rA rN rC, .int .i64 x.2] 65)).heap.size := by have := HB3.out.size; have := World.block_lt_of_cell? _ _ q07; simp; omega
        have hgl7 : g < w7.heap.size := hgl
        have hg1 : w.heap.size + 1 ≤ g := by
          have := HPS8.out.own.lt g rfl
          exact this.1
        have HMP8 := Lib.hid (HMP7.out.later ((Below.drew (bself w7)).alloc (Nat.le_refl _) (.cells #[.slice rA rN rC, .int .i64 x.2] 65)))
        have p28 : (w7.drew.alloc (.cells #[.slice rA rN rC, .int .i64 x.2] 65)).cell? ⟨g, qs.length * 2 + 1, none⟩ = some (.slice sA sN sC) := cell_later ((Below.drew (bself w7)).alloc (Nat.le_refl _) (.cells #[.slice rA rN rC, .int .i64 x.2] 65)) p2
        have pf8 : (w7.drew.alloc (.cells #[.slice rA rN rC, .int .i64 x.2] 65)).frozen? ⟨g, qs.length * 2 + 1, none⟩ = false := alo_froz hgl7 (pf _)
        have hgl8 : g < (w7.drew.alloc (.cells #[.slice rA rN rC, .int .i64 x.2] 65)).heap.size := Nat.lt_of_lt_of_le hgl7 (ballo w7.drew _).size
        have hge : some g ≠ (Value.slice sA sN sC).ownBlock := fun e => (HSEP.out _ e.symm).2.2 rfl
        clear hmp7 hpb hrow hes hrp hcp ha hg7 hb6
        subst hv2
        go_wp2_with fail
        go_region_law (refine step_push _ (by rfl) _ _ (by rfl) PE HROW.out ⟨_, 0, none⟩ ⟨rA, rN, rC, x.2⟩ ⟨rA, rN, rC, x.2⟩ (by rfl) (by rfl) (one_block_Ent _ _ _ _ _ _) rfl (fun p hp => by cases hp) hsN hbase8 ?_; intro v' w' hown' hgrow hat; obtain ⟨A9, c9, rfl, hcc9, _, _⟩ := hown'.rd; have s1 := hgrow.cell p28 hge; have sf := (hgrow.frozen_far ⟨g, qs.length * 2 + 1, none⟩ hgl8 hge).trans pf8)
        all_goals
          have hrow9 := (own_shallow (K := kEntS) rfl rfl).1 hown'
          have hB9 := below_push2 HB8.out hgrow (fun y e => by have := (HSEP.out y e).1; omega)
          have HOLD : oldEnt w.heap.size w' ⟨rA, rN, rC, x.2⟩ x := ⟨⟨X3.out.later hB9, rfl⟩, fun h0 ad e => rVal_lt X3.out h0 ad e⟩
          have HADD := Lib.hid (PS.add (i := qs.length) HPS8.out HA.out HPJ.out (Nat.le_succ _) hbase8 HES8.out HOLD hrow9 hgrow hat rfl)
          have hmb : some w.heap.size ≠ (Value.slice sA sN sC).ownBlock := fun e => by have := (HSEP.out _ e.symm).1; omega
          have HMP9 := Lib.hid (HMP8.out.kept hgrow hmb)
          have HMPF := Lib.hid (HMP9.out.kept (row := some g) (w' := w'.setCell ⟨g, qs.length * 2 + 1, none⟩ (.slice A9 (sN + 1) c9)) ⟨rfl, rfl, rfl, by simp, fun b _ hne => Below.heap_setCell _ _ _ _ (by show b ≠ g; exact fun e => hne (by rw [e]))⟩ (fun e => by injection e with e; omega))
          have HBF := Lib.hid (hB9.setCell (p := ⟨g, qs.length * 2 + 1, none⟩) (by show w.heap.size ≤ g; omega) (.slice A9 (sN + 1) c9))
          have hszf : w.heap.size < (w'.setCell ⟨g, qs.length * 2 + 1, none⟩ (.slice A9 (sN + 1) c9)).heap.size := by have h1 : (w7.drew.alloc (.cells #[.slice rA rN rC, .int .i64 x.2] 65)).heap.size ≤ w'.heap.size := hgrow.size; have h2 := hbase8; simp only [World.size_setCell]; omega
          clear hown' hrow9 hgrow hat hB9 HOLD
          go_wp2
          go_roundw
          case rel => exact ⟨k + 1, _, _, by omega, by go_num, HBF.out, hszf, Lib.hid (by rw [HTK.out, HADP.out]; exact PS.len_cast HADD.out (by simp)), HMPF, Lib.hid (by rw [HTK.out, HADP.out]; exact HMISS.out)⟩
          case measure => simp [intOf]; omega
    · obtain rfl : k = n := by omega
      have HTT : Hid (t.take k = t) := Lib.hid (List.take_of_length_le (by have := HL.out; omega))
      obtain ⟨vA, vc, rfl, _, _⟩ := rPrt_of_own HPS.out.own
      go_wp2
      go_ret
      exact ⟨_, _, _, qs, rfl, by have := HPS.out; rw [HTT.out] at this; exact this, hbw⟩
end
section
open Go.RowKit Go.BigFrame
set_option linter.unusedSimpArgs false
set_option linter.unusedVariables false

theorem Asc.at_ : ∀ {t : Tab} (_ : Asc t) {i j : Nat} {p x : List Val × Int} (_ : i < j) (_ : t[i]? = some p) (_ : t[j]? = some x), cmpR p.1 x.1 < 0
  | [], _, i, j, p, x, _, hi, _ => by simp at hi
  | y :: t, h, 0, j + 1, p, x, _, hi, hj => by
    simp at hi; subst hi
    exact h.1 x (List.mem_of_getElem? (by simpa using hj))
  | y :: t, h, i + 1, j + 1, p, x, hl, hi, hj => Asc.at_ h.2 (i := i) (j := j) (by omega) (by simpa using hi) (by simpa using hj)
set_option maxRecDepth 100000 in
set_option maxHeartbeats 1000000 in
theorem bvalE (A : Option Addr) (n c : Nat) (t : Tab) (w : World) (ht : rTab w A n t) (hok : okBag t) : Calls Tryz.prog 66 #[.slice A n c] w fun e w' => e = .returned (.int .i64 0) ∧ Below w.heap.size w w' := by
  have HT := Lib.hid ht
  have HL := Lib.hid ht.len
  have HK := Lib.hid hok
  have hn : n ≤ 4096 := by have := ht.len; have := hok.1; omega
  have d1 : decide (4096 < n) = false := by simp; omega
  clear ht hok
  go_enter Tryz.func66, Tryz.ntmps66
  go_wp2
  go_loopw [11] (fun i wr => ∃ k : Nat, k ≤ n ∧ i = .int .i64 k ∧ Below w.heap.size w wr) (fun i _ => n - (intOf i).toNat)
  case atStart => exact ⟨0, by omega, rfl, bself _⟩
  case round =>
    obtain ⟨k, hk, rfl, hbw⟩ := hrel
    have HBW := Lib.hid hbw
    by_cases hlt : k < n
    · obtain ⟨b1, o1, rfl, hc1⟩ := HT.out.opn (by omega)
      obtain ⟨x, hx⟩ := get_some (l := t) (k := k) (by have := HL.out; omega)
      obtain ⟨rA, rN, rC, x1, x2, x3⟩ := hc1 k x hx
      have hm := HK.out.2.2 x (List.mem_of_getElem? hx)
      have e0 : (x.2 == 0) = false := by have := HK.out.2.1.2 x (List.mem_of_getElem? hx); simp; exact this
      have y1 := cell_later hbw x1
      have y2 := cell_later hbw x2
      have X3 := Lib.hid x3
      have h12 := hm.1
      have HF := Lib.hid (formedE rA rN rC x.1 x.2 (wr.alloc (.cells #[.slice rA rN rC, .int .i64 x.2] 65)) (x3.later (btr hbw (ballo _ _))) hm.1 hm.2.2.2 hm.2.1 hm.2.2.1)
      by_cases hk0 : k = 0
      · subst hk0
        simp only [Nat.zero_mul, Nat.add_zero] at y1 y2
        clear hc1 hx x3 hm hbw
        go_wp2_with fail
        refine HF.out.mono ?_
        rintro e w2 ⟨rfl, hb2⟩
        have z1 : w2.cell? ⟨wr.heap.size, 0, none⟩ = some (.slice rA rN rC) := cell_later hb2 (by simp)
        have z2 : w2.cell? ⟨wr.heap.size, 1, none⟩ = some (.int .i64 x.2) := cell_later hb2 (by simp)
        have HB2 := Lib.hid (btr HBW.out (btr (ballo _ _) hb2))
        clear hb2
        go_wp2_with fail
        go_quiet (fail)
        go_wp2
        go_roundw
        case rel => exact ⟨1, by omega, by go_num, below_drewN HB2.out _⟩
        case measure => simp [intOf]; omega
      · obtain ⟨p, hp⟩ := get_some (l := t) (k := k - 1) (by have := HL.out; omega)
        obtain ⟨qA, qN, qC, p1, p2, p3⟩ := hc1 (k - 1) p hp
        have hcm := HK.out.2.1.1.at_ (by omega) hp hx
        have k1 : decide (0 ≤ cmpR p.1 x.1) = false := by simp; omega
        have P3 := Lib.hid p3
        have hp12 := (HK.out.2.2 p (List.mem_of_getElem? hp)).1
        have d3 : decide (0 < k) = true := by simp; omega
        have i0 : (1 : Int) ≤ (k : Int) := by omega
        have i1 : IntKind.i64.wrap ((k : Int) - 1) = (k : Int) - 1 := by rw [IntKind.wrap_i64]; omega
        have i2 : ((k : Int) - 1).toNat = k - 1 := by omega
        have i3 : (k : Int) - 1 < n := by omega
        have i4 : (0 : Int) ≤ (k : Int) - 1 := by omega
        clear hc1 hx x3 hm hbw hcm hk0 hp p3
        go_wp2_with fail
        refine HF.out.mono ?_
        rintro e w2 ⟨rfl, hb2⟩
        have z1 : w2.cell? ⟨wr.heap.size, 0, none⟩ = some (.slice rA rN rC) := cell_later hb2 (by simp)
        have z2 : w2.cell? ⟨wr.heap.size, 1, none⟩ = some (.int .i64 x.2) := cell_later hb2 (by simp)
        have hbA := btr HBW.out (btr (ballo _ _) hb2)
        have HB2 := Lib.hid hbA
        have g1 := Gro.cell z1
        have g2 := Gro.cell (cell_later hbA p1)
        clear hb2 hbA
        go_wp2_with fail
        refine wp_region_quiet_gro (by kernel_rfl) (by kernel_rfl) ?_; (repeat (go_big_quiet_step ((go_at_call 42; exact Calls.gro_of (cmrE qA qN qC rA rN rC p.1 x.1 _ (P3.out.later (btr HB2.out (Gro.below _))) (X3.out.later (btr HB2.out (Gro.below _))) (by omega) (by omega)))))); refine wpQuiet_nil ?_; intro _ hw'; obtain ⟨pq, hw''⟩ := hw'; subst hw''; have hbq := pq.below; revert hbq; generalize pq.world = wq; intro hbq
        have HB3 := Lib.hid (btr HB2.out hbq)
        clear g1 g2 hbq
        go_wp2
        go_roundw
        case rel => exact ⟨k + 1, by omega, by go_num, HB3.out⟩
        case measure => simp [intOf]; omega
    · go_wp2
      go_ret
      exact ⟨ret_int rfl, hbw⟩
theorem clo69 (rA : Option Addr) (rN rC : Nat) (c : Int) (w : World) (h : 0 < c) : Calls Tryz.prog 69 #[.agg #[.slice rA rN rC, .int .i64 c]] w fun e w' => e = .returned (.bool false) ∧ Below w.heap.size w w' := by
  go_enter Tryz.func69, Tryz.ntmps69
  go_wp2
  go_ret
  exact ⟨ret_bool (by simp; omega), ballo _ _⟩
set_option maxRecDepth 100000 in
theorem idx_96_69  (p : Ent → Bool) (A : Option Addr) (n c : Nat) (l : List Ent) (w : World) (h : rEnt w A n l) (hn : n ≤ 100000)
    (hG : ∀ (W : World) (x : Ent), Below w.heap.size w W → x ∈ l → Calls Tryz.prog 69 #[.agg #[.slice x.rA x.rN x.rC, .int .i64 x.c]] W fun e w' => e = .returned (.bool (p x)) ∧ Below W.heap.size W w') :
    Calls Tryz.prog 96 #[.slice A n c, .func (.func 69) #[] #[]] w fun e w' => e = .returned (.int .i64 (idxV p l)) ∧ Below w.heap.size w w' := by
  have HA := Lib.hid h
  have LA := Lib.hid h.len
  have HG := Lib.hid hG
  clear h hG
  go_enter Tryz.func96, Tryz.ntmps96
  go_wp2
  go_loopw [8] (fun i wr => ∃ k : Nat, k ≤ n ∧ i = .int .i64 k ∧ Below w.heap.size w wr ∧ Hid (NoneTo p l k)) (fun i _ => n - (intOf i).toNat)
  case atStart => exact ⟨0, by omega, rfl, bself _, Lib.hid fun j _ hj => absurd hj (by omega)⟩
  case round =>
    obtain ⟨k, hk, rfl, hbw, HS⟩ := hrel
    have HBW := Lib.hid hbw
    by_cases h1 : k < n
    · obtain ⟨b1, o1, rfl, hc1⟩ := (HA.out.later hbw).opn (by omega)
      obtain ⟨x, hx⟩ := get_some (l := l) (k := k) (by have := LA.out; omega)
      have hcells := hc1 k x hx
      have HX := Lib.hid hx
      have HC := Lib.hid (HG.out wr x hbw (List.mem_of_getElem? hx))
      clear hc1 hx hbw
      (repeat (obtain ⟨_, hcells⟩ := hcells))
      cases hz : p x
      · have HZ := Lib.hid hz
        go_wp2_with fail
        refine HC.out.mono ?_
        rintro e w2 ⟨rfl, hb2⟩
        have HB2 := Lib.hid (btr HBW.out hb2)
        clear hb2
        go_wp2
        go_roundw
        case rel => exact ⟨k + 1, by omega, by go_num, HB2.out, Lib.hid (HS.out.succ HX.out HZ.out)⟩
        case measure => simp [intOf]; omega
      · have HZ := Lib.hid hz
        go_wp2_with fail
        refine HC.out.mono ?_
        rintro e w2 ⟨rfl, hb2⟩
        have HB2 := Lib.hid (btr HBW.out hb2)
        clear hb2
        go_wp2
        go_ret
        exact ⟨ret_int (idxV_hit HS.out HX.out HZ.out).symm, HB2.out⟩
    · go_wp2
      go_ret
      exact ⟨ret_int (idxV_miss (fun j y hy => HS.out j y (by have := LA.out; have := (List.getElem?_eq_some_iff.1 hy).1; omega) hy)).symm, hbw⟩
theorem cont68 (A : Option Addr) (n c : Nat) (t : Tab) (w : World) (ht : rTab w A n t) (hn : n ≤ 100000) (hp : ∀ x ∈ t, 0 < x.2) :
    Calls Tryz.prog 68 #[.slice A n c, .func (.func 69) #[] #[]] w fun e w' => e = .returned (.bool false) ∧ Below w.heap.size w w' := by
  obtain ⟨es, h1, h2⟩ := ht
  have H := Lib.hid (idx_96_69 (fun _ => false) A n c es w h1 hn (fun W x _ hx => by
    obtain ⟨j, hj⟩ := List.getElem?_of_mem hx
    obtain ⟨y, hy, hr⟩ := h2.get hj
    exact clo69 x.rA x.rN x.rC x.c W (by rw [hr.2]; exact hp y (List.mem_of_getElem? hy))))
  have hi : Hid (idxV (fun _ : Ent => false) es = -1) := Lib.hid (idxV_miss fun _ _ _ => rfl)
  have H2 : Hid (Calls Tryz.prog 96 #[.slice A n c, .func (.func 69) #[] #[]] w fun e w' => e = .returned (.int .i64 (-1)) ∧ Below w.heap.size w w') := Lib.hid (by have h := H.out; rw [hi.out] at h; exact h)
  clear h1 h2 H hi hp
  go_enter Tryz.func68, Tryz.ntmps68
  go_wp2_with (go_at_call 96; refine (H2.out).mono ?_; rintro e w' ⟨rfl, hb⟩)
  go_ret
  exact ⟨ret_bool rfl, hb⟩
theorem isTabE (A : Option Addr) (n c : Nat) (t : Tab) (w : World) (ht : rTab w A n t) (hok : okTab t) : Calls Tryz.prog 41 #[.slice A n c] w fun e w' => e = .returned (.bool true) ∧ Below w.heap.size w w' := by
  have H := Lib.hid (bvalE A n c t w ht hok.1)
  have H2 := Lib.hid fun W (hb : Below w.heap.size w W) => cont68 A n c t W (ht.later hb) (by have := ht.len; have := hok.1.1; omega) hok.2
  clear ht hok
  go_enter Tryz.func41, Tryz.ntmps41
  go_wp2_with fail
  refine H.out.mono ?_
  rintro e w1 ⟨rfl, hb1⟩
  have HB1 := Lib.hid hb1
  have H3 := Lib.hid (H2.out w1 hb1)
  clear hb1
  go_wp2_with fail
  refine H3.out.mono ?_
  rintro e w2 ⟨rfl, hb2⟩
  have HB2 := Lib.hid (btr HB1.out hb2)
  clear hb2
  go_wp2
  go_ret
  exact ⟨ret_bool rfl, HB2.out⟩
end
section
open Go.RowKit Go.BigFrame
set_option linter.unusedSimpArgs false
set_option linter.unusedVariables false

theorem rows285 (n : Int) (w : World) (h1 : -268435456 ≤ n) (h2 : n ≤ 268435456) : Calls Tryz.prog 285 #[.int .i64 n] w fun e w' => e = .returned (.bool true) ∧ w' = w := by
  have d1 : decide (-268435456 ≤ n) = true := by simp; omega
  have d2 : decide (n ≤ 268435456) = true := by simp; omega
  go_enter Tryz.func285, Tryz.ntmps285
  go_wp2
  go_ret
  exact ⟨ret_bool rfl, rfl⟩
/-- single values, not null -/
def oneVs (vs : Tab) : Prop := ∀ x ∈ vs, ∃ v, x.1 = [v] ∧ v.k ≠ 0
set_option maxRecDepth 100000 in
set_option maxHeartbeats 1000000 in
theorem gvalE (n : Int) (A : Option Addr) (m c : Nat) (vs : Tab) (w : World) (h1 : -268435456 ≤ n) (h2 : n ≤ 268435456) (ht : rTab w A m vs) (hok : okBag vs) (hone : oneVs vs) :
    Calls Tryz.prog 256 #[.agg #[.int .i64 n, .slice A m c]] w fun e w' => e = .returned (.int .i64 0) ∧ Below w.heap.size w w' := by
  have HT := Lib.hid ht
  have HL := Lib.hid ht.len
  have HONE := Lib.hid hone
  have HB := Lib.hid (bvalE A m c vs (w.alloc (.cells #[.int .i64 n, .slice A m c] 228)) (ht.later (ballo _ _)) hok)
  have HR := Lib.hid fun W => rows285 n W h1 h2
  have hm4 : m ≤ 4096 := by have := ht.len; have := hok.1; omega
  clear ht hok hone
  go_enter Tryz.func256, Tryz.ntmps256
  go_wp2_with fail
  refine (HR.out _).mono ?_
  rintro e w' ⟨rfl, rfl⟩
  go_wp2_with fail
  refine HB.out.mono ?_
  rintro e w2 ⟨rfl, hb2⟩
  have c1 : w2.cell? ⟨w.heap.size, 1, none⟩ = some (.slice A m c) := cell_later hb2 (by simp)
  have HB2 := Lib.hid (btr (ballo _ _) hb2)
  clear hb2
  go_wp2
  go_loopw [19] (fun i wr => ∃ k : Nat, k ≤ m ∧ i = .int .i64 k ∧ Below w.heap.size w wr) (fun i _ => m - (intOf i).toNat)
  case atStart => exact ⟨0, by omega, rfl, HB2.out⟩
  case round =>
    obtain ⟨k, hk, rfl, hbw⟩ := hrel
    by_cases hlt : k < m
    · obtain ⟨b1, o1, rfl, hc1⟩ := (HT.out.later hbw).opn (by omega)
      obtain ⟨x, hx⟩ := get_some (l := vs) (k := k) (by have := HL.out; omega)
      obtain ⟨rA, rN, rC, x1, x2, x3⟩ := hc1 k x hx
      obtain ⟨v, hv, hk0⟩ := HONE.out x (List.mem_of_getElem? hx)
      rw [hv] at x3
      obtain rfl : 1 = rN := x3.len
      obtain ⟨b2, o2, rfl, hc2⟩ := x3.opn (by omega)
      obtain ⟨v1, v2, v3⟩ := hc2 0 v rfl
      simp only [Nat.zero_mul, Nat.add_zero] at v1 v2 v3
      have u1 := cell_later (ballo wr (.cells #[.slice (some ⟨b2, o2, none⟩) 1 rC, .int .i64 x.2] 65)) v1
      have hz : (v.k == 0) = false := by simp; exact hk0
      have HBF := Lib.hid (hbw.alloc hbw.size (.cells #[.slice (some ⟨b2, o2, none⟩) 1 rC, .int .i64 x.2] 65))
      clear hc1 hx x3 hc2 hk0 hbw
      go_wp2
      go_roundw
      case rel => exact ⟨k + 1, by omega, by go_num, HBF.out⟩
      case measure => simp [intOf]; omega
    · go_wp2
      go_ret
      exact ⟨ret_int rfl, hbw⟩
def numF (vs : Tab) : Int := sumF (fun r => (r.headD zV).m) vs
theorem numF_snoc (l : Tab) (x : List Val × Int) : numF (l ++ [x]) = numF l + (x.1.headD zV).m * x.2 := by
  unfold numF
  induction l with
  | nil => simp [sumF]
  | cons y l ih => rw [List.cons_append, sumF, sumF, ih]; omega
/-- numbers that stay small -/
def smallN (vs : Tab) : Prop := ∀ x ∈ vs, 0 < x.2 ∧ -1073741824 ≤ (x.1.headD zV).m ∧ (x.1.headD zV).m ≤ 1073741824
theorem mul_small {a b c : Int} (h0 : 0 < b) (h1 : -1073741824 ≤ a) (h2 : a ≤ 1073741824) : -1073741824 * b ≤ a * b ∧ a * b ≤ 1073741824 * b :=
  ⟨Int.mul_le_mul_of_nonneg_right h1 (by omega), Int.mul_le_mul_of_nonneg_right h2 (by omega)⟩
theorem numF_small : ∀ {vs : Tab} (_ : smallN vs), -1073741824 * sumC vs ≤ numF vs ∧ numF vs ≤ 1073741824 * sumC vs
  | [], _ => by simp [numF, sumF, sumC]
  | x :: l, h => by
    obtain ⟨a, b⟩ := numF_small (vs := l) fun y hy => h y (List.mem_cons_of_mem _ hy)
    obtain ⟨h0, h1, h2⟩ := h x (List.mem_cons_self ..)
    have hm := mul_small (c := 0) h0 h1 h2
    unfold numF at *
    rw [sumF, sumC]
    omega
theorem smallN.take {vs : Tab} (h : smallN vs) (k : Nat) : smallN (vs.take k) := fun x hx => h x (List.mem_of_mem_take hx)
theorem sumC_take_le {vs : Tab} (h : ∀ x ∈ vs, 0 < x.2) (k : Nat) : 0 ≤ sumC (vs.take k) ∧ sumC (vs.take k) ≤ sumC vs := by
  have h3 := sumC_split vs k
  have h4 := sumC_nn (l := vs.drop k) fun y hy => h y (List.mem_of_mem_drop hy)
  exact ⟨sumC_nn fun y hy => h y (List.mem_of_mem_take hy), by omega⟩
set_option maxRecDepth 100000 in
set_option maxHeartbeats 1000000 in
theorem totE (A : Option Addr) (m c : Nat) (vs : Tab) (w : World) (ht : rTab w A m vs) (hone : oneVs vs) (hsm : smallN vs) (hs : sumC vs ≤ 65536) (hm : m ≤ 4096) :
    Calls Tryz.prog 257 #[.slice A m c] w fun e w' => e = .returned (.tuple #[.int .i64 (numF vs), .int .i64 (sumC vs)]) ∧ Below w.heap.size w w' := by
  have HT := Lib.hid ht
  have HL := Lib.hid ht.len
  have HONE := Lib.hid hone
  have HSM := Lib.hid hsm
  have HS := Lib.hid hs
  clear ht hone hsm hs
  go_enter Tryz.func257, Tryz.ntmps257
  go_wp2
  go_loopw [2, 3, 8] (fun a b i wr => ∃ k : Nat, k ≤ m ∧ i = .int .i64 k ∧ a = .int .i64 (numF (vs.take k)) ∧ b = .int .i64 (sumC (vs.take k)) ∧ Below w.heap.size w wr) (fun _ _ i _ => m - (intOf i).toNat)
  case atStart => exact ⟨0, by omega, rfl, rfl, rfl, bself _⟩
  case round =>
    obtain ⟨k, hk, rfl, rfl, rfl, hbw⟩ := hrel
    by_cases hlt : k < m
    · obtain ⟨b1, o1, rfl, hc1⟩ := (HT.out.later hbw).opn (by omega)
      obtain ⟨x, hx⟩ := get_some (l := vs) (k := k) (by have := HL.out; omega)
      obtain ⟨rA, rN, rC, x1, x2, x3⟩ := hc1 k x hx
      have hmem := List.mem_of_getElem? hx
      obtain ⟨v, hv, hk0⟩ := HONE.out x hmem
      obtain ⟨hp1, hp2, hp3⟩ := HSM.out x hmem
      have e0 : (x.1.headD zV).m = v.m := by rw [hv]; rfl
      rw [e0] at hp2 hp3
      rw [hv] at x3
      obtain rfl : 1 = rN := x3.len
      obtain ⟨b2, o2, rfl, hc2⟩ := x3.opn (by omega)
      obtain ⟨v1, v2, v3⟩ := hc2 0 v rfl
      simp only [Nat.zero_mul, Nat.add_zero] at v1 v2 v3
      have u2 := cell_later (ballo wr (.cells #[.slice (some ⟨b2, o2, none⟩) 1 rC, .int .i64 x.2] 65)) v2
      have HBF := Lib.hid (hbw.alloc hbw.size (.cells #[.slice (some ⟨b2, o2, none⟩) 1 rC, .int .i64 x.2] 65))
      have e1 : numF (vs.take (k + 1)) = numF (vs.take k) + v.m * x.2 := by rw [take_snoc hx, numF_snoc, e0]
      have e2 : sumC (vs.take (k + 1)) = sumC (vs.take k) + x.2 := by rw [take_snoc hx, sumC_append]; simp [sumC]
      have s1 := sumC_take_le (vs := vs) (fun x hx => (HSM.out x hx).1) k
      have s2 := sumC_take_le (vs := vs) (fun x hx => (HSM.out x hx).1) (k + 1)
      have s3 := numF_small (HSM.out.take k)
      have s4 := numF_small (HSM.out.take (k + 1))
      have hml := mul_small (c := 0) hp1 hp2 hp3
      have hS := HS.out
      have m1 : IntKind.i64.wrap (v.m * x.2) = v.m * x.2 := by rw [IntKind.wrap_i64]; omega
      have m2 : IntKind.i64.wrap (numF (vs.take k) + v.m * x.2) = numF (vs.take k) + v.m * x.2 := by rw [IntKind.wrap_i64]; omega
      have m3 : IntKind.i64.wrap (sumC (vs.take k) + x.2) = sumC (vs.take k) + x.2 := by rw [IntKind.wrap_i64]; omega
      have E1 := Lib.hid e1
      have E2 := Lib.hid e2
      clear hc1 hx x3 hc2 hk0 hbw e1 e2 s1 s2 s3 s4 hml hS e0 hp1 hp2 hp3
      go_wp2_with fail
      go_quiet (fail)
      go_wp2
      go_roundw
      case rel => exact ⟨k + 1, by omega, by go_num, by rw [E1.out], by rw [E2.out], below_drewN HBF.out _⟩
      case measure => simp [intOf]; omega
    · obtain rfl : k = m := by omega
      have E : Hid (vs.take k = vs) := Lib.hid (List.take_of_length_le (by have := HL.out; omega))
      go_wp2
      go_ret2
      exact ⟨by rw [E.out]; rfl, hbw⟩
theorem integerE (n : Int) (w : World) : Calls Tryz.prog 258 #[.int .i64 n] w fun e w' => e = .returned (intV n).val ∧ Below w.heap.size w w' := by
  by_cases h1 : n < -1073741824
  · have d1 : decide (n < -1073741824) = true := by simp; omega
    have hv : intV n = zV := if_pos (.inl h1)
    go_enter Tryz.func258, Tryz.ntmps258
    go_wp2
    refine bodyPost_ret (v := zV.val) (by simp [results, Tryz.results258, go_sem, zV, Val.val]) rfl ?_
    exact ⟨by first | rfl | rw [hv], by (repeat (first | exact Below.refl _ _ | assumption | refine Below.drew ?_ | refine Below.alloc ?_ (by first | (simp; done) | (simp; omega)) _))⟩
  · have d1 : decide (n < -1073741824) = false := by simp; omega
    by_cases h2 : 1073741824 < n
    · have d2 : decide (1073741824 < n) = true := by simp; omega
      have hv : intV n = zV := if_pos (.inr h2)
      go_enter Tryz.func258, Tryz.ntmps258
      go_wp2
      refine bodyPost_ret (v := zV.val) (by simp [results, Tryz.results258, go_sem, zV, Val.val]) rfl ?_
      exact ⟨by first | rfl | rw [hv], by (repeat (first | exact Below.refl _ _ | assumption | refine Below.drew ?_ | refine Below.alloc ?_ (by first | (simp; done) | (simp; omega)) _))⟩
    · have d2 : decide (1073741824 < n) = false := by simp; omega
      have hv : intV n = ⟨2, n, ⟨#[]⟩⟩ := if_neg (by omega)
      go_enter Tryz.func258, Tryz.ntmps258
      go_wp2
      refine bodyPost_ret (v := (⟨2, n, ⟨#[]⟩⟩ : Val).val) (by simp [results, Tryz.results258, go_sem, Val.val]) rfl ?_
      exact ⟨by first | rfl | rw [hv], by (repeat (first | exact Below.refl _ _ | assumption | refine Below.drew ?_ | refine Below.alloc ?_ (by first | (simp; done) | (simp; omega)) _))⟩
end
section
open Go.RowKit Go.BigFrame Go.Shelf Go.Sort Go.Lib
set_option linter.unusedSimpArgs false
set_option linter.unusedVariables false

def revEnt_ren : Go.Shelf.Ren := ⟨fun | 35 => 260 | n => n, fun | 22 => 29 | 23 => 65 | 3 => 3 | 4 => 4 | 0 => 0 | n => n, fun | n => n⟩
theorem revEnt : Go.Proofs.SlLaysE0.n35 Tryz.prog revEnt_ren := {
  mixed := by kernel_rfl
  f35 := ⟨Tryz.f260.name, by decide, Tryz.func260.trans (congrArg some (by kernel_rfl))⟩
  t0 := Tryz.underlying0
  a0 := Tryz.isAgg0
  z0 := Tryz.sizeOf0
  v0 := Tryz.zeroValue0
  t3 := Tryz.underlying3
  a3 := Tryz.isAgg3
  z3 := Tryz.sizeOf3
  v3 := Tryz.zeroValue3
  t4 := Tryz.underlying4
  a4 := Tryz.isAgg4
  z4 := Tryz.sizeOf4
  v4 := Tryz.zeroValue4
  t22 := Tryz.underlying29
  a22 := Tryz.isAgg29
  z22 := Tryz.sizeOf29
  v22 := Tryz.zeroValue29 }
instance : Inhabited Ent := ⟨⟨none, 0, 0, 0⟩⟩
theorem putRow_sort {α : Type} [Inhabited α] (enc : α → List Value) (k : Nat) (w : World) (blk m : Nat) (d : Array α) : putRowK enc k (Sort.ahead w m) blk 0 d = sortWorldK enc k w blk 0 m d #[] := by
  unfold sortWorldK; rw [grow_empty]
theorem dAll_rev {α β : Type} {R : α → β → Prop} {l : List α} {m : List β} (h : dAll R l m) : dAll R l.reverse m.reverse := by
  refine dAll.of_get (by simp [h.len]) fun j a b ha hb => ?_
  have hl := h.len
  have hj : j < l.length := by have := (List.getElem?_eq_some_iff.1 ha).1; simpa using this
  rw [List.getElem?_reverse hj] at ha
  rw [List.getElem?_reverse (by omega), ← hl] at hb
  obtain ⟨b', hb', hr⟩ := h.get ha
  rw [hb] at hb'
  cases hb'
  exact hr
theorem revE (A : Option Addr) (n c : Nat) (t : Tab) (w w1 : World) (hb : Below w.heap.size w w1) (hown : ownD kEnt w1 w.heap.size (.slice A n c) n t) (hn : n ≤ 100000) :
    Calls Tryz.prog 260 #[.slice A n c] w1 fun e w' => e = .returned (.tuple #[]) ∧ rTab w' A n t.reverse ∧ Below w.heap.size w w' := by
  rcases Nat.eq_zero_or_pos n with rfl | hn0
  · have hl := hown.len
    obtain rfl : t = [] := List.eq_nil_of_length_eq_zero hl
    refine (AnyQ.slices_Reverse_empty revEnt A c w1).mono ?_
    rintro e w' ⟨rfl, rfl⟩
    exact ⟨rfl, rTab.nil _ _, hb⟩
  · obtain ⟨es, h1, h2, h3⟩ := hown
    have hlen : es.length = n := by
      have : (flat encEnt es).length = n * 2 := h1.1
      rw [flat_length encEnt_len] at this
      omega
    obtain ⟨_, ⟨e1, _⟩ | ⟨g, cap, cur, e1, b1, b2, b3, b4, b5, b6⟩⟩ := h1
    · cases e1 <;> omega
    cases e1
    have hsz : es.toArray.size = n := by simp [hlen]
    have hH : HoldsK encEnt 2 w1 g 0 es.toArray := holdsK_of (enc := encEnt) (k := 2) (fun _ => rfl) (Nat.succ_pos 1) b2 (by
      rw [hsz]
      exact b6)
    have hcon := AnyQ.slices_Reverse revEnt 2 Tryz.isAgg65 Tryz.sizeOf65 encEnt (fun _ => rfl) (fun x v hv => one1_Ent x v hv) g 0 c es.toArray w1 hH (by rw [hsz]; omega)
    change Calls Tryz.prog 260 _ _ _ at hcon
    rw [hsz] at hcon
    refine hcon.mono ?_
    rintro e w' ⟨rfl, q, rfl⟩
    rw [putRow_sort]
    have hg := sortW_grown encEnt 2 w1 g 0 q es.toArray.reverse #[]
    refine ⟨rfl, ?_, hb.trans (below_of_grown hg hb.size fun k e => by cases e; exact b1)⟩
    obtain ⟨cs', k1, k2, k3⟩ := sortW_at encEnt 2 (fun _ => rfl) (Nat.succ_pos 1) w1 g q es.toArray.reverse #[] b2 (by
      rw [Array.size_reverse, hsz]
      have : cur.size = c * 2 := b5
      rw [this]
      exact Nat.mul_le_mul_right 2 b3)
    rw [Array.size_reverse, hsz] at k3
    refine ⟨es.reverse, fl_of_cells (by rw [flat_length encEnt_len, List.length_reverse, hlen]) fun j u hu => ?_, ?_⟩
    · have e2 : es.toArray.reverse.toList = es.reverse := by simp
      rw [e2] at k3
      rw [← k3, List.getElem?_take] at hu
      split at hu
      · rw [World.cell?, Nat.zero_add, k1]
        simpa using hu
      · cases hu
    · refine dAll_rev (dAll.of_get h2.len fun j a b ha hb2 => ?_)
      obtain ⟨b', hb', hr⟩ := h2.get ha
      rw [hb2] at hb'
      cases hb'
      exact kEnt.kept hr hg (h3 a (List.mem_of_getElem? ha))
theorem posE (x : Ent) (w : World) (h : 0 < x.c) : Calls Tryz.prog 259 #[.agg #[.slice x.rA x.rN x.rC, .int .i64 x.c]] w fun e w' => e = .returned (.bool true) ∧ Below w.heap.size w w' := by
  go_enter Tryz.func259, Tryz.ntmps259
  go_wp2
  go_ret
  exact ⟨ret_bool (by simp <;> omega), ballo _ _⟩
set_option maxRecDepth 100000 in
theorem idx_96_259  (p : Ent → Bool) (A : Option Addr) (n c : Nat) (l : List Ent) (w : World) (h : rEnt w A n l) (hn : n ≤ 100000)
    (hG : ∀ (W : World) (x : Ent), Below w.heap.size w W → x ∈ l → Calls Tryz.prog 259 #[.agg #[.slice x.rA x.rN x.rC, .int .i64 x.c]] W fun e w' => e = .returned (.bool (p x)) ∧ Below W.heap.size W w') :
    Calls Tryz.prog 96 #[.slice A n c, .func (.func 259) #[] #[]] w fun e w' => e = .returned (.int .i64 (idxV p l)) ∧ Below w.heap.size w w' := by
  have HA := Lib.hid h
  have LA := Lib.hid h.len
  have HG := Lib.hid hG
  clear h hG
  go_enter Tryz.func96, Tryz.ntmps96
  go_wp2
  go_loopw [8] (fun i wr => ∃ k : Nat, k ≤ n ∧ i = .int .i64 k ∧ Below w.heap.size w wr ∧ Hid (NoneTo p l k)) (fun i _ => n - (intOf i).toNat)
  case atStart => exact ⟨0, by omega, rfl, bself _, Lib.hid fun j _ hj => absurd hj (by omega)⟩
  case round =>
    obtain ⟨k, hk, rfl, hbw, HS⟩ := hrel
    have HBW := Lib.hid hbw
    by_cases h1 : k < n
    · obtain ⟨b1, o1, rfl, hc1⟩ := (HA.out.later hbw).opn (by omega)
      obtain ⟨x, hx⟩ := get_some (l := l) (k := k) (by have := LA.out; omega)
      have hcells := hc1 k x hx
      have HX := Lib.hid hx
      have HC := Lib.hid (HG.out wr x hbw (List.mem_of_getElem? hx))
      clear hc1 hx hbw
      (repeat (obtain ⟨_, hcells⟩ := hcells))
      cases hz : p x
      · have HZ := Lib.hid hz
        go_wp2_with fail
        refine HC.out.mono ?_
        rintro e w2 ⟨rfl, hb2⟩
        have HB2 := Lib.hid (btr HBW.out hb2)
        clear hb2
        go_wp2
        go_roundw
        case rel => exact ⟨k + 1, by omega, by go_num, HB2.out, Lib.hid (HS.out.succ HX.out HZ.out)⟩
        case measure => simp [intOf]; omega
      · have HZ := Lib.hid hz
        go_wp2_with fail
        refine HC.out.mono ?_
        rintro e w2 ⟨rfl, hb2⟩
        have HB2 := Lib.hid (btr HBW.out hb2)
        clear hb2
        go_wp2
        go_ret
        exact ⟨ret_int (idxV_hit HS.out HX.out HZ.out).symm, HB2.out⟩
    · go_wp2
      go_ret
      exact ⟨ret_int (idxV_miss (fun j y hy => HS.out j y (by have := LA.out; have := (List.getElem?_eq_some_iff.1 hy).1; omega) hy)).symm, hbw⟩
theorem firstE (A : Option Addr) (n c : Nat) (t : Tab) (w : World) (ht : rTab w A n t) (hn : n ≤ 100000) (hp : ∀ x ∈ t, 0 < x.2) :
    Calls Tryz.prog 96 #[.slice A n c, .func (.func 259) #[] #[]] w fun e w' => e = .returned (.int .i64 (if n = 0 then -1 else 0)) ∧ Below w.heap.size w w' := by
  obtain ⟨es, h1, h2⟩ := ht
  have hl := h1.len
  have H := idx_96_259 (fun _ => true) A n c es w h1 hn (fun W x _ hx => by
    obtain ⟨j, hj⟩ := List.getElem?_of_mem hx
    obtain ⟨y, hy, hr⟩ := h2.get hj
    exact posE x W (by rw [hr.2]; exact hp y (List.mem_of_getElem? hy)))
  have e : idxV (fun _ : Ent => true) es = if n = 0 then -1 else 0 := by
    by_cases h0 : n = 0
    · rw [if_pos h0]
      obtain rfl : es = [] := List.eq_nil_of_length_eq_zero (by omega)
      rfl
    · rw [if_neg h0]
      cases es with
      | nil => simp at hl; omega
      | cons a l => rfl
  rw [e] at H
  exact H
theorem intKE (x : Ent) (r : List Val) (v : Val) (w : World) (hr : rVal w x.rA x.rN r) (h : r = [v]) (hk : v.k = 2) : Calls Tryz.prog 261 #[.agg #[.slice x.rA x.rN x.rC, .int .i64 x.c]] w fun e w' => e = .returned (.bool false) ∧ Below w.heap.size w w' := by
  obtain ⟨rA, rN, rC, c⟩ := x
  simp only at hr ⊢
  subst h
  obtain rfl : 1 = rN := hr.len
  obtain ⟨b2, o2, rfl, hc2⟩ := hr.opn (by omega)
  obtain ⟨v1, v2, v3⟩ := hc2 0 v rfl
  simp only [Nat.zero_mul, Nat.add_zero] at v1 v2 v3
  have u1 := cell_later (ballo w (.cells #[.slice (some ⟨b2, o2, none⟩) 1 rC, .int .i64 c] 65)) v1
  clear hr hc2
  go_enter Tryz.func261, Tryz.ntmps261
  go_wp2
  go_ret
  exact ⟨ret_bool (by simp [hk]), ballo _ _⟩
set_option maxRecDepth 100000 in
theorem idx_96_261  (p : Ent → Bool) (A : Option Addr) (n c : Nat) (l : List Ent) (w : World) (h : rEnt w A n l) (hn : n ≤ 100000)
    (hG : ∀ (W : World) (x : Ent), Below w.heap.size w W → x ∈ l → Calls Tryz.prog 261 #[.agg #[.slice x.rA x.rN x.rC, .int .i64 x.c]] W fun e w' => e = .returned (.bool (p x)) ∧ Below W.heap.size W w') :
    Calls Tryz.prog 96 #[.slice A n c, .func (.func 261) #[] #[]] w fun e w' => e = .returned (.int .i64 (idxV p l)) ∧ Below w.heap.size w w' := by
  have HA := Lib.hid h
  have LA := Lib.hid h.len
  have HG := Lib.hid hG
  clear h hG
  go_enter Tryz.func96, Tryz.ntmps96
  go_wp2
  go_loopw [8] (fun i wr => ∃ k : Nat, k ≤ n ∧ i = .int .i64 k ∧ Below w.heap.size w wr ∧ Hid (NoneTo p l k)) (fun i _ => n - (intOf i).toNat)
  case atStart => exact ⟨0, by omega, rfl, bself _, Lib.hid fun j _ hj => absurd hj (by omega)⟩
  case round =>
    obtain ⟨k, hk, rfl, hbw, HS⟩ := hrel
    have HBW := Lib.hid hbw
    by_cases h1 : k < n
    · obtain ⟨b1, o1, rfl, hc1⟩ := (HA.out.later hbw).opn (by omega)
      obtain ⟨x, hx⟩ := get_some (l := l) (k := k) (by have := LA.out; omega)
      have hcells := hc1 k x hx
      have HX := Lib.hid hx
      have HC := Lib.hid (HG.out wr x hbw (List.mem_of_getElem? hx))
      clear hc1 hx hbw
      (repeat (obtain ⟨_, hcells⟩ := hcells))
      cases hz : p x
      · have HZ := Lib.hid hz
        go_wp2_with fail
        refine HC.out.mono ?_
        rintro e w2 ⟨rfl, hb2⟩
        have HB2 := Lib.hid (btr HBW.out hb2)
        clear hb2
        go_wp2
        go_roundw
        case rel => exact ⟨k + 1, by omega, by go_num, HB2.out, Lib.hid (HS.out.succ HX.out HZ.out)⟩
        case measure => simp [intOf]; omega
      · have HZ := Lib.hid hz
        go_wp2_with fail
        refine HC.out.mono ?_
        rintro e w2 ⟨rfl, hb2⟩
        have HB2 := Lib.hid (btr HBW.out hb2)
        clear hb2
        go_wp2
        go_ret
        exact ⟨ret_int (idxV_hit HS.out HX.out HZ.out).symm, HB2.out⟩
    · go_wp2
      go_ret
      exact ⟨ret_int (idxV_miss (fun j y hy => HS.out j y (by have := LA.out; have := (List.getElem?_eq_some_iff.1 hy).1; omega) hy)).symm, hbw⟩
theorem allInt (A : Option Addr) (n c : Nat) (t : Tab) (w : World) (ht : rTab w A n t) (hn : n ≤ 100000) (hp : ∀ x ∈ t, ∃ v, x.1 = [v] ∧ v.k = 2) :
    Calls Tryz.prog 68 #[.slice A n c, .func (.func 261) #[] #[]] w fun e w' => e = .returned (.bool false) ∧ Below w.heap.size w w' := by
  obtain ⟨es, h1, h2⟩ := ht
  have H := Lib.hid (idx_96_261 (fun _ => false) A n c es w h1 hn (fun W x hb hx => by
    obtain ⟨j, hj⟩ := List.getElem?_of_mem hx
    obtain ⟨y, hy, hr⟩ := h2.get hj
    obtain ⟨v, e, hk⟩ := hp y (List.mem_of_getElem? hy)
    exact intKE x y.1 v W (hr.1.later hb) e hk))
  have hi : Hid (idxV (fun _ : Ent => false) es = -1) := Lib.hid (idxV_miss fun _ _ _ => rfl)
  have H2 : Hid (Calls Tryz.prog 96 #[.slice A n c, .func (.func 261) #[] #[]] w fun e w' => e = .returned (.int .i64 (-1)) ∧ Below w.heap.size w w') := Lib.hid (by have h := H.out; rw [hi.out] at h; exact h)
  clear h1 h2 H hi hp
  go_enter Tryz.func68, Tryz.ntmps68
  go_wp2_with (go_at_call 96; refine (H2.out).mono ?_; rintro e w' ⟨rfl, hb⟩)
  go_ret
  exact ⟨ret_bool rfl, hb⟩
theorem set3cells {W : World} {g : Nat} {a b c x y z : Value} (h0 : W.cell? ⟨g, 0, none⟩ = some x) (h1 : W.cell? ⟨g, 1, none⟩ = some y) (h2 : W.cell? ⟨g, 2, none⟩ = some z) :
    (((W.setCell ⟨g, 0, none⟩ a).setCell ⟨g, 1, none⟩ b).setCell ⟨g, 2, none⟩ c).cell? ⟨g, 0, none⟩ = some a ∧ (((W.setCell ⟨g, 0, none⟩ a).setCell ⟨g, 1, none⟩ b).setCell ⟨g, 2, none⟩ c).cell? ⟨g, 1, none⟩ = some b ∧ (((W.setCell ⟨g, 0, none⟩ a).setCell ⟨g, 1, none⟩ b).setCell ⟨g, 2, none⟩ c).cell? ⟨g, 2, none⟩ = some c := by
  have o : ∀ (W : World) (i j : Nat) (v : Value), i ≠ j → (W.setCell ⟨g, i, none⟩ v).cell? ⟨g, j, none⟩ = W.cell? ⟨g, j, none⟩ := fun W i j v h => World.cell?_setCell_other _ _ _ _ (fun e => h (Addr.mk.inj e).2.1)
  refine ⟨?_, ?_, ?_⟩
  · rw [o _ 2 0 _ (by omega), o _ 1 0 _ (by omega)]; exact World.cell?_setCell_same _ _ _ h0
  · rw [o _ 2 1 _ (by omega)]; exact World.cell?_setCell_same _ _ _ ((o _ 0 1 _ (by omega)).trans h1)
  · exact World.cell?_setCell_same _ _ _ ((o _ 1 2 _ (by omega)).trans ((o _ 0 2 _ (by omega)).trans h2))
end
section
open Go.RowKit Go.BigFrame
set_option linter.unusedSimpArgs false
set_option linter.unusedVariables false

/-- what an aggregate asks of its values -/
def okRes (f : Int) (vs : Tab) : Prop := okBag vs ∧ oneVs vs ∧ smallN vs ∧ sumC vs ≤ 65536 ∧ (f = 3 → ∀ x ∈ vs, ∃ v, x.1 = [v] ∧ v.k = 2)
def AgrR (v : Val) (w : World) (e : Ending) (w' : World) : Prop := e = .returned (.tuple #[.agg #[.int .i64 v.k, .int .i64 v.m, .string v.s], .int .i64 0]) ∧ Below w.heap.size w w'
theorem integerE' (n : Int) (w : World) : Calls Tryz.prog 258 #[.int .i64 n] w fun e w' => e = .returned (.agg #[.int .i64 (intV n).k, .int .i64 (intV n).m, .string (intV n).s]) ∧ Below w.heap.size w w' := integerE n w
theorem resV_ext4 {n : Int} {vs : Tab} {x : List Val × Int} {l : Tab} {v : Val} (h : vs = x :: l) (hv : x.1 = [v]) : resV 4 n vs = v := by
  subst h
  show hdV x = v
  unfold hdV
  rw [hv]
  rfl
theorem resV_ext5 {n : Int} {vs : Tab} {x : List Val × Int} {l : Tab} {v : Val} (h : vs.reverse = x :: l) (hv : x.1 = [v]) : resV 5 n vs = v := by
  show (match vs.reverse with | [] => zV | x :: _ => hdV x) = v
  rw [h]
  show hdV x = v
  unfold hdV
  rw [hv]
  rfl
set_option maxRecDepth 100000 in
set_option maxHeartbeats 1000000 in
theorem resE_1 (n : Int) (A : Option Addr) (m c : Nat) (vs : Tab) (w : World) (h1 : -268435456 ≤ n) (h2 : n ≤ 268435456) (ht : rTab w A m vs) (hok : okRes 1 vs) :
    Calls Tryz.prog 216 #[.int .i64 1, .agg #[.int .i64 n, .slice A m c]] w (AgrR (resV 1 n vs) w) := by
  have hm4 : m ≤ 4096 := by have := ht.len; have := hok.1.1; omega
  have HT := Lib.hid ht
  have HOK := Lib.hid hok
  have HPOS : Hid (∀ x ∈ vs, 0 < x.2) := Lib.hid fun x hx => (hok.2.2.1 x hx).1
  have HA : Hid (Below w.heap.size w ((w.alloc (.cells #[.int .i64 n, .slice A m c] 228)).alloc (.cells #[.int .i64 0, .int .i64 0, .string ⟨#[]⟩] 46))) := Lib.hid ((ballo _ _).alloc (by simp) _)
  have HV := Lib.hid (gvalE n A m c vs _ h1 h2 (ht.later HA.out) hok.1 hok.2.1)
  have HTO := Lib.hid fun W (hb : Below w.heap.size w W) => totE A m c vs W (ht.later hb) hok.2.1 hok.2.2.1 hok.2.2.2.1 hm4
  clear ht hok
  go_enter Tryz.func216, Tryz.ntmps216
  go_wp2_with fail
  refine HV.out.mono ?_
  rintro e w1 ⟨rfl, hb1⟩
  have c1 : w1.cell? ⟨w.heap.size, 1, none⟩ = some (.slice A m c) := cell_later hb1 (by (repeat (first | (refine new_cell ?_ rfl; (simp; done)) | (refine new_froz ?_; (simp; done)) | (refine alo_cell ?_ ?_; (focus first | (simp; done) | (simp; omega))) | (refine alo_froz ?_ ?_; (focus first | (simp; done) | (simp; omega))))))
  have c0 : w1.cell? ⟨w.heap.size, 0, none⟩ = some (.int .i64 n) := cell_later hb1 (by (repeat (first | (refine new_cell ?_ rfl; (simp; done)) | (refine new_froz ?_; (simp; done)) | (refine alo_cell ?_ ?_; (focus first | (simp; done) | (simp; omega))) | (refine alo_froz ?_ ?_; (focus first | (simp; done) | (simp; omega))))))
  have r0 : w1.cell? ⟨w.heap.size + 1, 0, none⟩ = some (.int .i64 0) := cell_later hb1 (by (repeat (first | (refine new_cell ?_ rfl; (simp; done)) | (refine new_froz ?_; (simp; done)) | (refine alo_cell ?_ ?_; (focus first | (simp; done) | (simp; omega))) | (refine alo_froz ?_ ?_; (focus first | (simp; done) | (simp; omega))))))
  have r1 : w1.cell? ⟨w.heap.size + 1, 1, none⟩ = some (.int .i64 0) := cell_later hb1 (by (repeat (first | (refine new_cell ?_ rfl; (simp; done)) | (refine new_froz ?_; (simp; done)) | (refine alo_cell ?_ ?_; (focus first | (simp; done) | (simp; omega))) | (refine alo_froz ?_ ?_; (focus first | (simp; done) | (simp; omega))))))
  have r2 : w1.cell? ⟨w.heap.size + 1, 2, none⟩ = some (.string ⟨#[]⟩) := cell_later hb1 (by (repeat (first | (refine new_cell ?_ rfl; (simp; done)) | (refine new_froz ?_; (simp; done)) | (refine alo_cell ?_ ?_; (focus first | (simp; done) | (simp; omega))) | (refine alo_froz ?_ ?_; (focus first | (simp; done) | (simp; omega))))))
  have rf : ∀ o, w1.frozen? ⟨w.heap.size + 1, o, none⟩ = false := fun o => (Below.frozen hb1 (p := ⟨w.heap.size + 1, o, none⟩) (by simp)).trans (by (repeat (first | (refine new_cell ?_ rfl; (simp; done)) | (refine new_froz ?_; (simp; done)) | (refine alo_cell ?_ ?_; (focus first | (simp; done) | (simp; omega))) | (refine alo_froz ?_ ?_; (focus first | (simp; done) | (simp; omega))))))
  have HB1 := Lib.hid (HA.out.trans (hb1.mono HA.out.size))
  clear hb1
  go_wp2_with fail
  refine (HTO.out w1 HB1.out).mono ?_
  rintro e w2 ⟨rfl, hb2⟩
  have c02 := cell_later hb2 c0
  have r02 := cell_later hb2 r0
  have r12 := cell_later hb2 r1
  have r22 := cell_later hb2 r2
  have rf2 : ∀ o, w2.frozen? ⟨w.heap.size + 1, o, none⟩ = false := fun o => (Below.frozen hb2 (p := ⟨w.heap.size + 1, o, none⟩) (show w.heap.size + 1 < _ from World.block_lt_of_cell? _ _ r0)).trans (rf o)
  have HB2 := Lib.hid (HB1.out.trans (hb2.mono HB1.out.size))
  clear hb2 c0 c1 r0 r1 r2 rf
  go_wp2_with fail
  refine (integerE' n w2).mono ?_
  rintro e w3 ⟨rfl, hb3⟩
  have r03 := cell_later hb3 r02
  have r13 := cell_later hb3 r12
  have r23 := cell_later hb3 r22
  have rf3 : ∀ o, w3.frozen? ⟨w.heap.size + 1, o, none⟩ = false := fun o => (Below.frozen hb3 (p := ⟨w.heap.size + 1, o, none⟩) (show w.heap.size + 1 < _ from World.block_lt_of_cell? _ _ r02)).trans (rf2 o)
  have HB3 := Lib.hid (HB2.out.trans (hb3.mono HB2.out.size))
  clear hb3 r02 r12 r22 rf2
  go_wp2_with fail
  obtain ⟨e0, e1, e2⟩ := set3cells (a := .int .i64 (intV n).k) (b := .int .i64 (intV n).m) (c := .string (intV n).s) r03 r13 r23
  refine bodyPost_ret (v := .tuple #[.agg #[.int .i64 (intV n).k, .int .i64 (intV n).m, .string (intV n).s], .int .i64 0]) (by simp [results, Tryz.results216, go_sem, e0, e1, e2]) rfl ?_
  exact ⟨rfl, ((HB3.out.setCell (p := ⟨w.heap.size + 1, 0, none⟩) (by show w.heap.size ≤ w.heap.size + 1; omega) _).setCell (p := ⟨w.heap.size + 1, 1, none⟩) (by show w.heap.size ≤ w.heap.size + 1; omega) _).setCell (p := ⟨w.heap.size + 1, 2, none⟩) (by show w.heap.size ≤ w.heap.size + 1; omega) _⟩
set_option maxRecDepth 100000 in
set_option maxHeartbeats 1000000 in
theorem resE_3 (n : Int) (A : Option Addr) (m c : Nat) (vs : Tab) (w : World) (h1 : -268435456 ≤ n) (h2 : n ≤ 268435456) (ht : rTab w A m vs) (hok : okRes 3 vs) :
    Calls Tryz.prog 216 #[.int .i64 3, .agg #[.int .i64 n, .slice A m c]] w (AgrR (resV 3 n vs) w) := by
  have hm4 : m ≤ 4096 := by have := ht.len; have := hok.1.1; omega
  have HT := Lib.hid ht
  have HOK := Lib.hid hok
  have HPOS : Hid (∀ x ∈ vs, 0 < x.2) := Lib.hid fun x hx => (hok.2.2.1 x hx).1
  have HA : Hid (Below w.heap.size w ((w.alloc (.cells #[.int .i64 n, .slice A m c] 228)).alloc (.cells #[.int .i64 0, .int .i64 0, .string ⟨#[]⟩] 46))) := Lib.hid ((ballo _ _).alloc (by simp) _)
  have HV := Lib.hid (gvalE n A m c vs _ h1 h2 (ht.later HA.out) hok.1 hok.2.1)
  have HTO := Lib.hid fun W (hb : Below w.heap.size w W) => totE A m c vs W (ht.later hb) hok.2.1 hok.2.2.1 hok.2.2.2.1 hm4
  clear ht hok
  go_enter Tryz.func216, Tryz.ntmps216
  go_wp2_with fail
  refine HV.out.mono ?_
  rintro e w1 ⟨rfl, hb1⟩
  have c1 : w1.cell? ⟨w.heap.size, 1, none⟩ = some (.slice A m c) := cell_later hb1 (by (repeat (first | (refine new_cell ?_ rfl; (simp; done)) | (refine new_froz ?_; (simp; done)) | (refine alo_cell ?_ ?_; (focus first | (simp; done) | (simp; omega))) | (refine alo_froz ?_ ?_; (focus first | (simp; done) | (simp; omega))))))
  have c0 : w1.cell? ⟨w.heap.size, 0, none⟩ = some (.int .i64 n) := cell_later hb1 (by (repeat (first | (refine new_cell ?_ rfl; (simp; done)) | (refine new_froz ?_; (simp; done)) | (refine alo_cell ?_ ?_; (focus first | (simp; done) | (simp; omega))) | (refine alo_froz ?_ ?_; (focus first | (simp; done) | (simp; omega))))))
  have r0 : w1.cell? ⟨w.heap.size + 1, 0, none⟩ = some (.int .i64 0) := cell_later hb1 (by (repeat (first | (refine new_cell ?_ rfl; (simp; done)) | (refine new_froz ?_; (simp; done)) | (refine alo_cell ?_ ?_; (focus first | (simp; done) | (simp; omega))) | (refine alo_froz ?_ ?_; (focus first | (simp; done) | (simp; omega))))))
  have r1 : w1.cell? ⟨w.heap.size + 1, 1, none⟩ = some (.int .i64 0) := cell_later hb1 (by (repeat (first | (refine new_cell ?_ rfl; (simp; done)) | (refine new_froz ?_; (simp; done)) | (refine alo_cell ?_ ?_; (focus first | (simp; done) | (simp; omega))) | (refine alo_froz ?_ ?_; (focus first | (simp; done) | (simp; omega))))))
  have r2 : w1.cell? ⟨w.heap.size + 1, 2, none⟩ = some (.string ⟨#[]⟩) := cell_later hb1 (by (repeat (first | (refine new_cell ?_ rfl; (simp; done)) | (refine new_froz ?_; (simp; done)) | (refine alo_cell ?_ ?_; (focus first | (simp; done) | (simp; omega))) | (refine alo_froz ?_ ?_; (focus first | (simp; done) | (simp; omega))))))
  have rf : ∀ o, w1.frozen? ⟨w.heap.size + 1, o, none⟩ = false := fun o => (Below.frozen hb1 (p := ⟨w.heap.size + 1, o, none⟩) (by simp)).trans (by (repeat (first | (refine new_cell ?_ rfl; (simp; done)) | (refine new_froz ?_; (simp; done)) | (refine alo_cell ?_ ?_; (focus first | (simp; done) | (simp; omega))) | (refine alo_froz ?_ ?_; (focus first | (simp; done) | (simp; omega))))))
  have HB1 := Lib.hid (HA.out.trans (hb1.mono HA.out.size))
  clear hb1
  go_wp2_with fail
  refine (HTO.out w1 HB1.out).mono ?_
  rintro e w2 ⟨rfl, hb2⟩
  have c02 := cell_later hb2 c0
  have r02 := cell_later hb2 r0
  have r12 := cell_later hb2 r1
  have r22 := cell_later hb2 r2
  have rf2 : ∀ o, w2.frozen? ⟨w.heap.size + 1, o, none⟩ = false := fun o => (Below.frozen hb2 (p := ⟨w.heap.size + 1, o, none⟩) (show w.heap.size + 1 < _ from World.block_lt_of_cell? _ _ r0)).trans (rf o)
  have HB2 := Lib.hid (HB1.out.trans (hb2.mono HB1.out.size))
  clear hb2 c0 c1 r0 r1 r2 rf
  have HAI := Lib.hid (allInt A m c vs w2 (HT.out.later HB2.out) (by omega) (HOK.out.2.2.2.2 rfl))
  go_wp2_with fail
  refine (HAI.out).mono ?_
  rintro e w3 ⟨rfl, hb3⟩
  have r03 := cell_later hb3 r02
  have r13 := cell_later hb3 r12
  have r23 := cell_later hb3 r22
  have rf3 : ∀ o, w3.frozen? ⟨w.heap.size + 1, o, none⟩ = false := fun o => (Below.frozen hb3 (p := ⟨w.heap.size + 1, o, none⟩) (show w.heap.size + 1 < _ from World.block_lt_of_cell? _ _ r02)).trans (rf2 o)
  have HB3 := Lib.hid (HB2.out.trans (hb3.mono HB2.out.size))
  clear hb3 r02 r12 r22 rf2
  by_cases hm0 : m = 0
  · have hvs : vs = [] := List.eq_nil_of_length_eq_zero (by have := HT.out.len; omega)
    subst hm0
    have hres : Hid (resV 3 n vs = zV) := Lib.hid (by rw [hvs]; rfl)
    clear hvs
    go_wp2_with fail
    obtain ⟨e0, e1, e2⟩ := set3cells (a := .int .i64 0) (b := .int .i64 0) (c := .string ⟨#[]⟩) r03 r13 r23
    refine bodyPost_ret (v := .tuple #[.agg #[.int .i64 0, .int .i64 0, .string ⟨#[]⟩], .int .i64 0]) (by simp [results, Tryz.results216, go_sem, e0, e1, e2]) rfl ?_
    exact ⟨by rw [hres.out]; rfl, ((HB3.out.setCell (p := ⟨w.heap.size + 1, 0, none⟩) (by show w.heap.size ≤ w.heap.size + 1; omega) _).setCell (p := ⟨w.heap.size + 1, 1, none⟩) (by show w.heap.size ≤ w.heap.size + 1; omega) _).setCell (p := ⟨w.heap.size + 1, 2, none⟩) (by show w.heap.size ≤ w.heap.size + 1; omega) _⟩
  · have dm : decide (0 < m) = true := by simp; omega
    have hres : Hid (resV 3 n vs = intV (numF vs)) := Lib.hid (by
      cases hvs : vs with
      | nil => have := HT.out.len; rw [hvs] at this; simp at this; omega
      | cons x l => rfl)
    go_wp2_with fail
    refine (integerE' (numF vs) w3).mono ?_
    rintro e w4 ⟨rfl, hb4⟩
    have r04 := cell_later hb4 r03
    have r14 := cell_later hb4 r13
    have r24 := cell_later hb4 r23
    have rf4 : ∀ o, w4.frozen? ⟨w.heap.size + 1, o, none⟩ = false := fun o => (Below.frozen hb4 (p := ⟨w.heap.size + 1, o, none⟩) (show w.heap.size + 1 < _ from World.block_lt_of_cell? _ _ r03)).trans (rf3 o)
    have HB4 := Lib.hid (HB3.out.trans (hb4.mono HB3.out.size))
    clear hb4 r03 r13 r23 rf3
    go_wp2_with fail
    obtain ⟨e0, e1, e2⟩ := set3cells (a := .int .i64 (intV (numF vs)).k) (b := .int .i64 (intV (numF vs)).m) (c := .string (intV (numF vs)).s) r04 r14 r24
    refine bodyPost_ret (v := .tuple #[.agg #[.int .i64 (intV (numF vs)).k, .int .i64 (intV (numF vs)).m, .string (intV (numF vs)).s], .int .i64 0]) (by simp [results, Tryz.results216, go_sem, e0, e1, e2]) rfl ?_
    exact ⟨by rw [hres.out], ((HB4.out.setCell (p := ⟨w.heap.size + 1, 0, none⟩) (by show w.heap.size ≤ w.heap.size + 1; omega) _).setCell (p := ⟨w.heap.size + 1, 1, none⟩) (by show w.heap.size ≤ w.heap.size + 1; omega) _).setCell (p := ⟨w.heap.size + 1, 2, none⟩) (by show w.heap.size ≤ w.heap.size + 1; omega) _⟩
set_option maxRecDepth 100000 in
set_option maxHeartbeats 1000000 in
theorem resE_4 (n : Int) (A : Option Addr) (m c : Nat) (vs : Tab) (w : World) (h1 : -268435456 ≤ n) (h2 : n ≤ 268435456) (ht : rTab w A m vs) (hok : okRes 4 vs) :
    Calls Tryz.prog 216 #[.int .i64 4, .agg #[.int .i64 n, .slice A m c]] w (AgrR (resV 4 n vs) w) := by
  have hm4 : m ≤ 4096 := by have := ht.len; have := hok.1.1; omega
  have HT := Lib.hid ht
  have HOK := Lib.hid hok
  have HPOS : Hid (∀ x ∈ vs, 0 < x.2) := Lib.hid fun x hx => (hok.2.2.1 x hx).1
  have HA : Hid (Below w.heap.size w ((w.alloc (.cells #[.int .i64 n, .slice A m c] 228)).alloc (.cells #[.int .i64 0, .int .i64 0, .string ⟨#[]⟩] 46))) := Lib.hid ((ballo _ _).alloc (by simp) _)
  have HV := Lib.hid (gvalE n A m c vs _ h1 h2 (ht.later HA.out) hok.1 hok.2.1)
  have HTO := Lib.hid fun W (hb : Below w.heap.size w W) => totE A m c vs W (ht.later hb) hok.2.1 hok.2.2.1 hok.2.2.2.1 hm4
  clear ht hok
  go_enter Tryz.func216, Tryz.ntmps216
  go_wp2_with fail
  refine HV.out.mono ?_
  rintro e w1 ⟨rfl, hb1⟩
  have c1 : w1.cell? ⟨w.heap.size, 1, none⟩ = some (.slice A m c) := cell_later hb1 (by (repeat (first | (refine new_cell ?_ rfl; (simp; done)) | (refine new_froz ?_; (simp; done)) | (refine alo_cell ?_ ?_; (focus first | (simp; done) | (simp; omega))) | (refine alo_froz ?_ ?_; (focus first | (simp; done) | (simp; omega))))))
  have c0 : w1.cell? ⟨w.heap.size, 0, none⟩ = some (.int .i64 n) := cell_later hb1 (by (repeat (first | (refine new_cell ?_ rfl; (simp; done)) | (refine new_froz ?_; (simp; done)) | (refine alo_cell ?_ ?_; (focus first | (simp; done) | (simp; omega))) | (refine alo_froz ?_ ?_; (focus first | (simp; done) | (simp; omega))))))
  have r0 : w1.cell? ⟨w.heap.size + 1, 0, none⟩ = some (.int .i64 0) := cell_later hb1 (by (repeat (first | (refine new_cell ?_ rfl; (simp; done)) | (refine new_froz ?_; (simp; done)) | (refine alo_cell ?_ ?_; (focus first | (simp; done) | (simp; omega))) | (refine alo_froz ?_ ?_; (focus first | (simp; done) | (simp; omega))))))
  have r1 : w1.cell? ⟨w.heap.size + 1, 1, none⟩ = some (.int .i64 0) := cell_later hb1 (by (repeat (first | (refine new_cell ?_ rfl; (simp; done)) | (refine new_froz ?_; (simp; done)) | (refine alo_cell ?_ ?_; (focus first | (simp; done) | (simp; omega))) | (refine alo_froz ?_ ?_; (focus first | (simp; done) | (simp; omega))))))
  have r2 : w1.cell? ⟨w.heap.size + 1, 2, none⟩ = some (.string ⟨#[]⟩) := cell_later hb1 (by (repeat (first | (refine new_cell ?_ rfl; (simp; done)) | (refine new_froz ?_; (simp; done)) | (refine alo_cell ?_ ?_; (focus first | (simp; done) | (simp; omega))) | (refine alo_froz ?_ ?_; (focus first | (simp; done) | (simp; omega))))))
  have rf : ∀ o, w1.frozen? ⟨w.heap.size + 1, o, none⟩ = false := fun o => (Below.frozen hb1 (p := ⟨w.heap.size + 1, o, none⟩) (by simp)).trans (by (repeat (first | (refine new_cell ?_ rfl; (simp; done)) | (refine new_froz ?_; (simp; done)) | (refine alo_cell ?_ ?_; (focus first | (simp; done) | (simp; omega))) | (refine alo_froz ?_ ?_; (focus first | (simp; done) | (simp; omega))))))
  have HB1 := Lib.hid (HA.out.trans (hb1.mono HA.out.size))
  clear hb1
  go_wp2_with fail
  refine (HTO.out w1 HB1.out).mono ?_
  rintro e w2 ⟨rfl, hb2⟩
  have c02 := cell_later hb2 c0
  have r02 := cell_later hb2 r0
  have r12 := cell_later hb2 r1
  have r22 := cell_later hb2 r2
  have rf2 : ∀ o, w2.frozen? ⟨w.heap.size + 1, o, none⟩ = false := fun o => (Below.frozen hb2 (p := ⟨w.heap.size + 1, o, none⟩) (show w.heap.size + 1 < _ from World.block_lt_of_cell? _ _ r0)).trans (rf o)
  have HB2 := Lib.hid (HB1.out.trans (hb2.mono HB1.out.size))
  clear hb2 c0 c1 r0 r1 r2 rf
  have HCL := Lib.hid (cloEE A m c vs w2 (HT.out.later HB2.out) (by omega))
  go_wp2_with fail
  refine HCL.out.mono ?_
  rintro e w3 ⟨A2, k2, rfl, hrd, hcc, hb3, hfr, hown⟩
  have HL3 : Hid (rTab w3 A2 m vs) := Lib.hid hrd
  clear hrd hfr hown
  have r03 := cell_later hb3 r02
  have r13 := cell_later hb3 r12
  have r23 := cell_later hb3 r22
  have rf3 : ∀ o, w3.frozen? ⟨w.heap.size + 1, o, none⟩ = false := fun o => (Below.frozen hb3 (p := ⟨w.heap.size + 1, o, none⟩) (show w.heap.size + 1 < _ from World.block_lt_of_cell? _ _ r02)).trans (rf2 o)
  have HB3 := Lib.hid (HB2.out.trans (hb3.mono HB2.out.size))
  clear hb3 r02 r12 r22 rf2
  have HFI := Lib.hid (firstE A2 m k2 (vs) w3 HL3.out (by omega) (fun x hx => HPOS.out x (hx)))
  by_cases hm0 : m = 0
  · subst hm0
    rw [if_pos rfl] at HFI
    go_wp2_with fail
    refine HFI.out.mono ?_
    rintro e w4 ⟨rfl, hbf⟩
    have HL4 := Lib.hid (HL3.out.later hbf)
    have r04 := cell_later hbf r03
    have r14 := cell_later hbf r13
    have r24 := cell_later hbf r23
    have rf4 : ∀ o, w4.frozen? ⟨w.heap.size + 1, o, none⟩ = false := fun o => (Below.frozen hbf (p := ⟨w.heap.size + 1, o, none⟩) (show w.heap.size + 1 < _ from World.block_lt_of_cell? _ _ r03)).trans (rf3 o)
    have HB4 := Lib.hid (HB3.out.trans (hbf.mono HB3.out.size))
    clear hbf r03 r13 r23 rf3
    have hvs : vs = [] := List.eq_nil_of_length_eq_zero (by have := HT.out.len; omega)
    have hres : Hid (resV 4 n vs = zV) := Lib.hid (by rw [hvs]; rfl)
    clear hvs
    go_wp2_with fail
    obtain ⟨e0, e1, e2⟩ := set3cells (a := .int .i64 0) (b := .int .i64 0) (c := .string ⟨#[]⟩) r04 r14 r24
    refine bodyPost_ret (v := .tuple #[.agg #[.int .i64 0, .int .i64 0, .string ⟨#[]⟩], .int .i64 0]) (by simp [results, Tryz.results216, go_sem, e0, e1, e2]) rfl ?_
    exact ⟨by rw [hres.out]; rfl, ((HB4.out.setCell (p := ⟨w.heap.size + 1, 0, none⟩) (by show w.heap.size ≤ w.heap.size + 1; omega) _).setCell (p := ⟨w.heap.size + 1, 1, none⟩) (by show w.heap.size ≤ w.heap.size + 1; omega) _).setCell (p := ⟨w.heap.size + 1, 2, none⟩) (by show w.heap.size ≤ w.heap.size + 1; omega) _⟩
  · rw [if_neg hm0] at HFI
    have HM0 := Lib.hid hm0
    clear hm0
    go_wp2_with fail
    refine HFI.out.mono ?_
    rintro e w4 ⟨rfl, hbf⟩
    have HL4 := Lib.hid (HL3.out.later hbf)
    have r04 := cell_later hbf r03
    have r14 := cell_later hbf r13
    have r24 := cell_later hbf r23
    have rf4 : ∀ o, w4.frozen? ⟨w.heap.size + 1, o, none⟩ = false := fun o => (Below.frozen hbf (p := ⟨w.heap.size + 1, o, none⟩) (show w.heap.size + 1 < _ from World.block_lt_of_cell? _ _ r03)).trans (rf3 o)
    have HB4 := Lib.hid (HB3.out.trans (hbf.mono HB3.out.size))
    clear hbf r03 r13 r23 rf3
    have hm0 := HM0.out
    obtain ⟨x, l, hvs⟩ : ∃ x l, vs = x :: l := by
      cases hv : vs with
      | nil => have := HL4.out.len; rw [hv] at this; simp at this; omega
      | cons x l => exact ⟨x, l, rfl⟩
    have hx : x ∈ vs := by
      have : x ∈ vs := by rw [hvs]; exact List.mem_cons_self ..
      exact this
    obtain ⟨v, hv, hk0⟩ := HOK.out.2.1 x hx
    have hres : Hid (resV 4 n vs = v) := Lib.hid (resV_ext4 hvs hv)
    obtain ⟨b1, o1, rfl, hc1⟩ := HL4.out.opn (by omega)
    obtain ⟨rA, rN, rC, x1, x2, x3⟩ := hc1 0 x (by rw [hvs]; rfl)
    rw [hv] at x3
    obtain rfl : 1 = rN := x3.len
    obtain ⟨b2, o2, rfl, hc2⟩ := x3.opn (by omega)
    obtain ⟨v1, v2, v3⟩ := hc2 0 v rfl
    simp only [Nat.zero_mul, Nat.add_zero] at v1 v2 v3 x1
    have im : 0 < m := by omega
    have im2 : (0 : Int) < (m : Int) := by omega
    clear hc1 x2 x3 hc2 hk0 hv hvs hx
    go_wp2_with fail
    obtain ⟨e0, e1, e2⟩ := set3cells (a := .int .i64 v.k) (b := .int .i64 v.m) (c := .string v.s) r04 r14 r24
    refine bodyPost_ret (v := .tuple #[.agg #[.int .i64 v.k, .int .i64 v.m, .string v.s], .int .i64 0]) (by simp [results, Tryz.results216, go_sem, e0, e1, e2]) rfl ?_
    exact ⟨by rw [hres.out], ((HB4.out.setCell (p := ⟨w.heap.size + 1, 0, none⟩) (by show w.heap.size ≤ w.heap.size + 1; omega) _).setCell (p := ⟨w.heap.size + 1, 1, none⟩) (by show w.heap.size ≤ w.heap.size + 1; omega) _).setCell (p := ⟨w.heap.size + 1, 2, none⟩) (by show w.heap.size ≤ w.heap.size + 1; omega) _⟩
set_option maxRecDepth 100000 in
set_option maxHeartbeats 1000000 in
theorem resE_5 (n : Int) (A : Option Addr) (m c : Nat) (vs : Tab) (w : World) (h1 : -268435456 ≤ n) (h2 : n ≤ 268435456) (ht : rTab w A m vs) (hok : okRes 5 vs) :
    Calls Tryz.prog 216 #[.int .i64 5, .agg #[.int .i64 n, .slice A m c]] w (AgrR (resV 5 n vs) w) := by
  have hm4 : m ≤ 4096 := by have := ht.len; have := hok.1.1; omega
  have HT := Lib.hid ht
  have HOK := Lib.hid hok
  have HPOS : Hid (∀ x ∈ vs, 0 < x.2) := Lib.hid fun x hx => (hok.2.2.1 x hx).1
  have HA : Hid (Below w.heap.size w ((w.alloc (.cells #[.int .i64 n, .slice A m c] 228)).alloc (.cells #[.int .i64 0, .int .i64 0, .string ⟨#[]⟩] 46))) := Lib.hid ((ballo _ _).alloc (by simp) _)
  have HV := Lib.hid (gvalE n A m c vs _ h1 h2 (ht.later HA.out) hok.1 hok.2.1)
  have HTO := Lib.hid fun W (hb : Below w.heap.size w W) => totE A m c vs W (ht.later hb) hok.2.1 hok.2.2.1 hok.2.2.2.1 hm4
  clear ht hok
  go_enter Tryz.func216, Tryz.ntmps216
  go_wp2_with fail
  refine HV.out.mono ?_
  rintro e w1 ⟨rfl, hb1⟩
  have c1 : w1.cell? ⟨w.heap.size, 1, none⟩ = some (.slice A m c) := cell_later hb1 (by (repeat (first | (refine new_cell ?_ rfl; (simp; done)) | (refine new_froz ?_; (simp; done)) | (refine alo_cell ?_ ?_; (focus first | (simp; done) | (simp; omega))) | (refine alo_froz ?_ ?_; (focus first | (simp; done) | (simp; omega))))))
  have c0 : w1.cell? ⟨w.heap.size, 0, none⟩ = some (.int .i64 n) := cell_later hb1 (by (repeat (first | (refine new_cell ?_ rfl; (simp; done)) | (refine new_froz ?_; (simp; done)) | (refine alo_cell ?_ ?_; (focus first | (simp; done) | (simp; omega))) | (refine alo_froz ?_ ?_; (focus first | (simp; done) | (simp; omega))))))
  have r0 : w1.cell? ⟨w.heap.size + 1, 0, none⟩ = some (.int .i64 0) := cell_later hb1 (by (repeat (first | (refine new_cell ?_ rfl; (simp; done)) | (refine new_froz ?_; (simp; done)) | (refine alo_cell ?_ ?_; (focus first | (simp; done) | (simp; omega))) | (refine alo_froz ?_ ?_; (focus first | (simp; done) | (simp; omega))))))
  have r1 : w1.cell? ⟨w.heap.size + 1, 1, none⟩ = some (.int .i64 0) := cell_later hb1 (by (repeat (first | (refine new_cell ?_ rfl; (simp; done)) | (refine new_froz ?_; (simp; done)) | (refine alo_cell ?_ ?_; (focus first | (simp; done) | (simp; omega))) | (refine alo_froz ?_ ?_; (focus first | (simp; done) | (simp; omega))))))
  have r2 : w1.cell? ⟨w.heap.size + 1, 2, none⟩ = some (.string ⟨#[]⟩) := cell_later hb1 (by (repeat (first | (refine new_cell ?_ rfl; (simp; done)) | (refine new_froz ?_; (simp; done)) | (refine alo_cell ?_ ?_; (focus first | (simp; done) | (simp; omega))) | (refine alo_froz ?_ ?_; (focus first | (simp; done) | (simp; omega))))))
  have rf : ∀ o, w1.frozen? ⟨w.heap.size + 1, o, none⟩ = false := fun o => (Below.frozen hb1 (p := ⟨w.heap.size + 1, o, none⟩) (by simp)).trans (by (repeat (first | (refine new_cell ?_ rfl; (simp; done)) | (refine new_froz ?_; (simp; done)) | (refine alo_cell ?_ ?_; (focus first | (simp; done) | (simp; omega))) | (refine alo_froz ?_ ?_; (focus first | (simp; done) | (simp; omega))))))
  have HB1 := Lib.hid (HA.out.trans (hb1.mono HA.out.size))
  clear hb1
  go_wp2_with fail
  refine (HTO.out w1 HB1.out).mono ?_
  rintro e w2 ⟨rfl, hb2⟩
  have c02 := cell_later hb2 c0
  have r02 := cell_later hb2 r0
  have r12 := cell_later hb2 r1
  have r22 := cell_later hb2 r2
  have rf2 : ∀ o, w2.frozen? ⟨w.heap.size + 1, o, none⟩ = false := fun o => (Below.frozen hb2 (p := ⟨w.heap.size + 1, o, none⟩) (show w.heap.size + 1 < _ from World.block_lt_of_cell? _ _ r0)).trans (rf o)
  have HB2 := Lib.hid (HB1.out.trans (hb2.mono HB1.out.size))
  clear hb2 c0 c1 r0 r1 r2 rf
  have HCL := Lib.hid (cloEE A m c vs w2 (HT.out.later HB2.out) (by omega))
  go_wp2_with fail
  refine HCL.out.mono ?_
  rintro e w3 ⟨A2, k2, rfl, hrd, hcc, hb3, hfr, hown⟩
  have HREV := Lib.hid (revE A2 m k2 vs w2 w3 hb3 hown (by omega))
  have hb3' := hb3
  clear hrd hfr hown hb3
  go_wp2_with fail
  refine HREV.out.mono ?_
  rintro e w4 ⟨rfl, hr4, hb4⟩
  have HL3 : Hid (rTab w4 A2 m vs.reverse) := Lib.hid hr4
  clear hr4 hb3'
  have r03 := cell_later hb4 r02
  have r13 := cell_later hb4 r12
  have r23 := cell_later hb4 r22
  have rf3 : ∀ o, w4.frozen? ⟨w.heap.size + 1, o, none⟩ = false := fun o => (Below.frozen hb4 (p := ⟨w.heap.size + 1, o, none⟩) (show w.heap.size + 1 < _ from World.block_lt_of_cell? _ _ r02)).trans (rf2 o)
  have HB3 := Lib.hid (HB2.out.trans (hb4.mono HB2.out.size))
  clear hb4 r02 r12 r22 rf2
  have HFI := Lib.hid (firstE A2 m k2 (vs.reverse) w4 HL3.out (by omega) (fun x hx => HPOS.out x (List.mem_reverse.1 hx)))
  by_cases hm0 : m = 0
  · subst hm0
    rw [if_pos rfl] at HFI
    go_wp2_with fail
    refine HFI.out.mono ?_
    rintro e w5 ⟨rfl, hbf⟩
    have HL4 := Lib.hid (HL3.out.later hbf)
    have r04 := cell_later hbf r03
    have r14 := cell_later hbf r13
    have r24 := cell_later hbf r23
    have rf4 : ∀ o, w5.frozen? ⟨w.heap.size + 1, o, none⟩ = false := fun o => (Below.frozen hbf (p := ⟨w.heap.size + 1, o, none⟩) (show w.heap.size + 1 < _ from World.block_lt_of_cell? _ _ r03)).trans (rf3 o)
    have HB4 := Lib.hid (HB3.out.trans (hbf.mono HB3.out.size))
    clear hbf r03 r13 r23 rf3
    have hvs : vs = [] := List.eq_nil_of_length_eq_zero (by have := HT.out.len; omega)
    have hres : Hid (resV 5 n vs = zV) := Lib.hid (by rw [hvs]; rfl)
    clear hvs
    go_wp2_with fail
    obtain ⟨e0, e1, e2⟩ := set3cells (a := .int .i64 0) (b := .int .i64 0) (c := .string ⟨#[]⟩) r04 r14 r24
    refine bodyPost_ret (v := .tuple #[.agg #[.int .i64 0, .int .i64 0, .string ⟨#[]⟩], .int .i64 0]) (by simp [results, Tryz.results216, go_sem, e0, e1, e2]) rfl ?_
    exact ⟨by rw [hres.out]; rfl, ((HB4.out.setCell (p := ⟨w.heap.size + 1, 0, none⟩) (by show w.heap.size ≤ w.heap.size + 1; omega) _).setCell (p := ⟨w.heap.size + 1, 1, none⟩) (by show w.heap.size ≤ w.heap.size + 1; omega) _).setCell (p := ⟨w.heap.size + 1, 2, none⟩) (by show w.heap.size ≤ w.heap.size + 1; omega) _⟩
  · rw [if_neg hm0] at HFI
    have HM0 := Lib.hid hm0
    clear hm0
    go_wp2_with fail
    refine HFI.out.mono ?_
    rintro e w5 ⟨rfl, hbf⟩
    have HL4 := Lib.hid (HL3.out.later hbf)
    have r04 := cell_later hbf r03
    have r14 := cell_later hbf r13
    have r24 := cell_later hbf r23
    have rf4 : ∀ o, w5.frozen? ⟨w.heap.size + 1, o, none⟩ = false := fun o => (Below.frozen hbf (p := ⟨w.heap.size + 1, o, none⟩) (show w.heap.size + 1 < _ from World.block_lt_of_cell? _ _ r03)).trans (rf3 o)
    have HB4 := Lib.hid (HB3.out.trans (hbf.mono HB3.out.size))
    clear hbf r03 r13 r23 rf3
    have hm0 := HM0.out
    obtain ⟨x, l, hvs⟩ : ∃ x l, vs.reverse = x :: l := by
      cases hv : vs.reverse with
      | nil => have := HL4.out.len; rw [hv] at this; simp at this; omega
      | cons x l => exact ⟨x, l, rfl⟩
    have hx : x ∈ vs := by
      have : x ∈ vs.reverse := by rw [hvs]; exact List.mem_cons_self ..
      exact List.mem_reverse.1 this
    obtain ⟨v, hv, hk0⟩ := HOK.out.2.1 x hx
    have hres : Hid (resV 5 n vs = v) := Lib.hid (resV_ext5 hvs hv)
    obtain ⟨b1, o1, rfl, hc1⟩ := HL4.out.opn (by omega)
    obtain ⟨rA, rN, rC, x1, x2, x3⟩ := hc1 0 x (by rw [hvs]; rfl)
    rw [hv] at x3
    obtain rfl : 1 = rN := x3.len
    obtain ⟨b2, o2, rfl, hc2⟩ := x3.opn (by omega)
    obtain ⟨v1, v2, v3⟩ := hc2 0 v rfl
    simp only [Nat.zero_mul, Nat.add_zero] at v1 v2 v3 x1
    have im : 0 < m := by omega
    have im2 : (0 : Int) < (m : Int) := by omega
    clear hc1 x2 x3 hc2 hk0 hv hvs hx
    go_wp2_with fail
    obtain ⟨e0, e1, e2⟩ := set3cells (a := .int .i64 v.k) (b := .int .i64 v.m) (c := .string v.s) r04 r14 r24
    refine bodyPost_ret (v := .tuple #[.agg #[.int .i64 v.k, .int .i64 v.m, .string v.s], .int .i64 0]) (by simp [results, Tryz.results216, go_sem, e0, e1, e2]) rfl ?_
    exact ⟨by rw [hres.out], ((HB4.out.setCell (p := ⟨w.heap.size + 1, 0, none⟩) (by show w.heap.size ≤ w.heap.size + 1; omega) _).setCell (p := ⟨w.heap.size + 1, 1, none⟩) (by show w.heap.size ≤ w.heap.size + 1; omega) _).setCell (p := ⟨w.heap.size + 1, 2, none⟩) (by show w.heap.size ≤ w.heap.size + 1; omega) _⟩
set_option maxRecDepth 100000 in
set_option maxHeartbeats 1000000 in
theorem resE_6 (n : Int) (A : Option Addr) (m c : Nat) (vs : Tab) (w : World) (h1 : -268435456 ≤ n) (h2 : n ≤ 268435456) (ht : rTab w A m vs) (hok : okRes 6 vs) :
    Calls Tryz.prog 216 #[.int .i64 6, .agg #[.int .i64 n, .slice A m c]] w (AgrR (resV 6 n vs) w) := by
  have hm4 : m ≤ 4096 := by have := ht.len; have := hok.1.1; omega
  have HT := Lib.hid ht
  have HOK := Lib.hid hok
  have HPOS : Hid (∀ x ∈ vs, 0 < x.2) := Lib.hid fun x hx => (hok.2.2.1 x hx).1
  have HA : Hid (Below w.heap.size w ((w.alloc (.cells #[.int .i64 n, .slice A m c] 228)).alloc (.cells #[.int .i64 0, .int .i64 0, .string ⟨#[]⟩] 46))) := Lib.hid ((ballo _ _).alloc (by simp) _)
  have HV := Lib.hid (gvalE n A m c vs _ h1 h2 (ht.later HA.out) hok.1 hok.2.1)
  have HTO := Lib.hid fun W (hb : Below w.heap.size w W) => totE A m c vs W (ht.later hb) hok.2.1 hok.2.2.1 hok.2.2.2.1 hm4
  clear ht hok
  go_enter Tryz.func216, Tryz.ntmps216
  go_wp2_with fail
  refine HV.out.mono ?_
  rintro e w1 ⟨rfl, hb1⟩
  have c1 : w1.cell? ⟨w.heap.size, 1, none⟩ = some (.slice A m c) := cell_later hb1 (by (repeat (first | (refine new_cell ?_ rfl; (simp; done)) | (refine new_froz ?_; (simp; done)) | (refine alo_cell ?_ ?_; (focus first | (simp; done) | (simp; omega))) | (refine alo_froz ?_ ?_; (focus first | (simp; done) | (simp; omega))))))
  have c0 : w1.cell? ⟨w.heap.size, 0, none⟩ = some (.int .i64 n) := cell_later hb1 (by (repeat (first | (refine new_cell ?_ rfl; (simp; done)) | (refine new_froz ?_; (simp; done)) | (refine alo_cell ?_ ?_; (focus first | (simp; done) | (simp; omega))) | (refine alo_froz ?_ ?_; (focus first | (simp; done) | (simp; omega))))))
  have r0 : w1.cell? ⟨w.heap.size + 1, 0, none⟩ = some (.int .i64 0) := cell_later hb1 (by (repeat (first | (refine new_cell ?_ rfl; (simp; done)) | (refine new_froz ?_; (simp; done)) | (refine alo_cell ?_ ?_; (focus first | (simp; done) | (simp; omega))) | (refine alo_froz ?_ ?_; (focus first | (simp; done) | (simp; omega))))))
  have r1 : w1.cell? ⟨w.heap.size + 1, 1, none⟩ = some (.int .i64 0) := cell_later hb1 (by (repeat (first | (refine new_cell ?_ rfl; (simp; done)) | (refine new_froz ?_; (simp; done)) | (refine alo_cell ?_ ?_; (focus first | (simp; done) | (simp; omega))) | (refine alo_froz ?_ ?_; (focus first | (simp; done) | (simp; omega))))))
  have r2 : w1.cell? ⟨w.heap.size + 1, 2, none⟩ = some (.string ⟨#[]⟩) := cell_later hb1 (by (repeat (first | (refine new_cell ?_ rfl; (simp; done)) | (refine new_froz ?_; (simp; done)) | (refine alo_cell ?_ ?_; (focus first | (simp; done) | (simp; omega))) | (refine alo_froz ?_ ?_; (focus first | (simp; done) | (simp; omega))))))
  have rf : ∀ o, w1.frozen? ⟨w.heap.size + 1, o, none⟩ = false := fun o => (Below.frozen hb1 (p := ⟨w.heap.size + 1, o, none⟩) (by simp)).trans (by (repeat (first | (refine new_cell ?_ rfl; (simp; done)) | (refine new_froz ?_; (simp; done)) | (refine alo_cell ?_ ?_; (focus first | (simp; done) | (simp; omega))) | (refine alo_froz ?_ ?_; (focus first | (simp; done) | (simp; omega))))))
  have HB1 := Lib.hid (HA.out.trans (hb1.mono HA.out.size))
  clear hb1
  go_wp2_with fail
  refine (HTO.out w1 HB1.out).mono ?_
  rintro e w2 ⟨rfl, hb2⟩
  have c02 := cell_later hb2 c0
  have r02 := cell_later hb2 r0
  have r12 := cell_later hb2 r1
  have r22 := cell_later hb2 r2
  have rf2 : ∀ o, w2.frozen? ⟨w.heap.size + 1, o, none⟩ = false := fun o => (Below.frozen hb2 (p := ⟨w.heap.size + 1, o, none⟩) (show w.heap.size + 1 < _ from World.block_lt_of_cell? _ _ r0)).trans (rf o)
  have HB2 := Lib.hid (HB1.out.trans (hb2.mono HB1.out.size))
  clear hb2 c0 c1 r0 r1 r2 rf
  go_wp2_with fail
  go_loopw [10, 49] (fun v iv wr => ∃ k : Nat, k ≤ m ∧ iv = .int .i64 k ∧ v = .int .i64 k ∧ Below w.heap.size w wr ∧ wr.cell? ⟨w.heap.size + 1, 0, none⟩ = some (.int .i64 0) ∧ wr.cell? ⟨w.heap.size + 1, 1, none⟩ = some (.int .i64 0) ∧ wr.cell? ⟨w.heap.size + 1, 2, none⟩ = some (.string ⟨#[]⟩) ∧ ∀ o, wr.frozen? ⟨w.heap.size + 1, o, none⟩ = false) (fun _ iv _ => m - (intOf iv).toNat)
  case atStart => exact ⟨0, by omega, rfl, rfl, HB2.out, r02, r12, r22, rf2⟩
  case round =>
    obtain ⟨k, hk, rfl, rfl, hbw, q0, q1, q2, qf⟩ := hrel
    have HBW := Lib.hid hbw
    by_cases hlt : k < m
    · obtain ⟨b1, o1, rfl, hc1⟩ := (HT.out.later hbw).opn (by omega)
      obtain ⟨x, hx⟩ := get_some (l := vs) (k := k) (by have := HT.out.len; omega)
      obtain ⟨rA, rN, rC, x1, x2, x3⟩ := hc1 k x hx
      have hpx := HPOS.out x (List.mem_of_getElem? hx)
      have HBF := Lib.hid (hbw.alloc hbw.size (.cells #[.slice rA rN rC, .int .i64 x.2] 65))
      have m1 : IntKind.i64.wrap ((k : Int) + 1) = (k : Int) + 1 := by rw [IntKind.wrap_i64]; omega
      have hlo : w.heap.size + 1 < wr.heap.size := World.block_lt_of_cell? _ _ q0
      have HPC := Lib.hid (posE ⟨rA, rN, rC, x.2⟩ (wr.alloc (.cells #[.slice rA rN rC, .int .i64 x.2] 65)) hpx)
      clear hc1 hx x3 hbw hpx
      go_wp2_with fail
      refine HPC.out.mono ?_
      rintro e w4 ⟨rfl, hb4⟩
      have HB4 := Lib.hid (btr (ballo wr (.cells #[.slice rA rN rC, .int .i64 x.2] 65)) hb4)
      have s0 := cell_later HB4.out q0
      have s1 := cell_later HB4.out q1
      have s2 := cell_later HB4.out q2
      have sf : ∀ o, w4.frozen? ⟨w.heap.size + 1, o, none⟩ = false := fun o => (Below.frozen HB4.out (p := ⟨w.heap.size + 1, o, none⟩) hlo).trans (qf o)
      have HBG := Lib.hid (btr HBW.out HB4.out)
      clear hb4 q0 q1 q2 qf
      go_wp2
      go_roundw
      case rel => exact ⟨k + 1, by omega, by go_num, by go_num, HBG.out, s0, s1, s2, sf⟩
      case measure => simp [intOf]; omega
    · obtain rfl : k = m := by omega
      have hres : Hid (resV 6 n vs = intV (k : Int)) := Lib.hid (by rw [← HT.out.len]; rfl)
      have HBX := HBW
      obtain ⟨w3, rfl⟩ : ∃ w3, w3 = wr := ⟨_, rfl⟩
      have r03 := q0
      have r13 := q1
      have r23 := q2
      have rf3 := qf
      have HB3 := Lib.hid hbw
      clear q0 q1 q2 qf hbw
      go_wp2_with fail
      refine (integerE' ((k : Nat) : Int) w3).mono ?_
      rintro e w4 ⟨rfl, hb4⟩
      have r04 := cell_later hb4 r03
      have r14 := cell_later hb4 r13
      have r24 := cell_later hb4 r23
      have rf4 : ∀ o, w4.frozen? ⟨w.heap.size + 1, o, none⟩ = false := fun o => (Below.frozen hb4 (p := ⟨w.heap.size + 1, o, none⟩) (show w.heap.size + 1 < _ from World.block_lt_of_cell? _ _ r03)).trans (rf3 o)
      have HB4 := Lib.hid (HB3.out.trans (hb4.mono HB3.out.size))
      clear hb4 r03 r13 r23 rf3
      go_wp2_with fail
      obtain ⟨e0, e1, e2⟩ := set3cells (a := .int .i64 (intV ((k : Nat) : Int)).k) (b := .int .i64 (intV ((k : Nat) : Int)).m) (c := .string (intV ((k : Nat) : Int)).s) r04 r14 r24
      refine bodyPost_ret (v := .tuple #[.agg #[.int .i64 (intV ((k : Nat) : Int)).k, .int .i64 (intV ((k : Nat) : Int)).m, .string (intV ((k : Nat) : Int)).s], .int .i64 0]) (by simp [results, Tryz.results216, go_sem, e0, e1, e2]) rfl ?_
      exact ⟨by rw [hres.out], ((HB4.out.setCell (p := ⟨w.heap.size + 1, 0, none⟩) (by show w.heap.size ≤ w.heap.size + 1; omega) _).setCell (p := ⟨w.heap.size + 1, 1, none⟩) (by show w.heap.size ≤ w.heap.size + 1; omega) _).setCell (p := ⟨w.heap.size + 1, 2, none⟩) (by show w.heap.size ≤ w.heap.size + 1; omega) _⟩
theorem resultE2 (f n : Int) (A : Option Addr) (m c : Nat) (vs : Tab) (w : World) (hf : f = 1 ∨ f = 3 ∨ f = 4 ∨ f = 5 ∨ f = 6) (h1 : -268435456 ≤ n) (h2 : n ≤ 268435456) (ht : rTab w A m vs) (hok : okRes f vs) :
    Calls Tryz.prog 216 #[.int .i64 f, .agg #[.int .i64 n, .slice A m c]] w (AgrR (resV f n vs) w) := by
  rcases hf with rfl | rfl | rfl | rfl | rfl
  · exact resE_1 n A m c vs w h1 h2 ht hok
  · exact resE_3 n A m c vs w h1 h2 ht hok
  · exact resE_4 n A m c vs w h1 h2 ht hok
  · exact resE_5 n A m c vs w h1 h2 ht hok
  · exact resE_6 n A m c vs w h1 h2 ht hok
end
end Go.Proofs.YthcalfeoejdcgaaGreatDoor
