import Derived.Test.YthcalfeoejdcgaaGreatDoorH15
import Derived.Test.YthcalfeoejdcgaaGreatDoorH36
import Derived.Deep.RegionLaw
import Derived.KernelRfl
namespace Go.Proofs.YthcalfeoejdcgaaGreatDoor
set_option linter.unusedSimpArgs false
set_option linter.unusedVariables false
section
open Go.RowKit Go.BigFrame
theorem der_at {cs : List Col} {p : List Nod} {t : Tab} {k : Nat} {x : List Val × Int} (h : t[k]? = some x) : (derV cs p (t.take k) ++ t.drop k)[k]? = some x := by
  have hk := (List.getElem?_eq_some_iff.1 h).1
  have hl : (derV cs p (t.take k)).length = k := by unfold derV; rw [List.length_map, List.length_take]; omega
  rw [List.getElem?_append_right (by omega), hl, Nat.sub_self, List.getElem?_drop, Nat.add_zero]
  exact h
theorem der_step {cs : List Col} {p : List Nod} {t : Tab} {k : Nat} {x : List Val × Int} (h : t[k]? = some x) : (derV cs p (t.take k) ++ t.drop k).set k (x.1 ++ [evaV cs x.1 p], x.2) = derV cs p (t.take (k + 1)) ++ t.drop (k + 1) := by
  have hk := (List.getElem?_eq_some_iff.1 h).1
  have hl : (derV cs p (t.take k)).length = k := by unfold derV; rw [List.length_map, List.length_take]; omega
  have hd : t.drop k = x :: t.drop (k + 1) := by
    rw [List.drop_eq_getElem_cons hk]
    rw [(List.getElem?_eq_some_iff.1 h).2]
  have ht : derV cs p (t.take (k + 1)) = derV cs p (t.take k) ++ [(x.1 ++ [evaV cs x.1 p], x.2)] := by
    unfold derV
    rw [zbc h, List.map_append]
    rfl
  rw [List.set_append_right _ _ (by omega), hl, Nat.sub_self, hd, List.set_cons_zero, ht, List.append_assoc]
  rfl
set_option maxRecDepth 100000 in
set_option maxHeartbeats 8000000 in
theorem deriveX {cs : List Col} {tk : Knd} {t : Tab} (op : Int) (so : ByteArray) (iA : Option Addr) (iC : Nat) (it : Itm) (p : List Nod) (nm : ByteArray) (cA : Option Addr) (cN cC : Nat) (tA : Option Addr) (tN tC : Nat) (zA : Option Addr) (zN zC : Nat) (w : World) (hX : okX cs p tk) (htab : okTab t) (hrow : ∀ x ∈ t, okRow cs x.1) (hi : rItm w iA 1 [it]) (hn : rNod w it.exA it.exN p) (hc : rCol w cA cN cs) (hcc : cN ≤ cC) (ht : rTab w tA tN t) (hz : rZns w zA zN) (hT : Tbs w) :
    Calls Tryz.prog 131 #[.agg #[.int .i64 op, .string so, .slice none 0 0, .slice none 0 0, .slice iA 1 iC, .slice none 0 0], .agg #[.string nm, .slice cA cN cC, .slice none 0 0, .slice tA tN tC], .slice zA zN zC] w (Tab2R (derV cs p t) w) := by
  obtain ⟨iV, PV⟩ := pVal
  obtain ⟨w0, hw0⟩ : ∃ w0, w0 = (w.alloc (.cells #[.int .i64 op, .string so, .slice none 0 0, .slice none 0 0, .slice iA 1 iC, .slice none 0 0] 44)).alloc (.cells #[.string nm, .slice cA cN cC, .slice none 0 0, .slice tA tN tC] 31) := ⟨_, rfl⟩
  have HB0 : Hid (Below w.heap.size w w0) := Lib.hid (by rw [hw0]; exact (zae _ _).alloc (by simp) _)
  have a4 : w0.cell? ⟨w.heap.size, 4, none⟩ = some (.slice iA 1 iC) := by rw [hw0]; (repeat (first | (refine zaa ?_ rfl; (simp; done)) | (refine zad ?_; (simp; done)) | (refine zac ?_ ?_; (focus first | (simp; done) | (simp; omega))) | (refine zab ?_ ?_; (focus first | (simp; done) | (simp; omega)))))
  have b1 : w0.cell? ⟨w.heap.size + 1, 1, none⟩ = some (.slice cA cN cC) := by rw [hw0]; (repeat (first | (refine zaa ?_ rfl; (simp; done)) | (refine zad ?_; (simp; done)) | (refine zac ?_ ?_; (focus first | (simp; done) | (simp; omega))) | (refine zab ?_ ?_; (focus first | (simp; done) | (simp; omega)))))
  have b3 : w0.cell? ⟨w.heap.size + 1, 3, none⟩ = some (.slice tA tN tC) := by rw [hw0]; (repeat (first | (refine zaa ?_ rfl; (simp; done)) | (refine zad ?_; (simp; done)) | (refine zac ?_ ?_; (focus first | (simp; done) | (simp; omega))) | (refine zab ?_ ?_; (focus first | (simp; done) | (simp; omega)))))
  have HEV := Lib.hid fun W (hb : Below w.heap.size w W) (rA : Option Addr) (rN rC : Nat) (r : List Val) (hr : rVal W rA rN r) (hrow : okRow cs r) => evalX it.exA it.exN it.exC p cA cN cC rA rN rC r zA zN zC W hX (hn.later hb) (hc.later hb) hcc hr hrow (hz.later hb) (hT.later hb (Nat.le_refl _))
  obtain ⟨ib, io, rfl, hic⟩ := hi.opn (by omega)
  obtain ⟨i0, i1, i2, i3, i4⟩ := hic 0 it rfl
  simp only [Nat.zero_mul, Nat.add_zero] at i0 i1 i2 i3 i4
  have HTAB := Lib.hid htab
  have HROW := Lib.hid hrow
  have HT := Lib.hid ht
  have LT := Lib.hid ht.len
  have htn : tN ≤ 4096 := by have := ht.len; have := htab.1.1; omega
  have HCP := Lib.hid (copiedR tA tN tC t w0 (ht.later HB0.out) htn (fun y hy => (htab.1.2.2 y hy).1))
  have hw0s : w.heap.size + 2 ≤ w0.heap.size := by rw [hw0]; simp
  clear hX htab hrow hn hc ht hz hT hi hic
  go_enter Tryz.func131, Tryz.ntmps131
  go_wp2_with fail
  rw [← hw0]
  clear hw0
  refine HCP.out.mono ?_
  rintro e w1 ⟨A1, n1, c1, qs0, rfl, hqn, hc1, hrs, hb1⟩
  obtain rfl : n1 = tN := by have := hrs.len; have := LT.out; omega
  have HB1 := Lib.hid hb1
  have HRS := Lib.hid hrs
  have b3' := cell_later hb1 b3
  clear hb1 hrs HCP
  go_wp2
  go_loopw [21] (fun iv wr => ∃ k : Nat, k ≤ n1 ∧ iv = .int .i64 k ∧ Below w0.heap.size w0 wr ∧ ∃ qs : List Ent, Hid (qs.length = n1) ∧ Hid (RS wr w0.heap.size (.slice A1 n1 c1) qs (derV cs p (t.take k) ++ t.drop k))) (fun iv _ => n1 - (intOf iv).toNat)
  case atStart => exact ⟨0, by omega, rfl, HB1.out, qs0, Lib.hid hqn, Lib.hid (by simpa [derV] using HRS.out)⟩
  case round =>
    obtain ⟨k, hk, rfl, hbw, qs, HQ, HO⟩ := hrel
    obtain ⟨wx, rfl⟩ : ∃ wx, wx = wr := ⟨_, rfl⟩
    have HBW := Lib.hid hbw
    by_cases hlt : k < n1
    · obtain ⟨g1, o1, rfl, hcx⟩ := HT.out.opn (by omega)
      obtain ⟨x, hx⟩ := zah (l := t) (k := k) (by have := LT.out; omega)
      obtain ⟨xA, xN, xC, x1, x2, x3⟩ := hcx k x hx
      have hB := btr HB0.out hbw
      have z1 := cell_later hB x1
      have z2 := cell_later hB x2
      have hmm := List.mem_of_getElem? hx
      have hx12 := (HTAB.out.1.2.2 x hmm).1
      have HDA : Hid ((derV cs p (t.take k) ++ t.drop k)[k]? = some x) := Lib.hid (der_at hx)
      have HDS : Hid ((derV cs p (t.take k) ++ t.drop k).set k (x.1 ++ [evaV cs x.1 p], x.2) = derV cs p (t.take (k + 1)) ++ t.drop (k + 1)) := Lib.hid (der_step hx)
      have hba : Below wx.heap.size wx (wx.alloc (.cells #[.slice xA xN xC, .int .i64 x.2] 65)) := zae _ _
      have hba2 : Below wx.heap.size wx ((wx.alloc (.cells #[.slice xA xN xC, .int .i64 x.2] 65)).alloc (.cells #[.string it.nm, .int .i64 it.f, .string it.co, .int .i64 it.num, .slice it.exA it.exN it.exC] 40)) := hba.alloc hba.size _
      have HE2 := Lib.hid (HEV.out ((wx.alloc (.cells #[.slice xA xN xC, .int .i64 x.2] 65)).alloc (.cells #[.string it.nm, .int .i64 it.f, .string it.co, .int .i64 it.num, .slice it.exA it.exN it.exC] 40)) (btr hB hba2) xA xN xC x.1 (x3.later (btr hB hba2)) (HROW.out x hmm))
      have a4 := cell_later (btr hbw hba) a4
      have b1 := cell_later (btr hbw hba2) b1
      have i0 := cell_later (btr hB hba) i0
      have i1 := cell_later (btr hB hba) i1
      have i2 := cell_later (btr hB hba) i2
      have i3 := cell_later (btr hB hba) i3
      have i4 := cell_later (btr hB hba) i4
      have q0 : ((wx.alloc (.cells #[.slice xA xN xC, .int .i64 x.2] 65)).alloc (.cells #[.string it.nm, .int .i64 it.f, .string it.co, .int .i64 it.num, .slice it.exA it.exN it.exC] 40)).cell? ⟨wx.heap.size, 0, none⟩ = some (.slice xA xN xC) := by (repeat (first | (refine zaa ?_ rfl; (simp; done)) | (refine zad ?_; (simp; done)) | (refine zac ?_ ?_; (focus first | (simp; done) | (simp; omega))) | (refine zab ?_ ?_; (focus first | (simp; done) | (simp; omega)))))
      obtain ⟨ev, hev⟩ : ∃ ev, ev = evaV cs x.1 p := ⟨_, rfl⟩
      rw [← hev] at HE2 HDS
      have HBA := Lib.hid hba2
      clear hcx hx x3 hB hbw x1 x2 hmm hba hba2 hev b3 b3'
      go_wp2
      go_loopw [29] (fun jv wy => (jv = .int .i64 0 ∧ wy = (wx.alloc (.cells #[.slice xA xN xC, .int .i64 x.2] 65))) ∨ (jv = .int .i64 1 ∧ Below w0.heap.size w0 wy ∧ ∃ qs' : List Ent, Hid (qs'.length = n1) ∧ Hid (RS wy w0.heap.size (.slice A1 n1 c1) qs' (derV cs p (t.take (k + 1)) ++ t.drop (k + 1))))) (fun jv _ => 1 - (intOf jv).toNat)
      case atStart => exact .inl ⟨rfl, rfl⟩
      case round =>
        rcases hrel with ⟨rfl, rfl⟩ | ⟨rfl, hby, qs', HQ', HO'⟩
        · go_wp2_with fail
          refine HE2.out.mono ?_
          rintro e w5 ⟨rfl, hb5⟩
          have hx5 : Below wx.heap.size wx w5 := btr HBA.out hb5
          obtain ⟨⟨sA, sN, sC, sc⟩, ha⟩ := zah (l := qs) (k := k) (by have := HQ.out; omega)
          obtain ⟨b', hb', hr⟩ := HO.out.rel.get ha
          have hbe : b' = x := by have := HDA.out; rw [this] at hb'; cases hb'; rfl
          subst hbe
          obtain ⟨g, rfl, hgl, hgB, p2, pf⟩ := HO.out.cell ha
          have hb6 : Below wx.heap.size wx (w5.alloc (.cells #[.int .i64 ev.k, .int .i64 ev.m, .string ev.s] 46)) := hx5.alloc hx5.size _
          have hb8 : Below wx.heap.size wx ((w5.alloc (.cells #[.int .i64 ev.k, .int .i64 ev.m, .string ev.s] 46)).alloc (.cells #[.int .i64 ev.k, .int .i64 ev.m, .string ev.s] 46)).drew := Below.drew (hb6.alloc hb6.size _)
          have HRS8 := Lib.hid (HO.out.later hb8)
          have HROW8 : Hid (ownD kVal ((w5.alloc (.cells #[.int .i64 ev.k, .int .i64 ev.m, .string ev.s] 46)).alloc (.cells #[.int .i64 ev.k, .int .i64 ev.m, .string ev.s] 46)).drew w0.heap.size (.slice sA sN sC) sN b'.1) := Lib.hid (hr.1.later hb8)
          have hsN : sN < 1000000 := by have h1 := hr.1.len; simp only at h1; omega
          have HLT : Hid (∀ y, (Value.slice sA sN sC).ownBlock = some y → w0.heap.size ≤ y) := Lib.hid fun y hy => (hr.lt y hy).1
          have HA := Lib.hid ha
          have p26 := cell_later hb6 p2
          have p28 := cell_later hb8 p2
          have pf8 : ((w5.alloc (.cells #[.int .i64 ev.k, .int .i64 ev.m, .string ev.s] 46)).alloc (.cells #[.int .i64 ev.k, .int .i64 ev.m, .string ev.s] 46)).drew.frozen? ⟨g, k * 2, none⟩ = false := (hb8.frozen (p := ⟨g, k * 2, none⟩) hgl).trans (pf _)
          have hgl8 : g < ((w5.alloc (.cells #[.int .i64 ev.k, .int .i64 ev.m, .string ev.s] 46)).alloc (.cells #[.int .i64 ev.k, .int .i64 ev.m, .string ev.s] 46)).drew.heap.size := Nat.lt_of_lt_of_le hgl hb8.size
          have hge : some g ≠ (Value.slice sA sN sC).ownBlock := fun e => HO.out.sep _ (List.mem_of_getElem? ha) g e.symm rfl
          have hbase8 : w0.heap.size ≤ ((w5.alloc (.cells #[.int .i64 ev.k, .int .i64 ev.m, .string ev.s] 46)).alloc (.cells #[.int .i64 ev.k, .int .i64 ev.m, .string ev.s] 46)).drew.heap.size := Nat.le_trans HBW.out.size hb8.size
          have HB8 : Hid (Below w0.heap.size w0 ((w5.alloc (.cells #[.int .i64 ev.k, .int .i64 ev.m, .string ev.s] 46)).alloc (.cells #[.int .i64 ev.k, .int .i64 ev.m, .string ev.s] 46)).drew) := Lib.hid (btr HBW.out hb8)
          have hs6 : (w5.alloc (.cells #[.int .i64 ev.k, .int .i64 ev.m, .string ev.s] 46)).heap.size = w5.heap.size + 1 := by simp
          have hOB : ∀ (j : Nat) (u : Value), (encVal ev)[j]? = some u → (((w5.alloc (.cells #[.int .i64 ev.k, .int .i64 ev.m, .string ev.s] 46)).alloc (.cells #[.int .i64 ev.k, .int .i64 ev.m, .string ev.s] 46)).drew).cell? ((⟨w5.heap.size + 1, 0, none⟩ : Addr).add j) = some u := fun j u hu => by
            have h := zbl (w5.alloc (.cells #[.int .i64 ev.k, .int .i64 ev.m, .string ev.s] 46)) 46 ev.k ev.m ev.s j u hu
            rw [hs6] at h
            exact h
          clear hs6
          have hk1 : (k : Int) < (n1 : Int) := by omega
          have hk0 : (0 : Int) ≤ (k : Int) := by omega
          clear hb' hr ha p2 pf hx5 hb6 hb8 hgl a4 b1 i0 i1 i2 i3 i4 q0 z1 z2 hb5
          go_wp2_with fail
          go_region_law (refine za3 _ (by rfl) _ _ (by rfl) PV HROW8.out ⟨w5.heap.size + 1, 0, none⟩ ev ev (by rfl) (by rfl) hOB rfl (fun p hp => by cases hp) hsN hbase8 ?_; intro v' w' hown' hgrow hat; obtain ⟨A9, c9, rfl, hcc9, _, _⟩ := hown'.rd; have s1 := hgrow.cell p28 hge; have sf := (hgrow.frozen_far ⟨g, k * 2, none⟩ hgl8 hge).trans pf8)
          all_goals
            have hB9 := zaf HB8.out hgrow HLT.out
            have HADD := Lib.hid (HRS8.out.turn HA.out HDA.out hbase8 hown' hgrow hat rfl)
            have HBF := Lib.hid (hB9.setCell (p := ⟨g, k * 2, none⟩) (by show w0.heap.size ≤ g; exact hgB) (.slice A9 (sN + 1) c9))
            clear hown' hgrow hat hB9 s1 sf
            go_wp2
            go_roundw
            case rel => exact .inr ⟨by go_num, HBF.out, qs.set k ⟨A9, sN + 1, c9, sc⟩, Lib.hid (by rw [List.length_set]; exact HQ.out), Lib.hid (by rw [← HDS.out]; exact HADD.out)⟩
            case measure => simp [intOf]
        · clear a4 b1 i0 i1 i2 i3 i4 q0 z1 z2
          go_wp2
          go_roundw
          case rel => exact ⟨k + 1, by omega, by go_num, hby, qs', HQ', HO'⟩
          case measure => simp [intOf]; omega
    · obtain rfl : k = n1 := by omega
      have HF : Hid (RS wx w0.heap.size (.slice A1 k c1) qs (derV cs p t)) := Lib.hid (by
        have h := HO.out
        rw [List.take_of_length_le (by have := LT.out; omega), List.drop_of_length_le (by have := LT.out; omega), List.append_nil] at h
        exact h)
      obtain ⟨A9, c9, e9, hc9, htab9⟩ := HF.out.tab
      cases e9
      have HR9 := Lib.hid htab9
      have HSZ := Lib.hid HB0.out.size
      have HB9 := Lib.hid (btr HB0.out hbw)
      clear htab9
      go_wp2
      go_ret2
      exact ⟨_, _, _, rfl, HR9.out.mono HSZ.out, hc9, HB9.out⟩
end
section
open Go.RowKit Go.BigFrame
set_option maxRecDepth 100000 in
set_option maxHeartbeats 4000000 in
theorem twoX (op : Int) (A : Option Addr) (n c : Nat) (B : Option Addr) (m d : Nat) (p q : List Nod) (w : World) (hp : rNod w A n p) (hq : rNod w B m q) (lp : p.length ≤ 1000) (lq : q.length ≤ 1000) :
    Calls Tryz.prog 16 #[.int .i64 op, .slice A n c, .slice B m d] w fun e w' => ∃ A1 n1 c1, e = .returned (.slice A1 n1 c1) ∧ rNod w' A1 n1 (p ++ (q ++ [opN op])) ∧ n1 ≤ c1 ∧ Below w.heap.size w w' ∧ ∀ a, A1 = some a → w.heap.size ≤ a.block := by
  obtain ⟨iN, PN⟩ := pNod
  have HP := Lib.hid hp
  have HQ := Lib.hid hq
  have l1 := hp.len
  have l2 := hq.len
  have hnn : 0 + n < 1000000 := by omega
  have hnm : 0 + n + m < 1000000 := by omega
  have hns : 0 + n + m < 1000000 := by omega
  clear hp hq
  go_enter Tryz.func16, Tryz.ntmps16
  go_wp2_with (first
    | (at_builtin; refine zc1 _ rfl _ _ rfl PN (ownD.nil (K := kNod) w w.heap.size) HP.out (zbg _) rfl rfl hnn (Nat.le_refl _) (fun a h p hp => nomatch hp) ?_; intro v1 w1 hown1 hg1 hat1; have HB1 := Lib.hid (zaf (za0 w) hg1 (fun y e => nomatch e)); have HO1 := Lib.hid hown1; have HV1 := Lib.hid (fun y e => (hown1.lt y e).1); have hs1 := HB1.out.size; have HQ1 := Lib.hid (HQ.out.later HB1.out); clear hown1 hg1 hat1)
    | (at_builtin; refine zc1 _ rfl _ _ rfl PN HO1.out HQ1.out (zbg _) rfl rfl hnm hs1 (fun a h p hp => nomatch hp) ?_; intro v2 w2 hown2 hg2 hat2; have HB2 := Lib.hid (zaf HB1.out hg2 HV1.out); have HV2 := Lib.hid (fun y e => (hown2.lt y e).1); have HO2 := Lib.hid (hown2.later (zae w2 (.cells #[.int .i64 op, .int .i64 0, .int .i64 0, .string ⟨#[]⟩, .string ⟨#[]⟩, .int .i64 0] 48))); have hs2 : w.heap.size ≤ (w2.alloc (.cells #[.int .i64 op, .int .i64 0, .int .i64 0, .string ⟨#[]⟩, .string ⟨#[]⟩, .int .i64 0] 48)).heap.size := Nat.le_trans HB2.out.size (zae _ _).size; clear hown2 hg2 hat2)
    | (at_builtin; refine zaq _ rfl _ _ rfl PN HO2.out ⟨_, 0, none⟩ (opN op) (opN op) rfl rfl (zem _ _ _ _ _ _ _ _) rfl (fun p hp => nomatch hp) hns hs2 ?_; intro v3 w3 hown hg hat))
  have HB3 := Lib.hid (zaf (HB2.out.alloc HB2.out.size _) hg HV2.out)
  obtain ⟨A3, c3, rfl, hcc, hrd, hfr⟩ := hown.rd
  have HR : Hid (rNod w3 A3 (0 + n + m + 1) (p ++ (q ++ [opN op]))) := Lib.hid (by
    have h := rD_Nod.1 hrd
    rwa [List.nil_append, List.append_assoc] at h)
  have HF := Lib.hid fun a e => (hfr a e).1
  clear hown hg hat hrd hfr
  go_wp2
  go_ret
  exact ⟨_, _, _, rfl, HR.out, hcc, HB3.out, HF.out⟩
end
section
open Go.RowKit Go.RowKit Go.BigFrame
theorem of_condE {α : Type} {b : Bool} {x y : α} {z : Option α} (h : cond b (some x) z = some y) : (b = true ∧ x = y) ∨ (b = false ∧ z = some y) := by
  cases b
  · exact .inr ⟨rfl, h⟩
  · cases h; exact .inl ⟨rfl, rfl⟩
section
variable {tb : Nat → Tab} {num : Nat → Int} {nod : Nat → List Nod} {D : Nat → Prop} {ρ : Nat → Pl} {s : ASt} {w w' : World}
theorem rdItm_ok {v v' : Value} {k : Nat} (hr : rdItm s v = some k) (h : Sim (ETb tb num nod) D ρ s w) (hv : Rv (ETb tb num nod) D ρ v v') (l1 : 500 ≤ k % 1024) (l2 : k % 1024 < 510) :
    ∃ A c it, v' = .slice A 1 c ∧ 1 ≤ c ∧ rItm w A 1 [it] ∧ it.exN ≤ it.exC ∧ rNod w it.exA it.exN (nod (k % 1024)) := by
  unfold rdItm at hr
  split at hr
  · rename_i i o m
    split at hr
    · rename_i nm f co num' k' hl
      cases hr
      obtain ⟨l', j1, j2, j3⟩ := zfi hl h
      obtain ⟨a1, m1, rfl, g1, j1⟩ := zag j1
      obtain ⟨a2, m2, rfl, g2, j1⟩ := zag j1
      obtain ⟨a3, m3, rfl, g3, j1⟩ := zag j1
      obtain ⟨a4, m4, rfl, g4, j1⟩ := zag j1
      obtain ⟨a5, m5, rfl, g5, j1⟩ := zag j1
      obtain rfl := zay j1
      obtain rfl := zat g1 rfl
      obtain rfl := zat g2 rfl
      obtain rfl := zat g3 rfl
      obtain rfl := zat g4 rfl
      obtain ⟨A, n, c0, rfl, hc, hn⟩ := zp3 g5 h l1 l2
      cases hv with
      | flat _ h => cases h
      | slice i o n lb c hd g1 g2 g3 g4 =>
        refine ⟨_, _, ⟨nm, f, co, num', A, n, c0⟩, rfl, by omega, ⟨rfl, fun _ => ⟨_, _, rfl, fun j u hu => ?_⟩⟩, hc, hn⟩
        have := j3 j u (by simpa [flat, encItm] using hu)
        rwa [zb2] at this
    · cases hr
  · cases hr
theorem sp131_ok {G : List WhrA} (hG : ∀ g ∈ G, 500 ≤ g.n ∧ g.n < 510 ∧ (∃ t, okWh g.cs (nod g.n) t (tb g.d)) ∧ tb g.d2 = derV g.cs (nod g.n) (tb g.d)) {args : List Value} {v : Value} {s' : ASt} (hx : sp131 G args s = some (v, s')) {args' : List Value} (h : Sim (ETb tb num nod) D ρ s w) (hr : Rvs (ETb tb num nod) D ρ args args') :
    Calls Tryz.prog 131 ⟨args'⟩ w fun e w' => ∃ v' ρ' D', e = .returned v' ∧ Rv (ETb tb num nod) D' ρ' v v' ∧ Sim (ETb tb num nod) D' ρ' s' w' ∧ Ex D s ρ w D' s' ρ' w' := by
  unfold sp131 at hx
  split at hx
  · rename_i op so itv nm co kt z
    split at hx
    · rename_i k hit
      split at hx
      · rename_i d2 hf
        obtain ⟨hk, e⟩ := zax hx
        cases e
        rw [Bool.and_eq_true] at hk
        obtain ⟨hz, hg⟩ := hk
        obtain ⟨g, hgm, e1, e2, rfl, l4, l5, hf2⟩ := zou hf
        obtain ⟨l1, l2, ⟨t, hX⟩, heq⟩ := hG g hgm
        rw [e1] at l1 l2 hX heq
        rw [e2] at hX heq
        obtain ⟨x1, m, rfl, h1, hr⟩ := zag hr
        obtain ⟨x2, m, rfl, h2, hr⟩ := zag hr
        obtain ⟨x3, m, rfl, h3, hr⟩ := zag hr
        obtain rfl := zay hr
        obtain ⟨l, rfl, h5⟩ := zdl h1
        obtain ⟨a1, m, rfl, g1, h5⟩ := zag h5
        obtain ⟨a2, m, rfl, g2, h5⟩ := zag h5
        obtain ⟨a3, m, rfl, g3, h5⟩ := zag h5
        obtain ⟨a4, m, rfl, g4, h5⟩ := zag h5
        obtain ⟨a5, m, rfl, g5, h5⟩ := zag h5
        obtain ⟨a6, m, rfl, g6, h5⟩ := zag h5
        obtain rfl := zay h5
        obtain rfl := zat g1 rfl
        obtain rfl := zat g2 rfl
        obtain rfl := zat g3 rfl
        obtain rfl := zat g4 rfl
        obtain rfl := zat g6 rfl
        obtain ⟨iA, iC, it, rfl, hic, hi, hec, hn⟩ := rdItm_ok hit h g5 l1 l2
        obtain ⟨l, rfl, h5⟩ := zdl h2
        obtain ⟨b1, m, rfl, i1, h5⟩ := zag h5
        obtain ⟨b2, m, rfl, i2, h5⟩ := zag h5
        obtain ⟨b3, m, rfl, i3, h5⟩ := zag h5
        obtain ⟨b4, m, rfl, i4, h5⟩ := zag h5
        obtain rfl := zay h5
        obtain rfl := zat i1 rfl
        obtain rfl := zat i3 rfl
        obtain ⟨cA, cN, cC, rfl, hco, hcc⟩ := zbn hf2 h i2
        obtain ⟨tA, tN, tC, rfl, htc, ht⟩ := zcq i4 h (by unfold tDe; exact Nat.ble_eq_true_of_le (by omega))
        obtain ⟨zA, zN, zC, rfl, hzc, hzn⟩ := zp4 h3 h hz
        refine (deriveX op so iA iC it _ nm cA cN cC tA tN tC zA zN zC w hX.x hX.tab hX.row hi hn hco hcc ht hzn (zkp hg h)).mono ?_
        rw [← heq]
        rintro e w' ⟨B, m, b, rfl, hr', hb', hb⟩
        obtain ⟨r1, r2, r3⟩ := zd3 h hb (d := g.d2) (by omega) (v := .slice B m b) rfl (.inl ⟨by omega, zbw hr' (Nat.le_refl _) hb'⟩)
        exact ⟨_, _, _, rfl, .tuple _ _ (.cons _ _ _ _ r1 (.cons _ _ _ _ (.flat _ rfl) .nil)), r2, r3⟩
      · cases hx
    · cases hx
  · cases hx
def okTw (s : ASt) (g : TwoA) (a : Value) : Bool := match g.a, a with
  | some n, .chan (some k) => Nat.beq n (k % 1024)
  | none, v => isFlat 6 s v g.l
  | _, _ => false
theorem okTw_ok {g : TwoA} {a : Value} (h : okTw s g a = true) : (∃ n k, g.a = some n ∧ a = .chan (some k) ∧ n = k % 1024) ∨ (g.a = none ∧ isFlat 6 s a g.l = true) := by
  unfold okTw at h
  split at h
  · rename_i n k e; exact .inl ⟨n, k, e, rfl, Nat.eq_of_beq_eq_true h⟩
  · rename_i e; exact .inr ⟨e, h⟩
  · cases h
theorem fTwx_ok {op : Nat} {a : Value} {b d2 : Nat} : ∀ {G : List TwoA} (_ : fTwx s op a b G = some d2), ∃ g ∈ G, g.op = op ∧ g.b = b ∧ g.d2 = d2 ∧ 500 ≤ d2 ∧ d2 ≤ 509 ∧ okTw s g a = true
  | [], h => by cases h
  | g :: l, h => by
    unfold fTwx at h
    rcases of_condE h with ⟨hk, e⟩ | ⟨_, h⟩
    · cases e
      simp only [Bool.and_eq_true] at hk
      obtain ⟨k1, k2, k3, k4, k5⟩ := hk
      exact ⟨g, List.mem_cons_self .., Nat.eq_of_beq_eq_true k1, Nat.eq_of_beq_eq_true k2, rfl, Nat.le_of_ble_eq_true k3, Nat.le_of_ble_eq_true k4, k5⟩
    · obtain ⟨g', hg, h⟩ := fTwx_ok (G := l) h
      exact ⟨g', List.mem_cons_of_mem _ hg, h⟩
theorem sp16_ok {G : List TwoA} (hG : ∀ g ∈ G, 600 ≤ g.op ∧ 500 ≤ g.b ∧ g.b < 510 ∧ ∃ p, (∀ n, g.a = some n → 500 ≤ n ∧ n < 510 ∧ nod n = p) ∧ (g.a = none → g.l = flat encNod p) ∧ nod g.d2 = p ++ (nod g.b ++ [opN (num g.op)]) ∧ p.length ≤ 1000 ∧ (nod g.b).length ≤ 1000) {args : List Value} {v : Value} {s' : ASt} (hx : sp16 G args s = some (v, s')) {args' : List Value} (h : Sim (ETb tb num nod) D ρ s w) (hr : Rvs (ETb tb num nod) D ρ args args') :
    Calls Tryz.prog 16 ⟨args'⟩ w fun e w' => ∃ v' ρ' D', e = .returned v' ∧ Rv (ETb tb num nod) D' ρ' v v' ∧ Sim (ETb tb num nod) D' ρ' s' w' ∧ Ex D s ρ w D' s' ρ' w' := by
  unfold sp16 at hx
  split at hx
  · rename_i o a b
    split at hx
    · rename_i d2 hf
      cases hx
      obtain ⟨g, hgm, e1, e2, rfl, l1, l2, hm⟩ := fTwx_ok hf
      obtain ⟨q1, q2, q3, p, p1, p2, p3, p4, p5⟩ := hG g hgm
      rw [e1] at q1 p3
      rw [e2] at q2 q3 p3 p5
      obtain ⟨x1, m, rfl, h1, hr⟩ := zag hr
      obtain ⟨x2, m, rfl, h2, hr⟩ := zag hr
      obtain ⟨x3, m, rfl, h3, hr⟩ := zag hr
      obtain rfl := zay hr
      obtain rfl := rv_num h1 h q1
      obtain ⟨B, m, d, rfl, hd, hb⟩ := zp3 h3 h q2 q3
      have ha : ∃ A n c, x2 = .slice A n c ∧ n ≤ c ∧ rNod w A n p := by
        rcases okTw_ok hm with ⟨n, k, hga, rfl, hnk⟩ | ⟨hga, hm⟩
        · obtain ⟨z1, z2, z3⟩ := p1 n hga
          rw [hnk] at z1 z2 z3
          rw [← z3]
          exact zp3 h2 h z1 z2
        · obtain ⟨A, n, c, e, f1, f2⟩ := zbn hm h h2
          rw [p2 hga] at f1
          exact ⟨A, n, c, e, f2, f1⟩
      obtain ⟨A, n, c, rfl, hc, hn⟩ := ha
      refine (twoX _ A n c B m d p _ w hn hb p4 p5).mono ?_
      rintro e w' ⟨A1, n1, c1, rfl, hr', hc', hb1, hfr⟩
      rw [← p3] at hr'
      obtain ⟨r1, r2, r3⟩ := zd3 h hb1 (d := g.d2) (by omega) (v := .slice A1 n1 c1) rfl (.inr (.inr (.inl ⟨⟨by omega, by omega⟩, nodAt_of hr' hfr hc'⟩)))
      exact ⟨_, _, _, rfl, r1, r2, r3⟩
    · cases hx
  · cases hx
end
end
section
open Go.RowKit Go.BigFrame
theorem derX {cs : List Col} {t : Knd} (nm co : ByteArray) (f num : Int) (A : Option Addr) (n c : Nat) (p : List Nod) (cA : Option Addr) (cN cC : Nat) (zA : Option Addr) (zN zC : Nat) (w : World) (hX : okX cs p t) (ht : t.k ≠ 0) (hn : rNod w A n p) (hc : rCol w cA cN cs) (hcc : cN ≤ cC) (hz : rZns w zA zN) (hT : Tbs w) :
    Calls Tryz.prog 196 #[.slice cA cN cC, .agg #[.string nm, .int .i64 f, .string co, .int .i64 num, .slice A n c], .slice zA zN zC] w fun e w' => e = .returned (.tuple #[.agg #[.string nm, .int .i64 t.k, .bool t.nl], .int .i64 0]) ∧ Below w.heap.size w w' := by
  have hb0 : Below w.heap.size w ((w.alloc (.cells #[.string nm, .int .i64 f, .string co, .int .i64 num, .slice A n c] 40)).alloc (.cells #[.string ⟨#[]⟩, .int .i64 0, .bool false] 56)) := (zae _ _).alloc (by simp) _
  have H := Lib.hid (typeX A n c p cA cN cC zA zN zC _ hX (hn.later hb0) (hc.later hb0) hcc (hz.later hb0) (hT.later hb0 (Nat.le_refl _)))
  have HB0 := Lib.hid hb0
  clear hX hn hc hcc hz hT hb0
  obtain ⟨k, nl⟩ := t
  simp only at ht H ⊢
  have ht' : (k == 0) = false := by simpa using ht
  clear ht
  go_enter Tryz.func196, Tryz.ntmps196
  go_wp2_with fail
  refine H.out.mono ?_
  rintro e w1 ⟨rfl, hb1⟩
  have z1 : w1.cell? ⟨w.heap.size, 0, none⟩ = some (.string nm) := cell_later hb1 (by (repeat (first | (refine zaa ?_ rfl; (simp; done)) | (refine zad ?_; (simp; done)) | (refine zac ?_ ?_; (focus first | (simp; done) | (simp; omega))) | (refine zab ?_ ?_; (focus first | (simp; done) | (simp; omega))))))
  have y0 : w1.cell? ⟨w.heap.size + 1, 0, none⟩ = some (.string ⟨#[]⟩) := cell_later hb1 (by (repeat (first | (refine zaa ?_ rfl; (simp; done)) | (refine zad ?_; (simp; done)) | (refine zac ?_ ?_; (focus first | (simp; done) | (simp; omega))) | (refine zab ?_ ?_; (focus first | (simp; done) | (simp; omega))))))
  have y1 : w1.cell? ⟨w.heap.size + 1, 1, none⟩ = some (.int .i64 0) := cell_later hb1 (by (repeat (first | (refine zaa ?_ rfl; (simp; done)) | (refine zad ?_; (simp; done)) | (refine zac ?_ ?_; (focus first | (simp; done) | (simp; omega))) | (refine zab ?_ ?_; (focus first | (simp; done) | (simp; omega))))))
  have y2 : w1.cell? ⟨w.heap.size + 1, 2, none⟩ = some (.bool false) := cell_later hb1 (by (repeat (first | (refine zaa ?_ rfl; (simp; done)) | (refine zad ?_; (simp; done)) | (refine zac ?_ ?_; (focus first | (simp; done) | (simp; omega))) | (refine zab ?_ ?_; (focus first | (simp; done) | (simp; omega))))))
  have yf : ∀ o, w1.frozen? ⟨w.heap.size + 1, o, none⟩ = false := fun o => (Below.frozen hb1 (p := ⟨w.heap.size + 1, o, none⟩) (by simp)).trans (by (repeat (first | (refine zaa ?_ rfl; (simp; done)) | (refine zad ?_; (simp; done)) | (refine zac ?_ ?_; (focus first | (simp; done) | (simp; omega))) | (refine zab ?_ ?_; (focus first | (simp; done) | (simp; omega))))))
  have HB := Lib.hid (btr HB0.out hb1)
  clear hb1
  go_wp2
  exact bodyPost_ret (v := .tuple #[.agg #[.string nm, .int .i64 k, .bool nl], .int .i64 0]) (by simp [results, Tryz.results196, go_sem, y0, y1, y2]) rfl ⟨rfl, (((Below.setCell (HB.out) (p := ⟨_, 0, none⟩) (by first | (simp; done) | (simp; omega)) _).setCell (p := ⟨_, 1, none⟩) (by first | (simp; done) | (simp; omega)) _).setCell (p := ⟨_, 2, none⟩) (by first | (simp; done) | (simp; omega)) _)⟩
section
variable {tb : Nat → Tab} {num : Nat → Int} {nod : Nat → List Nod} {D : Nat → Prop} {ρ : Nat → Pl} {s : ASt} {w w' : World}
theorem fDer_ok {co : Value} {d : Nat} {t : Knd} : ∀ {G : List DerA} (_ : fDer s co d G = some t), ∃ g ∈ G, g.d = d ∧ g.t = t ∧ isFlat 3 s co (flat encCol g.cs) = true
  | [], h => by cases h
  | g :: l, h => by
    unfold fDer at h
    cases hz : (Nat.beq g.d d && isFlat 3 s co (flat encCol g.cs))
    · rw [hz] at h
      obtain ⟨g', hg, h⟩ := fDer_ok (G := l) h
      exact ⟨g', List.mem_cons_of_mem _ hg, h⟩
    · rw [hz] at h
      have h : some g.t = some t := h
      cases h
      rw [Bool.and_eq_true] at hz
      exact ⟨g, List.mem_cons_self .., Nat.eq_of_beq_eq_true hz.1, rfl, hz.2⟩
end
section
variable {tb : Nat → Tab} {num : Nat → Int} {nod : Nat → List Nod} {D : Nat → Prop} {ρ : Nat → Pl} {s : ASt} {w w' : World}
theorem sp196_ok {G : List DerA} (hG : ∀ g ∈ G, 500 ≤ g.d ∧ g.d < 510 ∧ g.t.k ≠ 0 ∧ okX g.cs (nod g.d) g.t) {args : List Value} {v : Value} {s' : ASt} (hx : sp196 G args s = some (v, s')) {args' : List Value} (h : Sim (ETb tb num nod) D ρ s w) (hr : Rvs (ETb tb num nod) D ρ args args') :
    Calls Tryz.prog 196 ⟨args'⟩ w fun e w' => ∃ v' ρ' D', e = .returned v' ∧ Rv (ETb tb num nod) D' ρ' v v' ∧ Sim (ETb tb num nod) D' ρ' s' w' ∧ Ex D s ρ w D' s' ρ' w' := by
  unfold sp196 at hx
  split at hx
  · rename_i co nm f con num' k z
    split at hx
    · rename_i t hf
      obtain ⟨hk, e⟩ := zax hx
      cases e
      rw [Bool.and_eq_true] at hk
      obtain ⟨hz, hg⟩ := hk
      obtain ⟨g, hgm, e1, rfl, hf2⟩ := fDer_ok hf
      obtain ⟨l1, l2, l3, hX⟩ := hG g hgm
      rw [e1] at l1 l2 hX
      obtain ⟨x1, m, rfl, h1, hr⟩ := zag hr
      obtain ⟨x2, m, rfl, h2, hr⟩ := zag hr
      obtain ⟨x3, m, rfl, h3, hr⟩ := zag hr
      obtain rfl := zay hr
      obtain ⟨l, rfl, h5⟩ := zdl h2
      obtain ⟨a1, m, rfl, g1, h5⟩ := zag h5
      obtain ⟨a2, m, rfl, g2, h5⟩ := zag h5
      obtain ⟨a3, m, rfl, g3, h5⟩ := zag h5
      obtain ⟨a4, m, rfl, g4, h5⟩ := zag h5
      obtain ⟨a5, m, rfl, g5, h5⟩ := zag h5
      obtain rfl := zay h5
      obtain rfl := zat g1 rfl
      obtain rfl := zat g2 rfl
      obtain rfl := zat g3 rfl
      obtain rfl := zat g4 rfl
      obtain ⟨A, n, c, rfl, hc, hn⟩ := zp3 g5 h l1 l2
      obtain ⟨cA, cN, cC, rfl, hco, hcc⟩ := zbn hf2 h h1
      obtain ⟨zA, zN, zC, rfl, hzc, hzn⟩ := zp4 h3 h hz
      refine (derX nm con f num' A n c _ cA cN cC zA zN zC w hX l3 hn hco hcc hzn (zkp hg h)).mono ?_
      rintro e w' ⟨rfl, hb⟩
      obtain ⟨r1, r2⟩ := zbv h hb
      exact ⟨_, _, _, rfl, .tuple _ _ (.cons _ _ _ _ (.agg _ _ (.cons _ _ _ _ (.flat _ rfl) (.cons _ _ _ _ (.flat _ rfl) (.cons _ _ _ _ (.flat _ rfl) .nil)))) (.cons _ _ _ _ (.flat _ rfl) .nil)), r1, r2⟩
    · cases hx
  · cases hx
end
section
variable {c : Nat} {t0 t1 t2 : Tab}
theorem tj_of (h0 : gTab oC 24 t0) (h1 : gTab cC 24 t1) (h2 : gTab oC 24 t2) : TJ t0 t1 t2 := by
  have a := zh4 (by decide) (h0.mono (show (24 : Int) ≤ 30 by omega))
  have b := zh4 (by decide) (h1.mono (show (24 : Int) ≤ 30 by omega))
  have d := zh4 (by decide) (h2.mono (show (24 : Int) ≤ 30 by omega))
  exact ⟨a.1, b.1, d.1, h0.2.2.1, h1.2.2.1, a.2.2.2.1, b.2.2.2.1, d.2.2.2.1⟩
end
end
section
open Go.RowKit Go.RowKit Go.BigFrame
def shD8 (n : Int) : Int := n.fdiv (2 ^ (min (8 : Int).toNat IntKind.i64.bits))
theorem run_shr8 (n : Int) (t : TypeId) (xo yo : Operand) (P : Program) (w : World) : (do eqGuard .shr t xo yo (.int .i64 n) (.int .u64 8); binOp .shr t (.int .i64 n) (.int .u64 8) : Sem Value).run P w = .ok (.int .i64 (shD8 n)) w := by
  rfl
theorem run_add10 (n : Int) (h : 0 ≤ n ∧ n ≤ 3) (t : TypeId) (xo yo : Operand) (P : Program) (w : World) : (do eqGuard .add t xo yo (.int .i64 10) (.int .i64 n); binOp .add t (.int .i64 10) (.int .i64 n) : Sem Value).run P w = .ok (.int .i64 (10 + n)) w := by
  have : n = 0 ∨ n = 1 ∨ n = 2 ∨ n = 3 := by omega
  rcases this with rfl | rfl | rfl | rfl <;> rfl
def opD (n : Int) : Int := 10 + anD3 (shD8 n)
theorem opD_le (n : Int) : 10 ≤ opD n ∧ opD n ≤ 13 := by have := zhu (shD8 n); unfold opD; omega
def numD (n : Int) (k : Nat) : Int := match k with
  | 600 => n
  | 601 => shD8 n
  | 602 => anD3 (shD8 n)
  | 603 => opD n
  | _ => 0
theorem T3_ok {n : Int} {tb : Nat → Tab} {nod : Nat → List Nod} (nl : Bool) : (T3 nl).Ok (ETb tb (numD n) nod) Tryz.prog := by
  have k := zg2 (ETb tb (numD n) nod)
  refine ⟨k.ty, k.fn, k.eqs, k.mixed, k.ex, fun op x y r h t xo yo x' y' w hx hy => ?_, k.hlen⟩
  have h : hintD op x y = some r := h
  unfold hintD at h
  split at h
  · cases h
    obtain rfl := ze0 (by decide) hx
    obtain rfl := zhh hy
    exact ⟨_, run_shr8 n t xo yo _ w, zks (k := 601) (by omega) (by omega)⟩
  · cases h
    obtain rfl := ze0 (by decide) hx
    obtain rfl := zhh hy
    exact ⟨_, zmu (shD8 n) t xo yo _ w, zks (k := 602) (by omega) (by omega)⟩
  · cases h
    obtain rfl := zhh hx
    obtain rfl := ze0 (by decide) hy
    exact ⟨_, run_add10 (anD3 (shD8 n)) (zhu _) t xo yo _ w, zks (k := 603) (by omega) (by omega)⟩
  · cases h
section
variable {x y : List Nod} {t0 t1 t2 : Tab} {nl : Bool}
theorem csD_ok : ∀ cs ∈ csD nl, okCols cs := fun cs h => by
  unfold csD at h
  simp only [List.mem_cons, List.not_mem_nil, or_false] at h
  rcases h with rfl | rfl | rfl
  · exact zc7
  · exact zmo
  · exact okCols_newD nl
theorem T3_sp {n : Int} (h : TJ t0 t1 t2) (hx : okE oC 2 13 x) (hb : blkT oC x ⟨2, nl⟩) (hy : okE oC 2 13 y) : SpOk (ETb (tbD (opD n) x y nl t0 t1 t2) (numD n) (ndD (opD n) x y)) Tryz.prog (T3 nl) := fun f g hf args s v s' hx' D ρ w args' hs hr => by
  have hop := opD_le n
  have hX := okX_x hx hb
  obtain ⟨t3, ht3, hX3⟩ := okX_503 hx hb rfl hy hop
  obtain ⟨t4, ht4, hX4⟩ := okX_502 nl hy hop
  have ok := h.derOk (op := opD n) (y := y) hX nl
  have ok2 : ∀ k, k < 32 → (tbD (opD n) x y nl t0 t1 t2 k).length ≤ 4096 ∧ ∀ z ∈ tbD (opD n) x y nl t0 t1 t2 k, z.1.length ≤ 12 := fun k _ => ⟨(ok k).1.1, fun z hz => ((ok k).1.2.2 z hz).1⟩
  have lx : x.length ≤ 1000 := by have := hx.1; omega
  have ly : y.length ≤ 1000 := by have := hy.1; omega
  have hf : cond (Nat.beq f 62) (some (sp62g (clD nl))) (cond (Nat.beq f 129) (some sp129) (cond (Nat.beq f 17) (some (sp17 fun a b => Nat.beq a 4 && Nat.beq b 6)) (cond (Nat.beq f 89) (some (sp89 (csD nl))) (cond (Nat.beq f 123) (some sp123) (cond (Nat.beq f 234) (some sp234) (cond (Nat.beq f 12) (some sp12) (cond (Nat.beq f 90) (some sp90) (cond (Nat.beq f 175) (some (sp175 [500, 502, 503])) (cond (Nat.beq f 193) (some (sp193 (wcD nl))) (cond (Nat.beq f 196) (some (sp196 (dnD nl))) (cond (Nat.beq f 130) (some (sp130 (whD nl))) (cond (Nat.beq f 131) (some (sp131 deD)) (cond (Nat.beq f 16) (some (sp16 twD)) (cond (Nat.beq f 13) (some sp13) none)))))))))))))) = some g := hf
  have step : ∀ {m : Nat} {x : List Value → ASt → Option (Value × ASt)} {y : Option (List Value → ASt → Option (Value × ASt))}, cond (Nat.beq f m) (some x) y = some g → (f = m ∧ x = g) ∨ y = some g := fun {m x y} h => by
    cases hz : Nat.beq f m
    · rw [hz] at h; exact .inr h
    · rw [hz] at h; exact .inl ⟨Nat.eq_of_beq_eq_true hz, Option.some.inj h⟩
  rcases step hf with ⟨rfl, rfl⟩ | hf
  · refine zqd (fun q hq => ?_) hx' hs hr
    unfold clD at hq
    simp only [List.mem_cons, List.not_mem_nil, or_false] at hq
    rcases hq with rfl | rfl | rfl | rfl | rfl
    · exact ⟨zc7, ok 0, h.r0⟩
    · exact ⟨zmo, ok 1, h.r1⟩
    · exact ⟨zc7, ok 2, h.r2⟩
    · exact ⟨okCols_newD nl, ok 3, h.derRow hX⟩
    · exact ⟨zc7, ok 5, fun z hz => h.r0 z (List.mem_filter.1 hz).1⟩
  rcases step hf with ⟨rfl, rfl⟩ | hf
  · exact zqa ok2 hx' hs hr
  rcases step hf with ⟨rfl, rfl⟩ | hf
  · refine sp17_okb (fun a b he => ?_) ok2 hx' hs hr
    simp only [Bool.and_eq_true] at he
    rw [Nat.eq_of_beq_eq_true he.1, Nat.eq_of_beq_eq_true he.2]
    exact h.derEq nl hb hy hop
  rcases step hf with ⟨rfl, rfl⟩ | hf
  · exact sp89_ok csD_ok hx' hs hr
  rcases step hf with ⟨rfl, rfl⟩ | hf
  · exact sp123_ok hx' hs hr
  rcases step hf with ⟨rfl, rfl⟩ | hf
  · exact sp234_ok hx' hs hr
  rcases step hf with ⟨rfl, rfl⟩ | hf
  · exact sp12_ok hx' hs hr
  rcases step hf with ⟨rfl, rfl⟩ | hf
  · exact sp90_ok hx' hs hr
  rcases step hf with ⟨rfl, rfl⟩ | hf
  · refine sp175_ok (fun d hd => ?_) hx' hs hr
    simp only [List.mem_cons, List.not_mem_nil, or_false] at hd
    rcases hd with rfl | rfl | rfl
    · exact ⟨by decide, by decide, oC, _, hX⟩
    · exact ⟨by decide, by decide, newD nl, _, hX4⟩
    · exact ⟨by decide, by decide, oC, _, hX3⟩
  rcases step hf with ⟨rfl, rfl⟩ | hf
  · refine sp193_ok (fun q hq => ?_) hx' hs hr
    unfold wcD at hq
    simp only [List.mem_cons, List.not_mem_nil, or_false] at hq
    rcases hq with rfl | rfl
    · exact ⟨by show 500 ≤ 502; decide, by show 502 < 510; decide, t4, .inl ht4, hX4⟩
    · exact ⟨by show 500 ≤ 503; decide, by show 503 < 510; decide, t3, .inl ht3, hX3⟩
  rcases step hf with ⟨rfl, rfl⟩ | hf
  · refine sp196_ok (fun q hq => ?_) hx' hs hr
    unfold dnD at hq
    rw [List.mem_singleton] at hq
    subst hq
    exact ⟨by show 500 ≤ 500; decide, by show 500 < 510; decide, by show (2 : Int) ≠ 0; decide, hX⟩
  rcases step hf with ⟨rfl, rfl⟩ | hf
  · refine sp130_ok (fun q hq => ?_) hx' hs hr
    unfold whD at hq
    simp only [List.mem_cons, List.not_mem_nil, or_false] at hq
    rcases hq with rfl | rfl
    · exact ⟨by show 500 ≤ 502; decide, by show 502 < 510; decide, ⟨t4, hX4, ok 3, h.derRow hX⟩, rfl⟩
    · exact ⟨by show 500 ≤ 503; decide, by show 503 < 510; decide, ⟨t3, hX3, ok 0, h.r0⟩, rfl⟩
  rcases step hf with ⟨rfl, rfl⟩ | hf
  · refine sp131_ok (fun q hq => ?_) hx' hs hr
    unfold deD at hq
    simp only [List.mem_cons, List.not_mem_nil, or_false] at hq
    rcases hq with rfl | rfl
    · exact ⟨by show 500 ≤ 500; decide, by show 500 < 510; decide, ⟨⟨2, nl⟩, hX, ok 0, h.r0⟩, rfl⟩
    · exact ⟨by show 500 ≤ 500; decide, by show 500 < 510; decide, ⟨⟨2, nl⟩, hX, ok 5, fun z hz => h.r0 z (List.mem_filter.1 hz).1⟩, rfl⟩
  rcases step hf with ⟨rfl, rfl⟩ | hf
  · refine sp16_ok (fun q hq => ?_) hx' hs hr
    unfold twD at hq
    simp only [List.mem_cons, List.not_mem_nil, or_false] at hq
    rcases hq with rfl | rfl
    · exact ⟨by show 600 ≤ 603; decide, by show 500 ≤ 501; decide, by show 501 < 510; decide, [colN], fun n hn => (by cases hn), fun _ => rfl, rfl, by show 1 ≤ 1000; decide, ly⟩
    · exact ⟨by show 600 ≤ 603; decide, by show 500 ≤ 501; decide, by show 501 < 510; decide, x, fun n hn => (by cases hn; exact ⟨by decide, by decide, rfl⟩), fun hn => (by cases hn), rfl, lx, ly⟩
  rcases step hf with ⟨rfl, rfl⟩ | hf
  · exact sp13_ok hx' hs hr
  · cases hf
theorem R3_ok {n : Int} (h : TJ t0 t1 t2) (hx : okE oC 2 13 x) (hb : blkT oC x ⟨2, nl⟩) (hy : okE oC 2 13 y) : (T3 nl).Ok (ETb (tbD (opD n) x y nl t0 t1 t2) (numD n) (ndD (opD n) x y)) Tryz.prog ∧ CodeOk (ETb (tbD (opD n) x y nl t0 t1 t2) (numD n) (ndD (opD n) x y)) Tryz.prog (R3 nl) :=
  ⟨T3_ok nl, (rn_ok (T3_ok nl) (zhr (T3_ok nl)) (T3_sp h hx hb hy) 1000).1⟩
end
end
end Go.Proofs.YthcalfeoejdcgaaGreatDoor
