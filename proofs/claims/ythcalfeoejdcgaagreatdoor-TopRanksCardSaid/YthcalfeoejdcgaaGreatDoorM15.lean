/- The program: evaluate.group; The program: evaluate.group, its walk; The program: valid columns, rows that fit; The program: a valid relation; The reference: tables that are the same; The books of a concrete run of a law: the calls by contract answer so; Grouping twice is grouping once. Plain; TopGroups: what the tables of its queries are. Plain; TopGroups: what the tables of its queries are, the groups of groups. Plain; The numbers that TopGroups and its like draw from their argument; TopGroups: the calls by contract, in the run's books. -/
import Derived.KernelRfl
import Derived.Test.YthcalfeoejdcgaaGreatDoorM14
import Derived.Test.YthcalfeoejdcgaaGreatDoorM13
import Derived.Test.YthcalfeoejdcgaaGreatDoorM12
import Derived.Test.YthcalfeoejdcgaaGreatDoorM10
import Derived.Test.YthcalfeoejdcgaaGreatDoorM08
import Derived.Test.YthcalfeoejdcgaaGreatDoorM11
namespace Go.Proofs.YthcalfeoejdcgaaGreatDoor
section
open Go.RowKit Go.BigFrame
set_option linter.unusedSimpArgs false
set_option linter.unusedVariables false

/-- the aggregates of a part -/
def aggsV (cs : List Col) (its : List Itm) (l : Tab) : List Val := its.map fun x => aggV x.f (idxC cs x.co) l
/-- what group asks of a table -/
structure okGrp (cs : List Col) (ns : List ByteArray) (its : List Itm) (t : Tab) : Prop where
  names : okNames cs ns
  n0 : 0 < ns.length
  n12 : ns.length + its.length ≤ 12
  len : t.length ≤ 4096
  pos : ∀ x ∈ t, 0 < x.2
  sum : sumC t ≤ 65536
  w12 : ∀ x ∈ t, x.1.length ≤ 12
  val : ∀ x ∈ t, vOk x.1
  fn : ∀ x ∈ its, x.f = 1 ∨ x.f = 3 ∨ x.f = 4 ∨ x.f = 5 ∨ x.f = 6
  int : ∀ x ∈ its, x.f = 3 → ∀ y ∈ t, (cel y.1 (idxC cs x.co)).k = 0 ∨ (cel y.1 (idxC cs x.co)).k = 2
theorem valid_num {v : Val} (h : validV v = true) : -1073741824 ≤ v.m ∧ v.m ≤ 1073741824 := by
  rcases valid_cases h with rfl | ⟨m, rfl, hm⟩ | ⟨m, rfl, hm⟩ | ⟨s, rfl, _⟩ | ⟨m, rfl, hm⟩ <;> simp <;> omega
theorem cnt_le_sum : ∀ {l : Tab} (_ : ∀ x ∈ l, 0 < x.2) (r : List Val), 0 ≤ cnt l r ∧ cnt l r ≤ sumC l
  | [], _, r => by simp [cnt, sumC]
  | x :: l, h, r => by
    have h1 := h x (List.mem_cons_self ..)
    have ih := cnt_le_sum (fun y hy => h y (List.mem_cons_of_mem _ hy)) r
    rw [cnt, sumC]
    split <;> omega
/-- the values of a column, as an aggregate takes them -/
theorem okRes_of {f i : Int} {l : Tab} (hl : l.length ≤ 4096) (hp : ∀ x ∈ l, 0 < x.2) (hs : sumC l ≤ 65536) (hv : ∀ x ∈ l, vOk x.1) (h3 : f = 3 → ∀ y ∈ l, (cel y.1 i).k = 0 ∨ (cel y.1 i).k = 2) : okRes f (normV (valsV i l)) := by
  have hvp := vals_pos (i := i) hp
  have hsum := valsV_sum (i := i) hp
  have hpos := norm_pos hvp
  have one : ∀ x ∈ normV (valsV i l), ∃ y ∈ l, x.1 = [cel y.1 i] ∧ (cel y.1 i).k ≠ 0 := fun x hx => by
    obtain ⟨z, hz, e⟩ := normV_mem hx
    obtain ⟨y, hy, hk, rfl⟩ := valsV_mem.1 hz
    exact ⟨y, hy, e.symm, hk⟩
  have hb := normV_bag (valsV i l)
  refine ⟨⟨Nat.le_trans (normV_len _) (Nat.le_trans (valsV_len i l) hl), hb, fun x hx => ?_⟩, fun x hx => ?_, fun x hx => ?_, ?_, fun h x hx => ?_⟩
  · obtain ⟨y, hy, e, hk⟩ := one x hx
    have hc := hb.cnt_mem hx
    rw [normV_cnt] at hc
    have h4 := cnt_le_sum hvp x.1
    have h5 := hpos x hx
    refine ⟨by rw [e]; simp, by omega, by omega, fun v hv2 => ?_⟩
    rw [e] at hv2
    simp at hv2
    subst hv2
    exact valid_cel (hv y hy) i
  · obtain ⟨y, hy, e, hk⟩ := one x hx
    exact ⟨_, e, hk⟩
  · obtain ⟨y, hy, e, hk⟩ := one x hx
    refine ⟨hpos x hx, ?_⟩
    rw [e]
    exact valid_num (valid_cel (hv y hy) i)
  · rw [sumC_norm]; omega
  · obtain ⟨y, hy, e, hk⟩ := one x hx
    exact ⟨_, e, (h3 h y hy).resolve_left hk⟩
theorem valid_int (n : Int) : validV (intV n) = true := by
  unfold intV
  split
  · exact valid_zV
  · unfold validV
    rename_i h
    simp only [show ((2 : Int) = 0) = False by simp, show ((2 : Int) = 1) = False by simp, if_false, if_true]
    simp [ByteArray.toList_eq]
    omega
theorem valid_hd {f i : Int} {l : Tab} {x : List Val × Int} (hv : ∀ x ∈ l, vOk x.1) (hx : x ∈ normV (valsV i l)) : validV (hdV x) = true := by
  obtain ⟨z, hz, e⟩ := normV_mem hx
  obtain ⟨y, hy, hk, rfl⟩ := valsV_mem.1 hz
  unfold hdV
  rw [← e]
  exact valid_cel (hv y hy) i
theorem valid_agg (f i : Int) {l : Tab} (hv : ∀ x ∈ l, vOk x.1) : validV (aggV f i l) = true := by
  unfold aggV resV
  split
  · exact valid_int _
  · split
    · exact valid_int _
    · split
      · exact valid_int _
      · split
        · cases hn : normV (valsV i l) with
          | nil => exact valid_zV
          | cons x m => exact valid_hd (f := f) hv (by rw [hn]; exact List.mem_cons_self ..)
        · split
          · cases hn : (normV (valsV i l)).reverse with
            | nil => exact valid_zV
            | cons x m => exact valid_hd (f := f) hv (by rw [← List.mem_reverse, hn]; exact List.mem_cons_self ..)
          · cases hn : normV (valsV i l) with
            | nil => exact valid_zV
            | cons x m => exact valid_int _
theorem PD.tab {w : World} {B0 B : Nat} {a : Prt} {p : List Val × Tab} (h : PD w B0 B a p) : rTab w a.roA a.roN p.2 := by
  obtain ⟨_, es, h1, h2⟩ := h
  obtain ⟨A, c, e, hr, _⟩ := fl_of_own h1
  cases e
  exact ⟨es, hr, h2.imp fun _ _ h => h.1⟩
theorem sumC_filter : ∀ {t : Tab} (_ : ∀ x ∈ t, 0 < x.2) (p : List Val × Int → Bool), sumC (t.filter p) ≤ sumC t
  | [], _, p => by simp [sumC]
  | x :: t, h, p => by
    have h1 := h x (List.mem_cons_self ..)
    have ih := sumC_filter (fun y hy => h y (List.mem_cons_of_mem _ hy)) p
    rw [List.filter_cons]
    split <;> simp only [sumC] <;> omega
end
section
open Go.RowKit Go.BigFrame
set_option linter.unusedSimpArgs false
set_option linter.unusedVariables false

theorem boxed {w a b : World} {x y : Value} {t : Nat} (h0 : w.heap.size ≤ a.heap.size) (h : Below (a.alloc (.cells #[x, y] t)).heap.size (a.alloc (.cells #[x, y] t)) b) : b.cell? ⟨a.heap.size, 0, none⟩ = some x ∧ b.cell? ⟨a.heap.size, 1, none⟩ = some y ∧ b.frozen? ⟨a.heap.size, 0, none⟩ = false ∧ b.frozen? ⟨a.heap.size, 1, none⟩ = false ∧ w.heap.size ≤ a.heap.size :=
  ⟨cell_later h (by simp), cell_later h (by simp), (Below.frozen h (p := ⟨a.heap.size, 0, none⟩) (by simp)).trans (by simp), (Below.frozen h (p := ⟨a.heap.size, 1, none⟩) (by simp)).trans (by simp), h0⟩
theorem boxed_later {n m : Nat} {b c : World} {x y : Value} (h1 : b.cell? ⟨n, 0, none⟩ = some x) (h2 : b.cell? ⟨n, 1, none⟩ = some y) (h3 : b.frozen? ⟨n, 0, none⟩ = false) (h4 : b.frozen? ⟨n, 1, none⟩ = false) (h5 : m ≤ n) (h : Below b.heap.size b c) : c.cell? ⟨n, 0, none⟩ = some x ∧ c.cell? ⟨n, 1, none⟩ = some y ∧ c.frozen? ⟨n, 0, none⟩ = false ∧ c.frozen? ⟨n, 1, none⟩ = false ∧ m ≤ n :=
  ⟨cell_later h h1, cell_later h h2, (Below.frozen h (p := ⟨n, 0, none⟩) (World.block_lt_of_cell? _ _ h1)).trans h3, (Below.frozen h (p := ⟨n, 1, none⟩) (World.block_lt_of_cell? _ _ h2)).trans h4, h5⟩
/-- the box of a collected column -/
def BoxOf (wy W : World) (q : Nat) (s : Int) (A : Option Addr) (n c : Nat) (t : Tab) : Prop := Below wy.heap.size wy W ∧ W.cell? ⟨q, 0, none⟩ = some (.int .i64 s) ∧ W.cell? ⟨q, 1, none⟩ = some (.slice A n c) ∧ rTab W A n t
theorem boxOf_new {wy wb : World} {B : Nat} {s : Int} {A : Option Addr} {n c : Nat} {t : Tab} {k : Nat} (h : Below wy.heap.size wy (wb.alloc (.cells #[.int .i64 s, .slice A n c] k))) (hr : rTabF wb B A n t) : BoxOf wy (wb.alloc (.cells #[.int .i64 s, .slice A n c] k)) wb.heap.size s A n c t :=
  ⟨h, by simp, by simp, hr.tab.later (ballo _ _)⟩
theorem boxOf_set {wy wb : World} {q B : Nat} {s : Int} {A : Option Addr} {n c : Nat} {t : Tab} {x y : Value} (h : Below wy.heap.size wy ((wb.setCell ⟨q, 0, none⟩ (.int .i64 s)).setCell ⟨q, 1, none⟩ (.slice A n c))) (hr : rTabF wb B A n t) (h0 : wb.cell? ⟨q, 0, none⟩ = some x) (h1 : wb.cell? ⟨q, 1, none⟩ = some y) (hB : q < B) : BoxOf wy ((wb.setCell ⟨q, 0, none⟩ (.int .i64 s)).setCell ⟨q, 1, none⟩ (.slice A n c)) q s A n c t :=
  ⟨h, (World.cell?_setCell_other _ _ _ _ (fun e => by simp at e)).trans (World.cell?_setCell_same _ _ _ h0), World.cell?_setCell_same _ _ _ ((World.cell?_setCell_other _ _ _ _ (fun e => by simp at e)).trans h1), (hr.other fun b hb hl => by rw [Below.heap_setCell _ _ _ _ (by show b ≠ q; omega), Below.heap_setCell _ _ _ _ (by show b ≠ q; omega)]).tab⟩
theorem sumC_pos {l : Tab} (h : ∀ x ∈ l, 0 < x.2) : 0 ≤ sumC l := Int.le_trans (cnt_le_sum h []).1 (cnt_le_sum h []).2
theorem rowG_ok {cs : List Col} {ns : List ByteArray} {its : List Itm} {t : Tab} (h : okGrp cs ns its t) {y : List Val × Int} (hy : y ∈ (partsV (ns.map (idxC cs)) t).map (rowG (aggsV cs its))) : y.1.length ≤ 12 ∧ vOk y.1 ∧ y.2 = 1 := by
  obtain ⟨p, hp, rfl⟩ := List.mem_map.1 hy
  obtain ⟨x, hx, e, hxp⟩ := (partsV_ok (ns.map (idxC cs)) t).key hp
  have hsub : ∀ z ∈ p.2, z ∈ t := fun z hz => (((partsV_ok (ns.map (idxC cs)) t).mem hp).1 hz).1
  refine ⟨?_, fun v hv => ?_, rfl⟩
  · have := h.n12
    show (p.1 ++ aggsV cs its p.2).length ≤ 12
    rw [← e, List.length_append, pkV_len, List.length_map]
    unfold aggsV
    rw [List.length_map]
    omega
  · rcases List.mem_append.1 (show v ∈ p.1 ++ aggsV cs its p.2 from hv) with h1 | h1
    · rw [← e] at h1
      obtain ⟨i, _, rfl⟩ := List.mem_map.1 h1
      exact valid_cel (h.val x hx) i
    · obtain ⟨z, _, rfl⟩ := List.mem_map.1 h1
      exact valid_agg _ _ fun z hz => h.val z (hsub z hz)
theorem sumC_ones : ∀ {l : Tab} (_ : ∀ x ∈ l, x.2 = 1), sumC l = l.length
  | [], _ => rfl
  | x :: l, h => by
    have h1 := h x (List.mem_cons_self ..)
    have ih := sumC_ones (fun y hy => h y (List.mem_cons_of_mem _ hy))
    rw [sumC, ih, h1, List.length_cons]
    omega
theorem btr_alloc {a b c : World} (h1 : Below a.heap.size a b) (h2 : Below b.heap.size b c) (o : Obj) : Below a.heap.size a (c.alloc o) := (btr h1 h2).alloc (btr h1 h2).size o
set_option maxRecDepth 100000 in
set_option maxHeartbeats 2000000 in
theorem groupE (op : Int) (so : ByteArray) (nA oA iA dA : Option Addr) (nN nC oN oC iN iC dN dC : Nat) (nm : ByteArray) (cA kA rA : Option Addr) (cN cC kN kC rN rC : Nat) (ns : List ByteArray) (its : List Itm) (cs : List Col) (t : Tab) (w : World)
    (hns : rStr w nA nN ns) (hits : rItm w iA iN its) (hcs : rCol w cA cN cs) (ht : rTab w rA rN t) (hnc : nN ≤ nC) (hcn : cN ≤ 12) (hok : okGrp cs ns its t) :
    Calls Tryz.prog 137 #[.agg #[.int .i64 op, .string so, .slice nA nN nC, .slice oA oN oC, .slice iA iN iC, .slice dA dN dC], .agg #[.string nm, .slice cA cN cC, .slice kA kN kC, .slice rA rN rC]] w (Tab2R (groupV (ns.map (idxC cs)) (aggsV cs its) t) w) := by
  have HN := Lib.hid hns
  have HI := Lib.hid hits
  have HC := Lib.hid hcs
  have HT := Lib.hid ht
  have HK := Lib.hid hok
  have LN := Lib.hid hns.len
  have LI := Lib.hid hits.len
  have LT := Lib.hid ht.len
  have HA : Hid (Below w.heap.size w ((w.alloc (.cells #[.int .i64 op, .string so, .slice nA nN nC, .slice oA oN oC, .slice iA iN iC, .slice dA dN dC] 44)).alloc (.cells #[.string nm, .slice cA cN cC, .slice kA kN kC, .slice rA rN rC] 31))) := Lib.hid ((ballo _ _).alloc (by simp) _)
  have hn12 : nN ≤ 12 := by have := hns.len; have := hok.n12; omega
  have HIX := Lib.hid (indsE cA cN cC cs nA nN nC ns _ (hcs.later HA.out) (hns.later HA.out) hok.names (by omega) (by omega) hnc)
  clear hns hits hcs ht hok
  go_enter Tryz.func137, Tryz.ntmps137
  go_wp2_with fail
  refine HIX.out.mono ?_
  rintro e w1 ⟨B1, m1, k1, rfl, hri, hmk, hb1⟩
  have HRI := Lib.hid hri
  have HB1 := Lib.hid (HA.out.trans (hb1.mono HA.out.size))
  have s4 : w1.cell? ⟨w.heap.size, 4, none⟩ = some (.slice iA iN iC) := cell_later hb1 (by (repeat (first | (refine new_cell ?_ rfl; (simp; done)) | (refine new_froz ?_; (simp; done)) | (refine alo_cell ?_ ?_; (focus first | (simp; done) | (simp; omega))) | (refine alo_froz ?_ ?_; (focus first | (simp; done) | (simp; omega))))))
  have i1 : w1.cell? ⟨w.heap.size + 1, 1, none⟩ = some (.slice cA cN cC) := cell_later hb1 (by (repeat (first | (refine new_cell ?_ rfl; (simp; done)) | (refine new_froz ?_; (simp; done)) | (refine alo_cell ?_ ?_; (focus first | (simp; done) | (simp; omega))) | (refine alo_froz ?_ ?_; (focus first | (simp; done) | (simp; omega))))))
  have i3 : w1.cell? ⟨w.heap.size + 1, 3, none⟩ = some (.slice rA rN rC) := cell_later hb1 (by (repeat (first | (refine new_cell ?_ rfl; (simp; done)) | (refine new_froz ?_; (simp; done)) | (refine alo_cell ?_ ?_; (focus first | (simp; done) | (simp; omega))) | (refine alo_froz ?_ ?_; (focus first | (simp; done) | (simp; omega))))))
  have hm1 : m1 = nN := by have := hri.len; rw [List.length_map] at this; have := LN.out; omega
  subst hm1
  have HPA := Lib.hid (partsE rA rN rC t B1 m1 k1 (ns.map (idxC cs)) w1 (HT.out.later HB1.out) hri (by have := LT.out; have := HK.out.len; omega) (by have := LN.out; have := HK.out.n0; omega) hn12 HK.out.w12 HK.out.val)
  clear hri hb1
  go_wp2_with fail
  refine HPA.out.mono ?_
  rintro e w2 ⟨A2, n2, c2, qs, rfl, hps, hb2⟩
  have HPS := Lib.hid hps
  have hn2 : n2 = qs.length := by
    obtain ⟨A', c', e, _⟩ := rPrt_of_own hps.own
    cases e; rfl
  subst hn2
  have HB2 := Lib.hid (btr HB1.out hb2)
  have s42 := cell_later hb2 s4
  have i12 := cell_later hb2 i1
  have HPO := Lib.hid (partsV_ok (ns.map (idxC cs)) t)
  have HPL : Hid (qs.length = (partsV (ns.map (idxC cs)) t).length) := Lib.hid hps.len.symm
  have hql : qs.length ≤ 4096 := by have := hps.len; have := partsV_len (ns.map (idxC cs)) t; have := HK.out.len; omega
  obtain ⟨iV, PV⟩ := pVal
  obtain ⟨iE, PE⟩ := pEntF w2.heap.size
  clear hps hb2 s4 i1 i3
  go_wp2
  go_loopw [8, 30] (fun v iv wr => ∃ k : Nat, k ≤ qs.length ∧ iv = .int .i64 k ∧ Below w2.heap.size w2 wr ∧ Hid (ownD (kEntF w2.heap.size) wr w2.heap.size v k (((partsV (ns.map (idxC cs)) t).take k).map (rowG (aggsV cs its))))) (fun _ iv _ => qs.length - (intOf iv).toNat)
  case atStart => exact ⟨0, by omega, rfl, bself _, Lib.hid (ownD.nil _ _)⟩
  case round =>
    obtain ⟨k, hk, rfl, hbw, HO⟩ := hrel
    obtain ⟨wo, rfl⟩ : ∃ wo, wo = wr := ⟨_, rfl⟩
    have HBW := Lib.hid hbw
    by_cases hlt : k < qs.length
    · obtain ⟨⟨eA, eN, eC, oA2, oN2, oC2⟩, hq⟩ := get_some (l := qs) (k := k) hlt
      have HPS2 := HPS.out.later hbw
      obtain ⟨p, hp, hr⟩ := HPS2.rel.get hq
      obtain ⟨A2', c2', ev, hrp, _⟩ := rPrt_of_own HPS2.own
      cases ev
      obtain ⟨g, o2, rfl, hcp⟩ := hrp.opn (by omega)
      obtain ⟨p1, p2⟩ := hcp k _ hq
      have HKEY : Hid (rVal wo eA eN p.1) := Lib.hid hr.1
      have HROW : Hid (rTab wo oA2 oN2 p.2) := Lib.hid hr.tab
      have HP := Lib.hid hp
      have hpm := List.mem_of_getElem? hp
      obtain rfl : eN = m1 := by
        obtain ⟨y, hy, e, _⟩ := HPO.out.key hpm
        have h1 : p.1.length = eN := hr.1.len
        rw [← e, pkV_len, List.length_map] at h1
        have := LN.out
        omega
      have HSUB : Hid (∀ y ∈ p.2, y ∈ t) := Lib.hid fun y hy => ((HPO.out.mem hpm).1 hy).1
      have HPLEN : Hid (p.2.length ≤ 4096 ∧ sumC p.2 ≤ 65536) := Lib.hid (by
        have e := HPO.out.rows _ hpm
        rw [e]
        unfold ofK
        exact ⟨Nat.le_trans (List.length_filter_le _ _) HK.out.len, Int.le_trans (sumC_filter HK.out.pos _) HK.out.sum⟩)
      have HV0 : Hid (∀ j, u8.ownBlock = some j → w2.heap.size ≤ j ∧ j < wo.heap.size) := Lib.hid HO.out.lt
      have s4r := cell_later hbw s42
      have i1r := cell_later hbw i12
      have HCL := Lib.hid (cloVE eA eN eC p.1 (wo.alloc (.cells #[.slice eA eN eC, .slice oA2 oN2 oC2] 226)) (rD_Val.2 (HKEY.out.later (ballo _ _))) (by omega))
      clear hq HPS2 hp hr hrp hcp hpm hbw
      go_wp2_with fail
      refine HCL.out.mono ?_
      rintro e w3 ⟨A3, c3, rfl, hrd3, hcc3, hb3, hfr3, hown3⟩
      have HB3 : Hid (Below wo.heap.size wo w3) := Lib.hid (btr (ballo _ _) hb3)
      have t1 : w3.cell? ⟨wo.heap.size, 1, none⟩ = some (.slice oA2 oN2 oC2) := cell_later hb3 (by simp)
      have s43 := cell_later HB3.out s4r
      have HOW : Hid (ownD kVal w3 (wo.heap.size + 1) (.slice A3 eN c3) eN p.1) := Lib.hid (by simpa using hown3)
      clear hrd3 hb3 hfr3 hown3
      go_wp2
      go_loopw [11, 40] (fun v jv wx => ∃ j : Nat, j ≤ iN ∧ jv = .int .i64 j ∧ Below wo.heap.size wo wx ∧ wo.heap.size < wx.heap.size ∧ Hid (ownD kVal wx (wo.heap.size + 1) v (eN + j) (p.1 ++ aggsV cs (its.take j) p.2)) ∧ wx.cell? ⟨wo.heap.size, 1, none⟩ = some (.slice oA2 oN2 oC2)) (fun _ jv _ => iN - (intOf jv).toNat)
      case atStart => exact ⟨0, by omega, rfl, HB3.out, World.block_lt_of_cell? _ _ t1, Lib.hid (by have := HOW.out; simpa [aggsV] using this), t1⟩
      case round =>
        obtain ⟨j, hj, rfl, hbx, hsx, HOX, t1x⟩ := hrel
        have HBX := Lib.hid hbx
        by_cases hjl : j < iN
        · obtain ⟨b1, o1, rfl, hci⟩ := HI.out.opn (by omega)
          obtain ⟨x, hx⟩ := get_some (l := its) (k := j) (by have := LI.out; omega)
          obtain ⟨x1, x2, x3, x4, x5⟩ := hci j x hx
          have HCX : Hid (rCol wr cA cN cs) := Lib.hid (HC.out.later (btr HB2.out (btr HBW.out hbx)))
          have HRX : Hid (rTab wr oA2 oN2 p.2) := Lib.hid (HROW.out.later hbx)
          have y3 : wr.cell? ⟨w.heap.size + 1, 1, none⟩ = some (.slice cA cN cC) := cell_later hbx i1r
          have z1 : wr.cell? ⟨b1, o1 + j * 5, none⟩ = some (.string x.nm) := cell_later (btr HB2.out (btr HBW.out hbx)) x1
          have z2 : wr.cell? ⟨b1, o1 + j * 5 + 1, none⟩ = some (.int .i64 x.f) := cell_later (btr HB2.out (btr HBW.out hbx)) x2
          have z3 : wr.cell? ⟨b1, o1 + j * 5 + 2, none⟩ = some (.string x.co) := cell_later (btr HB2.out (btr HBW.out hbx)) x3
          have z4 : wr.cell? ⟨b1, o1 + j * 5 + 3, none⟩ = some (.int .i64 x.num) := cell_later (btr HB2.out (btr HBW.out hbx)) x4
          have z5 : wr.cell? ⟨b1, o1 + j * 5 + 4, none⟩ = some (.slice x.exA x.exN x.exC) := cell_later (btr HB2.out (btr HBW.out hbx)) x5
          clear hci x1 x2 x3 x4 x5 hbx
          go_wp2
          obtain ⟨wy, hwy⟩ : ∃ wy, wy = wr.alloc (.cells #[.string x.nm, .int .i64 x.f, .string x.co, .int .i64 x.num, .slice x.exA x.exN x.exC] 40) := ⟨_, rfl⟩
          have hby : Below wr.heap.size wr wy := by rw [hwy]; exact ballo _ _
          have hbs : Below wy.heap.size wy wy := bself wy
          have v1 : wy.cell? ⟨wo.heap.size, 1, none⟩ = some (.slice oA2 oN2 oC2) := cell_later hby t1x
          have v2 : wy.cell? ⟨w.heap.size + 1, 1, none⟩ = some (.slice cA cN cC) := cell_later hby y3
          have v3 : wy.cell? ⟨wr.heap.size, 2, none⟩ = some (.string x.co) := by rw [hwy]; simp
          have v4 : wy.cell? ⟨wr.heap.size, 1, none⟩ = some (.int .i64 x.f) := by rw [hwy]; simp
          have HCY := Lib.hid (HCX.out.later hby)
          have HRY := Lib.hid (HRX.out.later hby)
          rw [← hwy]
          have HX := Lib.hid hx
          have HBY := Lib.hid hby
          have T1 := Lib.hid t1x
          have oknn : oN2 ≤ 4096 := by have := HRY.out.len; have := HPLEN.out.1; omega
          have okp : Hid (∀ z ∈ p.2, 0 < z.2) := Lib.hid fun z hz => HK.out.pos z (HSUB.out z hz)
          have okw : Hid (∀ z ∈ p.2, z.1.length ≤ 12) := Lib.hid fun z hz => HK.out.w12 z (HSUB.out z hz)
          have okv : Hid (∀ z ∈ p.2, vOk z.1) := Lib.hid fun z hz => HK.out.val z (HSUB.out z hz)
          have hc1 : cN ≤ 100000 := by omega
          clear hx hwy z1 z2 z3 z4 z5 y3 hby t1x i1r p1 p2 t1 i12 s4r s43 s42
          go_region_held3 (fun w' => Below wy.heap.size wy w' ∧ w'.cell? ⟨wo.heap.size, 1, none⟩ = some (.slice oA2 oN2 oC2) ∧ w'.cell? ⟨w.heap.size + 1, 1, none⟩ = some (.slice cA cN cC) ∧ w'.cell? ⟨wr.heap.size, 2, none⟩ = some (.string x.co) ∧ w'.cell? ⟨wr.heap.size, 1, none⟩ = some (.int .i64 x.f))
            ((refine (fun (hB : Below wy.heap.size wy _) => ⟨hB, cell_later hB v1, cell_later hB v2, cell_later hB v3, cell_later hB v4⟩) ?_; first | exact Below.drew hbs | (go_split_ands; refine btr (by assumption) (by assumption)) | (go_split_ands; refine Below.alloc ?_ (Below.size (by assumption)) _; assumption) | (go_split_ands; exact Below.setCell (Below.setCell (by assumption) (by assumption) _) (by assumption) _) | (go_split_ands; exact Below.setCell (Below.setCell (btr (by assumption) hb5) (by assumption) _) (by assumption) _) | (go_split_ands; exact btr_alloc (by assumption) hb5 _)))
            (first
              | (go_at_call 124; go_split_ands; (with_reducible refine (indexE cA cN cC cs x.co _ (HCY.out.later (by assumption)) hc1).mono ?_); rintro e wa ⟨rfl, hb124⟩; (first | (refine (fun (hdd : _ ∧ _ ∧ _ ∧ _ ∧ _) => ?_) (boxed (w := wy) (Nat.le_refl _) (below_undrew hb124)); obtain ⟨d0, d1, d2, d3, d4⟩ := hdd) | skip))
              | (go_at_call 215; go_split_ands; (with_reducible refine (collectE oA2 oN2 oC2 (idxC cs x.co) p.2 _ (HRY.out.later (by assumption)) oknn okp.out HPLEN.out.2 okw.out okv.out).mono ?_); rintro e wb ⟨A5, n5, c5, rfl, hr5, hc5, hb5⟩; (first | (refine (fun (hdd : _ ∧ _ ∧ _ ∧ _ ∧ _) => ?_) (boxed (w := wy) (by have h := Below.size hb124; exact h) hb5); obtain ⟨e0, e1, e2, e3, e4⟩ := hdd) | (refine (fun (hdd : _ ∧ _ ∧ _ ∧ _ ∧ _) => ?_) (boxed_later d0 d1 d2 d3 d4 hb5); obtain ⟨e0, e1, e2, e3, e4⟩ := hdd) | skip)))
          all_goals
            first
              | (have F := boxOf_new (wy := wy) (s := sumC p.2) (c := c5) (k := 228) ((by assumption : Below wy.heap.size wy (wb.alloc _) ∧ _ ∧ _ ∧ _ ∧ _).1) hr5; generalize wb.alloc (.cells #[.int .i64 (sumC p.2), .slice A5 n5 c5] 228) = W at F ⊢; have FB : Below wy.heap.size wy W := F.1; obtain ⟨_, F1, F2, F3⟩ := F; generalize wb.heap.size = q at F1 F2 ⊢)
              | (have F := boxOf_set (wy := wy) (q := wa.heap.size) (s := sumC p.2) (c := c5) ((by assumption : Below wy.heap.size wy ((wb.setCell _ _).setCell _ _) ∧ _ ∧ _ ∧ _ ∧ _).1) hr5 e0 e1 (by simp); generalize (wb.setCell ⟨wa.heap.size, 0, none⟩ (.int .i64 (sumC p.2))).setCell ⟨wa.heap.size, 1, none⟩ (.slice A5 n5 c5) = W at F ⊢; have FB : Below wy.heap.size wy W := F.1; obtain ⟨_, F1, F2, F3⟩ := F; generalize wa.heap.size = q at F1 F2 ⊢)
              | (have F := boxOf_set (wy := wy) (q := wy.heap.size) (s := sumC p.2) (c := c5) ((by assumption : Below wy.heap.size wy ((wb.setCell _ _).setCell _ _) ∧ _ ∧ _ ∧ _ ∧ _).1) hr5 e0 e1 (World.block_lt_of_cell? _ _ d0); generalize (wb.setCell ⟨wy.heap.size, 0, none⟩ (.int .i64 (sumC p.2))).setCell ⟨wy.heap.size, 1, none⟩ (.slice A5 n5 c5) = W at F ⊢; have FB : Below wy.heap.size wy W := F.1; obtain ⟨_, F1, F2, F3⟩ := F; generalize wy.heap.size = q at F1 F2 ⊢)
          all_goals
            clear hb124 hb5 hr5 hc5 v1 v2 v3 hbs
            have g1 := cell_later FB v4
            have HFB := Lib.hid FB
            have HF3 := Lib.hid F3
            have hxm := List.mem_of_getElem? HX.out
            have hsp := sumC_pos okp.out
            have hsl := HPLEN.out.2
            have HAGR := Lib.hid (resultE2 x.f (sumC p.2) A5 n5 c5 (normV (valsV (idxC cs x.co) p.2)) W (HK.out.fn x hxm) (by omega) (by omega) F3 (okRes_of HPLEN.out.1 okp.out hsl okv.out (fun e y hy => HK.out.int x hxm e y (HSUB.out y hy))))
            clear FB F3 v4 hxm hsp hsl
            go_wp2_with fail
            refine HAGR.out.mono ?_
            rintro e w5 ⟨rfl, hb5⟩
            have HB5 : Hid (Below wr.heap.size wr w5) := Lib.hid (btr HBY.out (btr HFB.out hb5))
            have T5 := Lib.hid (cell_later HB5.out T1.out)
            have HVX := Lib.hid HOX.out.lt
            clear hb5 F1 F2 g1
            obtain ⟨⟨av, am, as'⟩, hav⟩ : ∃ a : Val, a = resV x.f (sumC p.2) (normV (valsV (idxC cs x.co) p.2)) := ⟨_, rfl⟩
            have HAV := Lib.hid hav
            rw [← hav]
            clear hav
            dsimp only
            have HOA : Hid (ownD kVal ((w5.alloc (.cells #[.int .i64 av, .int .i64 am, .string as'] 46)).alloc (.cells #[.int .i64 av, .int .i64 am, .string as'] 46)) (wo.heap.size + 1) u11 (eN + j) (p.1 ++ aggsV cs (its.take j) p.2)) := Lib.hid ((HOX.out.later HB5.out).later ((ballo _ _).alloc (by simp) _))
            have HN1 : eN + j < 1000000 := by have := LI.out; have := HK.out.n12; omega
            have HSZ1 : wo.heap.size + 1 ≤ ((w5.alloc (.cells #[.int .i64 av, .int .i64 am, .string as'] 46)).alloc (.cells #[.int .i64 av, .int .i64 am, .string as'] 46)).heap.size := by have := HB5.out.size; simp; omega
            have HFF : Hid (farFrom (kVal.ptrs ⟨av, am, as'⟩) u11.ownBlock) := Lib.hid (fun p hp => by change p ∈ [] at hp; cases hp)
            have HCE : Hid (∀ j u, (kVal.enc ⟨av, am, as'⟩)[j]? = some u → ((w5.alloc (.cells #[.int .i64 av, .int .i64 am, .string as'] 46)).alloc (.cells #[.int .i64 av, .int .i64 am, .string as'] 46)).cell? ((⟨w5.heap.size + 1, 0, none⟩ : Addr).add j) = some u) := Lib.hid (by have h := one_block_Val (w5.alloc (.cells #[.int .i64 av, .int .i64 am, .string as'] 46)) 46 av am as'; rw [show (w5.alloc (.cells #[.int .i64 av, .int .i64 am, .string as'] 46)).heap.size = w5.heap.size + 1 by simp] at h; exact h)
            go_wp2_with (at_builtin; refine wpList_push _ rfl _ _ rfl PV HOA.out ⟨_, 0, none⟩ ⟨av, am, as'⟩ ⟨av, am, as'⟩ rfl rfl HCE.out rfl HFF.out HN1 HSZ1 ?_; intro v' w' hown' hgrow hat)
            have hne : some wo.heap.size ≠ u11.ownBlock := fun e => by have := (HVX.out _ e.symm).1; omega
            have HBF := Lib.hid (below_push2 (btr HBX.out (btr HB5.out ((ballo w5 _).alloc (by simp) _))) hgrow (fun y e => by have := (HVX.out y e).1; omega))
            have TF := hgrow.cell (cell_later (ballo _ _) (cell_later (ballo _ _) T5.out)) hne
            have HAG : aggsV cs (its.take (j + 1)) p.2 = aggsV cs (its.take j) p.2 ++ [⟨av, am, as'⟩] := by unfold aggsV; rw [take_snoc HX.out, List.map_append, HAV.out]; rfl
            have HOF : Hid (ownD kVal w' (wo.heap.size + 1) v' (eN + (j + 1)) (p.1 ++ aggsV cs (its.take (j + 1)) p.2)) := Lib.hid (by rw [HAG]; first | exact hown' | (rw [← List.append_assoc]; exact hown'))
            have HSZF : wo.heap.size < w'.heap.size := Nat.lt_of_lt_of_le (Nat.lt_of_succ_le HSZ1) hgrow.size
            clear hown' hgrow hat HAG hne
            go_wp2
            go_roundw
            case rel => exact ⟨j + 1, by omega, by go_num, HBF.out, HSZF, HOF, TF⟩
            case measure => simp [intOf]; omega
        · obtain rfl : j = iN := by omega
          obtain ⟨A6, c6, rfl, hcc6, hrd6, hfr6⟩ := HOX.out.rd
          have HIT : its.take j = its := List.take_of_length_le (by have := LI.out; omega)
          rw [HIT] at hrd6
          have HR6 := Lib.hid (rD_Val.1 hrd6)
          have HFR6 := Lib.hid hfr6
          have HBX := Lib.hid (btr HBW.out hbx)
          have HOA : Hid (ownD (kEntF w2.heap.size) (wr.alloc (.cells #[.slice A6 (eN + j) c6, .int .i64 1] 65)) w2.heap.size u8 k (((partsV (ns.map (idxC cs)) t).take k).map (rowG (aggsV cs its)))) := Lib.hid ((HO.out.later hbx).later (ballo _ _))
          have HRA : Hid (dEnt (wr.alloc (.cells #[.slice A6 (eN + j) c6, .int .i64 1] 65)) ⟨A6, eN + j, c6, 1⟩ (rowG (aggsV cs its) p) ∧ (0 < eN + j → ∀ a, A6 = some a → w2.heap.size ≤ a.block)) := Lib.hid ⟨⟨HR6.out.later (ballo _ _), rfl⟩, fun _ a e => by have := (HFR6.out a e).1; have := HBW.out.size; omega⟩
          have HFF := Lib.hid (far_fresh (n := eN + j) (w1 := wo) (fun k e => (HV0.out k e).2) (fun a e => Nat.le_of_succ_le (HFR6.out a e).1))
          have HSZ : w2.heap.size ≤ (wr.alloc (.cells #[.slice A6 (eN + j) c6, .int .i64 1] 65)).heap.size := Nat.le_trans HBX.out.size (ballo _ _).size
          clear hrd6 hfr6 hbx HIT t1x HOX
          go_wp2_with (at_builtin; refine wpList_push _ rfl _ _ rfl PE HOA.out ⟨_, 0, none⟩ ⟨A6, eN + j, c6, 1⟩ (rowG (aggsV cs its) p) rfl rfl (one_block_Ent _ _ _ _ _ _) HRA.out HFF.out (by omega) HSZ ?_; intro v' w' hown' hgrow hat)
          have HBF := Lib.hid (below_push2 (HBX.out.alloc HBX.out.size _) hgrow (fun y e => (HV0.out y e).1))
          have HOF : Hid (ownD (kEntF w2.heap.size) w' w2.heap.size v' (k + 1) (((partsV (ns.map (idxC cs)) t).take (k + 1)).map (rowG (aggsV cs its)))) := Lib.hid (by rw [take_snoc HP.out, List.map_append]; exact hown')
          clear hown' hgrow hat
          go_wp2
          go_roundw
          case rel => exact ⟨k + 1, by omega, by go_num, HBF.out, HOF⟩
          case measure => simp [intOf]; omega
    · obtain rfl : k = qs.length := by omega
      have HTT : (partsV (ns.map (idxC cs)) t).take qs.length = partsV (ns.map (idxC cs)) t := List.take_of_length_le (by have := HPL.out; omega)
      obtain ⟨A8, c8, rfl, hcc8, hrd8, hfr8⟩ := HO.out.rd
      rw [HTT] at hrd8
      have HRG : Hid (∀ y ∈ (partsV (ns.map (idxC cs)) t).map (rowG (aggsV cs its)), y.1.length ≤ 12 ∧ vOk y.1 ∧ y.2 = 1) := Lib.hid fun y hy => rowG_ok HK.out hy
      have H := Lib.hid (bnormE A8 qs.length c8 ((partsV (ns.map (idxC cs)) t).map (rowG (aggsV cs its))) wo (rTabF.tab ⟨hrd8, fun _ a e => (hfr8 a e).1⟩) hql (fun y hy => by rw [(HRG.out y hy).2.2]; omega) (by rw [sumC_ones fun y hy => (HRG.out y hy).2.2, List.length_map]; have := HPL.out; omega) (fun y hy => (HRG.out y hy).1) (fun y hy => (HRG.out y hy).2.1))
      clear hrd8 hfr8 HTT
      go_wp2_with fail
      refine H.out.mono ?_
      rintro e w5 ⟨A9, n9, c9, rfl, hr9, hc9, hb9⟩
      have HR9 := Lib.hid hr9
      have HB9 := Lib.hid (btr HB2.out (btr hbw hb9))
      have HSZ := Lib.hid (Nat.le_trans HB2.out.size hbw.size)
      clear hr9 hb9
      go_wp2
      go_ret2
      exact ⟨_, _, _, rfl, HR9.out.mono HSZ.out, hc9, HB9.out⟩
end
section
open Go.RowKit Go.BigFrame
set_option linter.unusedSimpArgs false
set_option linter.unusedVariables false

/-- valid columns -/
def okCols (cs : List Col) : Prop := 1 ≤ cs.length ∧ cs.length ≤ 12 ∧ ∀ (j : Nat) (c : Col), cs[j]? = some c → nameV c.nm = true ∧ 1 ≤ c.k ∧ c.k ≤ 4 ∧ idxC cs c.nm = j
theorem nameT (s : ByteArray) (w : World) (h : nameV s = true) : Calls Tryz.prog 123 #[.string s] w fun e w' => e = .returned (.bool true) ∧ Below w.heap.size w w' :=
  (nameE s w).mono fun e w' ⟨h1, h2⟩ => ⟨by rw [h1]; exact ret_bool h, h2⟩
set_option maxRecDepth 100000 in
set_option maxHeartbeats 1000000 in
theorem schvE (A : Option Addr) (n c : Nat) (cs : List Col) (w : World) (h : rCol w A n cs) (hok : okCols cs) : Calls Tryz.prog 89 #[.slice A n c] w fun e w' => e = .returned (.int .i64 0) ∧ Below w.heap.size w w' := by
  have HT := Lib.hid h
  have HL := Lib.hid h.len
  have HK := Lib.hid hok
  have hn1 : 1 ≤ n := by have := h.len; have := hok.1; omega
  have hn : n ≤ 12 := by have := h.len; have := hok.2.1; omega
  have d0 : decide (n < 1) = false := by simp; omega
  have d1 : decide (12 < n) = false := by simp; omega
  clear h hok
  go_enter Tryz.func89, Tryz.ntmps89
  go_wp2
  go_loopw [15] (fun i wr => ∃ k : Nat, k ≤ n ∧ i = .int .i64 k ∧ Below w.heap.size w wr) (fun i _ => n - (intOf i).toNat)
  case atStart => exact ⟨0, by omega, rfl, bself _⟩
  case round =>
    obtain ⟨k, hk, rfl, hbw⟩ := hrel
    have HBW := Lib.hid hbw
    by_cases hlt : k < n
    · obtain ⟨b1, o1, rfl, hc1⟩ := HT.out.opn (by omega)
      obtain ⟨x, hx⟩ := get_some (l := cs) (k := k) (by have := HL.out; omega)
      obtain ⟨x1, x2, x3⟩ := hc1 k x hx
      obtain ⟨q1, q2, q3, q4⟩ := HK.out.2.2 k x hx
      have y1 := cell_later hbw x1
      have y2 := cell_later hbw x2
      have y3 := cell_later hbw x3
      have HN := Lib.hid (nameT x.nm (wr.alloc (.cells #[.string x.nm, .int .i64 x.k, .bool x.nl] 56)) q1)
      have HI := Lib.hid fun W (hb : Below w.heap.size w W) => indexE (some ⟨b1, o1, none⟩) n c cs x.nm W (HT.out.later hb) (by omega)
      have d3 : decide (x.k < 1) = false := by simp; omega
      have d4 : decide (4 < x.k) = false := by simp; omega
      have Q4 := Lib.hid q4
      clear hc1 hx q1 q4 hbw x1 x2 x3
      go_wp2_with fail
      refine HN.out.mono ?_
      rintro e w2 ⟨rfl, hb2⟩
      have z1 : w2.cell? ⟨wr.heap.size, 0, none⟩ = some (.string x.nm) := cell_later hb2 (by simp)
      have z2 : w2.cell? ⟨wr.heap.size, 1, none⟩ = some (.int .i64 x.k) := cell_later hb2 (by simp)
      have HB2 := Lib.hid (btr HBW.out (btr (ballo _ _) hb2))
      have HI2 : Hid (Calls Tryz.prog 124 #[.slice (some ⟨b1, o1, none⟩) n c, .string x.nm] w2 fun e w' => e = .returned (.int .i64 k) ∧ Below w2.heap.size w2 w') := Lib.hid (by have h := HI.out w2 HB2.out; rw [Q4.out] at h; exact h)
      clear hb2
      go_wp2_with fail
      refine HI2.out.mono ?_
      rintro e w3 ⟨rfl, hb3⟩
      have HB3 := Lib.hid (btr HB2.out hb3)
      clear hb3
      go_wp2
      go_roundw
      case rel => exact ⟨k + 1, by omega, by go_num, HB3.out⟩
      case measure => simp [intOf]; omega
    · go_wp2
      go_ret
      exact ⟨ret_int rfl, hbw⟩
set_option maxRecDepth 100000 in
set_option maxHeartbeats 1000000 in
theorem chkE (A : Option Addr) (n c : Nat) (cs : List Col) (B : Option Addr) (m d : Nat) (r : List Val) (w : World) (h : rCol w A n cs) (hr : rVal w B m r) (hok : okRow cs r) (hn : n ≤ 1000) :
    Calls Tryz.prog 93 #[.slice A n c, .slice B m d] w fun e w' => e = .returned (.int .i64 0) ∧ Below w.heap.size w w' := by
  have HT := Lib.hid h
  have HR := Lib.hid hr
  have HL := Lib.hid h.len
  have HRL := Lib.hid hr.len
  have HK := Lib.hid hok
  obtain rfl : m = n := by have := h.len; have := hr.len; have := hok.1; omega
  clear h hr hok
  go_enter Tryz.func93, Tryz.ntmps93
  go_wp2
  go_loopw [15] (fun i wr => ∃ k : Nat, k ≤ m ∧ i = .int .i64 k ∧ Below w.heap.size w wr) (fun i _ => m - (intOf i).toNat)
  case atStart => exact ⟨0, by omega, rfl, bself _⟩
  case round =>
    obtain ⟨k, hk, rfl, hbw⟩ := hrel
    have HBW := Lib.hid hbw
    by_cases hlt : k < m
    · obtain ⟨b1, o1, rfl, hc1⟩ := HT.out.opn (by omega)
      obtain ⟨x, hx⟩ := get_some (l := cs) (k := k) (by have := HL.out; omega)
      obtain ⟨x1, x2, x3⟩ := hc1 k x hx
      obtain ⟨b2, o2, rfl, hc2⟩ := HR.out.opn (by omega)
      obtain ⟨v, hv⟩ := get_some (l := r) (k := k) (by have := HRL.out; omega)
      obtain ⟨v1, v2, v3⟩ := hc2 k v hv
      obtain ⟨q1, q2⟩ := HK.out.2 k v x hv hx
      have y1 := cell_later hbw v1
      have y2 := cell_later hbw v2
      have y3 := cell_later hbw v3
      have u1 := cell_later (btr hbw (ballo wr (.cells #[.int .i64 v.k, .int .i64 v.m, .string v.s] 46))) x1
      have u2 := cell_later (btr hbw (ballo wr (.cells #[.int .i64 v.k, .int .i64 v.m, .string v.s] 46))) x2
      have u3 := cell_later (btr hbw (ballo wr (.cells #[.int .i64 v.k, .int .i64 v.m, .string v.s] 46))) x3
      have HN := Lib.hid (validT v ((wr.alloc (.cells #[.int .i64 v.k, .int .i64 v.m, .string v.s] 46)).alloc (.cells #[.string x.nm, .int .i64 x.k, .bool x.nl] 56)) q1)
      have hq : ((v.k == 0) = true ∧ (v.k != 0) = false ∧ Hid (x.nl = true)) ∨ ((v.k == 0) = false ∧ (v.k != 0) = true ∧ (v.k != x.k) = false) := by
        rcases q2 with ⟨a, b⟩ | ⟨a, b⟩
        · exact .inl ⟨by simp [a], by simp [a], Lib.hid b⟩
        · exact .inr ⟨by simp [a], by simp [a], by simp [b]⟩
      clear hc1 hx hc2 hv q1 q2 hbw x1 x2 x3 v1 v2 v3
      go_wp2_with fail
      refine HN.out.mono ?_
      rintro e w2 ⟨rfl, hb2⟩
      have z1 : w2.cell? ⟨wr.heap.size, 0, none⟩ = some (.int .i64 v.k) := cell_later hb2 (by simp)
      have z2 : w2.cell? ⟨wr.heap.size + 1, 1, none⟩ = some (.int .i64 x.k) := cell_later hb2 (by simp)
      have z3 : w2.cell? ⟨wr.heap.size + 1, 2, none⟩ = some (.bool x.nl) := cell_later hb2 (by simp)
      have HB2 := Lib.hid (btr HBW.out (btr ((ballo _ _).alloc (by simp) _) hb2))
      clear hb2
      rcases hq with ⟨e1, e2, e3⟩ | ⟨e1, e2, e3⟩
      · have z4 : w2.cell? ⟨wr.heap.size + 1, 2, none⟩ = some (.bool true) := by rw [← e3.out]; exact z3
        clear z3
        go_wp2
        go_roundw
        case rel => exact ⟨k + 1, by omega, by go_num, HB2.out⟩
        case measure => simp [intOf]; omega
      · go_wp2
        go_roundw
        case rel => exact ⟨k + 1, by omega, by go_num, HB2.out⟩
        case measure => simp [intOf]; omega
    · go_wp2
      go_ret
      exact ⟨ret_int rfl, hbw⟩
end
section
open Go.RowKit Go.BigFrame
set_option linter.unusedSimpArgs false
set_option linter.unusedVariables false

set_option maxRecDepth 100000 in
set_option maxHeartbeats 1000000 in
theorem evalE (r : Rel) (cs : List Col) (t : Tab) (w : World) (hc : rCol w r.coA r.coN cs) (ht : rTab w r.roA r.roN t) (h1 : okCols cs) (h2 : okTab t) (h3 : ∀ x ∈ t, okRow cs x.1) :
    Calls Tryz.prog 62 #[.agg #[.string r.nm, .slice r.coA r.coN r.coC, .slice r.keA r.keN r.keC, .slice r.roA r.roN r.roC]] w fun e w' => e = .returned (.int .i64 0) ∧ Below w.heap.size w w' := by
  obtain ⟨nm, cA, cN, cC, kA, kN, kC, rA, rN, rC⟩ := r
  simp only at hc ht ⊢
  obtain ⟨W0, hW0⟩ : ∃ W0, W0 = w.alloc (.cells #[.string nm, .slice cA cN cC, .slice kA kN kC, .slice rA rN rC] 31) := ⟨_, rfl⟩
  have HC := Lib.hid hc
  have HT := Lib.hid ht
  have HL := Lib.hid ht.len
  have HK := Lib.hid h3
  have H2 := Lib.hid h2
  have hcn : cN ≤ 12 := by have := hc.len; have := h1.2.1; omega
  have HA := Lib.hid fun W (hb : Below w.heap.size w W) => schvE cA cN cC cs W (hc.later hb) h1
  have HB := Lib.hid fun W (hb : Below w.heap.size w W) => bvalE rA rN rC t W (ht.later hb) h2.1
  have HD := Lib.hid fun W (hb : Below w.heap.size w W) => isTabE rA rN rC t W (ht.later hb) h2
  have hn : rN ≤ 4096 := by have := ht.len; have := h2.1.1; omega
  clear hc ht h1 h2 h3 hW0
  go_enter Tryz.func62, Tryz.ntmps62
  go_wp2_with fail
  refine (HA.out _ (ballo _ _)).mono ?_
  rintro e w1 ⟨rfl, hb1⟩
  have z1 : w1.cell? ⟨w.heap.size, 3, none⟩ = some (.slice rA rN rC) := cell_later hb1 (by simp)
  have B1 := Lib.hid (btr (ballo _ _) hb1)
  have C1 := Lib.hid hb1
  clear hb1
  go_wp2_with fail
  refine (HB.out _ B1.out).mono ?_
  rintro e w2 ⟨rfl, hb2⟩
  have z2 := cell_later hb2 z1
  have B2 := Lib.hid (btr B1.out hb2)
  have C2 := Lib.hid (btr C1.out hb2)
  clear hb2
  go_wp2_with fail
  refine (HD.out _ B2.out).mono ?_
  rintro e w3 ⟨rfl, hb3⟩
  have z3 := cell_later hb3 z2
  have B3 := Lib.hid (btr B2.out hb3)
  have C3 := Lib.hid (btr C2.out hb3)
  clear hb3 z1 z2
  go_wp2
  go_loopw [27] (fun i wr => ∃ k : Nat, k ≤ rN ∧ i = .int .i64 k ∧ Below w3.heap.size w3 wr) (fun i _ => rN - (intOf i).toNat)
  case atStart => exact ⟨0, by omega, rfl, bself _⟩
  case round =>
    obtain ⟨k, hk, rfl, hbw⟩ := hrel
    have HBW := Lib.hid hbw
    have HFI := Lib.hid (btr B3.out hbw)
    by_cases hlt : k < rN
    · obtain ⟨b1, o1, rfl, hc1⟩ := HT.out.opn (by omega)
      obtain ⟨x, hx⟩ := get_some (l := t) (k := k) (by have := HL.out; omega)
      obtain ⟨qA, qN, qC, x1, x2, x3⟩ := hc1 k x hx
      have y1 := cell_later HFI.out x1
      have y2 := cell_later HFI.out x2
      have u1 : (wr.alloc (.cells #[.slice qA qN qC, .int .i64 x.2] 65)).cell? ⟨w.heap.size, 1, none⟩ = some (.slice cA cN cC) := cell_later (btr C3.out (btr hbw (ballo _ _))) (by simp)
      have HX := Lib.hid (chkE cA cN cC cs qA qN qC x.1 (wr.alloc (.cells #[.slice qA qN qC, .int .i64 x.2] 65)) (HC.out.later (btr HFI.out (ballo _ _))) (x3.later (btr HFI.out (ballo _ _))) (HK.out x (List.mem_of_getElem? hx)) (by omega))
      clear hc1 hx x3 hbw x1 x2
      go_wp2_with (go_at_call 93; refine (HX.out).mono ?_; rintro e w' ⟨rfl, hb⟩)
      go_roundw
      case rel => exact ⟨k + 1, by omega, by go_num, btr HBW.out (btr (ballo _ _) hb)⟩
      case measure => simp [intOf]; omega
    · go_wp2
      go_ret
      exact ⟨ret_int rfl, HFI.out⟩
end
section
open Go.RowKit Go.BigFrame
set_option linter.unusedSimpArgs false
set_option linter.unusedVariables false

theorem cmpT (a b : List Val) : (cmpR a b == 0) = true ↔ a = b := by simp [cmpR_zero]
set_option maxRecDepth 100000 in
set_option maxHeartbeats 1000000 in
/-- tables that are equal are the same -/
theorem sameTE (A : Option Addr) (n c : Nat) (B : Option Addr) (m d : Nat) (t : Tab) (w : World) (ha : rTab w A n t) (hb : rTab w B m t) (hn : t.length ≤ 100000) (h12 : ∀ x ∈ t, x.1.length ≤ 100000) :
    Calls Tryz.prog 17 #[.slice A n c, .slice B m d] w fun e w' => e = .returned (.bool true) ∧ Below w.heap.size w w' := by
  have hl := ha.len
  have hl2 := hb.len
  obtain rfl : m = n := by omega
  have HA := Lib.hid ha
  have HB := Lib.hid hb
  have HL := Lib.hid hl
  have H12 := Lib.hid h12
  have hn2 : m ≤ 100000 := by omega
  clear ha hb hl hl2 h12
  go_enter Tryz.func17, Tryz.ntmps17
  go_wp2
  go_loopw [5] (fun i wr => ∃ k : Nat, k ≤ m ∧ i = .int .i64 k ∧ Below w.heap.size w wr) (fun i _ => m - (intOf i).toNat)
  case atStart => exact ⟨0, by omega, rfl, bself _⟩
  case round =>
    obtain ⟨k, hk, rfl, hbw⟩ := hrel
    by_cases hlt : k < m
    · obtain ⟨b1, o1, rfl, hc1⟩ := (HA.out.later hbw).opn (by omega)
      obtain ⟨b2, o2, rfl, hc2⟩ := (HB.out.later hbw).opn (by omega)
      obtain ⟨x, hx⟩ := get_some (l := t) (k := k) (by have := HL.out; omega)
      obtain ⟨rA, rN, rC, x1, x2, x3⟩ := hc1 k x hx
      obtain ⟨sA, sN, sC, y1, y2, y3⟩ := hc2 k x hx
      have h12 := H12.out x (List.mem_of_getElem? hx)
      have gx1 := Gro.cell x1
      have gx2 := Gro.cell x2
      have gy1 := Gro.cell y1
      have gy2 := Gro.cell y2
      have X3 := Lib.hid x3
      have Y3 := Lib.hid y3
      have hz : (x.2 != x.2) = false := by simp
      have hcm : (cmpR x.1 x.1 == 0) = true := by simp [cmpR_self]
      have hsame := fun W (hb : Below wr.heap.size wr W) => sameE rA rN rC sA sN sC x.1 x.1 W (X3.out.later hb) (Y3.out.later hb) (by have := X3.out.len; omega) (by have := Y3.out.len; omega)
      rw [hcm] at hsame
      have HSA := Lib.hid hsame
      clear hc1 hc2 x1 x2 x3 y1 y2 y3 hx hsame hcm
      go_wp2_with fail
      refine wp_region_quiet_gro (by kernel_rfl) (by kernel_rfl) ?_; (repeat (go_big_quiet_step ((go_at_call 37; exact Calls.gro_of (HSA.out _ (Gro.below _)))))); refine wpQuiet_nil ?_; intro _ hw'; obtain ⟨pq, hw''⟩ := hw'; subst hw''; have hbq := pq.below; revert hbq; generalize pq.world = wq; intro hbq
      have hb2 := btr hbw hbq
      clear gx1 gx2 gy1 gy2
      go_wp2
      go_roundw
      case rel => exact ⟨k + 1, by omega, by go_num, hb2⟩
      case measure => simp [intOf]; omega
    · go_wp2
      go_ret
      exact ⟨ret_bool rfl, hbw⟩
end
section
open Go.RowKit Go.RowKit
set_option linter.unusedSimpArgs false
set_option linter.unusedVariables false

/-- the values that the books do not look into: tables, numbers -/
def ETab (tb : Nat → Tab) (num : Nat → Int) : Ev := fun d v sn => (d < 32 ∧ TabAt (tb d) v sn) ∨ (600 ≤ d ∧ v = .int .i64 (num d))
section
variable {tb : Nat → Tab} {num : Nat → Int} {D : Nat → Prop} {ρ : Nat → Pl} {s : ASt} {w w' : World}
theorem rv_flat {E : Ev} {v v' : Value} (h : Rv E D ρ v v') (hf : flatV v = true) : v' = v := by
  have := rvs_flat (.cons _ _ _ _ h .nil) (by simp [hf])
  injection this
theorem rv_agg {E : Ev} {l : List Value} {v' : Value} (h : Rv E D ρ (.agg ⟨l⟩) v') : ∃ l', v' = .agg ⟨l'⟩ ∧ Rvs E D ρ l l' := by
  cases h with
  | flat _ h => cases h
  | agg l l' h => exact ⟨_, rfl, h⟩
theorem rvs_cons {E : Ev} {a : Value} {l l' : List Value} (h : Rvs E D ρ (a :: l) l') : ∃ b m, l' = b :: m ∧ Rv E D ρ a b ∧ Rvs E D ρ l m := by
  cases h with
  | cons a b l m h t => exact ⟨_, _, rfl, h, t⟩
theorem rvs_nil {E : Ev} {l' : List Value} (h : Rvs E D ρ [] l') : l' = [] := by cases h; rfl
theorem rv_tab {k : Nat} {v : Value} (hv : Rv (ETab tb num) D ρ (.chan (some k)) v) (h : Sim (ETab tb num) D ρ s w) (hk : tDe k = true) : ∃ A n c, v = .slice A n c ∧ n ≤ c ∧ rTab w A n (tb (k % 1024)) := by
  have hk := Nat.le_of_ble_eq_true hk
  obtain ⟨sn, he, hs⟩ := rv_chan hv h
  rcases he with ⟨_, A, n, c, e, hc, ht⟩ | ⟨h6, _⟩
  · exact ⟨A, n, c, e, hc, ht w hs⟩
  · omega
theorem sp129_ok (hok : ∀ d, d < 32 → (tb d).length ≤ 4096 ∧ ∀ x ∈ tb d, x.1.length ≤ 12) {args : List Value} {v : Value} {s' : ASt} (hx : sp129 args s = some (v, s')) {args' : List Value} (h : Sim (ETab tb num) D ρ s w) (hr : Rvs (ETab tb num) D ρ args args') :
    Calls Tryz.prog 129 ⟨args'⟩ w fun e w' => ∃ v' ρ' D', e = .returned v' ∧ Rv (ETab tb num) D' ρ' v v' ∧ Sim (ETab tb num) D' ρ' s' w' ∧ Ex D s ρ w D' s' ρ' w' := by
  unfold sp129 at hx
  split at hx
  · rename_i k
    obtain ⟨hk, e⟩ := of_cond hx
    cases e
    obtain ⟨b, m, rfl, h1, h2⟩ := rvs_cons hr
    obtain rfl := rvs_nil h2
    obtain ⟨A, n, c, rfl, hc, ht⟩ := rv_tab h1 h hk
    have hk2 := Nat.le_of_ble_eq_true hk
    obtain ⟨o1, o2⟩ := hok (k % 1024) (by omega)
    refine (copiedE A n c _ w ht (by have := ht.len; omega) o2).mono ?_
    rintro e w' ⟨A', n', c', rfl, hr', hc', hb⟩
    obtain ⟨r1, r2, r3⟩ := sim_opq h hb (d := k % 1024) (by omega) (v := .slice A' n' c') rfl (.inl ⟨by omega, tabAt_of hr' (Nat.le_refl _) hc'⟩)
    exact ⟨_, _, _, rfl, r1, r2, r3⟩
  · cases hx
theorem sp17_ok {S : Nat → Nat → Bool} (hS : ∀ a b, S a b = true → tb a = tb b) (hok : ∀ d, d < 32 → (tb d).length ≤ 4096 ∧ ∀ x ∈ tb d, x.1.length ≤ 12) {args : List Value} {v : Value} {s' : ASt} (hx : sp17 S args s = some (v, s')) {args' : List Value} (h : Sim (ETab tb num) D ρ s w) (hr : Rvs (ETab tb num) D ρ args args') :
    Calls Tryz.prog 17 ⟨args'⟩ w fun e w' => ∃ v' ρ' D', e = .returned v' ∧ Rv (ETab tb num) D' ρ' v v' ∧ Sim (ETab tb num) D' ρ' s' w' ∧ Ex D s ρ w D' s' ρ' w' := by
  unfold sp17 at hx
  split at hx
  · rename_i a b
    obtain ⟨hk, e⟩ := of_cond hx
    cases e
    simp only [Bool.and_eq_true] at hk
    obtain ⟨⟨ka, kb⟩, kS⟩ := hk
    obtain ⟨x, m, rfl, h1, h2⟩ := rvs_cons hr
    obtain ⟨y, m, rfl, h3, h4⟩ := rvs_cons h2
    obtain rfl := rvs_nil h4
    obtain ⟨A, n, c, rfl, hc, ht⟩ := rv_tab h1 h ka
    obtain ⟨B, m, d, rfl, hd, hu⟩ := rv_tab h3 h kb
    rw [← hS _ _ kS] at hu
    have ha := Nat.le_of_ble_eq_true ka
    obtain ⟨o1, o2⟩ := hok (a % 1024) (by omega)
    refine (sameTE A n c B m d _ w ht hu (by omega) (fun x hx => by have := o2 x hx; omega)).mono ?_
    rintro e w' ⟨rfl, hb⟩
    obtain ⟨r1, r2⟩ := sim_later h hb
    exact ⟨_, _, _, rfl, .flat _ rfl, r1, r2⟩
  · cases hx
theorem sp62_ok {cols : Nat → List Col} (hok : ∀ d, d < 4 → okCols (cols d) ∧ okTab (tb d) ∧ ∀ x ∈ tb d, okRow (cols d) x.1) {args : List Value} {v : Value} {s' : ASt} (hx : sp62 cols args s = some (v, s')) {args' : List Value} (h : Sim (ETab tb num) D ρ s w) (hr : Rvs (ETab tb num) D ρ args args') :
    Calls Tryz.prog 62 ⟨args'⟩ w fun e w' => ∃ v' ρ' D', e = .returned v' ∧ Rv (ETab tb num) D' ρ' v v' ∧ Sim (ETab tb num) D' ρ' s' w' ∧ Ex D s ρ w D' s' ρ' w' := by
  unfold sp62 at hx
  split at hx
  · rename_i nm co k
    obtain ⟨hk, e⟩ := of_cond hx
    cases e
    simp only [Bool.and_eq_true] at hk
    obtain ⟨hk, hf⟩ := hk
    obtain ⟨x, m, rfl, h1, h2⟩ := rvs_cons hr
    obtain rfl := rvs_nil h2
    obtain ⟨l, rfl, h3⟩ := rv_agg h1
    obtain ⟨a1, m, rfl, g1, h4⟩ := rvs_cons h3
    obtain ⟨a2, m, rfl, g2, h5⟩ := rvs_cons h4
    obtain ⟨a3, m, rfl, g3, h6⟩ := rvs_cons h5
    obtain ⟨a4, m, rfl, g4, h7⟩ := rvs_cons h6
    obtain rfl := rvs_nil h7
    obtain rfl := rv_flat g1 rfl
    obtain rfl := rv_flat g3 rfl
    obtain ⟨cA, cN, cC, rfl, hco, hcc⟩ := isFlat_ok hf h g2
    have hk2 := Nat.le_of_ble_eq_true hk
    obtain ⟨A, n, c, rfl, hc, ht⟩ := rv_tab g4 h (by unfold tDe; exact Nat.ble_eq_true_of_le (by omega))
    obtain ⟨o1, o2, o3⟩ := hok (k % 1024) (by omega)
    refine (evalE ⟨nm, cA, cN, cC, none, 0, 0, A, n, c⟩ _ _ w hco ht o1 o2 o3).mono ?_
    rintro e w' ⟨rfl, hb⟩
    obtain ⟨r1, r2⟩ := sim_later h hb
    exact ⟨_, _, _, rfl, .flat _ rfl, r1, r2⟩
  · cases hx
theorem sp89_ok {E : Ev} {C : List (List Col)} (hC : ∀ cs ∈ C, okCols cs) {args : List Value} {v : Value} {s' : ASt} (hx : sp89 C args s = some (v, s')) {args' : List Value} (h : Sim E D ρ s w) (hr : Rvs E D ρ args args') :
    Calls Tryz.prog 89 ⟨args'⟩ w fun e w' => ∃ v' ρ' D', e = .returned v' ∧ Rv E D' ρ' v v' ∧ Sim E D' ρ' s' w' ∧ Ex D s ρ w D' s' ρ' w' := by
  unfold sp89 at hx
  split at hx
  · rename_i co
    obtain ⟨hk, e⟩ := of_cond hx
    cases e
    obtain ⟨cs, hcs, hf⟩ := List.any_eq_true.1 hk
    obtain ⟨x, m, rfl, h1, h2⟩ := rvs_cons hr
    obtain rfl := rvs_nil h2
    obtain ⟨cA, cN, cC, rfl, hco, hcc⟩ := isFlat_ok hf h h1
    refine (schvE cA cN cC cs w hco (hC cs hcs)).mono ?_
    rintro e w' ⟨rfl, hb⟩
    obtain ⟨r1, r2⟩ := sim_later h hb
    exact ⟨_, _, _, rfl, .flat _ rfl, r1, r2⟩
  · cases hx
theorem fGrp_ok {names items co : Value} {d d2 : Nat} : ∀ {G : List GrpA} (_ : fGrp s names items co d G = some d2), ∃ g ∈ G, g.d = d ∧ g.d2 = d2 ∧ d < 32 ∧ d2 < 32 ∧ isFlat 1 s names (flat encStr g.names) = true ∧ isFlat 5 s items (flat encItm g.items) = true ∧ isFlat 3 s co (flat encCol g.cols) = true
  | [], h => by cases h
  | g :: l, h => by
    unfold fGrp at h
    cases hz : (Nat.beq g.d d && (Nat.ble d 31 && Nat.ble g.d2 31) && (isFlat 1 s names (flat encStr g.names) && (isFlat 5 s items (flat encItm g.items) && isFlat 3 s co (flat encCol g.cols))))
    · rw [hz] at h
      obtain ⟨g', hg, h⟩ := fGrp_ok (G := l) h
      exact ⟨g', List.mem_cons_of_mem _ hg, h⟩
    · rw [hz] at h
      have h : some g.d2 = some d2 := h
      cases h
      simp only [Bool.and_eq_true] at hz
      obtain ⟨⟨k1, k2, k3⟩, k4, k5, k6⟩ := hz
      have k2 := Nat.le_of_ble_eq_true k2
      have k3 := Nat.le_of_ble_eq_true k3
      exact ⟨g, List.mem_cons_self .., Nat.eq_of_beq_eq_true k1, rfl, by omega, by omega, k4, k5, k6⟩
theorem sp137_ok {G : List GrpA} (hG : ∀ g ∈ G, g.cols.length ≤ 12 ∧ okGrp g.cols g.names g.items (tb g.d) ∧ tb g.d2 = groupV (g.names.map (idxC g.cols)) (aggsV g.cols g.items) (tb g.d)) {args : List Value} {v : Value} {s' : ASt} (hx : sp137 G args s = some (v, s')) {args' : List Value} (h : Sim (ETab tb num) D ρ s w) (hr : Rvs (ETab tb num) D ρ args args') :
    Calls Tryz.prog 137 ⟨args'⟩ w fun e w' => ∃ v' ρ' D', e = .returned v' ∧ Rv (ETab tb num) D' ρ' v v' ∧ Sim (ETab tb num) D' ρ' s' w' ∧ Ex D s ρ w D' s' ρ' w' := by
  unfold sp137 at hx
  split at hx
  · rename_i op so names items nm co k
    split at hx
    · rename_i d2 hf
      cases hx
      obtain ⟨g, hg, e1, rfl, l1, l2, f1, f2, f3⟩ := fGrp_ok hf
      obtain ⟨x, m, rfl, h1, h2⟩ := rvs_cons hr
      obtain ⟨y, m, rfl, h3, h4⟩ := rvs_cons h2
      obtain rfl := rvs_nil h4
      obtain ⟨l, rfl, h5⟩ := rv_agg h1
      obtain ⟨a1, m, rfl, g1, h6⟩ := rvs_cons h5
      obtain ⟨a2, m, rfl, g2, h7⟩ := rvs_cons h6
      obtain ⟨a3, m, rfl, g3, h8⟩ := rvs_cons h7
      obtain ⟨a4, m, rfl, g4, h9⟩ := rvs_cons h8
      obtain ⟨a5, m, rfl, g5, h10⟩ := rvs_cons h9
      obtain ⟨a6, m, rfl, g6, h11⟩ := rvs_cons h10
      obtain rfl := rvs_nil h11
      obtain ⟨l, rfl, j5⟩ := rv_agg h3
      obtain ⟨b1, m, rfl, q1, j6⟩ := rvs_cons j5
      obtain ⟨b2, m, rfl, q2, j7⟩ := rvs_cons j6
      obtain ⟨b3, m, rfl, q3, j8⟩ := rvs_cons j7
      obtain ⟨b4, m, rfl, q4, j9⟩ := rvs_cons j8
      obtain rfl := rvs_nil j9
      obtain rfl := rv_flat g1 rfl
      obtain rfl := rv_flat g2 rfl
      obtain rfl := rv_flat g4 rfl
      obtain rfl := rv_flat g6 rfl
      obtain rfl := rv_flat q1 rfl
      obtain rfl := rv_flat q3 rfl
      obtain ⟨nA, nN, nC, rfl, hn, hnc⟩ := isFlat_ok f1 h g3
      obtain ⟨iA, iN, iC, rfl, hi, hic⟩ := isFlat_ok f2 h g5
      obtain ⟨cA, cN, cC, rfl, hco, hcc⟩ := isFlat_ok f3 h q2
      obtain ⟨A, n, c, rfl, hc, ht⟩ := rv_tab q4 h (by unfold tDe; exact Nat.ble_eq_true_of_le (by omega))
      obtain ⟨o1, o2, o3⟩ := hG g hg
      rw [← e1] at ht
      have hcl : cN ≤ 12 := by have := (show rCol w cA cN g.cols from hco).len; omega
      refine (groupE op so nA none iA none nN nC 0 0 iN iC 0 0 nm cA none A cN cC 0 0 n c g.names g.items g.cols (tb g.d) w hn hi hco ht hnc hcl o2).mono ?_
      rw [← o3]
      rintro e w' ⟨A', n', c', rfl, hr', hc', hb⟩
      obtain ⟨r1, r2, r3⟩ := sim_opq h hb (d := g.d2) (by omega) (v := .slice A' n' c') rfl (.inl ⟨by omega, tabAt_of hr' (Nat.le_refl _) hc'⟩)
      exact ⟨_, _, _, rfl, .tuple _ _ (.cons _ _ _ _ r1 (.cons _ _ _ _ (.flat _ rfl) .nil)), r2, r3⟩
    · cases hx
  · cases hx
theorem tbs_of_sim {E : Ev} (h : Sim E D ρ s w) (hh : ∀ b ∈ [0, 2, 4, 64, 65], s.heap.get b = h0.get b) : Tbs w := by
  have bd : ∀ b ∈ [0, 2, 4, 64, 65], ∀ e z l, h0.get b = some ⟨false, .cells e z l⟩ → ∀ (j : Nat) (v : Value), l[j]? = some v → ∃ v', w.cell? ⟨(ρ b).blk, (ρ b).off + j, none⟩ = some v' ∧ Rv E D ρ v v' := fun b hb e z l hg => (h.bd b _ ((hh b hb).trans hg)).2
  have gl : ∀ g, g < 64 → (ρ g).blk = g ∧ (ρ g).off = 0 := h.glob
  have str : ∀ (D : Nat → Prop) (b : Nat), b ∈ [0, 2, 4, 64, 65] → ∀ e z l, h0.get b = some ⟨false, .cells e z l⟩ → (∀ v ∈ l, flatV v = true) → ∀ (j : Nat) (v : Value), l[j]? = some v → w.cell? ⟨(ρ b).blk, (ρ b).off + j, none⟩ = some v := fun _ b hb e z l hg hf j v hv => by
    obtain ⟨v', h1, h2⟩ := bd b hb e z l hg j v hv
    rw [h1, rv_flat h2 (hf v (List.mem_of_getElem? hv))]
  have sl : ∀ {v : Value} {i n lb : Nat}, Rv E D ρ (.slice (some ⟨i, 0, none⟩) n lb) v → ∃ c, v = .slice (some ⟨(ρ i).blk, (ρ i).off, none⟩) n c ∧ lb ≤ c ∧ c ≤ maxLen := fun {v i n lb} hr => by
    cases hr with
    | flat _ h => cases h
    | slice i o n lb c h h1 h2 h3 h4 => exact ⟨c, rfl, h2, h3⟩
  refine ⟨?_, ?_, ?_⟩
  · obtain ⟨v', h1, h2⟩ := bd 4 (by simp) 42 1 _ (by rw [h0_get]; rfl) 0 _ rfl
    obtain ⟨c, rfl, hc1, hc2⟩ := sl h2
    rw [(gl 4 (by omega)).1, (gl 4 (by omega)).2] at h1
    exact ⟨_, _, c, h1, hc1, hc2, str D 65 (by simp) 9 1 wrds (by rw [h0_get]; rfl) (by decide)⟩
  · obtain ⟨v', h1, h2⟩ := bd 0 (by simp) 42 1 _ (by rw [h0_get]; rfl) 0 _ rfl
    obtain ⟨c, rfl, hc1, hc2⟩ := sl h2
    rw [(gl 0 (by omega)).1, (gl 0 (by omega)).2] at h1
    exact ⟨_, _, c, h1, hc1, hc2, str D 64 (by simp) 9 1 syms (by rw [h0_get]; rfl) (by decide)⟩
  · intro j v hv
    have := str D 2 (by simp) 4 1 usedc (by rw [h0_get]; rfl) (by decide) j v hv
    rwa [(gl 2 (by omega)).1, (gl 2 (by omega)).2, Nat.zero_add] at this
theorem sp13_ok {E : Ev} {args : List Value} {v : Value} {s' : ASt} (hx : sp13 args s = some (v, s')) {args' : List Value} (h : Sim E D ρ s w) (hr : Rvs E D ρ args args') :
    Calls Tryz.prog 13 ⟨args'⟩ w fun e w' => ∃ v' ρ' D', e = .returned v' ∧ Rv E D' ρ' v v' ∧ Sim E D' ρ' s' w' ∧ Ex D s ρ w D' s' ρ' w' := by
  unfold sp13 at hx
  split at hx
  · obtain ⟨hk, e⟩ := of_cond hx
    cases e
    obtain rfl := rvs_nil hr
    have ht := tbs_of_sim h fun b hb => (eqO_ok (List.all_eq_true.1 hk b hb)).1
    refine (knownE ht).mono ?_
    rintro e w' ⟨rfl, hb⟩
    obtain ⟨r1, r2⟩ := sim_later h hb
    exact ⟨_, _, _, rfl, .flat _ rfl, r1, r2⟩
  · cases hx
end
end
section
open Go.RowKit
set_option linter.unusedSimpArgs false
set_option linter.unusedVariables false

def G2 (f i : Int) (t : Tab) : Tab := groupV [2, 3] (fun l => [aggV f i l]) t
theorem pk23 (r : List Val) : pkV [2, 3] r = [cel r 2, cel r 3] := rfl
theorem pk0_23 (r : List Val) (l : List Val) : pkV [0] (pkV [2, 3] r ++ l) = pkV [2] r := by
  show [cel (cel r 2 :: cel r 3 :: l) 0] = [cel r 2]
  have : cel (cel r 2 :: cel r 3 :: l) 0 = cel r 2 := if_pos ⟨by omega, by simp only [List.length_cons]; omega⟩
  rw [this]
theorem cel2_23 (r : List Val) (v : Val) : cel (pkV [2, 3] r ++ [v]) 2 = v := if_pos ⟨by omega, by simp [pkV]⟩
theorem sumC_le : ∀ {t : Tab} (_ : ∀ x ∈ t, 0 < x.2) (p : List Val × Int → Bool), 0 ≤ sumC (t.filter p) ∧ sumC (t.filter p) ≤ sumC t
  | [], _, p => by simp [sumC]
  | x :: t, h, p => by
    have h1 := h x (List.mem_cons_self ..)
    have ih := sumC_le (fun y hy => h y (List.mem_cons_of_mem _ hy)) p
    rw [List.filter_cons]
    split <;> simp only [sumC] <;> omega
def phi (a : List Val) (p : List Val × Tab) : Int := if cmpR (pkV [0] p.1) a = 0 then sumC p.2 else 0
def sumP (a : List Val) : List (List Val × Tab) → Int
  | [] => 0
  | p :: l => phi a p + sumP a l
theorem sumP_add (a k : List Val) (x : List Val × Int) : ∀ ps, sumP a (addP k x ps) = sumP a ps + (if cmpR (pkV [0] k) a = 0 then x.2 else 0)
  | [] => by simp [addP, sumP, phi, sumC]
  | p :: l => by
    have ih := sumP_add a k x l
    unfold addP
    split
    · rename_i h
      have e := (cmpR_zero _ _).1 h
      rw [sumP, sumP]
      unfold phi
      simp only [sumC_append, sumC, e]
      split <;> omega
    · rw [sumP, sumP, ih]; omega
theorem sumP_go (a : List Val) : ∀ (t : Tab) (ps : List (List Val × Tab)), sumP a (t.foldl (fun l x => addP (pkV [2, 3] x.1) x l) ps) = sumP a ps + sumC (ofK [2] a t)
  | [], ps => by simp [ofK, sumC]
  | x :: t, ps => by
    have ih := sumP_go a t (addP (pkV [2, 3] x.1) x ps)
    have e := pk0_23 x.1 []
    rw [List.append_nil] at e
    rw [List.foldl_cons, ih, sumP_add, e]
    unfold ofK
    rw [List.filter_cons]
    by_cases h : cmpR (pkV [2] x.1) a = 0
    · rw [if_pos h, if_pos (by simp [h]), sumC]; omega
    · rw [if_neg h, if_neg (by simp [h])]; omega
theorem sumP_rows (a : List Val) (f : List Val → Int) (F : Tab → List Val) : ∀ (ps : List (List Val × Tab)), (∀ p ∈ ps, f (rowG F p).1 = phi a p) → sumF f (ps.map (rowG F)) = sumP a ps
  | [], _ => rfl
  | p :: l, h => by
    have h1 := h p (List.mem_cons_self ..)
    rw [List.map_cons, sumF, sumP, sumP_rows a f F l fun q hq => h q (List.mem_cons_of_mem _ hq), h1]
    show phi a p * 1 + _ = _
    omega
theorem mem_L {f i : Int} {t : Tab} {a : List Val} {y : List Val × Int} : y ∈ ofK [0] a (G2 f i t) ↔ ∃ p ∈ partsV [2, 3] t, y = rowG (fun l => [aggV f i l]) p ∧ pkV [0] p.1 = a := by
  rw [ofK_mem]
  unfold G2
  rw [groupV_mem]
  have e : ∀ p ∈ partsV [2, 3] t, pkV [0] (rowG (fun l => [aggV f i l]) p).1 = pkV [0] p.1 := fun p hp => by
    obtain ⟨x, _, hx, _⟩ := (partsV_ok [2, 3] t).key hp
    show pkV [0] (p.1 ++ [aggV f i p.2]) = _
    rw [← hx]
    have := pk0_23 x.1 []
    rw [List.append_nil] at this
    rw [pk0_23, this]
  constructor
  · rintro ⟨⟨p, hp, rfl⟩, h⟩
    exact ⟨p, hp, rfl, by rw [← e p hp]; exact h⟩
  · rintro ⟨p, hp, rfl, h⟩
    exact ⟨⟨p, hp, rfl⟩, by rw [e p hp]; exact h⟩
theorem L_cel {f i : Int} {t : Tab} {p : List Val × Tab} (hp : p ∈ partsV [2, 3] t) : cel (rowG (fun l => [aggV f i l]) p).1 2 = aggV f i p.2 := by
  obtain ⟨x, _, hx, _⟩ := (partsV_ok [2, 3] t).key hp
  show cel (p.1 ++ [aggV f i p.2]) 2 = _
  rw [← hx, cel2_23]
theorem groups_count (i i' : Int) (t : Tab) (h : ∀ x ∈ t, 0 < x.2) (hs : sumC t ≤ 1073741824) : groupV [0] (fun l => [aggV 3 2 l]) (G2 1 i t) = groupV [2] (fun l => [aggV 1 i' l]) t := by
  refine group_group (fun x l _ => pk0_23 x.1 _) fun a ⟨x, hx, ha⟩ => ?_
  show [aggV 3 2 (ofK [0] a (G2 1 i t))] = [aggV 1 i' (ofK [2] a t)]
  have ok := partsV_ok [2, 3] t
  have hin : ∀ p ∈ partsV [2, 3] t, aggV 1 i p.2 = ⟨2, sumC p.2, ⟨#[]⟩⟩ := fun p hp => by
    have h1 := sumC_le h fun x => cmpR (pkV [2, 3] x.1) p.1 == 0
    have h2 := ok.rows p hp
    unfold ofK at h2
    rw [← h2] at h1
    show intV (sumC p.2) = _
    exact intV_ok (by omega) (by omega)
  obtain ⟨p0, hp0, e0⟩ := ok.all x hx
  have hp0a : pkV [0] p0.1 = a := by
    have := pk0_23 x.1 []
    rw [List.append_nil] at this
    rw [e0, this, ha]
  have hne : normV (valsV 2 (ofK [0] a (G2 1 i t))) ≠ [] := fun e => by
    have hm : rowG (fun l => [aggV 1 i l]) p0 ∈ ofK [0] a (G2 1 i t) := mem_L.2 ⟨p0, hp0, rfl, hp0a⟩
    have hv : ([cel (rowG (fun l => [aggV 1 i l]) p0).1 2], (1 : Int)) ∈ valsV 2 (ofK [0] a (G2 1 i t)) := valsV_mem.2 ⟨_, hm, by rw [L_cel hp0, hin p0 hp0]; simp, rfl⟩
    have hpos : ∀ y ∈ valsV 2 (ofK [0] a (G2 1 i t)), 0 < y.2 := vals_pos fun y hy => by
      obtain ⟨p, _, rfl, _⟩ := mem_L.1 hy
      show (0 : Int) < 1
      omega
    obtain ⟨y, hy, _⟩ := (norm_keys hpos _).2 ⟨_, hv, rfl⟩
    rw [e] at hy; cases hy
  have e3 : aggV 3 2 (ofK [0] a (G2 1 i t)) = intV (sumF (fun r => (r.headD zV).m) (normV (valsV 2 (ofK [0] a (G2 1 i t))))) := by
    show (match normV (valsV 2 (ofK [0] a (G2 1 i t))) with | [] => zV | _ :: _ => intV (sumF (fun r => (r.headD zV).m) (normV (valsV 2 (ofK [0] a (G2 1 i t)))))) = _
    cases hc : normV (valsV 2 (ofK [0] a (G2 1 i t))) with
    | nil => exact absurd hc hne
    | cons _ _ => rfl
  rw [e3, sumF_norm, sumF_vals, sumF_ofK]
  have e4 : aggV 1 i' (ofK [2] a t) = intV (sumC (ofK [2] a t)) := rfl
  rw [e4]
  have e5 : G2 1 i t = normV ((partsV [2, 3] t).map (rowG fun l => [aggV 1 i l])) := rfl
  rw [e5, sumF_norm, sumP_rows a]
  · have := sumP_go a t []
    unfold partsV
    rw [this]
    simp [sumP]
  · intro p hp
    obtain ⟨y, _, hy, _⟩ := ok.key hp
    have e6 : pkV [0] (rowG (fun l => [aggV 1 i l]) p).1 = pkV [0] p.1 := by
      show pkV [0] (p.1 ++ [aggV 1 i p.2]) = _
      have := pk0_23 y.1 []
      rw [List.append_nil] at this
      rw [← hy, pk0_23, this]
    show (if cmpR (pkV [0] (rowG (fun l => [aggV 1 i l]) p).1) a = 0 then (if (cel (rowG (fun l => [aggV 1 i l]) p).1 2).k = 0 then 0 else ([cel (rowG (fun l => [aggV 1 i l]) p).1 2].headD zV).m) else 0) = phi a p
    rw [e6, L_cel hp, hin p hp]
    unfold phi
    split <;> simp
theorem groups_ext {s f : Int} (hs : s = 1 ∨ s = -1) (H : ∀ (i : Int) (rows : Tab), (∀ x ∈ rows, 0 < x.2) → extIs s (colS i rows) (aggV f i rows)) (i : Int) (t : Tab) (h : ∀ x ∈ t, 0 < x.2) :
    groupV [0] (fun l => [aggV f 2 l]) (G2 f i t) = groupV [2] (fun l => [aggV f i l]) t := by
  refine group_group (fun x l _ => pk0_23 x.1 _) fun a ⟨x, hx, ha⟩ => ?_
  show [aggV f 2 (ofK [0] a (G2 f i t))] = [aggV f i (ofK [2] a t)]
  have ok := partsV_ok [2, 3] t
  have hL : ∀ y ∈ ofK [0] a (G2 f i t), 0 < y.2 := fun y hy => by
    obtain ⟨p, _, rfl, _⟩ := mem_L.1 hy
    show (0 : Int) < 1
    omega
  have hK : ∀ y ∈ ofK [2] a t, 0 < y.2 := fun y hy => h y (ofK_mem.1 hy).1
  have hP : ∀ p ∈ partsV [2, 3] t, extIs s (colS i p.2) (aggV f i p.2) := fun p hp => H i p.2 fun y hy => h y ((ok.mem hp).1 hy).1
  have up : ∀ y ∈ t, pkV [2] y.1 = a → ∃ p ∈ partsV [2, 3] t, y ∈ p.2 ∧ pkV [0] p.1 = a := fun y hy e => by
    obtain ⟨p, hp, e1⟩ := ok.all y hy
    have := pk0_23 y.1 []
    rw [List.append_nil] at this
    exact ⟨p, hp, (ok.mem hp).2 ⟨hy, e1.symm⟩, by rw [e1, this, e]⟩
  have dn : ∀ p ∈ partsV [2, 3] t, pkV [0] p.1 = a → ∀ y ∈ p.2, y ∈ ofK [2] a t := fun p hp e y hy => by
    obtain ⟨h1, h2⟩ := (ok.mem hp).1 hy
    have := pk0_23 y.1 []
    rw [List.append_nil] at this
    exact ofK_mem.2 ⟨h1, by rw [← this, h2, e]⟩
  have cs : ∀ v, colS 2 (ofK [0] a (G2 f i t)) v ↔ v.k ≠ 0 ∧ ∃ p ∈ partsV [2, 3] t, pkV [0] p.1 = a ∧ aggV f i p.2 = v := fun v => by
    unfold colS
    constructor
    · rintro ⟨h1, y, hy, e⟩
      obtain ⟨p, hp, rfl, hp2⟩ := mem_L.1 hy
      exact ⟨h1, p, hp, hp2, by rw [← L_cel hp]; exact e⟩
    · rintro ⟨h1, p, hp, hp2, e⟩
      exact ⟨h1, _, mem_L.2 ⟨p, hp, rfl, hp2⟩, by rw [L_cel hp]; exact e⟩
  have h2 := H 2 (ofK [0] a (G2 f i t)) hL
  have h3 := H i (ofK [2] a t) hK
  have h4 : extIs s (colS i (ofK [2] a t)) (aggV f 2 (ofK [0] a (G2 f i t))) := by
    rcases h2 with ⟨e, hn⟩ | ⟨hm, hle⟩
    · refine .inl ⟨e, fun v hv => ?_⟩
      obtain ⟨hk, y, hy, ey⟩ := hv
      obtain ⟨p, hp, hyp, hpa⟩ := up y (ofK_mem.1 hy).1 (ofK_mem.1 hy).2
      have hcol : colS i p.2 v := ⟨hk, y, hyp, ey⟩
      rcases hP p hp with ⟨_, h5⟩ | ⟨h5, _⟩
      · exact h5 v hcol
      · exact hn _ ((cs _).2 ⟨h5.1, p, hp, hpa, rfl⟩)
    · obtain ⟨hk, p, hp, hpa, e⟩ := (cs _).1 hm
      refine .inr ⟨?_, fun v hv => ?_⟩
      · rcases hP p hp with ⟨h5, _⟩ | ⟨h5, _⟩
        · rw [e] at h5; rw [h5] at hk; exact absurd rfl hk
        · rw [e] at h5
          obtain ⟨_, y, hy, ey⟩ := h5
          exact ⟨hk, y, dn p hp hpa y hy, ey⟩
      · obtain ⟨hvk, y, hy, ey⟩ := hv
        obtain ⟨q, hq, hyq, hqa⟩ := up y (ofK_mem.1 hy).1 (ofK_mem.1 hy).2
        have hcol : colS i q.2 v := ⟨hvk, y, hyq, ey⟩
        rcases hP q hq with ⟨_, h5⟩ | ⟨h5, h6⟩
        · exact absurd hcol (h5 v)
        · exact cmpV_le_trans hs (hle _ ((cs _).2 ⟨h5.1, q, hq, hqa, rfl⟩)) (h6 v hcol)
  rw [h4.uniq hs h3]
end
section
open Go.RowKit Go.BigFrame
set_option linter.unusedSimpArgs false
set_option linter.unusedVariables false

theorem oC_eq : oC = ordersC := rfl
theorem cC_eq : cC = customersC := rfl
/-- a table made of a group: what it is like -/
theorem grp_tab {cs : List Col} {ns : List ByteArray} {its : List Itm} {t : Tab} (h : okGrp cs ns its t) : okTab (groupV (ns.map (idxC cs)) (aggsV cs its) t) ∧ sumC (groupV (ns.map (idxC cs)) (aggsV cs its) t) ≤ 65536 := by
  have hm : ∀ y ∈ groupV (ns.map (idxC cs)) (aggsV cs its) t, y.1.length ≤ 12 ∧ vOk y.1 ∧ y.2 = 1 := fun y hy => by
    obtain ⟨p, hp, rfl⟩ := groupV_mem.1 hy
    exact rowG_ok h (List.mem_map_of_mem hp)
  have hl : (groupV (ns.map (idxC cs)) (aggsV cs its) t).length ≤ 4096 := by
    refine Nat.le_trans (normV_len _) ?_
    rw [List.length_map]
    exact Nat.le_trans (partsV_len _ _) h.len
  refine ⟨⟨⟨hl, groupV_bag _ _ _, fun y hy => ?_⟩, fun y hy => ?_⟩, ?_⟩
  · obtain ⟨h1, h2, h3⟩ := hm y hy
    exact ⟨h1, by omega, by omega, h2⟩
  · rw [(hm y hy).2.2]; omega
  · rw [sumC_ones fun y hy => (hm y hy).2.2]; omega
theorem gTab_tab {cs : List Col} {t : Tab} (hc : cs.length ≤ 12) (h : gTab cs 30 t) : okTab t ∧ sumC t ≤ 30 ∧ (∀ x ∈ t, 0 < x.2) ∧ (∀ x ∈ t, okRow cs x.1) ∧ t.length ≤ 30 := by
  obtain ⟨hb, he, hs, hr⟩ := h
  have hp : ∀ x ∈ t, 0 < x.2 := fun x hx => (he x hx).1
  have hl : (t.length : Int) ≤ sumC t := by
    clear hb hs hr he
    induction t with
    | nil => simp [sumC]
    | cons x l ih =>
      have h1 := hp x (List.mem_cons_self ..)
      have h2 := ih fun y hy => hp y (List.mem_cons_of_mem _ hy)
      rw [sumC, List.length_cons]
      omega
  refine ⟨⟨⟨by omega, hb, fun x hx => ?_⟩, hp⟩, hs, hp, hr, by omega⟩
  have h1 := hb.cnt_mem hx
  have h2 := cnt_le_sum hp x.1
  have h3 := hp x hx
  exact ⟨(he x hx).2, by omega, by omega, (hr x hx).vOk⟩
/-- the tables by their numbers -/
def tbG (c d : Nat) (t0 t1 t2 : Tab) : Nat → Tab := fun k => match k with
  | 0 => t0
  | 1 => t1
  | 2 => t2
  | 3 => groupV [2, 3] (aggsV oC [itm sK (coX c d) (fnG c)]) t0
  | 4 => groupV [0] (aggsV (cols3 c d) [itm sT sK (fn2 c)]) (groupV [2, 3] (aggsV oC [itm sK (coX c d) (fnG c)]) t0)
  | 5 => groupV [2] (aggsV oC [itm sT (coX c d) (fnG c)]) t0
  | _ => []
def iX (c d : Nat) : Int := idxC oC (coX c d)
theorem cases_cd {P : Nat → Nat → Prop} {c d : Nat} (hc : c ≤ 2) (hd : d ≤ 2) (h00 : P 0 0) (h01 : P 0 1) (h02 : P 0 2) (h10 : P 1 0) (h11 : P 1 1) (h12 : P 1 2) (h20 : P 2 0) (h21 : P 2 1) (h22 : P 2 2) : P c d := by
  have e1 : c = 0 ∨ c = 1 ∨ c = 2 := by omega
  have e2 : d = 0 ∨ d = 1 ∨ d = 2 := by omega
  rcases e1 with rfl | rfl | rfl <;> rcases e2 with rfl | rfl | rfl <;> assumption
theorem idx_oC : idxC oC sAt = 2 ∧ idxC oC sV = 3 := ⟨by kernel_rfl, by kernel_rfl⟩
theorem idx_c3 {c d : Nat} (hc : c ≤ 2) (hd : d ≤ 2) : idxC (cols3 c d) sAt = 0 ∧ idxC (cols3 c d) sK = 2 := by
  refine cases_cd (P := fun c d => idxC (cols3 c d) sAt = 0 ∧ idxC (cols3 c d) sK = 2) hc hd ?_ ?_ ?_ ?_ ?_ ?_ ?_ ?_ ?_ <;> exact ⟨by kernel_rfl, by kernel_rfl⟩
theorem okNames_at : okNames oC [sAt] ∧ okNames oC [sAt, sV] := by
  refine ⟨fun j s h => ?_, fun j s h => ?_⟩
  · match j, h with
    | 0, h => cases h; exact ⟨by rw [idx_oC.1]; omega, by kernel_rfl⟩
  · match j, h with
    | 0, h => cases h; exact ⟨by rw [idx_oC.1]; omega, by kernel_rfl⟩
    | 1, h => cases h; exact ⟨by rw [idx_oC.2]; omega, by kernel_rfl⟩
theorem okNames_c3 {c d : Nat} (hc : c ≤ 2) (hd : d ≤ 2) : okNames (cols3 c d) [sAt] := fun j s h => by
  match j, h with
  | 0, h => cases h; exact ⟨by rw [(idx_c3 hc hd).1]; omega, by kernel_rfl⟩
theorem fnG_ok {c : Nat} (hc : c ≤ 2) : (fnG c = 1 ∨ fnG c = 3 ∨ fnG c = 4 ∨ fnG c = 5 ∨ fnG c = 6) ∧ fnG c ≠ 3 ∧ (fn2 c = 1 ∨ fn2 c = 3 ∨ fn2 c = 4 ∨ fn2 c = 5 ∨ fn2 c = 6) ∧ (fn2 c = 3 → c = 0) := by
  have e1 : c = 0 ∨ c = 1 ∨ c = 2 := by omega
  rcases e1 with rfl | rfl | rfl <;> simp [fnG, fn2]
theorem okGrp_o {c : Nat} (hc : c ≤ 2) (nm co : ByteArray) {ns : List ByteArray} (hn : okNames oC ns) (h0 : 0 < ns.length) (h1 : ns.length ≤ 2) {t : Tab} (h : gTab oC 30 t) : okGrp oC ns [itm nm co (fnG c)] t := by
  obtain ⟨k1, k2, k3, k4, k5⟩ := gTab_tab (by decide) h
  refine ⟨hn, h0, by simp; omega, by omega, k3, by omega, fun x hx => (k1.1.2.2 x hx).1, fun x hx => (k4 x hx).vOk, fun x hx => ?_, fun x hx e => ?_⟩
  · rw [List.mem_singleton] at hx
    subst hx
    exact (fnG_ok hc).1
  · rw [List.mem_singleton] at hx
    subst hx
    exact absurd e (fnG_ok hc).2.1
theorem cel_row {cs : List Col} {r : List Val} (h : okRow cs r) {j : Nat} {c : Col} (hc : cs[j]? = some c) : validV (cel r j) = true ∧ (((cel r j).k = 0 ∧ c.nl = true) ∨ ((cel r j).k ≠ 0 ∧ (cel r j).k = c.k)) := by
  have hj := (List.getElem?_eq_some_iff.1 hc).1
  rw [← h.1] at hj
  have e : cel r j = r[j] := by
    unfold cel
    rw [if_pos ⟨by omega, by omega⟩]
    simp [hj]
  rw [e]
  exact h.2 j _ c (List.getElem?_eq_getElem hj) hc
theorem row3 {c d : Nat} {t : Tab} {y : List Val × Int} (hy : y ∈ groupV [2, 3] (aggsV oC [itm sK (coX c d) (fnG c)]) t) : ∃ x ∈ t, ∃ p ∈ partsV [2, 3] t, (∀ z ∈ p.2, z ∈ t) ∧ y.1 = [cel x.1 2, cel x.1 3, aggV (fnG c) (iX c d) p.2] ∧ y = rowG (fun l => [aggV (fnG c) (iX c d) l]) p := by
  obtain ⟨p, hp, rfl⟩ := groupV_mem.1 hy
  obtain ⟨x, hx, e, _⟩ := (partsV_ok [2, 3] t).key hp
  refine ⟨x, hx, p, hp, fun z hz => (((partsV_ok [2, 3] t).mem hp).1 hz).1, ?_, rfl⟩
  show p.1 ++ _ = _
  rw [← e]
  rfl
end
section
open Go.RowKit Go.BigFrame
set_option linter.unusedSimpArgs false
set_option linter.unusedVariables false

theorem agg_kind {f i : Int} {cs : List Col} {rows : Tab} {j : Nat} {c : Col} (hf : f = 4 ∨ f = 5) (hp : ∀ x ∈ rows, 0 < x.2) (hr : ∀ x ∈ rows, okRow cs x.1) (hi : i = j) (hc : cs[j]? = some c) : (aggV f i rows).k = 0 ∨ ((aggV f i rows).k ≠ 0 ∧ (aggV f i rows).k = c.k) := by
  have key : ∀ m s, extIs s (colS i rows) m → m.k = 0 ∨ (m.k ≠ 0 ∧ m.k = c.k) := fun m s h => by
    rcases h with ⟨rfl, _⟩ | ⟨⟨h1, x, hx, e⟩, _⟩
    · exact .inl rfl
    · rw [hi] at e
      have := (cel_row (hr x hx) hc).2
      rw [e] at this
      rcases this with ⟨h2, _⟩ | h2
      · exact absurd h2 h1
      · exact .inr h2
  rcases hf with rfl | rfl
  · exact key _ _ (aggV_min hp)
  · exact key _ _ (aggV_max hp)
/-- the kind of the aggregated column -/
def kX (c d : Nat) : Int := match c with
  | 0 => 2
  | _ => match d with
    | 2 => 3
    | _ => 2
def nX (c : Nat) : Bool := match c with
  | 0 => false
  | _ => true
theorem c3_eq {c d : Nat} (hc : c ≤ 2) (hd : d ≤ 2) : cols3 c d = [⟨sAt, 4, false⟩, ⟨sV, 2, true⟩, ⟨sK, kX c d, nX c⟩] := by
  refine cases_cd (P := fun c d => cols3 c d = [⟨sAt, 4, false⟩, ⟨sV, 2, true⟩, ⟨sK, kX c d, nX c⟩]) hc hd ?_ ?_ ?_ ?_ ?_ ?_ ?_ ?_ ?_ <;> rfl
theorem agg3 {c d : Nat} (hc : c ≤ 2) (hd : d ≤ 2) {rows : Tab} (hp : ∀ x ∈ rows, 0 < x.2) (hr : ∀ x ∈ rows, okRow oC x.1) (hs : sumC rows ≤ 65536) : ((aggV (fnG c) (iX c d) rows).k = 0 ∧ nX c = true) ∨ ((aggV (fnG c) (iX c d) rows).k ≠ 0 ∧ (aggV (fnG c) (iX c d) rows).k = kX c d) := by
  have up : ∀ {c d : Nat} (j : Nat) (co : Col), (fnG c = 4 ∨ fnG c = 5) → nX c = true → iX c d = j → oC[j]? = some co → co.k = kX c d → ((aggV (fnG c) (iX c d) rows).k = 0 ∧ nX c = true) ∨ ((aggV (fnG c) (iX c d) rows).k ≠ 0 ∧ (aggV (fnG c) (iX c d) rows).k = kX c d) := fun {c d} j co h1 h2 h3 h4 h5 => by
    rcases agg_kind h1 hp hr h3 h4 with h | ⟨h, e⟩
    · exact .inl ⟨h, h2⟩
    · exact .inr ⟨h, e.trans h5⟩
  have zero : ∀ d : Nat, ((aggV (fnG 0) (iX 0 d) rows).k = 0 ∧ nX 0 = true) ∨ ((aggV (fnG 0) (iX 0 d) rows).k ≠ 0 ∧ (aggV (fnG 0) (iX 0 d) rows).k = kX 0 d) := fun d => by
    have e : aggV (fnG 0) (iX 0 d) rows = ⟨2, sumC rows, ⟨#[]⟩⟩ := by
      show intV (sumC rows) = _
      have := sumC_pos hp
      exact intV_ok (by omega) (by omega)
    rw [e]
    exact .inr ⟨by simp, rfl⟩
  refine cases_cd (P := fun c d => ((aggV (fnG c) (iX c d) rows).k = 0 ∧ nX c = true) ∨ ((aggV (fnG c) (iX c d) rows).k ≠ 0 ∧ (aggV (fnG c) (iX c d) rows).k = kX c d)) hc hd (zero 0) (zero 1) (zero 2) ?_ ?_ ?_ ?_ ?_ ?_
  · exact up 3 _ (.inl rfl) rfl (by kernel_rfl) rfl rfl
  · exact up 0 _ (.inl rfl) rfl (by kernel_rfl) rfl rfl
  · exact up 1 _ (.inl rfl) rfl (by kernel_rfl) rfl rfl
  · exact up 3 _ (.inr rfl) rfl (by kernel_rfl) rfl rfl
  · exact up 0 _ (.inr rfl) rfl (by kernel_rfl) rfl rfl
  · exact up 1 _ (.inr rfl) rfl (by kernel_rfl) rfl rfl
theorem sumC_sub {t : Tab} (hp : ∀ x ∈ t, 0 < x.2) {is : List Int} {p : List Val × Tab} (h : p ∈ partsV is t) : sumC p.2 ≤ sumC t := by
  rw [(partsV_ok is t).rows p h]
  unfold ofK
  exact sumC_filter hp _
theorem tab3 {c d : Nat} (hc : c ≤ 2) (hd : d ≤ 2) {t : Tab} (h : gTab oC 30 t) : okTab (groupV [2, 3] (aggsV oC [itm sK (coX c d) (fnG c)]) t) ∧ sumC (groupV [2, 3] (aggsV oC [itm sK (coX c d) (fnG c)]) t) ≤ 65536 ∧ ∀ y ∈ groupV [2, 3] (aggsV oC [itm sK (coX c d) (fnG c)]) t, okRow (cols3 c d) y.1 := by
  obtain ⟨k1, k2, k3, k4, k5⟩ := gTab_tab (by decide) h
  have hg := grp_tab (okGrp_o hc sK (coX c d) okNames_at.2 (by decide) (by decide) h)
  have e : [sAt, sV].map (idxC oC) = [2, 3] := by
    show [idxC oC sAt, idxC oC sV] = _
    rw [idx_oC.1, idx_oC.2]
  rw [e] at hg
  refine ⟨hg.1, hg.2, fun y hy => ?_⟩
  obtain ⟨x, hx, p, hp, hsub, e1, _⟩ := row3 hy
  have hps := sumC_sub k3 hp
  have a1 := cel_row (j := 2) (k4 x hx) (c := ⟨sAt, 4, false⟩) rfl
  have a2 := cel_row (j := 3) (k4 x hx) (c := ⟨sV, 2, true⟩) rfl
  have a3 := agg3 hc hd (fun z hz => k3 z (hsub z hz)) (fun z hz => k4 z (hsub z hz)) (by omega)
  have a4 := valid_agg (fnG c) (iX c d) fun z hz => (k4 z (hsub z hz)).vOk
  rw [e1, c3_eq hc hd]
  refine ⟨rfl, fun j v co hj hco => ?_⟩
  match j, hj, hco with
  | 0, hj, hco => cases hj; cases hco; exact a1
  | 1, hj, hco => cases hj; cases hco; exact a2
  | 2, hj, hco => cases hj; cases hco; exact ⟨a4, a3⟩
theorem okGrp_2 {c d : Nat} (hc : c ≤ 2) (hd : d ≤ 2) {t : Tab} (h : gTab oC 30 t) : okGrp (cols3 c d) [sAt] [itm sT sK (fn2 c)] (groupV [2, 3] (aggsV oC [itm sK (coX c d) (fnG c)]) t) := by
  obtain ⟨h1, h2, h3⟩ := tab3 hc hd h
  obtain ⟨k1, k2, k3, k4, k5⟩ := gTab_tab (by decide) h
  refine ⟨okNames_c3 hc hd, by decide, (by show 1 + 1 ≤ 12; omega), h1.1.1, h1.2, h2, fun x hx => (h1.1.2.2 x hx).1, fun x hx => (h3 x hx).vOk, fun x hx => ?_, fun x hx e y hy => ?_⟩
  · rw [List.mem_singleton] at hx
    subst hx
    exact (fnG_ok hc).2.2.1
  · rw [List.mem_singleton] at hx
    subst hx
    have hc0 := (fnG_ok hc).2.2.2 e
    subst hc0
    have hi : idxC (cols3 0 d) sK = 2 := (idx_c3 hc hd).2
    show (cel y.1 (idxC (cols3 0 d) sK)).k = 0 ∨ (cel y.1 (idxC (cols3 0 d) sK)).k = 2
    rw [hi]
    have := (cel_row (j := 2) (h3 y hy) (c := ⟨sK, 2, false⟩) rfl).2
    rcases this with ⟨h, _⟩ | ⟨_, h⟩
    · exact .inl h
    · exact .inr h
/-- TopGroups: the two ways agree -/
theorem groups_eq {c d : Nat} (hc : c ≤ 2) (hd : d ≤ 2) {t : Tab} (h : gTab oC 30 t) : groupV [0] (aggsV (cols3 c d) [itm sT sK (fn2 c)]) (groupV [2, 3] (aggsV oC [itm sK (coX c d) (fnG c)]) t) = groupV [2] (aggsV oC [itm sT (coX c d) (fnG c)]) t := by
  obtain ⟨k1, k2, k3, k4, k5⟩ := gTab_tab (by decide) h
  have e1 : aggsV (cols3 c d) [itm sT sK (fn2 c)] = fun l => [aggV (fn2 c) 2 l] := by
    funext l
    show [aggV (fn2 c) (idxC (cols3 c d) sK) l] = _
    rw [(idx_c3 hc hd).2]
  rw [e1]
  show groupV [0] (fun l => [aggV (fn2 c) 2 l]) (groupV [2, 3] (fun l => [aggV (fnG c) (iX c d) l]) t) = groupV [2] (fun l => [aggV (fnG c) (iX c d) l]) t
  have e : c = 0 ∨ c = 1 ∨ c = 2 := by omega
  rcases e with rfl | rfl | rfl
  · exact groups_count (iX 0 d) (iX 0 d) t k3 (by omega)
  · exact groups_ext (s := 1) (.inl rfl) (fun i rows hp => aggV_min hp) (iX 1 d) t k3
  · exact groups_ext (s := -1) (.inr rfl) (fun i rows hp => aggV_max hp) (iX 2 d) t k3
end
section
open Go.RowKit Go.RowKit
set_option linter.unusedSimpArgs false
set_option linter.unusedVariables false

def anD3 (n : Int) : Int := IntKind.i64.wrap (BitVec.ofInt IntKind.i64.bits n &&& BitVec.ofInt IntKind.i64.bits 3).toNat
theorem run_anD3 (n : Int) (t : TypeId) (xo yo : Operand) (P : Program) (w : World) : (do eqGuard .and t xo yo (.int .i64 n) (.int .i64 3); binOp .and t (.int .i64 n) (.int .i64 3) : Sem Value).run P w = .ok (.int .i64 (anD3 n)) w := by
  rfl
theorem anD3_le (n : Int) : 0 ≤ anD3 n ∧ anD3 n ≤ 3 := by
  unfold anD3
  have h : (BitVec.ofInt IntKind.i64.bits n &&& BitVec.ofInt IntKind.i64.bits 3).toNat ≤ 3 := by
    rw [BitVec.toNat_and]
    exact Nat.le_trans Nat.and_le_right (by decide)
  generalize (BitVec.ofInt IntKind.i64.bits n &&& BitVec.ofInt IntKind.i64.bits 3).toNat = m at h
  have : m = 0 ∨ m = 1 ∨ m = 2 ∨ m = 3 := by omega
  rcases this with rfl | rfl | rfl | rfl <;> decide
theorem run_rem3 (n : Int) (h : 0 ≤ n ∧ n ≤ 3) (t : TypeId) (xo yo : Operand) (P : Program) (w : World) : (do eqGuard .rem t xo yo (.int .i64 n) (.int .i64 3); binOp .rem t (.int .i64 n) (.int .i64 3) : Sem Value).run P w = .ok (.int .i64 (n.tmod 3)) w := by
  have : n = 0 ∨ n = 1 ∨ n = 2 ∨ n = 3 := by omega
  rcases this with rfl | rfl | rfl | rfl <;> rfl
def shD2 (n : Int) : Int := n.fdiv (2 ^ (min (2 : Int).toNat IntKind.i64.bits))
theorem run_shr2 (n : Int) (t : TypeId) (xo yo : Operand) (P : Program) (w : World) : (do eqGuard .shr t xo yo (.int .i64 n) (.int .u64 2); binOp .shr t (.int .i64 n) (.int .u64 2) : Sem Value).run P w = .ok (.int .i64 (shD2 n)) w := by
  rfl
/-- what is known of the numbers -/
def numG (n : Int) (k : Nat) : Int := match k with
  | 600 => n
  | 601 => shD2 n
  | 602 => anD3 n
  | 603 => anD3 (shD2 n)
  | _ => 0
theorem hv_int {E : Ev} {t : IntKind} {m : Int} {x : Value} (h : HV E (.int t m) x) : x = .int t m := by
  rcases h with ⟨_, h⟩ | ⟨k, sn, h, _⟩
  · exact h
  · cases h
theorem hv_num {tb : Nat → Tab} {num : Nat → Int} {k : Nat} {x : Value} (hk : 32 ≤ k % 1024) (h : HV (ETab tb num) (.chan (some k)) x) : x = .int .i64 (num (k % 1024)) := by
  rcases h with ⟨h, _⟩ | ⟨k', sn, h, he⟩
  · cases h
  · cases h
    rcases he with ⟨h, _⟩ | ⟨_, h⟩
    · omega
    · exact h
theorem hr_num {tb : Nat → Tab} {num : Nat → Int} {k : Nat} (h1 : 600 ≤ k) (h2 : k < 1024) : HR (ETab tb num) (.chan (some k)) (.int .i64 (num k)) := by
  have e : k % 1024 = k := Nat.mod_eq_of_lt h2
  exact .inr ⟨k, rfl, by unfold nGlob; omega, rfl, fun sn => .inr ⟨by omega, by rw [e]⟩⟩
theorem T7_ok {n : Int} {tb : Nat → Tab} {c d : Nat} (hc : (anD3 n).tmod 3 = c) (hd : (anD3 (shD2 n)).tmod 3 = d) : (T7 c d).Ok (ETab tb (numG n)) Tryz.prog := by
  have k := xT_ok (ETab tb (numG n))
  refine ⟨k.ty, k.fn, k.eqs, k.mixed, k.ex, fun op x y r h t xo yo x' y' w hx hy => ?_, k.hlen⟩
  have h : hintG c d op x y = some r := h
  unfold hintG at h
  split at h
  · cases h
    obtain rfl := hv_num (by decide) hx
    obtain rfl := hv_int hy
    exact ⟨_, run_anD3 n t xo yo _ w, hr_num (k := 602) (by omega) (by omega)⟩
  · cases h
    obtain rfl := hv_num (by decide) hx
    obtain rfl := hv_int hy
    refine ⟨_, run_rem3 (anD3 n) (anD3_le n) t xo yo _ w, ?_⟩
    rw [hc]
    exact .inl ⟨rfl, rfl⟩
  · cases h
    obtain rfl := hv_num (by decide) hx
    obtain rfl := hv_int hy
    exact ⟨_, run_shr2 n t xo yo _ w, hr_num (k := 601) (by omega) (by omega)⟩
  · cases h
    obtain rfl := hv_num (by decide) hx
    obtain rfl := hv_int hy
    exact ⟨_, run_anD3 (shD2 n) t xo yo _ w, hr_num (k := 603) (by omega) (by omega)⟩
  · cases h
    obtain rfl := hv_num (by decide) hx
    obtain rfl := hv_int hy
    refine ⟨_, run_rem3 (anD3 (shD2 n)) (anD3_le _) t xo yo _ w, ?_⟩
    rw [hd]
    exact .inl ⟨rfl, rfl⟩
  · cases h
end
section
open Go.RowKit Go.RowKit
set_option linter.unusedSimpArgs false
set_option linter.unusedVariables false

theorem nameV_of {s : ByteArray} (h1 : 0 < s.size ∧ s.size ≤ 24) (h2 : okS s s.size) : nameV s = true := by
  unfold nameV
  simp only [decide_eq_true_eq]
  exact ⟨h1.1, h1.2, h2⟩
theorem name1 {x : UInt8} (h : okB 0 x.toNat = true) : nameV (ba [x]) = true := nameV_of ⟨by show 0 < 1; omega, by show 1 ≤ 24; omega⟩ fun j hj h2 => by
  have hj : j < 1 := hj
  obtain rfl : j = 0 := by omega
  exact h
theorem name2 {x y : UInt8} (h : okB 0 x.toNat = true) (h' : okB 1 y.toNat = true) : nameV (ba [x, y]) = true := nameV_of ⟨by show 0 < 2; omega, by show 2 ≤ 24; omega⟩ fun j hj h2 => by
  have hj : j < 2 := hj
  have e : j = 0 ∨ j = 1 := by omega
  rcases e with rfl | rfl
  · exact h
  · exact h'
theorem nameV_ok : nameV sAt = true ∧ nameV sV = true ∧ nameV sK = true ∧ nameV sT = true ∧ nameV sC = true ∧ nameV sId = true ∧ nameV (ba [114]) = true := ⟨name2 (by decide) (by decide), name1 (by decide), name1 (by decide), name1 (by decide), name1 (by decide), name2 (x := 105) (y := 100) (by decide) (by decide), name1 (by decide)⟩
theorem okCols_4 {a b c d : Col} (h : nameV a.nm = true ∧ nameV b.nm = true ∧ nameV c.nm = true ∧ nameV d.nm = true) (hk : 1 ≤ a.k ∧ a.k ≤ 4 ∧ 1 ≤ b.k ∧ b.k ≤ 4 ∧ 1 ≤ c.k ∧ c.k ≤ 4 ∧ 1 ≤ d.k ∧ d.k ≤ 4) (hi : idxC [a, b, c, d] a.nm = 0 ∧ idxC [a, b, c, d] b.nm = 1 ∧ idxC [a, b, c, d] c.nm = 2 ∧ idxC [a, b, c, d] d.nm = 3) : okCols [a, b, c, d] := by
  obtain ⟨h1, h2, h3, h4⟩ := h
  obtain ⟨k1, k2, k3, k4, k5, k6, k7, k8⟩ := hk
  obtain ⟨i1, i2, i3, i4⟩ := hi
  refine ⟨by simp, by simp, fun j co hj => ?_⟩
  match j, hj with
  | 0, hj => cases hj; exact ⟨h1, k1, k2, i1⟩
  | 1, hj => cases hj; exact ⟨h2, k3, k4, i2⟩
  | 2, hj => cases hj; exact ⟨h3, k5, k6, i3⟩
  | 3, hj => cases hj; exact ⟨h4, k7, k8, i4⟩
theorem okCols_3 {a b c : Col} (h : nameV a.nm = true ∧ nameV b.nm = true ∧ nameV c.nm = true) (hk : 1 ≤ a.k ∧ a.k ≤ 4 ∧ 1 ≤ b.k ∧ b.k ≤ 4 ∧ 1 ≤ c.k ∧ c.k ≤ 4) (hi : idxC [a, b, c] a.nm = 0 ∧ idxC [a, b, c] b.nm = 1 ∧ idxC [a, b, c] c.nm = 2) : okCols [a, b, c] := by
  obtain ⟨h1, h2, h3⟩ := h
  obtain ⟨k1, k2, k3, k4, k5, k6⟩ := hk
  obtain ⟨i1, i2, i3⟩ := hi
  refine ⟨by simp, by simp, fun j co hj => ?_⟩
  match j, hj with
  | 0, hj => cases hj; exact ⟨h1, k1, k2, i1⟩
  | 1, hj => cases hj; exact ⟨h2, k3, k4, i2⟩
  | 2, hj => cases hj; exact ⟨h3, k5, k6, i3⟩
theorem okCols_2 {a b : Col} (h : nameV a.nm = true ∧ nameV b.nm = true) (hk : 1 ≤ a.k ∧ a.k ≤ 4 ∧ 1 ≤ b.k ∧ b.k ≤ 4) (hi : idxC [a, b] a.nm = 0 ∧ idxC [a, b] b.nm = 1) : okCols [a, b] := by
  obtain ⟨h1, h2⟩ := h
  obtain ⟨k1, k2, k3, k4⟩ := hk
  obtain ⟨i1, i2⟩ := hi
  refine ⟨by simp, by simp, fun j co hj => ?_⟩
  match j, hj with
  | 0, hj => cases hj; exact ⟨h1, k1, k2, i1⟩
  | 1, hj => cases hj; exact ⟨h2, k3, k4, i2⟩
theorem okCols_o : okCols oC := okCols_4 ⟨nameV_ok.2.2.2.2.2.1, nameV_ok.2.2.2.2.1, nameV_ok.1, nameV_ok.2.1⟩ (by decide) ⟨by kernel_rfl, by kernel_rfl, by kernel_rfl, by kernel_rfl⟩
theorem okCols_c : okCols cC := okCols_4 ⟨nameV_ok.2.2.2.2.1, nameV_ok.1, nameV_ok.2.2.2.2.2.2, nameV_ok.2.2.1⟩ (by decide) ⟨by kernel_rfl, by kernel_rfl, by kernel_rfl, by kernel_rfl⟩
theorem okCols_c3 {c d : Nat} (hc : c ≤ 2) (hd : d ≤ 2) : okCols (cols3 c d) := by
  refine cases_cd (P := fun c d => okCols (cols3 c d)) hc hd ?_ ?_ ?_ ?_ ?_ ?_ ?_ ?_ ?_ <;> exact okCols_3 ⟨nameV_ok.1, nameV_ok.2.1, nameV_ok.2.2.1⟩ (by decide) ⟨by kernel_rfl, by kernel_rfl, by kernel_rfl⟩
theorem csG_ok {c d : Nat} (hc : c ≤ 2) (hd : d ≤ 2) : ∀ cs ∈ csG c d, okCols cs := fun cs h => by
  unfold csG at h
  simp only [List.mem_cons, List.not_mem_nil, or_false] at h
  rcases h with rfl | rfl | rfl | rfl | rfl | rfl
  · exact okCols_o
  · exact okCols_c
  · exact okCols_c3 hc hd
  all_goals exact okCols_2 ⟨nameV_ok.1, nameV_ok.2.2.2.1⟩ (by decide) ⟨by kernel_rfl, by kernel_rfl⟩
section
variable {c d : Nat} {t0 t1 t2 : Tab}
theorem tbG_ok (hc : c ≤ 2) (hd : d ≤ 2) (h0 : gTab oC 30 t0) (h1 : gTab cC 30 t1) (h2 : gTab oC 30 t2) (k : Nat) : okTab (tbG c d t0 t1 t2 k) := by
  have nil : okTab [] := ⟨⟨by simp, ⟨trivial, fun x h => by cases h⟩, fun x h => by cases h⟩, fun x h => by cases h⟩
  match k with
  | 0 => exact (gTab_tab (by decide) h0).1
  | 1 => exact (gTab_tab (by decide) h1).1
  | 2 => exact (gTab_tab (by decide) h2).1
  | 3 => exact (tab3 hc hd h0).1
  | 4 =>
    have := grp_tab (okGrp_2 hc hd h0)
    rw [show [sAt].map (idxC (cols3 c d)) = [0] by show [idxC (cols3 c d) sAt] = _; rw [(idx_c3 hc hd).1]] at this
    exact this.1
  | 5 =>
    have := grp_tab (okGrp_o hc sT (coX c d) okNames_at.1 (by decide) (by decide) h0)
    rw [show [sAt].map (idxC oC) = [2] by show [idxC oC sAt] = _; rw [idx_oC.1]] at this
    exact this.1
  | n + 6 => exact nil
theorem gsG_ok (hc : c ≤ 2) (hd : d ≤ 2) (h0 : gTab oC 30 t0) : ∀ g ∈ gsG c d, g.cols.length ≤ 12 ∧ okGrp g.cols g.names g.items (tbG c d t0 t1 t2 g.d) ∧ tbG c d t0 t1 t2 g.d2 = groupV (g.names.map (idxC g.cols)) (aggsV g.cols g.items) (tbG c d t0 t1 t2 g.d) := fun g h => by
  unfold gsG at h
  simp only [List.mem_cons, List.not_mem_nil, or_false] at h
  rcases h with rfl | rfl | rfl
  · refine ⟨by show 4 ≤ 12; omega, okGrp_o hc sK (coX c d) okNames_at.2 (by decide) (by decide) h0, ?_⟩
    rw [show [sAt, sV].map (idxC oC) = [2, 3] by show [idxC oC sAt, idxC oC sV] = _; rw [idx_oC.1, idx_oC.2]]
    rfl
  · refine ⟨by show (cols3 c d).length ≤ 12; rw [c3_eq hc hd]; show 3 ≤ 12; omega, okGrp_2 hc hd h0, ?_⟩
    rw [show [sAt].map (idxC (cols3 c d)) = [0] by show [idxC (cols3 c d) sAt] = _; rw [(idx_c3 hc hd).1]]
    rfl
  · refine ⟨by show 4 ≤ 12; omega, okGrp_o hc sT (coX c d) okNames_at.1 (by decide) (by decide) h0, ?_⟩
    rw [show [sAt].map (idxC oC) = [2] by show [idxC oC sAt] = _; rw [idx_oC.1]]
    rfl
theorem T7_sp {n : Int} (hc : c ≤ 2) (hd : d ≤ 2) (h0 : gTab oC 30 t0) (h1 : gTab cC 30 t1) (h2 : gTab oC 30 t2) : SpOk (ETab (tbG c d t0 t1 t2) (numG n)) Tryz.prog (T7 c d) := fun f g hf args s v s' hx D ρ w args' h hr => by
  have ok := tbG_ok hc hd h0 h1 h2
  have ok2 : ∀ k, k < 32 → (tbG c d t0 t1 t2 k).length ≤ 4096 ∧ ∀ x ∈ tbG c d t0 t1 t2 k, x.1.length ≤ 12 := fun k _ => ⟨(ok k).1.1, fun x hx => ((ok k).1.2.2 x hx).1⟩
  have hf : cond (Nat.beq f 62) (some (sp62 (colsIn c d))) (cond (Nat.beq f 129) (some sp129) (cond (Nat.beq f 137) (some (sp137 (gsG c d))) (cond (Nat.beq f 17) (some (sp17 fun a b => Nat.beq a 4 && Nat.beq b 5)) (cond (Nat.beq f 13) (some sp13) (cond (Nat.beq f 89) (some (sp89 (csG c d))) none))))) = some g := hf
  have step : ∀ {m : Nat} {x : List Value → ASt → Option (Value × ASt)} {y : Option (List Value → ASt → Option (Value × ASt))}, cond (Nat.beq f m) (some x) y = some g → (f = m ∧ x = g) ∨ y = some g := fun {m x y} h => by
    cases hz : Nat.beq f m
    · rw [hz] at h; exact .inr h
    · rw [hz] at h; exact .inl ⟨Nat.eq_of_beq_eq_true hz, Option.some.inj h⟩
  rcases step hf with ⟨rfl, rfl⟩ | hf
  · refine sp62_ok (fun k hk => ?_) hx h hr
    match k, hk with
    | 0, _ => exact ⟨okCols_o, ok 0, (gTab_tab (by decide) h0).2.2.2.1⟩
    | 1, _ => exact ⟨okCols_c, ok 1, (gTab_tab (by decide) h1).2.2.2.1⟩
    | 2, _ => exact ⟨okCols_o, ok 2, (gTab_tab (by decide) h2).2.2.2.1⟩
    | 3, _ => exact ⟨okCols_c3 hc hd, ok 3, (tab3 hc hd h0).2.2⟩
  rcases step hf with ⟨rfl, rfl⟩ | hf
  · exact sp129_ok ok2 hx h hr
  rcases step hf with ⟨rfl, rfl⟩ | hf
  · exact sp137_ok (gsG_ok hc hd h0) hx h hr
  rcases step hf with ⟨rfl, rfl⟩ | hf
  · refine sp17_ok (fun a b hab => ?_) ok2 hx h hr
    simp only [Bool.and_eq_true] at hab
    obtain ⟨e1, e2⟩ := hab
    rw [Nat.eq_of_beq_eq_true e1, Nat.eq_of_beq_eq_true e2]
    exact groups_eq hc hd h0
  rcases step hf with ⟨rfl, rfl⟩ | hf
  · exact sp13_ok hx h hr
  rcases step hf with ⟨rfl, rfl⟩ | hf
  · exact sp89_ok (csG_ok hc hd) hx h hr
  · cases hf
theorem R7_ok {n : Int} (hc : c ≤ 2) (hd : d ≤ 2) (h0 : gTab oC 30 t0) (h1 : gTab cC 30 t1) (h2 : gTab oC 30 t2) (ec : (anD3 n).tmod 3 = c) (ed : (anD3 (shD2 n)).tmod 3 = d) : (T7 c d).Ok (ETab (tbG c d t0 t1 t2) (numG n)) Tryz.prog ∧ CodeOk (ETab (tbG c d t0 t1 t2) (numG n)) Tryz.prog (R7 c d) :=
  ⟨T7_ok ec ed, (rn_ok (T7_ok ec ed) (adraw_ok (T7_ok ec ed)) (T7_sp hc hd h0 h1 h2) 1000).1⟩
end
end
end Go.Proofs.YthcalfeoejdcgaaGreatDoor
