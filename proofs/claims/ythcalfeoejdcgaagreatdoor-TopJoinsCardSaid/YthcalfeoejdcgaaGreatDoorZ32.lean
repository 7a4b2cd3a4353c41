/- TopJoins: what the tables of its queries are. Plain. -/
import Derived.Test.YthcalfeoejdcgaaGreatDoorZ19
import Derived.Test.YthcalfeoejdcgaaGreatDoorZ21
import Derived.Test.YthcalfeoejdcgaaGreatDoorZ29
import Derived.Test.YthcalfeoejdcgaaGreatDoorZ30
import Derived.Test.YthcalfeoejdcgaaGreatDoorZ31
import Derived.KernelRfl
namespace Go.Proofs.YthcalfeoejdcgaaGreatDoor
open Go.RowKit Go.RowKit Go.BigFrame
set_option linter.unusedSimpArgs false
set_option linter.unusedVariables false

theorem gTab.mono {cs : List Col} {N M : Int} {t : Tab} (h : gTab cs N t) (hm : N ≤ M) : gTab cs M t := ⟨h.1, h.2.1, Int.le_trans h.2.2.1 hm, h.2.2.2⟩
/-- a bag of rows that fit -/
theorem tab_norm {l : Tab} (h : ∀ y ∈ l, 0 < y.2 ∧ y.1.length ≤ 12 ∧ vOk y.1) (hs : sumC l ≤ 4095) : okTab (normV l) ∧ sumC (normV l) = sumC l := by
  have hp : ∀ y ∈ l, 0 < y.2 := fun y hy => (h y hy).1
  have hp2 := norm_pos hp
  have hsum := sumC_norm l
  refine ⟨⟨⟨?_, normV_bag l, fun y hy => ?_⟩, hp2⟩, hsum⟩
  · have h1 := normV_len l
    have h2 := len_sum hp
    omega
  · obtain ⟨z, hz, e⟩ := normV_mem hy
    have h1 := hp2 y hy
    have h2 := le_sum hp2 hy
    obtain ⟨_, k2, k3⟩ := h z hz
    rw [e] at k2 k3
    exact ⟨k2, by omega, by omega, k3⟩
theorem lnk_sum {ns os ps : List Int} {u : Tab} (hu : ∀ x ∈ u, 0 < x.2) (r : List Val) : sumC (lnkV ns os ps u r) ≤ sumC u := by
  unfold lnkV
  split
  · exact sumC_nn hu
  · exact (matV_ok hu).2.2.1
theorem lin_sum {left : Bool} {ns os ps : List Int} {u : Tab} (hu : ∀ x ∈ u, 0 < x.2) (r : List Val) : 0 ≤ sumC (linV left ps.length (lnkV ns os ps u r)) ∧ sumC (linV left ps.length (lnkV ns os ps u r)) ≤ sumC u + 1 := by
  have h := lnk_sum (ns := ns) (os := os) (ps := ps) hu r
  have h0 := sumC_nn hu
  have hp : ∀ y ∈ lnkV ns os ps u r, 0 < y.2 := fun y hy => by
    unfold lnkV at hy
    split at hy
    · cases hy
    · exact ((matV_ok hu).2.1 y hy).1
  cases hl : lnkV ns os ps u r with
  | nil =>
    cases left with
    | false =>
      show 0 ≤ sumC [] ∧ sumC [] ≤ sumC u + 1
      simp [sumC]; omega
    | true =>
      show 0 ≤ sumC [(List.replicate ps.length zV, (1 : Int))] ∧ sumC [(List.replicate ps.length zV, (1 : Int))] ≤ sumC u + 1
      simp [sumC]; omega
  | cons y l =>
    rw [hl] at h hp
    show 0 ≤ sumC (y :: l) ∧ sumC (y :: l) ≤ sumC u + 1
    exact ⟨sumC_nn hp, by omega⟩
theorem scale_sum (r : List Val) (n : Int) : ∀ l : Tab, sumC (l.map fun y => (r ++ y.1, n * y.2)) = n * sumC l
  | [] => by simp [sumC]
  | y :: l => by rw [List.map_cons, sumC, sumC, scale_sum r n l, Int.mul_add]
theorem joi_sum {left : Bool} {ns os ps : List Int} {u : Tab} (hu : ∀ x ∈ u, 0 < x.2) : ∀ {t : Tab} (_ : ∀ x ∈ t, 0 < x.2), sumC (joiL left ns os ps t u) ≤ sumC t * (sumC u + 1)
  | [], _ => by simp [joiL, sumC]
  | x :: t, ht => by
    have ih := joi_sum hu (left := left) (ns := ns) (os := os) (ps := ps) (t := t) fun y hy => ht y (List.mem_cons_of_mem _ hy)
    have hx := ht x (List.mem_cons_self ..)
    obtain ⟨h1, h2⟩ := lin_sum (left := left) (ns := ns) (os := os) (ps := ps) hu x.1
    unfold joiL at ih ⊢
    rw [List.flatMap_cons, sumC_append, sumC, Int.add_mul]
    unfold joiX
    rw [scale_sum]
    have := Int.mul_le_mul_of_nonneg_left h2 (Int.le_of_lt hx)
    unfold joiX at ih
    omega
section
variable {ns os ps : List Int} {t u : Tab}
/-- the joined rows are a table -/
theorem joi_tab (left : Bool) (ht : okTab t) (hs : sumC t ≤ 24) (hu : okTab u) (hsu : sumC u ≤ 24) (hw : ∀ x ∈ t, x.1.length + ps.length ≤ 12) : okTab (joiV left ns os ps t u) ∧ sumC (joiV left ns os ps t u) ≤ 600 ∧ sumC (joiL left ns os ps t u) ≤ 600 := by
  have h1 := joi_sum (left := left) (ns := ns) (os := os) (ps := ps) hu.2 ht.2
  have h2 : sumC t * (sumC u + 1) ≤ 24 * 25 := by
    have a := sumC_nn ht.2
    have b := sumC_nn hu.2
    exact Int.le_trans (Int.mul_le_mul_of_nonneg_right hs (by omega)) (Int.mul_le_mul_of_nonneg_left (by omega) (by omega))
  have h3 := joi_ok (left := left) (ns := ns) (os := os) (ps := ps) (t := t) (u := u) (m := 12) (fun x hx => ⟨ht.2 x hx, (ht.1.2.2 x hx).2.2.2, hw x hx⟩) hu.2 (fun x hx => (hu.1.2.2 x hx).2.2.2)
  obtain ⟨k1, k2⟩ := tab_norm h3 (by omega)
  exact ⟨k1, by show sumC (normV (joiL left ns os ps t u)) ≤ 600; rw [k2]; omega, by omega⟩
end
theorem prj_tab {is : List Int} {t : Tab} (ht : okTab t) (hs : sumC t ≤ 24) (hi : is.length ≤ 12) : okTab (prjV is t) ∧ sumC (prjV is t) ≤ 24 := by
  have e := prjL_sum is t
  unfold prjL at e
  obtain ⟨k1, k2⟩ := tab_norm (l := t.map fun x => (pkV is x.1, x.2)) (fun y hy => by
    obtain ⟨x, hx, rfl⟩ := List.mem_map.1 hy
    exact ⟨ht.2 x hx, by show (pkV is x.1).length ≤ 12; rw [pkV_len]; exact hi, valid_pk (ht.1.2.2 x hx).2.2.2 is⟩) (by rw [e]; omega)
  exact ⟨k1, by unfold prjV; rw [k2, e]; exact hs⟩
theorem dis_mem {a : Tab} {y : List Val × Int} (h : y ∈ disV a) : y.2 = 1 ∧ ∃ x ∈ a, x.1 = y.1 := by
  unfold disV at h
  obtain ⟨x, hx, rfl⟩ := List.mem_map.1 h
  exact ⟨rfl, x, (List.mem_filter.1 hx).1, rfl⟩
theorem dis_bag {a : Tab} (h : Bag a) : Bag (disV a) := by
  refine ⟨asc_pw.2 ?_, fun x hx => by rw [(dis_mem hx).1]; decide⟩
  unfold disV
  rw [List.pairwise_map]
  exact (asc_pw.1 h.1).filter _
theorem dis_tab {a : Tab} (h : okTab a) : okTab (disV a) ∧ sumC (disV a) ≤ sumC a := by
  have hl := disV_len a
  refine ⟨⟨⟨Nat.le_trans hl h.1.1, dis_bag h.1.2.1, fun y hy => ?_⟩, fun y hy => by rw [(dis_mem hy).1]; decide⟩, ?_⟩
  · obtain ⟨e, x, hx, e2⟩ := dis_mem hy
    obtain ⟨k1, _, _, k4⟩ := h.1.2.2 x hx
    rw [e2] at k1 k4
    exact ⟨k1, by omega, by omega, k4⟩
  · rw [sumC_ones fun y hy => (dis_mem hy).1]
    have := len_sum h.2
    omega
theorem fil_tab {a : Tab} (h : okTab a) (p : List Val × Int → Bool) : okTab (a.filter p) ∧ sumC (a.filter p) ≤ sumC a := by
  refine ⟨⟨⟨Nat.le_trans (List.length_filter_le _ _) h.1.1, h.1.2.1.filter _, fun y hy => h.1.2.2 y (List.mem_filter.1 hy).1⟩, fun y hy => h.2 y (List.mem_filter.1 hy).1⟩, sumC_filter h.2 p⟩
theorem pad_sum (m : Nat) : ∀ a : Tab, sumC (padV m a) = sumC a
  | [] => rfl
  | x :: a => by
    have ih := pad_sum m a
    unfold padV at ih ⊢
    rw [List.map_cons, sumC, sumC, ih]
theorem pad_tab {a : Tab} {n m : Nat} (h : okTab a) (hl : ∀ x ∈ a, x.1.length = n) (hm : n + m ≤ 12) : okTab (padV m a) := by
  refine ⟨⟨by unfold padV; rw [List.length_map]; exact h.1.1, pad_bag m h.1.2.1 hl, fun y hy => ?_⟩, fun y hy => ?_⟩
  · obtain ⟨x, hx, rfl⟩ := List.mem_map.1 hy
    obtain ⟨_, k2, k3, k4⟩ := h.1.2.2 x hx
    refine ⟨?_, k2, k3, fun v hv => ?_⟩
    · show (x.1 ++ _).length ≤ 12
      rw [List.length_append, hl x hx, List.length_replicate]; exact hm
    · rcases List.mem_append.1 (show v ∈ x.1 ++ _ from hv) with hv | hv
      · exact k4 v hv
      · rw [(List.mem_replicate.1 hv).2]; exact valid_zV
  · obtain ⟨x, hx, rfl⟩ := List.mem_map.1 hy
    exact h.2 x hx
/-- the tables by their numbers -/
def tbJ (c : Nat) (t0 t1 t2 : Tab) : Nat → Tab := fun k => match k with
  | 0 => t0
  | 1 => t1
  | 2 => t2
  | 3 => prjV [oiJ c] t1
  | 4 => disV (prjV [oiJ c] t1)
  | 5 => semV true [niJ c] [oiJ c] t0 t1
  | 6 => joiV false [niJ c] [0] [] t0 (disV (prjV [oiJ c] t1))
  | 7 => semV false [niJ c] [oiJ c] t0 t1
  | 8 => excV t0 (semV true [niJ c] [oiJ c] t0 t1)
  | 9 => joiV true [niJ c] [oiJ c] [2] t0 t1
  | 10 => joiV false [niJ c] [oiJ c] [2] t0 t1
  | _ => []
theorem namesJ {c : Nat} (hc : c ≤ 2) : okNames oC (nsJ c) ∧ okNames cC (osJ c) ∧ okNames (keyJ c) (osJ c) ∧ (nsJ c).map (idxC oC) = [niJ c] ∧ (osJ c).map (idxC cC) = [oiJ c] ∧ (osJ c).map (idxC (keyJ c)) = [0] ∧ (nsJ c).length = 1 ∧ (osJ c).length = 1 := by
  refine cases3 (P := fun c => okNames oC (nsJ c) ∧ okNames cC (osJ c) ∧ okNames (keyJ c) (osJ c) ∧ (nsJ c).map (idxC oC) = [niJ c] ∧ (osJ c).map (idxC cC) = [oiJ c] ∧ (osJ c).map (idxC (keyJ c)) = [0] ∧ (nsJ c).length = 1 ∧ (osJ c).length = 1) hc ?_ ?_ ?_ <;>
    exact ⟨okNames_of (by kernel_rfl), okNames_of (by kernel_rfl), okNames_of (by kernel_rfl), by kernel_rfl, by kernel_rfl, by kernel_rfl, rfl, rfl⟩
theorem itsJ_idx : itsJ.map (fun x => idxC cC x.co) = [2] := by kernel_rfl
theorem csJ_ok {c : Nat} (hc : c ≤ 2) : ∀ cs ∈ csJ c, okCols cs := fun cs h => by
  unfold csJ at h
  simp only [List.mem_cons, List.not_mem_nil, or_false] at h
  rcases h with rfl | rfl | rfl | rfl
  · exact okCols_o
  · exact okCols_c
  · exact cases3 (P := fun c => okCols (keyJ c)) hc (okCols_of (by decide) (by decide) (by kernel_rfl) (by kernel_rfl)) (okCols_of (by decide) (by decide) (by kernel_rfl) (by kernel_rfl)) (okCols_of (by decide) (by decide) (by kernel_rfl) (by kernel_rfl))
  · exact okCols_of (by decide) (by decide) (by kernel_rfl) (by kernel_rfl)
section
variable {c : Nat} {t0 t1 t2 : Tab}
structure TJ (t0 t1 t2 : Tab) : Prop where
  o0 : okTab t0
  o1 : okTab t1
  o2 : okTab t2
  s0 : sumC t0 ≤ 24
  s1 : sumC t1 ≤ 24
  r0 : ∀ x ∈ t0, okRow oC x.1
  r1 : ∀ x ∈ t1, okRow cC x.1
  r2 : ∀ x ∈ t2, okRow oC x.1
theorem tj_of (h0 : gTab oC 24 t0) (h1 : gTab cC 24 t1) (h2 : gTab oC 24 t2) : TJ t0 t1 t2 := by
  have a := gTab_tab (by decide) (h0.mono (show (24 : Int) ≤ 30 by omega))
  have b := gTab_tab (by decide) (h1.mono (show (24 : Int) ≤ 30 by omega))
  have d := gTab_tab (by decide) (h2.mono (show (24 : Int) ≤ 30 by omega))
  exact ⟨a.1, b.1, d.1, h0.2.2.1, h1.2.2.1, a.2.2.2.1, b.2.2.2.1, d.2.2.2.1⟩
theorem TJ.l0 (h : TJ t0 t1 t2) : ∀ x ∈ t0, x.1.length = 4 := fun x hx => (h.r0 x hx).1
theorem TJ.key (h : TJ t0 t1 t2) (c : Nat) : okTab (disV (prjV [oiJ c] t1)) ∧ sumC (disV (prjV [oiJ c] t1)) ≤ 24 := by
  obtain ⟨h1, h2⟩ := prj_tab (is := [oiJ c]) h.o1 h.s1 (by simp)
  obtain ⟨h3, h4⟩ := dis_tab h1
  exact ⟨h3, Int.le_trans h4 h2⟩
theorem TJ.krow (h : TJ t0 t1 t2) (hc : c ≤ 2) {y : List Val × Int} (hy : y ∈ prjV [oiJ c] t1) : okRow (keyJ c) y.1 := by
  obtain ⟨z, hz, e⟩ := normV_mem hy
  obtain ⟨x, hx, rfl⟩ := List.mem_map.1 hz
  rw [← e]
  show okRow (keyJ c) [cel x.1 (oiJ c)]
  have up : ∀ (j : Nat) (co co' : Col), cC[j]? = some co → co.k = co'.k → co.nl = co'.nl → okRow [co'] [cel x.1 (j : Int)] := fun j co co' h1 h2 h3 => by
    obtain ⟨k1, k2⟩ := cel_row (h.r1 x hx) h1
    refine ⟨rfl, fun i v co2 hv hc2 => ?_⟩
    have hi : i < 1 := by have := (List.getElem?_eq_some_iff.1 hv).1; exact this
    obtain rfl : i = 0 := by omega
    cases hv
    cases hc2
    rw [← h2, ← h3]
    exact ⟨k1, k2⟩
  exact cases3 (P := fun c => okRow (keyJ c) [cel x.1 (oiJ c)]) hc (up 0 ⟨sC, 3, false⟩ ⟨sC, 3, false⟩ rfl rfl rfl) (up 1 ⟨sAt, 4, false⟩ ⟨sAt, 4, false⟩ rfl rfl rfl) (up 3 ⟨sK, 2, false⟩ ⟨sK, 2, false⟩ rfl rfl rfl)
theorem TJ.joi (h : TJ t0 t1 t2) (left : Bool) (ns os : List Int) : okTab (joiV left ns os [2] t0 t1) ∧ sumC (joiV left ns os [2] t0 t1) ≤ 600 ∧ sumC (joiL left ns os [2] t0 t1) ≤ 600 :=
  joi_tab left h.o0 h.s0 h.o1 h.s1 fun x hx => by rw [h.l0 x hx]; decide
theorem TJ.joi2 (h : TJ t0 t1 t2) (c : Nat) (ns os : List Int) : okTab (joiV false ns os [] t0 (disV (prjV [oiJ c] t1))) ∧ sumC (joiV false ns os [] t0 (disV (prjV [oiJ c] t1))) ≤ 600 ∧ sumC (joiL false ns os [] t0 (disV (prjV [oiJ c] t1))) ≤ 600 :=
  joi_tab false h.o0 h.s0 (h.key c).1 (h.key c).2 fun x hx => by rw [h.l0 x hx]; decide
theorem TJ.same (h : TJ t0 t1 t2) (c : Nat) : tbJ c t0 t1 t2 5 = tbJ c t0 t1 t2 6 ∧ tbJ c t0 t1 t2 7 = tbJ c t0 t1 t2 8 :=
  ⟨(semi_join h.o0.1.2.1 h.o1.2).symm, (anti_rest h.o0.1.2.1 h.o0.2).symm⟩
theorem TJ.left (h : TJ t0 t1 t2) (c : Nat) : tbJ c t0 t1 t2 9 = addV (tbJ c t0 t1 t2 10) (padV 1 (tbJ c t0 t1 t2 7)) := left_join [2]
theorem TJ.ok (h : TJ t0 t1 t2) (k : Nat) : okTab (tbJ c t0 t1 t2 k) := by
  have nil : okTab [] := ⟨⟨by simp, ⟨trivial, fun x h => by cases h⟩, fun x h => by cases h⟩, fun x h => by cases h⟩
  match k with
  | 0 => exact h.o0
  | 1 => exact h.o1
  | 2 => exact h.o2
  | 3 => exact (prj_tab h.o1 h.s1 (by simp)).1
  | 4 => exact (h.key c).1
  | 5 => exact (fil_tab h.o0 _).1
  | 6 => exact (h.joi2 c _ _).1
  | 7 => exact (fil_tab h.o0 _).1
  | 8 => rw [← (h.same c).2]; exact (fil_tab h.o0 _).1
  | 9 => exact (h.joi true _ _).1
  | 10 => exact (h.joi false _ _).1
  | n + 11 => exact nil
theorem TJ.mat (h : TJ t0 t1 t2) (hc : c ≤ 2) (ps : List Int) (hp : ps.length ≤ 12) : okMat cC (osJ c) ps t1 :=
  ⟨(namesJ hc).2.1, by rw [(namesJ hc).2.2.2.2.2.2.2]; decide, hp, h.o1.1.1, h.o1.2, Int.le_trans h.s1 (by omega), fun x hx => (h.o1.1.2.2 x hx).1, fun x hx => (h.o1.1.2.2 x hx).2.2.2⟩
theorem TJ.jn (h : TJ t0 t1 t2) (hc : c ≤ 2) (ps : List Int) (hp : ps.length ≤ 12) : okJn oC cC (nsJ c) (osJ c) ps t0 t1 :=
  ⟨(namesJ hc).1, by rw [(namesJ hc).2.2.2.2.2.2.1, (namesJ hc).2.2.2.2.2.2.2], h.o0, h.mat hc ps hp⟩
theorem TJ.okJ (h : TJ t0 t1 t2) (hc : c ≤ 2) (left : Bool) : okJo left oC cC (nsJ c) (osJ c) itsJ t0 t1 := by
  refine ⟨?_, fun x hx => by rw [h.l0 x hx]; decide, ?_⟩
  · rw [itsJ_idx]; exact h.jn hc _ (by decide)
  · rw [itsJ_idx]; exact Int.le_trans (h.joi left _ _).2.2 (by omega)
theorem TJ.okJ2 (h : TJ t0 t1 t2) (hc : c ≤ 2) : okJo false oC (keyJ c) (nsJ c) (osJ c) [] t0 (disV (prjV [oiJ c] t1)) := by
  obtain ⟨k1, k2⟩ := h.key c
  refine ⟨⟨(namesJ hc).1, by rw [(namesJ hc).2.2.2.2.2.2.1, (namesJ hc).2.2.2.2.2.2.2], h.o0, ⟨(namesJ hc).2.2.1, by rw [(namesJ hc).2.2.2.2.2.2.2]; decide, by simp, k1.1.1, k1.2, Int.le_trans k2 (by omega), fun x hx => (k1.1.2.2 x hx).1, fun x hx => (k1.1.2.2 x hx).2.2.2⟩⟩, fun x hx => by rw [h.l0 x hx]; decide, ?_⟩
  exact Int.le_trans (h.joi2 c _ _).2.2 (by omega)
end
end Go.Proofs.YthcalfeoejdcgaaGreatDoor
