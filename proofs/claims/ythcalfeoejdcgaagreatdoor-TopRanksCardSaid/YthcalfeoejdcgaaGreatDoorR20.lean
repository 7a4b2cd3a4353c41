/- TopRanks: what the tables of its queries are; names and columns. Plain; TopRanks: the calls by contract, in the run's books; TopRanks: the temps behind Filled. -/
import Derived.KernelRfl
import Derived.Test.YthcalfeoejdcgaaGreatDoorR09
import Derived.Test.YthcalfeoejdcgaaGreatDoorM15
import Derived.Test.YthcalfeoejdcgaaGreatDoorR19
import Derived.Test.YthcalfeoejdcgaaGreatDoorM16
namespace Go.Proofs.YthcalfeoejdcgaaGreatDoor
section
open Go.RowKit Go.RowKit Go.BigFrame
set_option linter.unusedSimpArgs false
set_option linter.unusedVariables false

theorem tab_at : ∀ (l : List UInt8) (j : Nat) (h : j < (⟨⟨l⟩⟩ : ByteArray).size), (⟨⟨l⟩⟩ : ByteArray)[j]'h = l.getD j 0 := fun l j h => by
  have h2 : j < l.length := h
  rw [List.getD_eq_getElem?_getD, List.getElem?_eq_getElem h2]
  rfl
def nameK (l : List UInt8) : Bool := decide (0 < l.length) && (decide (l.length ≤ 24) && (List.range l.length).all fun j => okB j (l.getD j 0).toNat)
theorem nameK_ok {x : ByteArray} (h : nameK x.data.toList = true) : nameV x = true := by
  obtain ⟨⟨l⟩⟩ := x
  unfold nameK at h
  simp only [Bool.and_eq_true, decide_eq_true_eq, List.all_eq_true, List.mem_range] at h
  obtain ⟨h1, h2, h3⟩ := h
  refine nameV_of ⟨h1, h2⟩ fun j hj _ => ?_
  rw [tab_at l j hj]
  exact h3 j hj
theorem name_known : ∀ x ∈ knownN, nameV x = true := fun x hx => nameK_ok (List.all_eq_true.1 (show (knownN.all fun x => nameK x.data.toList) = true by kernel_rfl) x hx)
theorem known_any {x : ByteArray} (h : (knownN.any fun y => eqF (.string y) (.string x)) = true) : x ∈ knownN := by
  obtain ⟨y, hy, e⟩ := List.any_eq_true.1 h
  have := eqF_ok e
  cases this
  exact hy
theorem okCols_of {cs : List Col} (h1 : 1 ≤ cs.length) (h2 : cs.length ≤ 12) (h3 : (cs.all fun co => (knownN.any fun y => eqF (.string y) (.string co.nm)) && (decide (1 ≤ co.k) && decide (co.k ≤ 4))) = true) (h4 : ((List.range cs.length).all fun j => decide (idxC cs (cs.getD j ⟨⟨#[]⟩, 0, false⟩).nm = (j : Int))) = true) : okCols cs := by
  refine ⟨h1, h2, fun j co hj => ?_⟩
  have hm := List.all_eq_true.1 h3 co (List.mem_of_getElem? hj)
  simp only [Bool.and_eq_true, decide_eq_true_eq] at hm
  have hi := List.all_eq_true.1 h4 j (List.mem_range.2 (List.getElem?_eq_some_iff.1 hj).1)
  rw [List.getD_eq_getElem?_getD, hj, decide_eq_true_eq] at hi
  exact ⟨name_known _ (known_any hm.1), hm.2.1, hm.2.2, hi⟩
theorem okCols_w : okCols colsW := okCols_of (by decide) (by decide) (by kernel_rfl) (by kernel_rfl)
theorem cases3 {P : Nat → Prop} {c : Nat} (hc : c ≤ 2) (h0 : P 0) (h1 : P 1) (h2 : P 2) : P c := by
  have e : c = 0 ∨ c = 1 ∨ c = 2 := by omega
  rcases e with rfl | rfl | rfl <;> assumption
theorem csR_ok {c : Nat} (hc : c ≤ 2) : ∀ cs ∈ csR c, okCols cs := fun cs h => by
  unfold csR at h
  simp only [List.mem_cons, List.not_mem_nil, or_false] at h
  rcases h with rfl | rfl | rfl | rfl | rfl
  · exact okCols_o
  · exact okCols_c
  · exact okCols_w
  · exact cases3 (P := fun c => okCols (kcR c ++ [⟨sA, 2, true⟩, ⟨sB, 2, true⟩, ⟨sD, 2, false⟩])) hc (okCols_of (by decide) (by decide) (by kernel_rfl) (by kernel_rfl)) (okCols_of (by decide) (by decide) (by kernel_rfl) (by kernel_rfl)) (okCols_of (by decide) (by decide) (by kernel_rfl) (by kernel_rfl))
  · exact cases3 (P := fun c => okCols (kcR c ++ [⟨sA, 2, false⟩])) hc (okCols_of (by decide) (by decide) (by kernel_rfl) (by kernel_rfl)) (okCols_of (by decide) (by decide) (by kernel_rfl) (by kernel_rfl)) (okCols_of (by decide) (by decide) (by kernel_rfl) (by kernel_rfl))
/-- names of columns, each once: by computing -/
def okNamesB (cs : List Col) (ns : List ByteArray) : Bool := (List.range ns.length).all fun j => decide (0 ≤ idxC cs (ns.getD j ⟨#[]⟩)) && !hasS (ns.take j) (ns.getD j ⟨#[]⟩)
theorem okNames_of {cs : List Col} {ns : List ByteArray} (h : okNamesB cs ns = true) : okNames cs ns := fun j s hj => by
  have := List.all_eq_true.1 h j (List.mem_range.2 (List.getElem?_eq_some_iff.1 hj).1)
  rw [List.getD_eq_getElem?_getD, hj] at this
  simp only [Option.getD_some, Bool.and_eq_true, decide_eq_true_eq, Bool.not_eq_true'] at this
  exact this
theorem namesR {c : Nat} (hc : c ≤ 2) : okNames oC (nsR c) ∧ okNames colsW (nsR c) ∧ (nsR c).map (idxC oC) = psR c ∧ (nsR c).map (idxC colsW) = psR c ∧ 0 < (nsR c).length ∧ (nsR c).length ≤ 2 ∧ ∀ i ∈ psR c, 0 ≤ i ∧ i < 4 := by
  refine cases3 (P := fun c => okNames oC (nsR c) ∧ okNames colsW (nsR c) ∧ (nsR c).map (idxC oC) = psR c ∧ (nsR c).map (idxC colsW) = psR c ∧ 0 < (nsR c).length ∧ (nsR c).length ≤ 2 ∧ ∀ i ∈ psR c, 0 ≤ i ∧ i < 4) hc ?_ ?_ ?_ <;>
    exact ⟨okNames_of (by kernel_rfl), okNames_of (by kernel_rfl), by kernel_rfl, by kernel_rfl, by decide, by decide, by decide⟩
/-- the tables by their numbers -/
def tbR (c : Nat) (t0 t1 t2 : Tab) : Nat → Tab := fun k => match k with
  | 0 => t0
  | 1 => t1
  | 2 => t2
  | 3 => winV (psR c) [0] isR t0
  | 4 => groupV (psR c) (aggsV colsW itsM) (winV (psR c) [0] isR t0)
  | 5 => groupV (psR c) (aggsV oC itsN) t0
  | _ => []
section
variable {c : Nat} {t0 t1 t2 : Tab}
theorem len4 (h : gTab oC 30 t0) : ∀ x ∈ t0, x.1.length = 4 := fun x hx => ((gTab_tab (by decide) h).2.2.2.1 x hx).1
theorem tabW (hc : c ≤ 2) (h : gTab oC 30 t0) : okTab (winV (psR c) [0] isR t0) ∧ sumC (winV (psR c) [0] isR t0) ≤ 65536 ∧ (∀ y ∈ winV (psR c) [0] isR t0, okRow colsW y.1) ∧ (winV (psR c) [0] isR t0).length ≤ 4096 := by
  obtain ⟨k1, k2, k3, k4, k5⟩ := gTab_tab (by decide) h
  obtain ⟨_, _, _, _, _, _, hi⟩ := namesR hc
  have hlist : (winV (psR c) [0] isR t0).length ≤ 30 := by
    have h1 := normV_len (listW (psR c) [0] isR t0)
    have h2 := listW_len (psR c) [0] isR t0
    have h3 := expV_len k3
    have : (winV (psR c) [0] isR t0).length ≤ (expV t0).length := by rw [← h2]; exact h1
    omega
  have hm : ∀ y ∈ winV (psR c) [0] isR t0, okRow colsW y.1 ∧ y.2 = 1 := fun y hy => by
    obtain ⟨p, hp, j, hj, rfl⟩ := (winR_mem (m := 4) (len4 h) hi k3 (by omega)).1 hy
    obtain ⟨x, hx, _, e, _⟩ := sorted_row (os := [0]) hp hj
    have hr := k4 x hx
    rw [e] at hr
    have hpl := exp_len_le k3 hp
    have a1 : intV ((j : Int) + 1) = ⟨2, (j : Int) + 1, ⟨#[]⟩⟩ := intV_ok (by omega) (by omega)
    have a2 : intV (p.2.length : Int) = ⟨2, (p.2.length : Int), ⟨#[]⟩⟩ := intV_ok (by omega) (by omega)
    have v1 := valid_int ((j : Int) + 1)
    have v2 := valid_int (p.2.length : Int)
    rw [a1, a2]
    rw [a1] at v1
    rw [a2] at v2
    refine ⟨⟨?_, fun i v co hv hco => ?_⟩, rfl⟩
    · rw [List.length_append, hr.1]; rfl
    · rw [List.getElem?_append] at hv
      split at hv
      · rename_i hlt
        have hlt : i < 4 := by rw [hr.1] at hlt; exact hlt
        refine hr.2 i v co hv ?_
        rw [← hco]
        match i, hlt with
        | 0, _ => rfl
        | 1, _ => rfl
        | 2, _ => rfl
        | 3, _ => rfl
      · rename_i hlt
        have e4 : (rowAt (sortW [0] (rowsP p)) j).length = 4 := hr.1
        rw [e4] at hv hlt
        have hi6 : i < 6 := (List.getElem?_eq_some_iff.1 hco).1
        have : i = 4 ∨ i = 5 := by omega
        rcases this with rfl | rfl
        · cases hv
          cases hco
          exact ⟨v1, .inr ⟨by simp, rfl⟩⟩
        · cases hv
          cases hco
          exact ⟨v2, .inr ⟨by simp, rfl⟩⟩
  refine ⟨⟨⟨by omega, normV_bag _, fun y hy => ?_⟩, fun y hy => ?_⟩, ?_, fun y hy => (hm y hy).1, by omega⟩
  · obtain ⟨h1, h2⟩ := hm y hy
    exact ⟨by rw [h1.1]; decide, by omega, by omega, h1.vOk⟩
  · rw [(hm y hy).2]; omega
  · rw [sumC_ones fun y hy => (hm y hy).2]; omega
theorem okW (hc : c ≤ 2) (h : gTab oC 30 t0) : okWin (psR c) [0] itsW [-1, -1] t0 := by
  obtain ⟨k1, k2, k3, k4, k5⟩ := gTab_tab (by decide) h
  obtain ⟨_, _, e1, _, n0, n2, hi⟩ := namesR hc
  refine ⟨rfl, fun x hx => ?_, by decide, ?_, by decide, k1, by omega, fun x hx => ?_⟩
  · rw [len4 h x hx]; decide
  · rw [← e1, List.length_map]; omega
  · simp only [itsW, List.mem_cons, List.not_mem_nil, or_false] at hx
    rcases hx with rfl | rfl
    · exact .inr rfl
    · exact .inl rfl
theorem okG4 (hc : c ≤ 2) (h : gTab oC 30 t0) : okGrp colsW (nsR c) itsM (winV (psR c) [0] isR t0) := by
  obtain ⟨h1, h2, h3, h4⟩ := tabW hc h
  obtain ⟨_, m2, _, _, n0, n2, _⟩ := namesR hc
  refine ⟨m2, n0, by show (nsR c).length + 3 ≤ 12; omega, h4, h1.2, h2, fun x hx => (h1.1.2.2 x hx).1, fun x hx => (h3 x hx).vOk, fun x hx => ?_, fun x hx e => ?_⟩
  · simp only [itsM, List.mem_cons, List.not_mem_nil, or_false] at hx
    rcases hx with rfl | rfl | rfl
    · exact .inr (.inr (.inr (.inl rfl)))
    · exact .inr (.inr (.inl rfl))
    · exact .inr (.inr (.inr (.inr rfl)))
  · simp only [itsM, List.mem_cons, List.not_mem_nil, or_false] at hx
    rcases hx with rfl | rfl | rfl <;> exact absurd e (by decide)
theorem okG5 (hc : c ≤ 2) (h : gTab oC 30 t0) : okGrp oC (nsR c) itsN t0 := by
  obtain ⟨k1, k2, k3, k4, k5⟩ := gTab_tab (by decide) h
  obtain ⟨m1, _, _, _, n0, n2, _⟩ := namesR hc
  refine ⟨m1, n0, by show (nsR c).length + 1 ≤ 12; omega, by omega, k3, by omega, fun x hx => (k1.1.2.2 x hx).1, fun x hx => (k4 x hx).vOk, fun x hx => ?_, fun x hx e => ?_⟩
  · simp only [itsN, List.mem_cons, List.not_mem_nil, or_false] at hx
    subst hx
    exact .inl rfl
  · simp only [itsN, List.mem_cons, List.not_mem_nil, or_false] at hx
    subst hx
    exact absurd e (by decide)
theorem tbR_ok (hc : c ≤ 2) (h0 : gTab oC 30 t0) (h1 : gTab cC 30 t1) (h2 : gTab oC 30 t2) (k : Nat) : okTab (tbR c t0 t1 t2 k) := by
  have nil : okTab [] := ⟨⟨by simp, ⟨trivial, fun x h => by cases h⟩, fun x h => by cases h⟩, fun x h => by cases h⟩
  obtain ⟨_, _, e1, e2, _⟩ := namesR hc
  match k with
  | 0 => exact (gTab_tab (by decide) h0).1
  | 1 => exact (gTab_tab (by decide) h1).1
  | 2 => exact (gTab_tab (by decide) h2).1
  | 3 => exact (tabW hc h0).1
  | 4 =>
    have := grp_tab (okG4 hc h0)
    rw [e2] at this
    exact this.1
  | 5 =>
    have := grp_tab (okG5 hc h0)
    rw [e1] at this
    exact this.1
  | n + 6 => exact nil
theorem gsR_ok (hc : c ≤ 2) (h0 : gTab oC 30 t0) : ∀ g ∈ gsR c, g.cols.length ≤ 12 ∧ okGrp g.cols g.names g.items (tbR c t0 t1 t2 g.d) ∧ tbR c t0 t1 t2 g.d2 = groupV (g.names.map (idxC g.cols)) (aggsV g.cols g.items) (tbR c t0 t1 t2 g.d) := fun g h => by
  obtain ⟨_, _, e1, e2, _⟩ := namesR hc
  unfold gsR at h
  simp only [List.mem_cons, List.not_mem_nil, or_false] at h
  rcases h with rfl | rfl
  · exact ⟨by show 6 ≤ 12; omega, okG4 hc h0, by show _ = groupV ((nsR c).map (idxC colsW)) _ _; rw [e2]; rfl⟩
  · exact ⟨by show 4 ≤ 12; omega, okG5 hc h0, by show _ = groupV ((nsR c).map (idxC oC)) _ _; rw [e1]; rfl⟩
theorem wsR_ok (hc : c ≤ 2) (h0 : gTab oC 30 t0) : ∀ g ∈ wsR c, okWin g.ps g.os g.items g.args (tbR c t0 t1 t2 g.d) ∧ tbR c t0 t1 t2 g.d2 = winV g.ps g.os (witsV g.items g.args) (tbR c t0 t1 t2 g.d) := fun g h => by
  unfold wsR at h
  simp only [List.mem_cons, List.not_mem_nil, or_false] at h
  subst h
  exact ⟨okW hc h0, rfl⟩
/-- the two tables agree, row by row -/
theorem ranks_tri (hc : c ≤ 2) (h0 : gTab oC 30 t0) : tbR c t0 t1 t2 4 = (tbR c t0 t1 t2 5).map (tri (psR c).length) := by
  obtain ⟨k1, k2, k3, k4, k5⟩ := gTab_tab (by decide) h0
  obtain ⟨_, _, _, _, _, _, hi⟩ := namesR hc
  have e := ranks_eq (os := [0]) (m := 4) (is := psR c) (len4 h0) hi k3 (by omega) (idxC oC (ba []))
  have f1 : aggsV colsW itsM = fun l => [aggV 5 4 l, aggV 4 5 l, aggV 6 4 l] := by
    funext l
    show [aggV 5 (idxC colsW sP) l, aggV 4 (idxC colsW sK) l, aggV 6 (idxC colsW sP) l] = _
    rw [show idxC colsW sP = 4 by kernel_rfl, show idxC colsW sK = 5 by kernel_rfl]
  show groupV (psR c) (aggsV colsW itsM) (winV (psR c) [0] isR t0) = (groupV (psR c) (aggsV oC itsN) t0).map (tri (psR c).length)
  rw [f1]
  exact e
end
end
section
open Go.RowKit Go.RowKit Go.BigFrame
set_option linter.unusedSimpArgs false
set_option linter.unusedVariables false

def wordsL : List ByteArray := [ba [97,110,100], ba [111,114], ba [110,111,116], ba [110,117,108,108], ba [116,114,117,101], ba [102,97,108,115,101], ba [98,121], ba [115,101,108,102]]
theorem wordsL_flat : flat encStr wordsL = wrds := rfl
theorem reservedE (x : ByteArray) (w : World) (ht : Tbs w) : Calls Tryz.prog 234 #[.string x] w fun e w' => e = .returned (.bool (hasS wordsL x)) ∧ w = w' := by
  obtain ⟨b, o, c, h1, h2, h3, h4⟩ := ht.words
  have hr : rStr w (some ⟨b, o, none⟩) 8 wordsL := fl_of_cells rfl fun j u h => h4 j u (by rw [← wordsL_flat]; exact h)
  have H := Lib.hid (contS (some ⟨b, o, none⟩) 8 c wordsL x w hr (by omega))
  clear hr h4
  go_enter Tryz.func234, Tryz.ntmps234
  go_wp2_with fail
  refine H.out.mono ?_
  rintro e w1 ⟨rfl, rfl⟩
  go_wp2
  go_ret
  exact ⟨ret_bool rfl, rfl⟩
section
variable {tb : Nat → Tab} {num : Nat → Int} {D : Nat → Prop} {ρ : Nat → Pl} {s : ASt} {w w' : World}
theorem sp123_ok {E : Ev} {args : List Value} {v : Value} {s' : ASt} (hx : sp123 args s = some (v, s')) {args' : List Value} (h : Sim E D ρ s w) (hr : Rvs E D ρ args args') :
    Calls Tryz.prog 123 ⟨args'⟩ w fun e w' => ∃ v' ρ' D', e = .returned v' ∧ Rv E D' ρ' v v' ∧ Sim E D' ρ' s' w' ∧ Ex D s ρ w D' s' ρ' w' := by
  unfold sp123 at hx
  split at hx
  · rename_i x
    obtain ⟨hk, e⟩ := of_cond hx
    cases e
    obtain ⟨x', m, rfl, h1, h2⟩ := rvs_cons hr
    obtain rfl := rvs_nil h2
    obtain rfl := rv_flat h1 rfl
    refine (nameT x w (name_known _ (known_any hk))).mono ?_
    rintro e w' ⟨rfl, hb⟩
    obtain ⟨r1, r2⟩ := sim_later h hb
    exact ⟨_, _, _, rfl, .flat _ rfl, r1, r2⟩
  · cases hx
theorem not_reserved : ∀ x ∈ knownN, hasS wordsL x = false := fun x hx => by
  have := List.all_eq_true.1 (show (knownN.all fun x => !hasS wordsL x) = true by kernel_rfl) x hx
  simpa using this
theorem sp234_ok {E : Ev} {args : List Value} {v : Value} {s' : ASt} (hx : sp234 args s = some (v, s')) {args' : List Value} (h : Sim E D ρ s w) (hr : Rvs E D ρ args args') :
    Calls Tryz.prog 234 ⟨args'⟩ w fun e w' => ∃ v' ρ' D', e = .returned v' ∧ Rv E D' ρ' v v' ∧ Sim E D' ρ' s' w' ∧ Ex D s ρ w D' s' ρ' w' := by
  unfold sp234 at hx
  split at hx
  · rename_i x
    obtain ⟨hk, e⟩ := of_cond hx
    cases e
    simp only [Bool.and_eq_true] at hk
    obtain ⟨hk, hg⟩ := hk
    obtain ⟨x', m, rfl, h1, h2⟩ := rvs_cons hr
    obtain rfl := rvs_nil h2
    obtain rfl := rv_flat h1 rfl
    have ht := tbs_of_sim h fun b hb => (eqO_ok (List.all_eq_true.1 hg b hb)).1
    refine (reservedE x w ht).mono ?_
    rintro e w' ⟨rfl, rfl⟩
    obtain ⟨r1, r2⟩ := sim_later h (bself w)
    exact ⟨_, _, _, rfl, by rw [not_reserved _ (known_any hk)]; exact .flat _ rfl, r1, r2⟩
  · cases hx
theorem fWin_ok {items ps os ar : Value} {d d2 : Nat} : ∀ {G : List WinA} (_ : fWin s items ps os ar d G = some d2), ∃ g ∈ G, g.d = d ∧ g.d2 = d2 ∧ d < 32 ∧ d2 < 32 ∧ isFlat 5 s items (flat encItm g.items) = true ∧ isFlat 1 s ps (flat encInt g.ps) = true ∧ isFlat 1 s os (flat encInt g.os) = true ∧ isFlat 1 s ar (flat encInt g.args) = true
  | [], h => by cases h
  | g :: l, h => by
    unfold fWin at h
    cases hz : (Nat.beq g.d d && (Nat.ble d 31 && Nat.ble g.d2 31) && (isFlat 5 s items (flat encItm g.items) && (isFlat 1 s ps (flat encInt g.ps) && (isFlat 1 s os (flat encInt g.os) && isFlat 1 s ar (flat encInt g.args)))))
    · rw [hz] at h
      obtain ⟨g', hg, h⟩ := fWin_ok (G := l) h
      exact ⟨g', List.mem_cons_of_mem _ hg, h⟩
    · rw [hz] at h
      have h : some g.d2 = some d2 := h
      cases h
      simp only [Bool.and_eq_true] at hz
      obtain ⟨⟨k1, k2, k3⟩, k4, k5, k6, k7⟩ := hz
      have k2 := Nat.le_of_ble_eq_true k2
      have k3 := Nat.le_of_ble_eq_true k3
      exact ⟨g, List.mem_cons_self .., Nat.eq_of_beq_eq_true k1, rfl, by omega, by omega, k4, k5, k6, k7⟩
theorem sp217_ok {G : List WinA} (hG : ∀ g ∈ G, okWin g.ps g.os g.items g.args (tb g.d) ∧ tb g.d2 = winV g.ps g.os (witsV g.items g.args) (tb g.d)) {args : List Value} {v : Value} {s' : ASt} (hx : sp217 G args s = some (v, s')) {args' : List Value} (h : Sim (ETab tb num) D ρ s w) (hr : Rvs (ETab tb num) D ρ args args') :
    Calls Tryz.prog 217 ⟨args'⟩ w fun e w' => ∃ v' ρ' D', e = .returned v' ∧ Rv (ETab tb num) D' ρ' v v' ∧ Sim (ETab tb num) D' ρ' s' w' ∧ Ex D s ρ w D' s' ρ' w' := by
  unfold sp217 at hx
  split at hx
  · rename_i items ps os ar k
    split at hx
    · rename_i d2 hf
      cases hx
      obtain ⟨g, hg, e1, rfl, l1, l2, f1, f2, f3, f4⟩ := fWin_ok hf
      obtain ⟨a1, m, rfl, g1, h6⟩ := rvs_cons hr
      obtain ⟨a2, m, rfl, g2, h7⟩ := rvs_cons h6
      obtain ⟨a3, m, rfl, g3, h8⟩ := rvs_cons h7
      obtain ⟨a4, m, rfl, g4, h9⟩ := rvs_cons h8
      obtain ⟨a5, m, rfl, g5, h10⟩ := rvs_cons h9
      obtain rfl := rvs_nil h10
      obtain ⟨iA, iN, iC, rfl, hi, hic⟩ := isFlat_ok f1 h g1
      obtain ⟨pA, pN, pC, rfl, hp, hpc⟩ := isFlat_ok f2 h g2
      obtain ⟨oA, oN, oC, rfl, ho, hoc⟩ := isFlat_ok f3 h g3
      obtain ⟨aA, aN, aC, rfl, ha, hac⟩ := isFlat_ok f4 h g4
      obtain ⟨A, n, c, rfl, hc, ht⟩ := rv_tab g5 h (by unfold tDe; exact Nat.ble_eq_true_of_le (by omega))
      obtain ⟨o1, o2⟩ := hG g hg
      rw [← e1] at ht
      refine (applyE iA pA oA aA A iN iC pN pC oN oC aN aC n c g.items g.ps g.os g.args (tb g.d) w hi hp ho ha ht o1).mono ?_
      rw [← o2]
      rintro e w' ⟨A', n', c', rfl, hr', hc', hb⟩
      obtain ⟨r1, r2, r3⟩ := sim_opq h hb (d := g.d2) (by omega) (v := .slice A' n' c') rfl (.inl ⟨by omega, tabAt_of hr' (Nat.le_refl _) hc'⟩)
      exact ⟨_, _, _, rfl, .tuple _ _ (.cons _ _ _ _ r1 (.cons _ _ _ _ (.flat _ rfl) .nil)), r2, r3⟩
    · cases hx
  · cases hx
end
section
variable {c : Nat} {t0 t1 t2 : Tab}
theorem T8_ok {n : Int} {tb : Nat → Tab} (hc : (anD3 n).tmod 3 = c) : (T8 c).Ok (ETab tb (numG n)) Tryz.prog := by
  have k := xT_ok (ETab tb (numG n))
  refine ⟨k.ty, k.fn, k.eqs, k.mixed, k.ex, fun op x y r h t xo yo x' y' w hx hy => ?_, k.hlen⟩
  have h : hintR c op x y = some r := h
  unfold hintR at h
  split at h
  · cases h
    obtain rfl := hv_num (by decide) hx
    obtain rfl := hv_int hy
    exact ⟨_, run_anD3 n t xo yo _ w, hr_num (k := 602) (by omega) (by omega)⟩
  · cases h
    obtain rfl := hv_num (by decide) hx
    obtain rfl := hv_int hy
    refine ⟨_, run_rem3 (anD3 n) (anD3_le n) t xo yo _ w, ?_⟩
    rw [hc]
    exact .inl ⟨rfl, rfl⟩
  · cases h
theorem T8_sp {n : Int} (hc : c ≤ 2) (h0 : gTab oC 30 t0) (h1 : gTab cC 30 t1) (h2 : gTab oC 30 t2) : SpOk (ETab (tbR c t0 t1 t2) (numG n)) Tryz.prog (T8 c) := fun f g hf args s v s' hx D ρ w args' h hr => by
  have ok := tbR_ok hc h0 h1 h2
  have ok2 : ∀ k, k < 32 → (tbR c t0 t1 t2 k).length ≤ 4096 ∧ ∀ x ∈ tbR c t0 t1 t2 k, x.1.length ≤ 12 := fun k _ => ⟨(ok k).1.1, fun x hx => ((ok k).1.2.2 x hx).1⟩
  have hf : cond (Nat.beq f 62) (some (sp62 colsRI)) (cond (Nat.beq f 129) (some sp129) (cond (Nat.beq f 137) (some (sp137 (gsR c))) (cond (Nat.beq f 217) (some (sp217 (wsR c))) (cond (Nat.beq f 13) (some sp13) (cond (Nat.beq f 89) (some (sp89 (csR c))) (cond (Nat.beq f 123) (some sp123) (cond (Nat.beq f 234) (some sp234) none))))))) = some g := hf
  have step : ∀ {m : Nat} {x : List Value → ASt → Option (Value × ASt)} {y : Option (List Value → ASt → Option (Value × ASt))}, cond (Nat.beq f m) (some x) y = some g → (f = m ∧ x = g) ∨ y = some g := fun {m x y} h => by
    cases hz : Nat.beq f m
    · rw [hz] at h; exact .inr h
    · rw [hz] at h; exact .inl ⟨Nat.eq_of_beq_eq_true hz, Option.some.inj h⟩
  rcases step hf with ⟨rfl, rfl⟩ | hf
  · refine sp62_ok (fun k hk => ?_) hx h hr
    match k, hk with
    | 0, _ => exact ⟨okCols_o, ok 0, (gTab_tab (by decide) h0).2.2.2.1⟩
    | 1, _ => exact ⟨okCols_c, ok 1, (gTab_tab (by decide) h1).2.2.2.1⟩
    | 2, _ => exact ⟨okCols_o, ok 2, (gTab_tab (by decide) h2).2.2.2.1⟩
    | 3, _ => exact ⟨okCols_w, ok 3, (tabW hc h0).2.2.1⟩
  rcases step hf with ⟨rfl, rfl⟩ | hf
  · exact sp129_ok ok2 hx h hr
  rcases step hf with ⟨rfl, rfl⟩ | hf
  · exact sp137_ok (gsR_ok hc h0) hx h hr
  rcases step hf with ⟨rfl, rfl⟩ | hf
  · exact sp217_ok (wsR_ok hc h0) hx h hr
  rcases step hf with ⟨rfl, rfl⟩ | hf
  · exact sp13_ok hx h hr
  rcases step hf with ⟨rfl, rfl⟩ | hf
  · exact sp89_ok (csR_ok hc) hx h hr
  rcases step hf with ⟨rfl, rfl⟩ | hf
  · exact sp123_ok hx h hr
  rcases step hf with ⟨rfl, rfl⟩ | hf
  · exact sp234_ok hx h hr
  · cases hf
theorem R8_ok {n : Int} (hc : c ≤ 2) (h0 : gTab oC 30 t0) (h1 : gTab cC 30 t1) (h2 : gTab oC 30 t2) (ec : (anD3 n).tmod 3 = c) : (T8 c).Ok (ETab (tbR c t0 t1 t2) (numG n)) Tryz.prog ∧ CodeOk (ETab (tbR c t0 t1 t2) (numG n)) Tryz.prog (R8 c) :=
  ⟨T8_ok ec, (rn_ok (T8_ok ec) (adraw_ok (T8_ok ec)) (T8_sp hc h0 h1 h2) 1000).1⟩
end
end
section
open Go.RowKit Go.RowKit Go.BigFrame
set_option linter.unusedSimpArgs false
set_option linter.unusedVariables false

set_option maxRecDepth 100000 in
theorem und157 (a b c d e f : Value) : ∀ t : Nat, t ≠ 0 → t ≠ 1 → t ≠ 4 → t ≠ 5 → t ≠ 19 → t ≠ 20 → (#[a, b, undef, undef, c, d, undef, undef, undef, undef, undef, undef, undef, undef, undef, undef, undef, undef, undef, e, f, undef, undef, undef, undef, undef, undef, undef, undef, undef, undef, undef, undef, undef, undef, undef, undef, undef, undef, undef, undef, undef, undef, undef, undef, undef, undef, undef, undef, undef, undef, undef, undef, undef, undef, undef, undef, undef, undef, undef, undef, undef, undef, undef, undef, undef, undef, undef, undef, undef, undef, undef, undef, undef, undef, undef, undef, undef, undef, undef, undef, undef, undef, undef, undef, undef, undef, undef, undef, undef, undef, undef, undef, undef, undef, undef, undef, undef, undef, undef, undef, undef, undef, undef, undef, undef, undef, undef, undef, undef, undef, undef, undef, undef, undef, undef, undef, undef, undef, undef, undef, undef, undef, undef, undef, undef, undef, undef, undef, undef, undef, undef, undef, undef, undef, undef, undef, undef, undef, undef, undef, undef, undef, undef, undef, undef, undef, undef, undef, undef, undef, undef, undef, undef, undef, undef, undef] : Array Value).getD t undef = undef
  | 0, h, _, _, _, _, _ => absurd rfl h
  | 1, _, h, _, _, _, _ => absurd rfl h
  | 2, _, _, _, _, _, _ => rfl
  | 3, _, _, _, _, _, _ => rfl
  | 4, _, _, h, _, _, _ => absurd rfl h
  | 5, _, _, _, h, _, _ => absurd rfl h
  | 6, _, _, _, _, _, _ => rfl
  | 7, _, _, _, _, _, _ => rfl
  | 8, _, _, _, _, _, _ => rfl
  | 9, _, _, _, _, _, _ => rfl
  | 10, _, _, _, _, _, _ => rfl
  | 11, _, _, _, _, _, _ => rfl
  | 12, _, _, _, _, _, _ => rfl
  | 13, _, _, _, _, _, _ => rfl
  | 14, _, _, _, _, _, _ => rfl
  | 15, _, _, _, _, _, _ => rfl
  | 16, _, _, _, _, _, _ => rfl
  | 17, _, _, _, _, _, _ => rfl
  | 18, _, _, _, _, _, _ => rfl
  | 19, _, _, _, _, h, _ => absurd rfl h
  | 20, _, _, _, _, _, h => absurd rfl h
  | 21, _, _, _, _, _, _ => rfl
  | 22, _, _, _, _, _, _ => rfl
  | 23, _, _, _, _, _, _ => rfl
  | 24, _, _, _, _, _, _ => rfl
  | 25, _, _, _, _, _, _ => rfl
  | 26, _, _, _, _, _, _ => rfl
  | 27, _, _, _, _, _, _ => rfl
  | 28, _, _, _, _, _, _ => rfl
  | 29, _, _, _, _, _, _ => rfl
  | 30, _, _, _, _, _, _ => rfl
  | 31, _, _, _, _, _, _ => rfl
  | 32, _, _, _, _, _, _ => rfl
  | 33, _, _, _, _, _, _ => rfl
  | 34, _, _, _, _, _, _ => rfl
  | 35, _, _, _, _, _, _ => rfl
  | 36, _, _, _, _, _, _ => rfl
  | 37, _, _, _, _, _, _ => rfl
  | 38, _, _, _, _, _, _ => rfl
  | 39, _, _, _, _, _, _ => rfl
  | 40, _, _, _, _, _, _ => rfl
  | 41, _, _, _, _, _, _ => rfl
  | 42, _, _, _, _, _, _ => rfl
  | 43, _, _, _, _, _, _ => rfl
  | 44, _, _, _, _, _, _ => rfl
  | 45, _, _, _, _, _, _ => rfl
  | 46, _, _, _, _, _, _ => rfl
  | 47, _, _, _, _, _, _ => rfl
  | 48, _, _, _, _, _, _ => rfl
  | 49, _, _, _, _, _, _ => rfl
  | 50, _, _, _, _, _, _ => rfl
  | 51, _, _, _, _, _, _ => rfl
  | 52, _, _, _, _, _, _ => rfl
  | 53, _, _, _, _, _, _ => rfl
  | 54, _, _, _, _, _, _ => rfl
  | 55, _, _, _, _, _, _ => rfl
  | 56, _, _, _, _, _, _ => rfl
  | 57, _, _, _, _, _, _ => rfl
  | 58, _, _, _, _, _, _ => rfl
  | 59, _, _, _, _, _, _ => rfl
  | 60, _, _, _, _, _, _ => rfl
  | 61, _, _, _, _, _, _ => rfl
  | 62, _, _, _, _, _, _ => rfl
  | 63, _, _, _, _, _, _ => rfl
  | 64, _, _, _, _, _, _ => rfl
  | 65, _, _, _, _, _, _ => rfl
  | 66, _, _, _, _, _, _ => rfl
  | 67, _, _, _, _, _, _ => rfl
  | 68, _, _, _, _, _, _ => rfl
  | 69, _, _, _, _, _, _ => rfl
  | 70, _, _, _, _, _, _ => rfl
  | 71, _, _, _, _, _, _ => rfl
  | 72, _, _, _, _, _, _ => rfl
  | 73, _, _, _, _, _, _ => rfl
  | 74, _, _, _, _, _, _ => rfl
  | 75, _, _, _, _, _, _ => rfl
  | 76, _, _, _, _, _, _ => rfl
  | 77, _, _, _, _, _, _ => rfl
  | 78, _, _, _, _, _, _ => rfl
  | 79, _, _, _, _, _, _ => rfl
  | 80, _, _, _, _, _, _ => rfl
  | 81, _, _, _, _, _, _ => rfl
  | 82, _, _, _, _, _, _ => rfl
  | 83, _, _, _, _, _, _ => rfl
  | 84, _, _, _, _, _, _ => rfl
  | 85, _, _, _, _, _, _ => rfl
  | 86, _, _, _, _, _, _ => rfl
  | 87, _, _, _, _, _, _ => rfl
  | 88, _, _, _, _, _, _ => rfl
  | 89, _, _, _, _, _, _ => rfl
  | 90, _, _, _, _, _, _ => rfl
  | 91, _, _, _, _, _, _ => rfl
  | 92, _, _, _, _, _, _ => rfl
  | 93, _, _, _, _, _, _ => rfl
  | 94, _, _, _, _, _, _ => rfl
  | 95, _, _, _, _, _, _ => rfl
  | 96, _, _, _, _, _, _ => rfl
  | 97, _, _, _, _, _, _ => rfl
  | 98, _, _, _, _, _, _ => rfl
  | 99, _, _, _, _, _, _ => rfl
  | 100, _, _, _, _, _, _ => rfl
  | 101, _, _, _, _, _, _ => rfl
  | 102, _, _, _, _, _, _ => rfl
  | 103, _, _, _, _, _, _ => rfl
  | 104, _, _, _, _, _, _ => rfl
  | 105, _, _, _, _, _, _ => rfl
  | 106, _, _, _, _, _, _ => rfl
  | 107, _, _, _, _, _, _ => rfl
  | 108, _, _, _, _, _, _ => rfl
  | 109, _, _, _, _, _, _ => rfl
  | 110, _, _, _, _, _, _ => rfl
  | 111, _, _, _, _, _, _ => rfl
  | 112, _, _, _, _, _, _ => rfl
  | 113, _, _, _, _, _, _ => rfl
  | 114, _, _, _, _, _, _ => rfl
  | 115, _, _, _, _, _, _ => rfl
  | 116, _, _, _, _, _, _ => rfl
  | 117, _, _, _, _, _, _ => rfl
  | 118, _, _, _, _, _, _ => rfl
  | 119, _, _, _, _, _, _ => rfl
  | 120, _, _, _, _, _, _ => rfl
  | 121, _, _, _, _, _, _ => rfl
  | 122, _, _, _, _, _, _ => rfl
  | 123, _, _, _, _, _, _ => rfl
  | 124, _, _, _, _, _, _ => rfl
  | 125, _, _, _, _, _, _ => rfl
  | 126, _, _, _, _, _, _ => rfl
  | 127, _, _, _, _, _, _ => rfl
  | 128, _, _, _, _, _, _ => rfl
  | 129, _, _, _, _, _, _ => rfl
  | 130, _, _, _, _, _, _ => rfl
  | 131, _, _, _, _, _, _ => rfl
  | 132, _, _, _, _, _, _ => rfl
  | 133, _, _, _, _, _, _ => rfl
  | 134, _, _, _, _, _, _ => rfl
  | 135, _, _, _, _, _, _ => rfl
  | 136, _, _, _, _, _, _ => rfl
  | 137, _, _, _, _, _, _ => rfl
  | 138, _, _, _, _, _, _ => rfl
  | 139, _, _, _, _, _, _ => rfl
  | 140, _, _, _, _, _, _ => rfl
  | 141, _, _, _, _, _, _ => rfl
  | 142, _, _, _, _, _, _ => rfl
  | 143, _, _, _, _, _, _ => rfl
  | 144, _, _, _, _, _, _ => rfl
  | 145, _, _, _, _, _, _ => rfl
  | 146, _, _, _, _, _, _ => rfl
  | 147, _, _, _, _, _, _ => rfl
  | 148, _, _, _, _, _, _ => rfl
  | 149, _, _, _, _, _, _ => rfl
  | 150, _, _, _, _, _, _ => rfl
  | 151, _, _, _, _, _, _ => rfl
  | 152, _, _, _, _, _, _ => rfl
  | 153, _, _, _, _, _, _ => rfl
  | 154, _, _, _, _, _, _ => rfl
  | 155, _, _, _, _, _, _ => rfl
  | 156, _, _, _, _, _, _ => rfl
  | n + 157, _, _, _, _, _, _ => by
    rw [Array.getD_eq_getD_getElem?, Array.getElem?_eq_none (by simp)]
    rfl
theorem tmF8_get (t : Nat) : tmF8.get t = if t = 5 then some (.slice (some ⟨71,0,none⟩) 3 3) else if t = 20 then some (.chan none) else if t = 19 then some (.chan none) else if t = 4 then some (.bool false) else if t = 1 then some (.chan (some 600)) else if t = 0 then some (.chan none) else none := by
  unfold tmF8
  rw [Tr.get_set tBits _ 5 _ (by decide) t, Tr.get_set tBits _ 20 _ (by decide) t, Tr.get_set tBits _ 19 _ (by decide) t, Tr.get_set tBits _ 4 _ (by decide) t, Tr.get_set tBits _ 1 _ (by decide) t, Tr.get_set tBits _ 0 _ (by decide) t, Tr.get_leaf]
set_option maxRecDepth 100000 in
theorem trel8 {E : Ev} {D : Nat → Prop} {ρ : Nat → Pl} {a b c d e f : Value} (h1 : Rv E D ρ (.chan (some 600)) b) (h4 : c = .bool false) (h5 : Rv E D ρ (.slice (some ⟨71,0,none⟩) 3 3) d) (t : Nat) : Rv E D ρ (match tmF8.get t with | some v => v | none => .tuple ⟨[]⟩) ((#[a, b, undef, undef, c, d, undef, undef, undef, undef, undef, undef, undef, undef, undef, undef, undef, undef, undef, e, f, undef, undef, undef, undef, undef, undef, undef, undef, undef, undef, undef, undef, undef, undef, undef, undef, undef, undef, undef, undef, undef, undef, undef, undef, undef, undef, undef, undef, undef, undef, undef, undef, undef, undef, undef, undef, undef, undef, undef, undef, undef, undef, undef, undef, undef, undef, undef, undef, undef, undef, undef, undef, undef, undef, undef, undef, undef, undef, undef, undef, undef, undef, undef, undef, undef, undef, undef, undef, undef, undef, undef, undef, undef, undef, undef, undef, undef, undef, undef, undef, undef, undef, undef, undef, undef, undef, undef, undef, undef, undef, undef, undef, undef, undef, undef, undef, undef, undef, undef, undef, undef, undef, undef, undef, undef, undef, undef, undef, undef, undef, undef, undef, undef, undef, undef, undef, undef, undef, undef, undef, undef, undef, undef, undef, undef, undef, undef, undef, undef, undef, undef, undef, undef, undef, undef, undef] : Array Value).getD t undef) := by
  rw [tmF8_get]
  by_cases q5 : t = 5
  · subst q5; exact h5
  by_cases q20 : t = 20
  · subst q20; exact .poison _
  by_cases q19 : t = 19
  · subst q19; exact .poison _
  by_cases q4 : t = 4
  · subst q4; subst h4; exact .flat _ rfl
  by_cases q1 : t = 1
  · subst q1; exact h1
  by_cases q0 : t = 0
  · subst q0; exact .poison _
  rw [und157 a b c d e f t q0 q1 q4 q5 q19 q20, if_neg q5, if_neg q20, if_neg q19, if_neg q4, if_neg q1, if_neg q0]
  exact .tuple _ _ .nil
def tmv (v : Option Value) : Value := match v with
  | some v => v
  | none => .tuple ⟨[]⟩
/-- a table in a relation of the books, in the world -/
theorem relD_ok {tb : Nat → Tab} {num : Nat → Int} {D : Nat → Prop} {ρ : Nat → Pl} {s : ASt} {w : World} {v : Option Value} {d : Nat} {v' : Value} (hd : d < 32) (h : relD s v d = true) (hs : Sim (ETab tb num) D ρ s w) (hr : Rv (ETab tb num) D ρ (tmv v) v') :
    ∃ b o A n c, v' = .pointer (some ⟨b, o, none⟩) ∧ w.cell? ⟨b, o + 3, none⟩ = some (.slice A n c) ∧ n ≤ c ∧ rTab w A n (tb d) := by
  unfold relD at h
  split at h
  · rename_i i
    split at h
    · rename_i wr e z l hg
      split at h
      · rename_i k hl
        have hk := Nat.eq_of_beq_eq_true h
        have hr : Rv (ETab tb num) D ρ (.pointer (some ⟨i, 0, none⟩)) v' := hr
        cases hr with
        | flat _ h => cases h
        | ptr i o hD =>
          obtain ⟨x, h1, h2⟩ : ∃ x, w.cell? ⟨(ρ i).blk, (ρ i).off + 3, none⟩ = some x ∧ Rv (ETab tb num) D ρ (.chan (some k)) x := by
            cases wr with
            | false => exact (hs.bd i _ hg).2 3 _ hl
            | true =>
              obtain ⟨_, cur, g1, g2, _, _, g5⟩ := hs.bd i _ hg
              obtain ⟨x, hx, hrx⟩ := g5 3 _ hl
              exact ⟨x, by rw [World.cell?, g1, g2, Nat.zero_add]; exact hx, hrx⟩
          obtain ⟨A, n, c, rfl, hc, ht⟩ := rv_tab h2 hs (by unfold tDe; exact Nat.ble_eq_true_of_le (by omega))
          rw [hk] at ht
          exact ⟨_, _, A, n, c, rfl, by rw [show (ρ i).off + 0 + 3 = (ρ i).off + 3 by omega]; exact h1, hc, ht⟩
      · cases h
    · cases h
  · cases h
theorem bool_rv {E : Ev} {D : Nat → Prop} {ρ : Nat → Pl} {v : Option Value} {v' : Value} (h : v = some (.bool true)) (hr : Rv E D ρ (tmv v) v') : v' = .bool true := by
  subst h
  exact rv_flat hr rfl
theorem slc_rv {E : Ev} {D : Nat → Prop} {ρ : Nat → Pl} {v : Option Value} {v' : Value} {a : Addr} {k lb : Nat} (h : v = some (.slice (some a) k lb)) (hk : 0 < k) (hr : Rv E D ρ (tmv v) v') : ∃ A c, v' = .slice A k c := by
  subst h
  have hr : Rv E D ρ (.slice (some a) k lb) v' := hr
  cases hr with
  | flat _ h => cases h
  | slice i o n lb c h h1 h2 h3 h4 => exact ⟨_, c, rfl⟩
  | empty A c => omega
/-- what the run leaves ahead of the last loop, in the world -/
theorem endR_ok {tb : Nat → Tab} {num : Nat → Int} {D : Nat → Prop} {ρ : Nat → Pl} {sz m : Nat} {tm : Tm} {s : ASt} {a : Act} {w : World} (hm : 0 < m) (h : endR m tm s = true) (hst : St (ETab tb num) D ρ sz s tm a w) :
    ∃ A6 c6 b10 o10 b12 o12 A n c B k d, a.tmps.getD 6 undef = .slice A6 m c6 ∧ a.tmps.getD 11 undef = .bool true ∧ a.tmps.getD 13 undef = .bool true ∧ a.tmps.getD 10 undef = .pointer (some ⟨b10, o10, none⟩) ∧ a.tmps.getD 12 undef = .pointer (some ⟨b12, o12, none⟩) ∧
      w.cell? ⟨b10, o10 + 3, none⟩ = some (.slice A n c) ∧ w.cell? ⟨b12, o12 + 3, none⟩ = some (.slice B k d) ∧ rTab w A n (tb 4) ∧ rTab w B k (tb 5) ∧ Tbs w := by
  unfold endR at h
  simp only [Bool.and_eq_true] at h
  obtain ⟨⟨⟨⟨h1, h2⟩, h3⟩, h4⟩, h5⟩ := h
  obtain ⟨b10, o10, A, n, c, e10, c10, _, t10⟩ := relD_ok (by omega) h3 hst.sim (hst.tr 10)
  obtain ⟨b12, o12, B, k, d, e12, c12, _, t12⟩ := relD_ok (by omega) h4 hst.sim (hst.tr 12)
  have ht := tbs_of_sim hst.sim fun b hb => (eqO_ok (List.all_eq_true.1 h5 b hb)).1
  have e6 : ∃ A6 c6, a.tmps.getD 6 undef = .slice A6 m c6 := by
    split at h1
    · rename_i ad k lb hv
      obtain rfl := Nat.eq_of_beq_eq_true h1
      exact slc_rv hv hm (hst.tr 6)
    · cases h1
  obtain ⟨A6, c6, e6⟩ := e6
  have e11 : a.tmps.getD 11 undef = .bool true ∧ a.tmps.getD 13 undef = .bool true := by
    split at h2
    · rename_i hv1 hv2
      exact ⟨bool_rv hv1 (hst.tr 11), bool_rv hv2 (hst.tr 13)⟩
    · cases h2
  exact ⟨A6, c6, b10, o10, b12, o12, A, n, c, B, k, d, e6, e11.1, e11.2, e10, e12, c10, c12, t10, t12, ht⟩
end
end Go.Proofs.YthcalfeoejdcgaaGreatDoor
