/- Joins. Plain. -/
import Derived.Test.YthcalfeoejdcgaaGreatDoorZ20
namespace Go.Proofs.YthcalfeoejdcgaaGreatDoor
open Go.RowKit
set_option linter.unusedSimpArgs false
set_option linter.unusedVariables false

/-- has a row a null? -/
def nulV (r : List Val) : Bool := r.any fun v => cmpV v zV == 0
/-- a row more, to the first entry with that row -/
def addC (r : List Val) (n : Int) : Tab → Tab
  | [] => [(r, n)]
  | x :: l => if cmpR x.1 r = 0 then (x.1, x.2 + n) :: l else x :: addC r n l
/-- the rows for a key -/
def matS (os ps : List Int) (k : List Val) (l : Tab) (x : List Val × Int) : Tab := if cmpR (pkV os x.1) k = 0 then addC (pkV ps x.1) x.2 l else l
def matV (os ps : List Int) (k : List Val) (u : Tab) : Tab := u.foldl (matS os ps k) []
theorem matV_snoc (os ps : List Int) (k : List Val) (u : Tab) (x : List Val × Int) : matV os ps k (u ++ [x]) = matS os ps k (matV os ps k u) x := by unfold matV; rw [List.foldl_append]; rfl
theorem addC_ne (r : List Val) (n : Int) (l : Tab) : addC r n l ≠ [] := by
  cases l with
  | nil => simp [addC]
  | cons x l => unfold addC; split <;> simp
theorem matV_go (os ps : List Int) (k : List Val) : ∀ (u l : Tab), u.foldl (matS os ps k) l = [] ↔ l = [] ∧ ∀ x ∈ u, pkV os x.1 ≠ k
  | [], l => by simp
  | x :: u, l => by
    rw [List.foldl_cons, matV_go os ps k u]
    unfold matS
    by_cases h : cmpR (pkV os x.1) k = 0
    · rw [if_pos h]
      constructor
      · rintro ⟨h1, _⟩; exact absurd h1 (addC_ne _ _ _)
      · rintro ⟨_, h2⟩; exact absurd ((cmpR_zero _ _).1 h) (h2 x (List.mem_cons_self ..))
    · rw [if_neg h]
      have h3 : pkV os x.1 ≠ k := fun e => h ((cmpR_zero _ _).2 e)
      constructor
      · rintro ⟨h1, h2⟩
        refine ⟨h1, fun y hy => ?_⟩
        rcases List.mem_cons.1 hy with rfl | hy
        · exact h3
        · exact h2 y hy
      · rintro ⟨h1, h2⟩; exact ⟨h1, fun y hy => h2 y (List.mem_cons_of_mem _ hy)⟩
theorem matV_empty {os ps : List Int} {k : List Val} {u : Tab} : matV os ps k u = [] ↔ ∀ x ∈ u, pkV os x.1 ≠ k := by
  have := matV_go os ps k u []
  simpa [matV] using this
/-- the rows that match a row -/
def lnkV (ns os ps : List Int) (u : Tab) (r : List Val) : Tab := if nulV (pkV ns r) = true then [] else matV os ps (pkV ns r) u
theorem lnkV_empty {ns os ps : List Int} {u : Tab} {r : List Val} : lnkV ns os ps u r = [] ↔ nulV (pkV ns r) = true ∨ ∀ x ∈ u, pkV os x.1 ≠ pkV ns r := by
  unfold lnkV
  by_cases h : nulV (pkV ns r) = true
  · rw [if_pos h]; simp [h]
  · rw [if_neg h, matV_empty]; simp [h]
/-- a row without matches stays with nulls -/
def linV (left : Bool) (m : Nat) : Tab → Tab
  | [] => if left = true then [(List.replicate m zV, 1)] else []
  | y :: l => y :: l
def joiX (left : Bool) (ns os ps : List Int) (u : Tab) (x : List Val × Int) : Tab := (linV left ps.length (lnkV ns os ps u x.1)).map fun y => (x.1 ++ y.1, x.2 * y.2)
def joiL (left : Bool) (ns os ps : List Int) (t u : Tab) : Tab := t.flatMap (joiX left ns os ps u)
def joiV (left : Bool) (ns os ps : List Int) (t u : Tab) : Tab := normV (joiL left ns os ps t u)
def isM (ns os : List Int) (u : Tab) (x : List Val × Int) : Bool := !(lnkV ns os [] u x.1).isEmpty
def semV (wanted : Bool) (ns os : List Int) (t u : Tab) : Tab := t.filter fun x => isM ns os u x == wanted
theorem isM_lnk (ns os ps : List Int) (u : Tab) (x : List Val × Int) : isM ns os u x = !(lnkV ns os ps u x.1).isEmpty := by
  unfold isM
  congr 1
  rw [Bool.eq_iff_iff, List.isEmpty_iff, List.isEmpty_iff, lnkV_empty, lnkV_empty]
def prjV (is : List Int) (t : Tab) : Tab := normV (t.map fun x => (pkV is x.1, x.2))
def disV (t : Tab) : Tab := (t.filter fun x => decide (0 < x.2)).map fun x => (x.1, 1)
def excF (b : Tab) (x : List Val × Int) : List Val × Int := (x.1, max (x.2 - cnt b x.1) 0)
def excV (a b : Tab) : Tab := (a.map (excF b)).filter fun x => x.2 != 0
def padV (m : Nat) (a : Tab) : Tab := a.map fun x => (x.1 ++ List.replicate m zV, x.2)
theorem Bag.filter {t : Tab} (h : Bag t) (p : List Val × Int → Bool) : Bag (t.filter p) :=
  ⟨asc_pw.2 ((asc_pw.1 h.1).filter _), fun x hx => h.2 x (List.mem_filter.1 hx).1⟩
theorem sem_bag {t : Tab} (h : Bag t) (wanted : Bool) (ns os : List Int) (u : Tab) : Bag (semV wanted ns os t u) := h.filter _
/-- keys, each once -/
theorem mat_keys (k : List Val) : ∀ {K : Tab} (_ : K.Pairwise fun x y => x.1 ≠ y.1) (_ : ∀ x ∈ K, x.2 = 1 ∧ pkV [0] x.1 = x.1) (l : Tab),
    K.foldl (matS [0] [] k) l = if K.any (fun x => cmpR x.1 k == 0) = true then addC [] 1 l else l
  | [], _, _, l => by simp
  | x :: K, hp, h1, l => by
    obtain ⟨p1, p2⟩ := List.pairwise_cons.1 hp
    obtain ⟨hx, hpk⟩ := h1 x (List.mem_cons_self ..)
    have ih := mat_keys k p2 (fun y hy => h1 y (List.mem_cons_of_mem _ hy))
    rw [List.foldl_cons, ih, List.any_cons]
    unfold matS
    rw [hpk]
    by_cases h : cmpR x.1 k = 0
    · have e := (cmpR_zero _ _).1 h
      have hn : K.any (fun x => cmpR x.1 k == 0) = false := by
        rw [List.any_eq_false]
        intro y hy
        have := p1 y hy
        simp [cmpR_zero]
        rw [← e]
        exact fun e2 => this e2.symm
      rw [if_pos h, hn, hx]
      simp [h, pkV]
    · have hb : (cmpR x.1 k == 0) = false := by simpa using h
      rw [if_neg h, hb, Bool.false_or]
theorem flat_filter {t : Tab} {f : List Val × Int → Tab} {p : List Val × Int → Bool} (h : ∀ x ∈ t, f x = if p x = true then [x] else []) : t.flatMap f = t.filter p := by
  induction t with
  | nil => rfl
  | cons x l ih =>
    rw [List.flatMap_cons, h x (List.mem_cons_self ..), ih fun y hy => h y (List.mem_cons_of_mem _ hy), List.filter_cons]
    split <;> simp
section
variable {t u : Tab} {n o : Int}
theorem keys_mem (hu : ∀ x ∈ u, 0 < x.2) (k : List Val) : (∃ y ∈ disV (prjV [o] u), y.1 = k) ↔ ∃ x ∈ u, pkV [o] x.1 = k := by
  have hpos : ∀ y ∈ u.map (fun x => (pkV [o] x.1, x.2)), 0 < y.2 := fun y hy => by
    obtain ⟨x, hx, rfl⟩ := List.mem_map.1 hy
    exact hu x hx
  have h1 := norm_keys hpos k
  have h2 := norm_pos hpos
  constructor
  · rintro ⟨y, hy, rfl⟩
    obtain ⟨z, hz, rfl⟩ := List.mem_map.1 hy
    obtain ⟨w, hw, e⟩ := h1.1 ⟨z, (List.mem_filter.1 hz).1, rfl⟩
    obtain ⟨x, hx, rfl⟩ := List.mem_map.1 hw
    exact ⟨x, hx, e⟩
  · rintro ⟨x, hx, e⟩
    obtain ⟨z, hz, e2⟩ := h1.2 ⟨_, List.mem_map.2 ⟨x, hx, rfl⟩, e⟩
    exact ⟨_, List.mem_map.2 ⟨z, List.mem_filter.2 ⟨hz, by simpa using h2 z hz⟩, rfl⟩, e2⟩
theorem dis_pw {a : Tab} (h : Bag a) : (disV a).Pairwise fun x y => x.1 ≠ y.1 := by
  unfold disV
  rw [List.pairwise_map]
  exact h.pw.filter _
theorem keys_row {y : List Val × Int} (hy : y ∈ disV (prjV [o] u)) : y.2 = 1 ∧ pkV [0] y.1 = y.1 ∧ y.1.length = 1 := by
  obtain ⟨z, hz, rfl⟩ := List.mem_map.1 hy
  obtain ⟨w, hw, e⟩ := normV_mem (List.mem_filter.1 hz).1
  obtain ⟨x, _, rfl⟩ := List.mem_map.1 hw
  refine ⟨rfl, ?_, ?_⟩
  · show pkV [0] z.1 = z.1
    rw [← e]
    rfl
  · show z.1.length = 1
    rw [← e]
    rfl
theorem lnk_keys (hu : ∀ x ∈ u, 0 < x.2) (x : List Val × Int) : lnkV [n] [0] [] (disV (prjV [o] u)) x.1 = if isM [n] [o] u x = true then [([], 1)] else [] := by
  have hk := mat_keys (pkV [n] x.1) (dis_pw (normV_bag (u.map fun x => (pkV [o] x.1, x.2)))) (fun y hy => ⟨(keys_row (u := u) (o := o) hy).1, (keys_row (u := u) (o := o) hy).2.1⟩) []
  have hm := keys_mem (o := o) hu (pkV [n] x.1)
  unfold isM
  unfold lnkV
  by_cases h0 : nulV (pkV [n] x.1) = true
  · rw [if_pos h0, if_pos h0]; rfl
  · rw [if_neg h0, if_neg h0]
    have e1 : matV [0] [] (pkV [n] x.1) (disV (prjV [o] u)) = if (disV (prjV [o] u)).any (fun x_1 => cmpR x_1.1 (pkV [n] x.1) == 0) = true then addC [] 1 [] else [] := hk
    rw [e1]
    have e2 : (disV (prjV [o] u)).any (fun x_1 => cmpR x_1.1 (pkV [n] x.1) == 0) = !(matV [o] [] (pkV [n] x.1) u).isEmpty := by
      rw [Bool.eq_iff_iff, List.any_eq_true, Bool.not_eq_true', Bool.eq_false_iff]
      constructor
      · rintro ⟨y, hy, e⟩ he
        have e := (cmpR_zero _ _).1 (by simpa using e)
        obtain ⟨z, hz, e3⟩ := hm.1 ⟨y, hy, e⟩
        exact matV_empty.1 (List.isEmpty_iff.1 he) z hz e3
      · intro he
        by_cases hex : ∃ z ∈ u, pkV [o] z.1 = pkV [n] x.1
        · obtain ⟨y, hy, e⟩ := hm.2 hex
          exact ⟨y, hy, by simp [cmpR_zero, e]⟩
        · exact absurd (List.isEmpty_iff.2 (matV_empty.2 fun z hz e => hex ⟨z, hz, e⟩)) he
    rw [e2]
    rfl
/-- a semi join is a join with the different keys -/
theorem semi_join (ht : Bag t) (hu : ∀ x ∈ u, 0 < x.2) : joiV false [n] [0] [] t (disV (prjV [o] u)) = semV true [n] [o] t u := by
  unfold joiV joiL
  rw [flat_filter (p := fun x => isM [n] [o] u x == true)]
  · exact normV_self (sem_bag ht true [n] [o] u)
  · intro x _
    unfold joiX
    rw [lnk_keys hu]
    cases isM [n] [o] u x
    · rfl
    · simp [linV]
end
section
variable {t u : Tab} {ns os : List Int}
theorem sem_cnt (ht : Bag t) {x : List Val × Int} (hx : x ∈ t) : cnt (semV true ns os t u) x.1 = if isM ns os u x = true then x.2 else 0 := by
  split
  · rename_i h
    exact (sem_bag ht true ns os u).cnt_mem (List.mem_filter.2 ⟨hx, by simp [h]⟩)
  · rename_i h
    refine cnt_none fun y hy e => ?_
    obtain ⟨h1, h2⟩ := List.mem_filter.1 hy
    have e2 : y = x := Prod.ext e (by have a := ht.cnt_mem hx; have b := ht.cnt_mem h1; rw [e, a] at b; exact b.symm)
    subst e2
    simp at h2
    exact h h2
/-- an anti join is what the semi join leaves -/
theorem anti_rest (ht : Bag t) (hp : ∀ x ∈ t, 0 < x.2) : excV t (semV true ns os t u) = semV false ns os t u := by
  have key : ∀ l : Tab, (∀ x ∈ l, x ∈ t) → (l.map (excF (semV true ns os t u))).filter (fun x => x.2 != 0) = l.filter fun x => isM ns os u x == false := by
    intro l
    induction l with
    | nil => intro _; rfl
    | cons x l ih =>
      intro h
      have hx := h x (List.mem_cons_self ..)
      have h0 := hp x hx
      rw [List.map_cons, List.filter_cons, List.filter_cons, ih fun y hy => h y (List.mem_cons_of_mem _ hy)]
      have e : excF (semV true ns os t u) x = (x.1, if isM ns os u x = true then 0 else x.2) := by
        unfold excF
        rw [sem_cnt ht hx]
        congr 1
        split <;> omega
      rw [e]
      cases hm : isM ns os u x
      · simp only [Bool.false_eq_true, if_false]
        rw [if_pos (by simp; omega)]
        simp
      · simp
  exact key t fun x hx => hx
/-- a left join is the join and the rows of the anti join with nulls -/
theorem left_join (ps : List Int) : joiV true ns os ps t u = normV (joiV false ns os ps t u ++ padV ps.length (semV false ns os t u)) := by
  unfold joiV
  refine norm_congr fun r => ?_
  rw [cnt_append, normV_cnt]
  unfold joiL padV semV
  induction t with
  | nil => rfl
  | cons x l ih =>
    rw [List.flatMap_cons, List.flatMap_cons, cnt_append, cnt_append, ih, List.filter_cons]
    have hm := isM_lnk ns os ps u x
    unfold joiX
    cases hl : lnkV ns os ps u x.1 with
    | nil =>
      rw [hl] at hm
      rw [hm]
      simp only [linV, List.isEmpty_nil, Bool.not_true, if_true, Bool.false_eq_true, if_false, List.map_nil, beq_self_eq_true, List.map_cons, cnt, Int.mul_one]
      omega
    | cons y m =>
      rw [hl] at hm
      rw [hm]
      simp only [linV, List.isEmpty_cons, Bool.not_false, Bool.true_eq_false, beq_iff_eq, if_false]
      omega
theorem pad_bag {m : Nat} (k : Nat) (ht : Bag t) (hl : ∀ x ∈ t, x.1.length = m) : Bag (padV k t) := by
  refine ⟨asc_pw.2 ?_, fun x hx => ?_⟩
  · unfold padV
    rw [List.pairwise_map]
    refine (asc_pw.1 ht.1).imp_of_mem fun {x y} hx hy hlt => ?_
    show cmpR (x.1 ++ _) (y.1 ++ _) < 0
    rw [cmpR_app (by rw [hl x hx, hl y hy]) fun e => by rw [e, cmpR_self] at hlt; omega]
    exact hlt
  · obtain ⟨y, hy, rfl⟩ := List.mem_map.1 hx
    exact ht.2 y hy
end
end Go.Proofs.YthcalfeoejdcgaaGreatDoor
