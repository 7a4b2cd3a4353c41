/- Partitions of rows in the call's own memory: each partition's rows grow in a block of their own; Windows: the rows of a table one by one, sorted, numbered. Plain; The program: picked values with the draws counted; the comparison of a window's rows; slices.SortFunc at rows; The program: window.integer, window.fingerprint; The program: bag.Size, bag.Expand. -/
import Derived.Shelf.SlSortCmp.Whole1
import Derived.Shelf.SlSortCmp.NoneTotal
import Derived.Ground.SlsfProg
import Derived.Lib.AppendStr
import Derived.Laws.IdiomStrings
import Derived.Test.YthcalfeoejdcgaaGreatDoorM11
import Derived.Test.YthcalfeoejdcgaaGreatDoorM12
import Derived.Test.YthcalfeoejdcgaaGreatDoorM13
import Derived.Test.YthcalfeoejdcgaaGreatDoorM14
namespace Go.Proofs.YthcalfeoejdcgaaGreatDoor
section
open Go.RowKit Go.BigFrame
set_option linter.unusedSimpArgs false
set_option linter.unusedVariables false

abbrev Slc := Option Addr × Nat × Nat
def Slc.val (a : Slc) : Value := .slice a.1 a.2.1 a.2.2
def sblk (a : Slc) : Option Nat := a.val.ownBlock
theorem encPart_len (a : Slc) : (encPart a).length = 1 := rfl
theorem encPart_one (a : Slc) : ∀ u ∈ encPart a, u.oneCell' = true := fun u hu => by simp [encPart] at hu; subst hu; rfl
/-- slices as they are -/
def kSlc (e : TypeId) : Kin Slc Slc where
  enc := encPart
  C := 1
  e := e
  ptrs := fun _ => []
  D := fun _ a b => a = b
  len := encPart_len
  pos := by omega
  one := encPart_one
  later := fun h _ => h
  kept := fun h _ _ => h
  lt := fun _ p hp => by cases hp
def oldRow (B0 : Nat) (w : World) (e : Slc) (r : List Val) : Prop := rVal w e.1 e.2.1 r ∧ (0 < e.2.1 → ∀ ad, e.1 = some ad → ad.block < B0)
def QD (w : World) (B0 B : Nat) (a : Slc) (l : List (List Val)) : Prop := ∃ es, w.ownsRow B 63 1 a.val a.2.1 (flat encPart es) ∧ dAll (oldRow B0 w) es l
structure QS (e : TypeId) (w : World) (B0 B : Nat) (v : Value) (qs : List Slc) (ps : List (List (List Val))) : Prop where
  own : w.ownsRow B e 1 v qs.length (flat encPart qs)
  rel : dAll (QD w B0 B) qs ps
  apart : ∀ (i j : Nat) (a b : Slc) (x : Nat), qs[i]? = some a → qs[j]? = some b → sblk a = some x → sblk b = some x → i = j
  sep : ∀ a ∈ qs, ∀ x, sblk a = some x → v.ownBlock ≠ some x
section
variable {e : TypeId} {w w' : World} {B0 B n : Nat} {v v' : Value} {qs : List Slc} {ps : List (List (List Val))} {a : Slc} {p : List (List Val)} {row : Option Nat}
theorem oldRow.kept {el : Slc} {r : List Val} (h : oldRow B0 w el r) (hg : w.grownBy w' row) (hB : ∀ k, row = some k → B0 ≤ k) : oldRow B0 w' el r :=
  ⟨Fl.kept h.1 hg fun h0 ad e e2 => by
    have := h.2 h0 ad e
    have := hB _ e2.symm
    omega, h.2⟩
theorem QD.lt (h : QD w B0 B a p) : ∀ x, sblk a = some x → B ≤ x ∧ x < w.heap.size := by
  obtain ⟨es, h1, _⟩ := h
  exact h1.lt
theorem QD.kept (h : QD w B0 B a p) (hg : w.grownBy w' row) (hB : ∀ k, row = some k → B0 ≤ k) (h1 : sblk a = none ∨ sblk a ≠ row) : QD w' B0 B a p := by
  obtain ⟨es, h4, h5⟩ := h
  exact ⟨es, h4.kept hg h1, h5.imp fun _ _ h => h.kept hg hB⟩
theorem QS.len (h : QS e w B0 B v qs ps) : ps.length = qs.length := h.rel.len.symm
theorem QS.kept (h : QS e w B0 B v qs ps) (hg : w.grownBy w' row) (hB : ∀ k, row = some k → B0 ≤ k) (h0 : v.ownBlock = none ∨ v.ownBlock ≠ row) (h1 : ∀ a ∈ qs, sblk a = none ∨ sblk a ≠ row) : QS e w' B0 B v qs ps :=
  ⟨h.own.kept hg h0, dAll.of_get h.rel.len fun j a b ha hb => by
    obtain ⟨b', hb', hr⟩ := h.rel.get ha
    rw [hb] at hb'
    cases hb'
    exact hr.kept hg hB (h1 a (List.mem_of_getElem? ha)), h.apart, h.sep⟩
theorem QS.inlt (h : QS e w B0 B v qs ps) : ∀ a ∈ qs, ∀ x, sblk a = some x → B ≤ x ∧ x < w.heap.size := fun a ha x hx => by
  obtain ⟨j, hj⟩ := List.getElem?_of_mem ha
  obtain ⟨b, _, hr⟩ := h.rel.get hj
  exact hr.lt x hx
/-- something below B has grown, or nothing that was there -/
theorem QS.low (h : QS e w B0 B v qs ps) (hg : w.grownBy w' row) (hB : ∀ k, row = some k → B0 ≤ k ∧ k < B) : QS e w' B0 B v qs ps := by
  refine h.kept hg (fun k e => (hB k e).1) ?_ (fun a ha => ?_)
  · cases hv : v.ownBlock with
    | none => exact .inl rfl
    | some x =>
      refine .inr fun e2 => ?_
      have h1 := (h.own.lt x hv).1
      have h2 := (hB x e2.symm).2
      omega
  · cases hv : sblk a with
    | none => exact .inl rfl
    | some x =>
      refine .inr fun e2 => ?_
      have h1 := (h.inlt a ha x hv).1
      have h2 := (hB x e2.symm).2
      omega
theorem QS.later (h : QS e w B0 B v qs ps) (hb : Below w.heap.size w w') : QS e w' B0 B v qs ps := h.low (grown_below hb) (fun k e => by cases e)
theorem QS.nil (w : World) (e : TypeId) (B0 B : Nat) : QS e w B0 B (.slice none 0 0) [] [] :=
  ⟨World.ownsRow_nil w B _ _, trivial, fun i j a b x h => by simp at h, fun a h => (by simp at h)⟩
/-- one more partition, without rows -/
theorem QS.push (h : QS e w B0 B v qs ps) (hB : B0 ≤ B) (hBw : B ≤ w.heap.size)
    (hown : w'.ownsRow B e 1 v' (qs.length + 1) (flat encPart (qs ++ [(none, 0, 0)]))) (hg : w.grownBy w' v.ownBlock) (hv : v'.ownBlock = v.ownBlock ∨ v'.ownBlock = some w.heap.size) :
    QS e w' B0 B v' (qs ++ [(none, 0, 0)]) (ps ++ [[]]) := by
  have hBr : ∀ x, v.ownBlock = some x → B0 ≤ x := fun x e => Nat.le_trans hB (h.own.lt x e).1
  have nb : sblk (none, 0, 0) = none := rfl
  refine ⟨by rw [List.length_append]; exact hown, ?_, fun i j a b x ha hb h1 h2 => ?_, fun a ha x hx => ?_⟩
  · refine dAll.snoc (dAll.of_get h.rel.len fun j a b ha hb => ?_) ⟨[], World.ownsRow_nil _ _ _ _, trivial⟩
    obtain ⟨b', hb', hr⟩ := h.rel.get ha
    rw [hb] at hb'
    cases hb'
    have hm := List.mem_of_getElem? ha
    exact hr.kept hg hBr (by
      cases hx : sblk a with
      | none => exact .inl rfl
      | some x => exact .inr (fun e => h.sep a hm x hx e.symm))
  · rw [List.getElem?_append] at ha hb
    split at ha
    · split at hb
      · exact h.apart i j a b x ha hb h1 h2
      · rw [List.getElem?_singleton] at hb
        split at hb
        · cases hb; rw [nb] at h2; cases h2
        · cases hb
    · rw [List.getElem?_singleton] at ha
      split at ha
      · cases ha; rw [nb] at h1; cases h1
      · cases ha
  · rcases List.mem_append.1 ha with ha | ha
    · rcases hv with hv | hv
      · rw [hv]; exact h.sep a ha x hx
      · rw [hv]; intro e2; cases e2; exact absurd (h.inlt a ha _ hx).2 (by omega)
    · simp at ha; subst ha; rw [nb] at hx; cases hx
/-- a partition that has been turned in a block of its own: its rows are others now -/
theorem QS.turn (h : QS e w B0 B v qs ps) {i : Nat} {a a2 : Slc} (hi : qs[i]? = some a) {l l2 : List (List Val)} (hp : ps[i]? = some l) {w1 : World} (hB : B0 ≤ B)
    {es2 : List Slc} (hown : w1.ownsRow B 63 1 a2.val a2.2.1 (flat encPart es2)) (hrel : dAll (oldRow B0 w1) es2 l2) (hg : w.grownBy w1 (sblk a))
    (hv : sblk a2 = sblk a ∨ sblk a2 = some w.heap.size) {g n c : Nat} (hvv : v = .slice (some ⟨g, 0, none⟩) n c) :
    QS e (w1.setCell ⟨g, i, none⟩ a2.val) B0 B v (qs.set i a2) (ps.set i l2) := by
  have him := List.mem_of_getElem? hi
  have hilt : i < qs.length := (List.getElem?_eq_some_iff.1 hi).1
  have vb : v.ownBlock = some g := by rw [hvv]; rfl
  have hgB := h.own.lt g vb
  have hbr := h.inlt a him
  have hBr : ∀ x, sblk a = some x → B0 ≤ x := fun x e => Nat.le_trans hB (hbr x e).1
  -- the block of the partitions is as it was in w1
  have hgw : w1.heap[g]? = w.heap[g]? := hg.block g hgB.2 (fun e => h.sep _ him g e.symm vb)
  have nbl : ∀ y, sblk a2 = some y → y ≠ g ∧ (∀ j b, qs[j]? = some b → j ≠ i → sblk b ≠ some y) := fun y hy => by
    rcases hv with hv | hv
    · rw [hv] at hy
      refine ⟨fun e => ?_, fun j b hb hne e => hne (h.apart j i b _ y hb hi e hy)⟩
      have := h.sep _ him y hy
      rw [vb, e] at this
      exact this rfl
    · rw [hv] at hy
      injection hy with hy
      refine ⟨by omega, fun j b hb _ e => ?_⟩
      have := (h.inlt b (List.mem_of_getElem? hb) y e).2; omega
  have hs : ∀ b, b ≠ g → (w1.setCell ⟨g, i, none⟩ a2.val).heap[b]? = w1.heap[b]? := fun b hb => Below.heap_setCell _ _ _ _ (by show b ≠ g; exact hb)
  have hg2 : w1.grownBy (w1.setCell ⟨g, i, none⟩ a2.val) (some g) := ⟨rfl, rfl, rfl, by simp, fun b _ hne => hs b (fun e => hne (by rw [e]))⟩
  have memset : ∀ b ∈ qs.set i a2, b = a2 ∨ ∃ j, qs[j]? = some b ∧ j ≠ i := fun b hb => by
    obtain ⟨j, hj⟩ := List.getElem?_of_mem hb
    rw [List.getElem?_set] at hj
    split at hj
    · cases hj; exact .inl rfl
    · rename_i hne
      exact .inr ⟨j, hj, fun e => hne e.symm⟩
  refine ⟨?_, ?_, fun j l a b y ha hb h1 h2 => ?_, fun a ha y hy => ?_⟩
  · -- the partitions themselves
    have ho := h.own
    rw [hvv] at ho ⊢
    rcases ho with ⟨l1, ⟨e1, _⟩ | ⟨g', cap, cur, e1, b1, b2, b3, b4, b5, b6⟩⟩
    · cases e1
    · injection e1 with e1 e2 e3
      injection e1 with e1
      injection e1 with e1
      subst e1
      subst e2
      subst e3
      have hcur : w1.heap[g]? = some (.cells cur e (0, 0)) := hgw.trans b2
      refine ⟨by rw [flat_length encPart_len, List.length_set], .inr ⟨g, c, cur.setIfInBounds i a2.val, by rw [List.length_set], b1, heap_setCell_same w1 g _ _ e _ hcur, by rw [List.length_set]; exact b3, b4, by rw [Array.size_setIfInBounds]; exact b5, ?_⟩⟩
      rw [List.length_set, Array.toList_setIfInBounds, List.take_set, b6]
      have hf := flat_set2 encPart_len qs i a2 hilt
      apply List.ext_getElem?
      intro j
      rw [hf, List.getElem?_set]
      have hl2 : (flat encPart qs).length = qs.length * 1 := flat_length encPart_len _
      have hsplit : ((flat encPart qs).take (i * 1)).length = i := by rw [List.length_take]; omega
      by_cases c1 : j < i
      · rw [if_neg (by omega), List.append_assoc, List.getElem?_append_left (by rw [hsplit]; exact c1), List.getElem?_take, if_pos (by omega)]
      · by_cases c3 : j = i
        · rw [if_pos (by omega), if_pos (by omega), List.append_assoc, List.getElem?_append_right (by rw [hsplit]; omega), hsplit, c3, Nat.sub_self]
          rfl
        · rw [if_neg (by omega), List.getElem?_append_right (by rw [List.length_append, hsplit, encPart_len]; omega), List.length_append, hsplit, encPart_len, List.getElem?_drop]
          congr 1
          omega
  · refine dAll.of_get (by rw [List.length_set, List.length_set]; exact h.rel.len) fun j a b ha hb => ?_
    rw [List.getElem?_set] at ha hb
    by_cases hj : i = j
    · rw [if_pos hj, if_pos hilt] at ha
      rw [if_pos hj, if_pos (by have := h.rel.len; omega)] at hb
      cases ha
      cases hb
      refine ⟨es2, ?_, hrel.imp fun _ _ h => h.kept hg2 (fun q hq => by cases hq; omega)⟩
      refine hown.kept hg2 ?_
      show sblk a2 = none ∨ sblk a2 ≠ some g
      cases hx : sblk a2 with
      | none => exact .inl rfl
      | some y => exact .inr (fun e2 => (nbl y hx).1 (by injection e2))
    · rw [if_neg hj] at ha hb
      obtain ⟨b', hb', hr⟩ := h.rel.get ha
      rw [hb] at hb'
      cases hb'
      have hm := List.mem_of_getElem? ha
      refine (hr.kept hg hBr ?_).kept hg2 (fun q hq => by cases hq; omega) ?_
      · cases hx : sblk a with
        | none => exact .inl rfl
        | some y => exact .inr (fun e2 => hj (h.apart j i a _ y ha hi hx e2.symm).symm)
      · cases hx : sblk a with
        | none => exact .inl rfl
        | some y => exact .inr (fun e2 => by have := h.sep a hm y hx; rw [vb] at this; exact this e2.symm)
  · rw [List.getElem?_set] at ha hb
    by_cases hj : i = j <;> by_cases hl : i = l
    · omega
    · exfalso
      rw [if_pos hj, if_pos hilt] at ha
      rw [if_neg hl] at hb
      cases ha
      exact (nbl y h1).2 l b hb (Ne.symm hl) h2
    · exfalso
      rw [if_neg hj] at ha
      rw [if_pos hl, if_pos hilt] at hb
      cases hb
      exact (nbl y h2).2 j a ha (Ne.symm hj) h1
    · rw [if_neg hj] at ha
      rw [if_neg hl] at hb
      exact h.apart j l a b y ha hb h1 h2
  · rcases memset a ha with rfl | ⟨j, hj, _⟩
    · rw [vb]; intro e2; injection e2 with e2; exact (nbl y hy).1 e2.symm
    · exact h.sep a (List.mem_of_getElem? hj) y hy
/-- a partition whose block has been turned in place -/
theorem QS.turn0 (h : QS e w B0 B v qs ps) {i : Nat} {a : Slc} (hi : qs[i]? = some a) {l2 : List (List Val)} {w1 : World} (hB : B0 ≤ B)
    {es2 : List Slc} (hown : w1.ownsRow B 63 1 a.val a.2.1 (flat encPart es2)) (hrel : dAll (oldRow B0 w1) es2 l2) (hg : w.grownBy w1 (sblk a)) : QS e w1 B0 B v qs (ps.set i l2) := by
  have him := List.mem_of_getElem? hi
  have hbr := h.inlt a him
  have hBr : ∀ x, sblk a = some x → B0 ≤ x := fun x e => Nat.le_trans hB (hbr x e).1
  refine ⟨h.own.kept hg ?_, dAll.of_get (by rw [List.length_set]; exact h.rel.len) fun j b l hb hl => ?_, h.apart, h.sep⟩
  · cases hv : v.ownBlock with
    | none => exact .inl rfl
    | some x => exact .inr fun e2 => h.sep a him x e2.symm hv
  · rw [List.getElem?_set] at hl
    by_cases hj : i = j
    · subst hj
      rw [hi] at hb
      cases hb
      rw [if_pos rfl] at hl
      split at hl
      · cases hl; exact ⟨es2, hown, hrel⟩
      · cases hl
    · rw [if_neg hj] at hl
      obtain ⟨b', hb', hr⟩ := h.rel.get hb
      rw [hl] at hb'
      cases hb'
      refine hr.kept hg hBr ?_
      cases hx : sblk b with
      | none => exact .inl rfl
      | some y => exact .inr (fun e2 => hj (h.apart j i b _ y hb hi hx e2.symm).symm)
end
end
section
open Go.RowKit
set_option linter.unusedSimpArgs false
set_option linter.unusedVariables false

/-- each row as often as its count says -/
def expV : Tab → Tab
  | [] => []
  | x :: l => List.replicate x.2.toNat (x.1, 1) ++ expV l
theorem expV_append (a b : Tab) : expV (a ++ b) = expV a ++ expV b := by
  induction a with
  | nil => rfl
  | cons x l ih => rw [List.cons_append, expV, expV, ih, List.append_assoc]
theorem expV_mem {t : Tab} {y : List Val × Int} : y ∈ expV t ↔ y.2 = 1 ∧ ∃ x ∈ t, 0 < x.2 ∧ x.1 = y.1 := by
  induction t with
  | nil => simp [expV]
  | cons x l ih =>
    rw [expV, List.mem_append, ih, List.mem_replicate]
    constructor
    · rintro (⟨h1, rfl⟩ | ⟨h1, z, hz, h2⟩)
      · exact ⟨rfl, x, List.mem_cons_self .., by omega, rfl⟩
      · exact ⟨h1, z, List.mem_cons_of_mem _ hz, h2⟩
    · rintro ⟨h1, z, hz, h2, h3⟩
      rcases List.mem_cons.1 hz with rfl | hz
      · exact .inl ⟨by omega, by cases y; simp at h1 h3; rw [h1, h3]⟩
      · exact .inr ⟨h1, z, hz, h2, h3⟩
theorem expV_len : ∀ {t : Tab} (_ : ∀ x ∈ t, 0 < x.2), ((expV t).length : Int) = sumC t
  | [], _ => rfl
  | x :: l, h => by
    have h1 := h x (List.mem_cons_self ..)
    have ih := expV_len fun y hy => h y (List.mem_cons_of_mem _ hy)
    rw [expV, List.length_append, List.length_replicate, sumC]
    omega
theorem ofK_exp (is : List Int) (k : List Val) : ∀ t : Tab, ofK is k (expV t) = expV (ofK is k t)
  | [] => rfl
  | x :: l => by
    have ih := ofK_exp is k l
    unfold ofK at ih ⊢
    rw [expV, List.filter_append, ih, List.filter_cons]
    by_cases h : cmpR (pkV is x.1) k = 0
    · rw [if_pos (by simp [h]), expV]
      congr 1
      rw [List.filter_eq_self]
      intro y hy
      rw [List.mem_replicate] at hy
      rw [hy.2]; simp [h]
    · rw [if_neg (by simp [h])]
      have : (List.replicate x.2.toNat (x.1, (1 : Int))).filter (fun x => cmpR (pkV is x.1) k == 0) = [] := by
        rw [List.filter_eq_nil_iff]
        intro y hy
        rw [List.mem_replicate] at hy
        rw [hy.2]; simp [h]
      rw [this, List.nil_append]
/-- by some columns, then by the whole row -/
def cmpW (os : List Int) (a b : List Val) : Int := if cmpR (pkV os a) (pkV os b) = 0 then cmpR a b else cmpR (pkV os a) (pkV os b)
theorem cmpW_zero {os : List Int} {a b : List Val} : cmpW os a b = 0 ↔ a = b := by
  unfold cmpW
  constructor
  · intro h
    split at h
    · exact (cmpR_zero _ _).1 h
    · contradiction
  · rintro rfl
    rw [if_pos (cmpR_self _), cmpR_self]
theorem cmpW_flip (os : List Int) (a b : List Val) : cmpW os a b = - cmpW os b a := by
  have h1 := cmpR_flip (pkV os a) (pkV os b)
  have h2 := cmpR_flip a b
  unfold cmpW
  by_cases h : cmpR (pkV os b) (pkV os a) = 0
  · rw [if_pos (by omega), if_pos h]; exact h2
  · rw [if_neg (by omega), if_neg h]; exact h1
theorem cmpW_trans {os : List Int} {a b c : List Val} (h1 : cmpW os a b < 0) (h2 : cmpW os b c < 0) : cmpW os a c < 0 := by
  unfold cmpW at *
  by_cases e1 : cmpR (pkV os a) (pkV os b) = 0
  · rw [if_pos e1] at h1
    have e := (cmpR_zero _ _).1 e1
    rw [e]
    by_cases e2 : cmpR (pkV os b) (pkV os c) = 0
    · rw [if_pos e2] at h2 ⊢
      exact cmpR_trans _ _ _ h1 h2
    · rw [if_neg e2] at h2 ⊢
      exact h2
  · rw [if_neg e1] at h1
    by_cases e2 : cmpR (pkV os b) (pkV os c) = 0
    · have e := (cmpR_zero _ _).1 e2
      rw [← e, if_neg e1]
      exact h1
    · rw [if_neg e2] at h2
      have h3 := cmpR_trans _ _ _ h1 h2
      rw [if_neg (by omega)]
      exact h3
theorem cmpW_le_trans {os : List Int} {a b c : List Val} (h1 : ¬ cmpW os b a < 0) (h2 : ¬ cmpW os c b < 0) : ¬ cmpW os c a < 0 := by
  intro h3
  by_cases e : cmpW os a b = 0
  · rw [cmpW_zero.1 e] at h3; exact h2 h3
  · have f := cmpW_flip os a b
    exact h2 (cmpW_trans h3 (by omega))
/-- sorting by it -/
def insW (os : List Int) (r : List Val) : List (List Val) → List (List Val)
  | [] => [r]
  | x :: l => if cmpW os x r < 0 then x :: insW os r l else r :: x :: l
def sortW (os : List Int) (l : List (List Val)) : List (List Val) := l.foldr (insW os) []
def leW (os : List Int) (x y : List Val) : Prop := ¬ cmpW os y x < 0
theorem insW_perm (os : List Int) (r : List Val) : ∀ l, (insW os r l).Perm (r :: l)
  | [] => .refl _
  | x :: l => by
    unfold insW
    split
    · exact ((insW_perm os r l).cons x).trans (.swap r x l)
    · exact .refl _
theorem sortW_perm (os : List Int) : ∀ l, (sortW os l).Perm l
  | [] => .refl _
  | x :: l => (insW_perm os x (sortW os l)).trans ((sortW_perm os l).cons x)
theorem insW_pw {os : List Int} {r : List Val} : ∀ {l : List (List Val)} (_ : l.Pairwise (leW os)), (insW os r l).Pairwise (leW os)
  | [], _ => by simp [insW]
  | x :: l, h => by
    obtain ⟨h1, h2⟩ := List.pairwise_cons.1 h
    unfold insW
    split
    · rename_i hx
      refine List.pairwise_cons.2 ⟨fun y hy => ?_, insW_pw h2⟩
      rcases List.mem_cons.1 ((insW_perm os r l).subset hy) with rfl | hy
      · have := cmpW_flip os y x
        unfold leW; omega
      · exact h1 y hy
    · rename_i hx
      refine List.pairwise_cons.2 ⟨fun y hy => ?_, h⟩
      rcases List.mem_cons.1 hy with rfl | hy
      · exact hx
      · exact cmpW_le_trans hx (h1 y hy)
theorem sortW_pw (os : List Int) : ∀ l, (sortW os l).Pairwise (leW os)
  | [] => .nil
  | _ :: l => insW_pw (sortW_pw os l)
/-- sorted lists of the same rows are equal -/
theorem sorted_uniq {os : List Int} : ∀ {a b : List (List Val)} (_ : a.Perm b) (_ : a.Pairwise (leW os)) (_ : b.Pairwise (leW os)), a = b
  | [], b, h, _, _ => h.symm.eq_nil.symm
  | x :: a, [], h, _, _ => by cases h.eq_nil
  | x :: a, y :: b, h, ha, hb => by
    obtain ⟨a1, a2⟩ := List.pairwise_cons.1 ha
    obtain ⟨b1, b2⟩ := List.pairwise_cons.1 hb
    have e : x = y := by
      have hx : x ∈ y :: b := h.subset (List.mem_cons_self ..)
      have hy : y ∈ x :: a := h.symm.subset (List.mem_cons_self ..)
      rcases List.mem_cons.1 hx with e | hx
      · exact e
      rcases List.mem_cons.1 hy with e | hy
      · exact e.symm
      have c1 := a1 y hy
      have c2 := b1 x hx
      unfold leW at c1 c2
      have f := cmpW_flip os x y
      exact cmpW_zero.1 (show cmpW os x y = 0 by omega)
    subst e
    rw [sorted_uniq h.cons_inv a2 b2]
theorem sortW_eq {os : List Int} {a b : List (List Val)} (h : a.Perm b) (ha : a.Pairwise (leW os)) : a = sortW os b := sorted_uniq (h.trans (sortW_perm os b).symm) ha (sortW_pw os b)
theorem sortW_len (os : List Int) (l : List (List Val)) : (sortW os l).length = l.length := (sortW_perm os l).length_eq
/-- the values of a window's item: 1 count, 3 sum, 8 row number, 9 rank, 10 lag -/
def rowAt (l : List (List Val)) (p : Nat) : List Val := l.getD p []
def atW (arg : Int) (l : List (List Val)) (i : Int) : Val := if 0 ≤ i ∧ i < (l.length : Int) then cel (rowAt l i.toNat) arg else zV
def rankW (os : List Int) (l : List (List Val)) : Nat → Int
  | 0 => 1
  | p + 1 => if cmpR (pkV os (rowAt l p)) (pkV os (rowAt l (p + 1))) = 0 then rankW os l p else (p : Int) + 2
/-- the sum of the first values -/
def sumW (arg : Int) (l : List (List Val)) : Nat → Int
  | 0 => 0
  | p + 1 => if (atW arg l p).k = 0 then sumW arg l p else sumW arg l p + (atW arg l p).m
def someW (arg : Int) (l : List (List Val)) : Nat → Bool
  | 0 => false
  | p + 1 => if (atW arg l p).k = 0 then someW arg l p else true
structure WItm where
  f : Int
  num : Int
  arg : Int
def colW (os : List Int) (x : WItm) (l : List (List Val)) (p : Nat) : Val :=
  if x.f = 1 then intV l.length
  else if x.f = 8 then intV ((p : Int) + 1)
  else if x.f = 9 then intV (rankW os l p)
  else if x.f = 3 then (if someW x.arg l (p + 1) = true then intV (sumW x.arg l (p + 1)) else zV)
  else if x.f = 10 then atW x.arg l ((p : Int) - x.num)
  else zV
def extW (os : List Int) (is : List WItm) (l : List (List Val)) (p : Nat) : List Val := is.map fun x => colW os x l p
/-- the rows of a partition with the items' values -/
def numW (os : List Int) (is : List WItm) (l : List (List Val)) : Tab := (List.range l.length).map fun p => (rowAt l p ++ extW os is l p, 1)
def rowsP (p : List Val × Tab) : List (List Val) := p.2.map (·.1)
def listW (ps os : List Int) (is : List WItm) (t : Tab) : Tab := (partsV ps (expV t)).flatMap fun p => numW os is (sortW os (rowsP p))
def winV (ps os : List Int) (is : List WItm) (t : Tab) : Tab := normV (listW ps os is t)
theorem numW_mem {os : List Int} {is : List WItm} {l : List (List Val)} {y : List Val × Int} : y ∈ numW os is l ↔ ∃ j, j < l.length ∧ y = (rowAt l j ++ extW os is l j, 1) := by
  unfold numW
  rw [List.mem_map]
  constructor
  · rintro ⟨j, hj, rfl⟩; exact ⟨j, List.mem_range.1 hj, rfl⟩
  · rintro ⟨j, hj, rfl⟩; exact ⟨j, List.mem_range.2 hj, rfl⟩
theorem listW_mem {ps os : List Int} {is : List WItm} {t : Tab} {y : List Val × Int} : y ∈ listW ps os is t ↔ ∃ p ∈ partsV ps (expV t), ∃ j, j < p.2.length ∧ y = (rowAt (sortW os (rowsP p)) j ++ extW os is (sortW os (rowsP p)) j, 1) := by
  unfold listW
  rw [List.mem_flatMap]
  constructor
  · rintro ⟨p, hp, hy⟩
    obtain ⟨j, hj, e⟩ := numW_mem.1 hy
    rw [sortW_len] at hj
    exact ⟨p, hp, j, by simpa [rowsP] using hj, e⟩
  · rintro ⟨p, hp, j, hj, e⟩
    exact ⟨p, hp, numW_mem.2 ⟨j, by rw [sortW_len]; simpa [rowsP] using hj, e⟩⟩
theorem rowAt_mem {l : List (List Val)} {j : Nat} (h : j < l.length) : rowAt l j ∈ l := by
  unfold rowAt
  rw [List.getD_eq_getElem?_getD, List.getElem?_eq_getElem h]
  exact List.getElem_mem h
/-- a row of a sorted partition is one of the table's -/
theorem sorted_row {ps os : List Int} {t : Tab} {p : List Val × Tab} (hp : p ∈ partsV ps (expV t)) {j : Nat} (hj : j < p.2.length) : ∃ x ∈ t, 0 < x.2 ∧ x.1 = rowAt (sortW os (rowsP p)) j ∧ pkV ps x.1 = p.1 := by
  have h1 : rowAt (sortW os (rowsP p)) j ∈ sortW os (rowsP p) := rowAt_mem (by rw [sortW_len]; simpa [rowsP] using hj)
  have h2 := (sortW_perm os (rowsP p)).subset h1
  obtain ⟨y, hy, e⟩ := List.mem_map.1 h2
  obtain ⟨h3, h4⟩ := ((partsV_ok ps (expV t)).mem hp).1 hy
  obtain ⟨h5, x, hx, h6, h7⟩ := expV_mem.1 h3
  exact ⟨x, hx, h6, h7.trans e, by rw [h7]; exact h4⟩
end
section
open Go.RowKit Go.BigFrame Go.Shelf Go.Sort Go.Lib
set_option linter.unusedSimpArgs false
set_option linter.unusedVariables false

def sortRow_ren : Go.Shelf.Ren := ⟨fun | 6 => 289 | 15 => 283 | 14 => 322 | 28 => 320 | 29 => 321 | 20 => 337 | 21 => 338 | 22 => 339 | 23 => 340 | 24 => 341 | 25 => 342 | 26 => 343 | 27 => 344 | 46 => 350 | 47 => 333 | 48 => 334 | 49 => 351 | 50 => 352 | 57 => 357 | n => n, fun | 22 => 261 | 24 => 63 | 25 => 97 | 3 => 3 | 39 => 32 | 0 => 0 | 53 => 317 | 55 => 319 | 4 => 4 | 46 => 311 | 45 => 310 | 50 => 111 | 5 => 5 | 9 => 9 | 66 => 327 | 70 => 331 | 76 => 345 | 77 => 264 | n => n, fun | n => n⟩
theorem sortRow : Go.Proofs.SlLaysF.n6 Tryz.prog sortRow_ren := {
  mixed := by kernel_rfl
  f6 := ⟨Tryz.f289.name, by decide, Tryz.func289.trans (congrArg some (by kernel_rfl))⟩
  f14 := ⟨Tryz.f322.name, by decide, Tryz.func322.trans (congrArg some (by kernel_rfl))⟩
  f15 := Tryz.func283.trans (congrArg some (by kernel_rfl))
  f20 := ⟨Tryz.f337.name, by decide, Tryz.func337.trans (congrArg some (by kernel_rfl))⟩
  f21 := ⟨Tryz.f338.name, by decide, Tryz.func338.trans (congrArg some (by kernel_rfl))⟩
  f22 := ⟨Tryz.f339.name, by decide, Tryz.func339.trans (congrArg some (by kernel_rfl))⟩
  f23 := ⟨Tryz.f340.name, by decide, Tryz.func340.trans (congrArg some (by kernel_rfl))⟩
  f24 := ⟨Tryz.f341.name, by decide, Tryz.func341.trans (congrArg some (by kernel_rfl))⟩
  f25 := ⟨Tryz.f342.name, by decide, Tryz.func342.trans (congrArg some (by kernel_rfl))⟩
  f26 := ⟨Tryz.f343.name, by decide, Tryz.func343.trans (congrArg some (by kernel_rfl))⟩
  f27 := ⟨Tryz.f344.name, by decide, Tryz.func344.trans (congrArg some (by kernel_rfl))⟩
  f28 := Tryz.func320.trans (congrArg some (by kernel_rfl))
  f29 := Tryz.func321.trans (congrArg some (by kernel_rfl))
  f46 := ⟨Tryz.f350.name, by decide, Tryz.func350.trans (congrArg some (by kernel_rfl))⟩
  f47 := Tryz.func333.trans (congrArg some (by kernel_rfl))
  f48 := Tryz.func334.trans (congrArg some (by kernel_rfl))
  f49 := ⟨Tryz.f351.name, by decide, Tryz.func351.trans (congrArg some (by kernel_rfl))⟩
  f50 := ⟨Tryz.f352.name, by decide, Tryz.func352.trans (congrArg some (by kernel_rfl))⟩
  f57 := ⟨Tryz.f357.name, by decide, Tryz.func357.trans (congrArg some (by kernel_rfl))⟩
  t0 := Tryz.underlying0
  a0 := Tryz.isAgg0
  z0 := Tryz.sizeOf0
  v0 := Tryz.zeroValue0
  t3 := Tryz.underlying3
  a3 := Tryz.isAgg3
  z3 := Tryz.sizeOf3
  v3 := Tryz.zeroValue3
  t4 := Tryz.underlying4
  a4 := Tryz.isAgg4
  z4 := Tryz.sizeOf4
  v4 := Tryz.zeroValue4
  t5 := Tryz.underlying5
  a5 := Tryz.isAgg5
  z5 := Tryz.sizeOf5
  v5 := Tryz.zeroValue5
  t9 := Tryz.underlying9
  a9 := Tryz.isAgg9
  z9 := Tryz.sizeOf9
  v9 := Tryz.zeroValue9
  t22 := Tryz.underlying261
  a22 := Tryz.isAgg261
  z22 := Tryz.sizeOf261
  v22 := Tryz.zeroValue261
  a24 := Tryz.isAgg63
  z24 := Tryz.sizeOf63
  t25 := Tryz.underlying97
  a25 := Tryz.isAgg97
  z25 := Tryz.sizeOf97
  v25 := Tryz.zeroValue97
  t39 := Tryz.underlying32
  a39 := Tryz.isAgg32
  z39 := Tryz.sizeOf32
  v39 := Tryz.zeroValue32
  t45 := Tryz.underlying310
  a45 := Tryz.isAgg310
  z45 := Tryz.sizeOf310
  v45 := Tryz.zeroValue310
  t46 := Tryz.underlying311
  a46 := Tryz.isAgg311
  z46 := Tryz.sizeOf311
  v46 := Tryz.zeroValue311
  t50 := Tryz.underlying111
  a50 := Tryz.isAgg111
  z50 := Tryz.sizeOf111
  v50 := Tryz.zeroValue111
  t53 := Tryz.underlying317
  a53 := Tryz.isAgg317
  z53 := Tryz.sizeOf317
  v53 := Tryz.zeroValue317
  t55 := Tryz.underlying319
  a55 := Tryz.isAgg319
  z55 := Tryz.sizeOf319
  v55 := Tryz.zeroValue319
  t66 := Tryz.underlying327
  a66 := Tryz.isAgg327
  z66 := Tryz.sizeOf327
  v66 := Tryz.zeroValue327
  t70 := Tryz.underlying331
  a70 := Tryz.isAgg331
  z70 := Tryz.sizeOf331
  v70 := Tryz.zeroValue331
  t76 := Tryz.underlying345
  a76 := Tryz.isAgg345
  z76 := Tryz.sizeOf345
  v76 := Tryz.zeroValue345
  t77 := Tryz.underlying264
  a77 := Tryz.isAgg264
  z77 := Tryz.sizeOf264
  v77 := Tryz.zeroValue264 }
def CloRD (n : Nat) (l : List Val) (w : World) (e : Ending) (w' : World) : Prop := CloR kVal n l w e w' ∧ w.drawn ≤ w'.drawn
set_option maxRecDepth 100000 in
set_option maxHeartbeats 1000000 in
theorem pickD0 (A : Option Addr) (n c : Nat) (l : List Val) (B : Option Addr) (m d : Nat) (is : List Int) (w : World) (h : rVal w A n l) (hi : rInt w B m is) (hn : n ≤ 100000) (hm : m ≤ 100000) :
    Calls Tryz.prog 250 #[.slice A n c, .slice B m d] w (CloRD m (pickV (⟨0, 0, ⟨#[]⟩⟩ : Val) l is) w) := by
  obtain ⟨i0, hi0, hz0, hz1, hz2⟩ := info_parts info46
  have hmk : ∀ W : World, ∃ w', (Instr.makeSlice 63 (.int .i64 (m : Int)) (.int .i64 (m : Int))).run Tryz.prog W = .ok (.slice (some ⟨W.heap.size, 0, none⟩) m m) w' ∧
      w'.ownsRow W.heap.size 46 3 (.slice (some ⟨W.heap.size, 0, none⟩) m m) m (flat encVal (List.replicate m (⟨0, 0, ⟨#[]⟩⟩ : Val))) ∧ W.grownBy w' none ∧ W.drawn ≤ w'.drawn := fun W => by
    have hr := run_make (P := Tryz.prog) W 63 46 i0 _ Tryz.underlying63 hi0 hz0 .i64 .i64 m m (by omega) (Int.le_refl _) (by rw [hz2]; omega) (by omega)
    simp only [Int.toNat_natCast] at hr
    rw [hz1] at hr
    refine ⟨_, hr, ?_, World.grownBy_alloc W _ none, Nat.le_refl _⟩
    have := World.ownsRow_lit (e := 46) (size := 3) (base := W.heap.size) W (madeCells (Value.cells (.agg #[.int .i64 0, .int .i64 0, .string ⟨#[]⟩])) (m * 3)) m (Nat.le_refl _) (by unfold maxLen; omega) (size_madeCells _ _)
    rwa [made_gen (⟨0, 0, ⟨#[]⟩⟩ : Val) _ encVal_len rfl] at this
  have HA := Lib.hid h
  have HI := Lib.hid hi
  have LA := Lib.hid h.len
  have LI := Lib.hid hi.len
  obtain ⟨w1, hm1, hm2, hm3, hm4⟩ := hmk w
  have HDR := Lib.hid hm4
  have HM := Lib.hid hm2
  have hB1 : Below w.heap.size w w1 := below_of_grown hm3 (Nat.le_refl _) (fun k h => by cases h)
  clear h hi hmk hm2 hm3 hm4
  go_enter Tryz.func250, Tryz.ntmps250
  go_wp2
  go_loopw [13] (fun i wr => ∃ (k : Nat) (r : List Val), k ≤ m ∧ i = .int .i64 k ∧ Below w.heap.size w wr ∧ Hid (w.drawn ≤ wr.drawn) ∧ Hid (wr.ownsRow w.heap.size 46 3 (.slice (some ⟨w.heap.size, 0, none⟩) m m) m (flat encVal r)) ∧ Hid (PicTo (⟨0, 0, ⟨#[]⟩⟩ : Val) l is k r)) (fun i _ => m - (intOf i).toNat)
  case atStart => exact ⟨0, _, by omega, rfl, hB1, HDR, HM, Lib.hid ⟨by rw [List.length_replicate, LI.out], fun j hj => absurd hj (by omega), fun j _ hj => by rw [List.getElem?_replicate, if_pos (by have := LI.out; omega)]⟩⟩
  case round =>
    obtain ⟨k, r, hk, rfl, hbw, HDR2, HO, HP⟩ := hrel
    have HBW := Lib.hid hbw
    by_cases hlt : k < m
    · obtain ⟨b1, o1, rfl, hc1⟩ := HI.out.opn (by omega)
      obtain ⟨i, hi⟩ := get_some (l := is) (k := k) (by have := LI.out; omega)
      have y0 := cell_later hbw (hc1 k i hi)
      have HX := Lib.hid hi
      clear hc1 hi
      by_cases hin : 0 ≤ i ∧ i < n
      · obtain ⟨h0, h1⟩ := hin
        obtain ⟨j, rfl⟩ := Int.eq_ofNat_of_zero_le h0
        have hjn : j < n := by omega
        obtain ⟨b2, o2, rfl, hc2⟩ := HA.out.opn (by omega)
        obtain ⟨x, hx⟩ := get_some (l := l) (k := j) (by have := LA.out; omega)
        obtain ⟨x1, x2, x3⟩ := hc2 j x hx
        have y1 := cell_later hbw x1
        have y2 := cell_later hbw x2
        have y3 := cell_later hbw x3
        obtain ⟨q, hq⟩ := get_some (l := r) (k := k) (by have := HP.out.1; have := LI.out; omega)
        have own := HO.out
        have z1 : wr.cell? ⟨w.heap.size, k * 3, none⟩ = some (held wr ⟨w.heap.size, k * 3, none⟩) := held_some (by rw [own.cellAt _ (by omega)]; exact flat_get encVal_len hq 0 (by omega))
        have z2 : wr.cell? ⟨w.heap.size, k * 3 + 1, none⟩ = some (held wr ⟨w.heap.size, k * 3 + 1, none⟩) := held_some (by rw [own.cellAt _ (by omega)]; exact flat_get encVal_len hq 1 (by omega))
        have z3 : wr.cell? ⟨w.heap.size, k * 3 + 2, none⟩ = some (held wr ⟨w.heap.size, k * 3 + 2, none⟩) := held_some (by rw [own.cellAt _ (by omega)]; exact flat_get encVal_len hq 2 (by omega))
        have zf : ∀ o, wr.frozen? ⟨w.heap.size, o, none⟩ = false := fun o => own.frozenAt o
        have own3 := Lib.hid (own_set3 encVal_len (x := x) rfl own hlt)
        have HP3 := Lib.hid (HP.out.put HX.out (by omega) (by rw [Int.toNat_natCast]; exact hx))
        have HB3 := Lib.hid (below_sets hbw (Nat.le_refl w.heap.size) (a := k * 3) (b := k * 3 + 1) (c := k * 3 + 2) (x := .int .i64 x.k) (y := .int .i64 x.m) (z := .string x.s))
        have d1 : decide (j < n) = true := by simp [hjn]
        clear hc2 hx hq own x1 x2 x3 hbw
        go_wp2
        go_roundw
        case rel => exact ⟨k + 1, r.set k x, by omega, by go_num, HB3.out, Lib.hid HDR2.out, own3, HP3⟩
        case measure => simp [intOf]; omega
      · have HP3 := Lib.hid (HP.out.skip HX.out (by rw [LA.out]; exact hin))
        by_cases hi0' : 0 ≤ i
        · have d0 : decide (0 ≤ i) = true := by simp [hi0']
          have d1 : decide (i < n) = false := by simp; omega
          clear hin
          go_wp2
          go_roundw
          case rel => exact ⟨k + 1, r, by omega, by go_num, HBW.out, HDR2, HO, HP3⟩
          case measure => simp [intOf]; omega
        · have d0 : decide (0 ≤ i) = false := by simp; omega
          clear hin
          go_wp2
          go_roundw
          case rel => exact ⟨k + 1, r, by omega, by go_num, HBW.out, HDR2, HO, HP3⟩
          case measure => simp [intOf]; omega
    · obtain rfl : k = m := by omega
      go_wp2
      go_ret
      obtain ⟨A2, c2, e2, hr2, _⟩ := fl_of_own HO.out
      have hend : r = pickV (⟨0, 0, ⟨#[]⟩⟩ : Val) l is := PicTo.end_ (by have := HP.out; rw [← LI.out] at this; exact this)
      cases e2
      exact ⟨⟨_, _, rfl, rD_Val.2 (by rw [← hend]; exact hr2), Nat.le_refl _, hbw, (fun a ha => by cases ha; exact ⟨Nat.le_refl _, (HO.out.lt _ rfl).2⟩), ⟨_, by rw [← hend]; exact HO.out, dAll_refl _, fun a h p hp => by cases hp⟩⟩, HDR2.out⟩
theorem picD (A : Option Addr) (n c : Nat) (l : List Val) (B : Option Addr) (m d : Nat) (is : List Int) (w : World) (h : rVal w A n l) (hi : rInt w B m is) (hn : n ≤ 100000) (hm : m ≤ 100000) :
    Calls Tryz.prog 207 #[.slice A n c, .slice B m d] w fun e w' => ∃ A1 c1, e = .returned (.slice A1 m c1) ∧ rVal w' A1 m (pkV is l) ∧ BelD w w' := by
  have H := Lib.hid (pickD0 A n c l B m d is w h hi hn hm)
  clear h hi
  go_enter Tryz.func207, Tryz.ntmps207
  go_wp2_with fail
  refine H.out.mono ?_
  rintro e w1 ⟨⟨A1, c1, rfl, h1, h2, h3, h4, h5⟩, h6⟩
  have HE := Lib.hid (⟨rD_Val.1 h1, h3, h6⟩ : rVal w1 A1 m (pickV (⟨0, 0, ⟨#[]⟩⟩ : Val) l is) ∧ BelD w w1)
  clear h1 h2 h3 h4 h5 h6
  go_wp2
  go_ret
  exact ⟨A1, c1, rfl, HE.out.1, HE.out.2⟩
set_option maxRecDepth 100000 in
set_option maxHeartbeats 2000000 in
theorem clo290 (A : Option Addr) (n c : Nat) (A' : Option Addr) (n' c' : Nat) (a b : List Val) (oA : Option Addr) (oN oC : Nat) (os : List Int) (g : Nat) (w : World) (ha : rVal w A n a) (hb : rVal w A' n' b) (ho : rInt w oA oN os) (hg : w.cell? ⟨g, 0, none⟩ = some (.slice oA oN oC)) (hn : n ≤ 100000) (hn' : n' ≤ 100000) (hoN : oN ≤ 100000) :
    Calls Tryz.prog 290 #[.slice A n c, .slice A' n' c', .pointer (some ⟨g, 0, none⟩)] w fun e w' => e = .returned (.int .i64 (cmpW os a b)) ∧ BelD w w' := by
  have HA := Lib.hid ha
  have HB := Lib.hid hb
  have HO := Lib.hid ho
  have LO := Lib.hid ho.len
  have LA := Lib.hid ha.len
  have LB := Lib.hid hb.len
  have hbs : Below w.heap.size w w := bself w
  clear ha hb ho
  go_enter Tryz.func290, Tryz.ntmps290
  go_wp2_with fail
  go_region_held3 (fun w' => Below w.heap.size w w' ∧ w'.cell? ⟨g, 0, none⟩ = some (.slice oA oN oC) ∧ w.drawn ≤ w'.drawn)
    ((first | exact ⟨Below.drew hbs, hg, Nat.le_succ _⟩ | (go_split_ands; exact ⟨btr (by assumption) hb3, cell_later (btr (by assumption) hb3) hg, Nat.le_trans (by assumption) hd3⟩) | (go_split_ands; exact ⟨btr (by assumption) hb2, cell_later (btr (by assumption) hb2) hg, Nat.le_trans (by assumption) hd2⟩) | (go_split_ands; exact ⟨btr (by assumption) hb1, cell_later (btr (by assumption) hb1) hg, Nat.le_trans (by assumption) hd1⟩)))
    (first
      | (go_at_call 207; go_split_ands; (with_reducible refine (picD A n c a oA oN oC os _ (HA.out.later (by assumption)) (HO.out.later (by assumption)) hn hoN).mono ?_); rintro e wa ⟨A1, c1, rfl, hr1, hb1, hd1⟩; have HR1 := Lib.hid hr1; clear hr1)
      | (go_at_call 207; go_split_ands; (with_reducible refine (picD A' n' c' b oA oN oC os _ (HB.out.later (by assumption)) (HO.out.later (by assumption)) hn' hoN).mono ?_); rintro e wb ⟨A2, c2, rfl, hr2, hb2, hd2⟩; have HR2 := Lib.hid hr2; clear hr2)
      | (go_at_call 42; go_split_ands; (with_reducible refine (cmrD A1 oN c1 A2 oN c2 (pkV os a) (pkV os b) _ (by first | exact HR1.out | exact HR1.out.later hb2) (by first | exact HR2.out | exact HR2.out.later hb1) (by rw [pkV_len]; have := LO.out; omega) (by rw [pkV_len]; have := LO.out; omega)).mono ?_); rintro e wc ⟨rfl, hb3, hd3⟩))
  all_goals
    go_split_ands
    have HBD : Hid (BelD w wc) := Lib.hid ⟨by assumption, by assumption⟩
    by_cases hz : cmpR (pkV os a) (pkV os b) = 0
    · have e0 : (cmpR (pkV os a) (pkV os b) != 0) = false := by simp [hz]
      have HC := Lib.hid (cmrD A n c A' n' c' a b wc (HA.out.later HBD.out.1) (HB.out.later HBD.out.1) (by have := LA.out; omega) (by have := LB.out; omega))
      have HZ := Lib.hid hz
      clear hz
      go_wp2_with fail
      refine HC.out.mono ?_
      rintro e w2 ⟨rfl, hbd⟩
      have H2 := Lib.hid (HBD.out.trans hbd)
      clear hbd
      go_wp2
      go_ret
      exact ⟨ret_int (by unfold cmpW; rw [if_pos HZ.out]), H2.out⟩
    · have e0 : (cmpR (pkV os a) (pkV os b) != 0) = true := by simp [hz]
      have HZ := Lib.hid hz
      clear hz
      go_wp2
      go_ret
      exact ⟨ret_int (by unfold cmpW; rw [if_neg HZ.out]), HBD.out⟩
theorem cmpW_swo {n : Nat} (os : List Int) (f : Fin n → List Val) : SWO (ltOf fun i j : Fin n => cmpW os (f i) (f j)) where
  irrefl x := by
    show decide (cmpW os (f x) (f x) < 0) = false
    rw [cmpW_zero.2 rfl]; rfl
  trans x y z h1 h2 := by
    unfold ltOf at *
    simp only [decide_eq_true_eq] at *
    exact cmpW_trans h1 h2
  ntrans x y z h1 h2 := by
    unfold ltOf at *
    simp only [decide_eq_false_iff_not] at *
    exact cmpW_le_trans h2 h1
section
variable {α : Type} [Inhabited α]
theorem sort1_other (enc : α → Value) (w : World) (blk off m : Nat) (d : Array α) (os : Array Obj) (b : Nat) (hb : b ≠ blk) (hl : b < w.heap.size) : (sortWorld enc w blk off m d os).heap[b]? = w.heap[b]? := by
  unfold sortWorld Go.Sort.grow putRow mapBlock Sort.ahead
  show ((w.heap.modify blk _) ++ os)[b]? = _
  rw [Array.getElem?_append_left (by simpa using hl), Array.getElem?_modify, if_neg (Ne.symm hb)]
theorem sort1_grown (enc : α → Value) (w : World) (blk off m : Nat) (d : Array α) (os : Array Obj) : w.grownBy (sortWorld enc w blk off m d os) (some blk) :=
  ⟨rfl, rfl, rfl, by unfold sortWorld Go.Sort.grow putRow mapBlock Sort.ahead; simp, fun b hl hb => sort1_other enc w blk off m d os b (fun e => hb (by rw [e])) hl⟩
theorem sort1_at (enc : α → Value) (w : World) (blk m : Nat) (d : Array α) (os : Array Obj) {cs : Array Value} {t : Nat} (hg : w.heap[blk]? = some (.cells cs t (0, 0))) (hsz : d.size ≤ cs.size) :
    ∃ cs', (sortWorld enc w blk 0 m d os).heap[blk]? = some (.cells cs' t (0, 0)) ∧ cs'.size = cs.size ∧ cs'.toList.take d.size = d.toList.map enc := by
  have hl := (Array.getElem?_eq_some_iff.1 hg).1
  refine ⟨putCells enc 0 d cs, ?_, by simp [putCells], ?_⟩
  · unfold sortWorld Go.Sort.grow putRow mapBlock Sort.ahead
    show ((w.heap.modify blk _) ++ os)[blk]? = _
    rw [Array.getElem?_append_left (by simpa using hl), Array.getElem?_modify, if_pos rfl, hg]
    rfl
  · apply List.ext_getElem?
    intro j
    rw [List.getElem?_take, List.getElem?_map]
    split
    · rename_i hj
      rw [Array.getElem?_toList, putCells, Array.getElem?_mapIdx, Array.getElem?_eq_getElem (by omega)]
      simp [hj]
    · rename_i hj
      rw [List.getElem?_eq_none (by simp; omega)]
      rfl
end
def SortRR (g n c B B0 : Nat) (os : List Int) (l : List (List Val)) (w : World) (e : Ending) (w' : World) : Prop :=
  e = .returned (.tuple #[]) ∧ ∃ es', w'.ownsRow B 63 1 (.slice (some ⟨g, 0, none⟩) n c) n (flat encPart es') ∧ dAll (oldRow B0 w') es' (sortW os l) ∧ w.grownBy w' (some g)
theorem sortRE (g n c B B0 : Nat) (es : List Slc) (l : List (List Val)) (oA : Option Addr) (oN oC : Nat) (os : List Int) (q : Nat) (w : World) (h1 : w.ownsRow B 63 1 (.slice (some ⟨g, 0, none⟩) n c) n (flat encPart es)) (h2 : dAll (oldRow B0 w) es l) (hB : B0 ≤ B) (hn : 0 < n) (hn2 : n ≤ 100000) (hf : ∀ x ∈ l, x.length ≤ 12)
    (ho : rInt w oA oN os) (hoN : oN ≤ 12) (hoB : 0 < oN → ∀ ad, oA = some ad → ad.block < B) (hq : w.cell? ⟨q, 0, none⟩ = some (.slice oA oN oC)) (hqB : q < B) :
    Calls Tryz.prog 289 #[.slice (some ⟨g, 0, none⟩) n c, .func (.func 290) #[] #[.pointer (some ⟨q, 0, none⟩)]] w (SortRR g n c B B0 os l w) := by
  have hlen : es.length = n := by
    have : (flat encPart es).length = n * 1 := h1.1
    rw [flat_length encPart_len] at this
    omega
  have htl : l.length = n := by rw [← h2.len]; exact hlen
  rcases h1 with ⟨_, ⟨e1, _⟩ | ⟨g', cap, cur, e1, b1, b2, b3, b4, b5, b6⟩⟩
  · cases e1
  injection e1 with e1 e2 e3
  injection e1 with e1
  injection e1 with e1
  subst e1
  subst e3
  obtain ⟨m, rfl⟩ : ∃ m, n = m + 1 := ⟨n - 1, by omega⟩
  have hgl := (Array.getElem?_eq_some_iff.1 b2).1
  let E : Fin (m + 1) → Slc := fun i => es[i.1]'(by rw [hlen]; exact i.2)
  let R : Fin (m + 1) → List Val := fun i => l[i.1]'(by rw [htl]; exact i.2)
  let enc : Fin (m + 1) → Value := fun i => (E i).val
  let d : Array (Fin (m + 1)) := (List.finRange (m + 1)).toArray
  have hds : d.size = m + 1 := by simp [d]
  have hfl : ∀ (l : List (Fin (m + 1))), l.map enc = flat encPart (l.map E) := fun l => by
    induction l with
    | nil => rfl
    | cons x l ih => rw [List.map_cons, List.map_cons, flat_cons, ih]; rfl
  have hE : (List.finRange (m + 1)).map E = es := by
    apply List.ext_getElem (by simp [hlen])
    intro i h1 h2
    simp [E]
  have hR : (List.finRange (m + 1)).map R = l := by
    apply List.ext_getElem (by simp [htl])
    intro i h1 h2
    simp [R]
  have hD : ∀ i, oldRow B0 w (E i) (R i) := fun i => by
    obtain ⟨b, hb, hr⟩ := h2.get (j := i.1) (a := E i) (List.getElem?_eq_getElem _)
    rw [List.getElem?_eq_getElem (by rw [htl]; exact i.2)] at hb
    cases hb
    exact hr
  have hH : Holds enc w g 0 d := fun j hj => by
    rw [hds] at hj
    have hdj : d[j]! = ⟨j, hj⟩ := by
      rw [getElem!_pos d j (by rw [hds]; exact hj)]
      simp [d]
    refine ⟨?_, by simp [World.frozen?, b2]⟩
    rw [hdj, World.cell?, b2]
    show cur[0 + j]? = _
    have hb6 : cur.toList.take ((m + 1) * 1) = flat encPart es := b6
    have h3 := congrArg (fun l => l[j]?) hb6
    simp only [List.getElem?_take] at h3
    rw [if_pos (by omega)] at h3
    have hej : es[j]? = some (E ⟨j, hj⟩) := List.getElem?_eq_getElem _
    have hf0 := flat_get encPart_len hej 0 (by omega)
    rw [show j * 1 + 0 = j by omega] at hf0
    rw [hf0] at h3
    rw [Nat.zero_add, ← Array.getElem?_toList, h3]
    rfl
  have keep : ∀ (w' : World), w.grownBy w' (some g) → ∀ i, oldRow B0 w' (E i) (R i) := fun w' hg i => (hD i).kept hg fun k e => by cases e; omega
  have hln : ∀ i, (E i).2.1 ≤ 12 := fun i => by
    have h1 : (R i).length = (E i).2.1 := (hD i).1.len
    have h2 : (R i).length ≤ 12 := hf _ (List.getElem_mem _)
    omega
  have hcmp : CmpLays1 Tryz.prog 290 #[.pointer (some ⟨q, 0, none⟩)] enc (fun i j : Fin (m + 1) => cmpW os (R i) (R j)) g 0 d.size w := fun m' os' dk _ x y => by
    have hg := sort1_grown enc w g 0 m' dk os'
    refine (clo290 (E x).1 (E x).2.1 (E x).2.2 (E y).1 (E y).2.1 (E y).2.2 (R x) (R y) oA oN oC os q _ (keep _ hg x).1 (keep _ hg y).1 (Fl.kept ho hg fun h0 ad e e2 => by injection e2 with e2; have := hoB h0 ad e; omega) (hg.cell hq (fun e => by injection e with e; have e : q = g := e; omega)) (by have := hln x; omega) (by have := hln y; omega) (by omega)).mono ?_
    rintro e w' ⟨rfl, hb⟩
    exact ⟨rfl, hb.grow⟩
  have eg : ∀ args w, (callFunc 290 args).run Tryz.prog w = .ok (.enter 290 args) w := enters_of Tryz.func290 (by kernel_rfl) rfl
  have hcon := Any.slices_SortFunc sortRow enc (fun x => rfl) (fun i j : Fin (m + 1) => cmpW os (R i) (R j)) (cmpW_swo os R) 290 #[.pointer (some ⟨q, 0, none⟩)] g 0 c d w eg hcmp hH hgl (show d.size < 4611686018427387904 from by rw [hds]; exact Nat.lt_of_le_of_lt hn2 (by decide))
  change Calls Tryz.prog 289 _ _ _ at hcon
  rw [hds] at hcon
  refine hcon.mono ?_
  rintro e w' ⟨rfl, d', q', os', hp, hs, rfl⟩
  obtain ⟨hp1, _, hp3⟩ := hp
  rw [hds] at hp1
  have hg := sort1_grown enc w g 0 q' d' os'
  have hp4 : d'.toList.Perm d.toList := by
    have e1 := extract_all hp1
    have e2 := extract_all hds
    rw [e1, e2] at hp3
    exact hp3
  have hsorted : d'.toList.map R = sortW os l := by
    refine sortW_eq ?_ ?_
    · have := hp4.map R
      rwa [show d.toList.map R = l by simp [d, hR]] at this
    · rw [List.pairwise_map, List.pairwise_iff_getElem]
      intro i j hi hj hij
      have hi' : i < d'.size := by simpa using hi
      have hj' : j < d'.size := by simpa using hj
      have := hs i j (Nat.zero_le _) hij (by omega)
      unfold ltOf at this
      rw [decide_eq_false_iff_not, getElem!_pos d' i hi', getElem!_pos d' j hj'] at this
      exact this
  obtain ⟨cs', k1, k2, k3⟩ := sort1_at enc w g q' d' os' b2 (by
    rw [hp1]
    have : cur.size = c * 1 := b5
    omega)
  refine ⟨rfl, d'.toList.map E, ⟨?_, .inr ⟨g, c, cs', rfl, b1, k1, b3, b4, by rw [k2]; exact b5, ?_⟩⟩, ?_, hg⟩
  · rw [flat_length encPart_len]; simp [hp1]
  · rw [← hfl, ← k3, hp1, Nat.mul_one]
  · rw [← hsorted]
    exact dAll.of_get (by simp) fun j a b ha hb => by
      rw [List.getElem?_map] at ha hb
      cases hx : d'.toList[j]? with
      | none => rw [hx] at ha; cases ha
      | some i =>
        rw [hx] at ha hb
        cases ha
        cases hb
        exact keep _ hg i
end
section
open Go.RowKit Go.BigFrame
set_option linter.unusedSimpArgs false
set_option linter.unusedVariables false

theorem wintE (n : Int) (w : World) : Calls Tryz.prog 292 #[.int .i64 n] w fun e w' => e = .returned (intV n).val ∧ Below w.heap.size w w' := by
  by_cases h1 : n < -1073741824
  · have d1 : decide (n < -1073741824) = true := by simp; omega
    have hv : intV n = zV := if_pos (.inl h1)
    go_enter Tryz.func292, Tryz.ntmps292
    go_wp2
    refine bodyPost_ret (v := zV.val) (by simp [results, Tryz.results292, go_sem, zV, Val.val]) rfl ?_
    exact ⟨by first | rfl | rw [hv], by (repeat (first | exact Below.refl _ _ | assumption | refine Below.drew ?_ | refine Below.alloc ?_ (by first | (simp; done) | (simp; omega)) _))⟩
  · have d1 : decide (n < -1073741824) = false := by simp; omega
    by_cases h2 : 1073741824 < n
    · have d2 : decide (1073741824 < n) = true := by simp; omega
      have hv : intV n = zV := if_pos (.inr h2)
      go_enter Tryz.func292, Tryz.ntmps292
      go_wp2
      refine bodyPost_ret (v := zV.val) (by simp [results, Tryz.results292, go_sem, zV, Val.val]) rfl ?_
      exact ⟨by first | rfl | rw [hv], by (repeat (first | exact Below.refl _ _ | assumption | refine Below.drew ?_ | refine Below.alloc ?_ (by first | (simp; done) | (simp; omega)) _))⟩
    · have d2 : decide (1073741824 < n) = false := by simp; omega
      have hv : intV n = ⟨2, n, ⟨#[]⟩⟩ := if_neg (by omega)
      go_enter Tryz.func292, Tryz.ntmps292
      go_wp2
      refine bodyPost_ret (v := (⟨2, n, ⟨#[]⟩⟩ : Val).val) (by simp [results, Tryz.results292, go_sem, Val.val]) rfl ?_
      exact ⟨by first | rfl | rw [hv], by (repeat (first | exact Below.refl _ _ | assumption | refine Below.drew ?_ | refine Below.alloc ?_ (by first | (simp; done) | (simp; omega)) _))⟩
/-- the fingerprint of a list of values -/
def fpB (l : List Val) : List UInt8 := l.flatMap fun v => encRB [v]
def fpS (l : List Val) : ByteArray := ⟨(fpB l).toArray⟩
theorem fpB_inj : ∀ {a b : List Val} (_ : ∀ v ∈ a, validV v = true) (_ : ∀ v ∈ b, validV v = true) (_ : a.length = b.length), fpB a = fpB b → a = b
  | [], [], _, _, _, _ => rfl
  | [], _ :: _, _, _, h, _ => by simp at h
  | _ :: _, [], _, _, h, _ => by simp at h
  | v :: a, u :: b, ha, hb, hl, h => by
    unfold fpB encRB at h
    simp only [List.flatMap_cons, List.flatMap_nil, List.append_nil, List.length_singleton, List.cons_append, List.cons.injEq, true_and] at h
    obtain ⟨e, h2⟩ := encVB_inj (ha v (List.mem_cons_self ..)) (hb u (List.mem_cons_self ..)) h
    rw [e, fpB_inj (fun v hv => ha v (List.mem_cons_of_mem _ hv)) (fun v hv => hb v (List.mem_cons_of_mem _ hv)) (by simpa using hl) (by unfold fpB encRB; simpa using h2)]
theorem fpS_inj {a b : List Val} (ha : ∀ v ∈ a, validV v = true) (hb : ∀ v ∈ b, validV v = true) (h1 : a.length = b.length) (h : (fpS a).data.toList = (fpS b).data.toList) : a = b := fpB_inj ha hb h1 (by simpa [fpS] using h)
theorem fpB_len : ∀ {r : List Val} (_ : ∀ v ∈ r, validV v = true), (fpB r).length ≤ r.length * 67
  | [], _ => by simp [fpB]
  | v :: r, h => by
    have h1 := encVB_len (h v (List.mem_cons_self ..))
    have ih := fpB_len fun v hv => h v (List.mem_cons_of_mem _ hv)
    have e : fpB (v :: r) = encRB [v] ++ fpB r := rfl
    rw [e, List.length_append, List.length_cons]
    unfold encRB
    simp only [List.length_cons, List.flatMap_cons, List.flatMap_nil, List.append_nil]
    omega
theorem encR1_len {v : Val} (h : validV v = true) : (encRB [v]).length ≤ 67 := by
  have h1 := encVB_len h
  unfold encRB
  simp only [List.length_cons, List.flatMap_cons, List.flatMap_nil, List.append_nil]
  omega
set_option maxRecDepth 100000 in
set_option maxHeartbeats 1000000 in
theorem fprintE (rA : Option Addr) (rN rC : Nat) (r : List Val) (w : World) (hr : rVal w rA rN r) (h12 : rN ≤ 12) (hv : ∀ v ∈ r, validV v = true) : Calls Tryz.prog 288 #[.slice rA rN rC] w fun e w' => e = .returned (.string (fpS r)) ∧ Below w.heap.size w w' := by
  obtain ⟨iE, PE⟩ := pByte
  have HR := Lib.hid hr
  have HL := Lib.hid hr.len
  have HV := Lib.hid hv
  clear hr hv
  go_enter Tryz.func288, Tryz.ntmps288
  go_wp2
  go_loopw [3, 10] (fun v i wr => ∃ (k : Nat), k ≤ rN ∧ i = .int .i64 k ∧ Below w.heap.size w wr ∧ Hid (ownD kByte wr w.heap.size v (fpB (r.take k)).length (fpB (r.take k)))) (fun _ i _ => rN - (intOf i).toNat)
  case atStart => exact ⟨0, by omega, rfl, bself _, Lib.hid (ownD.nil _ _)⟩
  case round =>
    obtain ⟨k, hk, rfl, hbw, HO⟩ := hrel
    have HBW := Lib.hid hbw
    by_cases hlt : k < rN
    · obtain ⟨b1, o1, rfl, hc1⟩ := (HR.out.later hbw).opn (by omega)
      obtain ⟨x, hx⟩ := get_some (l := r) (k := k) (by have := HL.out; omega)
      obtain ⟨x1, x2, x3⟩ := hc1 k x hx
      have hvx := HV.out x (List.mem_of_getElem? hx)
      have HTK : Hid (fpB (r.take (k + 1)) = fpB (r.take k) ++ encRB [x]) := Lib.hid (by unfold fpB; rw [take_snoc hx, List.flatMap_append]; simp)
      have hlen : (fpB (r.take k)).length < 900 := by
        have := fpB_len (r := r.take k) fun v hv => HV.out v (List.mem_of_mem_take hv)
        have h2 := List.length_take (i := k) (l := r)
        omega
      have HV0 : Hid (∀ j, u3.ownBlock = some j → w.heap.size ≤ j ∧ j < wr.heap.size) := Lib.hid HO.out.lt
      have HR1 : Hid (rVal ((wr.alloc (.cells #[.int .i64 x.k, .int .i64 x.m, .string x.s] 46)).alloc (.cells #[.int .i64 x.k, .int .i64 x.m, .string x.s] 46)) (some ⟨wr.heap.size + 1, 0, none⟩) 1 [x]) := Lib.hid (fl_of_cells rfl fun j u h => by
        have h : (encVal x)[j]? = some u := by simpa [flat] using h
        have := one_block_Val (wr.alloc (.cells #[.int .i64 x.k, .int .i64 x.m, .string x.s] 46)) 46 x.k x.m x.s j u h
        rw [addr_lit] at this
        simpa using this)
      have HEN := Lib.hid (encodeE (some ⟨wr.heap.size + 1, 0, none⟩) 1 1 [x] ((wr.alloc (.cells #[.int .i64 x.k, .int .i64 x.m, .string x.s] 46)).alloc (.cells #[.int .i64 x.k, .int .i64 x.m, .string x.s] 46)) HR1.out (by omega) (fun v hv => by simp at hv; subst hv; exact hvx))
      have HEL := Lib.hid (encR1_len hvx)
      clear hc1 hx hbw hvx
      go_wp2_with fail
      refine HEN.out.mono ?_
      rintro e w2 ⟨A2, n2, c2, rfl, hrd2, hb2⟩
      have HB2 := Lib.hid (btr (btr (ballo wr _) (ballo _ _)) hb2)
      obtain rfl : n2 = (encRB [x]).length := hrd2.len.symm
      obtain ⟨es2, hf2, hd2⟩ := hrd2
      have hpos2 : 0 < (encRB [x]).length := by simp [encRB]
      obtain ⟨b2, o2, rfl, _⟩ := Fl.lt hf2 (by show 0 < 1; omega) hpos2
      have HF2 := Lib.hid hf2
      have HD2 := Lib.hid hd2
      have HO2 := Lib.hid (HO.out.later HB2.out)
      have hn2b : (encRB [x]).length ≤ 67 := HEL.out
      have hsz2 : w.heap.size ≤ w2.heap.size := Nat.le_trans HBW.out.size HB2.out.size
      clear hf2 hd2 hb2
      go_wp2_with (at_builtin; refine wpList_cat _ rfl _ _ rfl PE HO2.out HF2.out HD2.out rfl rfl (by omega) hsz2 (fun a h p hp => by cases hp) ?_; intro v1 w1 hown hg hat)
      have HOF : Hid (ownD kByte w1 w.heap.size v1 (fpB (r.take (k + 1))).length (fpB (r.take (k + 1)))) := Lib.hid (own_at2 hown HTK.out)
      have HBF := Lib.hid (below_push2 (btr HBW.out HB2.out) hg (fun y e => (HV0.out y e).1))
      clear hown hg hat
      go_wp2
      go_roundw
      case rel => exact ⟨k + 1, by omega, by go_num, HBF.out, HOF⟩
      case measure => simp [intOf]; omega
    · obtain rfl : k = rN := by omega
      have HTT : Hid (r.take k = r) := Lib.hid (List.take_of_length_le (by have := HL.out; omega))
      obtain ⟨A8, c8, rfl, hcc8, hrd8, hfr8⟩ := HO.out.rd
      have hrd9 : rD kByte wr A8 (fpB r).length (fpB r) := by rw [HTT.out] at hrd8; exact hrd8
      have hconv : ∀ W, W = wr → (convert 185 9 (.slice A8 (fpB (r.take k)).length c8)).run Tryz.prog W = .ok (.string (fpS r)) W := fun W e => by
        subst e
        rw [HTT.out]
        clear hrd8
        cases A8 with
        | none =>
          have e0 : (fpB r).length = 0 := by
            obtain ⟨ls, h1, h2⟩ := hrd9
            rcases Nat.eq_zero_or_pos (fpB r).length with h0 | h0
            · exact h0
            · obtain ⟨b, off, e, _⟩ := h1.2 h0
              cases e
          have e1 : fpB r = [] := List.eq_nil_of_length_eq_zero e0
          unfold fpS
          rw [e1]
          simp [convert, run_underlying Tryz.underlying185, run_underlying Tryz.underlying9, run_underlying Tryz.underlying5, Conv.bytesToString]
          rfl
        | some ad =>
          exact run_convert_bytes_back (P := Tryz.prog) W 185 9 5 ad c8 (fpB r) Tryz.underlying185 Tryz.underlying5 Tryz.underlying9 (fun j hj => by
            obtain ⟨b, o, e, hc⟩ := hrd9.opn (by omega)
            cases e
            obtain ⟨a, ha, h1⟩ := hc j _ (List.getElem?_eq_getElem hj)
            have := h1 0 (.int .u8 (a.toNat : Int)) (by show 0 < 1; omega) rfl
            have e : a = (fpB r)[j] := ha
            rw [← e, addr_lit]
            rw [show o + j * kByte.C + 0 = o + j from by show o + j * 1 + 0 = o + j; omega] at this
            exact this)
      have hconv := hconv wr rfl
      clear hrd8 hrd9 hfr8
      go_wp2
      go_ret
      exact ⟨rfl, hbw⟩
end
section
open Go.RowKit Go.BigFrame
set_option linter.unusedSimpArgs false
set_option linter.unusedVariables false

set_option maxRecDepth 100000 in
theorem sizeE (A : Option Addr) (n c : Nat) (t : Tab) (w : World) (ht : rTab w A n t) (hok : okTab t) (hs : sumC t ≤ 1000000) : Calls Tryz.prog 286 #[.slice A n c] w fun e w' => e = .returned (.tuple #[.int .i64 (sumC t), .int .i64 0]) ∧ Below w.heap.size w w' := by
  have HV := Lib.hid (bvalE A n c t w ht hok.1)
  have hn : n ≤ 4096 := by have := ht.len; have := hok.1.1; omega
  have HT := Lib.hid ht
  have HL := Lib.hid ht.len
  have HP := Lib.hid hok.2
  have HS := Lib.hid hs
  clear ht hok hs
  go_enter Tryz.func286, Tryz.ntmps286
  go_wp2_with fail
  refine HV.out.mono ?_
  rintro e w1 ⟨rfl, hb1⟩
  have HB1 := Lib.hid hb1
  clear hb1
  go_wp2
  go_loopw [5, 15] (fun v i wr => ∃ k : Nat, k ≤ n ∧ i = .int .i64 k ∧ v = .int .i64 (sumC (t.take k)) ∧ Below w.heap.size w wr) (fun _ i _ => n - (intOf i).toNat)
  case atStart => exact ⟨0, by omega, rfl, rfl, HB1.out⟩
  case round =>
    obtain ⟨k, hk, rfl, rfl, hbw⟩ := hrel
    have HBW := Lib.hid hbw
    by_cases hlt : k < n
    · obtain ⟨b1, o1, rfl, hc1⟩ := HT.out.opn (by omega)
      obtain ⟨x, hx⟩ := get_some (l := t) (k := k) (by have := HL.out; omega)
      obtain ⟨rA, rN, rC, x1, x2, x3⟩ := hc1 k x hx
      have z1 := cell_later hbw x1
      have z2 := cell_later hbw x2
      have HX := Lib.hid (take_snoc hx)
      have h5 : 0 ≤ sumC (t.take k) := sumC_nn fun y hy => HP.out y (List.mem_of_mem_take hy)
      have hpx := HP.out x (List.mem_of_getElem? hx)
      have h6 : sumC (t.take k) + x.2 ≤ 1000000 := by
        have h3 := sumC_split t (k + 1)
        have h4 := sumC_nn (l := t.drop (k + 1)) fun y hy => HP.out y (List.mem_of_mem_drop hy)
        rw [HX.out, sumC_append] at h3
        simp only [sumC] at h3
        have := HS.out
        omega
      have m1 : IntKind.i64.wrap (sumC (t.take k) + x.2) = sumC (t.take k) + x.2 := by rw [IntKind.wrap_i64]; omega
      have HTS : Hid (sumC (t.take (k + 1)) = sumC (t.take k) + x.2) := Lib.hid (by rw [HX.out, sumC_append]; simp [sumC])
      clear hc1 hx x3 hbw x1 x2
      go_wp2
      go_roundw
      case rel => exact ⟨k + 1, by omega, by go_num, by rw [HTS.out], HBW.out.alloc HBW.out.size _⟩
      case measure => simp [intOf]; omega
    · obtain rfl : k = n := by omega
      have HTT : Hid (t.take k = t) := Lib.hid (List.take_of_length_le (by have := HL.out; omega))
      go_wp2
      go_ret2
      exact ⟨by rw [HTT.out]; rfl, hbw⟩
theorem info63 : (Tryz.prog.info? 63).map (fun i => (i.zero, i.size, i.bytes)) = some (some (.slice none 0 0), 1, 24) := by kernel_rfl
theorem pRow : ∃ i, KinP Tryz.prog kRow 261 i (.slice none 0 0) 24 := by
  obtain ⟨i0, hi, hz0, hz1, hz2⟩ := info_parts info63
  exact ⟨i0, ⟨Tryz.underlying261, hi, hz0, hz1, hz2, rfl, by omega⟩⟩
theorem one_block_Row (w : World) (t : TypeId) (rA : Option Addr) (rN : Nat) (rC : Nat) : ∀ j u, (encPart (rA, rN, rC))[j]? = some u → (w.alloc (.cells #[.slice rA rN rC] t)).cell? ((⟨w.heap.size, 0, none⟩ : Addr).add j) = some u := by
  intro j u h
  have hj : j < 1 := by have := (List.getElem?_eq_some_iff.1 h).1; simpa [encPart] using this
  rw [addr_lit]
  match j, hj with
  | 0, _ => simp [encPart] at h; subst h; simp
/-- the rows of a table, each as often as its count says -/
def rowsX (t : Tab) : List (List Val) := (expV t).map (·.1)
theorem rowsX_snoc {t : Tab} {k : Nat} {x : List Val × Int} (hx : t[k]? = some x) : rowsX (t.take (k + 1)) = rowsX (t.take k) ++ List.replicate x.2.toNat x.1 := by
  unfold rowsX
  rw [take_snoc hx, expV_append, List.map_append]
  simp [expV]
theorem rowsX_len {t : Tab} (h : ∀ x ∈ t, 0 < x.2) : ((rowsX t).length : Int) = sumC t := by
  unfold rowsX
  rw [List.length_map, expV_len h]
def RowsR (t : Tab) (w : World) (e : Ending) (w' : World) : Prop := ∃ A m c', e = .returned (.tuple #[.slice A m c', .int .i64 0]) ∧ rD kRow w' A m (rowsX t) ∧ m ≤ c' ∧ Below w.heap.size w w'
set_option maxRecDepth 100000 in
set_option maxHeartbeats 1000000 in
theorem expandE (A : Option Addr) (n c : Nat) (t : Tab) (w : World) (ht : rTab w A n t) (hok : okTab t) (hs : sumC t ≤ 4096) : Calls Tryz.prog 262 #[.slice A n c] w (RowsR t w) := by
  obtain ⟨iE, PE⟩ := pRow
  have HSZ := Lib.hid (sizeE A n c t w ht hok (by omega))
  have hn : n ≤ 4096 := by have := ht.len; have := hok.1.1; omega
  have HIT := Lib.hid fun W (hb : Below w.heap.size w W) => isTabE A n c t W (ht.later hb) hok
  have HT := Lib.hid ht
  have HL := Lib.hid ht.len
  have HP := Lib.hid hok.2
  have HW := Lib.hid fun x hx => (hok.1.2.2 x hx).1
  have d1 : decide (4096 < sumC t) = false := by simp; omega
  have HS := Lib.hid hs
  clear ht hok hs
  go_enter Tryz.func262, Tryz.ntmps262
  go_wp2_with fail
  refine HSZ.out.mono ?_
  rintro e w1 ⟨rfl, hb1⟩
  have HB1 := Lib.hid hb1
  have HI1 := Lib.hid (HIT.out w1 hb1)
  clear hb1
  go_wp2_with fail
  refine HI1.out.mono ?_
  rintro e w2 ⟨rfl, hb2⟩
  have HB2 := Lib.hid (btr HB1.out hb2)
  clear hb2
  go_wp2
  go_loopw [6, 24] (fun v i wr => ∃ k : Nat, k ≤ n ∧ i = .int .i64 k ∧ Below w.heap.size w wr ∧ Hid (ownD kRow wr w.heap.size v (rowsX (t.take k)).length (rowsX (t.take k)))) (fun _ i _ => n - (intOf i).toNat)
  case atStart => exact ⟨0, by omega, rfl, HB2.out, Lib.hid (ownD.nil _ _)⟩
  case round =>
    obtain ⟨k, hk, rfl, hbw, HO⟩ := hrel
    obtain ⟨wo, rfl⟩ : ∃ wo, wo = wr := ⟨_, rfl⟩
    have HBW := Lib.hid hbw
    by_cases hlt : k < n
    · obtain ⟨b1, o1, rfl, hc1⟩ := HT.out.opn (by omega)
      obtain ⟨x, hx⟩ := get_some (l := t) (k := k) (by have := HL.out; omega)
      obtain ⟨rA, rN, rC, x1, x2, x3⟩ := hc1 k x hx
      have X3 := Lib.hid x3
      have z1 := cell_later hbw x1
      have z2 := cell_later hbw x2
      have HX := Lib.hid (rowsX_snoc hx)
      have hm := List.mem_of_getElem? hx
      have hpx := HP.out x hm
      have hrN : rN ≤ 12 := by have := x3.len; have := HW.out x hm; omega
      have HLEN : Hid (((rowsX (t.take k)).length : Int) + x.2 ≤ 4096) := Lib.hid (by
        have h3 := sumC_split t (k + 1)
        have h4 := sumC_nn (l := t.drop (k + 1)) fun y hy => HP.out y (List.mem_of_mem_drop hy)
        rw [take_snoc hx, sumC_append] at h3
        simp only [sumC] at h3
        have := HS.out
        rw [rowsX_len fun y hy => HP.out y (List.mem_of_mem_take hy)]
        omega)
      have HV0 : Hid (∀ j, u6.ownBlock = some j → w.heap.size ≤ j ∧ j < wo.heap.size) := Lib.hid HO.out.lt
      have hszo : w.heap.size ≤ wo.heap.size := hbw.size
      clear hc1 hx x3 hbw x1 x2 hm
      go_wp2
      go_loopw [6, 30] (fun v j wx => ∃ i : Nat, (i : Int) ≤ x.2 ∧ j = .int .i64 i ∧ Below w.heap.size w wx ∧ wo.heap.size < wx.heap.size ∧ wx.cell? ⟨wo.heap.size, 0, none⟩ = some (.slice rA rN rC) ∧ wx.cell? ⟨wo.heap.size, 1, none⟩ = some (.int .i64 x.2) ∧ Hid (ownD kRow wx w.heap.size v ((rowsX (t.take k)).length + i) (rowsX (t.take k) ++ List.replicate i x.1)) ∧ Hid (∀ y, v.ownBlock = some y → y ≠ wo.heap.size)) (fun _ j _ => x.2.toNat - (intOf j).toNat)
      case atStart => exact ⟨0, by omega, rfl, HBW.out.alloc HBW.out.size _, by simp, by simp, by simp, Lib.hid (by simpa using HO.out.later (ballo _ _)), Lib.hid fun y hy => by have := (HV0.out y hy).2; omega⟩
      case round =>
        obtain ⟨i, hi, rfl, hbx, hsx, q0, q1, HOX, HNE⟩ := hrel
        have HBX := Lib.hid hbx
        by_cases hil : (i : Int) < x.2
        · have HCL := Lib.hid (cloVE rA rN rC x.1 wr (rD_Val.2 (X3.out.later hbx)) (by omega))
          have HVX : Hid (∀ j, u6.ownBlock = some j → w.heap.size ≤ j ∧ j < wr.heap.size) := Lib.hid HOX.out.lt
          have HQ0 := Lib.hid q0
          have HQ1 := Lib.hid q1
          clear hbx q1
          go_wp2_with fail
          refine HCL.out.mono ?_
          rintro e w3 ⟨A3, c3, rfl, hrd3, hcc3, hb3, hfr3, _⟩
          have HB3 := Lib.hid hb3
          have HOA : Hid (ownD kRow (w3.alloc (.cells #[.slice A3 rN c3] 63)) w.heap.size u6 ((rowsX (t.take k)).length + i) (rowsX (t.take k) ++ List.replicate i x.1)) := Lib.hid ((HOX.out.later hb3).later (ballo _ _))
          have HRA : Hid (rVal (w3.alloc (.cells #[.slice A3 rN c3] 63)) A3 rN x.1) := Lib.hid ((rD_Val.1 hrd3).later (ballo _ _))
          have HFF := Lib.hid (far_fresh (n := rN) (w1 := wr) (fun k e => (HVX.out k e).2) (fun a e => (hfr3 a e).1))
          have hsz3 : w.heap.size ≤ (w3.alloc (.cells #[.slice A3 rN c3] 63)).heap.size := by have := HBX.out.size; have := hb3.size; simp; omega
          have hnn : (rowsX (t.take k)).length + i < 1000000 := by have := HLEN.out; omega
          clear hrd3 hb3 hfr3 q0
          go_wp2_with (at_builtin; refine wpList_push _ rfl _ _ rfl PE HOA.out ⟨_, 0, none⟩ (A3, rN, c3) x.1 rfl rfl (one_block_Row _ _ _ _ _) HRA.out HFF.out hnn hsz3 ?_; intro v' w' hown' hgrow hat)
          have hne : some wo.heap.size ≠ u6.ownBlock := fun e => HNE.out _ e.symm rfl
          have HBF := Lib.hid (below_push2 ((btr HBX.out HB3.out).alloc (btr HBX.out HB3.out).size _) hgrow (fun y e => (HVX.out y e).1))
          have s0 := hgrow.cell (cell_later (ballo _ _) (cell_later HB3.out HQ0.out)) hne
          have s1 := hgrow.cell (cell_later (ballo _ _) (cell_later HB3.out HQ1.out)) hne
          have HOF : Hid (ownD kRow w' w.heap.size v' ((rowsX (t.take k)).length + (i + 1)) (rowsX (t.take k) ++ List.replicate (i + 1) x.1)) := Lib.hid (by rw [List.replicate_succ', ← List.append_assoc, ← Nat.add_assoc]; exact hown')
          have HNF : Hid (∀ y, v'.ownBlock = some y → y ≠ wo.heap.size) := Lib.hid fun y hy e => by
            rcases hat with h | h
            · rw [h] at hy; exact HNE.out y hy e
            · rw [h] at hy
              injection hy with hy
              have := HB3.out.size
              simp at hy
              omega
          have hszf : wo.heap.size < w'.heap.size := World.block_lt_of_cell? _ _ s0
          clear hown' hgrow hat hne
          go_wp2
          go_roundw
          case rel => exact ⟨i + 1, by omega, by go_num, HBF.out, hszf, s0, s1, HOF, HNF⟩
          case measure => simp [intOf]; omega
        · have HOF := Lib.hid (own_at2 HOX.out (l' := rowsX (t.take (k + 1))) (by rw [HX.out, show i = x.2.toNat by omega]))
          clear q0 q1
          go_wp2
          go_roundw
          case rel => exact ⟨k + 1, by omega, by go_num, hbx, HOF⟩
          case measure => simp [intOf]; omega
    · obtain rfl : k = n := by omega
      have HTT : Hid (t.take k = t) := Lib.hid (List.take_of_length_le (by have := HL.out; omega))
      obtain ⟨A8, c8, rfl, hcc8, hrd8, hfr8⟩ := HO.out.rd
      have HR8 : Hid (rD kRow wo A8 (rowsX (t.take k)).length (rowsX t)) := Lib.hid (by have h := hrd8; rw [HTT.out] at h; rw [HTT.out]; exact h)
      clear hrd8 hfr8
      go_wp2
      go_ret2
      exact ⟨_, _, _, rfl, HR8.out, hcc8, hbw⟩
end
end Go.Proofs.YthcalfeoejdcgaaGreatDoor
