/- The rows for each key: lists in a map, each in memory of its own; their positions in a map of its own. No program here. -/
import Derived.Test.YthcalfeoejdcgaaGreatDoorZ22
import Derived.Test.YthcalfeoejdcgaaGreatDoorZ05
import Derived.Test.YthcalfeoejdcgaaGreatDoorZ10
import Derived.Test.YthcalfeoejdcgaaGreatDoorZ12
namespace Go.Proofs.YthcalfeoejdcgaaGreatDoor
open Go.RowKit Go.BigFrame
set_option linter.unusedSimpArgs false
set_option linter.unusedVariables false

/-- a block of cells of a type -/
def Tag (w : World) (b : Nat) (e : TypeId) : Prop := ∃ cs fr, w.heap[b]? = some (.cells cs e fr)
theorem Tag.lt {w : World} {b : Nat} {e : TypeId} (h : Tag w b e) : b < w.heap.size := by
  obtain ⟨cs, fr, h⟩ := h
  exact (Array.getElem?_eq_some_iff.1 h).1
theorem Tag.ne {w : World} {a b : Nat} {e f : TypeId} (h : Tag w a e) (k : Tag w b f) (hne : e ≠ f) : a ≠ b := fun h2 => by
  subst h2
  obtain ⟨cs, fr, h⟩ := h
  obtain ⟨ds, gr, k⟩ := k
  rw [h] at k
  cases k
  exact hne rfl
theorem Tag.kept {w w' : World} {b : Nat} {e : TypeId} {row : Option Nat} (h : Tag w b e) (hg : w.grownBy w' row) (hne : some b ≠ row) : Tag w' b e := by
  have hl := h.lt
  obtain ⟨cs, fr, h⟩ := h
  exact ⟨cs, fr, (hg.block b hl hne).trans h⟩
theorem Tag.later {w w' : World} {b : Nat} {e : TypeId} (h : Tag w b e) (hb : Below w.heap.size w w') : Tag w' b e := by
  have hl := h.lt
  obtain ⟨cs, fr, h⟩ := h
  exact ⟨cs, fr, (hb.block b hl).trans h⟩
theorem own_tag {w : World} {B e size n : Nat} {v : Value} {xs : List Value} (h : w.ownsRow B e size v n xs) : ∀ g, v.ownBlock = some g → Tag w g e := fun g hg => by
  rcases h with ⟨_, ⟨e1, _⟩ | ⟨g', cap, cur, e1, b1, b2, _⟩⟩
  · rw [e1] at hg; cases hg
  · rw [e1] at hg
    injection hg with hg
    subst hg
    exact ⟨cur, _, b2⟩
/-- a map's block -/
def IsMap (w : World) (b : Nat) : Prop := ∃ es c, w.heap[b]? = some (.map es c)
theorem IsMap.ne {w : World} {a b : Nat} {e : TypeId} (h : IsMap w a) (k : Tag w b e) : a ≠ b := fun h2 => by
  subst h2
  obtain ⟨es, c, h⟩ := h
  obtain ⟨ds, gr, k⟩ := k
  rw [h] at k
  cases k
theorem Mp.isMap {P : Program} {k : TypeId} {w : World} {b n : Nat} {f : List UInt8 → Option Value} (h : Mp P k w b n f) : IsMap w b := by
  obtain ⟨D, ⟨es, clock, h1, _⟩, _⟩ := h
  exact ⟨_, _, h1⟩
/-- entries whose rows lie in blocks of values of their own -/
def kEntT (B : Nat) : Kin Ent (List Val × Int) where
  enc := encEnt
  C := 2
  e := 65
  ptrs := fun a => [(a.rA, a.rN)]
  D := fun w e x => dEnt w e x ∧ (0 < e.rN → ∀ a, e.rA = some a → B ≤ a.block ∧ Tag w a.block 46)
  len := encEnt_len
  pos := by omega
  one := one1_Ent
  later := fun h hb => ⟨h.1.later hb, fun h0 a e => ⟨(h.2 h0 a e).1, (h.2 h0 a e).2.later hb⟩⟩
  kept := fun h hg hf => ⟨kEnt.kept h.1 hg hf, fun h0 a e => ⟨(h.2 h0 a e).1, (h.2 h0 a e).2.kept hg (hf _ (List.mem_cons_self ..) h0 a e)⟩⟩
  lt := fun h => kEnt.lt h.1
/-- the positions of a list's rows -/
def PosM (g : List UInt8 → Option Value) (t : Tab) : Prop :=
  (∀ (j : Nat) x, t[j]? = some x → g (keyS x.1).data.toList = some (.int .i64 j)) ∧ ∀ s, (∀ x ∈ t, (keyS x.1).data.toList ≠ s) → g s = none
structure GM where
  key : List Val
  tab : Tab
  v : Value
  ib : Nat
  g : List UInt8 → Option Value
def vRow (m : Nat) (r : List Val) : Prop := (∀ v ∈ r, validV v = true) ∧ r.length = m
structure GOk (P : Program) (w : World) (B N m q : Nat) (x : GM) : Prop where
  own : ownD (kEntT B) w B x.v x.tab.length x.tab
  map : Mp P 9 w x.ib N x.g
  pos : PosM x.g x.tab
  kv : vRow m x.key
  rv : ∀ y ∈ x.tab, vRow q y.1
/-- the groups, but for one -/
def GL (P : Program) (w : World) (B N m q : Nat) (l : List GM) (I : Option Nat) : Prop := ∀ (j : Nat) x, l[j]? = some x → some j ≠ I → GOk P w B N m q x
section
variable {P : Program} {w w' : World} {B N m q : Nat} {l : List GM} {I row : Option Nat} {x : GM}
theorem GOk.later (h : GOk P w B N m q x) (hb : Below w.heap.size w w') : GOk P w' B N m q x := ⟨h.own.later hb, h.map.later hb, h.pos, h.kv, h.rv⟩
theorem GOk.mono (h : GOk P w B N m q x) {N' : Nat} (hN : N ≤ N') : GOk P w B N' m q x := ⟨h.own, h.map.mono hN, h.pos, h.kv, h.rv⟩
theorem GOk.tag (h : GOk P w B N m q x) : ∀ g, x.v.ownBlock = some g → Tag w g 65 := by
  obtain ⟨es, h1, _⟩ := h.own
  exact own_tag h1
/-- something that is neither its list nor its map has grown: a map, or a list of entries -/
theorem GOk.kept (h : GOk P w B N m q x) (hg : w.grownBy w' row) (hne : x.v.ownBlock = none ∨ x.v.ownBlock ≠ row) (hm : some x.ib ≠ row) (hr : ∀ b, row = some b → IsMap w b ∨ Tag w b 65) : GOk P w' B N m q x := by
  refine ⟨h.own.kept hg hne (fun a h => by cases h) (fun es ha a hm p hp h0 ad e e2 => ?_), h.map.kept hg hm, h.pos, h.kv, h.rv⟩
  have hp : p ∈ [(a.rA, a.rN)] := hp
  simp at hp
  subst hp
  obtain ⟨j, hj⟩ := List.getElem?_of_mem hm
  obtain ⟨y, _, hy⟩ := ha.get hj
  have ht := (hy.2 h0 ad e).2
  rcases hr _ e2.symm with h | h
  · exact h.ne ht rfl
  · exact Tag.ne h ht (by decide) rfl
theorem GL.later (h : GL P w B N m q l I) (hb : Below w.heap.size w w') : GL P w' B N m q l I := fun j x hj hI => (h j x hj hI).later hb
theorem GL.mono (h : GL P w B N m q l I) {N' : Nat} (hN : N ≤ N') : GL P w B N' m q l I := fun j x hj hI => (h j x hj hI).mono hN
theorem GL.but (h : GL P w B N m q l none) (J : Option Nat) : GL P w B N m q l J := fun j x hj _ => h j x hj (by simp)
/-- a map has grown that is none of theirs -/
theorem GL.map (h : GL P w B N m q l I) {b : Nat} (hg : w.grownBy w' (some b)) (hb : IsMap w b) (hne : ∀ (j : Nat) x, l[j]? = some x → some j ≠ I → x.ib ≠ b) : GL P w' B N m q l I := fun j x hj hI => by
  have hx := h j x hj hI
  refine hx.kept hg ?_ (fun e => hne j x hj hI (by injection e)) (fun c e => by cases e; exact .inl hb)
  cases hv : x.v.ownBlock with
  | none => exact .inl rfl
  | some c => exact .inr fun e => by cases e; exact hb.ne (hx.tag _ hv) rfl
/-- a list has grown that is none of theirs -/
theorem GL.own (h : GL P w B N m q l I) (hg : w.grownBy w' row) (ht : ∀ b, row = some b → Tag w b 65) (hne : ∀ (j : Nat) x b, l[j]? = some x → some j ≠ I → x.v.ownBlock = some b → row ≠ some b) : GL P w' B N m q l I := fun j x hj hI => by
  have hx := h j x hj hI
  refine hx.kept hg ?_ (fun e => hx.map.isMap.ne (ht _ e.symm) rfl) (fun c e => .inr (ht c e))
  cases hv : x.v.ownBlock with
  | none => exact .inl rfl
  | some c => exact .inr fun e => hne j x c hj hI hv e.symm
end
/-- what the groups are like, without the world -/
structure PF (l : List GM) (cb ob : Nat) : Prop where
  apart : ∀ (i j : Nat) x y b, l[i]? = some x → l[j]? = some y → x.v.ownBlock = some b → y.v.ownBlock = some b → i = j
  inn : ∀ (i j : Nat) x y, l[i]? = some x → l[j]? = some y → x.ib = y.ib → i = j
  keys : ∀ (i j : Nat) x y, l[i]? = some x → l[j]? = some y → x.key = y.key → i = j
  far : ∀ x ∈ l, x.ib ≠ cb ∧ x.ib ≠ ob
  two : cb ≠ ob
  lo : ∀ x ∈ l, cb < x.ib
theorem PF.nil {cb ob : Nat} (h : cb ≠ ob) : PF [] cb ob := ⟨fun i j x y b h => by simp at h, fun i j x y h => by simp at h, fun i j x y h => by simp at h, fun x h => by (cases h), h, fun x h => by (cases h)⟩
theorem vRow.inj {m : Nat} {a b : List Val} (ha : vRow m a) (hb : vRow m b) (hm : m ≤ 12) (h : (keyS a).data.toList = (keyS b).data.toList) : a = b :=
  keyS_inj ha.1 hb.1 (by have := ha.2; omega) (by have := hb.2; omega) (by
    cases hx : keyS a with | mk d =>
    cases hy : keyS b with | mk e =>
    rw [hx, hy] at h
    congr 1
    exact Array.toList_inj.1 h)
/-- an entry more, or one with a greater count -/
theorem PosM.add {g : List UInt8 → Option Value} {t : Tab} {q : Nat} (h : PosM g t) (hv : ∀ y ∈ t, vRow q y.1) (hq : q ≤ 12) {r : List Val} (hr : vRow q r) (hn : ∀ y ∈ t, y.1 ≠ r) (n : Int) : PosM (setF g (keyS r).data.toList (.int .i64 (t.length : Nat))) (t ++ [(r, n)]) := by
  refine ⟨fun j x hj => ?_, fun s hs => ?_⟩
  · rw [List.getElem?_append] at hj
    unfold setF
    split at hj
    · have hm := List.mem_of_getElem? hj
      rw [if_neg (fun e => hn x hm (vRow.inj (hv x hm) hr hq e))]
      exact h.1 j x hj
    · rw [List.getElem?_singleton] at hj
      split at hj
      · cases hj
        rw [if_pos rfl]
        congr 2
        omega
      · cases hj
  · unfold setF
    rw [if_neg (fun e => hs (r, n) (by simp) e.symm)]
    exact h.2 s fun y hy => hs y (List.mem_append_left _ hy)
theorem PosM.set {g : List UInt8 → Option Value} {t : Tab} (h : PosM g t) {p : Nat} {x : List Val × Int} (hp : t[p]? = some x) (n : Int) : PosM g (t.set p (x.1, n)) := by
  have hl := (List.getElem?_eq_some_iff.1 hp).1
  refine ⟨fun j y hj => ?_, fun s hs => ?_⟩
  · rw [List.getElem?_set] at hj
    split at hj
    · rename_i e
      subst e
      cases hj
      exact h.1 p x hp
    · exact h.1 j y hj
  · refine h.2 s fun y hy => ?_
    obtain ⟨j, hj⟩ := List.getElem?_of_mem hy
    by_cases e : p = j
    · subst e
      rw [hp] at hj
      cases hj
      exact hs (x.1, n) (List.mem_of_getElem? (i := p) (by rw [List.getElem?_set, if_pos rfl, if_pos hl]))
    · exact hs y (List.mem_of_getElem? (i := j) (by rw [List.getElem?_set, if_neg e]; exact hj))
/-- the rows of a list are different -/
def dRows (t : Tab) : Prop := t.Pairwise fun x y => x.1 ≠ y.1
theorem addC_new {r : List Val} {n : Int} : ∀ {t : Tab} (_ : ∀ y ∈ t, y.1 ≠ r), addC r n t = t ++ [(r, n)]
  | [], _ => rfl
  | x :: t, h => by
    unfold addC
    rw [if_neg (fun e => h x (List.mem_cons_self ..) ((cmpR_zero _ _).1 e)), addC_new fun y hy => h y (List.mem_cons_of_mem _ hy)]
    rfl
theorem addC_hit {r : List Val} {n : Int} : ∀ {t : Tab} {p : Nat} {x : List Val × Int} (_ : dRows t) (_ : t[p]? = some x) (_ : x.1 = r), addC r n t = t.set p (r, x.2 + n)
  | [], p, x, _, h, _ => by simp at h
  | y :: t, 0, x, _, h, e => by
    simp at h
    subst h
    unfold addC
    rw [if_pos ((cmpR_zero _ _).2 e), ← e]
    rfl
  | y :: t, p + 1, x, hd, h, e => by
    obtain ⟨h1, h2⟩ := List.pairwise_cons.1 hd
    have h : t[p]? = some x := by simpa using h
    have hne : y.1 ≠ r := fun e2 => h1 x (List.mem_of_getElem? h) (e2.trans e.symm)
    unfold addC
    rw [if_neg (fun e => hne ((cmpR_zero _ _).1 e)), addC_hit h2 h e]
    rfl
theorem addC_mem {r : List Val} {n : Int} : ∀ {t : Tab} {y : List Val × Int} (_ : y ∈ addC r n t), y.1 = r ∨ ∃ z ∈ t, z.1 = y.1
  | [], y, h => by
    simp [addC] at h
    exact .inl (by rw [h])
  | x :: t, y, h => by
    unfold addC at h
    split at h
    · rcases List.mem_cons.1 h with rfl | h
      · exact .inr ⟨x, List.mem_cons_self .., rfl⟩
      · exact .inr ⟨y, List.mem_cons_of_mem _ h, rfl⟩
    · rcases List.mem_cons.1 h with rfl | h
      · exact .inr ⟨_, List.mem_cons_self .., rfl⟩
      · rcases addC_mem h with h | ⟨z, hz, h⟩
        · exact .inl h
        · exact .inr ⟨z, List.mem_cons_of_mem _ hz, h⟩
theorem addC_rows {r : List Val} {n : Int} : ∀ {t : Tab} (_ : dRows t), dRows (addC r n t)
  | [], _ => by simp [addC, dRows]
  | x :: t, h => by
    obtain ⟨h1, h2⟩ := List.pairwise_cons.1 h
    unfold addC
    split
    · exact List.pairwise_cons.2 ⟨h1, h2⟩
    · rename_i hne
      refine List.pairwise_cons.2 ⟨fun y hy => ?_, addC_rows h2⟩
      rcases addC_mem hy with e | ⟨z, hz, e⟩
      · intro e2; exact hne ((cmpR_zero _ _).2 (e2.trans e))
      · rw [← e]; exact h1 z hz
theorem addC_sum (r : List Val) (n : Int) : ∀ t : Tab, sumC (addC r n t) = sumC t + n
  | [] => by simp [addC, sumC]
  | x :: t => by
    have ih := addC_sum r n t
    unfold addC
    split
    · rw [sumC, sumC]; omega
    · rw [sumC, sumC, ih]; omega
theorem addC_pos {r : List Val} {n : Int} (hn : 0 < n) : ∀ {t : Tab} (_ : ∀ x ∈ t, 0 < x.2), ∀ x ∈ addC r n t, 0 < x.2
  | [], _, x, h => by
    simp [addC] at h
    rw [h]; exact hn
  | y :: t, h, x, hx => by
    have h0 := h y (List.mem_cons_self ..)
    unfold addC at hx
    split at hx
    · rcases List.mem_cons.1 hx with rfl | hx
      · show 0 < y.2 + n; omega
      · exact h x (List.mem_cons_of_mem _ hx)
    · rcases List.mem_cons.1 hx with rfl | hx
      · exact h0
      · exact addC_pos hn (fun z hz => h z (List.mem_cons_of_mem _ hz)) x hx
/-- the groups' lists by their keys -/
def tabOf (k : List Val) : List GM → Tab
  | [] => []
  | x :: l => if cmpR x.key k = 0 then x.tab else tabOf k l
theorem tabOf_mem {k : List Val} : ∀ {l : List GM} {x : GM} (_ : ∀ (i j : Nat) x y, l[i]? = some x → l[j]? = some y → x.key = y.key → i = j) (_ : x ∈ l) (_ : x.key = k), tabOf k l = x.tab
  | [], x, _, h, _ => by cases h
  | y :: l, x, hk, h, e => by
    unfold tabOf
    split
    · rename_i h2
      have h2 := (cmpR_zero _ _).1 h2
      obtain ⟨j, hj⟩ := List.getElem?_of_mem h
      have := hk 0 j y x rfl hj (h2.trans e.symm)
      subst this
      simp at hj
      rw [hj]
    · rename_i h2
      rcases List.mem_cons.1 h with rfl | h
      · exact absurd ((cmpR_zero _ _).2 e) h2
      · exact tabOf_mem (fun i j a b ha hb e => by have := hk (i + 1) (j + 1) a b (by simpa using ha) (by simpa using hb) e; omega) h e
theorem tabOf_none {k : List Val} : ∀ {l : List GM} (_ : ∀ x ∈ l, x.key ≠ k), tabOf k l = []
  | [], _ => rfl
  | y :: l, h => by
    unfold tabOf
    rw [if_neg (fun e => h y (List.mem_cons_self ..) ((cmpR_zero _ _).1 e)), tabOf_none fun x hx => h x (List.mem_cons_of_mem _ hx)]
theorem tabOf_app {k : List Val} {x : GM} : ∀ {l : List GM} (_ : ∀ y ∈ l, y.key ≠ x.key), tabOf k (l ++ [x]) = if cmpR x.key k = 0 then x.tab else tabOf k l
  | [], _ => rfl
  | y :: l, h => by
    have ih := tabOf_app (k := k) (x := x) (l := l) fun z hz => h z (List.mem_cons_of_mem _ hz)
    rw [List.cons_append]
    unfold tabOf
    rw [ih]
    by_cases h1 : cmpR y.key k = 0
    · rw [if_pos h1, if_pos h1, if_neg]
      intro e
      exact h y (List.mem_cons_self ..) (((cmpR_zero _ _).1 h1).trans ((cmpR_zero _ _).1 e).symm)
    · rw [if_neg h1, if_neg h1]
theorem tabOf_set {k : List Val} {x x' : GM} : ∀ {l : List GM} {i : Nat} (_ : ∀ (i j : Nat) x y, l[i]? = some x → l[j]? = some y → x.key = y.key → i = j) (_ : l[i]? = some x) (_ : x'.key = x.key), tabOf k (l.set i x') = if cmpR x.key k = 0 then x'.tab else tabOf k l
  | [], i, _, h, _ => by simp at h
  | y :: l, 0, hk, h, e => by
    simp at h
    subst h
    show (if cmpR x'.key k = 0 then x'.tab else tabOf k l) = if cmpR y.key k = 0 then x'.tab else (if cmpR y.key k = 0 then y.tab else tabOf k l)
    rw [e]
    by_cases h1 : cmpR y.key k = 0
    · rw [if_pos h1, if_pos h1]
    · rw [if_neg h1, if_neg h1, if_neg h1]
  | y :: l, i + 1, hk, h, e => by
    have h : l[i]? = some x := by simpa using h
    have ih := tabOf_set (k := k) (x := x) (x' := x') (l := l) (i := i) (fun i j a b ha hb e => by have := hk (i + 1) (j + 1) a b (by simpa using ha) (by simpa using hb) e; omega) h e
    show (if cmpR y.key k = 0 then y.tab else tabOf k (l.set i x')) = if cmpR x.key k = 0 then x'.tab else (if cmpR y.key k = 0 then y.tab else tabOf k l)
    rw [ih]
    by_cases h1 : cmpR y.key k = 0
    · rw [if_pos h1, if_pos h1, if_neg]
      intro e2
      have := hk 0 (i + 1) y x rfl (by simpa using h) (((cmpR_zero _ _).1 h1).trans ((cmpR_zero _ _).1 e2).symm)
      omega
    · rw [if_neg h1, if_neg h1]
/-- the lists are the rows for their keys -/
structure SemG (m : Nat) (os ps : List Int) (u : Tab) (l : List GM) : Prop where
  tab : ∀ k, vRow m k → nulV k = false → tabOf k l = matV os ps k u
  nn : ∀ x ∈ l, nulV x.key = false
theorem SemG.nil (m : Nat) (os ps : List Int) : SemG m os ps [] [] := ⟨fun k _ _ => rfl, fun x h => by (cases h)⟩
theorem SemG.null {m : Nat} {os ps : List Int} {u : Tab} {l : List GM} (h : SemG m os ps u l) {x : List Val × Int} (hn : nulV (pkV os x.1) = true) : SemG m os ps (u ++ [x]) l :=
  ⟨fun k hk h0 => by
    rw [matV_snoc, h.tab k hk h0]
    unfold matS
    rw [if_neg]
    intro e
    rw [(cmpR_zero _ _).1 e, h0] at hn
    exact Bool.noConfusion hn, h.nn⟩
theorem SemG.set {m : Nat} {os ps : List Int} {u : Tab} {l : List GM} (h : SemG m os ps u l) {cb ob : Nat} (hp : PF l cb ob) {e : List Val × Int} {i : Nat} {x x' : GM} (hi : l[i]? = some x) (hk : x'.key = x.key) (hx : x.key = pkV os e.1) (ht : x'.tab = addC (pkV ps e.1) e.2 x.tab) : SemG m os ps (u ++ [e]) (l.set i x') := by
  refine ⟨fun k hkk h0 => ?_, fun y hy => ?_⟩
  · rw [tabOf_set hp.keys hi hk, matV_snoc]
    unfold matS
    rw [← hx]
    by_cases h1 : cmpR x.key k = 0
    · rw [if_pos h1, if_pos h1, ht, ← h.tab k hkk h0, tabOf_mem hp.keys (List.mem_of_getElem? hi) ((cmpR_zero _ _).1 h1)]
    · rw [if_neg h1, if_neg h1, h.tab k hkk h0]
  · obtain ⟨j, hj⟩ := List.getElem?_of_mem hy
    rw [List.getElem?_set] at hj
    split at hj
    · split at hj
      · cases hj; rw [hk]; exact h.nn x (List.mem_of_getElem? hi)
      · cases hj
    · exact h.nn y (List.mem_of_getElem? hj)
/-- the whole -/
structure GS (P : Program) (w : World) (B N m q cb ob : Nat) (os ps : List Int) (u : Tab) (l : List GM) (fc fo : List UInt8 → Option Value) : Prop where
  gl : GL P w B N m q l none
  pf : PF l cb ob
  c : ∀ x ∈ l, fc (keyS x.key).data.toList = some (.map (some x.ib))
  o : ∀ x ∈ l, (fo (keyS x.key).data.toList).getD (.slice none 0 0) = x.v
  no : ∀ s, (∀ x ∈ l, (keyS x.key).data.toList ≠ s) → fc s = none ∧ fo s = none
  cm : Mp P 9 w cb N fc
  om : Mp P 9 w ob N fo
  sem : SemG m os ps u l
section
variable {P : Program} {w w' : World} {B N m q cb ob : Nat} {os ps : List Int} {u : Tab} {l : List GM} {fc fo : List UInt8 → Option Value}
theorem GS.later (h : GS P w B N m q cb ob os ps u l fc fo) (hb : Below w.heap.size w w') : GS P w' B N m q cb ob os ps u l fc fo := ⟨h.gl.later hb, h.pf, h.c, h.o, h.no, h.cm.later hb, h.om.later hb, h.sem⟩
theorem GS.mono (h : GS P w B N m q cb ob os ps u l fc fo) {N' : Nat} (hN : N ≤ N') : GS P w B N' m q cb ob os ps u l fc fo := ⟨h.gl.mono hN, h.pf, h.c, h.o, h.no, h.cm.mono hN, h.om.mono hN, h.sem⟩
theorem GS.null (h : GS P w B N m q cb ob os ps u l fc fo) {x : List Val × Int} (hn : nulV (pkV os x.1) = true) : GS P w B N m q cb ob os ps (u ++ [x]) l fc fo := ⟨h.gl, h.pf, h.c, h.o, h.no, h.cm, h.om, h.sem.null hn⟩
/-- a new key: a group without rows -/
theorem GS.empty (h : GS P w B N m q cb ob os ps u l fc fo) (hm : m ≤ 12) {k : List Val} (hk : vRow m k) (h0 : nulV k = false) (hn : ∀ x ∈ l, x.key ≠ k)
    (m2 : Mp P 9 w' cb (N + 1) (setF fc (keyS k).data.toList (.map (some w.heap.size)))) (g2 : (w.alloc (.map #[] 0)).grownBy w' (some cb)) :
    GS P w' B (N + 1) m q cb ob os ps u (l ++ [⟨k, [], .slice none 0 0, w.heap.size, fun _ => none⟩]) (setF fc (keyS k).data.toList (.map (some w.heap.size))) fo := by
  have hl : GL P (w.alloc (.map #[] 0)) B N m q l none := h.gl.later (ballo _ _)
  have hcb : cb < w.heap.size := h.cm.lt
  have hob : ob < w.heap.size := h.om.lt
  have hib : ∀ (j : Nat) x, l[j]? = some x → x.ib < w.heap.size := fun j x hj => (h.gl j x hj (by simp)).map.lt
  have hinj : ∀ x ∈ l, (keyS x.key).data.toList ≠ (keyS k).data.toList := fun x hx e => by
    obtain ⟨j, hj⟩ := List.getElem?_of_mem hx
    exact hn x hx ((h.gl j x hj (by simp)).kv.inj hk hm e)
  have hl2 : GL P w' B (N + 1) m q l none := (hl.map g2 (h.cm.later (ballo _ _)).isMap fun j x hj _ => (h.pf.far x (List.mem_of_getElem? hj)).1).mono (by omega)
  have snoc : ∀ {j : Nat} {x : GM}, (l ++ [(⟨k, [], .slice none 0 0, w.heap.size, fun _ => none⟩ : GM)])[j]? = some x → l[j]? = some x ∨ (j = l.length ∧ x = ⟨k, [], .slice none 0 0, w.heap.size, fun _ => none⟩) := fun {j x} hj => by
    rw [List.getElem?_append] at hj
    split at hj
    · exact .inl hj
    · rw [List.getElem?_singleton] at hj
      split at hj
      · cases hj; exact .inr ⟨by omega, rfl⟩
      · cases hj
  have lt : ∀ {j : Nat} {x : GM}, l[j]? = some x → j < l.length := fun hj => (List.getElem?_eq_some_iff.1 hj).1
  have mem : ∀ {x : GM}, x ∈ l ++ [(⟨k, [], .slice none 0 0, w.heap.size, fun _ => none⟩ : GM)] → x ∈ l ∨ x = ⟨k, [], .slice none 0 0, w.heap.size, fun _ => none⟩ := fun hx => by
    rcases List.mem_append.1 hx with h | h
    · exact .inl h
    · exact .inr (List.mem_singleton.1 h)
  refine ⟨fun j x hj _ => ?_, ⟨fun i j x y b hi hj hx hy => ?_, fun i j x y hi hj e => ?_, fun i j x y hi hj e => ?_, fun x hx => ?_, h.pf.two, fun x hx => ?_⟩, fun x hx => ?_, fun x hx => ?_, fun s hs => ?_, m2, ?_, ⟨fun k' hk' h0' => ?_, fun x hx => ?_⟩⟩
  · rcases snoc hj with hj | ⟨_, rfl⟩
    · exact hl2 j x hj (by simp)
    · refine ⟨ownD.nil _ _, ?_, ⟨fun j x h => by simp at h, fun s _ => rfl⟩, hk, fun y hy => by (cases hy)⟩
      exact ((Mp.made (P := P) (k := 9) w).kept g2 (fun e => by injection e with e; omega)).mono (by omega)
  · rcases snoc hi with hi | ⟨_, rfl⟩
    · rcases snoc hj with hj | ⟨_, rfl⟩
      · exact h.pf.apart i j x y b hi hj hx hy
      · cases hy
    · cases hx
  · rcases snoc hi with hi | ⟨hi, rfl⟩
    · rcases snoc hj with hj | ⟨hj, rfl⟩
      · exact h.pf.inn i j x y hi hj e
      · have := hib i x hi; simp only at e; omega
    · rcases snoc hj with hj | ⟨hj, rfl⟩
      · have := hib j y hj; simp only at e; omega
      · omega
  · rcases snoc hi with hi | ⟨hi, rfl⟩
    · rcases snoc hj with hj | ⟨hj, rfl⟩
      · exact h.pf.keys i j x y hi hj e
      · exact absurd e (hn x (List.mem_of_getElem? hi))
    · rcases snoc hj with hj | ⟨hj, rfl⟩
      · exact absurd e.symm (hn y (List.mem_of_getElem? hj))
      · omega
  · rcases mem hx with hx | rfl
    · exact h.pf.far x hx
    · exact ⟨by show w.heap.size ≠ cb; omega, by show w.heap.size ≠ ob; omega⟩
  · rcases mem hx with hx | rfl
    · exact h.pf.lo x hx
    · exact hcb
  · unfold setF
    rcases mem hx with hx | rfl
    · rw [if_neg (hinj x hx)]; exact h.c x hx
    · rw [if_pos rfl]
  · rcases mem hx with hx | rfl
    · exact h.o x hx
    · show (fo (keyS k).data.toList).getD _ = _
      rw [(h.no _ hinj).2]
      rfl
  · unfold setF
    rw [if_neg (fun e => hs ⟨k, [], .slice none 0 0, w.heap.size, fun _ => none⟩ (by simp) e.symm)]
    exact h.no s fun x hx => hs x (List.mem_append_left _ hx)
  · exact ((h.om.later (ballo _ _)).kept g2 (fun e => by injection e with e; exact h.pf.two e.symm)).mono (by omega)
  · rw [tabOf_app hn]
    show (if cmpR k k' = 0 then [] else tabOf k' l) = _
    by_cases e : cmpR k k' = 0
    · rw [if_pos e, ← h.sem.tab k' hk' h0', tabOf_none]
      intro x hx e2
      exact hn x hx (e2.trans ((cmpR_zero _ _).1 e).symm)
    · rw [if_neg e]; exact h.sem.tab k' hk' h0'
  · rcases mem hx with hx | rfl
    · exact h.sem.nn x hx
    · exact h0
variable {i : Nat} {x : GM} {e : List Val × Int} {w1 w2 w3 w4 w5 : World}
/-- a group's list, when its map has grown -/
theorem GS.own_at (h : GS P w B N m q cb ob os ps u l fc fo) (hi : l[i]? = some x) (b1 : Below w.heap.size w w1) (g2 : w1.grownBy w2 (some x.ib)) (b3 : Below w2.heap.size w2 w3) : ownD (kEntT B) w3 B x.v x.tab.length x.tab := by
  have hx := (h.gl i x hi (by simp)).later b1
  refine (hx.own.kept g2 ?_ (fun a h => by cases h) (fun es ha a hm p hp h0 ad e e2 => ?_)).later b3
  · cases hv : x.v.ownBlock with
    | none => exact .inl rfl
    | some c => exact .inr fun e => by cases e; exact hx.map.isMap.ne (hx.tag _ hv) rfl
  · have hp : p ∈ [(a.rA, a.rN)] := hp
    simp at hp
    subst hp
    obtain ⟨j, hj⟩ := List.getElem?_of_mem hm
    obtain ⟨y, _, hy⟩ := ha.get hj
    injection e2 with e2
    exact hx.map.isMap.ne (hy.2 h0 ad e).2 e2.symm
/-- the map of the lists, when a group's map and list have grown -/
theorem GS.om_at (h : GS P w B N m q cb ob os ps u l fc fo) (hi : l[i]? = some x) (b1 : Below w.heap.size w w1) (g2 : w1.grownBy w2 (some x.ib)) (b3 : Below w2.heap.size w2 w3) (g4 : w3.grownBy w4 x.v.ownBlock) : Mp P 9 w4 ob N fo := by
  have h3 : Mp P 9 w3 ob N fo := (((h.om.later b1).kept g2 (fun e => by injection e with e; exact (h.pf.far x (List.mem_of_getElem? hi)).2 e.symm)).later b3)
  refine h3.kept g4 fun e2 => ?_
  obtain ⟨es, h1, _⟩ := h.own_at hi b1 g2 b3
  exact h3.isMap.ne (own_tag h1 _ e2.symm) rfl
/-- a row more in a group -/
theorem GS.push (h : GS P w B N m q cb ob os ps u l fc fo) (hm : m ≤ 12) (hq : q ≤ 12) (hi : l[i]? = some x) (hx : x.key = pkV os e.1) (hr : vRow q (pkV ps e.1)) (hnew : ∀ y ∈ x.tab, y.1 ≠ pkV ps e.1)
    (b1 : Below w.heap.size w w1) (m2 : Mp P 9 w2 x.ib (N + 1) (setF x.g (keyS (pkV ps e.1)).data.toList (.int .i64 (x.tab.length : Nat)))) (g2 : w1.grownBy w2 (some x.ib)) (b3 : Below w2.heap.size w2 w3)
    {v' : Value} (o4 : ownD (kEntT B) w4 B v' (x.tab.length + 1) (x.tab ++ [(pkV ps e.1, e.2)])) (g4 : w3.grownBy w4 x.v.ownBlock) (a4 : v'.ownBlock = x.v.ownBlock ∨ v'.ownBlock = some w3.heap.size)
    (m5 : Mp P 9 w5 ob (N + 1) (setF fo (keyS x.key).data.toList v')) (g5 : w4.grownBy w5 (some ob)) :
    GS P w5 B (N + 1) m q cb ob os ps (u ++ [e]) (l.set i ⟨x.key, x.tab ++ [(pkV ps e.1, e.2)], v', x.ib, setF x.g (keyS (pkV ps e.1)).data.toList (.int .i64 (x.tab.length : Nat))⟩) fc (setF fo (keyS x.key).data.toList v') := by
  have hxo := h.gl i x hi (by simp)
  have hmem := List.mem_of_getElem? hi
  have hil := (List.getElem?_eq_some_iff.1 hi).1
  have hob4 := h.om_at hi b1 g2 b3 g4
  have ht3 : ∀ b, x.v.ownBlock = some b → Tag w3 b 65 := fun b hb => by
    obtain ⟨es, h1, _⟩ := h.own_at hi b1 g2 b3
    exact own_tag h1 b hb
  have hl1 : GL P w1 B N m q l (some i) := (h.gl.but _).later b1
  have hl2 : GL P w2 B N m q l (some i) := hl1.map g2 (hxo.later b1).map.isMap fun j y hj hI e => hI (by rw [h.pf.inn j i y x hj hi e])
  have hl4 : GL P w4 B N m q l (some i) := (hl2.later b3).own g4 ht3 fun j y b hj hI hb e => hI (by rw [h.pf.apart j i y x b hj hi hb e])
  have hl5 : GL P w5 B N m q l (some i) := hl4.map g5 hob4.isMap fun j y hj _ => (h.pf.far y (List.mem_of_getElem? hj)).2
  have hsz : w.heap.size ≤ w3.heap.size := Nat.le_trans b1.size (Nat.le_trans g2.size b3.size)
  have hvlt : ∀ (j : Nat) y b, l[j]? = some y → y.v.ownBlock = some b → b < w3.heap.size := fun j y b hj hb => by
    have := ((h.gl j y hj (by simp)).own.lt b hb).2
    omega
  have get : ∀ {j : Nat} {y y' : GM}, (l.set i y')[j]? = some y → (j = i ∧ y = y') ∨ (j ≠ i ∧ l[j]? = some y) := fun {j y y'} hj => by
    rw [List.getElem?_set] at hj
    split at hj
    · rename_i e
      subst e
      first
        | (rw [if_pos hil] at hj; cases hj; exact .inl ⟨rfl, rfl⟩)
        | (cases hj; exact .inl ⟨rfl, rfl⟩)
    · rename_i e
      exact .inr ⟨fun e2 => e e2.symm, hj⟩
  have mem : ∀ {y y' : GM}, y ∈ l.set i y' → y = y' ∨ ∃ j, j ≠ i ∧ l[j]? = some y := fun {y y'} hy => by
    obtain ⟨j, hj⟩ := List.getElem?_of_mem hy
    rcases get hj with ⟨_, e⟩ | h
    · exact .inl e
    · exact .inr ⟨j, h⟩
  have hkey : ∀ (j : Nat) y, j ≠ i → l[j]? = some y → (keyS y.key).data.toList ≠ (keyS x.key).data.toList := fun j y hne hj e2 => hne (h.pf.keys j i y x hj hi ((h.gl j y hj (by simp)).kv.inj hxo.kv hm e2))
  refine ⟨fun j y hj _ => ?_, ⟨fun a b y z c ha hb hy hz => ?_, fun a b y z ha hb e2 => ?_, fun a b y z ha hb e2 => ?_, fun y hy => ?_, h.pf.two, fun y hy => ?_⟩, fun y hy => ?_, fun y hy => ?_, fun s hs => ?_, ?_, m5, h.sem.set h.pf hi rfl hx (addC_new hnew).symm⟩
  · rcases get hj with ⟨_, rfl⟩ | ⟨hne, hj⟩
    · refine ⟨?_, ?_, hxo.pos.add hxo.rv hq hr hnew e.2, hxo.kv, fun y hy => ?_⟩
      · show ownD (kEntT B) w5 B v' _ _
        rw [List.length_append]
        refine o4.kept g5 ?_ (fun a h => by cases h) (fun es ha a hm p hp h0 ad e e2 => ?_)
        · cases hv : v'.ownBlock with
          | none => exact .inl rfl
          | some c =>
            refine .inr fun e => ?_
            cases e
            obtain ⟨es, h1, _⟩ := o4
            exact hob4.isMap.ne (own_tag h1 _ hv) rfl
        · have hp : p ∈ [(a.rA, a.rN)] := hp
          simp at hp
          subst hp
          obtain ⟨j, hj⟩ := List.getElem?_of_mem hm
          obtain ⟨y, _, hy⟩ := ha.get hj
          injection e2 with e2
          exact hob4.isMap.ne (hy.2 h0 ad e).2 e2.symm
      · have m3 := m2.later b3
        have m4 := m3.kept g4 fun e2 => m3.isMap.ne (ht3 _ e2.symm) rfl
        exact m4.kept g5 (fun e2 => by injection e2 with e2; exact (h.pf.far x hmem).2 e2)
      · rcases List.mem_append.1 hy with hy | hy
        · exact hxo.rv y hy
        · rw [List.mem_singleton] at hy
          rw [hy]; exact hr
    · exact (hl5 j y hj (fun e => hne (by injection e))).mono (by omega)
  · have one : ∀ {a : Nat} {y : GM}, a ≠ i → l[a]? = some y → y.v.ownBlock = some c → v'.ownBlock = some c → False := fun {a y} hne hya hyc hvc => by
      rcases a4 with h4 | h4
      · rw [h4] at hvc
        exact hne (h.pf.apart a i y x c hya hi hyc hvc)
      · rw [h4] at hvc
        injection hvc with hvc
        have := hvlt a y c hya hyc
        omega
    rcases get ha with ⟨ea, rfl⟩ | ⟨na, ha⟩
    · rcases get hb with ⟨eb, rfl⟩ | ⟨nb, hb⟩
      · omega
      · exact (one nb hb hz hy).elim
    · rcases get hb with ⟨eb, rfl⟩ | ⟨nb, hb⟩
      · exact (one na ha hy hz).elim
      · exact h.pf.apart a b y z c ha hb hy hz
  · rcases get ha with ⟨ea, rfl⟩ | ⟨na, ha⟩
    · rcases get hb with ⟨eb, rfl⟩ | ⟨nb, hb⟩
      · omega
      · exact absurd (h.pf.inn b i z x hb hi e2.symm) nb
    · rcases get hb with ⟨eb, rfl⟩ | ⟨nb, hb⟩
      · exact absurd (h.pf.inn a i y x ha hi e2) na
      · exact h.pf.inn a b y z ha hb e2
  · rcases get ha with ⟨ea, rfl⟩ | ⟨na, ha⟩
    · rcases get hb with ⟨eb, rfl⟩ | ⟨nb, hb⟩
      · omega
      · exact absurd (h.pf.keys b i z x hb hi e2.symm) nb
    · rcases get hb with ⟨eb, rfl⟩ | ⟨nb, hb⟩
      · exact absurd (h.pf.keys a i y x ha hi e2) na
      · exact h.pf.keys a b y z ha hb e2
  · rcases mem hy with rfl | ⟨j, _, hj⟩
    · exact h.pf.far x hmem
    · exact h.pf.far y (List.mem_of_getElem? hj)
  · rcases mem hy with rfl | ⟨j, _, hj⟩
    · exact h.pf.lo x hmem
    · exact h.pf.lo y (List.mem_of_getElem? hj)
  · rcases mem hy with rfl | ⟨j, _, hj⟩
    · exact h.c x hmem
    · exact h.c y (List.mem_of_getElem? hj)
  · unfold setF
    rcases mem hy with rfl | ⟨j, hne, hj⟩
    · rw [if_pos rfl]; rfl
    · rw [if_neg (hkey j y hne hj)]
      exact h.o y (List.mem_of_getElem? hj)
  · have hin : ∀ y ∈ l, (keyS y.key).data.toList ≠ s := fun y hy => by
      obtain ⟨j, hj⟩ := List.getElem?_of_mem hy
      by_cases ej : j = i
      · subst ej
        rw [hi] at hj
        cases hj
        exact hs ⟨x.key, x.tab ++ [(pkV ps e.1, e.2)], v', x.ib, _⟩ (List.mem_of_getElem? (i := j) (by rw [List.getElem?_set, if_pos rfl, if_pos hil]))
      · exact hs y (List.mem_of_getElem? (i := j) (by rw [List.getElem?_set, if_neg (Ne.symm ej)]; exact hj))
    unfold setF
    rw [if_neg (fun e2 => hin x hmem e2.symm)]
    exact h.no s hin
  · have c1 : Mp P 9 w3 cb N fc := ((h.cm.later b1).kept g2 (fun e2 => by injection e2 with e2; exact (h.pf.far x hmem).1 e2.symm)).later b3
    have c4 := c1.kept g4 fun e2 => c1.isMap.ne (ht3 _ e2.symm) rfl
    exact (c4.kept g5 (fun e2 => by injection e2 with e2; exact h.pf.two e2)).mono (by omega)
end
section
variable {P : Program} {w w' : World} {B N m q cb ob : Nat} {os ps : List Int} {u : Tab} {l : List GM} {fc fo : List UInt8 → Option Value} {i : Nat} {x : GM} {e : List Val × Int}
/-- a list of entries with one count turned -/
theorem ownT_set {v : Value} {g n c p : Nat} {t : Tab} {y : List Val × Int} (h : ownD (kEntT B) w B v n t) (hv : v = .slice (some ⟨g, 0, none⟩) n c) (hp : t[p]? = some y) (k : Int) :
    ownD (kEntT B) (w.setCell ⟨g, p * 2 + 1, none⟩ (.int .i64 k)) B v n (t.set p (y.1, k)) := by
  obtain ⟨es, h1, h2, h3⟩ := h
  have h1 : w.ownsRow B 65 2 v n (flat encEnt es) := h1
  have hpl := (List.getElem?_eq_some_iff.1 hp).1
  have hel : p < es.length := by rw [h2.len]; exact hpl
  obtain ⟨a, ha⟩ := get_some (l := es) (k := p) hel
  have htag : ∀ b, v.ownBlock = some b → Tag w b 65 := own_tag h1
  have vb : v.ownBlock = some g := by rw [hv]; rfl
  have hg2 : w.grownBy (w.setCell ⟨g, p * 2 + 1, none⟩ (.int .i64 k)) (some g) := ⟨rfl, rfl, rfl, by simp, fun b _ hne => Below.heap_setCell _ _ _ _ (by show b ≠ g; exact fun e => hne (by rw [e]))⟩
  refine ⟨es.set p { a with c := k }, ?_, ?_, fun b hb => ?_⟩
  · show (w.setCell ⟨g, p * 2 + 1, none⟩ (.int .i64 k)).ownsRow B 65 2 v n (flat encEnt (es.set p { a with c := k }))
    rw [hv] at h1 ⊢
    rcases h1 with ⟨l1, ⟨e1, _⟩ | ⟨g', cap, cur, e1, b1, b2, b3, b4, b5, b6⟩⟩
    · cases e1
    · injection e1 with e1 e2 e3
      injection e1 with e1
      injection e1 with e1
      subst e1
      subst e3
      refine ⟨by rw [← l1, flat_length encEnt_len, flat_length encEnt_len, List.length_set], .inr ⟨g, c, cur.setIfInBounds (p * 2 + 1) (.int .i64 k), rfl, b1, heap_setCell_same w g _ _ 65 _ b2, b3, b4, by rw [Array.size_setIfInBounds]; exact b5, ?_⟩⟩
      rw [Array.toList_setIfInBounds, List.take_set]
      rw [b6]
      have hC : ∀ x : Ent, (encEnt x).length = 2 := encEnt_len
      apply List.ext_getElem?
      intro j
      rw [List.getElem?_set]
      have hf := flat_set2 hC es p { a with c := k } hel
      show _ = (flat encEnt (es.set p { a with c := k }))[j]?
      rw [hf]
      have hl2 : (flat encEnt es).length = es.length * 2 := flat_length encEnt_len _
      have hp0 := flat_get hC ha 0 (by omega)
      have hp1 := flat_get hC ha 1 (by omega)
      have hsplit : ((flat encEnt es).take (p * 2)).length = p * 2 := by rw [List.length_take]; omega
      by_cases c1 : j < p * 2
      · rw [if_neg (by omega), List.append_assoc, List.getElem?_append_left (by rw [hsplit]; exact c1), List.getElem?_take, if_pos c1]
      · by_cases c2 : j = p * 2
        · rw [if_neg (by omega), List.append_assoc, List.getElem?_append_right (by rw [hsplit]; omega), hsplit, c2, Nat.sub_self]
          rw [Nat.add_zero] at hp0
          rw [hp0]
          rfl
        · by_cases c3 : j = p * 2 + 1
          · rw [if_pos c3.symm, if_pos (by omega), List.append_assoc, List.getElem?_append_right (by rw [hsplit]; omega), hsplit, c3, show p * 2 + 1 - p * 2 = 1 by omega]
            rfl
          · rw [if_neg (by omega), List.getElem?_append_right (by rw [List.length_append, hsplit, encEnt_len]; omega), List.length_append, hsplit, encEnt_len, List.getElem?_drop]
            congr 1
            omega
  · refine dAll.of_get (by rw [List.length_set, List.length_set]; exact h2.len) fun j b y' hb hy => ?_
    have far : ∀ {b : Ent} {z : List Val × Int}, (kEntT B).D w b z → farFrom ((kEntT B).ptrs b) (some g) := fun {b z} hz q hq h0 ad e e2 => by
      have hq : q ∈ [(b.rA, b.rN)] := hq
      simp at hq
      subst hq
      injection e2 with e2
      exact Tag.ne (htag g vb) (hz.2 h0 ad e).2 (by decide) e2.symm
    rw [List.getElem?_set] at hb hy
    by_cases hj : p = j
    · rw [if_pos hj, if_pos hel] at hb
      rw [if_pos hj, if_pos hpl] at hy
      cases hb
      cases hy
      obtain ⟨z, hz, hr⟩ := h2.get ha
      rw [hp] at hz
      cases hz
      have := (kEntT B).kept hr hg2 (far hr)
      exact ⟨⟨this.1.1, rfl⟩, this.2⟩
    · rw [if_neg hj] at hb hy
      obtain ⟨z, hz, hr⟩ := h2.get hb
      rw [hy] at hz
      cases hz
      exact (kEntT B).kept hr hg2 (far hr)
  · obtain ⟨j, hj⟩ := List.getElem?_of_mem hb
    rw [List.getElem?_set] at hj
    by_cases e : p = j
    · rw [if_pos e, if_pos hel] at hj
      cases hj
      exact fun q hq => h3 a (List.mem_of_getElem? ha) q hq
    · rw [if_neg e] at hj
      exact h3 b (List.mem_of_getElem? hj)
/-- a row that is there already: its count has grown -/
theorem GS.hit (h : GS P w B N m q cb ob os ps u l fc fo) (hi : l[i]? = some x) (hx : x.key = pkV os e.1) (hd : dRows x.tab) {p : Nat} {y : List Val × Int} (hp : x.tab[p]? = some y) (hy : y.1 = pkV ps e.1) {g c n : Nat} (hv : x.v = .slice (some ⟨g, 0, none⟩) n c) :
    ∃ x', GS P (w.setCell ⟨g, p * 2 + 1, none⟩ (.int .i64 (y.2 + e.2))) B N m q cb ob os ps (u ++ [e]) (l.set i x') fc fo := by
  have hxo := h.gl i x hi (by simp)
  have hmem := List.mem_of_getElem? hi
  have hil := (List.getElem?_eq_some_iff.1 hi).1
  have vb : x.v.ownBlock = some g := by rw [hv]; rfl
  have hgt : Tag w g 65 := hxo.tag g vb
  have hn : n = x.tab.length := by
    obtain ⟨A, c', e1, _⟩ := hxo.own.rd
    rw [hv] at e1
    injection e1
  subst hn
  have hg2 : w.grownBy (w.setCell ⟨g, p * 2 + 1, none⟩ (.int .i64 (y.2 + e.2))) (some g) := ⟨rfl, rfl, rfl, by simp, fun b _ hne => Below.heap_setCell _ _ _ _ (by show b ≠ g; exact fun e => hne (by rw [e]))⟩
  have hl2 : GL P (w.setCell ⟨g, p * 2 + 1, none⟩ (.int .i64 (y.2 + e.2))) B N m q l (some i) := (h.gl.but _).own hg2 (fun b e => by cases e; exact hgt) fun j z b hj hI hb e => by
    cases e
    exact hI (by rw [h.pf.apart j i z x g hj hi hb vb])
  have get : ∀ {j : Nat} {z z' : GM}, (l.set i z')[j]? = some z → (j = i ∧ z = z') ∨ (j ≠ i ∧ l[j]? = some z) := fun {j z z'} hj => by
    rw [List.getElem?_set] at hj
    split at hj
    · rename_i e
      subst e
      first
        | (rw [if_pos hil] at hj; cases hj; exact .inl ⟨rfl, rfl⟩)
        | (cases hj; exact .inl ⟨rfl, rfl⟩)
    · rename_i e
      exact .inr ⟨fun e2 => e e2.symm, hj⟩
  have key : ∀ x' : GM, x'.key = x.key → x'.v = x.v → x'.ib = x.ib → GOk P (w.setCell ⟨g, p * 2 + 1, none⟩ (.int .i64 (y.2 + e.2))) B N m q x' → x'.tab = addC (pkV ps e.1) e.2 x.tab → GS P (w.setCell ⟨g, p * 2 + 1, none⟩ (.int .i64 (y.2 + e.2))) B N m q cb ob os ps (u ++ [e]) (l.set i x') fc fo := fun x' k1 k2 k3 hok ht => by
    have back : ∀ {j : Nat} {z : GM}, (l.set i x')[j]? = some z → ∃ z0, l[j]? = some z0 ∧ z.key = z0.key ∧ z.v = z0.v ∧ z.ib = z0.ib := fun {j z} hj => by
      rcases get hj with ⟨rfl, rfl⟩ | ⟨_, hj⟩
      · exact ⟨x, hi, k1, k2, k3⟩
      · exact ⟨z, hj, rfl, rfl, rfl⟩
    have backm : ∀ {z : GM}, z ∈ l.set i x' → ∃ z0 ∈ l, z.key = z0.key ∧ z.v = z0.v ∧ z.ib = z0.ib := fun {z} hz => by
      obtain ⟨j, hj⟩ := List.getElem?_of_mem hz
      obtain ⟨z0, h0, r⟩ := back hj
      exact ⟨z0, List.mem_of_getElem? h0, r⟩
    refine ⟨fun j z hj _ => ?_, ⟨fun a b y z c ha hb hy hz => ?_, fun a b y z ha hb e2 => ?_, fun a b y z ha hb e2 => ?_, fun z hz => ?_, h.pf.two, fun z hz => ?_⟩, fun z hz => ?_, fun z hz => ?_, fun s hs => ?_, ?_, ?_, h.sem.set h.pf hi k1 hx ht⟩
    · rcases get hj with ⟨_, rfl⟩ | ⟨hne, hj⟩
      · exact hok
      · exact hl2 j z hj (fun e => hne (by injection e))
    · obtain ⟨y0, a1, _, a3, _⟩ := back ha
      obtain ⟨z0, b1, _, b3, _⟩ := back hb
      rw [a3] at hy
      rw [b3] at hz
      exact h.pf.apart a b y0 z0 c a1 b1 hy hz
    · obtain ⟨y0, a1, _, _, a3⟩ := back ha
      obtain ⟨z0, b1, _, _, b3⟩ := back hb
      rw [a3, b3] at e2
      exact h.pf.inn a b y0 z0 a1 b1 e2
    · obtain ⟨y0, a1, a3, _⟩ := back ha
      obtain ⟨z0, b1, b3, _⟩ := back hb
      rw [a3, b3] at e2
      exact h.pf.keys a b y0 z0 a1 b1 e2
    · obtain ⟨z0, h0, _, _, h3⟩ := backm hz
      rw [h3]; exact h.pf.far z0 h0
    · obtain ⟨z0, h0, _, _, h3⟩ := backm hz
      rw [h3]; exact h.pf.lo z0 h0
    · obtain ⟨z0, h0, h1, _, h3⟩ := backm hz
      rw [h1, h3]; exact h.c z0 h0
    · obtain ⟨z0, h0, h1, h2, _⟩ := backm hz
      rw [h1, h2]; exact h.o z0 h0
    · refine h.no s fun z hz => ?_
      obtain ⟨j, hj⟩ := List.getElem?_of_mem hz
      by_cases ej : j = i
      · subst ej
        rw [hi] at hj
        cases hj
        have := hs x' (List.mem_of_getElem? (i := j) (by rw [List.getElem?_set, if_pos rfl, if_pos hil]))
        rwa [k1] at this
      · exact hs z (List.mem_of_getElem? (i := j) (by rw [List.getElem?_set, if_neg (Ne.symm ej)]; exact hj))
    · exact h.cm.kept hg2 fun e => by injection e with e; exact h.cm.isMap.ne hgt e
    · exact h.om.kept hg2 fun e => by injection e with e; exact h.om.isMap.ne hgt e
  refine ⟨⟨x.key, x.tab.set p (y.1, y.2 + e.2), x.v, x.ib, x.g⟩, key _ rfl rfl rfl ⟨?_, hxo.map.kept hg2 (fun e => by injection e with e; exact hxo.map.isMap.ne hgt e), hxo.pos.set hp _, hxo.kv, fun z hz => ?_⟩ ?_⟩
  · show ownD (kEntT B) _ B x.v (x.tab.set p (y.1, y.2 + e.2)).length _
    rw [List.length_set]
    exact ownT_set hxo.own hv hp _
  · obtain ⟨j, hj⟩ := List.getElem?_of_mem hz
    rw [List.getElem?_set] at hj
    by_cases e : p = j
    · rw [if_pos e, if_pos (List.getElem?_eq_some_iff.1 hp).1] at hj
      cases hj
      exact hxo.rv y (List.mem_of_getElem? hp)
    · rw [if_neg e] at hj
      exact hxo.rv z (List.mem_of_getElem? hj)
  · show x.tab.set p (y.1, y.2 + e.2) = _
    rw [addC_hit hd hp hy, hy]
/-- what the map tells, read from without -/
def MatRd (P : Program) (w : World) (b N m : Nat) (M : List Val → Tab) : Prop := ∃ f, Mp P 9 w b N f ∧ ∀ k, vRow m k → nulV k = false → ∃ A n c, (f (keyS k).data.toList).getD (.slice none 0 0) = .slice A n c ∧ rTab w A n (M k) ∧ n ≤ c
theorem MatRd.later {M : List Val → Tab} {b : Nat} (h : MatRd P w b N m M) (hb : Below w.heap.size w w') : MatRd P w' b N m M := by
  obtain ⟨f, h1, h2⟩ := h
  refine ⟨f, h1.later hb, fun k hk h0 => ?_⟩
  obtain ⟨A, n, c, e, hr, hc⟩ := h2 k hk h0
  exact ⟨A, n, c, e, hr.later hb, hc⟩
theorem GS.read (h : GS P w B N m q cb ob os ps u l fc fo) (hm : m ≤ 12) : MatRd P w ob N m fun k => matV os ps k u := by
  refine ⟨fo, h.om, fun k hk h0 => ?_⟩
  show ∃ A n c, _ ∧ rTab w A n (matV os ps k u) ∧ _
  rw [← h.sem.tab k hk h0]
  by_cases hex : ∃ x ∈ l, x.key = k
  · obtain ⟨x, hx, e⟩ := hex
    obtain ⟨j, hj⟩ := List.getElem?_of_mem hx
    have hxo := h.gl j x hj (by simp)
    obtain ⟨A, c, ev, hc, hr, _⟩ := hxo.own.rd
    refine ⟨A, x.tab.length, c, by rw [← e, h.o x hx, ev], ?_, hc⟩
    rw [tabOf_mem h.pf.keys hx e]
    obtain ⟨es, h1, h2⟩ := hr
    exact ⟨es, h1, h2.imp fun _ _ h => h.1⟩
  · have hn : ∀ x ∈ l, x.key ≠ k := fun x hx e => hex ⟨x, hx, e⟩
    refine ⟨none, 0, 0, ?_, ?_, Nat.le_refl _⟩
    · rw [(h.no _ fun x hx e => ?_).2]
      · rfl
      · obtain ⟨j, hj⟩ := List.getElem?_of_mem hx
        exact hn x hx ((h.gl j x hj (by simp)).kv.inj hk hm e)
    · rw [tabOf_none hn]
      exact rTab.nil _ _
end
def MokV (ps : List Int) (l u : Tab) : Prop := dRows l ∧ (∀ y ∈ l, 0 < y.2 ∧ ∃ x ∈ u, y.1 = pkV ps x.1) ∧ sumC l ≤ sumC u ∧ l.length ≤ u.length
theorem addC_len (r : List Val) (n : Int) : ∀ t : Tab, (addC r n t).length ≤ t.length + 1
  | [] => by simp [addC]
  | y :: t => by
    have := addC_len r n t
    unfold addC
    split <;> simp only [List.length_cons] <;> omega
theorem MokV.step {os ps : List Int} {k : List Val} {l u : Tab} (h : MokV ps l u) {x : List Val × Int} (hx : 0 < x.2) : MokV ps (matS os ps k l x) (u ++ [x]) := by
  obtain ⟨i1, i2, i3, i4⟩ := h
  unfold MokV
  rw [sumC_append, List.length_append, show sumC [x] = x.2 by simp [sumC]]
  unfold matS
  split
  · refine ⟨addC_rows i1, fun y hy => ⟨addC_pos hx (fun z hz => (i2 z hz).1) y hy, ?_⟩, by rw [addC_sum]; omega, ?_⟩
    · rcases addC_mem hy with e | ⟨z, hz, e⟩
      · exact ⟨x, by simp, e⟩
      · obtain ⟨_, v, hv, e2⟩ := i2 z hz
        exact ⟨v, List.mem_append_left _ hv, e.symm.trans e2⟩
    · have := addC_len (pkV ps x.1) x.2 l
      simp only [List.length_singleton]
      omega
  · exact ⟨i1, fun y hy => by
      obtain ⟨h1, z, hz, h2⟩ := i2 y hy
      exact ⟨h1, z, List.mem_append_left _ hz, h2⟩, by omega, by simp only [List.length_singleton]; omega⟩
theorem MokV.go {os ps : List Int} {k : List Val} : ∀ (u' l u : Tab) (_ : MokV ps l u) (_ : ∀ x ∈ u', 0 < x.2), MokV ps (u'.foldl (matS os ps k) l) (u ++ u')
  | [], l, u, h, _ => by rw [List.append_nil]; exact h
  | x :: u', l, u, h, hp => by
    have := MokV.go (os := os) (ps := ps) (k := k) u' _ _ (h.step (os := os) (k := k) (hp x (List.mem_cons_self ..))) fun y hy => hp y (List.mem_cons_of_mem _ hy)
    rw [List.append_assoc] at this
    exact this
theorem matV_ok {os ps : List Int} {k : List Val} {u : Tab} (h : ∀ x ∈ u, 0 < x.2) : MokV ps (matV os ps k u) u := by
  have := MokV.go (os := os) (ps := ps) (k := k) u [] [] ⟨.nil, fun y h => (by cases h), Int.le_refl _, Nat.le_refl _⟩ h
  exact this
section
variable {P : Program} {k e t : TypeId} {w : World} {ops : Array Oper} {o : Oper} {a : Act} {Q : Exit → Act → World → Prop}
end
end Go.Proofs.YthcalfeoejdcgaaGreatDoor
