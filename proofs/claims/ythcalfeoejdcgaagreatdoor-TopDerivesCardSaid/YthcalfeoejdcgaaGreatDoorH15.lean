import Derived.Deep.AppendLies
import Derived.Test.YthcalfeoejdcgaaGreatDoorH11
namespace Go.Proofs.YthcalfeoejdcgaaGreatDoor
set_option linter.unusedSimpArgs false
set_option linter.unusedVariables false
section
open Go.RowKit Go.BigFrame
def kEntR : Kin Ent Ent where
  enc := encEnt
  C := 2
  e := 65
  ptrs := fun _ => []
  D := fun _ a b => a = b
  len := za5
  pos := by omega
  one := zfn
  later := fun h _ => h
  kept := fun h _ _ => h
  lt := fun _ p hp => by cases hp
theorem pEntR : ∃ i, KinP Tryz.prog kEntR 29 i (.agg #[.slice none 0 0, .int .i64 0]) 32 := by
  obtain ⟨i, h⟩ := pEnt
  exact ⟨i, ⟨h.ht, h.hi, h.hz, h.hs, h.hb, h.hzs, h.small⟩⟩
theorem own_entR {w : World} {B : Nat} {v : Value} {n : Nat} {l : List Ent} : ownD kEntR w B v n l ↔ w.ownsRow B 65 2 v n (flat encEnt l) := by
  constructor
  · rintro ⟨qs, h1, h2, _⟩
    have e : qs = l := zdz h2
    rw [← e]; exact h1
  · intro h
    exact ⟨l, h, zbg l, fun a _ p hp => by cases hp⟩
def Ent.blk (a : Ent) : Option Nat := (Value.slice a.rA a.rN a.rC).ownBlock
def RD (w : World) (B : Nat) (a : Ent) (x : List Val × Int) : Prop := ownD kVal w B (.slice a.rA a.rN a.rC) a.rN x.1 ∧ a.c = x.2
structure RS (w : World) (B : Nat) (v : Value) (qs : List Ent) (t : Tab) : Prop where
  own : w.ownsRow B 65 2 v qs.length (flat encEnt qs)
  rel : dAll (RD w B) qs t
  apart : ∀ (i j : Nat) (a b : Ent) (x : Nat), qs[i]? = some a → qs[j]? = some b → a.blk = some x → b.blk = some x → i = j
  sep : ∀ a ∈ qs, ∀ x, a.blk = some x → v.ownBlock ≠ some x
section
variable {w w' : World} {B n : Nat} {v v' : Value} {qs : List Ent} {t : Tab} {a : Ent} {x : List Val × Int} {row : Option Nat}
theorem RD.lt (h : RD w B a x) : ∀ y, a.blk = some y → B ≤ y ∧ y < w.heap.size := h.1.lt
theorem RD.kept (h : RD w B a x) (hg : w.grownBy w' row) (h1 : a.blk = none ∨ a.blk ≠ row) : RD w' B a x := ⟨h.1.kept hg h1 (fun _ _ => trivial) (fun az _ a _ p hp => by cases hp), h.2⟩
theorem RS.len (h : RS w B v qs t) : t.length = qs.length := h.rel.len.symm
theorem RS.kept (h : RS w B v qs t) (hg : w.grownBy w' row) (h0 : v.ownBlock = none ∨ v.ownBlock ≠ row) (h1 : ∀ a ∈ qs, a.blk = none ∨ a.blk ≠ row) : RS w' B v qs t :=
  ⟨h.own.kept hg h0, dAll.of_get h.rel.len fun j a b ha hb => by
    obtain ⟨b', hb', hr⟩ := h.rel.get ha
    rw [hb] at hb'
    cases hb'
    exact hr.kept hg (h1 a (List.mem_of_getElem? ha)), h.apart, h.sep⟩
theorem RS.inlt (h : RS w B v qs t) : ∀ a ∈ qs, ∀ y, a.blk = some y → B ≤ y ∧ y < w.heap.size := fun a ha y hy => by
  obtain ⟨j, hj⟩ := List.getElem?_of_mem ha
  obtain ⟨b, _, hr⟩ := h.rel.get hj
  exact hr.lt y hy
theorem RS.later (h : RS w B v qs t) (hb : Below w.heap.size w w') : RS w' B v qs t := by
  refine h.kept (row := none) ⟨hb.os, hb.tape, hb.output, hb.size, fun k hk _ => hb.block k hk⟩ ?_ (fun a ha => ?_)
  · cases hv : v.ownBlock
    · exact .inl rfl
    · exact .inr (by simp)
  · cases hv : a.blk
    · exact .inl rfl
    · exact .inr (by simp)
theorem RS.nil (w : World) (B : Nat) : RS w B (.slice none 0 0) [] [] :=
  ⟨World.ownsRow_nil w B _ _, trivial, fun i j a b x h => by simp at h, fun a h => (by simp at h)⟩
theorem RS.push (h : RS w B v qs t) {A : Option Addr} {n c : Nat} {k : Int} {r : List Val} (hr : ownD kVal w B (.slice A n c) n r)
    (hap : ∀ y, (Value.slice A n c).ownBlock = some y → v.ownBlock ≠ some y ∧ ∀ b ∈ qs, b.blk ≠ some y)
    (hown : w'.ownsRow B 65 2 v' (qs.length + 1) (flat encEnt (qs ++ [⟨A, n, c, k⟩]))) (hg : w.grownBy w' v.ownBlock) (hv : v'.ownBlock = v.ownBlock ∨ v'.ownBlock = some w.heap.size) :
    RS w' B v' (qs ++ [⟨A, n, c, k⟩]) (t ++ [(r, k)]) := by
  have hnew : RD w B ⟨A, n, c, k⟩ (r, k) := ⟨hr, rfl⟩
  have hsep : ∀ a ∈ qs ++ [(⟨A, n, c, k⟩ : Ent)], ∀ y, a.blk = some y → v.ownBlock ≠ some y ∧ y < w.heap.size := fun a ha y hy => by
    rcases List.mem_append.1 ha with ha | ha
    · exact ⟨h.sep a ha y hy, (h.inlt a ha y hy).2⟩
    · rw [List.mem_singleton] at ha; subst ha; exact ⟨(hap y hy).1, (hnew.lt y hy).2⟩
  refine ⟨by rw [List.length_append]; exact hown, ?_, fun i j a b y ha hb h1 h2 => ?_, fun a ha y hy => ?_⟩
  · refine dAll.of_get (by rw [List.length_append, List.length_append, h.rel.len]; rfl) fun j a b ha hb => ?_
    obtain ⟨b', hb', hr'⟩ := (h.rel.snoc hnew).get ha
    rw [hb] at hb'
    cases hb'
    have hm := List.mem_of_getElem? ha
    exact hr'.kept hg (by
      cases hx : a.blk with
      | none => exact .inl rfl
      | some y => exact .inr (fun e => (hsep a hm y hx).1 e.symm))
  · rw [List.getElem?_append] at ha hb
    split at ha
    · split at hb
      · exact h.apart i j a b y ha hb h1 h2
      · rw [List.getElem?_singleton] at hb
        split at hb
        · cases hb; exact absurd h1 ((hap y h2).2 a (List.mem_of_getElem? ha))
        · cases hb
    · rw [List.getElem?_singleton] at ha
      split at ha
      · cases ha
        split at hb
        · exact absurd h2 ((hap y h1).2 b (List.mem_of_getElem? hb))
        · rw [List.getElem?_singleton] at hb
          split at hb
          · omega
          · cases hb
      · cases ha
  · rcases hv with hv | hv
    · rw [hv]; exact (hsep a ha y hy).1
    · rw [hv]; intro e2; cases e2; exact absurd (hsep a ha _ hy).2 (by omega)
theorem flat_set3 {α : Type} {enc : α → List Value} {C : Nat} (hC : ∀ x, (enc x).length = C) : ∀ (l : List α) (i : Nat) (x : α), i < l.length → flat enc (l.set i x) = (flat enc l).take (i * C) ++ enc x ++ (flat enc l).drop (i * C + C)
  | [], i, x, h => by simp at h
  | y :: l, 0, x, _ => by
    simp only [List.set_cons_zero, zba, Nat.zero_mul, Nat.zero_add, List.take_zero, List.nil_append]
    rw [List.drop_append, List.drop_of_length_le (by rw [hC]; omega), hC]
    simp
  | y :: l, i + 1, x, h => by
    have ih := flat_set3 hC l i x (by simpa using h)
    have e : (i + 1) * C = (enc y).length + i * C := by rw [hC, Nat.succ_mul]; omega
    rw [List.set_cons_succ, zba, zba, ih, e, List.take_length_add_append, Nat.add_assoc, List.drop_length_add_append]
    simp [List.append_assoc]
theorem RS.turn (h : RS w B v qs t) {i : Nat} {a : Ent} (hi : qs[i]? = some a) {x : List Val × Int} (hp : t[i]? = some x) {w1 : World} (hBw : B ≤ w.heap.size)
    {A2 : Option Addr} {n2 c2 : Nat} {l2 : List Val} (hown : ownD kVal w1 B (.slice A2 n2 c2) n2 l2) (hg : w.grownBy w1 a.blk)
    (hv : (Value.slice A2 n2 c2).ownBlock = a.blk ∨ (Value.slice A2 n2 c2).ownBlock = some w.heap.size) {g n c : Nat} (hvv : v = .slice (some ⟨g, 0, none⟩) n c) :
    RS (w1.setCell ⟨g, i * 2, none⟩ (.slice A2 n2 c2)) B v (qs.set i ⟨A2, n2, c2, a.c⟩) (t.set i (l2, x.2)) := by
  have him := List.mem_of_getElem? hi
  have hilt : i < qs.length := (List.getElem?_eq_some_iff.1 hi).1
  have vb : v.ownBlock = some g := by rw [hvv]; rfl
  have hgB := h.own.lt g vb
  have hbr := h.inlt a him
  have hgw : w1.heap[g]? = w.heap[g]? := hg.block g hgB.2 (fun e => h.sep _ him g e.symm vb)
  have nbl : ∀ y, (Value.slice A2 n2 c2).ownBlock = some y → y ≠ g ∧ (∀ j b, qs[j]? = some b → j ≠ i → b.blk ≠ some y) := fun y hy => by
    rcases hv with hv | hv
    · rw [hv] at hy
      refine ⟨fun e => ?_, fun j b hb hne e => hne (h.apart j i b _ y hb hi e hy)⟩
      have := h.sep _ him y hy
      rw [vb, e] at this
      exact this rfl
    · rw [hv] at hy
      injection hy with hy
      refine ⟨by omega, fun j b hb _ e => ?_⟩
      have := (h.inlt b (List.mem_of_getElem? hb) y e).2; omega
  have hs : ∀ b, b ≠ g → (w1.setCell ⟨g, i * 2, none⟩ (.slice A2 n2 c2)).heap[b]? = w1.heap[b]? := fun b hb => Below.heap_setCell _ _ _ _ (by show b ≠ g; exact hb)
  have hg2 : w1.grownBy (w1.setCell ⟨g, i * 2, none⟩ (.slice A2 n2 c2)) (some g) := ⟨rfl, rfl, rfl, by simp, fun b _ hne => hs b (fun e => hne (by rw [e]))⟩
  have memset : ∀ b ∈ qs.set i ⟨A2, n2, c2, a.c⟩, b = ⟨A2, n2, c2, a.c⟩ ∨ ∃ j, qs[j]? = some b ∧ j ≠ i := fun b hb => by
    obtain ⟨j, hj⟩ := List.getElem?_of_mem hb
    rw [List.getElem?_set] at hj
    split at hj
    · cases hj; exact .inl rfl
    · rename_i hne
      exact .inr ⟨j, hj, fun e => hne e.symm⟩
  refine ⟨?_, ?_, fun j l a' b y ha hb h1 h2 => ?_, fun b hb y hy => ?_⟩
  · have ho := h.own
    rw [hvv] at ho ⊢
    rcases ho with ⟨l1, ⟨e1, _⟩ | ⟨g', cap, cur, e1, b1, b2, b3, b4, b5, b6⟩⟩
    · cases e1
    · injection e1 with e1 e2 e3
      injection e1 with e1
      injection e1 with e1
      subst e1
      subst e2
      subst e3
      have hcur : w1.heap[g]? = some (.cells cur 65 (0, 0)) := hgw.trans b2
      refine ⟨by rw [zau za5, List.length_set], .inr ⟨g, c, cur.setIfInBounds (i * 2) (.slice A2 n2 c2), by rw [List.length_set], b1, heap_setCell_same w1 g _ _ 65 _ hcur, by rw [List.length_set]; exact b3, b4, by rw [Array.size_setIfInBounds]; exact b5, ?_⟩⟩
      rw [List.length_set, Array.toList_setIfInBounds, List.take_set, b6]
      have hf := flat_set3 za5 qs i ⟨A2, n2, c2, a.c⟩ hilt
      apply List.ext_getElem?
      intro j
      rw [hf, List.getElem?_set]
      have hl2 : (flat encEnt qs).length = qs.length * 2 := zau za5 _
      have hsplit : ((flat encEnt qs).take (i * 2)).length = i * 2 := by rw [List.length_take]; omega
      have g1 : (flat encEnt qs)[i * 2 + 1]? = some (.int .i64 a.c) := by have := zbf za5 hi 1 (by omega); simpa [encEnt] using this
      by_cases c1 : j < i * 2
      · rw [if_neg (by omega), List.append_assoc, List.getElem?_append_left (by rw [hsplit]; exact c1), List.getElem?_take, if_pos c1]
      · by_cases c2' : j = i * 2
        · rw [if_pos (by omega), if_pos (by omega), List.append_assoc, List.getElem?_append_right (by rw [hsplit]; omega), hsplit, c2', Nat.sub_self]
          rfl
        · by_cases c3 : j = i * 2 + 1
          · rw [if_neg (by omega), List.append_assoc, List.getElem?_append_right (by rw [hsplit]; omega), hsplit, c3, g1]
            rw [show i * 2 + 1 - i * 2 = 1 by omega]
            rfl
          · rw [if_neg (by omega), List.getElem?_append_right (by rw [List.length_append, hsplit, za5]; omega), List.length_append, hsplit, za5, List.getElem?_drop]
            congr 1
            omega
  · refine dAll.of_get (by rw [List.length_set, List.length_set]; exact h.rel.len) fun j a' b ha hb => ?_
    rw [List.getElem?_set] at ha hb
    by_cases hj : i = j
    · rw [if_pos hj, if_pos hilt] at ha
      rw [if_pos hj, if_pos (by have := h.rel.len; omega)] at hb
      cases ha
      cases hb
      obtain ⟨b', hb', hr⟩ := h.rel.get hi
      rw [hp] at hb'
      cases hb'
      refine ⟨hown.kept hg2 ?_ (fun _ _ => trivial) (fun az _ a _ p hp => by cases hp), hr.2⟩
      cases hx : (Value.slice A2 n2 c2).ownBlock with
      | none => exact .inl rfl
      | some y => exact .inr (fun e2 => (nbl y hx).1 (by injection e2))
    · rw [if_neg hj] at ha hb
      obtain ⟨b', hb', hr⟩ := h.rel.get ha
      rw [hb] at hb'
      cases hb'
      have hm := List.mem_of_getElem? ha
      refine (hr.kept hg ?_).kept hg2 ?_
      · cases hx : a'.blk with
        | none => exact .inl rfl
        | some y => exact .inr (fun e2 => hj (h.apart j i a' _ y ha hi hx e2.symm).symm)
      · cases hx : a'.blk with
        | none => exact .inl rfl
        | some y => exact .inr (fun e2 => by have := h.sep a' hm y hx; rw [vb] at this; exact this e2.symm)
  · rw [List.getElem?_set] at ha hb
    by_cases hj : i = j <;> by_cases hl : i = l
    · omega
    · exfalso
      rw [if_pos hj, if_pos hilt] at ha
      rw [if_neg hl] at hb
      cases ha
      exact (nbl y h1).2 l b hb (Ne.symm hl) h2
    · exfalso
      rw [if_neg hj] at ha
      rw [if_pos hl, if_pos hilt] at hb
      cases hb
      exact (nbl y h2).2 j a' ha (Ne.symm hj) h1
    · rw [if_neg hj] at ha
      rw [if_neg hl] at hb
      exact h.apart j l a' b y ha hb h1 h2
  · rcases memset b hb with rfl | ⟨j, hj, _⟩
    · rw [vb]; intro e2; injection e2 with e2; exact (nbl y hy).1 e2.symm
    · exact h.sep b (List.mem_of_getElem? hj) y hy
theorem RS.cell {A : Option Addr} {c : Nat} (h : RS w B (.slice A n c) qs t) {k : Nat} (ha : qs[k]? = some a) : ∃ g, A = some ⟨g, 0, none⟩ ∧ g < w.heap.size ∧ B ≤ g ∧ w.cell? ⟨g, k * 2, none⟩ = some (.slice a.rA a.rN a.rC) ∧ ∀ o, w.frozen? ⟨g, o, none⟩ = false := by
  have hlt : k < qs.length := (List.getElem?_eq_some_iff.1 ha).1
  obtain ⟨A', c', e, hf, _⟩ := zd9 h.own
  cases e
  obtain ⟨g, off, rfl, hc⟩ := Fl.cells hf za5 (by omega)
  obtain ⟨g', cc, hform, _, _⟩ := World.ownsRow.form h.own (by omega)
  cases hform
  have hl := h.own.lt g rfl
  refine ⟨g, rfl, hl.2, hl.1, ?_, fun o => h.own.frozenAt o⟩
  have := hc k a 0 (.slice a.rA a.rN a.rC) ha (by omega) rfl
  simpa using this
theorem RS.tab (h : RS w B v qs t) : ∃ A c, v = .slice A qs.length c ∧ qs.length ≤ c ∧ rTabF w B A qs.length t := by
  obtain ⟨A, c, e, h1, h2, h3⟩ := (own_entR.2 h.own).rd
  refine ⟨A, c, e, h1, ⟨?_, fun _ a ea => (h3 a ea).1⟩⟩
  obtain ⟨az, f1, f2⟩ := h2
  have e2 : az = qs := zdz f2
  subst e2
  refine ⟨az, f1, h.rel.imp fun a x hr => ?_⟩
  obtain ⟨A2, c2, e2, k1, k2, k3⟩ := hr.1.rd
  cases e2
  exact ⟨⟨zb4.1 k2, hr.2⟩, fun _ a ea => (k3 a ea).1⟩
end
end
section
open Go.RowKit Go.BigFrame
def OwnR (t : Tab) (w : World) (e : Ending) (w' : World) : Prop := ∃ A n c qs, e = .returned (.slice A n c) ∧ qs.length = n ∧ n ≤ c ∧ RS w' w.heap.size (.slice A n c) qs t ∧ Below w.heap.size w w'
theorem apart_new {w : World} {B : Nat} {v u : Value} {qs : List Ent} {t : Tab} (h : RS w B v qs t) (hu : ∀ y, u.ownBlock = some y → w.heap.size ≤ y) : ∀ y, u.ownBlock = some y → v.ownBlock ≠ some y ∧ ∀ b ∈ qs, b.blk ≠ some y := fun y hy =>
  ⟨fun e => by have := (h.own.lt y e).2; have := hu y hy; omega, fun b hb e => by have := (h.inlt b hb y e).2; have := hu y hy; omega⟩
set_option maxRecDepth 100000 in
set_option maxHeartbeats 1000000 in
theorem copiedR (A : Option Addr) (n c : Nat) (t : Tab) (w : World) (ht : rTab w A n t) (hn : n ≤ 4096) (h12 : ∀ x ∈ t, x.1.length ≤ 12) : Calls Tryz.prog 129 #[.slice A n c] w (OwnR t w) := by
  obtain ⟨iE, PE⟩ := pEntR
  have HT := Lib.hid ht
  have H12 := Lib.hid h12
  have HL := Lib.hid ht.len
  clear ht h12
  go_enter Tryz.func129, Tryz.ntmps129
  go_wp2
  go_loopw [3, 8] (fun v i wr => ∃ k : Nat, k ≤ n ∧ i = .int .i64 k ∧ Below w.heap.size w wr ∧ ∃ qs : List Ent, Hid (qs.length = k) ∧ Hid (RS wr w.heap.size v qs (t.take k))) (fun _ i _ => n - (intOf i).toNat)
  case atStart => exact ⟨0, by omega, rfl, za0 _, [], Lib.hid rfl, Lib.hid (RS.nil _ _)⟩
  case round =>
    obtain ⟨k, hk, rfl, hbw, qs, HQ, HO⟩ := hrel
    by_cases hlt : k < n
    · obtain ⟨b1, o1, rfl, hc1⟩ := HT.out.opn (by omega)
      obtain ⟨x, hx⟩ := zah (l := t) (k := k) (by have := HL.out; omega)
      obtain ⟨rA, rN, rC, x1, x2, x3⟩ := hc1 k x hx
      have X3 := Lib.hid x3
      have hrN : rN ≤ 12 := by have := x3.len; have := H12.out x (List.mem_of_getElem? hx); omega
      have hv0 : ∀ j, u3.ownBlock = some j → w.heap.size ≤ j ∧ j < wr.heap.size := HO.out.own.lt
      have HV0 := Lib.hid hv0
      have HBW := Lib.hid hbw
      have HX := Lib.hid (zbc hx)
      have z1 := cell_later hbw x1
      have z2 := cell_later hbw x2
      have i1 : (k : Int) < (n : Int) := by omega
      have HA : Hid (Below w.heap.size w (wr.alloc (.cells #[.slice rA rN rC, .int .i64 x.2] 65))) := Lib.hid (hbw.alloc hbw.size _)
      have c1 : (wr.alloc (.cells #[.slice rA rN rC, .int .i64 x.2] 65)).cell? ⟨wr.heap.size, 0, none⟩ = some (.slice rA rN rC) := by simp
      have c2 : (wr.alloc (.cells #[.slice rA rN rC, .int .i64 x.2] 65)).cell? ⟨wr.heap.size, 1, none⟩ = some (.int .i64 x.2) := by simp
      clear hc1 hx x3 hv0 x1 x2 hbw
      go_wp2_with fail
      have c1d : (wr.alloc (.cells #[.slice rA rN rC, .int .i64 x.2] 65)).drew.cell? ⟨wr.heap.size, 0, none⟩ = some (.slice rA rN rC) := c1
      have c2d : (wr.alloc (.cells #[.slice rA rN rC, .int .i64 x.2] 65)).drew.cell? ⟨wr.heap.size, 1, none⟩ = some (.int .i64 x.2) := c2
      have hk1 : k < 1000000 := by omega
      have hrN1 : rN ≤ 100000 := by omega
      have hne : some wr.heap.size ≠ u3.ownBlock := fun e => by have := HV0.out _ e.symm; omega
      go_region_held3 (fun w' => Below w.heap.size w w' ∧ w'.cell? ⟨wr.heap.size, 0, none⟩ = some (.slice rA rN rC) ∧ w'.cell? ⟨wr.heap.size, 1, none⟩ = some (.int .i64 x.2))
        ((go_split_ands; refine ⟨?_, ?_, ?_⟩ <;> (with_reducible first | exact HA.out.drew | exact c1d | exact c2d | (refine Below.alloc ?_ (Below.size (by assumption)) _; assumption) | exact cell_later (zae _ _) (by assumption) | (exact zaf (by assumption) (by assumption) (fun k e => (HV0.out k e).1)) | exact World.grownBy.cell (by assumption) (by assumption) hne | (refine btr ?_ (by assumption); assumption) | exact cell_later (by assumption) (by assumption))))
        (first
          | (go_at_call 72; go_split_ands; (with_reducible refine (cloVE _ _ _ x.1 _ (zb4.2 (X3.out.later HA.out.drew)) hrN1).mono ?_); rintro e w' ⟨A1, c1', rfl, hrd1, hcc1, hb1, hfr1, hown1⟩; have HB1 := Lib.hid (btr (zae wr _) (zap hb1)); have HSZ := Lib.hid (Nat.le_trans HBW.out.size HB1.out.size); have HF3 : Hid (RS (w'.alloc (.cells #[.slice A1 rN c1', .int .i64 x.2] 65)) w.heap.size u3 qs (t.take k)) := Lib.hid (HO.out.later (HB1.out.alloc HB1.out.size _)); have HF4 : Hid (ownD kVal (w'.alloc (.cells #[.slice A1 rN c1', .int .i64 x.2] 65)) w.heap.size (.slice A1 rN c1') rN x.1) := Lib.hid ((hown1.mono (base' := w.heap.size) HA.out.size).later (zae _ _)); have HF2 : Hid (∀ y, (Value.slice A1 rN c1').ownBlock = some y → u3.ownBlock ≠ some y ∧ ∀ b ∈ qs, b.blk ≠ some y) := Lib.hid (apart_new HO.out (fun y e => Nat.le_trans (zae wr _).size (hown1.lt y e).1)); have HF5 : Hid (ownD kEntR (w'.alloc (.cells #[.slice A1 rN c1', .int .i64 x.2] 65)) w.heap.size u3 k qs) := Lib.hid (own_entR.2 (by have h := HF3.out.own; rw [HQ.out] at h; exact h)))
          | ((refine za3 _ (by rfl) _ _ (by rfl) PE HF5.out ⟨_, 0, none⟩ ⟨A1, rN, c1', x.2⟩ ⟨A1, rN, c1', x.2⟩ (by rfl) (by rfl) (zan _ _ _ _ _ _) rfl (fun p hp => by cases hp) hk1 (Nat.le_trans HSZ.out (zae _ _).size) ?_; intro v' w' hown' hgrow hat)))
      go_split_ands
      have HBF : Hid (Below w.heap.size w w') := Lib.hid (by assumption)
      have HOF : Hid (RS w' w.heap.size v' (qs ++ [⟨A1, rN, c1', x.2⟩]) (t.take (k + 1))) := Lib.hid (by rw [HX.out]; exact HF3.out.push HF4.out HF2.out (by rw [HQ.out]; exact own_entR.1 hown') hgrow hat)
      clear hown' hgrow hat hown1 hrd1 hfr1 hb1
      go_wp2
      go_roundw
      case rel => exact ⟨k + 1, by omega, by go_num, HBF.out, _, Lib.hid (by rw [List.length_append, HQ.out]; rfl), HOF⟩
      case measure => simp [intOf]; omega
    · obtain rfl : k = n := by omega
      obtain ⟨vA, vc, hv4, hvc, _⟩ := HO.out.tab
      rw [HQ.out] at hv4 hvc
      subst hv4
      have HR : Hid (RS wr w.heap.size (.slice vA k vc) qs t) := Lib.hid (by have h := HO.out; rw [List.take_of_length_le (by have := HL.out; omega)] at h; exact h)
      go_wp2
      go_ret
      exact ⟨_, _, _, qs, rfl, HQ.out, hvc, HR.out, hbw⟩
end
end Go.Proofs.YthcalfeoejdcgaaGreatDoor
