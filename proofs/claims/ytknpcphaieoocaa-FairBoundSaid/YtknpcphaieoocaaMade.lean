/- Ready tasks, shares and usages, made by numbers. -/
import Derived.Test.YtknpcphaieoocaaStep
namespace Go.Proofs.Ytknpcphaieoocaa
open Go.RowKit
set_option linter.unusedSimpArgs false
set_option linter.unusedVariables false

/-- a name of an owner -/
def nm : Nat → ByteArray
  | 0 => ⟨#[]⟩
  | 1 => ⟨#[97]⟩
  | 2 => ⟨#[98]⟩
  | _ => ⟨#[99]⟩
/-- a task that is made -/
def goodT (t : Task) : Prop := t.na = none ∧ t.nn = 0 ∧ t.nc = 0 ∧ 1 ≤ t.cost ∧ t.cost ≤ 16 ∧ (∃ j, j < 4 ∧ t.owner = nm j)
/-- what is kept while tasks are made -/
def Sm (w0 : World) (g : Nat) (A : Option Addr) (n c : Nat) (zs : List Int) (e C : Nat) (v : Value) (m : Nat) (xs : List Value) (w : World) : Prop :=
  Gst w g A n c zs ∧ Below w0.heap.size w0 w ∧ w.ownsRow (g + 1) e C v m xs ∧ g < w.heap.size ∧ w0.heap.size ≤ g ∧ (0 < n → ∀ a, A = some a → a.block < w0.heap.size)
section
variable {w0 : World} {g : Nat} {A : Option Addr} {n c : Nat} {zs : List Int} {e C : Nat} {v : Value} {m : Nat} {xs : List Value} {w w' : World}
theorem Sm.next (h : Sm w0 g A n c zs e C v m xs w) (hG : Gst w' g A n c zs) (hg : w.grownBy w' (some g)) : Sm w0 g A n c zs e C v m xs w' := by
  obtain ⟨h1, h2, h3, h4, h5, h6⟩ := h
  refine ⟨hG, h2.grown hg (by omega) (fun k hk => by cases hk; exact h5), h3.kept hg (.inr fun hk => ?_), Nat.lt_of_lt_of_le h4 hg.size, h5, h6⟩
  have := h3.lt g hk
  omega
theorem Sm.alloc (h : Sm w0 g A n c zs e C v m xs w) (o : Obj) : Sm w0 g A n c zs e C v m xs (w.alloc o) := by
  obtain ⟨h1, h2, h3, h4, h5, h6⟩ := h
  exact ⟨h1.later ((Below.refl _ _).alloc (Nat.le_refl _) _), h2.alloc (by omega) _, h3.alloc _, by simp; omega, h5, h6⟩
theorem Sm.drew (h : Sm w0 g A n c zs e C v m xs w) : Sm w0 g A n c zs e C v m xs w.drew := by
  obtain ⟨h1, h2, h3, h4, h5, h6⟩ := h
  exact ⟨h1.of_cells (fun _ => rfl) (fun _ => rfl), h2.drew, h3, h4, h5, h6⟩
theorem Sm.app (h : Sm w0 g A n c zs e C v m xs w) {v' : Value} {m' : Nat} {xs' : List Value} (ho : w'.ownsRow (g + 1) e C v' m' xs') (hg : w.grownBy w' v.ownBlock) : Sm w0 g A n c zs e C v' m' xs' w' := by
  obtain ⟨h1, h2, h3, h4, h5, h6⟩ := h
  have hb : Below (g + 1) w w' := ⟨hg.os, hg.tape, hg.output, hg.size, fun k hk => hg.block k (by omega) (fun e => by have := (h3.lt k e.symm).1; omega)⟩
  refine ⟨?_, h2.grown hg (by omega) (fun k hk => by have := (h3.lt k hk).1; omega), ho, Nat.lt_of_lt_of_le h4 hg.size, h5, h6⟩
  have hgb : ∀ k, k < w.heap.size → k = g → w'.heap[k]? = w.heap[k]? := fun k hk e => by
    subst e
    exact hb.block k (by omega)
  obtain ⟨⟨i, hi, c1⟩, c0, hz, hr, hne, hn, hbd⟩ := h1
  refine ⟨⟨i, hi, (hb.cell (p := ⟨g, 1, none⟩) (by show g < g + 1; omega)).trans c1⟩, (hb.cell (p := ⟨g, 0, none⟩) (by show g < g + 1; omega)).trans c0, (hb.frozen (p := ⟨g, 1, none⟩) (by show g < g + 1; omega)).trans hz, ?_, hne, hn, hbd⟩
  refine ⟨hr.1, fun hp => ?_⟩
  obtain ⟨b, o, e1, hh⟩ := hr.2 hp
  refine ⟨b, o, e1, fun j x hx => ?_⟩
  have hbg : b < g + 1 := by
    have := h6 hp _ e1
    show b < _
    have h7 : b < w0.heap.size := this
    omega
  exact (hb.cell (p := ⟨b, o + j, none⟩) hbg).trans (hh j x hx)
end

theorem one_enc8 (t : Task) : ∀ u ∈ enc8 t, u.oneCell' = true := fun u hx => by
  simp [enc8] at hx
  rcases hx with rfl | rfl | rfl | rfl | rfl | rfl | rfl | rfl <;> rfl
theorem enc8_cells (w : World) (id : Int) (rel : ByteArray) (all : Bool) (day : Int) (owner : ByteArray) (cost pri : Int) (na : Option Addr) (nn nc : Nat) : ∀ j u, (enc8 ⟨id, rel, all, day, owner, cost, pri, na, nn, nc⟩)[j]? = some u → (w.alloc (.cells #[.int .i64 id, .string rel, .bool all, .int .i64 day, .string owner, .int .i64 cost, .int .i64 pri, .slice na nn nc] 41)).cell? ((⟨w.heap.size, 0, none⟩ : Addr).add j) = some u := by
  intro j u h
  rw [addr_lit]
  have hj : j < 8 := by have := (List.getElem?_eq_some_iff.1 h).1; simpa [enc8] using this
  match j, hj with
  | 0, _ => simp [enc8] at h; subst h; simp
  | 1, _ => simp [enc8] at h; subst h; simp
  | 2, _ => simp [enc8] at h; subst h; simp
  | 3, _ => simp [enc8] at h; subst h; simp
  | 4, _ => simp [enc8] at h; subst h; simp
  | 5, _ => simp [enc8] at h; subst h; simp
  | 6, _ => simp [enc8] at h; subst h; simp
  | 7, _ => simp [enc8] at h; subst h; simp
theorem names_cells (w : World) : ∀ j, j < 4 → (w.alloc (.cells #[.string ⟨#[]⟩, .string ⟨#[97]⟩, .string ⟨#[98]⟩, .string ⟨#[99]⟩] 9)).cell? ⟨w.heap.size, j, none⟩ = some (.string (nm j)) := by
  intro j hj
  match j, hj with
  | 0, _ => simp [nm]
  | 1, _ => simp [nm]
  | 2, _ => simp [nm]
  | 3, _ => simp [nm]
theorem step_app_task {ops : Array Oper} {o : Oper} {a : Act} {K : Act → World → Prop} {Q : Exit → Act → World → Prop} {E : Prop}
    (hgd : o.guard = none) (s x : Operand) (hop : o.op = Op.call { callee := Callee.builtin Builtin.append, args := #[s, x], argTypes := #[27, 27] })
    {w0 : World} {g : Nat} {A : Option Addr} {n c : Nat} {zs : List Int} {v : Value} {m : Nat} {xs : List Value} {w : World} {id : Int} {rel : ByteArray} {all : Bool} {day : Int} {owner : ByteArray} {cost pri : Int} {na : Option Addr} {nn nc : Nat}
    (HS : Sm w0 g A n c zs 41 8 v m xs w) (hs : a.eval s = v) (hx : a.eval x = .slice (some ⟨w.heap.size, 0, none⟩) 1 1) (hm : m + 1 ≤ 1000)
    (h : ∀ v' w', Sm w0 g A n c zs 41 8 v' (m + 1) (xs ++ enc8 ⟨id, rel, all, day, owner, cost, pri, na, nn, nc⟩) w' → K (a.put o.dst v') w') :
    if Region.wanted o (yielded ops a.tmps) = true then Oper.wp Try.prog o a (w.alloc (.cells #[.int .i64 id, .string rel, .bool all, .int .i64 day, .string owner, .int .i64 cost, .int .i64 pri, .slice na nn nc] 41)) K Q else E := by
  obtain ⟨i0, hi, hz0, hz1, hz2⟩ := info_parts info41
  have HS1 := HS.alloc (.cells #[.int .i64 id, .string rel, .bool all, .int .i64 day, .string owner, .int .i64 cost, .int .i64 pri, .slice na nn nc] 41)
  exact step_append_own_at hgd s x 27 hop (g + 1) 41 i0 _ 8 96 Try.underlying27 hi hz0 hz1 hz2 rfl (by decide) v m xs hs HS1.2.2.1 _ 1 1 _ hx rfl (enc8_cells w id rel all day owner cost pri na nn nc) (one_enc8 _) (by unfold maxLen; omega) (by omega) HS1.2.2.2.1
    (fun v' w' hown hgr _ _ => h v' w' (HS1.app hown hgr))
theorem Sm.ne {w0 : World} {g : Nat} {A : Option Addr} {n c : Nat} {zs : List Int} {e C : Nat} {v : Value} {m : Nat} {xs : List Value} {w : World} (h : Sm w0 g A n c zs e C v m xs w) : some w.heap.size ≠ some g := by
  intro e
  have := h.2.2.2.1
  simp at e
  omega
theorem Sm.names {w0 : World} {g : Nat} {A : Option Addr} {n c : Nat} {zs : List Int} {e C : Nat} {v : Value} {m : Nat} {xs : List Value} {w : World} (h : Sm w0 g A n c zs e C v m xs w) : ∀ j, j < 4 → (w.alloc (.cells #[.string ⟨#[]⟩, .string ⟨#[97]⟩, .string ⟨#[98]⟩, .string ⟨#[99]⟩] 9)).cell? ⟨w.heap.size, j, none⟩ = some (.string (nm j)) := names_cells w

theorem made_round {w0 : World} {g : Nat} {A : Option Addr} {n c : Nat} {zs : List Int} {v' : Value} {ts : List Task} {q : Nat} {w' : World} {k1 k2 k3 : Nat} {p : Int}
    (HG : ∀ t ∈ ts, goodT t) (hq : 0 < q) (hq9 : q + ts.length < 9)
    (hS : Sm w0 g A n c zs 41 8 v' (ts.length + 1) (flat enc8 ts ++ enc8 ⟨IntKind.i64.wrap (1 + ↑k2), ⟨#[]⟩, false, 0, nm k1, IntKind.i64.wrap (1 + ↑k3), p, none, 0, 0⟩) w') (h1 : (k1 : Int) < 4) (h3 : (k3 : Int) < 16) :
    (∃ (ts : List Task) (q1 : Nat), Value.int IntKind.i64 (↑q - 1) = Value.int IntKind.i64 ↑q1 ∧ Hid (q1 + ts.length < 9 ∧ (∀ t ∈ ts, goodT t) ∧ Sm w0 g A n c zs 41 8 v' ts.length (flat enc8 ts) w')) ∧ (intOf (Value.int IntKind.i64 (↑q - 1))).toNat < (intOf (Value.int IntKind.i64 ↑q)).toNat := by
  refine ⟨⟨ts ++ [⟨IntKind.i64.wrap (1 + ↑k2), ⟨#[]⟩, false, 0, nm k1, IntKind.i64.wrap (1 + ↑k3), p, none, 0, 0⟩], q - 1, by rw [show ((q - 1 : Nat) : Int) = (q : Int) - 1 by omega], Lib.hid ⟨by simp; omega, ?_, ?_⟩⟩, by simp [intOf]; omega⟩
  · intro t ht
    rcases List.mem_append.1 ht with h | h
    · exact HG t h
    · simp at h
      subst h
      refine ⟨rfl, rfl, rfl, ?_, ?_, k1, by omega, rfl⟩ <;> (show _ ≤ _) <;> (simp only [IntKind.wrap_i64]; omega)
  · rw [List.length_append, flat_append]
    simpa [flat] using hS

/-- what is kept while shares and usages are made -/
def S2 (w0 wB : World) (g : Nat) (A : Option Addr) (n c : Nat) (zs : List Int) (v : Value) (m : Nat) (xs : List Value) (v2 : Value) (m2 : Nat) (xs2 : List Value) (w : World) : Prop :=
  Gst w g A n c zs ∧ Below w0.heap.size w0 w ∧ wB.grownBy w (some g) ∧ w.ownsRow wB.heap.size 51 2 v m xs ∧ w.ownsRow wB.heap.size 55 2 v2 m2 xs2 ∧ (∀ k, v.ownBlock = some k → v2.ownBlock ≠ some k) ∧ g < wB.heap.size ∧ w0.heap.size ≤ g ∧ (0 < n → ∀ a, A = some a → a.block < w0.heap.size)
section
variable {w0 wB : World} {g : Nat} {A : Option Addr} {n c : Nat} {zs : List Int} {v : Value} {m : Nat} {xs : List Value} {v2 : Value} {m2 : Nat} {xs2 : List Value} {w w' : World}
theorem grownBy_trans {a b c : World} {g : Nat} (h : a.grownBy b (some g)) (k : b.grownBy c (some g)) : a.grownBy c (some g) :=
  ⟨k.os.trans h.os, k.tape.trans h.tape, k.output.trans h.output, Nat.le_trans h.size k.size, fun i hi hne => (k.block i (Nat.lt_of_lt_of_le hi h.size) hne).trans (h.block i hi hne)⟩
theorem S2.next (h : S2 w0 wB g A n c zs v m xs v2 m2 xs2 w) (hG : Gst w' g A n c zs) (hg : w.grownBy w' (some g)) : S2 w0 wB g A n c zs v m xs v2 m2 xs2 w' := by
  obtain ⟨h1, h2, h3, h4, h5, h6, h7, h8, h9⟩ := h
  refine ⟨hG, h2.grown hg (by have := h3.size; omega) (fun k hk => by cases hk; exact h8), grownBy_trans h3 hg, h4.kept hg (.inr fun hk => ?_), h5.kept hg (.inr fun hk => ?_), h6, h7, h8, h9⟩
  · have := h4.lt g hk; omega
  · have := h5.lt g hk; omega
theorem Gst.below {w w' : World} {g B : Nat} {A : Option Addr} {n c : Nat} {zs : List Int} (h : Gst w g A n c zs) (hb : Below B w w') (hg : g < B) (hA : 0 < n → ∀ a, A = some a → a.block < B) : Gst w' g A n c zs := by
  obtain ⟨⟨i, hi, c1⟩, c0, hz, hr, hne, hn, hbd⟩ := h
  refine ⟨⟨i, hi, (hb.cell (p := ⟨g, 1, none⟩) hg).trans c1⟩, (hb.cell (p := ⟨g, 0, none⟩) hg).trans c0, (hb.frozen (p := ⟨g, 1, none⟩) hg).trans hz, ⟨hr.1, fun hp => ?_⟩, hne, hn, hbd⟩
  obtain ⟨b, o, e1, hh⟩ := hr.2 hp
  exact ⟨b, o, e1, fun j x hx => (hb.cell (p := ⟨b, o + j, none⟩) (show b < B from hA hp _ e1)).trans (hh j x hx)⟩
theorem below_of_grown {w w' : World} {B : Nat} {row : Option Nat} (hg : w.grownBy w' row) (hB : B ≤ w.heap.size) (hr : ∀ k, row = some k → B ≤ k) : Below B w w' :=
  ⟨hg.os, hg.tape, hg.output, hg.size, fun k hk => hg.block k (by omega) (fun e => by have := hr k e.symm; omega)⟩
theorem S2.app1 (h : S2 w0 wB g A n c zs v m xs v2 m2 xs2 w) {v' : Value} {m' : Nat} {xs' : List Value} (o : Obj) (ho : w'.ownsRow wB.heap.size 51 2 v' m' xs') (hg : (w.alloc o).grownBy w' v.ownBlock) (hv : v'.ownBlock = v.ownBlock ∨ v'.ownBlock = some (w.alloc o).heap.size) : S2 w0 wB g A n c zs v' m' xs' v2 m2 xs2 w' := by
  obtain ⟨h1, h2, h3, h4, h5, h6, h7, h8, h9⟩ := h
  have hs := h3.size
  have hsz : (w.alloc o).heap.size = w.heap.size + 1 := World.size_alloc _ _
  have hb0 : Below wB.heap.size w (w.alloc o) := (Below.refl _ w).alloc hs o
  have hb : Below wB.heap.size w w' := hb0.trans (below_of_grown hg (by omega) (fun k hk => (h4.lt k hk).1))
  have hk : v2.ownBlock = none ∨ v2.ownBlock ≠ v.ownBlock := by
    cases he : v2.ownBlock with
    | none => exact .inl rfl
    | some k =>
      refine .inr fun e => ?_
      exact h6 k e.symm he
  have hd : ∀ k, v'.ownBlock = some k → v2.ownBlock ≠ some k := by
    intro k hk1 hk2
    rcases hv with e | e
    · exact h6 k (e.symm.trans hk1) hk2
    · have := (h5.lt k hk2).2
      rw [hk1] at e
      cases e
      omega
  exact ⟨h1.below hb h7 (fun hp a ha => by have := h9 hp a ha; omega), h2.trans (hb.mono (by omega)), ⟨hb.os.trans h3.os, hb.tape.trans h3.tape, hb.output.trans h3.output, Nat.le_trans h3.size hb.size, fun k hk hne => (hb.block k hk).trans (h3.block k hk hne)⟩, ho, (h5.alloc o).kept hg hk, hd, h7, h8, h9⟩
theorem S2.app2 (h : S2 w0 wB g A n c zs v m xs v2 m2 xs2 w) {v' : Value} {m' : Nat} {xs' : List Value} (o : Obj) (ho : w'.ownsRow wB.heap.size 55 2 v' m' xs') (hg : (w.alloc o).grownBy w' v2.ownBlock) (hv : v'.ownBlock = v2.ownBlock ∨ v'.ownBlock = some (w.alloc o).heap.size) : S2 w0 wB g A n c zs v m xs v' m' xs' w' := by
  obtain ⟨h1, h2, h3, h4, h5, h6, h7, h8, h9⟩ := h
  have hs := h3.size
  have hsz : (w.alloc o).heap.size = w.heap.size + 1 := World.size_alloc _ _
  have hb0 : Below wB.heap.size w (w.alloc o) := (Below.refl _ w).alloc hs o
  have hb : Below wB.heap.size w w' := hb0.trans (below_of_grown hg (by omega) (fun k hk => (h5.lt k hk).1))
  have hk : v.ownBlock = none ∨ v.ownBlock ≠ v2.ownBlock := by
    cases he : v.ownBlock with
    | none => exact .inl rfl
    | some k =>
      refine .inr fun e => ?_
      exact h6 k he e.symm
  have hd : ∀ k, v.ownBlock = some k → v'.ownBlock ≠ some k := by
    intro k hk1 hk2
    rcases hv with e | e
    · exact h6 k hk1 (e.symm.trans hk2)
    · have := (h4.lt k hk1).2
      rw [hk2] at e
      cases e
      omega
  exact ⟨h1.below hb h7 (fun hp a ha => by have := h9 hp a ha; omega), h2.trans (hb.mono (by omega)), ⟨hb.os.trans h3.os, hb.tape.trans h3.tape, hb.output.trans h3.output, Nat.le_trans h3.size hb.size, fun k hk hne => (hb.block k hk).trans (h3.block k hk hne)⟩, (h4.alloc o).kept hg hk, ho, hd, h7, h8, h9⟩
theorem pair_cells (w : World) (o : ByteArray) (z : Int) (E : TypeId) : ∀ j u, (enc2 (o, z))[j]? = some u → (w.alloc (.cells #[.string o, .int .i64 z] E)).cell? ((⟨w.heap.size, 0, none⟩ : Addr).add j) = some u := by
  intro j u h
  rw [addr_lit]
  have hj : j < 2 := by have := (List.getElem?_eq_some_iff.1 h).1; simpa [enc2] using this
  match j, hj with
  | 0, _ => simp [enc2] at h; subst h; simp
  | 1, _ => simp [enc2] at h; subst h; simp
theorem one_enc2 (x : ByteArray × Int) : ∀ u ∈ enc2 x, u.oneCell' = true := fun u hx => by
  simp [enc2] at hx
  rcases hx with rfl | rfl <;> rfl
theorem wpl_app_share {ops : Array Oper} {rest : List Oper} (o : Oper) {a : Act} {Q : Exit → Act → World → Prop} (hgd : o.guard = none) (s x : Operand)
    (ho : o.op = .call { callee := .builtin .append, args := #[s, x], argTypes := #[22, 22] }) {nme : ByteArray} {z : Int}
    (h : S2 w0 wB g A n c zs v m xs v2 m2 xs2 w) (hs : a.eval s = v) (hx : a.eval x = .slice (some ⟨w.heap.size, 0, none⟩) 1 1) (hm : m + 1 ≤ 1000)
    (hK : ∀ v' w', S2 w0 wB g A n c zs v' (m + 1) (xs ++ enc2 (nme, z)) v2 m2 xs2 w' → wpList Try.prog ops Q rest (a.put o.dst v') w') :
    wpList Try.prog ops Q (o :: rest) a (w.alloc (.cells #[.string nme, .int .i64 z] 51)) := by
  obtain ⟨i0, hi, hz0, hz1, hz2⟩ := info_parts info51
  have hsz : (w.alloc (.cells #[.string nme, .int .i64 z] 51)).heap.size = w.heap.size + 1 := World.size_alloc _ _
  have hB := h.2.2.1.size
  exact wpList_append_own_at _ hgd s x 22 ho wB.heap.size 51 i0 _ 2 24 Try.underlying22 hi hz0 hz1 hz2 rfl (by decide) v m xs hs (h.2.2.2.1.alloc _) _ 1 1 _ hx rfl (pair_cells w nme z 51) (one_enc2 _) (by unfold maxLen; omega) (by omega) (by omega)
    (fun v' w' hown hgr _ hat => hK v' w' (h.app1 _ hown hgr hat))
theorem wpl_app_usage {ops : Array Oper} {rest : List Oper} (o : Oper) {a : Act} {Q : Exit → Act → World → Prop} (hgd : o.guard = none) (s x : Operand)
    (ho : o.op = .call { callee := .builtin .append, args := #[s, x], argTypes := #[23, 23] }) {nme : ByteArray} {z : Int}
    (h : S2 w0 wB g A n c zs v m xs v2 m2 xs2 w) (hs : a.eval s = v2) (hx : a.eval x = .slice (some ⟨w.heap.size, 0, none⟩) 1 1) (hm : m2 + 1 ≤ 1000)
    (hK : ∀ v' w', S2 w0 wB g A n c zs v m xs v' (m2 + 1) (xs2 ++ enc2 (nme, z)) w' → wpList Try.prog ops Q rest (a.put o.dst v') w') :
    wpList Try.prog ops Q (o :: rest) a (w.alloc (.cells #[.string nme, .int .i64 z] 55)) := by
  obtain ⟨i0, hi, hz0, hz1, hz2⟩ := info_parts info55
  have hsz : (w.alloc (.cells #[.string nme, .int .i64 z] 55)).heap.size = w.heap.size + 1 := World.size_alloc _ _
  have hB := h.2.2.1.size
  exact wpList_append_own_at _ hgd s x 23 ho wB.heap.size 55 i0 _ 2 24 Try.underlying23 hi hz0 hz1 hz2 rfl (by decide) v2 m2 xs2 hs (h.2.2.2.2.1.alloc _) _ 1 1 _ hx rfl (pair_cells w nme z 55) (one_enc2 _) (by unfold maxLen; omega) (by omega) (by omega)
    (fun v' w' hown hgr _ hat => hK v' w' (h.app2 _ hown hgr hat))
theorem S2.start {v0 : Value} {xs0 : List Value} (h : Sm w0 g A n c zs 41 8 v0 m xs0 w) {o : Obj} : S2 w0 (w.alloc o) g A n c zs (.slice none 0 0) 0 (flat enc2 []) (.slice none 0 0) 0 (flat enc2 []) (w.alloc o) := by
  obtain ⟨h1, h2, h3, h4, h5, h6⟩ := h.alloc o
  exact ⟨h1, h2, ⟨rfl, rfl, rfl, Nat.le_refl _, fun _ _ _ => rfl⟩, World.ownsRow_nil _ _ _ _, World.ownsRow_nil _ _ _ _, fun k hk => by simp [Value.ownBlock] at hk, h4, h5, h6⟩
end
theorem S2.snoc1 {w0 wB : World} {g : Nat} {A : Option Addr} {n c : Nat} {zs : List Int} {v : Value} {ss : List (ByteArray × Int)} {x : ByteArray × Int} {v2 : Value} {m2 : Nat} {xs2 : List Value} {w : World}
    (h : S2 w0 wB g A n c zs v (ss.length + 1) (flat enc2 ss ++ enc2 x) v2 m2 xs2 w) : S2 w0 wB g A n c zs v (ss ++ [x]).length (flat enc2 (ss ++ [x])) v2 m2 xs2 w := by
  rw [List.length_append, flat_append]; simpa [flat] using h
theorem S2.snoc2 {w0 wB : World} {g : Nat} {A : Option Addr} {n c : Nat} {zs : List Int} {v : Value} {ss : List (ByteArray × Int)} {x : ByteArray × Int} {v2 : Value} {m2 : Nat} {xs2 : List Value} {w : World}
    (h : S2 w0 wB g A n c zs v2 m2 xs2 v (ss.length + 1) (flat enc2 ss ++ enc2 x) w) : S2 w0 wB g A n c zs v2 m2 xs2 v (ss ++ [x]).length (flat enc2 (ss ++ [x])) w := by
  rw [List.length_append, flat_append]; simpa [flat] using h
theorem smallU_snoc {us : List (ByteArray × Int)} {o : ByteArray} {z : Int} (h : smallU us) (h0 : 0 ≤ z) (h1 : z ≤ 1099511627776) : smallU (us ++ [(o, z)]) := by
  intro x hx
  rcases List.mem_append.1 hx with h2 | h2
  · exact h x h2
  · simp at h2; subst h2; exact ⟨h0, h1⟩
theorem results4 {fn : Func} {t u v x : Tmp} (h : fn.results = #[.tmp t, .tmp u, .tmp v, .tmp x]) (tmps : Array Value) (P : Program) (w : World) :
    (results fn tmps).run P w = .ok (.tuple #[tmps.getD t undef, tmps.getD u undef, tmps.getD v undef, tmps.getD x undef]) w := by simp [results, h]
/-- what is made -/
def MadeR (A : Option Addr) (n c : Nat) (zs : List Int) (w : World) (e : Ending) (w' : World) : Prop :=
  ∃ (A1 A2 A3 : Option Addr) (c1 c2 c3 g : Nat) (ts : List Task) (ss us : List (ByteArray × Int)),
    e = .returned (.tuple #[.slice A1 ts.length c1, .slice A2 ss.length c2, .slice A3 us.length c3, .pointer (some ⟨g, 0, none⟩)])
    ∧ Below w.heap.size w w' ∧ Trow w' A1 ts.length ts ∧ Prow w' A2 ss.length ss ∧ Prow w' A3 us.length us ∧ Gst w' g A n c zs ∧ ts.length < 9 ∧ ss.length ≤ 4 ∧ us.length ≤ 4 ∧ (∀ t ∈ ts, goodT t) ∧ smallU us
    ∧ w.heap.size ≤ g ∧ (∀ a, A1 = some a → g < a.block) ∧ (∀ a, A2 = some a → g < a.block) ∧ (∀ a, A3 = some a → g < a.block)
theorem made_end {A : Option Addr} {n c : Nat} {zs : List Int} {w wr w' : World} {v v1 v2 : Value} {ts : List Task} {ss us : List (ByteArray × Int)} {o : Obj} {g : Nat} (hgw : w.heap.size ≤ g)
    (hG : ∀ t ∈ ts, goodT t) (hT : Sm w g A n c zs 41 8 v ts.length (flat enc8 ts) wr) (hL : ts.length < 9) (hs : ss.length ≤ 4) (hu : us.length ≤ 4) (hsm : smallU us)
    (hS : S2 w (wr.alloc o) g A n c zs v1 ss.length (flat enc2 ss) v2 us.length (flat enc2 us) w') : MadeR A n c zs w (.returned (.tuple #[v, v1, v2, .pointer (some ⟨g, 0, none⟩)])) w' := by
  obtain ⟨h1, h2, h3, h4, h5, h6, h7, h8, h9⟩ := hS
  have hr := (hT.alloc o).2.2.1.kept h3 (.inr fun hk => by have := (hT.alloc o).2.2.1.lt g hk; omega)
  obtain ⟨A1, c1, rfl, r1⟩ := trow_of_own hr
  obtain ⟨A2, c2, rfl, r2⟩ := prow_of_own h4
  obtain ⟨A3, c3, rfl, r3⟩ := prow_of_own h5
  have hsz : (wr.alloc o).heap.size = wr.heap.size + 1 := World.size_alloc _ _
  exact ⟨A1, A2, A3, c1, c2, c3, g, ts, ss, us, rfl, h2, r1, r2, r3, h1, hL, hs, hu, hG, hsm, hgw, fun a ha => by subst ha; have := (hr.lt a.block rfl).1; omega, fun a ha => by subst ha; have := (h4.lt a.block rfl).1; omega, fun a ha => by subst ha; have := (h5.lt a.block rfl).1; omega⟩

set_option maxRecDepth 100000 in
set_option maxHeartbeats 4000000 in
theorem madeE (A : Option Addr) (n c : Nat) (zs : List Int) (w : World) (hn : n ≤ 1000) (hr : Nrow w A n zs) (hbd : ∀ z ∈ zs, -9223372036854775808 ≤ z ∧ z ≤ 9223372036854775807)
    (hA : 0 < n → ∀ a, A = some a → a.block < w.heap.size) :
    Calls Try.prog 10 #[.slice A n c] w fun e w' => MadeR A n c zs w e w' := by
  have B0 : Below w.heap.size w (w.alloc (.cells #[.slice A n c, .int .i64 0] 49)) := (Below.refl _ _).alloc (Nat.le_refl _) _
  have HS : Hid (Sm w w.heap.size A n c zs 41 8 (.slice none 0 0) 0 (flat enc8 []) (w.alloc (.cells #[.slice A n c, .int .i64 0] 49))) :=
    Lib.hid ⟨⟨⟨0, by omega, by simp⟩, by simp, by simp, hr.later B0, fun hp a ha => by have := hA hp a ha; omega, hn, hbd⟩, B0, World.ownsRow_nil _ _ _ _, by simp, Nat.le_refl _, hA⟩
  have HB := Lib.hid hbd
  have HR := Lib.hid hr
  obtain ⟨i0, hi, hz0, hz1, hz2⟩ := info_parts info41
  have HI := Lib.hid hi
  clear B0 hbd hr hA hi
  go_enter Try.func10, Try.ntmps10
  go_wp2_with (go_at_call 24; refine (nextN _ _ _ _ _ _ _ HS.out.1 (by omega) (by omega)).mono ?_; rintro e w1 ⟨k0, rfl, hk0, hG, hgr⟩; have HS1 := Lib.hid (HS.out.next hG hgr); clear hG hgr HS)
  go_loopw [7, 8] (fun r k wv => ∃ (ts : List Task) (q : Nat), k = .int .i64 q ∧ Hid (q + ts.length < 9 ∧ (∀ t ∈ ts, goodT t) ∧ Sm w w.heap.size A n c zs 41 8 r ts.length (flat enc8 ts) wv)) (fun _ k _ => (intOf k).toNat)
  case atStart => exact ⟨[], k0, rfl, Lib.hid ⟨by show k0 + 0 < 9; omega, fun t h => by simp at h, HS1.out⟩⟩
  case round =>
    obtain ⟨ts, q, rfl, HQ⟩ := hrel
    by_cases hq : 0 < q
    · obtain ⟨hq9, hgood, hS⟩ := HQ.out
      have HGD := Lib.hid hgood
      have HS := Lib.hid hS.drew
      have hcap : ts.length + 1 ≤ 1000 := by omega
      clear hgood hS HQ HS1
      go_wp2
      go_region_law (first
        | (go_simp; go_at_call 24; refine (nextN _ _ _ _ _ _ _ HS.out.1 (by omega) (by omega)).mono ?_; rintro e w1 ⟨k0, rfl, hk0, hG, hgr⟩; have hc1 := hgr.cell hc hnb.out; have HS1 := Lib.hid (HS.out.next hG hgr); clear hG hgr HS hc; revert hc1 HS1; intro hc HS)
        | (go_simp; go_at_call 24; refine (nextN _ _ _ _ _ _ _ HS.out.1 (by omega) (by omega)).mono ?_; rintro e w1 ⟨k0, rfl, hk0, hG, hgr⟩; have hc := hgr.cell (HN.out k0 (by omega)) hnb.out; have HS1 := Lib.hid (HS.out.next hG hgr); clear hG hgr HS HN; revert HS1; intro HS)
        | (go_simp; go_at_call 24; refine (nextN _ _ _ _ _ _ _ HS.out.1 (by omega) (by omega)).mono ?_; rintro e w1 ⟨k0, rfl, hk0, hG, hgr⟩; have HS1 := Lib.hid (HS.out.next hG hgr); clear hG hgr HS; revert HS1; intro HS)
        | (go_simp; go_at_call 13; refine (namesE _).mono ?_; rintro e w1 ⟨rfl, rfl⟩; have hnb := Lib.hid HS.out.ne; have HN := Lib.hid HS.out.names; have HS1 := Lib.hid (HS.out.alloc (.cells #[.string ⟨#[]⟩, .string ⟨#[97]⟩, .string ⟨#[98]⟩, .string ⟨#[99]⟩] 9)); clear HS; revert HS1; intro HS)
        | (refine step_app_task rfl _ _ rfl HS.out rfl rfl hcap ?_; intro v' w' hS1; have HS1 := Lib.hid hS1; clear HS hS1; revert HS1; intro HS))
      all_goals go_wp2
      all_goals exact made_round HGD.out hq hq9 HS.out (by omega) (by omega)
    · obtain rfl : q = 0 := by omega
      obtain ⟨_, hgood, hS⟩ := HQ.out
      have HGD := Lib.hid hgood
      have HT := Lib.hid hS
      have HL : Hid (ts.length < 9) := Lib.hid (by omega)
      have HS := Lib.hid (S2.start hS (o := .cells #[.string ⟨#[]⟩, .string ⟨#[97]⟩, .string ⟨#[98]⟩, .string ⟨#[99]⟩] 9))
      have hnb := Lib.hid hS.ne
      have HN := Lib.hid hS.names
      clear hgood hS HQ HS1
      go_wp2_with (go_at_call 13; refine (namesE _).mono ?_; rintro e w1 ⟨rfl, rfl⟩)
      go_loopw [9, 10, 42] (fun rs ru i wv => ∃ (k : Nat) (ss us : List (ByteArray × Int)), i = .int .i64 k ∧ k ≤ 4 ∧ Hid (ss.length ≤ k ∧ us.length ≤ k ∧ smallU us ∧ S2 w (wr.alloc (.cells #[.string ⟨#[]⟩, .string ⟨#[97]⟩, .string ⟨#[98]⟩, .string ⟨#[99]⟩] 9)) w.heap.size A n c zs rs ss.length (flat enc2 ss) ru us.length (flat enc2 us) wv)) (fun _ _ i _ => 4 - (intOf i).toNat)
      case atStart => exact ⟨0, [], [], rfl, by omega, Lib.hid ⟨Nat.le_refl _, Nat.le_refl _, fun x h => by simp at h, HS.out⟩⟩
      case round =>
        obtain ⟨k, ss, us, rfl, hk, HQ⟩ := hrel
        by_cases hk4 : k < 4
        · obtain ⟨hls, hlu, hsm, hS⟩ := HQ.out
          have HSM := Lib.hid hsm
          have HS := Lib.hid hS
          have hc := hS.2.2.1.cell (HN.out k hk4) hnb.out
          have hcs : ss.length + 1 ≤ 1000 := by omega
          have hcu : us.length + 1 ≤ 1000 := by omega
          clear hsm hS HQ
          go_wp2_with (first
            | (go_at_call 24; refine (nextN _ _ _ _ _ _ _ HS.out.1 (by omega) (by omega)).mono ?_; rintro e w1 ⟨k0, rfl, hk0, hG, hgr⟩; have HS1 := Lib.hid (HS.out.next hG hgr); clear hG hgr HS; revert HS1; intro HS)
            | (at_builtin; refine wpl_app_share _ rfl _ _ rfl HS.out rfl rfl hcs ?_; intro v' w' hS1; have HS1 := Lib.hid hS1; clear HS hS1; revert HS1; intro HS)
            | (at_builtin; refine wpl_app_usage _ rfl _ _ rfl HS.out rfl rfl hcu ?_; intro v' w' hS1; have HS1 := Lib.hid hS1; clear HS hS1; revert HS1; intro HS))
          all_goals first
            | exact ⟨⟨k + 1, _, _, rfl, by omega, Lib.hid ⟨by simp; omega, by simp; omega, smallU_snoc HSM.out (by omega) (by omega), HS.out.snoc1.snoc2⟩⟩, by simp [intOf]; omega⟩
            | exact ⟨⟨k + 1, _, _, rfl, by omega, Lib.hid ⟨by simp; omega, by omega, HSM.out, HS.out.snoc1⟩⟩, by simp [intOf]; omega⟩
            | exact ⟨⟨k + 1, _, _, rfl, by omega, Lib.hid ⟨by omega, by simp; omega, smallU_snoc HSM.out (by omega) (by omega), HS.out.snoc2⟩⟩, by simp [intOf]; omega⟩
            | exact ⟨⟨k + 1, _, _, rfl, by omega, Lib.hid ⟨by omega, by omega, HSM.out, HS.out⟩⟩, by simp [intOf]; omega⟩
        · obtain ⟨hls, hlu, hsm, hS⟩ := HQ.out
          have HSM := Lib.hid hsm
          have HS := Lib.hid hS
          clear hsm hS HQ
          go_wp2
          refine bodyPost_ret (results4 rfl _ _ _) rfl ?_
          exact made_end (Nat.le_refl _) HGD.out HT.out HL.out (by omega) (by omega) HSM.out HS.out
end Go.Proofs.Ytknpcphaieoocaa
