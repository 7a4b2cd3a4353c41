/- What is kept while the ready tasks of a round are made. -/
import Derived.Test.YtknpcphaieoocaaBnd
namespace Go.Proofs.Ytknpcphaieoocaa
open Go.RowKit
set_option linter.unusedSimpArgs false
set_option linter.unusedVariables false

def S3 (w0 wB : World) (g : Nat) (A : Option Addr) (n c : Nat) (zs : List Int) (v : Value) (m : Nat) (xs : List Value) (w : World) : Prop :=
  Gst w g A n c zs ∧ Below w0.heap.size w0 w ∧ wB.grownBy w (some g) ∧ w.ownsRow wB.heap.size 41 8 v m xs ∧ g < wB.heap.size ∧ w0.heap.size ≤ g ∧ (0 < n → ∀ a, A = some a → a.block < w0.heap.size)
section
variable {w0 wB : World} {g : Nat} {A : Option Addr} {n c : Nat} {zs : List Int} {v : Value} {m : Nat} {xs : List Value} {w w' : World}
theorem S3.next (h : S3 w0 wB g A n c zs v m xs w) (hG : Gst w' g A n c zs) (hg : w.grownBy w' (some g)) : S3 w0 wB g A n c zs v m xs w' := by
  obtain ⟨h1, h2, h3, h4, h7, h8, h9⟩ := h
  refine ⟨hG, h2.grown hg (by have := h3.size; omega) (fun k hk => by cases hk; exact h8), grownBy_trans h3 hg, h4.kept hg (.inr fun hk => ?_), h7, h8, h9⟩
  have := h4.lt g hk; omega
theorem S3.app (h : S3 w0 wB g A n c zs v m xs w) {v' : Value} {m' : Nat} {xs' : List Value} (o : Obj) (ho : w'.ownsRow wB.heap.size 41 8 v' m' xs') (hg : (w.alloc o).grownBy w' v.ownBlock) : S3 w0 wB g A n c zs v' m' xs' w' := by
  obtain ⟨h1, h2, h3, h4, h7, h8, h9⟩ := h
  have hs := h3.size
  have hsz : (w.alloc o).heap.size = w.heap.size + 1 := World.size_alloc _ _
  have hb : Below wB.heap.size w w' := ((Below.refl _ w).alloc hs o).trans (below_of_grown hg (by omega) (fun k hk => (h4.lt k hk).1))
  exact ⟨h1.below hb h7 (fun hp a ha => by have := h9 hp a ha; omega), h2.trans (hb.mono (by omega)), ⟨hb.os.trans h3.os, hb.tape.trans h3.tape, hb.output.trans h3.output, Nat.le_trans h3.size hb.size, fun k hk hne => (hb.block k hk).trans (h3.block k hk hne)⟩, ho, h7, h8, h9⟩
theorem wpl_app_task {ops : Array Oper} {rest : List Oper} (o : Oper) {a : Act} {Q : Exit → Act → World → Prop} (hgd : o.guard = none) (s x : Operand)
    (ho : o.op = .call { callee := .builtin .append, args := #[s, x], argTypes := #[27, 27] }) {id : Int} {rel : ByteArray} {all : Bool} {day : Int} {owner : ByteArray} {cost pri : Int} {na : Option Addr} {nn nc : Nat}
    (h : S3 w0 wB g A n c zs v m xs w) (hs : a.eval s = v) (hx : a.eval x = .slice (some ⟨w.heap.size, 0, none⟩) 1 1) (hm : m + 1 ≤ 1000)
    (hK : ∀ v' w', S3 w0 wB g A n c zs v' (m + 1) (xs ++ enc8 ⟨id, rel, all, day, owner, cost, pri, na, nn, nc⟩) w' → wpList Try.prog ops Q rest (a.put o.dst v') w') :
    wpList Try.prog ops Q (o :: rest) a (w.alloc (.cells #[.int .i64 id, .string rel, .bool all, .int .i64 day, .string owner, .int .i64 cost, .int .i64 pri, .slice na nn nc] 41)) := by
  obtain ⟨i0, hi, hz0, hz1, hz2⟩ := info_parts info41
  have hsz : (w.alloc (.cells #[.int .i64 id, .string rel, .bool all, .int .i64 day, .string owner, .int .i64 cost, .int .i64 pri, .slice na nn nc] 41)).heap.size = w.heap.size + 1 := World.size_alloc _ _
  have hB := h.2.2.1.size
  exact wpList_append_own_at _ hgd s x 27 ho wB.heap.size 41 i0 _ 8 96 Try.underlying27 hi hz0 hz1 hz2 rfl (by decide) v m xs hs (h.2.2.2.1.alloc _) _ 1 1 _ hx rfl (enc8_cells w id rel all day owner cost pri na nn nc) (one_enc8 _) (by unfold maxLen; omega) (by omega) (by omega)
    (fun v' w' hown hgr _ _ => hK v' w' (h.app _ hown hgr))
end
/-- the tasks of a round so far: one of each of the first owners -/
def RT (mo : Int) (ts : List Task) : Prop := ∀ (j : Nat) (t : Task), ts[j]? = some t → goodT t ∧ t.pri = 0 ∧ t.cost ≤ mo ∧ t.owner = nm j
theorem RT.mono {mo mo' : Int} {ts : List Task} (h : RT mo ts) (hm : mo ≤ mo') : RT mo' ts := fun j t ht => by
  obtain ⟨a, b, c, d⟩ := h j t ht
  exact ⟨a, b, by omega, d⟩
theorem RT.snoc {mo : Int} {ts : List Task} {t : Task} (h : RT mo ts) (h1 : goodT t) (h2 : t.pri = 0) (h3 : t.cost ≤ mo) (h4 : t.owner = nm ts.length) : RT mo (ts ++ [t]) := fun j x hx => by
  rcases Nat.lt_or_ge j ts.length with hj | hj
  · rw [List.getElem?_append_left hj] at hx
    exact h j x hx
  · rw [List.getElem?_append_right hj] at hx
    have : j = ts.length := by
      have := (List.getElem?_eq_some_iff.1 hx).1
      simp at this
      omega
    subst this
    simp at hx
    subst hx
    exact ⟨h1, h2, h3, h4⟩
theorem RT.good {mo : Int} {ts : List Task} {ss : List (ByteArray × Int)} (h : RT mo ts) (hl : ts.length = ss.length) (hp : 0 < ts.length) (hg : goodS ss) : goodR ss mo ts := by
  refine ⟨fun e => by subst e; simp at hp, fun t ht => ?_, fun j x hx => ?_⟩
  · obtain ⟨j, hj, e⟩ := List.mem_iff_getElem.1 ht
    have ht2 : ts[j]? = some t := by rw [← e]; exact List.getElem?_eq_getElem hj
    obtain ⟨a, b, c, d⟩ := h j t ht2
    have hx : ss[j]? = some ss[j] := List.getElem?_eq_getElem (by omega)
    exact ⟨a, b, c, j, ss[j], hx, by rw [d, (hg.2 j _ hx).1]⟩
  · have hj : j < ts.length := by rw [hl]; exact (List.getElem?_eq_some_iff.1 hx).1
    have ht2 : ts[j]? = some ts[j] := List.getElem?_eq_getElem hj
    exact ⟨ts[j], List.getElem_mem hj, by rw [(h j _ ht2).2.2.2, (hg.2 j x hx).1]⟩
theorem RT.all {mo : Int} {ts : List Task} (h : RT mo ts) : ∀ t ∈ ts, goodT t := fun t ht => by
  obtain ⟨j, hj, e⟩ := List.mem_iff_getElem.1 ht
  exact (h j t (by rw [← e]; exact List.getElem?_eq_getElem hj)).1
theorem upto_small {us : List (ByteArray × Int)} {b : Int} (h : upto b us) (hb : b ≤ 100000) : smallU us := fun x hx => by have := h x hx; omega
end Go.Proofs.Ytknpcphaieoocaa
