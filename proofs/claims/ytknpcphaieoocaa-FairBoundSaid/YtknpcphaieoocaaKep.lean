/- What is kept while one block is written. -/
import Derived.Test.YtknpcphaieoocaaOpn
namespace Go.Proofs.Ytknpcphaieoocaa
open Go.RowKit
set_option linter.unusedSimpArgs false
set_option linter.unusedVariables false

theorem Trow.kept {w w' : World} {A : Option Addr} {n g : Nat} {ts : List Task} (h : Trow w A n ts) (hg : w.grownBy w' (some g)) (hA : ∀ a, A = some a → a.block ≠ g) : Trow w' A n ts := by
  refine ⟨h.1, fun hn => ?_⟩
  obtain ⟨b, off, e, hc⟩ := h.2 hn
  refine ⟨b, off, e, fun j t ht => ?_⟩
  have hb : some b ≠ some g := fun e2 => by cases e2; exact hA _ e rfl
  obtain ⟨h0, h1, h2, h3, h4, h5, h6, h7⟩ := hc j t ht
  exact ⟨hg.cell h0 hb, hg.cell h1 hb, hg.cell h2 hb, hg.cell h3 hb, hg.cell h4 hb, hg.cell h5 hb, hg.cell h6 hb, hg.cell h7 hb⟩
theorem Prow.kept {w w' : World} {A : Option Addr} {n g : Nat} {us : List (ByteArray × Int)} (h : Prow w A n us) (hg : w.grownBy w' (some g)) (hA : ∀ a, A = some a → a.block ≠ g) : Prow w' A n us := by
  refine ⟨h.1, fun hn => ?_⟩
  obtain ⟨b, off, e, hc⟩ := h.2 hn
  refine ⟨b, off, e, fun j t ht => ?_⟩
  have hb : some b ≠ some g := fun e2 => by cases e2; exact hA _ e rfl
  exact ⟨hg.cell (hc j t ht).1 hb, hg.cell (hc j t ht).2 hb⟩
theorem Nrow.kept {w w' : World} {A : Option Addr} {n g : Nat} {zs : List Int} (h : Nrow w A n zs) (hg : w.grownBy w' (some g)) (hA : 0 < n → ∀ a, A = some a → a.block ≠ g) : Nrow w' A n zs := by
  refine ⟨h.1, fun hn => ?_⟩
  obtain ⟨b, off, e, hc⟩ := h.2 hn
  refine ⟨b, off, e, fun j t ht => ?_⟩
  have hb : some b ≠ some g := fun e2 => by cases e2; exact hA hn _ e rfl
  exact hg.cell (hc j t ht) hb
theorem One.kept {w w' : World} {b g : Nat} {m : Task} (h : One w b m) (hg : w.grownBy w' (some g)) (hb : b ≠ g) : One w' b m := by
  obtain ⟨⟨h0, h1, h2, h3, h4, h5, h6, h7⟩, hf, hz⟩ := h
  have hb2 : some b ≠ some g := fun e => by cases e; exact hb rfl
  refine ⟨⟨hg.cell h0 hb2, hg.cell h1 hb2, hg.cell h2 hb2, hg.cell h3 hb2, hg.cell h4 hb2, hg.cell h5 hb2, hg.cell h6 hb2, hg.cell h7 hb2⟩, fun j => ?_, Nat.le_trans hz hg.size⟩
  exact (World.frozen?_of_block (w := w) (a := ⟨b, j, none⟩) (hg.block b (by omega) hb2)).trans (hf j)
theorem set_grown (w : World) (b j : Nat) (v : Value) : w.grownBy (w.setCell ⟨b, j, none⟩ v) (some b) :=
  ⟨rfl, rfl, rfl, by simp [World.setCell], fun k _ hk => Below.heap_setCell _ _ _ _ (fun e => hk (by rw [e]))⟩
theorem gtr {a b c : World} {g : Nat} (h : a.grownBy b (some g)) (k : b.grownBy c (some g)) : a.grownBy c (some g) := grownBy_trans h k
/-- a task is stored into a block that holds one -/
theorem store8 {w : World} {b : Nat} {z : Task} (h : One w b z) (i : Int) (rl : ByteArray) (al : Bool) (dy : Int) (o : ByteArray) (co p : Int) (na : Option Addr) (nn nc : Nat) :
    One ((((((((w.setCell ⟨b, 0, none⟩ (.int .i64 i)).setCell ⟨b, 1, none⟩ (.string rl)).setCell ⟨b, 2, none⟩ (.bool al)).setCell ⟨b, 3, none⟩ (.int .i64 dy)).setCell ⟨b, 4, none⟩ (.string o)).setCell ⟨b, 5, none⟩ (.int .i64 co)).setCell ⟨b, 6, none⟩ (.int .i64 p)).setCell ⟨b, 7, none⟩ (.slice na nn nc)) b ⟨i, rl, al, dy, o, co, p, na, nn, nc⟩ ∧
    w.grownBy ((((((((w.setCell ⟨b, 0, none⟩ (.int .i64 i)).setCell ⟨b, 1, none⟩ (.string rl)).setCell ⟨b, 2, none⟩ (.bool al)).setCell ⟨b, 3, none⟩ (.int .i64 dy)).setCell ⟨b, 4, none⟩ (.string o)).setCell ⟨b, 5, none⟩ (.int .i64 co)).setCell ⟨b, 6, none⟩ (.int .i64 p)).setCell ⟨b, 7, none⟩ (.slice na nn nc)) (some b) := by
  obtain ⟨ht, hf, hz⟩ := h
  refine ⟨⟨tc8 ht ⟨i, rl, al, dy, o, co, p, na, nn, nc⟩, by simpa using hf, by simpa using hz⟩, ?_⟩
  exact gtr (gtr (gtr (gtr (gtr (gtr (gtr (set_grown w b 0 _) (set_grown _ b 1 _)) (set_grown _ b 2 _)) (set_grown _ b 3 _)) (set_grown _ b 4 _)) (set_grown _ b 5 _)) (set_grown _ b 6 _)) (set_grown _ b 7 _)
/-- what Next hands back, a task in any case -/
def Mx (ss us : List (ByteArray × Int)) (ts : List Task) (r cp : Int) : Task := if okV ss us ts r cp = true then minT ss us ts else zTask
theorem next_any {ss us : List (ByteArray × Int)} {ts : List Task} {r cp : Int} {w w' : World} {e : Ending} (h : NextR ss us ts r cp w e w') :
    Below w.heap.size w w' ∧ ∃ na nc, e = .returned (.tuple #[Task.val { (Mx ss us ts r cp) with na := na, nc := nc }, .bool (okV ss us ts r cp)]) ∧ ∀ zs, Nrow w (Mx ss us ts r cp).na (Mx ss us ts r cp).nn zs → Nrow w' na (Mx ss us ts r cp).nn zs := by
  obtain ⟨hb, ⟨h1, he⟩ | ⟨h1, na, nc, he, hz⟩⟩ := h
  · have hM : Mx ss us ts r cp = zTask := by unfold Mx; rw [h1]; rfl
    rw [hM, h1]
    exact ⟨hb, none, 0, he, fun zs hzs => hzs.later hb⟩
  · have hM : Mx ss us ts r cp = minT ss us ts := by unfold Mx; rw [h1]; rfl
    rw [hM, h1]
    exact ⟨hb, na, nc, he, hz⟩
theorem Mx_in {ss us : List (ByteArray × Int)} {ts : List Task} {r cp : Int} {W : World} (hin : ∀ t ∈ ts, inT W t) (hnn : ∀ t ∈ ts, t.nn ≤ 30) : (∃ zs, Nrow W (Mx ss us ts r cp).na (Mx ss us ts r cp).nn zs) ∧ (Mx ss us ts r cp).nn ≤ 1000 := by
  cases h : okV ss us ts r cp with
  | false =>
    have hM : Mx ss us ts r cp = zTask := by unfold Mx; rw [h]; rfl
    rw [hM]
    exact ⟨⟨[], nrow0 W none⟩, by decide⟩
  | true =>
    have hM : Mx ss us ts r cp = minT ss us ts := by unfold Mx; rw [h]; rfl
    have hne : ts ≠ [] := fun e => by subst e; simp [okV] at h
    have hm := minT_mem ss us hne
    rw [hM]
    exact ⟨(hin _ hm).1, by have := hnn _ hm; omega⟩
theorem Mx_made {ss us : List (ByteArray × Int)} {ts : List Task} {r cp : Int} (hg : ∀ t ∈ ts, goodT t) : (Mx ss us ts r cp).nn = 0 := by
  cases h : okV ss us ts r cp with
  | false =>
    have hM : Mx ss us ts r cp = zTask := by unfold Mx; rw [h]; rfl
    rw [hM]; rfl
  | true =>
    have hM : Mx ss us ts r cp = minT ss us ts := by unfold Mx; rw [h]; rfl
    have hne : ts ≠ [] := fun e => by subst e; simp [okV] at h
    rw [hM]
    exact (hg _ (minT_mem ss us hne)).2.1
theorem lst1 (W : World) (a : Int) : Lst W (.slice (some ⟨W.heap.size, 0, none⟩) 1 1) [a] (W.alloc (.cells #[.int .i64 a] 3)) :=
  ⟨(Below.refl _ W).alloc (Nat.le_refl _) _, rfl, .inr ⟨W.heap.size, 1, #[.int .i64 a], rfl, Nat.le_refl _, heap_alloc_new W _, Nat.le_refl _, by unfold maxLen; omega, rfl, rfl⟩⟩
theorem lst2 (W : World) (a b : Int) : Lst W (.slice (some ⟨W.heap.size, 0, none⟩) 2 2) [a, b] (W.alloc (.cells #[.int .i64 a, .int .i64 b] 3)) :=
  ⟨(Below.refl _ W).alloc (Nat.le_refl _) _, rfl, .inr ⟨W.heap.size, 2, #[.int .i64 a, .int .i64 b], rfl, Nat.le_refl _, heap_alloc_new W _, Nat.le_refl _, by unfold maxLen; omega, rfl, rfl⟩⟩
end Go.Proofs.Ytknpcphaieoocaa
