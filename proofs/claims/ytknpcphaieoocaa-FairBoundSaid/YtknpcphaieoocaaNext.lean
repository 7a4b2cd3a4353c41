/- The two functions Next. -/
import Derived.Test.YtknpcphaieoocaaOwn
namespace Go.Proofs.Ytknpcphaieoocaa
open Go.RowKit
set_option linter.unusedSimpArgs false
set_option linter.unusedVariables false

/-- the task that is chosen -/
def minT (ss us : List (ByteArray × Int)) : List Task → Task
  | [] => zTask
  | t :: l => pick (ltT ss us) t l
/-- a task is chosen, and fits -/
def okV (ss us : List (ByteArray × Int)) (ts : List Task) (r cp : Int) : Bool := !ts.isEmpty && decide (r + (minT ss us ts).cost ≤ cp)
/-- what Next hands back -/
def NextR (ss us : List (ByteArray × Int)) (ts : List Task) (r cp : Int) (w : World) (e : Ending) (w' : World) : Prop :=
  Below w.heap.size w w' ∧ ((okV ss us ts r cp = false ∧ e = .returned (.tuple #[zTask.val, .bool false])) ∨
    (okV ss us ts r cp = true ∧ ∃ na nc, e = .returned (.tuple #[Task.val { (minT ss us ts) with na := na, nc := nc }, .bool true]) ∧ ∀ zs, Nrow w (minT ss us ts).na (minT ss us ts).nn zs → Nrow w' na (minT ss us ts).nn zs))
theorem pick_mem (lt : Task → Task → Bool) : ∀ (l : List Task) (m : Task), pick lt m l = m ∨ pick lt m l ∈ l
  | [], m => .inl rfl
  | x :: l, m => by
    unfold pick
    rcases pick_mem lt l (if lt x m = true then x else m) with h | h
    · rw [h]
      split
      · exact .inr (List.mem_cons_self ..)
      · exact .inl rfl
    · exact .inr (List.mem_cons_of_mem _ h)
theorem minT_mem (ss us : List (ByteArray × Int)) {ts : List Task} (h : ts ≠ []) : minT ss us ts ∈ ts := by
  cases ts with
  | nil => exact absurd rfl h
  | cons t l =>
    rcases pick_mem (ltT ss us) l t with e | e
    · show pick _ _ _ ∈ _
      rw [e]; exact List.mem_cons_self ..
    · exact List.mem_cons_of_mem _ e

/-- a task's needs read as integers, not many; its cost is small -/
def needsOk (w : World) (t : Task) : Prop := (∃ zs, Nrow w t.na t.nn zs) ∧ t.nn ≤ 1000 ∧ (0 ≤ t.cost ∧ t.cost ≤ 1099511627776) ∧ (t.na = none → t.nc = 0)

theorem beforeFn (Au As : Option Addr) (nu cu ns cs : Nat) (w : World) :
    Calls Try.prog 31 #[.slice As ns cs, .slice Au nu cu] w fun e w' => ∃ pu ps, e = .returned (.func (.func 37) #[] #[.pointer (some pu), .pointer (some ps)]) ∧ w'.cell? pu = some (.slice Au nu cu) ∧ w'.cell? ps = some (.slice As ns cs) ∧ Below w.heap.size w w' := by
  go_enter Try.func31, Try.ntmps31
  go_wp2
  go_ret
  exact ⟨_, _, rfl, by simp, by simp, ((Below.refl _ w).alloc (Nat.le_refl _) _).alloc (by simp) _⟩

/-- a block that holds one task -/
def One (w : World) (h : Nat) (m : Task) : Prop := Tcells w h 0 m ∧ (∀ j, w.frozen? ⟨h, j, none⟩ = false) ∧ h + 1 ≤ w.heap.size
theorem One.later {w w' : World} {h : Nat} {m : Task} (t : One w h m) (hb : Below w.heap.size w w') : One w' h m := by
  obtain ⟨t1, f1, hz⟩ := t
  exact ⟨t1.later hb, fun j => (hb.frozen (p := ⟨h, j, none⟩) (by show h < _; omega)).trans (f1 j), Nat.le_trans hz hb.size⟩
theorem one_new (w : World) : One (w.alloc (.cells #[.int .i64 0, .string ⟨#[]⟩, .bool false, .int .i64 0, .string ⟨#[]⟩, .int .i64 0, .int .i64 0, .slice none 0 0] 41)) w.heap.size zTask := by
  unfold One Tcells
  simp [zTask]
theorem one_newT (w : World) (x : Task) : One (w.alloc (.cells #[.int .i64 x.id, .string x.rel, .bool x.all, .int .i64 x.day, .string x.owner, .int .i64 x.cost, .int .i64 x.pri, .slice x.na x.nn x.nc] 41)) w.heap.size x := by
  unfold One Tcells
  simp

set_option maxRecDepth 100000 in
set_option maxHeartbeats 4000000 in
theorem nextE (A : Option Addr) (n c : Nat) (ts : List Task) (r cp : Int) (Au As : Option Addr) (nu cu ns cs : Nat) (us ss : List (ByteArray × Int)) (w : World)
    (hT : Trow w A n ts) (hn : n ≤ 1000) (hN : ∀ t ∈ ts, needsOk w t) (hr0 : 0 ≤ r) (hr1 : r ≤ 1099511627776)
    (hU : Prow w Au nu us) (hS : Prow w As ns ss) (hnu : nu ≤ 1000) (hns : ns ≤ 1000) (hs : smallU us) :
    Calls Try.prog 21 #[.slice A n c, .int .i64 r, .int .i64 cp, .slice As ns cs, .slice Au nu cu] w (NextR ss us ts r cp w) := by
  have hz : Below w.heap.size w (w.alloc (.cells #[.int .i64 0, .string ⟨#[]⟩, .bool false, .int .i64 0, .string ⟨#[]⟩, .int .i64 0, .int .i64 0, .slice none 0 0] 41)) := (Below.refl _ w).alloc (Nat.le_refl _) _
  have HZ := Lib.hid hz
  rcases ts with _ | ⟨t0, l⟩
  · obtain rfl : n = 0 := hT.1.symm
    have HO : Hid (okV ss us [] r cp = false) := Lib.hid rfl
    clear hT hN hU hS hs hz
    go_enter Try.func21, Try.ntmps21
    go_wp2
    refine bodyPost_ret (v := .tuple #[zTask.val, .bool false]) (by simp [results, Try.results21, go_sem, Task.val, zTask]) rfl ⟨HZ.out, .inl ⟨HO.out, rfl⟩⟩
  · have hlen : (t0 :: l).length = n := hT.1
    have hn1 : ((n : Int) == 0) = false := by simp at hlen ⊢; omega
    have HT := Lib.hid (hT.later hz)
    have HU := Lib.hid (hU.later hz)
    have HS := Lib.hid (hS.later hz)
    have HO := Lib.hid (one_new w)
    obtain ⟨m, hm⟩ : ∃ m, minT ss us (t0 :: l) = m := ⟨_, rfl⟩
    have HM1 : Hid (pick (ltT ss us) t0 l = m) := Lib.hid hm
    have HM := Lib.hid hm
    have hNm := hN m (by rw [← hm]; exact minT_mem ss us (by simp))
    have HN := Lib.hid hNm
    obtain ⟨⟨zs0, hzs0⟩, hnn, ⟨hc0, hc1⟩, _⟩ := hNm
    have HZS := Lib.hid hzs0
    clear hT hN hU hS hz hm hlen hzs0
    go_enter Try.func21, Try.ntmps21
    go_wp2_with fail
    refine (beforeFn Au As nu cu ns cs _).mono ?_
    rintro e w1 ⟨pu, ps, rfl, hpu, hps, hb1⟩
    have T1 := HT.out.later hb1
    have U1 := HU.out.later hb1
    have S1 := HS.out.later hb1
    have HB1 := Lib.hid (bthen HZ.out (Nat.le_refl _) hb1)
    have HO1 := Lib.hid (HO.out.later hb1)
    clear hb1 HO HT HU HS
    go_wp2_with fail
    refine (minE _ _ _ (t0 :: l) _ _ _ _ _ _ _ _ us ss t0 _ T1 hn rfl hpu hps U1 S1 hnu hns hs).mono ?_
    rintro e w2 ⟨rfl, hb2⟩
    rw [show pick (ltT ss us) t0 (List.drop 1 (t0 :: l)) = m from HM1.out]
    unfold Task.val
    have HB2 := Lib.hid (bthen HB1.out (Nat.le_refl _) hb2)
    have HO2 := Lib.hid (HO1.out.later hb2)
    clear T1 U1 S1 hpu hps hb2 HO1 HB1
    have hsz := HO2.out.2.2
    have HX := Lib.hid (one_newT w2 m)
    have B3 : Below w2.heap.size w2 (w2.alloc (.cells #[.int .i64 m.id, .string m.rel, .bool m.all, .int .i64 m.day, .string m.owner, .int .i64 m.cost, .int .i64 m.pri, .slice m.na m.nn m.nc] 41)) := (Below.refl _ w2).alloc (Nat.le_refl _) _
    have HB3 := Lib.hid (bthen HB2.out (Nat.le_refl _) B3)
    have HO3 := Lib.hid (HO2.out.later B3)
    clear B3
    by_cases hfit : r + m.cost ≤ cp
    · have HF := Lib.hid hfit
      obtain ⟨⟨x0, x1, x2, x3, x4, x5, x6, x7⟩, hx0, hxz⟩ := HX.out
      simp only [Nat.zero_add] at x0 x1 x2 x3 x4 x5 x6 x7
      go_wp2_with fail
      refine (cloneI m.na m.nn m.nc zs0 _ (HZS.out.later HB3.out) hnn).mono ?_
      rintro e w4 ⟨na, nc, rfl, hr4, hb4, hbl4⟩
      have HBL := Lib.hid hbl4
      clear hbl4
      have HR4 := Lib.hid hr4
      have HB4 := Lib.hid (bthen HB3.out (Nat.le_refl _) hb4)
      have HX4 := HX.out.later hb4
      have HO4 := HO3.out.later hb4
      clear x0 x1 x2 x3 x4 x5 x6 x7 hx0 hxz hb4 HX HO3 HB3 hr4
      have HX5 := Lib.hid HX4
      have HO5 := Lib.hid HO4
      obtain ⟨⟨x0, x1, x2, x3, x4, x5, x6, x7⟩, hx0, hxz⟩ := HX4
      obtain ⟨⟨z0, z1, z2, z3, z4, z5, z6, z7⟩, hf0, hzz⟩ := HO4
      simp only [Nat.zero_add, zTask] at x0 x1 x2 x3 x4 x5 x6 x7 z0 z1 z2 z3 z4 z5 z6 z7
      have hne : ¬ w.heap.size = w2.heap.size := by omega
      go_wp2
      have HB5 := Lib.hid (below8 (Below.setCell (p := ⟨w2.heap.size, 7, none⟩) HB4.out (by show _ ≤ w2.heap.size; omega) (.slice na m.nn nc)) (Nat.le_refl _) { m with na := na, nc := nc })
      have hT5 : Tcells (w4.setCell ⟨w2.heap.size, 7, none⟩ (.slice na m.nn nc)) w.heap.size 0 zTask := by
        unfold Tcells
        simp only [Nat.zero_add, zTask]
        have hn7 : ∀ j, (⟨w2.heap.size, 7, none⟩ : Addr) ≠ ⟨w.heap.size, j, none⟩ := fun j h => hne (by injection h with h1; exact h1.symm)
        refine ⟨?_, ?_, ?_, ?_, ?_, ?_, ?_, ?_⟩ <;> (rw [World.cell?_setCell_other (h := hn7 _)]; assumption)
      obtain ⟨q0, q1, q2, q3, q4, q5, q6, q7⟩ := tc8 hT5 { m with na := na, nc := nc }
      simp only [Nat.zero_add] at q0 q1 q2 q3 q4 q5 q6 q7
      refine bodyPost_ret (v := .tuple #[Task.val { m with na := na, nc := nc }, .bool true]) (by simp [results, Try.results21, go_sem, Task.val, *]) rfl ⟨HB5.out, .inr ⟨?_, na, nc, ?_, fun zs hzs => ?_⟩⟩
      · unfold okV; rw [HM.out]; simpa using HF.out
      · rw [HM.out]
      · rw [HM.out] at hzs ⊢
        obtain rfl : zs = zs0 := nrow_unique hzs HZS.out
        have hd : ∀ b, b ≤ w2.heap.size → ∀ a, na = some a → a.block ≠ b := fun b hb a ha => by
          have := HBL.out a ha
          simp at this
          omega
        have h1 := nrow_set HR4.out ⟨w2.heap.size, 7, none⟩ (.slice na m.nn nc) (hd _ (Nat.le_refl _))
        have hd0 := hd w.heap.size (by omega)
        exact nrow_set (nrow_set (nrow_set (nrow_set (nrow_set (nrow_set (nrow_set (nrow_set h1 ⟨_, 0, none⟩ _ hd0) ⟨_, 1, none⟩ _ hd0) ⟨_, 2, none⟩ _ hd0) ⟨_, 3, none⟩ _ hd0) ⟨_, 4, none⟩ _ hd0) ⟨_, 5, none⟩ _ hd0) ⟨_, 6, none⟩ _ hd0) ⟨_, 7, none⟩ _ hd0
    · have HF := Lib.hid hfit
      obtain ⟨⟨z0, z1, z2, z3, z4, z5, z6, z7⟩, hf0, _⟩ := HO3.out
      simp only [Nat.zero_add, zTask] at z0 z1 z2 z3 z4 z5 z6 z7
      go_wp2
      obtain ⟨q0, q1, q2, q3, q4, q5, q6, q7⟩ := tc8 HO3.out.1 zTask
      simp only [Nat.zero_add, zTask] at q0 q1 q2 q3 q4 q5 q6 q7
      refine bodyPost_ret (v := .tuple #[zTask.val, .bool false]) (by simp [results, Try.results21, go_sem, Task.val, zTask, *]) rfl ⟨below8 HB3.out (Nat.le_refl _) zTask, .inl ⟨?_, rfl⟩⟩
      unfold okV; rw [HM.out]; simpa using HF.out
end Go.Proofs.Ytknpcphaieoocaa
