/- slices.MinFunc at tasks: the first least. */ -/
import Derived.Test.YtknpcphaieoocaaBeg
import Derived.StillTailTactics
namespace Go.Proofs.Ytknpcphaieoocaa
open Go.RowKit
set_option linter.unusedSimpArgs false
set_option linter.unusedVariables false

/-- a task: its fields; the needs as the slice's value -/
structure Task where
  id : Int
  rel : ByteArray
  all : Bool
  day : Int
  owner : ByteArray
  cost : Int
  pri : Int
  na : Option Addr
  nn : Nat
  nc : Nat
def Task.val (t : Task) : Value := .agg #[.int .i64 t.id, .string t.rel, .bool t.all, .int .i64 t.day, .string t.owner, .int .i64 t.cost, .int .i64 t.pri, (.slice t.na t.nn t.nc)]
/-- the eight cells of a task -/
def Tcells (w : World) (b off : Nat) (t : Task) : Prop :=
  w.cell? ⟨b, off, none⟩ = some (.int .i64 t.id) ∧ w.cell? ⟨b, off + 1, none⟩ = some (.string t.rel) ∧ w.cell? ⟨b, off + 2, none⟩ = some (.bool t.all) ∧ w.cell? ⟨b, off + 3, none⟩ = some (.int .i64 t.day)
    ∧ w.cell? ⟨b, off + 4, none⟩ = some (.string t.owner) ∧ w.cell? ⟨b, off + 5, none⟩ = some (.int .i64 t.cost) ∧ w.cell? ⟨b, off + 6, none⟩ = some (.int .i64 t.pri) ∧ w.cell? ⟨b, off + 7, none⟩ = some (.slice t.na t.nn t.nc)
theorem Tcells.later {w w' : World} {b off : Nat} {t : Task} (h : Tcells w b off t) (hb : Below w.heap.size w w') : Tcells w' b off t := by
  obtain ⟨h0, h1, h2, h3, h4, h5, h6, h7⟩ := h
  exact ⟨cell_later hb h0, cell_later hb h1, cell_later hb h2, cell_later hb h3, cell_later hb h4, cell_later hb h5, cell_later hb h6, cell_later hb h7⟩
/-- a slice of n tasks reads as a list of tasks -/
def Trow (w : World) (A : Option Addr) (n : Nat) (ts : List Task) : Prop :=
  ts.length = n ∧ (0 < n → ∃ b off, A = some ⟨b, off, none⟩ ∧ ∀ (j : Nat) (t : Task), ts[j]? = some t → Tcells w b (off + j * 8) t)
theorem Trow.later {w w' : World} {A : Option Addr} {n : Nat} {ts : List Task} (h : Trow w A n ts) (hb : Below w.heap.size w w') : Trow w' A n ts :=
  ⟨h.1, fun hn => by
    obtain ⟨b, off, hA, hc⟩ := h.2 hn
    exact ⟨b, off, hA, fun j x hx => (hc j x hx).later hb⟩⟩
/-- the first least -/
def pick (lt : Task → Task → Bool) : Task → List Task → Task
  | m, [] => m
  | m, x :: l => pick lt (if lt x m = true then x else m) l
/-- one task before another -/
def ltT (ss us : List (ByteArray × Int)) (x m : Task) : Bool := befV ss us x.owner x.pri x.id m.owner m.pri m.id
theorem pick_step {ts : List Task} {k : Nat} {x : Task} (h : ts[k]? = some x) (lt : Task → Task → Bool) (m : Task) : pick lt m (ts.drop k) = pick lt (if lt x m = true then x else m) (ts.drop (k + 1)) := by
  rw [List.drop_eq_getElem_cons (List.getElem?_eq_some_iff.1 h).1, (List.getElem?_eq_some_iff.1 h).2]; rfl

/-- the zero task -/
def zTask : Task := ⟨0, ⟨#[]⟩, false, 0, ⟨#[]⟩, 0, 0, none, 0, 0⟩
/-- the two blocks of MinFunc: the result, still zero, and the least so far -/
def Two (w : World) (h : Nat) (m : Task) : Prop :=
  Tcells w (h + 1) 0 m ∧ Tcells w h 0 zTask ∧ (∀ j, w.frozen? ⟨h, j, none⟩ = false) ∧ (∀ j, w.frozen? ⟨h + 1, j, none⟩ = false) ∧ h + 2 ≤ w.heap.size
theorem Two.later {w w' : World} {h : Nat} {m : Task} (t : Two w h m) (hb : Below w.heap.size w w') : Two w' h m := by
  obtain ⟨t1, t2, f1, f2, hz⟩ := t
  exact ⟨t1.later hb, t2.later hb, fun j => (hb.frozen (p := ⟨h, j, none⟩) (by show h < _; omega)).trans (f1 j), fun j => (hb.frozen (p := ⟨h + 1, j, none⟩) (by show h + 1 < _; omega)).trans (f2 j), Nat.le_trans hz hb.size⟩

theorem below8 {B : Nat} {a w : World} (h : Below B a w) {b : Nat} (hp : B ≤ b) (x : Task) : Below B a ((((((((w.setCell ⟨b, 0, none⟩ (.int .i64 x.id)).setCell ⟨b, 1, none⟩ (.string x.rel)).setCell ⟨b, 2, none⟩ (.bool x.all)).setCell ⟨b, 3, none⟩ (.int .i64 x.day)).setCell ⟨b, 4, none⟩ (.string x.owner)).setCell ⟨b, 5, none⟩ (.int .i64 x.cost)).setCell ⟨b, 6, none⟩ (.int .i64 x.pri)).setCell ⟨b, 7, none⟩ (.slice x.na x.nn x.nc)) :=
  Below.setCell (Below.setCell (Below.setCell (Below.setCell (Below.setCell (Below.setCell (Below.setCell (Below.setCell h hp _) hp _) hp _) hp _) hp _) hp _) hp _) hp _
theorem tc8 {w : World} {b : Nat} {z : Task} (t : Tcells w b 0 z) (x : Task) : Tcells ((((((((w.setCell ⟨b, 0, none⟩ (.int .i64 x.id)).setCell ⟨b, 1, none⟩ (.string x.rel)).setCell ⟨b, 2, none⟩ (.bool x.all)).setCell ⟨b, 3, none⟩ (.int .i64 x.day)).setCell ⟨b, 4, none⟩ (.string x.owner)).setCell ⟨b, 5, none⟩ (.int .i64 x.cost)).setCell ⟨b, 6, none⟩ (.int .i64 x.pri)).setCell ⟨b, 7, none⟩ (.slice x.na x.nn x.nc)) b 0 x := by
  obtain ⟨z0, z1, z2, z3, z4, z5, z6, z7⟩ := t
  simp only [Nat.zero_add] at z0 z1 z2 z3 z4 z5 z6 z7
  unfold Tcells
  simp only [Nat.zero_add]
  refine ⟨?_, ?_, ?_, ?_, ?_, ?_, ?_, ?_⟩ <;> simp [World.cell?_setCell_other, World.cell?_setCell_same', z0, z1, z2, z3, z4, z5, z6, z7]
theorem two8 {w : World} {h : Nat} {m : Task} (t : Two w h m) (x : Task) : Two ((((((((w.setCell ⟨h + 1, 0, none⟩ (.int .i64 x.id)).setCell ⟨h + 1, 1, none⟩ (.string x.rel)).setCell ⟨h + 1, 2, none⟩ (.bool x.all)).setCell ⟨h + 1, 3, none⟩ (.int .i64 x.day)).setCell ⟨h + 1, 4, none⟩ (.string x.owner)).setCell ⟨h + 1, 5, none⟩ (.int .i64 x.cost)).setCell ⟨h + 1, 6, none⟩ (.int .i64 x.pri)).setCell ⟨h + 1, 7, none⟩ (.slice x.na x.nn x.nc)) h x := by
  obtain ⟨hm, ⟨z0, z1, z2, z3, z4, z5, z6, z7⟩, hf0, hf1, hz⟩ := t
  refine ⟨tc8 hm x, ?_, by simpa using hf0, by simpa using hf1, by simpa using hz⟩
  unfold Tcells
  refine ⟨?_, ?_, ?_, ?_, ?_, ?_, ?_, ?_⟩ <;> simpa [World.cell?_setCell_other] using (by assumption)

set_option maxRecDepth 100000 in
set_option maxHeartbeats 4000000 in
theorem minE (A : Option Addr) (n c : Nat) (ts : List Task) (pu ps : Addr) (Au As : Option Addr) (nu cu ns cs : Nat) (us ss : List (ByteArray × Int)) (t0 : Task) (w : World)
    (hT : Trow w A n ts) (hn : n ≤ 1000) (h0 : ts[0]? = some t0)
    (hpu : w.cell? pu = some (.slice Au nu cu)) (hps : w.cell? ps = some (.slice As ns cs)) (hU : Prow w Au nu us) (hS : Prow w As ns ss) (hnu : nu ≤ 1000) (hns : ns ≤ 1000) (hs : smallU us) :
    Calls Try.prog 30 #[.slice A n c, .func (.func 37) #[] #[.pointer (some pu), .pointer (some ps)]] w fun e w' => e = .returned (pick (ltT ss us) t0 (ts.drop 1)).val ∧ Below w.heap.size w w' := by
  obtain ⟨hlen, hrow⟩ := hT
  have hn0 : 0 < n := by
    have := (List.getElem?_eq_some_iff.1 h0).1
    omega
  have HL := Lib.hid hlen
  obtain ⟨b, off, rfl, hcell⟩ := hrow hn0
  have HC := Lib.hid hcell
  have H0 := Lib.hid h0
  obtain ⟨i0, r0, a0, d0, o0, c0, p0, n0⟩ := hcell 0 t0 h0
  simp only [Nat.zero_mul, Nat.add_zero] at i0 r0 a0 d0 o0 c0 p0 n0
  have hz : Below w.heap.size w (w.alloc (.cells #[.int .i64 0, .string ⟨#[]⟩, .bool false, .int .i64 0, .string ⟨#[]⟩, .int .i64 0, .int .i64 0, .slice none 0 0] 41)) := (Below.refl _ w).alloc (Nat.le_refl _) _
  have i1 := cell_later hz i0
  have r1 := cell_later hz r0
  have a1 := cell_later hz a0
  have d1 := cell_later hz d0
  have o1 := cell_later hz o0
  have c1 := cell_later hz c0
  have p1 := cell_later hz p0
  have n1 := cell_later hz n0
  have HZ := Lib.hid hz
  clear hz i0 r0 a0 d0 o0 c0 p0 n0
  clear hrow hlen hcell h0
  have HE : Hid _ := Lib.hid (fun (x m : Task) (wx : World) (h1 : wx.cell? pu = some (.slice Au nu cu)) (h2 : wx.cell? ps = some (.slice As ns cs)) (h3 : Prow wx Au nu us) (h4 : Prow wx As ns ss) => beforeE x.id x.pri m.id m.pri x.owner m.owner (.string x.rel) (.bool x.all) (.int .i64 x.day) (.int .i64 x.cost) (.slice x.na x.nn x.nc) (.string m.rel) (.bool m.all) (.int .i64 m.day) (.int .i64 m.cost) (.slice m.na m.nn m.nc) pu ps Au As nu cu ns cs us ss wx h1 h2 h3 h4 hnu hns hs)
  clear hs
  have hn1 : ¬ (n : Int) < 1 := by omega
  go_enter Try.func30, Try.ntmps30
  go_wp2
  go_loopw [6] (fun i wv => ∃ (k : Nat) (m : Task), 1 ≤ k ∧ k ≤ n ∧ i = .int .i64 k ∧ Hid (pick (ltT ss us) m (ts.drop k) = pick (ltT ss us) t0 (ts.drop 1)) ∧ Below w.heap.size w wv ∧ Two wv w.heap.size m) (fun i _ => n - (intOf i).toNat)
  case atStart =>
    refine ⟨1, t0, by omega, by omega, rfl, rfl, ?_, ?_⟩
    · exact ((Below.refl _ w).alloc (Nat.le_refl _) _).alloc (by simp) _
    · unfold Two Tcells
      simp [zTask]
  case round =>
    clear i1 r1 a1 d1 o1 c1 p1 n1
    obtain ⟨k, m, hk1, hkn, rfl, HP, hb, hm⟩ := hrel
    have HM := Lib.hid hm
    obtain ⟨⟨m0, m1, m2, m3, m4, m5, m6, m7⟩, ⟨z0, z1, z2, z3, z4, z5, z6, z7⟩, hf0, hf1, hz⟩ := hm
    simp only [Nat.zero_add, zTask] at m0 m1 m2 m3 m4 m5 m6 m7 z0 z1 z2 z3 z4 z5 z6 z7
    by_cases hlt : k < n
    · obtain ⟨x, hx⟩ : ∃ x, ts[k]? = some x := ⟨ts[k]'(by have := HL.out; omega), List.getElem?_eq_getElem _⟩
      obtain ⟨e0, e1, e2, e3, e4, e5, e6, e7⟩ := (HC.out k x hx).later hb
      have HX := Lib.hid hx
      clear hx
      go_wp2
      go_still_tail 6, (by kernel_rfl)
      have hd : Below w.heap.size w wr.drew := hb.drew
      have hm2 : Two wr.drew w.heap.size m := HM.out.later (Below.refl _ wr).drew
      clear HM hb m0 m1 m2 m3 m4 m5 m6 m7 z0 z1 z2 z3 z4 z5 z6 z7 hf0 hf1 hz e0 e1 e2 e3 e4 e5 e6 e7
      change wpList _ _ _ _ _ wr.drew
      generalize wr.drew = w2 at hd hm2 ⊢
      have HD := Lib.hid hd
      have HM2 := Lib.hid hm2
      have g1 := cell_later hd hpu
      have g2 := cell_later hd hps
      have g3 := hU.later hd
      have g4 := hS.later hd
      clear hd hm2
      go_wp2_with fail
      refine (HE.out x m _ g1 g2 g3 g4).mono ?_
      rintro e w3 ⟨rfl, hb3⟩
      have HM3 := Lib.hid (HM2.out.later hb3)
      have HD3 := Lib.hid (bthen HD.out (Nat.le_refl _) hb3)
      have HXR := Lib.hid ((HC.out k x HX.out).later HD3.out)
      clear g1 g2 g3 g4 hb3 HM2 HD
      cases hc : decide (cmpV ss us x.owner x.pri x.id m.owner m.pri m.id < 0)
      · have HCc : Hid (ltT ss us x m = false) := Lib.hid hc
        go_wp2
        case roundEnd => exact ⟨⟨k + 1, m, by omega, by omega, rfl, Lib.hid (by rw [← HP.out, pick_step HX.out, HCc.out]; rfl), HD3.out, HM3.out⟩, by simp [intOf]; omega⟩
      · have HCc : Hid (ltT ss us x m = true) := Lib.hid hc
        obtain ⟨e0, e1, e2, e3, e4, e5, e6, e7⟩ := HXR.out
        obtain ⟨⟨m0, m1, m2, m3, m4, m5, m6, m7⟩, ⟨z0, z1, z2, z3, z4, z5, z6, z7⟩, hf0, hf1, hz⟩ := HM3.out
        simp only [Nat.zero_add, zTask] at m0 m1 m2 m3 m4 m5 m6 m7 z0 z1 z2 z3 z4 z5 z6 z7
        go_wp2
        case roundEnd =>
          exact ⟨⟨k + 1, x, by omega, by omega, rfl, Lib.hid (by rw [← HP.out, pick_step HX.out, HCc.out]; rfl), below8 HD3.out (by omega) x, two8 HM3.out x⟩, by simp [intOf]; omega⟩
    · go_wp2
      have HB8 := Lib.hid (below8 hb (Nat.le_refl _) m)
      obtain ⟨q0, q1, q2, q3, q4, q5, q6, q7⟩ := tc8 HM.out.2.1 m
      simp only [Nat.zero_add] at q0 q1 q2 q3 q4 q5 q6 q7
      refine bodyPost_ret (v := m.val) (by simp [results, Try.results30, go_sem, Task.val, *]) rfl ⟨?_, HB8.out⟩
      have HN : k = n := by omega
      rw [← HP.out, HN, List.drop_eq_nil_of_le (by have := HL.out; omega)]
      rfl
end Go.Proofs.Ytknpcphaieoocaa
