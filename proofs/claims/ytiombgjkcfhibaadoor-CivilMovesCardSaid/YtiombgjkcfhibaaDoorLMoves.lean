/-
  CivilMoves: for every three integers the law returns true: months added one after another from the first day of a month are as many at once, and the way back leads to the same day. The table of the months' lengths holds its initial numbers (tied to the program's text).
-/
import Derived.Test.YtiombgjkcfhibaaDoorCards
import Derived.Test.YtiombgjkcfhibaaDoorTie
import Derived.ProofKit
import Derived.OpenShut
import Derived.Deep.DeepHandedRow
import Derived.Lib.LaidTab
import Derived.Test.YtiombgjkcfhibaaDoorFrame
import Derived.Test.YtiombgjkcfhibaaDoorMonths0
import Derived.Test.YtiombgjkcfhibaaDoorKnow
namespace Go.Proofs.YtiombgjkcfhibaaDoor.lawCivilMoves
open Go.ChangeShapes Go.WideShapes Go.ChangeAt Go.RowKit
set_option linter.unusedSimpArgs false
set_option linter.unusedVariables false

theorem keepD {a : Int} {y m d y' m' d' : Int} (h : IsDate a y m d) (h' : IsDate a y' m' d') : y = y' ∧ m = m' ∧ d = d' := num_inj h.1 h'.1 (by rw [h.2, h'.2])

/-- the day number of the first day of a month, months counted from the year 0 on -/
def firstOf (t : Int) : Int := num (t / 12) (t % 12 + 1) 1
theorem dby_2501 : dby 2501 = 193944 := by decide
theorem first_date {t : Int} (h1 : 23640 ≤ t) (h2 : t ≤ 30000) : IsDate (firstOf t) (t / 12) (t % 12 + 1) 1 ∧ 0 ≤ firstOf t ∧ firstOf t ≤ 400000 := by
  have hv : vld (t / 12) (t % 12 + 1) 1 := ⟨by omega, by omega, by omega, by omega, by have := dim_bd (t / 12) (t % 12 + 1); omega⟩
  have a := num_hi hv
  have b := dby_mono (t / 12 + 1) 2501 (by omega)
  have c := num_lo hv
  have d := dby_mono 1970 (t / 12) (by omega)
  rw [dby_2501] at b
  rw [dby_1970] at d
  exact ⟨⟨hv, rfl⟩, by unfold firstOf; omega, by unfold firstOf; omega⟩
theorem first_ok {t : Int} (h1 : 23640 ≤ t) (h2 : t ≤ 30000) : okDate (t / 12) (t % 12 + 1) 1 = true ∧ dayV (t / 12) (t % 12 + 1) 1 = firstOf t := by
  obtain ⟨⟨hv, hn⟩, h3, h4⟩ := first_date h1 h2
  have hok : okDate (t / 12) (t % 12 + 1) 1 = true := okDate_iff.2 ⟨hv, by rw [hn]; exact h4⟩
  exact ⟨hok, by unfold dayV; rw [if_pos hok]; exact hn⟩
/-- n months after the first day of the month t -/
theorem am_first {t n y m d : Int} (h1 : 23640 ≤ t) (h2 : t ≤ 30000) (h3 : 23640 ≤ t + n) (h4 : t + n ≤ 30000) (hD : IsDate (firstOf t) y m d) : amV y m d n = firstOf (t + n) ∧ amB y m d n = true := by
  obtain ⟨rfl, rfl, rfl⟩ := keepD hD (first_date h1 h2).1
  have e : amT (t / 12) (t % 12 + 1) n = t + n := by unfold amT; omega
  obtain ⟨o1, o2⟩ := first_ok h3 h4
  have hm : min 1 (dim ((t + n) / 12) ((t + n) % 12 + 1)) = 1 := by have := dim_bd ((t + n) / 12) ((t + n) % 12 + 1); omega
  unfold amV amB
  rw [e, hm, if_neg (by omega), if_neg (by omega)]
  exact ⟨o2, o1⟩
/-- AddMonths from the first day of a month -/
theorem am_at (t n : Int) (w : World) (hT : Tab w) (k : Int) (hk : k = firstOf t) (h1 : 23640 ≤ t) (h2 : t ≤ 30000) (h3 : 23640 ≤ t + n) (h4 : t + n ≤ 30000) (n1 : -400000 ≤ n) (n2 : n ≤ 400000) :
    Calls Tryd.prog 21 #[.int .i64 k, .int .i64 n] w fun e w' => e = .returned (.tuple #[.int .i64 (firstOf (t + n)), .bool true]) ∧ w = w' := by
  subst hk
  have hf := first_date h1 h2
  refine (amE _ _ _ hT ⟨hf.2.1, hf.2.2, n1, n2⟩).mono ?_
  rintro e w' ⟨y, m, d, hD, rfl, rfl⟩
  obtain ⟨e1, e2⟩ := am_first h1 h2 h3 h4 hD
  exact ⟨by rw [e1, e2], rfl⟩


set_option maxRecDepth 100000 in
set_option maxHeartbeats 2000000 in
theorem core (y0 a0 b0 y m a b : Int) (hy : y = y0 % 256) (hm : m = y0 / 256 % 8) (ha : a = a0 % 256 - 128) (hb : b = b0 % 256 - 128) (w : World) (hT : Tab w) :
    Calls Tryd.prog 8 #[.int .i64 y0, .int .i64 a0, .int .i64 b0] w fun e w' => e = .returned (.bool true) ∧ Below w.heap.size w w' := by
  have e1 : bits .and .i64 y0 255 = y := by rw [and255]; omega
  have e2 : bits .and .i64 (y0 / 256) 7 = m := by rw [and7]; omega
  have e3 := and255 a0
  have e4 := and255 b0
  have e5 : a0 % 256 - 128 = a := ha.symm
  have e6 : b0 % 256 - 128 = b := hb.symm
  have y1 : 0 ≤ y := by omega
  have y2 : y ≤ 255 := by omega
  have m1 : 0 ≤ m := by omega
  have m2 : m ≤ 7 := by omega
  have a1 : -128 ≤ a := by omega
  have a2 : a ≤ 127 := by omega
  have b1 : -128 ≤ b := by omega
  have b2 : b ≤ 127 := by omega
  obtain ⟨t, ht⟩ : ∃ t, t = (2000 + y) * 12 + m := ⟨_, rfl⟩
  have f := first_ok (t := t) (by omega) (by omega)
  have q1 : t / 12 = 2000 + y := by omega
  have q2 : t % 12 + 1 = 1 + m := by omega
  rw [q1, q2] at f
  have f1 := f.1
  have f2 := f.2
  have t1 : 23640 + 300 ≤ t := by omega
  have t2 : t ≤ 29000 := by omega
  have z1 : Hid (t + a + -a = t) := Lib.hid (by omega)
  have z2 : Hid (t + (a + b) = t + a + b) := Lib.hid (by omega)
  clear hy hm ha hb ht q1 q2 f
  generalize hf0 : firstOf t = f0 at *
  have F0 := Lib.hid hf0
  clear hf0
  go_enter Tryd.func8, Tryd.ntmps8
  go_wp2_with fail
  refine (daysE _ _ _ _ hT).mono ?_
  rintro e w1 ⟨rfl, rfl⟩
  go_wp2_with fail
  refine (am_at t _ _ hT _ F0.out.symm (by omega) (by omega) (by omega) (by omega) (by omega) (by omega)).mono ?_
  rintro e w1 ⟨rfl, rfl⟩
  go_wp2_with fail
  refine (am_at (t + a) _ _ hT _ rfl (by omega) (by omega) (by omega) (by omega) (by omega) (by omega)).mono ?_
  rintro e w1 ⟨rfl, rfl⟩
  go_wp2_with fail
  refine (am_at t _ _ hT _ F0.out.symm (by omega) (by omega) (by omega) (by omega) (by omega) (by omega)).mono ?_
  rintro e w1 ⟨rfl, rfl⟩
  rw [z2.out]
  go_wp2_with fail
  refine (am_at (t + a) _ _ hT _ rfl (by omega) (by omega) (by omega) (by omega) (by omega) (by omega)).mono ?_
  rintro e w1 ⟨rfl, rfl⟩
  rw [z1.out, F0.out]
  go_wp2_with (go_at_call 12; refine (known_any _ hT).mono ?_; rintro e w1 ⟨rfl, hb⟩)
  go_ret
  exact ⟨rfl, hb⟩
theorem walk (a0 : Int) (w0 : (Lit.int .i64 a0).wf = true) (a1 : Int) (w1 : (Lit.int .i64 a1).wf = true) (a2 : Int) (w2 : (Lit.int .i64 a2).wf = true) (w : World) (hT : Tab w) :
    Calls Tryd.prog 8 #[.int .i64 a0, .int .i64 a1, .int .i64 a2] w fun e w' => e = .returned (.bool true) ∧ Below w.heap.size w w' := core a0 a1 a2 _ _ _ _ rfl rfl rfl rfl w hT


/-- WHAT THE WALK GIVES, FOR EVERY ARGUMENT AND EVERY WORLD THAT HOLDS THE TABLE. -/
theorem contract (H : Type) (enc : TypeId × Value → H) (W : World) (base : Nat) (args : Array Value) (ds gs : List (DataW H)) (before : List MemPlace)
    (hval0 : ∀ (j : Nat) t v, Tryd.f8.params[j]? = some t → args[j]? = some v → Value.okWide Tryd.prog W .any base t v)
    (hW : DataW.Whole enc Tryd.prog Tryd.f8.params.toList Rows.civilMovesSpec.vars false W args.toList ds gs before) (hL : laidMetH Tryd.prog Rows.civilMovesRow.laid W) :
    Calls Tryd.prog 8 args W fun e W' => ∃ v, e = .returned v ∧ Rows.civilMovesSpec.post enc Tryd.prog Tryd.f8 false true false false W args v W' := by
  have hT : Tab W := tab_of hL
  have hval : ∀ (j : Nat) t v, Tryd.f8.params[j]? = some t → args[j]? = some v → Value.okWide Tryd.prog W .any base t v := hval0
  have hW' := hW
  obtain ⟨p, q, hA0, hV, rfl, hfz, hnd⟩ := hW
  have hA : DataW.TrodAll enc Tryd.prog W 0 (fun _ => true) true Tryd.f8.params.toList args.toList ds p := hA0
  rw [Tryd.params8] at hA hval
  obtain ⟨v0, vs0, d0, ds0, p0, q0, hargs, rfl, rfl, h0, r0⟩ := trodAll_cons hA
  obtain ⟨v1, vs1, d1, ds1, p1, q1, rfl, rfl, rfl, h1, r1⟩ := trodAll_cons r0
  obtain ⟨v2, vs2, d2, ds2, p2, q2, rfl, rfl, rfl, h2, r2⟩ := trodAll_cons r1
  obtain ⟨rfl, rfl, rfl⟩ := trodAll_nil r2
  obtain rfl : args = #[v0, v1, v2] := by cases args; simp_all
  obtain ⟨rfl, rfl⟩ := trodVars_none hV
  obtain ⟨a0, rfl, rfl, rfl, w0⟩ := open_int Tryd.underlying3 (hval 0 3 v0 rfl rfl) h0
  obtain ⟨a1, rfl, rfl, rfl, w1⟩ := open_int Tryd.underlying3 (hval 1 3 v1 rfl rfl) h1
  obtain ⟨a2, rfl, rfl, rfl, w2⟩ := open_int Tryd.underlying3 (hval 2 3 v2 rfl rfl) h2
  clear hA0 hval0
  simp only [List.append_nil] at hW'
  refine (walk a0 w0 a1 w1 a2 w2 W hT).mono fun e W' ⟨he, hb⟩ => ?_
  subst he
  exact ⟨_, rfl, law_post laidOut (by rw [Tryd.params8]; simp only [List.mem_cons, List.not_mem_nil, or_false, forall_eq_or_imp, forall_eq]; exact ⟨⟨by kernel_rfl, by decide +kernel⟩, ⟨by kernel_rfl, by decide +kernel⟩, ⟨by kernel_rfl, by decide +kernel⟩⟩) rfl rfl Tryd.underlying4 hW' rfl rfl rfl hb⟩

/-- A WORLD FOR THE WITNESS: the settled one, the table (block 0) holding what its initialiser lays. -/
noncomputable def laidWorld (os : Os) : World :=
  { World.holding Tryd.prog os ⟨#[], #[], []⟩ with heap := (World.holding Tryd.prog os ⟨#[], #[], []⟩).heap.modify 0 fun
      | .cells _ t frozen => .cells #[.int .i64 31, .int .i64 28, .int .i64 31, .int .i64 30, .int .i64 31, .int .i64 30, .int .i64 31, .int .i64 31, .int .i64 30, .int .i64 31, .int .i64 30, .int .i64 31] t frozen
      | o => o }
theorem laid_met (os : Os) : laidMet Tryd.prog Rows.civilMovesRow.laid ((laidWorld os).forCall (fun _ _ => 0) ⟨#[], #[.int .i64 0, .int .i64 0, .int .i64 0], []⟩).memory :=
  laidMet_of_run' 8 (by kernel_rfl) (by kernel_rfl)
theorem reads (os : Os) {H : Type} (enc : TypeId × Value → H) : ∃ places, DataW.whole enc Tryd.prog ((laidWorld os).forCall (fun _ _ => 0) ⟨#[], #[.int .i64 0, .int .i64 0, .int .i64 0], []⟩).memory Tryd.f8.params.toList Rows.civilMovesSpec.vars false #[Value.int .i64 0, Value.int .i64 0, Value.int .i64 0].toList 8 = some ([.lit (.int .i64 0), .lit (.int .i64 0), .lit (.int .i64 0)], [], places) :=
  ⟨[], by kernel_rfl⟩

set_option maxRecDepth 100000 in
theorem lifted (os : Os) (started : os.Started) (H : Type) (enc : TypeId × Value → H) (F : Stop.Interp) :
    ReturnsInHanded {} Tryd.checked os 8 .any ((OpenSpec.ofChange Rows.civilMovesSpec).preRow enc Tryd.prog Tryd.f8 Rows.civilMovesRow.domain false Rows.civilMovesRow.laid) (((OpenSpec.ofChange Rows.civilMovesSpec).at F).post enc Tryd.prog Tryd.f8 false true false false) := by
  obtain ⟨places, hx⟩ := reads os enc
  refine returnsInHanded_of_row (C := Tryd.checked) (s := OpenSpec.ofChange Rows.civilMovesSpec) own started (by kernel_rfl) Tryd.func8
    (witness_row_at (enc := enc) (C := Tryd.checked) false (laidWorld os) #[.int .i64 0, .int .i64 0, .int .i64 0] rfl (by kernel_rfl) (by kernel_rfl) (by kernel_rfl)
      (OpenSpec.preRow_of_cond 8 hx (by kernel_rfl) (fun k hk => by cases hk) (by kernel_rfl) (laid_met os))) ?_
  intro W base args ds gs before hval hW _ _ _ hL _ _
  exact contract H enc W base args ds gs before hval hW hL

theorem said : Rows.CivilMovesSaid :=
  OpenClaim.holds_of_cond 8 Tryd.f8 rfl rfl rfl rfl rfl rfl rfl ⟨rfl, rfl, rfl, rfl, rfl⟩ rfl rfl rfl rfl rfl (by kernel_rfl) Tryd.func8 (by kernel_rfl)
    (of_decide_eq_true (by kernel_rfl)) (by unfold Func.isWrapper; first | (rw [if_pos (by decide +kernel)]; kernel_rfl) | (rw [if_neg (by decide +kernel)]; exact ⟨rfl, rfl⟩))
    (fun os started H enc _ F => by rw [OpenClaim.pre_eq_preRow]; exact lifted os started H enc F)

/-- No parameter wants a stand-in; the program's own looks are off: what the card asks. -/
theorem plain (f : FuncId) (fn : Func) (hf : Tryd.pinned.checked.prog.funcNamed "warehouse/warehouselaw3.CivilMoves" = some f) (hfn : Tryd.pinned.checked.prog.funcs[f]? = some fn) :
    false = Tryd.pinned.checked.prog.looks [] ∧ ∀ (j : Nat) t, fn.params[j]? = some t → Tryd.pinned.checked.prog.wantsStandIn t = false := by
  obtain rfl : f = 8 := Option.some.inj ((show Tryd.prog.funcNamed "warehouse/warehouselaw3.CivilMoves" = some 8 by kernel_rfl).symm.trans hf) |>.symm
  obtain rfl : fn = Tryd.f8 := (Option.some.inj (Tryd.func8.symm.trans hfn)).symm
  refine ⟨by kernel_rfl, fun j t ht => ?_⟩
  rw [Tryd.params8] at ht
  have hm := Array.mem_of_getElem? ht
  simp at hm
  exact stand_ins t (by first | exact .inl hm | (rcases hm with rfl | rfl | rfl | rfl <;> simp) | (rcases hm with rfl | rfl | rfl <;> simp) | (rcases hm with rfl | rfl <;> simp))

/-- ████ THE CARD ████ -/
theorem card : Rows.CivilMovesCardSaid :=
  Claim7.holds_tied_plain_at .later [] _ _ _ _ said (fun _ h => by cases h) (by kernel_rfl) (fun _ h => by cases h) civilMoves_row_tie rfl ⟨rfl, rfl⟩ (by kernel_rfl) rfl plain (by kernel_rfl)
#print axioms card
end Go.Proofs.YtiombgjkcfhibaaDoor.lawCivilMoves
