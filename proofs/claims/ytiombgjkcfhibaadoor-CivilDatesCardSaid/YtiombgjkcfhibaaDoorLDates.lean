/-
  CivilDates: for every two integers the law returns true: Date inverts Days, and the next day has the next date. The table of the months' lengths holds its initial numbers (tied to the program's text).
-/
import Derived.Test.YtiombgjkcfhibaaDoorCards
import Derived.Test.YtiombgjkcfhibaaDoorTie
import Derived.ProofKit
import Derived.OpenShut
import Derived.Deep.DeepHandedRow
import Derived.Lib.LaidTab
import Derived.Test.YtiombgjkcfhibaaDoorFrame
import Derived.Test.YtiombgjkcfhibaaDoorMonths0
import Derived.Test.YtiombgjkcfhibaaDoorKnow
namespace Go.Proofs.YtiombgjkcfhibaaDoor.lawCivilDates
open Go.ChangeShapes Go.WideShapes Go.ChangeAt Go.RowKit
set_option linter.unusedSimpArgs false
set_option linter.unusedVariables false

theorem keepD {a : Int} {y m d y' m' d' : Int} (h : IsDate a y m d) (h' : IsDate a y' m' d') : y = y' ∧ m = m' ∧ d = d' := num_inj h.1 h'.1 (by rw [h.2, h'.2])


set_option maxRecDepth 100000 in
set_option maxHeartbeats 2000000 in
theorem tail (n : Int) (a : Int) (b : Int) (n0 : 0 ≤ n) (n1 : n ≤ 400000) (e1 : bits .and .i64 b 16777215 = b % 16777216) (e2 : b % 16777216 % 400001 = n) (ok : Bool) (hok : (decide (0 ≤ a) && decide (a ≤ 400000)) = ok) (w : World) (hT : Tab w) :
    Calls Tryd.prog 6 #[.int .i64 a, .int .i64 b] w fun e w' => e = .returned (.bool true) ∧ Below w.heap.size w w' := by
  cases ok
  · have ha : a < 0 ∨ 400000 < a := by simp at hok; omega
    have k1 : (decide (0 ≤ a) && decide (a ≤ 400000)) = false := hok
    rcases ha with ha | ha
    · have k2 : decide (0 ≤ a) = false := by simp; omega
      go_enter Tryd.func6, Tryd.ntmps6
      go_wp2_with fail
      refine (dateNoE _ _ (.inl ha)).mono ?_
      rintro e w1 ⟨rfl, rfl⟩
      go_wp2_with fail
      refine (dateE n _ hT n0 n1).mono ?_
      rintro e w1 ⟨y, m, d, hD, rfl, rfl⟩
      have HD := Lib.hid hD
      clear hD
      go_wp2_with fail
      refine (dateF n _ n0 n1).mono ?_
      rintro e w1 ⟨y', m', d', hD', rfl, rfl⟩
      obtain ⟨rfl, rfl, rfl⟩ := keepD HD.out hD'
      clear hD'
      have f1 : dayV y m d = n := by unfold dayV; rw [if_pos (okDate_iff.2 ⟨HD.out.1, by rw [HD.out.2]; exact n1⟩)]; exact HD.out.2
      have f2 : okDate y m d = true := okDate_iff.2 ⟨HD.out.1, by rw [HD.out.2]; exact n1⟩
      go_wp2_with fail
      refine (daysE _ _ _ _ hT).mono ?_
      rintro e w1 ⟨rfl, rfl⟩
      by_cases h9 : n = 400000
      · have h9' : 400000 < n + 1 := by omega
        clear h9
        go_wp2_with fail
        refine (dateNoE _ _ (by omega)).mono ?_
        rintro e w1 ⟨rfl, rfl⟩
        go_wp2_with (go_at_call 12; refine (known_any _ hT).mono ?_; rintro e w1 ⟨rfl, hb⟩)
        go_ret
        exact ⟨rfl, hb⟩
      · have h9' : n ≤ 399999 := by omega
        clear h9
        go_wp2_with fail
        refine (dateE _ _ hT (by omega) (by omega)).mono ?_
        rintro e w1 ⟨u, v, x, hX, rfl, rfl⟩
        have hnx := num_next HD.out.1 hX.1 (by rw [HD.out.2, hX.2])
        obtain ⟨yy1, yy2, mm1, mm2, dd1, dd2⟩ := isDate_bd HD.out (by omega)
        clear hX HD
        rcases hnx with ⟨rfl, rfl, rfl⟩ | ⟨rfl, ⟨rfl, rfl⟩ | ⟨rfl, rfl, rfl⟩⟩
        · go_wp2_with (go_at_call 12; refine (known_any _ hT).mono ?_; rintro e w1 ⟨rfl, hb⟩)
          go_ret
          exact ⟨rfl, hb⟩
        · have b1 : (m + 1 == m) = false := by simp; omega
          go_wp2_with (go_at_call 12; refine (known_any _ hT).mono ?_; rintro e w1 ⟨rfl, hb⟩)
          go_ret
          exact ⟨rfl, hb⟩
        · go_wp2_with (go_at_call 12; refine (known_any _ hT).mono ?_; rintro e w1 ⟨rfl, hb⟩)
          go_ret
          exact ⟨rfl, hb⟩
    · have k2 : decide (a ≤ 400000) = false := by simp; omega
      have k3 : decide (0 ≤ a) = true := by simp; omega
      go_enter Tryd.func6, Tryd.ntmps6
      go_wp2_with fail
      refine (dateNoE _ _ (.inr ha)).mono ?_
      rintro e w1 ⟨rfl, rfl⟩
      go_wp2_with fail
      refine (dateE n _ hT n0 n1).mono ?_
      rintro e w1 ⟨y, m, d, hD, rfl, rfl⟩
      have HD := Lib.hid hD
      clear hD
      go_wp2_with fail
      refine (dateF n _ n0 n1).mono ?_
      rintro e w1 ⟨y', m', d', hD', rfl, rfl⟩
      obtain ⟨rfl, rfl, rfl⟩ := keepD HD.out hD'
      clear hD'
      have f1 : dayV y m d = n := by unfold dayV; rw [if_pos (okDate_iff.2 ⟨HD.out.1, by rw [HD.out.2]; exact n1⟩)]; exact HD.out.2
      have f2 : okDate y m d = true := okDate_iff.2 ⟨HD.out.1, by rw [HD.out.2]; exact n1⟩
      go_wp2_with fail
      refine (daysE _ _ _ _ hT).mono ?_
      rintro e w1 ⟨rfl, rfl⟩
      by_cases h9 : n = 400000
      · have h9' : 400000 < n + 1 := by omega
        clear h9
        go_wp2_with fail
        refine (dateNoE _ _ (by omega)).mono ?_
        rintro e w1 ⟨rfl, rfl⟩
        go_wp2_with (go_at_call 12; refine (known_any _ hT).mono ?_; rintro e w1 ⟨rfl, hb⟩)
        go_ret
        exact ⟨rfl, hb⟩
      · have h9' : n ≤ 399999 := by omega
        clear h9
        go_wp2_with fail
        refine (dateE _ _ hT (by omega) (by omega)).mono ?_
        rintro e w1 ⟨u, v, x, hX, rfl, rfl⟩
        have hnx := num_next HD.out.1 hX.1 (by rw [HD.out.2, hX.2])
        obtain ⟨yy1, yy2, mm1, mm2, dd1, dd2⟩ := isDate_bd HD.out (by omega)
        clear hX HD
        rcases hnx with ⟨rfl, rfl, rfl⟩ | ⟨rfl, ⟨rfl, rfl⟩ | ⟨rfl, rfl, rfl⟩⟩
        · go_wp2_with (go_at_call 12; refine (known_any _ hT).mono ?_; rintro e w1 ⟨rfl, hb⟩)
          go_ret
          exact ⟨rfl, hb⟩
        · have b1 : (m + 1 == m) = false := by simp; omega
          go_wp2_with (go_at_call 12; refine (known_any _ hT).mono ?_; rintro e w1 ⟨rfl, hb⟩)
          go_ret
          exact ⟨rfl, hb⟩
        · go_wp2_with (go_at_call 12; refine (known_any _ hT).mono ?_; rintro e w1 ⟨rfl, hb⟩)
          go_ret
          exact ⟨rfl, hb⟩
  · have ha : 0 ≤ a ∧ a ≤ 400000 := by simpa using hok
    go_enter Tryd.func6, Tryd.ntmps6
    go_wp2_with fail
    refine (dateE _ _ hT ha.1 ha.2).mono ?_
    rintro e w1 ⟨y0, m0, d0, hD0, rfl, rfl⟩
    clear hD0
    go_wp2_with fail
    refine (dateE n _ hT n0 n1).mono ?_
    rintro e w1 ⟨y, m, d, hD, rfl, rfl⟩
    have HD := Lib.hid hD
    clear hD
    go_wp2_with fail
    refine (dateF n _ n0 n1).mono ?_
    rintro e w1 ⟨y', m', d', hD', rfl, rfl⟩
    obtain ⟨rfl, rfl, rfl⟩ := keepD HD.out hD'
    clear hD'
    have f1 : dayV y m d = n := by unfold dayV; rw [if_pos (okDate_iff.2 ⟨HD.out.1, by rw [HD.out.2]; exact n1⟩)]; exact HD.out.2
    have f2 : okDate y m d = true := okDate_iff.2 ⟨HD.out.1, by rw [HD.out.2]; exact n1⟩
    go_wp2_with fail
    refine (daysE _ _ _ _ hT).mono ?_
    rintro e w1 ⟨rfl, rfl⟩
    by_cases h9 : n = 400000
    · have h9' : 400000 < n + 1 := by omega
      clear h9
      go_wp2_with fail
      refine (dateNoE _ _ (by omega)).mono ?_
      rintro e w1 ⟨rfl, rfl⟩
      go_wp2_with (go_at_call 12; refine (known_any _ hT).mono ?_; rintro e w1 ⟨rfl, hb⟩)
      go_ret
      exact ⟨rfl, hb⟩
    · have h9' : n ≤ 399999 := by omega
      clear h9
      go_wp2_with fail
      refine (dateE _ _ hT (by omega) (by omega)).mono ?_
      rintro e w1 ⟨u, v, x, hX, rfl, rfl⟩
      have hnx := num_next HD.out.1 hX.1 (by rw [HD.out.2, hX.2])
      obtain ⟨yy1, yy2, mm1, mm2, dd1, dd2⟩ := isDate_bd HD.out (by omega)
      clear hX HD
      rcases hnx with ⟨rfl, rfl, rfl⟩ | ⟨rfl, ⟨rfl, rfl⟩ | ⟨rfl, rfl, rfl⟩⟩
      · go_wp2_with (go_at_call 12; refine (known_any _ hT).mono ?_; rintro e w1 ⟨rfl, hb⟩)
        go_ret
        exact ⟨rfl, hb⟩
      · have b1 : (m + 1 == m) = false := by simp; omega
        go_wp2_with (go_at_call 12; refine (known_any _ hT).mono ?_; rintro e w1 ⟨rfl, hb⟩)
        go_ret
        exact ⟨rfl, hb⟩
      · go_wp2_with (go_at_call 12; refine (known_any _ hT).mono ?_; rintro e w1 ⟨rfl, hb⟩)
        go_ret
        exact ⟨rfl, hb⟩
theorem walk (a0 : Int) (w0 : (Lit.int .i64 a0).wf = true) (a1 : Int) (w1 : (Lit.int .i64 a1).wf = true) (w : World) (hT : Tab w) :
    Calls Tryd.prog 6 #[.int .i64 a0, .int .i64 a1] w fun e w' => e = .returned (.bool true) ∧ Below w.heap.size w w' :=
  tail _ a0 a1 (Int.emod_nonneg _ (by omega)) (by have := Int.emod_lt_of_pos (a1 % 16777216) (show (0 : Int) < 400001 by omega); omega) (and16777215 a1) rfl _ rfl w hT


/-- WHAT THE WALK GIVES, FOR EVERY ARGUMENT AND EVERY WORLD THAT HOLDS THE TABLE. -/
theorem contract (H : Type) (enc : TypeId × Value → H) (W : World) (base : Nat) (args : Array Value) (ds gs : List (DataW H)) (before : List MemPlace)
    (hval0 : ∀ (j : Nat) t v, Tryd.f6.params[j]? = some t → args[j]? = some v → Value.okWide Tryd.prog W .any base t v)
    (hW : DataW.Whole enc Tryd.prog Tryd.f6.params.toList Rows.civilDatesSpec.vars false W args.toList ds gs before) (hL : laidMetH Tryd.prog Rows.civilDatesRow.laid W) :
    Calls Tryd.prog 6 args W fun e W' => ∃ v, e = .returned v ∧ Rows.civilDatesSpec.post enc Tryd.prog Tryd.f6 false true false false W args v W' := by
  have hT : Tab W := tab_of hL
  have hval : ∀ (j : Nat) t v, Tryd.f6.params[j]? = some t → args[j]? = some v → Value.okWide Tryd.prog W .any base t v := hval0
  have hW' := hW
  obtain ⟨p, q, hA0, hV, rfl, hfz, hnd⟩ := hW
  have hA : DataW.TrodAll enc Tryd.prog W 0 (fun _ => true) true Tryd.f6.params.toList args.toList ds p := hA0
  rw [Tryd.params6] at hA hval
  obtain ⟨v0, vs0, d0, ds0, p0, q0, hargs, rfl, rfl, h0, r0⟩ := trodAll_cons hA
  obtain ⟨v1, vs1, d1, ds1, p1, q1, rfl, rfl, rfl, h1, r1⟩ := trodAll_cons r0
  obtain ⟨rfl, rfl, rfl⟩ := trodAll_nil r1
  obtain rfl : args = #[v0, v1] := by cases args; simp_all
  obtain ⟨rfl, rfl⟩ := trodVars_none hV
  obtain ⟨a0, rfl, rfl, rfl, w0⟩ := open_int Tryd.underlying3 (hval 0 3 v0 rfl rfl) h0
  obtain ⟨a1, rfl, rfl, rfl, w1⟩ := open_int Tryd.underlying3 (hval 1 3 v1 rfl rfl) h1
  clear hA0 hval0
  simp only [List.append_nil] at hW'
  refine (walk a0 w0 a1 w1 W hT).mono fun e W' ⟨he, hb⟩ => ?_
  subst he
  exact ⟨_, rfl, law_post laidOut (by rw [Tryd.params6]; simp only [List.mem_cons, List.not_mem_nil, or_false, forall_eq_or_imp, forall_eq]; exact ⟨⟨by kernel_rfl, by decide +kernel⟩, ⟨by kernel_rfl, by decide +kernel⟩⟩) rfl rfl Tryd.underlying4 hW' rfl rfl rfl hb⟩

/-- A WORLD FOR THE WITNESS: the settled one, the table (block 0) holding what its initialiser lays. -/
noncomputable def laidWorld (os : Os) : World :=
  { World.holding Tryd.prog os ⟨#[], #[], []⟩ with heap := (World.holding Tryd.prog os ⟨#[], #[], []⟩).heap.modify 0 fun
      | .cells _ t frozen => .cells #[.int .i64 31, .int .i64 28, .int .i64 31, .int .i64 30, .int .i64 31, .int .i64 30, .int .i64 31, .int .i64 31, .int .i64 30, .int .i64 31, .int .i64 30, .int .i64 31] t frozen
      | o => o }
theorem laid_met (os : Os) : laidMet Tryd.prog Rows.civilDatesRow.laid ((laidWorld os).forCall (fun _ _ => 0) ⟨#[], #[.int .i64 0, .int .i64 0], []⟩).memory :=
  laidMet_of_run' 8 (by kernel_rfl) (by kernel_rfl)
theorem reads (os : Os) {H : Type} (enc : TypeId × Value → H) : ∃ places, DataW.whole enc Tryd.prog ((laidWorld os).forCall (fun _ _ => 0) ⟨#[], #[.int .i64 0, .int .i64 0], []⟩).memory Tryd.f6.params.toList Rows.civilDatesSpec.vars false #[Value.int .i64 0, Value.int .i64 0].toList 8 = some ([.lit (.int .i64 0), .lit (.int .i64 0)], [], places) :=
  ⟨[], by kernel_rfl⟩

set_option maxRecDepth 100000 in
theorem lifted (os : Os) (started : os.Started) (H : Type) (enc : TypeId × Value → H) (F : Stop.Interp) :
    ReturnsInHanded {} Tryd.checked os 6 .any ((OpenSpec.ofChange Rows.civilDatesSpec).preRow enc Tryd.prog Tryd.f6 Rows.civilDatesRow.domain false Rows.civilDatesRow.laid) (((OpenSpec.ofChange Rows.civilDatesSpec).at F).post enc Tryd.prog Tryd.f6 false true false false) := by
  obtain ⟨places, hx⟩ := reads os enc
  refine returnsInHanded_of_row (C := Tryd.checked) (s := OpenSpec.ofChange Rows.civilDatesSpec) own started (by kernel_rfl) Tryd.func6
    (witness_row_at (enc := enc) (C := Tryd.checked) false (laidWorld os) #[.int .i64 0, .int .i64 0] rfl (by kernel_rfl) (by kernel_rfl) (by kernel_rfl)
      (OpenSpec.preRow_of_cond 8 hx (by kernel_rfl) (fun k hk => by cases hk) (by kernel_rfl) (laid_met os))) ?_
  intro W base args ds gs before hval hW _ _ _ hL _ _
  exact contract H enc W base args ds gs before hval hW hL

theorem said : Rows.CivilDatesSaid :=
  OpenClaim.holds_of_cond 6 Tryd.f6 rfl rfl rfl rfl rfl rfl rfl ⟨rfl, rfl, rfl, rfl, rfl⟩ rfl rfl rfl rfl rfl (by kernel_rfl) Tryd.func6 (by kernel_rfl)
    (of_decide_eq_true (by kernel_rfl)) (by unfold Func.isWrapper; first | (rw [if_pos (by decide +kernel)]; kernel_rfl) | (rw [if_neg (by decide +kernel)]; exact ⟨rfl, rfl⟩))
    (fun os started H enc _ F => by rw [OpenClaim.pre_eq_preRow]; exact lifted os started H enc F)

/-- No parameter wants a stand-in; the program's own looks are off: what the card asks. -/
theorem plain (f : FuncId) (fn : Func) (hf : Tryd.pinned.checked.prog.funcNamed "warehouse/warehouselaw3.CivilDates" = some f) (hfn : Tryd.pinned.checked.prog.funcs[f]? = some fn) :
    false = Tryd.pinned.checked.prog.looks [] ∧ ∀ (j : Nat) t, fn.params[j]? = some t → Tryd.pinned.checked.prog.wantsStandIn t = false := by
  obtain rfl : f = 6 := Option.some.inj ((show Tryd.prog.funcNamed "warehouse/warehouselaw3.CivilDates" = some 6 by kernel_rfl).symm.trans hf) |>.symm
  obtain rfl : fn = Tryd.f6 := (Option.some.inj (Tryd.func6.symm.trans hfn)).symm
  refine ⟨by kernel_rfl, fun j t ht => ?_⟩
  rw [Tryd.params6] at ht
  have hm := Array.mem_of_getElem? ht
  simp at hm
  exact stand_ins t (by first | exact .inl hm | (rcases hm with rfl | rfl | rfl | rfl <;> simp) | (rcases hm with rfl | rfl | rfl <;> simp) | (rcases hm with rfl | rfl <;> simp))

/-- ████ THE CARD ████ -/
theorem card : Rows.CivilDatesCardSaid :=
  Claim7.holds_tied_plain_at .later [] _ _ _ _ said (fun _ h => by cases h) (by kernel_rfl) (fun _ h => by cases h) civilDates_row_tie rfl ⟨rfl, rfl⟩ (by kernel_rfl) rfl plain (by kernel_rfl)
#print axioms card
end Go.Proofs.YtiombgjkcfhibaaDoor.lawCivilDates
