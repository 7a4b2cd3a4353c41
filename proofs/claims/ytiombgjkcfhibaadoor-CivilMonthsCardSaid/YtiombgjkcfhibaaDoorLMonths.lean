/-
  CivilMonths: for every four integers the law returns true: AddMonths of package civil returns what the reference returns. The table of the months' lengths holds its initial numbers (tied to the program's text).
-/
import Derived.Test.YtiombgjkcfhibaaDoorCards
import Derived.Test.YtiombgjkcfhibaaDoorTie
import Derived.ProofKit
import Derived.OpenShut
import Derived.Deep.DeepHandedRow
import Derived.Lib.LaidTab
import Derived.Test.YtiombgjkcfhibaaDoorFrame
import Derived.Test.YtiombgjkcfhibaaDoorMonths0
import Derived.Test.YtiombgjkcfhibaaDoorKnow
namespace Go.Proofs.YtiombgjkcfhibaaDoor.lawCivilMonths
open Go.ChangeShapes Go.WideShapes Go.ChangeAt Go.RowKit
set_option linter.unusedSimpArgs false
set_option linter.unusedVariables false

theorem keepD {a : Int} {y m d y' m' d' : Int} (h : IsDate a y m d) (h' : IsDate a y' m' d') : y = y' ∧ m = m' ∧ d = d' := num_inj h.1 h'.1 (by rw [h.2, h'.2])


set_option maxRecDepth 100000 in
set_option maxHeartbeats 2000000 in
theorem core (a b c d m k : Int) (hm : m = c % 16777216 % 400001) (hk : k = d % 1024 - 512) (w : World) (hT : Tab w) :
    Calls Tryd.prog 7 #[.int .i64 a, .int .i64 b, .int .i64 c, .int .i64 d] w fun e w' => e = .returned (.bool true) ∧ Below w.heap.size w w' := by
  have e1 := and16777215 c
  have e2 := and1023 d
  have m0 : 0 ≤ m := by omega
  have m1 : m ≤ 400000 := by omega
  have k0 : -512 ≤ k := by omega
  have k1 : k ≤ 511 := by omega
  have e3 : c % 16777216 % 400001 = m := hm.symm
  have e4 : d % 1024 - 512 = k := hk.symm
  have hin : amIn m k := ⟨by omega, by omega, by omega, by omega⟩
  have HIN := Lib.hid hin
  clear hm hk hin
  by_cases hab : amIn a b
  · have HAB := Lib.hid hab
    clear hab
    go_enter Tryd.func7, Tryd.ntmps7
    go_wp2_with fail
    refine (amE _ _ _ hT HAB.out).mono ?_
    rintro e w1 ⟨y1, z1, d1, hD1, rfl, rfl⟩
    have HD1 := Lib.hid hD1
    clear hD1
    go_wp2_with fail
    refine (amF _ _ _ HAB.out).mono ?_
    rintro e w1 ⟨y2, z2, d2, hD2, rfl, rfl⟩
    obtain ⟨rfl, rfl, rfl⟩ := keepD HD1.out hD2
    clear hD2
    go_wp2_with fail
    refine (amE _ _ _ hT HIN.out).mono ?_
    rintro e w1 ⟨y3, z3, d3, hD3, rfl, rfl⟩
    have HD3 := Lib.hid hD3
    clear hD3
    go_wp2_with fail
    refine (amF _ _ _ HIN.out).mono ?_
    rintro e w1 ⟨y4, z4, d4, hD4, rfl, rfl⟩
    obtain ⟨rfl, rfl, rfl⟩ := keepD HD3.out hD4
    clear hD4
    go_wp2_with (go_at_call 12; refine (known_any _ hT).mono ?_; rintro e w1 ⟨rfl, hb⟩)
    go_ret
    exact ⟨rfl, hb⟩
  · have HAB := Lib.hid hab
    clear hab
    go_enter Tryd.func7, Tryd.ntmps7
    go_wp2_with fail
    refine (amNoE _ _ _ hT HAB.out).mono ?_
    rintro e w1 ⟨rfl, rfl⟩
    go_wp2_with fail
    refine (amNoF _ _ _ HAB.out).mono ?_
    rintro e w1 ⟨rfl, rfl⟩
    go_wp2_with fail
    refine (amE _ _ _ hT HIN.out).mono ?_
    rintro e w1 ⟨y3, z3, d3, hD3, rfl, rfl⟩
    have HD3 := Lib.hid hD3
    clear hD3
    go_wp2_with fail
    refine (amF _ _ _ HIN.out).mono ?_
    rintro e w1 ⟨y4, z4, d4, hD4, rfl, rfl⟩
    obtain ⟨rfl, rfl, rfl⟩ := keepD HD3.out hD4
    clear hD4
    go_wp2_with (go_at_call 12; refine (known_any _ hT).mono ?_; rintro e w1 ⟨rfl, hb⟩)
    go_ret
    exact ⟨rfl, hb⟩
theorem walk (a0 : Int) (w0 : (Lit.int .i64 a0).wf = true) (a1 : Int) (w1 : (Lit.int .i64 a1).wf = true) (a2 : Int) (w2 : (Lit.int .i64 a2).wf = true) (a3 : Int) (w3 : (Lit.int .i64 a3).wf = true) (w : World) (hT : Tab w) :
    Calls Tryd.prog 7 #[.int .i64 a0, .int .i64 a1, .int .i64 a2, .int .i64 a3] w fun e w' => e = .returned (.bool true) ∧ Below w.heap.size w w' := core a0 a1 a2 a3 _ _ rfl rfl w hT


/-- WHAT THE WALK GIVES, FOR EVERY ARGUMENT AND EVERY WORLD THAT HOLDS THE TABLE. -/
theorem contract (H : Type) (enc : TypeId × Value → H) (W : World) (base : Nat) (args : Array Value) (ds gs : List (DataW H)) (before : List MemPlace)
    (hval0 : ∀ (j : Nat) t v, Tryd.f7.params[j]? = some t → args[j]? = some v → Value.okWide Tryd.prog W .any base t v)
    (hW : DataW.Whole enc Tryd.prog Tryd.f7.params.toList Rows.civilMonthsSpec.vars false W args.toList ds gs before) (hL : laidMetH Tryd.prog Rows.civilMonthsRow.laid W) :
    Calls Tryd.prog 7 args W fun e W' => ∃ v, e = .returned v ∧ Rows.civilMonthsSpec.post enc Tryd.prog Tryd.f7 false true false false W args v W' := by
  have hT : Tab W := tab_of hL
  have hval : ∀ (j : Nat) t v, Tryd.f7.params[j]? = some t → args[j]? = some v → Value.okWide Tryd.prog W .any base t v := hval0
  have hW' := hW
  obtain ⟨p, q, hA0, hV, rfl, hfz, hnd⟩ := hW
  have hA : DataW.TrodAll enc Tryd.prog W 0 (fun _ => true) true Tryd.f7.params.toList args.toList ds p := hA0
  rw [Tryd.params7] at hA hval
  obtain ⟨v0, vs0, d0, ds0, p0, q0, hargs, rfl, rfl, h0, r0⟩ := trodAll_cons hA
  obtain ⟨v1, vs1, d1, ds1, p1, q1, rfl, rfl, rfl, h1, r1⟩ := trodAll_cons r0
  obtain ⟨v2, vs2, d2, ds2, p2, q2, rfl, rfl, rfl, h2, r2⟩ := trodAll_cons r1
  obtain ⟨v3, vs3, d3, ds3, p3, q3, rfl, rfl, rfl, h3, r3⟩ := trodAll_cons r2
  obtain ⟨rfl, rfl, rfl⟩ := trodAll_nil r3
  obtain rfl : args = #[v0, v1, v2, v3] := by cases args; simp_all
  obtain ⟨rfl, rfl⟩ := trodVars_none hV
  obtain ⟨a0, rfl, rfl, rfl, w0⟩ := open_int Tryd.underlying3 (hval 0 3 v0 rfl rfl) h0
  obtain ⟨a1, rfl, rfl, rfl, w1⟩ := open_int Tryd.underlying3 (hval 1 3 v1 rfl rfl) h1
  obtain ⟨a2, rfl, rfl, rfl, w2⟩ := open_int Tryd.underlying3 (hval 2 3 v2 rfl rfl) h2
  obtain ⟨a3, rfl, rfl, rfl, w3⟩ := open_int Tryd.underlying3 (hval 3 3 v3 rfl rfl) h3
  clear hA0 hval0
  simp only [List.append_nil] at hW'
  refine (walk a0 w0 a1 w1 a2 w2 a3 w3 W hT).mono fun e W' ⟨he, hb⟩ => ?_
  subst he
  exact ⟨_, rfl, law_post laidOut (by rw [Tryd.params7]; simp only [List.mem_cons, List.not_mem_nil, or_false, forall_eq_or_imp, forall_eq]; exact ⟨⟨by kernel_rfl, by decide +kernel⟩, ⟨by kernel_rfl, by decide +kernel⟩, ⟨by kernel_rfl, by decide +kernel⟩, ⟨by kernel_rfl, by decide +kernel⟩⟩) rfl rfl Tryd.underlying4 hW' rfl rfl rfl hb⟩

/-- A WORLD FOR THE WITNESS: the settled one, the table (block 0) holding what its initialiser lays. -/
noncomputable def laidWorld (os : Os) : World :=
  { World.holding Tryd.prog os ⟨#[], #[], []⟩ with heap := (World.holding Tryd.prog os ⟨#[], #[], []⟩).heap.modify 0 fun
      | .cells _ t frozen => .cells #[.int .i64 31, .int .i64 28, .int .i64 31, .int .i64 30, .int .i64 31, .int .i64 30, .int .i64 31, .int .i64 31, .int .i64 30, .int .i64 31, .int .i64 30, .int .i64 31] t frozen
      | o => o }
theorem laid_met (os : Os) : laidMet Tryd.prog Rows.civilMonthsRow.laid ((laidWorld os).forCall (fun _ _ => 0) ⟨#[], #[.int .i64 0, .int .i64 0, .int .i64 0, .int .i64 0], []⟩).memory :=
  laidMet_of_run' 8 (by kernel_rfl) (by kernel_rfl)
theorem reads (os : Os) {H : Type} (enc : TypeId × Value → H) : ∃ places, DataW.whole enc Tryd.prog ((laidWorld os).forCall (fun _ _ => 0) ⟨#[], #[.int .i64 0, .int .i64 0, .int .i64 0, .int .i64 0], []⟩).memory Tryd.f7.params.toList Rows.civilMonthsSpec.vars false #[Value.int .i64 0, Value.int .i64 0, Value.int .i64 0, Value.int .i64 0].toList 8 = some ([.lit (.int .i64 0), .lit (.int .i64 0), .lit (.int .i64 0), .lit (.int .i64 0)], [], places) :=
  ⟨[], by kernel_rfl⟩

set_option maxRecDepth 100000 in
theorem lifted (os : Os) (started : os.Started) (H : Type) (enc : TypeId × Value → H) (F : Stop.Interp) :
    ReturnsInHanded {} Tryd.checked os 7 .any ((OpenSpec.ofChange Rows.civilMonthsSpec).preRow enc Tryd.prog Tryd.f7 Rows.civilMonthsRow.domain false Rows.civilMonthsRow.laid) (((OpenSpec.ofChange Rows.civilMonthsSpec).at F).post enc Tryd.prog Tryd.f7 false true false false) := by
  obtain ⟨places, hx⟩ := reads os enc
  refine returnsInHanded_of_row (C := Tryd.checked) (s := OpenSpec.ofChange Rows.civilMonthsSpec) own started (by kernel_rfl) Tryd.func7
    (witness_row_at (enc := enc) (C := Tryd.checked) false (laidWorld os) #[.int .i64 0, .int .i64 0, .int .i64 0, .int .i64 0] rfl (by kernel_rfl) (by kernel_rfl) (by kernel_rfl)
      (OpenSpec.preRow_of_cond 8 hx (by kernel_rfl) (fun k hk => by cases hk) (by kernel_rfl) (laid_met os))) ?_
  intro W base args ds gs before hval hW _ _ _ hL _ _
  exact contract H enc W base args ds gs before hval hW hL

theorem said : Rows.CivilMonthsSaid :=
  OpenClaim.holds_of_cond 7 Tryd.f7 rfl rfl rfl rfl rfl rfl rfl ⟨rfl, rfl, rfl, rfl, rfl⟩ rfl rfl rfl rfl rfl (by kernel_rfl) Tryd.func7 (by kernel_rfl)
    (of_decide_eq_true (by kernel_rfl)) (by unfold Func.isWrapper; first | (rw [if_pos (by decide +kernel)]; kernel_rfl) | (rw [if_neg (by decide +kernel)]; exact ⟨rfl, rfl⟩))
    (fun os started H enc _ F => by rw [OpenClaim.pre_eq_preRow]; exact lifted os started H enc F)

/-- No parameter wants a stand-in; the program's own looks are off: what the card asks. -/
theorem plain (f : FuncId) (fn : Func) (hf : Tryd.pinned.checked.prog.funcNamed "warehouse/warehouselaw3.CivilMonths" = some f) (hfn : Tryd.pinned.checked.prog.funcs[f]? = some fn) :
    false = Tryd.pinned.checked.prog.looks [] ∧ ∀ (j : Nat) t, fn.params[j]? = some t → Tryd.pinned.checked.prog.wantsStandIn t = false := by
  obtain rfl : f = 7 := Option.some.inj ((show Tryd.prog.funcNamed "warehouse/warehouselaw3.CivilMonths" = some 7 by kernel_rfl).symm.trans hf) |>.symm
  obtain rfl : fn = Tryd.f7 := (Option.some.inj (Tryd.func7.symm.trans hfn)).symm
  refine ⟨by kernel_rfl, fun j t ht => ?_⟩
  rw [Tryd.params7] at ht
  have hm := Array.mem_of_getElem? ht
  simp at hm
  exact stand_ins t (by first | exact .inl hm | (rcases hm with rfl | rfl | rfl | rfl <;> simp) | (rcases hm with rfl | rfl | rfl <;> simp) | (rcases hm with rfl | rfl <;> simp))

/-- ████ THE CARD ████ -/
theorem card : Rows.CivilMonthsCardSaid :=
  Claim7.holds_tied_plain_at .later [] _ _ _ _ said (fun _ h => by cases h) (by kernel_rfl) (fun _ h => by cases h) civilMonths_row_tie rfl ⟨rfl, rfl⟩ (by kernel_rfl) rfl plain (by kernel_rfl)
#print axioms card
end Go.Proofs.YtiombgjkcfhibaaDoor.lawCivilMonths
