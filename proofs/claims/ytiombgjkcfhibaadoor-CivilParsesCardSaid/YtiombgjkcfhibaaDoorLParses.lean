/-
  CivilParses: for every text, two integers and a byte the law returns true: Parse of package civil returns what the reference returns. The table of the months' lengths holds its initial numbers (tied to the program's text).
-/
import Derived.Test.YtiombgjkcfhibaaDoorCards
import Derived.Test.YtiombgjkcfhibaaDoorTie
import Derived.ProofKit
import Derived.OpenShut
import Derived.Deep.DeepHandedRow
import Derived.Lib.LaidTab
import Derived.Test.YtiombgjkcfhibaaDoorFrame
import Derived.Test.YtiombgjkcfhibaaDoorParseF
import Derived.Test.YtiombgjkcfhibaaDoorChg
import Derived.Test.YtiombgjkcfhibaaDoorKnow
namespace Go.Proofs.YtiombgjkcfhibaaDoor.lawCivilParses
open Go.ChangeShapes Go.WideShapes Go.ChangeAt Go.RowKit
set_option linter.unusedSimpArgs false
set_option linter.unusedVariables false


set_option maxRecDepth 100000 in
set_option maxHeartbeats 2000000 in
theorem core (s : ByteArray) (mi a b m : Int) (hm : m = mi % 1073741824 % 576000000) (b0 : 0 ≤ b) (b1 : b ≤ 255) (w : World) (hT : Tab w) :
    Calls Tryd.prog 5 #[.string s, .int .i64 mi, .int .i64 a, .int .u8 b] w fun e w' => e = .returned (.bool true) ∧ Below w.heap.size w w' := by
  by_cases hl : s.size ≤ 100
  · have e1 := and1073741823 mi
    have e2 : mi % 1073741824 % 576000000 = m := hm.symm
    have m0 : 0 ≤ m := by omega
    have m1 : m ≤ 575999999 := by omega
    have hd : decide (100 < (s.size : Int)) = false := by simp; omega
    clear hm
    go_enter Tryd.func5, Tryd.ntmps5
    go_wp2_with fail
    refine (parseE s _ hT).mono ?_
    rintro e w1 ⟨rfl, hb1⟩
    have T1 := hT.below hb1
    have B1 := Lib.hid hb1
    clear hb1
    go_wp2_with fail
    refine (parseF s _).mono ?_
    rintro e w2 ⟨rfl, hb2⟩
    have T2 := T1.below hb2
    have B2 := Lib.hid hb2
    clear hb2
    go_wp2_with fail
    refine (formatF m _ m0 m1).mono ?_
    rintro e w3 ⟨y, mo, d, hD, rfl, hb3⟩
    have T3 := T2.below hb3
    have B3 := Lib.hid hb3
    clear hb3 hD
    generalize hS : mkS (fmtl y mo d (m % 1440 / 60) (m % 60)) = S
    have hsz : S.size = 16 := by rw [← hS, mkS_size, fmtl_length]
    have HSZ := Lib.hid hsz
    clear hS hsz
    go_wp2_with fail
    refine (changed_any S a b _ HSZ.out b0 b1).mono ?_
    rintro e w4 ⟨S2, rfl, hb4⟩
    have T4 := T3.below hb4
    have B4 := Lib.hid hb4
    clear hb4
    go_wp2_with fail
    refine (parseE S2 _ T4).mono ?_
    rintro e w5 ⟨rfl, hb5⟩
    have T5 := T4.below hb5
    have B5 := Lib.hid hb5
    clear hb5
    go_wp2_with fail
    refine (parseF S2 _).mono ?_
    rintro e w6 ⟨rfl, hb6⟩
    have T6 := T5.below hb6
    have B6 := Lib.hid hb6
    clear hb6
    go_wp2_with fail
    refine (known_any _ T6).mono ?_
    rintro e w7 ⟨rfl, hb7⟩
    have B7 := Lib.hid hb7
    clear hb7
    go_wp2_with fail
    go_ret
    exact ⟨rfl, bthen (bthen (bthen (bthen (bthen (bthen B1.out (Nat.le_refl _) B2.out) (Nat.le_refl _) B3.out) (Nat.le_refl _) B4.out) (Nat.le_refl _) B5.out) (Nat.le_refl _) B6.out) (Nat.le_refl _) B7.out⟩
  · have hd : decide (100 < (s.size : Int)) = true := by simp; omega
    clear hm
    go_enter Tryd.func5, Tryd.ntmps5
    go_wp2_with (go_at_call 12; refine (known_any _ hT).mono ?_; rintro e w1 ⟨rfl, hb⟩)
    go_ret
    exact ⟨rfl, hb⟩
theorem walk (s : ByteArray) (a1 : Int) (w1 : (Lit.int .i64 a1).wf = true) (a2 : Int) (w2 : (Lit.int .i64 a2).wf = true) (a3 : Int) (w3 : (Lit.int .u8 a3).wf = true) (w : World) (hT : Tab w) :
    Calls Tryd.prog 5 #[.string s, .int .i64 a1, .int .i64 a2, .int .u8 a3] w fun e w' => e = .returned (.bool true) ∧ Below w.heap.size w w' := by
  have hb : 0 ≤ a3 ∧ a3 ≤ 255 := by
    simp [Lit.wf, IntKind.min, IntKind.max, IntKind.signed, IntKind.bits] at w3; omega
  exact core s a1 a2 a3 _ rfl hb.1 hb.2 w hT


/-- WHAT THE WALK GIVES, FOR EVERY ARGUMENT AND EVERY WORLD THAT HOLDS THE TABLE. -/
theorem contract (H : Type) (enc : TypeId × Value → H) (W : World) (base : Nat) (args : Array Value) (ds gs : List (DataW H)) (before : List MemPlace)
    (hval0 : ∀ (j : Nat) t v, Tryd.f5.params[j]? = some t → args[j]? = some v → Value.okWide Tryd.prog W .any base t v)
    (hW : DataW.Whole enc Tryd.prog Tryd.f5.params.toList Rows.civilParsesSpec.vars false W args.toList ds gs before) (hL : laidMetH Tryd.prog Rows.civilParsesRow.laid W) :
    Calls Tryd.prog 5 args W fun e W' => ∃ v, e = .returned v ∧ Rows.civilParsesSpec.post enc Tryd.prog Tryd.f5 false true false false W args v W' := by
  have hT : Tab W := tab_of hL
  have hval : ∀ (j : Nat) t v, Tryd.f5.params[j]? = some t → args[j]? = some v → Value.okWide Tryd.prog W .any base t v := hval0
  have hW' := hW
  obtain ⟨p, q, hA0, hV, rfl, hfz, hnd⟩ := hW
  have hA : DataW.TrodAll enc Tryd.prog W 0 (fun _ => true) true Tryd.f5.params.toList args.toList ds p := hA0
  rw [Tryd.params5] at hA hval
  obtain ⟨v0, vs0, d0, ds0, p0, q0, hargs, rfl, rfl, h0, r0⟩ := trodAll_cons hA
  obtain ⟨v1, vs1, d1, ds1, p1, q1, rfl, rfl, rfl, h1, r1⟩ := trodAll_cons r0
  obtain ⟨v2, vs2, d2, ds2, p2, q2, rfl, rfl, rfl, h2, r2⟩ := trodAll_cons r1
  obtain ⟨v3, vs3, d3, ds3, p3, q3, rfl, rfl, rfl, h3, r3⟩ := trodAll_cons r2
  obtain ⟨rfl, rfl, rfl⟩ := trodAll_nil r3
  obtain rfl : args = #[v0, v1, v2, v3] := by cases args; simp_all
  obtain ⟨rfl, rfl⟩ := trodVars_none hV
  obtain ⟨s0, rfl, rfl, rfl, hs0⟩ := Go.ChangeMaps.open_string Tryd.underlying9 (hval 0 9 v0 rfl rfl) h0
  obtain ⟨a1, rfl, rfl, rfl, w1⟩ := open_int Tryd.underlying3 (hval 1 3 v1 rfl rfl) h1
  obtain ⟨a2, rfl, rfl, rfl, w2⟩ := open_int Tryd.underlying3 (hval 2 3 v2 rfl rfl) h2
  obtain ⟨a3, rfl, rfl, rfl, w3⟩ := open_int Tryd.underlying5 (hval 3 5 v3 rfl rfl) h3
  clear hA0 hval0
  simp only [List.append_nil] at hW'
  refine (walk s0 a1 w1 a2 w2 a3 w3 W hT).mono fun e W' ⟨he, hb⟩ => ?_
  subst he
  exact ⟨_, rfl, law_post laidOut (by rw [Tryd.params5]; simp only [List.mem_cons, List.not_mem_nil, or_false, forall_eq_or_imp, forall_eq]; exact ⟨⟨by kernel_rfl, by decide +kernel⟩, ⟨by kernel_rfl, by decide +kernel⟩, ⟨by kernel_rfl, by decide +kernel⟩, ⟨by kernel_rfl, by decide +kernel⟩⟩) rfl rfl Tryd.underlying4 hW' rfl rfl rfl hb⟩

/-- A WORLD FOR THE WITNESS: the settled one, the table (block 0) holding what its initialiser lays. -/
noncomputable def laidWorld (os : Os) : World :=
  { World.holding Tryd.prog os ⟨#[], #[], []⟩ with heap := (World.holding Tryd.prog os ⟨#[], #[], []⟩).heap.modify 0 fun
      | .cells _ t frozen => .cells #[.int .i64 31, .int .i64 28, .int .i64 31, .int .i64 30, .int .i64 31, .int .i64 30, .int .i64 31, .int .i64 31, .int .i64 30, .int .i64 31, .int .i64 30, .int .i64 31] t frozen
      | o => o }
theorem laid_met (os : Os) : laidMet Tryd.prog Rows.civilParsesRow.laid ((laidWorld os).forCall (fun _ _ => 0) ⟨#[], #[.string ⟨#[]⟩, .int .i64 0, .int .i64 0, .int .u8 0], []⟩).memory :=
  laidMet_of_run' 8 (by kernel_rfl) (by kernel_rfl)
theorem reads (os : Os) {H : Type} (enc : TypeId × Value → H) : ∃ places, DataW.whole enc Tryd.prog ((laidWorld os).forCall (fun _ _ => 0) ⟨#[], #[.string ⟨#[]⟩, .int .i64 0, .int .i64 0, .int .u8 0], []⟩).memory Tryd.f5.params.toList Rows.civilParsesSpec.vars false #[Value.string ⟨#[]⟩, Value.int .i64 0, Value.int .i64 0, Value.int .u8 0].toList 8 = some ([.lit (.string []), .lit (.int .i64 0), .lit (.int .i64 0), .lit (.int .u8 0)], [], places) :=
  ⟨[], by kernel_rfl⟩

set_option maxRecDepth 100000 in
theorem lifted (os : Os) (started : os.Started) (H : Type) (enc : TypeId × Value → H) (F : Stop.Interp) :
    ReturnsInHanded {} Tryd.checked os 5 .any ((OpenSpec.ofChange Rows.civilParsesSpec).preRow enc Tryd.prog Tryd.f5 Rows.civilParsesRow.domain false Rows.civilParsesRow.laid) (((OpenSpec.ofChange Rows.civilParsesSpec).at F).post enc Tryd.prog Tryd.f5 false true false false) := by
  obtain ⟨places, hx⟩ := reads os enc
  refine returnsInHanded_of_row (C := Tryd.checked) (s := OpenSpec.ofChange Rows.civilParsesSpec) own started (by kernel_rfl) Tryd.func5
    (witness_row_at (enc := enc) (C := Tryd.checked) false (laidWorld os) #[.string ⟨#[]⟩, .int .i64 0, .int .i64 0, .int .u8 0] rfl (by kernel_rfl) (by kernel_rfl) (by kernel_rfl)
      (OpenSpec.preRow_of_cond 8 hx (by kernel_rfl) (fun k hk => by cases hk) (by kernel_rfl) (laid_met os))) ?_
  intro W base args ds gs before hval hW _ _ _ hL _ _
  exact contract H enc W base args ds gs before hval hW hL

theorem said : Rows.CivilParsesSaid :=
  OpenClaim.holds_of_cond 5 Tryd.f5 rfl rfl rfl rfl rfl rfl rfl ⟨rfl, rfl, rfl, rfl, rfl⟩ rfl rfl rfl rfl rfl (by kernel_rfl) Tryd.func5 (by kernel_rfl)
    (of_decide_eq_true (by kernel_rfl)) (by unfold Func.isWrapper; first | (rw [if_pos (by decide +kernel)]; kernel_rfl) | (rw [if_neg (by decide +kernel)]; exact ⟨rfl, rfl⟩))
    (fun os started H enc _ F => by rw [OpenClaim.pre_eq_preRow]; exact lifted os started H enc F)

/-- No parameter wants a stand-in; the program's own looks are off: what the card asks. -/
theorem plain (f : FuncId) (fn : Func) (hf : Tryd.pinned.checked.prog.funcNamed "warehouse/warehouselaw3.CivilParses" = some f) (hfn : Tryd.pinned.checked.prog.funcs[f]? = some fn) :
    false = Tryd.pinned.checked.prog.looks [] ∧ ∀ (j : Nat) t, fn.params[j]? = some t → Tryd.pinned.checked.prog.wantsStandIn t = false := by
  obtain rfl : f = 5 := Option.some.inj ((show Tryd.prog.funcNamed "warehouse/warehouselaw3.CivilParses" = some 5 by kernel_rfl).symm.trans hf) |>.symm
  obtain rfl : fn = Tryd.f5 := (Option.some.inj (Tryd.func5.symm.trans hfn)).symm
  refine ⟨by kernel_rfl, fun j t ht => ?_⟩
  rw [Tryd.params5] at ht
  have hm := Array.mem_of_getElem? ht
  simp at hm
  exact stand_ins t (by first | exact .inl hm | (rcases hm with rfl | rfl | rfl | rfl <;> simp) | (rcases hm with rfl | rfl | rfl <;> simp) | (rcases hm with rfl | rfl <;> simp))

/-- ████ THE CARD ████ -/
theorem card : Rows.CivilParsesCardSaid :=
  Claim7.holds_tied_plain_at .later [] _ _ _ _ said (fun _ h => by cases h) (by kernel_rfl) (fun _ h => by cases h) civilParses_row_tie rfl ⟨rfl, rfl⟩ (by kernel_rfl) rfl plain (by kernel_rfl)
#print axioms card
end Go.Proofs.YtiombgjkcfhibaaDoor.lawCivilParses
