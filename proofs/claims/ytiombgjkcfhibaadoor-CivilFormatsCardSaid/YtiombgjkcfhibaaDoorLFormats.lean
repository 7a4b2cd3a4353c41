/-
  CivilFormats: for every three integers the law returns true: Format of package civil writes what the reference writes, Parse reads it again, and texts are ordered as the times are. The table of the months' lengths holds its initial numbers (tied to the program's text).
-/
import Derived.Test.YtiombgjkcfhibaaDoorCards
import Derived.Test.YtiombgjkcfhibaaDoorTie
import Derived.ProofKit
import Derived.OpenShut
import Derived.Deep.DeepHandedRow
import Derived.Lib.LaidTab
import Derived.Test.YtiombgjkcfhibaaDoorFrame
import Derived.Test.YtiombgjkcfhibaaDoorChg
import Derived.Test.YtiombgjkcfhibaaDoorMonths0
import Derived.Test.YtiombgjkcfhibaaDoorKnow
namespace Go.Proofs.YtiombgjkcfhibaaDoor.lawCivilFormats
open Go.ChangeShapes Go.WideShapes Go.ChangeAt Go.RowKit
set_option linter.unusedSimpArgs false
set_option linter.unusedVariables false

theorem keepD {a : Int} {y m d y' m' d' : Int} (h : IsDate a y m d) (h' : IsDate a y' m' d') : y = y' ∧ m = m' ∧ d = d' := num_inj h.1 h'.1 (by rw [h.2, h'.2])


set_option maxRecDepth 100000 in
set_option maxHeartbeats 2000000 in
theorem tail (a m n : Int) (a1 a2 : Int) (hm : m = a1 % 1073741824 % 576000000) (hn : n = a2 % 1073741824 % 576000000) (w : World) (hT : Tab w) :
    Calls Tryd.prog 9 #[.int .i64 a, .int .i64 a1, .int .i64 a2] w fun e w' => e = .returned (.bool true) ∧ Below w.heap.size w w' := by
  have e1 := and1073741823 a1
  have e2 := and1073741823 a2
  have e3 : a1 % 1073741824 % 576000000 = m := hm.symm
  have e4 : a2 % 1073741824 % 576000000 = n := hn.symm
  have m0 : 0 ≤ m := by omega
  have m1 : m ≤ 575999999 := by omega
  have n0 : 0 ≤ n := by omega
  have n1 : n ≤ 575999999 := by omega
  clear hm hn
  by_cases ha : 0 ≤ a ∧ a ≤ 575999999
  · go_enter Tryd.func9, Tryd.ntmps9
    go_wp2_with fail
    refine (formatE a _ hT ha.1 ha.2).mono ?_
    rintro e u1 ⟨y, mo, d, hD, rfl, hb1⟩
    have T1 := hT.below hb1
    have B1 := Lib.hid hb1
    have HD := Lib.hid hD
    clear hb1 hD
    go_wp2_with fail
    refine (formatF a _ ha.1 ha.2).mono ?_
    rintro e u2 ⟨y', mo', d', hD', rfl, hb2⟩
    obtain ⟨rfl, rfl, rfl⟩ := keepD HD.out hD'
    have T2 := T1.below hb2
    have B2 := Lib.hid hb2
    clear hb2 hD'
    generalize fmtl y mo d (a % 1440 / 60) (a % 60) = la
    have q0 : (bs (mkS la) == bs (mkS la)) = true := by simp
    go_wp2_with fail
    refine (formatE m _ T2 m0 m1).mono ?_
    rintro e u3 ⟨ym, mm, dm, hDm, rfl, hb3⟩
    have T3 := T2.below hb3
    have B3 := Lib.hid hb3
    have HDm := Lib.hid hDm
    have bdm := date_bd hDm (by omega)
    clear hb3 hDm
    go_wp2_with fail
    refine (formatE n _ T3 n0 n1).mono ?_
    rintro e u4 ⟨yn, mn, dn, hDn, rfl, hb4⟩
    have T4 := T3.below hb4
    have B4 := Lib.hid hb4
    have bdn := date_bd hDn (by omega)
    have hless := fmt_less m0 n0 HDm.out hDn bdm bdn
    obtain ⟨hp1, hp2⟩ := fmt_reads m0 m1 HDm.out bdm
    clear hb4 hDn bdn
    generalize hlm : fmtl ym mm dm (m % 1440 / 60) (m % 60) = lm at *
    generalize fmtl yn mn dn (n % 1440 / 60) (n % 60) = ln at *
    have HLM := Lib.hid hlm
    have HP1 : Hid (pV (bs (mkS lm)) = m) := Lib.hid hp1
    have HP2 : Hid (pE (bs (mkS lm)) = 0) := Lib.hid hp2
    have HLE := Lib.hid hless
    clear hlm hp1 hp2 hless
    go_wp2_with fail
    refine (parseE (mkS lm) _ T4).mono ?_
    rintro e u5 ⟨rfl, hb5⟩
    have T5 := T4.below hb5
    have B5 := Lib.hid hb5
    clear hb5
    go_wp2_with fail
    refine (formatF m _ m0 m1).mono ?_
    rintro e u6 ⟨ym', mm', dm', hDm', rfl, hb6⟩
    obtain ⟨rfl, rfl, rfl⟩ := keepD HDm.out hDm'
    have T6 := T5.below hb6
    have B6 := Lib.hid hb6
    clear hb6 hDm'
    rw [HLM.out]
    have p1 := HP1.out
    have p2 := HP2.out
    have hls : Op.bytesLess (mkS lm).toList (mkS ln).toList = decide (m < n) := by rw [ByteArray.toList_eq, ByteArray.toList_eq]; exact HLE.out
    go_wp2_with fail
    refine (known_any _ T6).mono ?_
    rintro e u7 ⟨rfl, hb7⟩
    have B7 := Lib.hid hb7
    clear hb7
    go_wp2_with fail
    go_ret
    exact ⟨rfl, bthen (bthen (bthen (bthen (bthen (bthen B1.out (Nat.le_refl _) B2.out) (Nat.le_refl _) B3.out) (Nat.le_refl _) B4.out) (Nat.le_refl _) B5.out) (Nat.le_refl _) B6.out) (Nat.le_refl _) B7.out⟩
  · have hno : a < 0 ∨ 575999999 < a := by omega
    go_enter Tryd.func9, Tryd.ntmps9
    go_wp2_with fail
    refine (formatNoE a _ hno).mono ?_
    rintro e u1 ⟨rfl, rfl⟩
    go_wp2_with fail
    refine (formatNoF a _ hno).mono ?_
    rintro e u2 ⟨rfl, rfl⟩
    have T2 := hT
    have B1 := Lib.hid (Below.refl w.heap.size w)
    have B2 := Lib.hid (Below.refl w.heap.size w)
    go_wp2_with fail
    refine (formatE m _ T2 m0 m1).mono ?_
    rintro e u3 ⟨ym, mm, dm, hDm, rfl, hb3⟩
    have T3 := T2.below hb3
    have B3 := Lib.hid hb3
    have HDm := Lib.hid hDm
    have bdm := date_bd hDm (by omega)
    clear hb3 hDm
    go_wp2_with fail
    refine (formatE n _ T3 n0 n1).mono ?_
    rintro e u4 ⟨yn, mn, dn, hDn, rfl, hb4⟩
    have T4 := T3.below hb4
    have B4 := Lib.hid hb4
    have bdn := date_bd hDn (by omega)
    have hless := fmt_less m0 n0 HDm.out hDn bdm bdn
    obtain ⟨hp1, hp2⟩ := fmt_reads m0 m1 HDm.out bdm
    clear hb4 hDn bdn
    generalize hlm : fmtl ym mm dm (m % 1440 / 60) (m % 60) = lm at *
    generalize fmtl yn mn dn (n % 1440 / 60) (n % 60) = ln at *
    have HLM := Lib.hid hlm
    have HP1 : Hid (pV (bs (mkS lm)) = m) := Lib.hid hp1
    have HP2 : Hid (pE (bs (mkS lm)) = 0) := Lib.hid hp2
    have HLE := Lib.hid hless
    clear hlm hp1 hp2 hless
    go_wp2_with fail
    refine (parseE (mkS lm) _ T4).mono ?_
    rintro e u5 ⟨rfl, hb5⟩
    have T5 := T4.below hb5
    have B5 := Lib.hid hb5
    clear hb5
    go_wp2_with fail
    refine (formatF m _ m0 m1).mono ?_
    rintro e u6 ⟨ym', mm', dm', hDm', rfl, hb6⟩
    obtain ⟨rfl, rfl, rfl⟩ := keepD HDm.out hDm'
    have T6 := T5.below hb6
    have B6 := Lib.hid hb6
    clear hb6 hDm'
    rw [HLM.out]
    have p1 := HP1.out
    have p2 := HP2.out
    have hls : Op.bytesLess (mkS lm).toList (mkS ln).toList = decide (m < n) := by rw [ByteArray.toList_eq, ByteArray.toList_eq]; exact HLE.out
    go_wp2_with fail
    refine (known_any _ T6).mono ?_
    rintro e u7 ⟨rfl, hb7⟩
    have B7 := Lib.hid hb7
    clear hb7
    go_wp2_with fail
    go_ret
    exact ⟨rfl, bthen (bthen (bthen (bthen (bthen (bthen B1.out (Nat.le_refl _) B2.out) (Nat.le_refl _) B3.out) (Nat.le_refl _) B4.out) (Nat.le_refl _) B5.out) (Nat.le_refl _) B6.out) (Nat.le_refl _) B7.out⟩
theorem walk (a0 : Int) (w0 : (Lit.int .i64 a0).wf = true) (a1 : Int) (w1 : (Lit.int .i64 a1).wf = true) (a2 : Int) (w2 : (Lit.int .i64 a2).wf = true) (w : World) (hT : Tab w) :
    Calls Tryd.prog 9 #[.int .i64 a0, .int .i64 a1, .int .i64 a2] w fun e w' => e = .returned (.bool true) ∧ Below w.heap.size w w' := tail a0 _ _ a1 a2 rfl rfl w hT


/-- WHAT THE WALK GIVES, FOR EVERY ARGUMENT AND EVERY WORLD THAT HOLDS THE TABLE. -/
theorem contract (H : Type) (enc : TypeId × Value → H) (W : World) (base : Nat) (args : Array Value) (ds gs : List (DataW H)) (before : List MemPlace)
    (hval0 : ∀ (j : Nat) t v, Tryd.f9.params[j]? = some t → args[j]? = some v → Value.okWide Tryd.prog W .any base t v)
    (hW : DataW.Whole enc Tryd.prog Tryd.f9.params.toList Rows.civilFormatsSpec.vars false W args.toList ds gs before) (hL : laidMetH Tryd.prog Rows.civilFormatsRow.laid W) :
    Calls Tryd.prog 9 args W fun e W' => ∃ v, e = .returned v ∧ Rows.civilFormatsSpec.post enc Tryd.prog Tryd.f9 false true false false W args v W' := by
  have hT : Tab W := tab_of hL
  have hval : ∀ (j : Nat) t v, Tryd.f9.params[j]? = some t → args[j]? = some v → Value.okWide Tryd.prog W .any base t v := hval0
  have hW' := hW
  obtain ⟨p, q, hA0, hV, rfl, hfz, hnd⟩ := hW
  have hA : DataW.TrodAll enc Tryd.prog W 0 (fun _ => true) true Tryd.f9.params.toList args.toList ds p := hA0
  rw [Tryd.params9] at hA hval
  obtain ⟨v0, vs0, d0, ds0, p0, q0, hargs, rfl, rfl, h0, r0⟩ := trodAll_cons hA
  obtain ⟨v1, vs1, d1, ds1, p1, q1, rfl, rfl, rfl, h1, r1⟩ := trodAll_cons r0
  obtain ⟨v2, vs2, d2, ds2, p2, q2, rfl, rfl, rfl, h2, r2⟩ := trodAll_cons r1
  obtain ⟨rfl, rfl, rfl⟩ := trodAll_nil r2
  obtain rfl : args = #[v0, v1, v2] := by cases args; simp_all
  obtain ⟨rfl, rfl⟩ := trodVars_none hV
  obtain ⟨a0, rfl, rfl, rfl, w0⟩ := open_int Tryd.underlying3 (hval 0 3 v0 rfl rfl) h0
  obtain ⟨a1, rfl, rfl, rfl, w1⟩ := open_int Tryd.underlying3 (hval 1 3 v1 rfl rfl) h1
  obtain ⟨a2, rfl, rfl, rfl, w2⟩ := open_int Tryd.underlying3 (hval 2 3 v2 rfl rfl) h2
  clear hA0 hval0
  simp only [List.append_nil] at hW'
  refine (walk a0 w0 a1 w1 a2 w2 W hT).mono fun e W' ⟨he, hb⟩ => ?_
  subst he
  exact ⟨_, rfl, law_post laidOut (by rw [Tryd.params9]; simp only [List.mem_cons, List.not_mem_nil, or_false, forall_eq_or_imp, forall_eq]; exact ⟨⟨by kernel_rfl, by decide +kernel⟩, ⟨by kernel_rfl, by decide +kernel⟩, ⟨by kernel_rfl, by decide +kernel⟩⟩) rfl rfl Tryd.underlying4 hW' rfl rfl rfl hb⟩

/-- A WORLD FOR THE WITNESS: the settled one, the table (block 0) holding what its initialiser lays. -/
noncomputable def laidWorld (os : Os) : World :=
  { World.holding Tryd.prog os ⟨#[], #[], []⟩ with heap := (World.holding Tryd.prog os ⟨#[], #[], []⟩).heap.modify 0 fun
      | .cells _ t frozen => .cells #[.int .i64 31, .int .i64 28, .int .i64 31, .int .i64 30, .int .i64 31, .int .i64 30, .int .i64 31, .int .i64 31, .int .i64 30, .int .i64 31, .int .i64 30, .int .i64 31] t frozen
      | o => o }
theorem laid_met (os : Os) : laidMet Tryd.prog Rows.civilFormatsRow.laid ((laidWorld os).forCall (fun _ _ => 0) ⟨#[], #[.int .i64 0, .int .i64 0, .int .i64 0], []⟩).memory :=
  laidMet_of_run' 8 (by kernel_rfl) (by kernel_rfl)
theorem reads (os : Os) {H : Type} (enc : TypeId × Value → H) : ∃ places, DataW.whole enc Tryd.prog ((laidWorld os).forCall (fun _ _ => 0) ⟨#[], #[.int .i64 0, .int .i64 0, .int .i64 0], []⟩).memory Tryd.f9.params.toList Rows.civilFormatsSpec.vars false #[Value.int .i64 0, Value.int .i64 0, Value.int .i64 0].toList 8 = some ([.lit (.int .i64 0), .lit (.int .i64 0), .lit (.int .i64 0)], [], places) :=
  ⟨[], by kernel_rfl⟩

set_option maxRecDepth 100000 in
theorem lifted (os : Os) (started : os.Started) (H : Type) (enc : TypeId × Value → H) (F : Stop.Interp) :
    ReturnsInHanded {} Tryd.checked os 9 .any ((OpenSpec.ofChange Rows.civilFormatsSpec).preRow enc Tryd.prog Tryd.f9 Rows.civilFormatsRow.domain false Rows.civilFormatsRow.laid) (((OpenSpec.ofChange Rows.civilFormatsSpec).at F).post enc Tryd.prog Tryd.f9 false true false false) := by
  obtain ⟨places, hx⟩ := reads os enc
  refine returnsInHanded_of_row (C := Tryd.checked) (s := OpenSpec.ofChange Rows.civilFormatsSpec) own started (by kernel_rfl) Tryd.func9
    (witness_row_at (enc := enc) (C := Tryd.checked) false (laidWorld os) #[.int .i64 0, .int .i64 0, .int .i64 0] rfl (by kernel_rfl) (by kernel_rfl) (by kernel_rfl)
      (OpenSpec.preRow_of_cond 8 hx (by kernel_rfl) (fun k hk => by cases hk) (by kernel_rfl) (laid_met os))) ?_
  intro W base args ds gs before hval hW _ _ _ hL _ _
  exact contract H enc W base args ds gs before hval hW hL

theorem said : Rows.CivilFormatsSaid :=
  OpenClaim.holds_of_cond 9 Tryd.f9 rfl rfl rfl rfl rfl rfl rfl ⟨rfl, rfl, rfl, rfl, rfl⟩ rfl rfl rfl rfl rfl (by kernel_rfl) Tryd.func9 (by kernel_rfl)
    (of_decide_eq_true (by kernel_rfl)) (by unfold Func.isWrapper; first | (rw [if_pos (by decide +kernel)]; kernel_rfl) | (rw [if_neg (by decide +kernel)]; exact ⟨rfl, rfl⟩))
    (fun os started H enc _ F => by rw [OpenClaim.pre_eq_preRow]; exact lifted os started H enc F)

/-- No parameter wants a stand-in; the program's own looks are off: what the card asks. -/
theorem plain (f : FuncId) (fn : Func) (hf : Tryd.pinned.checked.prog.funcNamed "warehouse/warehouselaw3.CivilFormats" = some f) (hfn : Tryd.pinned.checked.prog.funcs[f]? = some fn) :
    false = Tryd.pinned.checked.prog.looks [] ∧ ∀ (j : Nat) t, fn.params[j]? = some t → Tryd.pinned.checked.prog.wantsStandIn t = false := by
  obtain rfl : f = 9 := Option.some.inj ((show Tryd.prog.funcNamed "warehouse/warehouselaw3.CivilFormats" = some 9 by kernel_rfl).symm.trans hf) |>.symm
  obtain rfl : fn = Tryd.f9 := (Option.some.inj (Tryd.func9.symm.trans hfn)).symm
  refine ⟨by kernel_rfl, fun j t ht => ?_⟩
  rw [Tryd.params9] at ht
  have hm := Array.mem_of_getElem? ht
  simp at hm
  exact stand_ins t (by first | exact .inl hm | (rcases hm with rfl | rfl | rfl | rfl <;> simp) | (rcases hm with rfl | rfl | rfl <;> simp) | (rcases hm with rfl | rfl <;> simp))

/-- ████ THE CARD ████ -/
theorem card : Rows.CivilFormatsCardSaid :=
  Claim7.holds_tied_plain_at .later [] _ _ _ _ said (fun _ h => by cases h) (by kernel_rfl) (fun _ h => by cases h) civilFormats_row_tie rfl ⟨rfl, rfl⟩ (by kernel_rfl) rfl plain (by kernel_rfl)
#print axioms card
end Go.Proofs.YtiombgjkcfhibaaDoor.lawCivilFormats
