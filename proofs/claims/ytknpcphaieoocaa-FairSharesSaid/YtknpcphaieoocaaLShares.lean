/-
  FairShares: for every shares, usages, owner, cost and list of numbers the law returns true: Validate, Weight, Used and Charge return what the reference returns. No conditions.
-/
import Derived.Test.YtknpcphaieoocaaSmu
namespace Go.Proofs.Ytknpcphaieoocaa.lawFairShares
open Go.ChangeShapes Go.WideShapes Go.ChangeAt Go.RowKit
set_option linter.unusedSimpArgs false
set_option linter.unusedVariables false

set_option maxRecDepth 100000 in
set_option maxHeartbeats 4000000 in
theorem core (As Au A : Option Addr) (ns cs nu cu n c : Nat) (ow : ByteArray) (ct : Int) (ss us : List (ByteArray × Int)) (zs : List Int) (W : World)
    (hS : Prow W As ns ss) (hU : Prow W Au nu us) (hI : Irow W A n zs) :
    Calls Try.prog 3 #[.slice As ns cs, .slice Au nu cu, .string ow, .int .i64 ct, .slice A n c] W fun e w' => e = .returned (.bool true) ∧ Below W.heap.size W w' := by
  have HS := Lib.hid hS
  have HU := Lib.hid hU
  have HR := Lib.hid hI.1
  have HBD := Lib.hid hI.2.1
  have HA := Lib.hid hI.2.2
  have HUL := Lib.hid hU.1
  clear hS hU hI
  go_enter Try.func3, Try.ntmps3
  go_wp2_with fail
  refine (lightE none As Au 0 0 ns cs nu cu _ [] ss us [ct] W _ ⟨rfl, fun h => absurd h (by omega)⟩ HS.out HU.out (lst1 W ct) (by simp)).mono ?_
  rintro e w1 ⟨r0, rfl, hP, hb1⟩
  have HB := Lib.hid hb1
  cases r0
  · clear hP hb1
    go_wp2_with (go_at_call 9; refine (knownE _).mono ?_; rintro e w9 ⟨rfl, hb9⟩; have HB9 := Lib.hid (bthen HB.out (Nat.le_refl _) hb9); clear hb9)
    go_ret
    exact ⟨rfl, HB9.out⟩
  · have hP := hP rfl
    by_cases ho : 60 < ow.size
    · clear hP hb1
      go_wp2_with (go_at_call 9; refine (knownE _).mono ?_; rintro e w9 ⟨rfl, hb9⟩; have HB9 := Lib.hid (bthen HB.out (Nat.le_refl _) hb9); clear hb9)
      go_ret
      exact ⟨rfl, HB9.out⟩
    · by_cases hn : n ≤ 100
      · obtain ⟨_, b2, b3, _, hus, _⟩ := hP
        have hns : ns ≤ 1000 := by omega
        have hnu : nu ≤ 1000 := by omega
        have hUL : us.length ≤ 1000 := by have := HUL.out; omega
        clear hus hb1
        go_wp2_with fail
        refine (madeE A n c zs w1 (by omega) (HR.out.later HB.out) HBD.out (fun h a ha => Nat.lt_of_lt_of_le (HA.out h a ha) HB.out.size)).mono ?_
        rintro e w6 hmd
        obtain ⟨A1, A2, A3, c1, c2, c3, g, N, M, K, ts', ss', us', rfl, hb6, hT', hS', hU', hG', l1, l2, l3, hgd, hsm, hg1, k1, k2, k3⟩ := madeN hmd
        have hM : M ≤ 1000 := by omega
        have hK : K ≤ 1000 := by omega
        have hUL' : us'.length ≤ 1000 := by have := hU'.1; omega
        have HS' := Lib.hid hS'
        have HU' := Lib.hid hU'
        have HB := Lib.hid (bthen HB.out (Nat.le_refl _) hb6)
        have HMM := Lib.hid (Below.refl w6.heap.size w6)
        have HW := HMM
        clear hmd hT' hS' hU' hG' hgd hsm hg1 k1 k2 k3 hb6 l1 l2 l3 b2 b3 hn ho
        go_wp2_with fail
        refine (validE As ns cs ss _ (HS.out.later HB.out) hns).mono ?_
        rintro e w5 ⟨rfl, hb5⟩
        have HB := Lib.hid (bthen HB.out (Nat.le_refl _) hb5)
        have HMM := Lib.hid (bthen HMM.out (Nat.le_refl _) hb5)
        have HW := Lib.hid (bthen HW.out (Nat.le_refl _) hb5)
        clear hb5
        go_wp2_with fail
        refine (validF As ns cs ss _ (HS.out.later HB.out) hns).mono ?_
        rintro e w5 ⟨rfl, hb5⟩
        have HB := Lib.hid (bthen HB.out (Nat.le_refl _) hb5)
        have HMM := Lib.hid (bthen HMM.out (Nat.le_refl _) hb5)
        have HW := Lib.hid (bthen HW.out (Nat.le_refl _) hb5)
        clear hb5
        go_wp2_with fail
        refine (validE A2 M c2 ss' _ (HS'.out.later HMM.out) hM).mono ?_
        rintro e w5 ⟨rfl, hb5⟩
        have HB := Lib.hid (bthen HB.out (Nat.le_refl _) hb5)
        have HMM := Lib.hid (bthen HMM.out (Nat.le_refl _) hb5)
        have HW := Lib.hid (bthen HW.out (Nat.le_refl _) hb5)
        clear hb5
        go_wp2_with fail
        refine (validF A2 M c2 ss' _ (HS'.out.later HMM.out) hM).mono ?_
        rintro e w5 ⟨rfl, hb5⟩
        have HB := Lib.hid (bthen HB.out (Nat.le_refl _) hb5)
        have HMM := Lib.hid (bthen HMM.out (Nat.le_refl _) hb5)
        have HW := Lib.hid (bthen HW.out (Nat.le_refl _) hb5)
        clear hb5
        go_wp2_with (first | (go_at_call 13; refine (namesE _).mono ?_; rintro e w5 ⟨rfl, rfl⟩) | (at_builtin; refine wpl_five _ rfl _ _ rfl rfl rfl ?_; intro c5 b5 w5 hc5 hb5; have HC5 := Lib.hid hc5; have HB := Lib.hid (bthen HB.out (Nat.le_refl _) hb5); have HMM := Lib.hid (bthen HMM.out (Nat.le_refl _) hb5); have HW := Lib.hid (bthen HW.out (Nat.le_refl _) hb5); clear hb5; clear hc5))
        go_loopw [58] (fun i wv => ∃ k : Nat, k ≤ 5 ∧ i = .int .i64 k ∧ Hid (Below W.heap.size W wv ∧ Below w6.heap.size w6 wv ∧ ∀ j, j < 5 → wv.cell? ⟨b5, j, none⟩ = some (.string (five ow j)))) (fun i _ => 5 - (intOf i).toNat)
        case atStart => exact ⟨0, by omega, rfl, Lib.hid ⟨HB.out, HMM.out, HC5.out⟩⟩
        case round =>
          obtain ⟨k, hk, rfl, HQ⟩ := hrel
          obtain ⟨hB, hMM, hF⟩ := HQ.out
          have HB := Lib.hid hB
          have HMM := Lib.hid hMM
          by_cases hk5 : k < 5
          · have hc := hF k hk5
            have HF := Lib.hid hF
            have HW := Lib.hid (Below.refl wr.heap.size wr)
            generalize five ow k = o at hc
            clear hB hMM hF HQ HC5
            go_wp2_with fail
            refine (weightE As ns cs ss o _ (HS.out.later HB.out) hns).mono ?_
            rintro e w5 ⟨rfl, hb5⟩
            have HB := Lib.hid (bthen HB.out (Nat.le_refl _) hb5)
            have HMM := Lib.hid (bthen HMM.out (Nat.le_refl _) hb5)
            have HW := Lib.hid (bthen HW.out (Nat.le_refl _) hb5)
            clear hb5
            go_wp2_with fail
            refine (weightF As ns cs ss o _ (HS.out.later HB.out) hns).mono ?_
            rintro e w5 ⟨rfl, rfl⟩
            go_wp2_with fail
            refine (weightE A2 M c2 ss' o _ (HS'.out.later HMM.out) hM).mono ?_
            rintro e w5 ⟨rfl, hb5⟩
            have HB := Lib.hid (bthen HB.out (Nat.le_refl _) hb5)
            have HMM := Lib.hid (bthen HMM.out (Nat.le_refl _) hb5)
            have HW := Lib.hid (bthen HW.out (Nat.le_refl _) hb5)
            clear hb5
            go_wp2_with fail
            refine (weightF A2 M c2 ss' o _ (HS'.out.later HMM.out) hM).mono ?_
            rintro e w5 ⟨rfl, rfl⟩
            go_wp2_with fail
            refine (usedE Au nu cu us o _ (HU.out.later HB.out) hnu).mono ?_
            rintro e w5 ⟨rfl, hb5⟩
            have HB := Lib.hid (bthen HB.out (Nat.le_refl _) hb5)
            have HMM := Lib.hid (bthen HMM.out (Nat.le_refl _) hb5)
            have HW := Lib.hid (bthen HW.out (Nat.le_refl _) hb5)
            clear hb5
            go_wp2_with fail
            refine (usedF Au nu cu us o _ (HU.out.later HB.out) hnu).mono ?_
            rintro e w5 ⟨rfl, rfl⟩
            go_wp2_with fail
            refine (usedE A3 K c3 us' o _ (HU'.out.later HMM.out) hK).mono ?_
            rintro e w5 ⟨rfl, hb5⟩
            have HB := Lib.hid (bthen HB.out (Nat.le_refl _) hb5)
            have HMM := Lib.hid (bthen HMM.out (Nat.le_refl _) hb5)
            have HW := Lib.hid (bthen HW.out (Nat.le_refl _) hb5)
            clear hb5
            go_wp2_with fail
            refine (usedF A3 K c3 us' o _ (HU'.out.later HMM.out) hK).mono ?_
            rintro e w5 ⟨rfl, rfl⟩
            go_wp2_with fail
            refine (chargeE Au nu cu us o ct _ (HU.out.later HB.out) hnu).mono ?_
            rintro e w5 hch
            obtain ⟨AA, ca, rfl, hr5, hb5⟩ := hch
            have HC1 := Lib.hid hr5
            clear hr5
            have HB := Lib.hid (bthen HB.out (Nat.le_refl _) hb5)
            have HMM := Lib.hid (bthen HMM.out (Nat.le_refl _) hb5)
            have HW := Lib.hid (bthen HW.out (Nat.le_refl _) hb5)
            clear hb5
            go_wp2_with fail
            refine (chargeF Au nu cu us o ct _ (HU.out.later HB.out) hnu).mono ?_
            rintro e w5 hch
            obtain ⟨AB, cb, rfl, hr5, hb5⟩ := hch
            have HC1 := Lib.hid (HC1.out.later hb5)
            have HC2 := Lib.hid hr5
            clear hr5
            have HB := Lib.hid (bthen HB.out (Nat.le_refl _) hb5)
            have HMM := Lib.hid (bthen HMM.out (Nat.le_refl _) hb5)
            have HW := Lib.hid (bthen HW.out (Nat.le_refl _) hb5)
            clear hb5
            go_wp2_with fail
            refine (sameU AA AB _ ca cb (chargeV us o ct) _ HC1.out HC2.out (charge_len hUL)).mono ?_
            rintro e w5 ⟨rfl, hb5⟩
            have HB := Lib.hid (bthen HB.out (Nat.le_refl _) hb5)
            have HMM := Lib.hid (bthen HMM.out (Nat.le_refl _) hb5)
            have HW := Lib.hid (bthen HW.out (Nat.le_refl _) hb5)
            clear hb5
            clear HC1 HC2
            go_wp2_with fail
            refine (chargeE A3 K c3 us' o ct _ (HU'.out.later HMM.out) hK).mono ?_
            rintro e w5 hch
            obtain ⟨AA, ca, rfl, hr5, hb5⟩ := hch
            have HC1 := Lib.hid hr5
            clear hr5
            have HB := Lib.hid (bthen HB.out (Nat.le_refl _) hb5)
            have HMM := Lib.hid (bthen HMM.out (Nat.le_refl _) hb5)
            have HW := Lib.hid (bthen HW.out (Nat.le_refl _) hb5)
            clear hb5
            go_wp2_with fail
            refine (chargeF A3 K c3 us' o ct _ (HU'.out.later HMM.out) hK).mono ?_
            rintro e w5 hch
            obtain ⟨AB, cb, rfl, hr5, hb5⟩ := hch
            have HC1 := Lib.hid (HC1.out.later hb5)
            have HC2 := Lib.hid hr5
            clear hr5
            have HB := Lib.hid (bthen HB.out (Nat.le_refl _) hb5)
            have HMM := Lib.hid (bthen HMM.out (Nat.le_refl _) hb5)
            have HW := Lib.hid (bthen HW.out (Nat.le_refl _) hb5)
            clear hb5
            go_wp2_with fail
            refine (sameU AA AB _ ca cb (chargeV us' o ct) _ HC1.out HC2.out (charge_len hUL')).mono ?_
            rintro e w5 ⟨rfl, hb5⟩
            have HB := Lib.hid (bthen HB.out (Nat.le_refl _) hb5)
            have HMM := Lib.hid (bthen HMM.out (Nat.le_refl _) hb5)
            have HW := Lib.hid (bthen HW.out (Nat.le_refl _) hb5)
            clear hb5
            clear HC1 HC2
            go_wp2
            case roundEnd => exact ⟨⟨k + 1, by omega, by go_num, Lib.hid ⟨HB.out, HMM.out, fun j hj => cell_later HW.out (HF.out j hj)⟩⟩, by simp [intOf]; omega⟩
          · clear hB hMM hF HQ
            go_wp2_with (go_at_call 9; refine (knownE _).mono ?_; rintro e w9 ⟨rfl, hb9⟩; have HB9 := Lib.hid (bthen HB.out (Nat.le_refl _) hb9); clear hb9)
            go_ret
            exact ⟨rfl, HB9.out⟩
      · clear hP hb1
        go_wp2_with (go_at_call 9; refine (knownE _).mono ?_; rintro e w9 ⟨rfl, hb9⟩; have HB9 := Lib.hid (bthen HB.out (Nat.le_refl _) hb9); clear hb9)
        go_ret
        exact ⟨rfl, HB9.out⟩
theorem walk (W : World) (A0 : Option Addr) (n0 c0 : Nat) (l0 : List (ByteArray × Int)) (h0 : Prow W A0 n0 l0 ∧ (A0 = none → c0 = 0)) (A1 : Option Addr) (n1 c1 : Nat) (l1 : List (ByteArray × Int)) (h1 : Prow W A1 n1 l1 ∧ (A1 = none → c1 = 0)) (s2 : ByteArray)
    (a3 : Int) (w3 : (Lit.int .i64 a3).wf = true) (A4 : Option Addr) (n4 c4 : Nat) (l4 : List Int) (h4 : Irow W A4 n4 l4) :
    Calls Try.prog 3 #[.slice A0 n0 c0, .slice A1 n1 c1, .string s2, .int .i64 a3, .slice A4 n4 c4] W fun e w' => e = .returned (.bool true) ∧ Below W.heap.size W w' :=
  core A0 A1 A4 n0 c0 n1 c1 n4 c4 s2 a3 l0 l1 l4 W h0.1 h1.1 h4


set_option maxRecDepth 100000 in
theorem lifted (os : Os) (started : os.Started) (H : Type) (enc : TypeId × Value → H) :
    ReturnsInHanded {} Try.checked os 3 .any (Rows.fairSharesSpec.pre6 enc Try.prog Try.f3 Rows.fairSharesRow.domain false) (Rows.fairSharesSpec.post enc Try.prog Try.f3 false true false false) := by
  refine returnsInHanded_of_change (C := Try.checked) own started (by kernel_rfl) Try.func3
    (ChangeSpec.witness6 (enc := enc) (C := Try.checked) false ⟨#[], #[.slice none 0 0, .slice none 0 0, .string ⟨#[]⟩, .int .i64 0, .slice none 0 0], []⟩ 8 (by kernel_rfl) (by kernel_rfl) (by kernel_rfl) (by kernel_rfl)) ?_
  intro W base args ds gs before hval0 hW hcnd _
  have hval : ∀ (j : Nat) t v, Try.f3.params[j]? = some t → args[j]? = some v → Value.okWide Try.prog W .any base t v := hval0
  have hW' := hW
  obtain ⟨p, q, hA0, hV, rfl, hfz, hnd⟩ := hW
  have hA : DataW.TrodAll enc Try.prog W 0 (fun _ => true) true Try.f3.params.toList args.toList ds p := hA0
  rw [Try.params3] at hA hval
  obtain ⟨v0, vs0, d0, ds0, p0, q0, hargs, rfl, rfl, h0, r0⟩ := trodAll_cons hA
  obtain ⟨v1, vs1, d1, ds1, p1, q1, rfl, rfl, rfl, h1, r1⟩ := trodAll_cons r0
  obtain ⟨v2, vs2, d2, ds2, p2, q2, rfl, rfl, rfl, h2, r2⟩ := trodAll_cons r1
  obtain ⟨v3, vs3, d3, ds3, p3, q3, rfl, rfl, rfl, h3, r3⟩ := trodAll_cons r2
  obtain ⟨v4, vs4, d4, ds4, p4, q4, rfl, rfl, rfl, h4, r4⟩ := trodAll_cons r3
  obtain ⟨rfl, rfl, rfl⟩ := trodAll_nil r4
  obtain rfl : args = #[v0, v1, v2, v3, v4] := by cases args; simp_all
  obtain ⟨rfl, rfl⟩ := trodVars_none hV
  obtain ⟨A0, n0, c0, rfl⟩ := okWide_slice Try.underlying22 (hval 0 22 v0 rfl rfl)
  obtain ⟨l0, hrow0⟩ := shares_of_trod h0
  obtain ⟨A1, n1, c1, rfl⟩ := okWide_slice Try.underlying23 (hval 1 23 v1 rfl rfl)
  obtain ⟨l1, hrow1⟩ := usages_of_trod h1
  obtain ⟨s2, rfl, rfl, rfl, hs2⟩ := Go.ChangeMaps.open_string Try.underlying9 (hval 2 9 v2 rfl rfl) h2
  obtain ⟨a3, rfl, rfl, rfl, w3⟩ := open_int Try.underlying3 (hval 3 3 v3 rfl rfl) h3
  obtain ⟨A4, n4, c4, rfl⟩ := okWide_slice Try.underlying24 (hval 4 24 v4 rfl rfl)
  obtain ⟨l4, hrow4⟩ := irow_of_trod h4
  clear hA0 hval0
  simp only [List.append_nil] at hW'
  refine (walk W A0 n0 c0 l0 hrow0 A1 n1 c1 l1 hrow1 s2 a3 w3 A4 n4 c4 l4 hrow4).mono fun e W' ⟨he, hb⟩ => ?_
  subst he
  exact ⟨_, rfl, law_post laidOut (by rw [Try.params3]; simp only [List.mem_cons, List.not_mem_nil, or_false, forall_eq_or_imp, forall_eq]; exact ⟨⟨by kernel_rfl, by decide +kernel⟩, ⟨by kernel_rfl, by decide +kernel⟩, ⟨by kernel_rfl, by decide +kernel⟩, ⟨by kernel_rfl, by decide +kernel⟩, ⟨by kernel_rfl, by decide +kernel⟩⟩) rfl rfl Try.underlying4 hW' rfl rfl rfl hb⟩

theorem over : Rows.fairSharesRow.holds Try.pinned (OpenSpec.ofChange Rows.fairSharesSpec) :=
  OpenClaim.holds_of_wide 3 Try.f3 rfl rfl rfl rfl rfl rfl rfl ⟨rfl, rfl, rfl, rfl, rfl⟩ rfl rfl rfl rfl rfl (by kernel_rfl) Try.func3 (by kernel_rfl)
    (of_decide_eq_true (by kernel_rfl)) (by unfold Func.isWrapper; first | (rw [if_pos (by decide +kernel)]; kernel_rfl) | (rw [if_neg (by decide +kernel)]; exact ⟨rfl, rfl⟩))
    (fun os started H enc _ => lifted os started H enc)

theorem proved : Rows.FairSharesSaid := over
#print axioms proved
end Go.Proofs.Ytknpcphaieoocaa.lawFairShares
