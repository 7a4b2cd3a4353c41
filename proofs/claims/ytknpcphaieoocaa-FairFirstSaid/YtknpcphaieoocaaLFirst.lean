/-
  FairFirst: for every list of numbers the law returns true: a chosen task has the greatest priority, no owner with such a task has used less in proportion, and no task of its owner has a lesser ID. No conditions.
-/
import Derived.Test.YtknpcphaieoocaaOrd
namespace Go.Proofs.Ytknpcphaieoocaa.lawFairFirst
open Go.ChangeShapes Go.WideShapes Go.ChangeAt Go.RowKit
set_option linter.unusedSimpArgs false
set_option linter.unusedVariables false
theorem ok16 {ss us : List (ByteArray × Int)} {ts : List Task} (hg : ∀ t ∈ ts, goodT t) : okV ss us ts 0 16 = !ts.isEmpty := by
  cases ts with
  | nil => rfl
  | cons t l =>
    have := (hg _ (minT_mem ss us (List.cons_ne_nil t l))).2.2.2.2.1
    unfold okV
    simp
    omega

set_option maxRecDepth 100000 in
set_option maxHeartbeats 4000000 in
theorem core (A : Option Addr) (n c : Nat) (zs : List Int) (W : World) (hI : Irow W A n zs) :
    Calls Try.prog 5 #[.slice A n c] W fun e w' => e = .returned (.bool true) ∧ Below W.heap.size W w' := by
  obtain ⟨hr, hbd, hA⟩ := hI
  by_cases hn : n ≤ 100
  · have HM := Lib.hid (madeE A n c zs W (by omega) hr hbd hA)
    clear hr hbd hA
    go_enter Try.func5, Try.ntmps5
    go_wp2_with fail
    refine HM.out.mono ?_
    rintro e w1 hmd
    obtain ⟨A1, A2, A3, c1, c2, c3, g, N, M, K, ts, ss, us, rfl, hb1, hT, hS, hU, hdr1, l1, l2, l3, hgd, hsm, hdr2⟩ := madeN hmd
    clear hmd hdr1 hdr2
    have HLN := Lib.hid hT.1
    have HGD := Lib.hid hgd
    have HSM := Lib.hid hsm
    have HB := Lib.hid hb1
    have HT := Lib.hid hT
    have HS := Lib.hid hS
    have HU := Lib.hid hU
    have HNN : Hid (okV ss us ts 0 16 = !ts.isEmpty) := Lib.hid (ok16 hgd)
    have HL1 := Lib.hid l1
    have HL2 := Lib.hid l2
    have HL3 := Lib.hid l3
    clear hgd hsm hb1 hT hS hU l1 l2 l3 HM
    go_wp2_with fail
    refine (nextE A1 N c1 ts 0 16 A3 A2 K c3 M c2 us ss w1 HT.out (by have := HL1.out; omega) (good_needs HGD.out w1) (by omega) (by omega) HU.out HS.out (by have := HL3.out; omega) (by have := HL2.out; omega) HSM.out).mono ?_
    rintro e w2 h2
    have h2x := next_made HGD.out h2
    clear h2
    obtain ⟨hb2, h2⟩ := h2x
    have HB := Lib.hid (bthen HB.out (Nat.le_refl _) hb2)
    have HT := Lib.hid (HT.out.later hb2)
    have HS := Lib.hid (HS.out.later hb2)
    have HU := Lib.hid (HU.out.later hb2)
    clear hb2
    by_cases hN0 : N = 0
    · rcases h2 with ⟨_, rfl⟩ | ⟨h3, _⟩
      · subst hN0
        have b2 : Below w2.heap.size w2 (w2.alloc (.cells #[.int .i64 0, .string ⟨#[]⟩, .bool false, .int .i64 0, .string ⟨#[]⟩, .int .i64 0, .int .i64 0, .slice none 0 0] 41)) := (Below.refl _ _).alloc (Nat.le_refl _) _
        have HB := Lib.hid (bthen HB.out (Nat.le_refl _) b2)
        clear b2
        rw [show zTask.val = .agg #[.int .i64 0, .string ⟨#[]⟩, .bool false, .int .i64 0, .string ⟨#[]⟩, .int .i64 0, .int .i64 0, .slice none 0 0] from rfl]
        go_wp2
        go_loopw [36] (fun i wv => i = .int .i64 0 ∧ Below W.heap.size W wv) (fun _ _ => 0)
        case atStart => exact ⟨rfl, HB.out⟩
        case round =>
          obtain ⟨rfl, hb⟩ := hrel
          have HB := Lib.hid hb
          clear hb
          go_wp2_with (go_at_call 9; refine (knownE _).mono ?_; rintro e w9 ⟨rfl, hb9⟩; have HB9 := Lib.hid (bthen HB.out (Nat.le_refl _) hb9); clear hb9)
          go_ret
          exact ⟨rfl, HB9.out⟩
      · rw [HNN.out] at h3
        have : ts = [] := List.length_eq_zero_iff.1 (HLN.out.trans hN0)
        subst this
        cases h3
    · have hNp : 0 < N := by omega
      rcases h2 with ⟨h3, _⟩ | ⟨hdr3, na, nc, rfl⟩
      · rw [HNN.out] at h3
        have hl := HLN.out
        cases ts with
        | nil => simp at hl; omega
        | cons t l => cases h3
      · obtain ⟨m, hm⟩ : ∃ m, minT ss us ts = m := ⟨_, rfl⟩
        have HML : Hid (∀ x ∈ ts, ¬ Lx ss us x m) := Lib.hid (fun x hx => by rw [← hm]; exact min_least hx)
        rw [hm]
        clear hm HNN hN0 hdr3
        obtain ⟨i, rl, al, dy, o, co, p, na0, nn0, nc0⟩ := m
        dsimp only [Task.val]
        have b2 : Below w2.heap.size w2 (w2.alloc (.cells #[.int .i64 i, .string rl, .bool al, .int .i64 dy, .string o, .int .i64 co, .int .i64 p, .slice na 0 nc] 41)) := (Below.refl _ _).alloc (Nat.le_refl _) _
        have HB := Lib.hid (bthen HB.out (Nat.le_refl _) b2)
        have HT := Lib.hid (HT.out.later b2)
        have HS := Lib.hid (HS.out.later b2)
        have HU := Lib.hid (HU.out.later b2)
        have p0 : (w2.alloc (.cells #[.int .i64 i, .string rl, .bool al, .int .i64 dy, .string o, .int .i64 co, .int .i64 p, .slice na 0 nc] 41)).cell? ⟨w2.heap.size, 0, none⟩ = some (.int .i64 i) := by simp
        have p4 : (w2.alloc (.cells #[.int .i64 i, .string rl, .bool al, .int .i64 dy, .string o, .int .i64 co, .int .i64 p, .slice na 0 nc] 41)).cell? ⟨w2.heap.size, 4, none⟩ = some (.string o) := by simp
        have p6 : (w2.alloc (.cells #[.int .i64 i, .string rl, .bool al, .int .i64 dy, .string o, .int .i64 co, .int .i64 p, .slice na 0 nc] 41)).cell? ⟨w2.heap.size, 6, none⟩ = some (.int .i64 p) := by simp
        clear b2
        go_wp2
        generalize w2.alloc (.cells #[.int .i64 i, .string rl, .bool al, .int .i64 dy, .string o, .int .i64 co, .int .i64 p, .slice na 0 nc] 41) = w3 at p0 p4 p6 HB HT HS HU ⊢
        generalize w2.heap.size = b3 at p0 p4 p6 ⊢
        have H0 := Lib.hid p0
        have H4 := Lib.hid p4
        have H6 := Lib.hid p6
        clear p0 p4 p6
        go_loopw [36] (fun ix wv => ∃ k : Nat, k ≤ N ∧ ix = .int .i64 k ∧ Below w3.heap.size w3 wv) (fun ix _ => N - (intOf ix).toNat)
        case atStart => exact ⟨0, by omega, rfl, .refl _ _⟩
        case round =>
          obtain ⟨k, hk, rfl, hb⟩ := hrel
          by_cases hkN : k < N
          · obtain ⟨b, off, rfl, hcell⟩ := HT.out.2 (by omega)
            obtain ⟨x, hx⟩ : ∃ x, ts[k]? = some x := ⟨ts[k]'(by have := HLN.out; omega), List.getElem?_eq_getElem _⟩
            obtain ⟨e0, e1, e2, e3, e4, e5, e6, e7⟩ := (hcell k x hx).later hb
            have HX := Lib.hid (HML.out x (List.mem_of_getElem? hx))
            obtain ⟨xi, xr, xa, xd, xo, xc, xp, xna, xnn, xnc⟩ := x
            dsimp only at e0 e1 e2 e3 e4 e5 e6 e7
            have bx : Below wr.heap.size wr (wr.alloc (.cells #[.int .i64 xi, .string xr, .bool xa, .int .i64 xd, .string xo, .int .i64 xc, .int .i64 xp, .slice xna xnn xnc] 41)) := (Below.refl _ _).alloc (Nat.le_refl _) _
            have x0 : (wr.alloc (.cells #[.int .i64 xi, .string xr, .bool xa, .int .i64 xd, .string xo, .int .i64 xc, .int .i64 xp, .slice xna xnn xnc] 41)).cell? ⟨wr.heap.size, 0, none⟩ = some (.int .i64 xi) := by simp
            have x4 : (wr.alloc (.cells #[.int .i64 xi, .string xr, .bool xa, .int .i64 xd, .string xo, .int .i64 xc, .int .i64 xp, .slice xna xnn xnc] 41)).cell? ⟨wr.heap.size, 4, none⟩ = some (.string xo) := by simp
            have x6 : (wr.alloc (.cells #[.int .i64 xi, .string xr, .bool xa, .int .i64 xd, .string xo, .int .i64 xc, .int .i64 xp, .slice xna xnn xnc] 41)).cell? ⟨wr.heap.size, 6, none⟩ = some (.int .i64 xp) := by simp
            have hbx := bthen hb (Nat.le_refl _) bx
            have y0 := cell_later hbx H0.out
            have y4 := cell_later hbx H4.out
            have y6 := cell_later hbx H6.out
            have HBX := Lib.hid hbx
            clear hx hcell bx hb
            have c1 : ¬ p < xp := fun h => HX.out (.inl h)
            by_cases hp : xp = p
            · subst hp
              have c2 : ¬ (usedV us xo * weightV ss o < usedV us o * weightV ss xo) := fun h => HX.out (.inr ⟨rfl, .inl h⟩)
              have HC2 := Lib.hid c2
              have HD2 : Hid (decide (usedV us xo * weightV ss o < usedV us o * weightV ss xo) = false) := Lib.hid (decide_eq_false c2)
              have m1 := prod_wrap HSM.out ss xo o
              have m2 := prod_wrap HSM.out ss o xo
              have HO : Hid ((xo.toList == o.toList) = true → ¬ xi < i) := Lib.hid fun he h => HX.out (.inr ⟨rfl, .inr ⟨by
                have : xo = o := toList_inj (by simpa using he)
                rw [this], .inr ⟨toList_inj (by simpa using he), h⟩⟩⟩)
              clear c2
              cases ho : (xo.toList == o.toList)
              · go_wp2
                generalize hw0 : wr.alloc (.cells #[.int .i64 xi, .string xr, .bool xa, .int .i64 xd, .string xo, .int .i64 xc, .int .i64 xp, .slice xna xnn xnc] 41) = wy at x0 x4 x6 y0 y4 y6 HBX ⊢
                generalize wr.heap.size = by1 at x0 x4 x6 ⊢
                clear e0 e1 e2 e3 e4 e5 e6 e7 c1 hw0
                have HSY := Lib.hid (HS.out.later HBX.out)
                have HUY := Lib.hid (HU.out.later HBX.out)
                go_region_held3 (fun w' => Below wy.heap.size wy w' ∧ w'.cell? ⟨by1, 4, none⟩ = some (.string xo) ∧ w'.cell? ⟨by1, 6, none⟩ = some (.int .i64 xp) ∧ w'.cell? ⟨b3, 4, none⟩ = some (.string o) ∧ w'.cell? ⟨b3, 6, none⟩ = some (.int .i64 xp))
                  (first
                    | (go_keep; done)
                    | (go_split_ands; refine ⟨?_, ?_, ?_, ?_, ?_⟩ <;> (first | (go_keep; done) | exact cell_later (by assumption) (by assumption) | exact bthen (by assumption) (Nat.le_refl _) (by assumption) | (repeat (first | exact Below.refl _ _ | assumption | refine Below.drew ?_)))))
                  (first
                    | (go_at_call 16; go_split_ands; refine (usedE _ _ _ us _ _ (Prow.later HUY.out (by assumption)) (by have := HL3.out; omega)).mono ?_; rintro e w' ⟨rfl, hb⟩)
                    | (go_at_call 14; go_split_ands; refine (weightE _ _ _ ss _ _ (Prow.later HSY.out (by assumption)) (by have := HL2.out; omega)).mono ?_; rintro e w' ⟨rfl, hb⟩))
                go_split_ands
                have HBE : Hid (Below wy.heap.size wy _) := Lib.hid (by assumption)
                have hc2 := HC2.out
                have hN9 := HL1.out
                go_wp2
                case roundEnd => exact ⟨⟨k + 1, by omega, by go_num, bthen HBX.out (Nat.le_refl _) HBE.out⟩, by simp [intOf]; omega⟩
              · have hi := HO.out ho
                have di : decide (xi < i) = false := decide_eq_false hi
                clear hi
                go_wp2
                generalize hw0 : wr.alloc (.cells #[.int .i64 xi, .string xr, .bool xa, .int .i64 xd, .string xo, .int .i64 xc, .int .i64 xp, .slice xna xnn xnc] 41) = wy at x0 x4 x6 y0 y4 y6 HBX ⊢
                generalize wr.heap.size = by1 at x0 x4 x6 ⊢
                clear e0 e1 e2 e3 e4 e5 e6 e7 c1 hw0 di
                have HSY := Lib.hid (HS.out.later HBX.out)
                have HUY := Lib.hid (HU.out.later HBX.out)
                go_region_held3 (fun w' => Below wy.heap.size wy w' ∧ w'.cell? ⟨by1, 4, none⟩ = some (.string xo) ∧ w'.cell? ⟨by1, 6, none⟩ = some (.int .i64 xp) ∧ w'.cell? ⟨b3, 4, none⟩ = some (.string o) ∧ w'.cell? ⟨b3, 6, none⟩ = some (.int .i64 xp))
                  (first
                    | (go_keep; done)
                    | (go_split_ands; refine ⟨?_, ?_, ?_, ?_, ?_⟩ <;> (first | (go_keep; done) | exact cell_later (by assumption) (by assumption) | exact bthen (by assumption) (Nat.le_refl _) (by assumption) | (repeat (first | exact Below.refl _ _ | assumption | refine Below.drew ?_)))))
                  (first
                    | (go_at_call 16; go_split_ands; refine (usedE _ _ _ us _ _ (Prow.later HUY.out (by assumption)) (by have := HL3.out; omega)).mono ?_; rintro e w' ⟨rfl, hb⟩)
                    | (go_at_call 14; go_split_ands; refine (weightE _ _ _ ss _ _ (Prow.later HSY.out (by assumption)) (by have := HL2.out; omega)).mono ?_; rintro e w' ⟨rfl, hb⟩))
                go_split_ands
                have HBE : Hid (Below wy.heap.size wy _) := Lib.hid (by assumption)
                have hc2 := HC2.out
                have hN9 := HL1.out
                go_wp2
                case roundEnd => exact ⟨⟨k + 1, by omega, by go_num, bthen HBX.out (Nat.le_refl _) HBE.out⟩, by simp [intOf]; omega⟩
            · have hp1 : (xp == p) = false := by simpa using hp
              clear hp
              have hN9 := HL1.out
              go_wp2
              go_quiet (fail)
              go_wp2
              case roundEnd => exact ⟨⟨k + 1, by omega, by go_num, below_drewN HBX.out _⟩, by simp [intOf]; omega⟩
          · have HB := Lib.hid (bthen HB.out (Nat.le_refl _) hb)
            clear hb
            go_wp2_with (go_at_call 9; refine (knownE _).mono ?_; rintro e w9 ⟨rfl, hb9⟩; have HB9 := Lib.hid (bthen HB.out (Nat.le_refl _) hb9); clear hb9)
            go_ret
            exact ⟨rfl, HB9.out⟩
  · have hn' : decide (100 < (n : Int)) = true := by simp; omega
    have HB := Lib.hid (Below.refl W.heap.size W)
    clear hr hbd hA
    go_enter Try.func5, Try.ntmps5
    go_wp2_with (go_at_call 9; refine (knownE _).mono ?_; rintro e w9 ⟨rfl, hb9⟩; have HB9 := Lib.hid (bthen HB.out (Nat.le_refl _) hb9); clear hb9)
    go_ret
    exact ⟨rfl, HB9.out⟩
theorem walk (A : Option Addr) (n c : Nat) (l : List Int) (W : World) (hr : Irow W A n l) :
    Calls Try.prog 5 #[.slice A n c] W fun e w' => e = .returned (.bool true) ∧ Below W.heap.size W w' := core A n c l W hr


set_option maxRecDepth 100000 in
theorem lifted (os : Os) (started : os.Started) (H : Type) (enc : TypeId × Value → H) :
    ReturnsInHanded {} Try.checked os 5 .any (Rows.fairFirstSpec.pre6 enc Try.prog Try.f5 Rows.fairFirstRow.domain false) (Rows.fairFirstSpec.post enc Try.prog Try.f5 false true false false) := by
  refine returnsInHanded_of_change (C := Try.checked) own started (by kernel_rfl) Try.func5
    (ChangeSpec.witness6 (enc := enc) (C := Try.checked) false ⟨#[], #[.slice none 0 0], []⟩ 8 (by kernel_rfl) (by kernel_rfl) (by kernel_rfl) (by kernel_rfl)) ?_
  intro W base args ds gs before hval0 hW hcnd _
  have hval : ∀ (j : Nat) t v, Try.f5.params[j]? = some t → args[j]? = some v → Value.okWide Try.prog W .any base t v := hval0
  have hW' := hW
  obtain ⟨p, q, hA0, hV, rfl, hfz, hnd⟩ := hW
  have hA : DataW.TrodAll enc Try.prog W 0 (fun _ => true) true Try.f5.params.toList args.toList ds p := hA0
  rw [Try.params5] at hA hval
  obtain ⟨v0, vs0, d0, ds0, p0, q0, hargs, rfl, rfl, h0, r0⟩ := trodAll_cons hA
  obtain ⟨rfl, rfl, rfl⟩ := trodAll_nil r0
  obtain rfl : args = #[v0] := by cases args; simp_all
  obtain ⟨rfl, rfl⟩ := trodVars_none hV
  obtain ⟨A0, n0, c0, rfl⟩ := okWide_slice Try.underlying24 (hval 0 24 v0 rfl rfl)
  obtain ⟨l0, hrow0⟩ := irow_of_trod h0
  clear hA0 hval0
  simp only [List.append_nil] at hW'
  refine (walk A0 n0 c0 l0 W hrow0).mono fun e W' ⟨he, hb⟩ => ?_
  subst he
  exact ⟨_, rfl, law_post laidOut (by rw [Try.params5]; simp only [List.mem_cons, List.not_mem_nil, or_false, forall_eq_or_imp, forall_eq]; exact ⟨by kernel_rfl, by decide +kernel⟩) rfl rfl Try.underlying4 hW' rfl rfl rfl hb⟩

theorem over : Rows.fairFirstRow.holds Try.pinned (OpenSpec.ofChange Rows.fairFirstSpec) :=
  OpenClaim.holds_of_wide 5 Try.f5 rfl rfl rfl rfl rfl rfl rfl ⟨rfl, rfl, rfl, rfl, rfl⟩ rfl rfl rfl rfl rfl (by kernel_rfl) Try.func5 (by kernel_rfl)
    (of_decide_eq_true (by kernel_rfl)) (by unfold Func.isWrapper; first | (rw [if_pos (by decide +kernel)]; kernel_rfl) | (rw [if_neg (by decide +kernel)]; exact ⟨rfl, rfl⟩))
    (fun os started H enc _ => lifted os started H enc)

theorem proved : Rows.FairFirstSaid := over
#print axioms proved
end Go.Proofs.Ytknpcphaieoocaa.lawFairFirst
