/-
  FairNext: for every list of tasks, every two numbers, every shares and usages and every list of numbers the law returns true: Next returns what the reference returns. No conditions.
-/
import Derived.Test.YtknpcphaieoocaaKep
namespace Go.Proofs.Ytknpcphaieoocaa.lawFairNext
open Go.ChangeShapes Go.WideShapes Go.ChangeAt Go.RowKit
set_option linter.unusedSimpArgs false
set_option linter.unusedVariables false

set_option maxRecDepth 100000 in
set_option maxHeartbeats 4000000 in
theorem core (At As Au A : Option Addr) (nt ct ns cs nu cu n c : Nat) (r cp : Int) (ts : List Task) (ss us : List (ByteArray × Int)) (zs : List Int) (W : World)
    (hT : Trow W At nt ts) (hin : ∀ t ∈ ts, inT W t) (hS : Prow W As ns ss) (hU : Prow W Au nu us) (hI : Irow W A n zs) :
    Calls Try.prog 4 #[.slice At nt ct, .int .i64 r, .int .i64 cp, .slice As ns cs, .slice Au nu cu, .slice A n c] W fun e w' => e = .returned (.bool true) ∧ Below W.heap.size W w' := by
  have HT := Lib.hid hT
  have HS := Lib.hid hS
  have HU := Lib.hid hU
  have HIN := Lib.hid hin
  have HR := Lib.hid hI.1
  have HBD := Lib.hid hI.2.1
  have HA := Lib.hid hI.2.2
  clear hT hS hU hin hI
  go_enter Try.func4, Try.ntmps4
  go_wp2_with fail
  refine (lightE At As Au nt ct ns cs nu cu _ ts ss us [r, cp] W _ HT.out HS.out HU.out (lst2 W r cp) (by simp)).mono ?_
  rintro e w1 ⟨r0, rfl, hP, hb1⟩
  have HB := Lib.hid hb1
  cases r0
  · clear hP hb1
    go_wp2_with (go_at_call 9; refine (knownE _).mono ?_; rintro e w9 ⟨rfl, hb9⟩; have HB9 := Lib.hid (bthen HB.out (Nat.le_refl _) hb9); clear hb9)
    go_ret
    exact ⟨rfl, HB9.out⟩
  · have hP := hP rfl
    by_cases hn : n ≤ 100
    · obtain ⟨b1, b2, b3, hts, hus, hl⟩ := hP
      have HTS := Lib.hid hts
      have HUS : Hid (smallU us) := Lib.hid hus
      have hr := hl r (by simp)
      have hN : ∀ t ∈ ts, needsOk w1 t := fun t ht => ⟨by obtain ⟨z, hz⟩ := (HIN.out t ht).1; exact ⟨z, hz.later hb1⟩, by have := (hts t ht).1; omega, (hts t ht).2, (HIN.out t ht).2⟩
      have HN := Lib.hid hN
      have HRR : Hid (0 ≤ r ∧ r ≤ 1099511627776) := Lib.hid hr
      clear hts hus hl hr hN
      go_wp2_with fail
      refine (nextE At nt ct ts r cp Au As nu cu ns cs us ss w1 (HT.out.later hb1) (by omega) HN.out HRR.out.1 HRR.out.2 (HU.out.later hb1) (HS.out.later hb1) (by omega) (by omega) HUS.out).mono ?_
      rintro e w2 h2
      obtain ⟨hb2, na1, nc1, rfl, hz1⟩ := next_any h2
      clear h2
      obtain ⟨⟨zz, hzz⟩, hnn⟩ := Mx_in (ss := ss) (us := us) (r := r) (cp := cp) HIN.out (fun t ht => (HTS.out t ht).1)
      have HZ1 := Lib.hid (hz1 zz (hzz.later hb1))
      have HZW := Lib.hid hzz
      have HN2 : Hid (∀ t ∈ ts, needsOk w2 t) := Lib.hid fun t ht => by
        obtain ⟨⟨z, hz⟩, q1, q2, q3⟩ := HN.out t ht
        exact ⟨⟨z, hz.later hb2⟩, q1, q2, q3⟩
      have HB := Lib.hid (bthen HB.out (Nat.le_refl _) hb2)
      clear HN hz1 hzz hb1 hb2
      have HNF := Lib.hid (fun w3 h1 h2 h3 h4 => nextF At nt ct ts r cp Au As nu cu ns cs us ss w3 h1 (by omega) h2 HRR.out.1 HRR.out.2 h3 h4 (by omega) (by omega) HUS.out)
      have HNA := Lib.hid (fun (w3 : World) (e : Ending) (w4 : World) (h : NextR ss us ts r cp w3 e w4) => next_any h)
      generalize okV ss us ts r cp = B at HNA ⊢
      generalize hM : Mx ss us ts r cp = M at hnn HNA HZ1 HZW ⊢
      clear hM
      obtain ⟨i, rl, al, dy, o, co, p, na0, nn, nc0⟩ := M
      dsimp only [Task.val] at hnn HNA HZ1 HZW ⊢
      have hb13 : W.heap.size ≤ w2.heap.size := HB.out.size
      have bA : Below w2.heap.size w2 (w2.alloc (.cells #[.int .i64 i, .string rl, .bool al, .int .i64 dy, .string o, .int .i64 co, .int .i64 p, .slice na1 nn nc1] 41)) := (Below.refl _ _).alloc (Nat.le_refl _) _
      have HB := Lib.hid (bthen HB.out (Nat.le_refl _) bA)
      have H13 : Hid (One (w2.alloc (.cells #[.int .i64 i, .string rl, .bool al, .int .i64 dy, .string o, .int .i64 co, .int .i64 p, .slice na1 nn nc1] 41)) w2.heap.size ⟨i, rl, al, dy, o, co, p, na1, nn, nc1⟩) := Lib.hid (one_newT w2 ⟨i, rl, al, dy, o, co, p, na1, nn, nc1⟩)
      have HZ1 := Lib.hid (HZ1.out.later bA)
      have HN3 : Hid (∀ t ∈ ts, needsOk (w2.alloc (.cells #[.int .i64 i, .string rl, .bool al, .int .i64 dy, .string o, .int .i64 co, .int .i64 p, .slice na1 nn nc1] 41)) t) := Lib.hid fun t ht => by
        obtain ⟨⟨z, hz⟩, q1, q2, q3⟩ := HN2.out t ht
        exact ⟨⟨z, hz.later bA⟩, q1, q2, q3⟩
      clear bA HN2
      go_wp2_with fail
      generalize w2.alloc (.cells #[.int .i64 i, .string rl, .bool al, .int .i64 dy, .string o, .int .i64 co, .int .i64 p, .slice na1 nn nc1] 41) = w3 at HB H13 HN3 HZ1 ⊢
      generalize w2.heap.size = b13 at H13 hb13 ⊢
      refine (HNF.out w3 (HT.out.later HB.out) HN3.out (HU.out.later HB.out) (HS.out.later HB.out)).mono ?_
      rintro e w4 h4
      obtain ⟨hb4, na2, nc2, rfl, hz2⟩ := HNA.out _ _ _ h4
      have HZ2 := Lib.hid (hz2 zz (HZW.out.later HB.out))
      have HZ1 := Lib.hid (HZ1.out.later hb4)
      have H13 := Lib.hid (H13.out.later hb4)
      have HB := Lib.hid (bthen HB.out (Nat.le_refl _) hb4)
      clear h4 hz2 hb4 HN3 HNF HNA
      have hb15 : W.heap.size ≤ w4.heap.size := HB.out.size
      have hne : ¬ b13 = w4.heap.size := by have := H13.out.2.2; omega
      have bA : Below w4.heap.size w4 (w4.alloc (.cells #[.int .i64 i, .string rl, .bool al, .int .i64 dy, .string o, .int .i64 co, .int .i64 p, .slice na2 nn nc2] 41)) := (Below.refl _ _).alloc (Nat.le_refl _) _
      have HB := Lib.hid (bthen HB.out (Nat.le_refl _) bA)
      have H13 := Lib.hid (H13.out.later bA)
      have H15 : Hid (One (w4.alloc (.cells #[.int .i64 i, .string rl, .bool al, .int .i64 dy, .string o, .int .i64 co, .int .i64 p, .slice na2 nn nc2] 41)) w4.heap.size ⟨i, rl, al, dy, o, co, p, na2, nn, nc2⟩) := Lib.hid (one_newT w4 ⟨i, rl, al, dy, o, co, p, na2, nn, nc2⟩)
      have HZ1 := Lib.hid (HZ1.out.later bA)
      have HZ2 := Lib.hid (HZ2.out.later bA)
      clear bA
      obtain ⟨⟨p0, p1, p2, p3, p4, p5, p6, p7⟩, _, _⟩ := H13.out
      obtain ⟨⟨q0, q1, q2, q3, q4, q5, q6, q7⟩, _, _⟩ := H15.out
      simp only [Nat.zero_add] at p0 p1 p2 p3 p4 p5 p6 p7 q0 q1 q2 q3 q4 q5 q6 q7
      have HST := Lib.hid (sameT ⟨i, rl, al, dy, o, co, p, na1, nn, nc1⟩ na2 nc2 zz (w4.alloc (.cells #[.int .i64 i, .string rl, .bool al, .int .i64 dy, .string o, .int .i64 co, .int .i64 p, .slice na2 nn nc2] 41)) HZ1.out HZ2.out hnn)
      dsimp only [Task.val] at HST
      clear HZ1 HZ2
      go_wp2_with (go_at_call 23; refine HST.out.mono ?_; rintro e w5 ⟨rfl, hb5⟩; have HB := Lib.hid (bthen HB.out (Nat.le_refl _) hb5); have H13 := Lib.hid (H13.out.later hb5); have H15 := Lib.hid (H15.out.later hb5); clear hb5)
      clear p0 p1 p2 p3 p4 p5 p6 p7 q0 q1 q2 q3 q4 q5 q6 q7 HST
      generalize w4.heap.size = b15 at H15 hb15 hne ⊢
      refine (madeE A n c zs w5 (by omega) (HR.out.later HB.out) HBD.out (fun h a ha => Nat.lt_of_lt_of_le (HA.out h a ha) HB.out.size)).mono ?_
      rintro e w6 hmd
      obtain ⟨A1, A2, A3, c1, c2, c3, g, N, M, K, ts', ss', us', rfl, hb6, hT', hS', hU', hG', l1, l2, l3, hgd, hsm, hg1, k1, k2, k3⟩ := madeN hmd
      clear hmd
      have hg13 : b13 ≠ g := by have := H13.out.2.2; omega
      have hg15 : b15 ≠ g := by have := H15.out.2.2; omega
      have hl13 : b13 < g := by have := H13.out.2.2; omega
      have hl15 : b15 < g := by have := H15.out.2.2; omega
      have HB := Lib.hid (bthen HB.out (Nat.le_refl _) hb6)
      have H13 := Lib.hid (H13.out.later hb6)
      have H15 := Lib.hid (H15.out.later hb6)
      have hgW : W.heap.size ≤ g := by omega
      clear hb6 hg1
      go_wp2_with fail
      refine (nextN g A n c zs 20 w6 hG' (by omega) (by omega)).mono ?_
      rintro e w7 ⟨r', rfl, hr', _, hgr⟩
      have HT' := Lib.hid (hT'.kept hgr (fun a ha => by have := k1 a ha; omega))
      have HS' := Lib.hid (hS'.kept hgr (fun a ha => by have := k2 a ha; omega))
      have HU' := Lib.hid (hU'.kept hgr (fun a ha => by have := k3 a ha; omega))
      have H13 := Lib.hid (H13.out.kept hgr hg13)
      have H15 := Lib.hid (H15.out.kept hgr hg15)
      have HB := Lib.hid (HB.out.trans (below_of_grown hgr (by have := HB.out.size; omega) (fun k hk => by cases hk; exact hgW)))
      have HGD := Lib.hid hgd
      have HSM := Lib.hid hsm
      have K1 := Lib.hid k1
      have K2 := Lib.hid k2
      have K3 := Lib.hid k3
      clear hgr hT' hS' hU' hG' hgd hsm k1 k2 k3
      go_wp2_with fail
      refine (nextE A1 N c1 ts' r' 20 A3 A2 K c3 M c2 us' ss' w7 HT'.out (by omega) (good_needs HGD.out w7) (by omega) (by omega) HU'.out HS'.out (by omega) (by omega) HSM.out).mono ?_
      rintro e w8 h8
      obtain ⟨hb8, na3, nc3, rfl, _⟩ := next_any h8
      clear h8
      have HNF := Lib.hid (fun w9 h1 h2 h3 h4 => nextF A1 N c1 ts' r' 20 A3 A2 K c3 M c2 us' ss' w9 h1 (by omega) h2 (by omega) (by omega) h3 h4 (by omega) (by omega) HSM.out)
      have HNA := Lib.hid (fun (w3 : World) (e : Ending) (w4 : World) (h : NextR ss' us' ts' r' 20 w3 e w4) => next_any h)
      have hn0 := Mx_made (ss := ss') (us := us') (r := r') (cp := 20) HGD.out
      generalize okV ss' us' ts' r' 20 = B' at HNA ⊢
      generalize hM : Mx ss' us' ts' r' 20 = M' at hn0 HNA ⊢
      clear hM
      obtain ⟨i', rl', al', dy', o', co', p', na0', nn', nc0'⟩ := M'
      dsimp only [Task.val] at hn0 HNA ⊢
      subst hn0
      have HT' := Lib.hid (HT'.out.later hb8)
      have HS' := Lib.hid (HS'.out.later hb8)
      have HU' := Lib.hid (HU'.out.later hb8)
      have H13 := Lib.hid (H13.out.later hb8)
      have H15 := Lib.hid (H15.out.later hb8)
      have HB := Lib.hid (bthen HB.out (Nat.le_refl _) hb8)
      clear hb8
      have S13 := store8 H13.out i' rl' al' dy' o' co' p' na3 0 nc3
      have hgr := S13.2
      have HT' := Lib.hid (HT'.out.kept hgr (fun a ha => by have := K1.out a ha; omega))
      have HS' := Lib.hid (HS'.out.kept hgr (fun a ha => by have := K2.out a ha; omega))
      have HU' := Lib.hid (HU'.out.kept hgr (fun a ha => by have := K3.out a ha; omega))
      have H15 := Lib.hid (H15.out.kept hgr (by omega))
      have HB := Lib.hid (HB.out.trans (below_of_grown hgr (by have := HB.out.size; omega) (fun k hk => by cases hk; exact hb13)))
      have HS13 := Lib.hid S13.1
      clear hgr S13
      obtain ⟨⟨p0, p1, p2, p3, p4, p5, p6, p7⟩, pf, _⟩ := H13.out
      simp only [Nat.zero_add] at p0 p1 p2 p3 p4 p5 p6 p7
      go_wp2_with fail
      clear p0 p1 p2 p3 p4 p5 p6 p7 pf
      generalize ((((((((w8.setCell ⟨b13, 0, none⟩ (.int .i64 i')).setCell ⟨b13, 1, none⟩ (.string rl')).setCell ⟨b13, 2, none⟩ (.bool al')).setCell ⟨b13, 3, none⟩ (.int .i64 dy')).setCell ⟨b13, 4, none⟩ (.string o')).setCell ⟨b13, 5, none⟩ (.int .i64 co')).setCell ⟨b13, 6, none⟩ (.int .i64 p')).setCell ⟨b13, 7, none⟩ (.slice na3 0 nc3)) = w9 at HT' HS' HU' H15 HB HS13 ⊢
      refine (HNF.out w9 HT'.out (good_needs HGD.out w9) HU'.out HS'.out).mono ?_
      rintro e w10 h10
      obtain ⟨hb10, na4, nc4, rfl, _⟩ := HNA.out _ _ _ h10
      have H13 := Lib.hid (HS13.out.later hb10)
      have H15 := Lib.hid (H15.out.later hb10)
      have HB := Lib.hid (bthen HB.out (Nat.le_refl _) hb10)
      clear h10 hb10 HNF HNA HS13
      have S15 := store8 H15.out i' rl' al' dy' o' co' p' na4 0 nc4
      have hgr := S15.2
      have H13 := Lib.hid (H13.out.kept hgr (by omega))
      have HB := Lib.hid (HB.out.trans (below_of_grown hgr (by have := HB.out.size; omega) (fun k hk => by cases hk; exact hb15)))
      have HS15 := Lib.hid S15.1
      clear hgr S15
      obtain ⟨⟨p0, p1, p2, p3, p4, p5, p6, p7⟩, _, _⟩ := H13.out
      obtain ⟨⟨q0, q1, q2, q3, q4, q5, q6, q7⟩, _, _⟩ := HS15.out
      obtain ⟨⟨u0, u1, u2, u3, u4, u5, u6, u7⟩, uf, _⟩ := H15.out
      simp only [Nat.zero_add] at p0 p1 p2 p3 p4 p5 p6 p7 q0 q1 q2 q3 q4 q5 q6 q7 u0 u1 u2 u3 u4 u5 u6 u7
      have HST := Lib.hid (sameT ⟨i', rl', al', dy', o', co', p', na3, 0, nc3⟩ na4 nc4 [] ((((((((w10.setCell ⟨b15, 0, none⟩ (.int .i64 i')).setCell ⟨b15, 1, none⟩ (.string rl')).setCell ⟨b15, 2, none⟩ (.bool al')).setCell ⟨b15, 3, none⟩ (.int .i64 dy')).setCell ⟨b15, 4, none⟩ (.string o')).setCell ⟨b15, 5, none⟩ (.int .i64 co')).setCell ⟨b15, 6, none⟩ (.int .i64 p')).setCell ⟨b15, 7, none⟩ (.slice na4 0 nc4)) (nrow0 _ _) (nrow0 _ _) (by decide : (0 : Nat) ≤ 1000))
      dsimp only [Task.val] at HST
      go_wp2_with (first | (go_at_call 23; refine HST.out.mono ?_; rintro e w12 ⟨rfl, hb12⟩; have HB := Lib.hid (bthen HB.out (Nat.le_refl _) hb12); clear hb12) | (go_at_call 9; refine (knownE _).mono ?_; rintro e w9 ⟨rfl, hb9⟩; have HB9 := Lib.hid (bthen HB.out (Nat.le_refl _) hb9); clear hb9))
      go_ret
      exact ⟨rfl, HB9.out⟩
    · clear hP hb1
      go_wp2_with (go_at_call 9; refine (knownE _).mono ?_; rintro e w9 ⟨rfl, hb9⟩; have HB9 := Lib.hid (bthen HB.out (Nat.le_refl _) hb9); clear hb9)
      go_ret
      exact ⟨rfl, HB9.out⟩
theorem walk (W : World) (A0 : Option Addr) (n0 c0 : Nat) (l0 : List Task) (h0 : Trow W A0 n0 l0 ∧ ∀ t ∈ l0, inT W t) (a1 : Int) (w1 : (Lit.int .i64 a1).wf = true) (a2 : Int) (w2 : (Lit.int .i64 a2).wf = true)
    (A3 : Option Addr) (n3 c3 : Nat) (l3 : List (ByteArray × Int)) (h3 : Prow W A3 n3 l3 ∧ (A3 = none → c3 = 0)) (A4 : Option Addr) (n4 c4 : Nat) (l4 : List (ByteArray × Int)) (h4 : Prow W A4 n4 l4 ∧ (A4 = none → c4 = 0)) (A5 : Option Addr) (n5 c5 : Nat) (l5 : List Int) (h5 : Irow W A5 n5 l5) :
    Calls Try.prog 4 #[.slice A0 n0 c0, .int .i64 a1, .int .i64 a2, .slice A3 n3 c3, .slice A4 n4 c4, .slice A5 n5 c5] W fun e w' => e = .returned (.bool true) ∧ Below W.heap.size W w' :=
  core A0 A3 A4 A5 n0 c0 n3 c3 n4 c4 n5 c5 a1 a2 l0 l3 l4 l5 W h0.1 h0.2 h3.1 h4.1 h5


set_option maxRecDepth 100000 in
theorem lifted (os : Os) (started : os.Started) (H : Type) (enc : TypeId × Value → H) :
    ReturnsInHanded {} Try.checked os 4 .any (Rows.fairNextSpec.pre6 enc Try.prog Try.f4 Rows.fairNextRow.domain false) (Rows.fairNextSpec.post enc Try.prog Try.f4 false true false false) := by
  refine returnsInHanded_of_change (C := Try.checked) own started (by kernel_rfl) Try.func4
    (ChangeSpec.witness6 (enc := enc) (C := Try.checked) false ⟨#[], #[.slice none 0 0, .int .i64 0, .int .i64 0, .slice none 0 0, .slice none 0 0, .slice none 0 0], []⟩ 8 (by kernel_rfl) (by kernel_rfl) (by kernel_rfl) (by kernel_rfl)) ?_
  intro W base args ds gs before hval0 hW hcnd _
  have hval : ∀ (j : Nat) t v, Try.f4.params[j]? = some t → args[j]? = some v → Value.okWide Try.prog W .any base t v := hval0
  have hW' := hW
  obtain ⟨p, q, hA0, hV, rfl, hfz, hnd⟩ := hW
  have hA : DataW.TrodAll enc Try.prog W 0 (fun _ => true) true Try.f4.params.toList args.toList ds p := hA0
  rw [Try.params4] at hA hval
  obtain ⟨v0, vs0, d0, ds0, p0, q0, hargs, rfl, rfl, h0, r0⟩ := trodAll_cons hA
  obtain ⟨v1, vs1, d1, ds1, p1, q1, rfl, rfl, rfl, h1, r1⟩ := trodAll_cons r0
  obtain ⟨v2, vs2, d2, ds2, p2, q2, rfl, rfl, rfl, h2, r2⟩ := trodAll_cons r1
  obtain ⟨v3, vs3, d3, ds3, p3, q3, rfl, rfl, rfl, h3, r3⟩ := trodAll_cons r2
  obtain ⟨v4, vs4, d4, ds4, p4, q4, rfl, rfl, rfl, h4, r4⟩ := trodAll_cons r3
  obtain ⟨v5, vs5, d5, ds5, p5, q5, rfl, rfl, rfl, h5, r5⟩ := trodAll_cons r4
  obtain ⟨rfl, rfl, rfl⟩ := trodAll_nil r5
  obtain rfl : args = #[v0, v1, v2, v3, v4, v5] := by cases args; simp_all
  obtain ⟨rfl, rfl⟩ := trodVars_none hV
  obtain ⟨A0, n0, c0, rfl⟩ := okWide_slice Try.underlying27 (hval 0 27 v0 rfl rfl)
  obtain ⟨l0, hrow0⟩ := tasks_of_trod h0
  obtain ⟨a1, rfl, rfl, rfl, w1⟩ := open_int Try.underlying3 (hval 1 3 v1 rfl rfl) h1
  obtain ⟨a2, rfl, rfl, rfl, w2⟩ := open_int Try.underlying3 (hval 2 3 v2 rfl rfl) h2
  obtain ⟨A3, n3, c3, rfl⟩ := okWide_slice Try.underlying22 (hval 3 22 v3 rfl rfl)
  obtain ⟨l3, hrow3⟩ := shares_of_trod h3
  obtain ⟨A4, n4, c4, rfl⟩ := okWide_slice Try.underlying23 (hval 4 23 v4 rfl rfl)
  obtain ⟨l4, hrow4⟩ := usages_of_trod h4
  obtain ⟨A5, n5, c5, rfl⟩ := okWide_slice Try.underlying24 (hval 5 24 v5 rfl rfl)
  obtain ⟨l5, hrow5⟩ := irow_of_trod h5
  clear hA0 hval0
  simp only [List.append_nil] at hW'
  refine (walk W A0 n0 c0 l0 hrow0 a1 w1 a2 w2 A3 n3 c3 l3 hrow3 A4 n4 c4 l4 hrow4 A5 n5 c5 l5 hrow5).mono fun e W' ⟨he, hb⟩ => ?_
  subst he
  exact ⟨_, rfl, law_post laidOut (by rw [Try.params4]; simp only [List.mem_cons, List.not_mem_nil, or_false, forall_eq_or_imp, forall_eq]; exact ⟨⟨by kernel_rfl, by decide +kernel⟩, ⟨by kernel_rfl, by decide +kernel⟩, ⟨by kernel_rfl, by decide +kernel⟩, ⟨by kernel_rfl, by decide +kernel⟩, ⟨by kernel_rfl, by decide +kernel⟩, ⟨by kernel_rfl, by decide +kernel⟩⟩) rfl rfl Try.underlying4 hW' rfl rfl rfl hb⟩

theorem over : Rows.fairNextRow.holds Try.pinned (OpenSpec.ofChange Rows.fairNextSpec) :=
  OpenClaim.holds_of_wide 4 Try.f4 rfl rfl rfl rfl rfl rfl rfl ⟨rfl, rfl, rfl, rfl, rfl⟩ rfl rfl rfl rfl rfl (by kernel_rfl) Try.func4 (by kernel_rfl)
    (of_decide_eq_true (by kernel_rfl)) (by unfold Func.isWrapper; first | (rw [if_pos (by decide +kernel)]; kernel_rfl) | (rw [if_neg (by decide +kernel)]; exact ⟨rfl, rfl⟩))
    (fun os started H enc _ => lifted os started H enc)

theorem proved : Rows.FairNextSaid := over
#print axioms proved
end Go.Proofs.Ytknpcphaieoocaa.lawFairNext
