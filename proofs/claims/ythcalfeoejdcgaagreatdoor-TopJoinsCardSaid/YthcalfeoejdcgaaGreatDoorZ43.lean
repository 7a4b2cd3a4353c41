/- TopJoins: the walk to Filled, the books, the last loop. -/
import Derived.Test.YthcalfeoejdcgaaGreatDoorZ16
import Derived.Test.YthcalfeoejdcgaaGreatDoorZ34
import Derived.Test.YthcalfeoejdcgaaGreatDoorZ21
import Derived.Test.YthcalfeoejdcgaaGreatDoorZ35
import Derived.Test.YthcalfeoejdcgaaGreatDoorZ37
import Derived.Test.YthcalfeoejdcgaaGreatDoorZ38
import Derived.Test.YthcalfeoejdcgaaGreatDoorZ39
import Derived.Test.YthcalfeoejdcgaaGreatDoorZ40
import Derived.Test.YthcalfeoejdcgaaGreatDoorZ41
import Derived.Test.YthcalfeoejdcgaaGreatDoorZ42
import Derived.Test.YthcalfeoejdcgaaGreatDoorZ12
import Derived.KernelRfl
import Derived.Deep.RegionHeld3
namespace Go.Proofs.YthcalfeoejdcgaaGreatDoor
open Go.RowKit Go.RowKit Go.BigFrame
set_option linter.unusedSimpArgs false
set_option linter.unusedVariables false

theorem mod3j (n : Int) (h : 0 ≤ n ∧ n ≤ 3) : ∃ c : Nat, c ≤ 2 ∧ n.tmod 3 = c := by
  have : n = 0 ∨ n = 1 ∨ n = 2 ∨ n = 3 := by omega
  rcases this with rfl | rfl | rfl | rfl
  · exact ⟨0, by omega, rfl⟩
  · exact ⟨1, by omega, rfl⟩
  · exact ⟨2, by omega, rfl⟩
  · exact ⟨0, by omega, rfl⟩
theorem wp_abs2j {P : Program} {c0 c1 rest : Code} {Q : Exit → Act → World → Prop} {a : Act} {w : World} (h : ∀ R, R = rest → (Code.seq c0 (.seq c1 R)).wp P Q a w) : (Code.seq c0 (.seq c1 rest)).wp P Q a w := h rest rfl
/-- the pieces, by the case -/
def jA (c : Nat) : Lit := match c with
  | 0 => jLA0
  | 1 => jLA1
  | _ => jLA2
def jB (c : Nat) : Lit := match c with
  | 0 => jLB0
  | 1 => jLB1
  | _ => jLB2
theorem run6a {c : Nat} (hc : c ≤ 2) : lookL (jA c) (rpre (R6 c) 208 4 (rest2 Tryz.f6.body) jL0.tm sF) = (jA c).want :=
  cases3 (P := fun c => lookL (jA c) (rpre (R6 c) 208 4 (rest2 Tryz.f6.body) jL0.tm sF) = (jA c).want) hc run6a_0 run6a_1 run6a_2
theorem run6b {c : Nat} (hc : c ≤ 2) : lookL (jB c) (rpre (R6 c) 208 5 (cdrop 4 (rest2 Tryz.f6.body)) (jA c).tm (jA c).st) = (jB c).want :=
  cases3 (P := fun c => lookL (jB c) (rpre (R6 c) 208 5 (cdrop 4 (rest2 Tryz.f6.body)) (jA c).tm (jA c).st) = (jB c).want) hc run6b_0 run6b_1 run6b_2
theorem run6c {c : Nat} (hc : c ≤ 2) : qchk (rpre (R6 c) 208 6 (cdrop 5 (cdrop 4 (rest2 Tryz.f6.body))) (jB c).tm (jB c).st) endJ = true :=
  cases3 (P := fun c => qchk (rpre (R6 c) 208 6 (cdrop 5 (cdrop 4 (rest2 Tryz.f6.body))) (jB c).tm (jB c).st) endJ = true) hc run6c_0 run6c_1 run6c_2
theorem jsmall {c : Nat} (hc : c ≤ 2) : (jA c).small = true ∧ (jB c).small = true ∧ (jA c).ntm = 208 ∧ (jB c).ntm = 208 :=
  cases3 (P := fun c => (jA c).small = true ∧ (jB c).small = true ∧ (jA c).ntm = 208 ∧ (jB c).ntm = 208) hc ⟨by kernel_rfl, by kernel_rfl, rfl, rfl⟩ ⟨by kernel_rfl, by kernel_rfl, rfl, rfl⟩ ⟨by kernel_rfl, by kernel_rfl, rfl, rfl⟩
theorem j0small : jL0.small = true := by kernel_rfl
theorem tm0 {E : Ev} {D : Nat → Prop} {ρ : Nat → Pl} {a : Act} (h1 : Rv E D ρ (.chan (some 600)) (a.tmps.getD 1 undef)) (h4 : a.tmps.getD 4 undef = .bool false) (h5 : Rv E D ρ (.slice (some ⟨71,0,none⟩) 3 3) (a.tmps.getD 5 undef)) : ∀ p ∈ jL0.tms, Rv E D ρ p.2 (a.tmps.getD p.1 undef) := fun p hp => by
  simp only [jL0, List.mem_cons, List.not_mem_nil, or_false] at hp
  rcases hp with rfl | rfl | rfl
  · exact h1
  · show Rv E D ρ (.bool false) (a.tmps.getD 4 undef)
    rw [h4]; exact .flat _ rfl
  · exact h5
theorem nil_rv {E : Ev} {D : Nat → Prop} {ρ : Nat → Pl} {v : Option Value} {v' : Value} (h : v = some (.slice none 0 0)) (hr : Rv E D ρ (tmv v) v') : v' = .slice none 0 0 := by
  subst h
  exact rv_flat hr rfl
/-- what the run leaves ahead of the loop, in the world -/
theorem endJ_ok {tb : Nat → Tab} {num : Nat → Int} {D : Nat → Prop} {ρ : Nat → Pl} {sz : Nat} {tm : Tm} {s : ASt} {a : Act} {w : World} (h : endJ tm s = true) (hst : St (ETab tb num) D ρ sz s tm a w) :
    ∃ b15 o15 A n c b21 o21 B m d b23 o23 C k g, a.tmps.getD 15 undef = .pointer (some ⟨b15, o15, none⟩) ∧ a.tmps.getD 21 undef = .pointer (some ⟨b21, o21, none⟩) ∧ a.tmps.getD 22 undef = .bool true ∧ a.tmps.getD 23 undef = .pointer (some ⟨b23, o23, none⟩) ∧ a.tmps.getD 24 undef = .bool true ∧ a.tmps.getD 25 undef = .slice none 0 0 ∧
      w.cell? ⟨b15, o15 + 3, none⟩ = some (.slice A n c) ∧ w.cell? ⟨b21, o21 + 3, none⟩ = some (.slice B m d) ∧ w.cell? ⟨b23, o23 + 3, none⟩ = some (.slice C k g) ∧ k ≤ g ∧ rTab w A n (tb 7) ∧ rTab w B m (tb 9) ∧ rTab w C k (tb 10) ∧ Tbs w := by
  unfold endJ at h
  simp only [Bool.and_eq_true] at h
  obtain ⟨h1, h2, h3, h4, h5⟩ := h
  obtain ⟨b15, o15, A, n, c, e15, c15, _, t15⟩ := relD_ok (by omega) h2 hst.sim (hst.tr 15)
  obtain ⟨b21, o21, B, m, d, e21, c21, _, t21⟩ := relD_ok (by omega) h3 hst.sim (hst.tr 21)
  obtain ⟨b23, o23, C, k, g, e23, c23, hkg, t23⟩ := relD_ok (by omega) h4 hst.sim (hst.tr 23)
  have ht := tbs_of_sim hst.sim fun b hb => (eqO_ok (List.all_eq_true.1 h5 b hb)).1
  have e22 : a.tmps.getD 22 undef = .bool true ∧ a.tmps.getD 24 undef = .bool true ∧ a.tmps.getD 25 undef = .slice none 0 0 := by
    split at h1
    · rename_i hv1 hv2 hv3
      exact ⟨bool_rv hv1 (hst.tr 22), bool_rv hv2 (hst.tr 24), nil_rv hv3 (hst.tr 25)⟩
    · cases h1
  exact ⟨b15, o15, A, n, c, b21, o21, B, m, d, b23, o23, C, k, g, e15, e21, e22.1, e23, e22.2.1, e22.2.2, c15, c21, c23, hkg, t15, t21, t23, ht⟩
set_option maxRecDepth 100000 in
theorem act208 (u : Nat → Value) : (⟨⟨(List.range 208).map u⟩, []⟩ : Act) = ⟨⟨[u 0, u 1, u 2, u 3, u 4, u 5, u 6, u 7, u 8, u 9, u 10, u 11, u 12, u 13, u 14, u 15, u 16, u 17, u 18, u 19, u 20, u 21, u 22, u 23, u 24, u 25, u 26, u 27, u 28, u 29, u 30, u 31, u 32, u 33, u 34, u 35, u 36, u 37, u 38, u 39, u 40, u 41, u 42, u 43, u 44, u 45, u 46, u 47, u 48, u 49, u 50, u 51, u 52, u 53, u 54, u 55, u 56, u 57, u 58, u 59, u 60, u 61, u 62, u 63, u 64, u 65, u 66, u 67, u 68, u 69, u 70, u 71, u 72, u 73, u 74, u 75, u 76, u 77, u 78, u 79, u 80, u 81, u 82, u 83, u 84, u 85, u 86, u 87, u 88, u 89, u 90, u 91, u 92, u 93, u 94, u 95, u 96, u 97, u 98, u 99, u 100, u 101, u 102, u 103, u 104, u 105, u 106, u 107, u 108, u 109, u 110, u 111, u 112, u 113, u 114, u 115, u 116, u 117, u 118, u 119, u 120, u 121, u 122, u 123, u 124, u 125, u 126, u 127, u 128, u 129, u 130, u 131, u 132, u 133, u 134, u 135, u 136, u 137, u 138, u 139, u 140, u 141, u 142, u 143, u 144, u 145, u 146, u 147, u 148, u 149, u 150, u 151, u 152, u 153, u 154, u 155, u 156, u 157, u 158, u 159, u 160, u 161, u 162, u 163, u 164, u 165, u 166, u 167, u 168, u 169, u 170, u 171, u 172, u 173, u 174, u 175, u 176, u 177, u 178, u 179, u 180, u 181, u 182, u 183, u 184, u 185, u 186, u 187, u 188, u 189, u 190, u 191, u 192, u 193, u 194, u 195, u 196, u 197, u 198, u 199, u 200, u 201, u 202, u 203, u 204, u 205, u 206, u 207]⟩, []⟩ := rfl
theorem pad_snoc {t : Tab} {k : Nat} {x : List Val × Int} (h : t[k]? = some x) : padV 1 (t.take (k + 1)) = padV 1 (t.take k) ++ [(x.1 ++ [zV], x.2)] := by
  unfold padV
  rw [take_snoc h, List.map_append]
  rfl
set_option maxRecDepth 100000 in
set_option maxHeartbeats 40000000 in
theorem joinsE (A : Option Addr) (n c : Nat) (l : List Int) (k : Int) (w : World) (h : rInt w A n l) (hc : n ≤ c) (hn : n ≤ 9223372036854775807) (hc2 : c ≤ 9223372036854775807) (ht : Tbs w) :
    Calls Tryz.prog 6 #[.slice A n c, .int .i64 k] w fun e w' => e = .returned (.bool true) ∧ Below w.heap.size w w' := by
  have HF := Lib.hid (filledE A n c l 8 w h hc hn hc2 (by omega))
  have HT := Lib.hid ht
  clear h ht
  go_enter Tryz.func6, Tryz.ntmps6
  refine wp_abs2j fun R hR => ?_
  have HR := Lib.hid hR
  clear hR
  go_wp2_with fail
  refine HF.out.mono ?_
  rintro e w1 ⟨g, bo, bc, rs, rfl, hblk, hfil, hco, hcc, hb, hg1, hg2⟩
  go_wp2_with fail
  obtain ⟨r0, r1, r2, rfl, ⟨A0, n0, c0, t0, rfl, a2, a3, a4⟩, ⟨A1, n1, c1, t1, rfl, b2, b3, b4⟩, ⟨A2, n2, c2, t2, rfl, d2, d3, d4⟩⟩ := hfil
  obtain ⟨cc, hcc2, ec⟩ := mod3j _ (anD3_le k)
  have e24 : (3 : Int) * ((8 : Nat) : Int) = 24 := rfl
  rw [e24] at a4 b4 d4
  have TJ := tj_of a4 b4 d4
  have hK := R6_ok (n := k) hcc2 TJ ec
  obtain ⟨D, ρ, hs, h71, hp71, hD0, hro⟩ := simF (E := ETab (tbJ cc t0 t1 t2) (numG k)) (w := w) (HT.out.later hb (Nat.le_refl _)) hblk hco hcc (.inl ⟨by omega, tabAt_of a2 (by omega) a3⟩) (.inl ⟨by omega, tabAt_of b2 (by omega) b3⟩) (.inl ⟨by omega, tabAt_of d2 (by omega) d3⟩)
  have e : R = rest2 Tryz.f6.body := HR.out.trans rfl
  obtain ⟨ps1, ps2, pn1, pn2⟩ := jsmall hcc2
  obtain ⟨tmA, sA, hrunA, litA⟩ := lit_ok ps1 (run6a hcc2)
  obtain ⟨tmB, sB, hrunB, litB⟩ := lit_ok ps2 (run6b hcc2)
  obtain ⟨tm, s, hrunC, hend⟩ := qchk_ok (run6c hcc2)
  rw [← e] at hrunA hrunB hrunC
  have HE := Lib.hid e
  refine rpre_ok hK 4 hrunA (D := D) (ρ := ρ) ⟨hs, ?tr, rfl, rfl⟩ fun D1 ρ1 a1 wA hst1 hex1 => ?_
  case tr => exact tm_rel j0small rfl (tm0 (opq_rv (i := 0) (d := 600) (by omega) hD0 rfl (.inr ⟨by omega, rfl⟩)) rfl (slice_rv (e := 4) (r := 12) h71 hp71 rfl (by decide)))
  have hst2 := litA pn1 hst1
  have hbA := below_ex hro rfl hex1
  refine rpre_ok hK 5 hrunB hst2 fun D2 ρ2 a2' wB hst3 hex2 => ?_
  have hst4 := litB pn2 hst3
  have hbB := below_ex (lit_ro ps1).1 (lit_ro ps1).2 hex2
  refine rpre_ok hK 6 hrunC hst4 fun D' ρ' a' w2 hst hex => ?_
  have hbC := below_ex (lit_ro ps2).1 (lit_ro ps2).2 hex
  obtain ⟨b15, o15, A, n, c, b21, o21, B, m, d, b23, o23, C, kk, g', e15, e21, e22, e23, e24', e25, k15, k21, k23, hkg, tA, tB, tC, ht2⟩ := endJ_ok hend hst
  have HB2 : Hid (Below w.heap.size w w2) := Lib.hid (btr hb (btr (btr hbA hbB) hbC))
  have HT2 := Lib.hid ht2
  have HTA := Lib.hid tA
  have HTB := Lib.hid tB
  have HTC := Lib.hid tC
  have HTJ := Lib.hid TJ
  have HLEFT : Hid (tbJ cc t0 t1 t2 9 = addV (tbJ cc t0 t1 t2 10) (padV 1 (tbJ cc t0 t1 t2 7))) := Lib.hid (TJ.left cc)
  have hl7 : ∀ x ∈ tbJ cc t0 t1 t2 7, x.1.length = 4 := fun x hx => TJ.l0 x (List.mem_filter.1 hx).1
  have hs7 : sumC (tbJ cc t0 t1 t2 7) ≤ 24 := Int.le_trans (fil_tab TJ.o0 _).2 TJ.s0
  have HOA : Hid (okAdd (tbJ cc t0 t1 t2 10) (padV 1 (tbJ cc t0 t1 t2 7))) := Lib.hid (by
    have p1 := pad_tab (m := 1) (TJ.ok (c := cc) 7) hl7 (by omega)
    have p2 := pad_sum 1 (tbJ cc t0 t1 t2 7)
    have p3 := (TJ.joi false [niJ cc] [oiJ cc]).2.1
    have p4 := len_sum p1.2
    have p5 := len_sum (TJ.ok (c := cc) 10).2
    have p6 : sumC (tbJ cc t0 t1 t2 10) ≤ 600 := p3
    exact ⟨TJ.ok 10, p1, by omega, by omega⟩)
  have HO9 : Hid (okTab (tbJ cc t0 t1 t2 9)) := Lib.hid (TJ.ok 9)
  have HL7 := Lib.hid hl7
  have hn30 : n ≤ 24 := by have h1 := tA.len; have h2 := len_sum (TJ.ok (c := cc) 7).2; omega
  obtain ⟨T7, hT7⟩ : ∃ T, T = tbJ cc t0 t1 t2 7 := ⟨_, rfl⟩
  obtain ⟨T9, hT9⟩ : ∃ T, T = tbJ cc t0 t1 t2 9 := ⟨_, rfl⟩
  obtain ⟨T10, hT10⟩ : ∃ T, T = tbJ cc t0 t1 t2 10 := ⟨_, rfl⟩
  rw [← hT7] at HTA HLEFT HOA HL7
  rw [← hT9] at HTB HLEFT HO9
  rw [← hT10] at HTC HLEFT HOA
  obtain ⟨u, hu⟩ : ∃ u : Nat → Value, u = fun t => a'.tmps.getD t undef := ⟨_, rfl⟩
  have ha := act_lit hst
  rw [← hu] at ha
  have e15 : u 15 = .pointer (some ⟨b15, o15, none⟩) := by rw [hu]; exact e15
  have e21 : u 21 = .pointer (some ⟨b21, o21, none⟩) := by rw [hu]; exact e21
  have e22 : u 22 = .bool true := by rw [hu]; exact e22
  have e23 : u 23 = .pointer (some ⟨b23, o23, none⟩) := by rw [hu]; exact e23
  have e24 : u 24 = .bool true := by rw [hu]; exact e24'
  have e25 : u 25 = .slice none 0 0 := by rw [hu]; exact e25
  rw [ha, HR.out, act208]
  clear ha hu hst hex hrunC litA litB hrunA hrunB HE e hend hK hs h71 hp71 hD0 hro tA tB tC ht2 hb hg1 hg2 hblk hco hcc a2 a3 a4 b2 b3 b4 d2 d3 d4 HR HF ec hcc2 hst1 hst2 hst3 hst4 hex1 hex2 hbA hbB hbC ps1 ps2 pn1 pn2 TJ hT7 hT9 hT10 hl7 hs7 e24'
  dsimp only [cdrop]
  rw [e15, e21, e22, e23, e24, e25]
  clear e15 e21 e22 e23 e24 e25
  generalize u 0 = u0
  generalize u 1 = u1
  generalize u 2 = u2
  generalize u 3 = u3
  generalize u 4 = u4
  generalize u 5 = u5
  generalize u 6 = u6
  generalize u 7 = u7
  generalize u 8 = u8
  generalize u 9 = u9
  generalize u 10 = u10
  generalize u 11 = u11
  generalize u 12 = u12
  generalize u 13 = u13
  generalize u 14 = u14
  generalize u 16 = u16
  generalize u 17 = u17
  generalize u 18 = u18
  generalize u 19 = u19
  generalize u 20 = u20
  generalize u 26 = u26
  generalize u 27 = u27
  generalize u 28 = u28
  generalize u 29 = u29
  generalize u 30 = u30
  generalize u 31 = u31
  generalize u 32 = u32
  generalize u 33 = u33
  generalize u 34 = u34
  generalize u 35 = u35
  generalize u 36 = u36
  generalize u 37 = u37
  generalize u 38 = u38
  generalize u 39 = u39
  generalize u 40 = u40
  generalize u 41 = u41
  generalize u 42 = u42
  generalize u 43 = u43
  generalize u 44 = u44
  generalize u 45 = u45
  generalize u 46 = u46
  generalize u 47 = u47
  generalize u 48 = u48
  generalize u 49 = u49
  generalize u 50 = u50
  generalize u 51 = u51
  generalize u 52 = u52
  generalize u 53 = u53
  generalize u 54 = u54
  generalize u 55 = u55
  generalize u 56 = u56
  generalize u 57 = u57
  generalize u 58 = u58
  generalize u 59 = u59
  generalize u 60 = u60
  generalize u 61 = u61
  generalize u 62 = u62
  generalize u 63 = u63
  generalize u 64 = u64
  generalize u 65 = u65
  generalize u 66 = u66
  generalize u 67 = u67
  generalize u 68 = u68
  generalize u 69 = u69
  generalize u 70 = u70
  generalize u 71 = u71
  generalize u 72 = u72
  generalize u 73 = u73
  generalize u 74 = u74
  generalize u 75 = u75
  generalize u 76 = u76
  generalize u 77 = u77
  generalize u 78 = u78
  generalize u 79 = u79
  generalize u 80 = u80
  generalize u 81 = u81
  generalize u 82 = u82
  generalize u 83 = u83
  generalize u 84 = u84
  generalize u 85 = u85
  generalize u 86 = u86
  generalize u 87 = u87
  generalize u 88 = u88
  generalize u 89 = u89
  generalize u 90 = u90
  generalize u 91 = u91
  generalize u 92 = u92
  generalize u 93 = u93
  generalize u 94 = u94
  generalize u 95 = u95
  generalize u 96 = u96
  generalize u 97 = u97
  generalize u 98 = u98
  generalize u 99 = u99
  generalize u 100 = u100
  generalize u 101 = u101
  generalize u 102 = u102
  generalize u 103 = u103
  generalize u 104 = u104
  generalize u 105 = u105
  generalize u 106 = u106
  generalize u 107 = u107
  generalize u 108 = u108
  generalize u 109 = u109
  generalize u 110 = u110
  generalize u 111 = u111
  generalize u 112 = u112
  generalize u 113 = u113
  generalize u 114 = u114
  generalize u 115 = u115
  generalize u 116 = u116
  generalize u 117 = u117
  generalize u 118 = u118
  generalize u 119 = u119
  generalize u 120 = u120
  generalize u 121 = u121
  generalize u 122 = u122
  generalize u 123 = u123
  generalize u 124 = u124
  generalize u 125 = u125
  generalize u 126 = u126
  generalize u 127 = u127
  generalize u 128 = u128
  generalize u 129 = u129
  generalize u 130 = u130
  generalize u 131 = u131
  generalize u 132 = u132
  generalize u 133 = u133
  generalize u 134 = u134
  generalize u 135 = u135
  generalize u 136 = u136
  generalize u 137 = u137
  generalize u 138 = u138
  generalize u 139 = u139
  generalize u 140 = u140
  generalize u 141 = u141
  generalize u 142 = u142
  generalize u 143 = u143
  generalize u 144 = u144
  generalize u 145 = u145
  generalize u 146 = u146
  generalize u 147 = u147
  generalize u 148 = u148
  generalize u 149 = u149
  generalize u 150 = u150
  generalize u 151 = u151
  generalize u 152 = u152
  generalize u 153 = u153
  generalize u 154 = u154
  generalize u 155 = u155
  generalize u 156 = u156
  generalize u 157 = u157
  generalize u 158 = u158
  generalize u 159 = u159
  generalize u 160 = u160
  generalize u 161 = u161
  generalize u 162 = u162
  generalize u 163 = u163
  generalize u 164 = u164
  generalize u 165 = u165
  generalize u 166 = u166
  generalize u 167 = u167
  generalize u 168 = u168
  generalize u 169 = u169
  generalize u 170 = u170
  generalize u 171 = u171
  generalize u 172 = u172
  generalize u 173 = u173
  generalize u 174 = u174
  generalize u 175 = u175
  generalize u 176 = u176
  generalize u 177 = u177
  generalize u 178 = u178
  generalize u 179 = u179
  generalize u 180 = u180
  generalize u 181 = u181
  generalize u 182 = u182
  generalize u 183 = u183
  generalize u 184 = u184
  generalize u 185 = u185
  generalize u 186 = u186
  generalize u 187 = u187
  generalize u 188 = u188
  generalize u 189 = u189
  generalize u 190 = u190
  generalize u 191 = u191
  generalize u 192 = u192
  generalize u 193 = u193
  generalize u 194 = u194
  generalize u 195 = u195
  generalize u 196 = u196
  generalize u 197 = u197
  generalize u 198 = u198
  generalize u 199 = u199
  generalize u 200 = u200
  generalize u 201 = u201
  generalize u 202 = u202
  generalize u 203 = u203
  generalize u 204 = u204
  generalize u 205 = u205
  generalize u 206 = u206
  generalize u 207 = u207
  obtain ⟨iV, PV⟩ := pVal
  obtain ⟨iE, PE⟩ := pEntF w2.heap.size
  go_wp2
  go_loopw [25, 26] (fun v iv wr => ∃ i : Nat, i ≤ n ∧ iv = .int .i64 i ∧ Below w2.heap.size w2 wr ∧ Hid (ownD (kEntF w2.heap.size) wr w2.heap.size v i (padV 1 (T7.take i)))) (fun _ iv _ => n - (intOf iv).toNat)
  case atStart => exact ⟨0, by omega, rfl, bself _, Lib.hid (ownD.nil _ _)⟩
  case round =>
    obtain ⟨i, hi, rfl, hbw, HO⟩ := hrel
    obtain ⟨wx, rfl⟩ : ∃ wx, wx = wr := ⟨_, rfl⟩
    have HBX := Lib.hid hbw
    have k15r := cell_later hbw k15
    have k21r := cell_later hbw k21
    have k23r := cell_later hbw k23
    by_cases hlt : i < n
    · obtain ⟨b1, o1, rfl, hc1⟩ := HTA.out.opn (by omega)
      obtain ⟨x, hx⟩ := get_some (l := T7) (k := i) (by have := HTA.out.len; omega)
      obtain ⟨xA, xN, xC, x1, x2, x3⟩ := hc1 i x hx
      have X3 : Hid (rVal wx xA xN x.1) := Lib.hid (x3.later hbw)
      have HX : Hid (padV 1 (T7.take (i + 1)) = padV 1 (T7.take i) ++ [(x.1 ++ [zV], x.2)]) := Lib.hid (pad_snoc hx)
      have z1 := cell_later hbw x1
      have z2 := cell_later hbw x2
      have hxN : xN = 4 := by have h1 := x3.len; have h2 := HL7.out x (List.mem_of_getElem? hx); omega
      subst hxN
      have HLT : Hid (∀ y, u25.ownBlock = some y → w2.heap.size ≤ y ∧ y < wx.heap.size) := Lib.hid HO.out.lt
      have hi1 : (i : Int) < (n : Int) := by omega
      have hi2 : i < 1000000 := by omega
      have d0 : Below w2.heap.size w2 wx.drew := HBX.out.drew
      have d1 : wx.drew.cell? ⟨b15, o15 + 3, none⟩ = some (.slice (some ⟨b1, o1, none⟩) n c) := k15r
      have d2 : wx.drew.cell? ⟨b1, o1 + i * 2, none⟩ = some (.slice xA 4 xC) := z1
      have d3 : wx.drew.cell? ⟨b1, o1 + i * 2 + 1, none⟩ = some (.int .i64 x.2) := z2
      have HLB : Hid (b15 < w2.heap.size ∧ b1 < w2.heap.size) := Lib.hid ⟨World.block_lt_of_cell? _ _ k15, World.block_lt_of_cell? _ _ x1⟩
      have hs2 := HBX.out.size
      have hne1 : some b15 ≠ u25.ownBlock := fun e => by have h1 := (HLT.out _ e.symm).1; have h2 := HLB.out.1; omega
      have hne2 : some b1 ≠ u25.ownBlock := fun e => by have h1 := (HLT.out _ e.symm).1; have h2 := HLB.out.2; omega
      clear hc1 hx x3 x1 x2 hbw k21r k23r
      go_wp2_with fail
      go_region_held3 (fun w' => Below w2.heap.size w2 w' ∧ w'.cell? ⟨b15, o15 + 3, none⟩ = some (.slice (some ⟨b1, o1, none⟩) n c) ∧ w'.cell? ⟨b1, o1 + i * 2, none⟩ = some (.slice xA 4 xC) ∧ w'.cell? ⟨b1, o1 + i * 2 + 1, none⟩ = some (.int .i64 x.2))
        ((go_split_ands; refine ⟨?_, ?_, ?_, ?_⟩ <;> (with_reducible first | exact d0 | exact d1 | exact d2 | exact d3 | exact HBX.out.drew.drew | exact (HBX.out.alloc HBX.out.size _).drew | (refine Below.alloc ?_ (Below.size (by assumption)) _; assumption) | exact cell_later (ballo _ _) (by assumption) | exact btr HBX.out HB6.out | exact btr HBX.out HB5.out | exact cell_later (below_none hg5) (by assumption) | exact World.grownBy.cell hg6 (by assumption) HN1.out | exact World.grownBy.cell hg6 (by assumption) HN2.out | exact below_push2 (by assumption) hg8 (fun k e => (HLT.out k e).1) | exact World.grownBy.cell hg8 (by assumption) hne1 | exact World.grownBy.cell hg8 (by assumption) hne2)))
        (first
          | (go_split_ands; (refine step_copy_of _ (by rfl) _ _ (by rfl) PV (rD_Val.2 (X3.out.later (by first | exact (bself wx).drew | exact (bself wx).drew.alloc (by simp) _ | exact ((bself wx).alloc (Nat.le_refl _) _).drew))) (by rfl) (by rfl) (by omega) ?_); intro v5 w5 hown5 hg5; have HB5 : Hid (Below wx.heap.size wx w5) := Lib.hid (btr (by first | exact (bself wx).drew | exact (bself wx).drew.alloc (by simp) _ | exact ((bself wx).alloc (Nat.le_refl _) _).drew) (below_none hg5)); have HV5 : Hid (∀ k, v5.ownBlock = some k → wx.heap.size ≤ k) := Lib.hid (fun k e => Nat.le_trans (by first | exact Nat.le_refl _ | (simp; done) | (simp; omega)) (hown5.lt k e).1); have HN1 : Hid (some b15 ≠ v5.ownBlock) := Lib.hid (fun e => by have h1 := HV5.out _ e.symm; have h2 := HLB.out.1; omega); have HN2 : Hid (some b1 ≠ v5.ownBlock) := Lib.hid (fun e => by have h1 := HV5.out _ e.symm; have h2 := HLB.out.2; omega))
          | (go_split_ands; (first | (refine step_push _ (by rfl) _ _ (by rfl) PV (hown5.later (ballo _ _)) ⟨_, 0, none⟩ zV zV (by rfl) (by rfl) (one_block_Val _ _ _ _ _) rfl (fun p hp => by cases hp) (by omega) (Nat.le_trans hg5.size (ballo _ _).size) ?_) | (refine step_push _ (by rfl) _ _ (by rfl) PV hown5 ⟨_, 0, none⟩ zV zV (by rfl) (by rfl) (fun j u h => hg5.cell (one_block_Val _ _ _ _ _ j u h) (by simp)) rfl (fun p hp => by cases hp) (by omega) hg5.size ?_)); intro v6 w6 hown6 hg6 hat6; have HB6 : Hid (Below wx.heap.size wx w6) := Lib.hid (below_push2 (by first | exact HB5.out | exact HB5.out.alloc HB5.out.size _) hg6 (fun k e => HV5.out k e)); obtain ⟨A6, c6, e6, hc6, hrd6, hfr6⟩ := hown6.rd; have HF6 : Hid (∀ a, A6 = some a → wx.heap.size ≤ a.block) := Lib.hid (fun a e => Nat.le_trans (by first | exact Nat.le_refl _ | (simp; done) | (simp; omega)) (hfr6 a e).1); subst e6; have HR6 := Lib.hid (rD_Val.1 hrd6))
          | ((refine step_push _ (by rfl) _ _ (by rfl) PE (HO.out.later (HB6.out.alloc HB6.out.size _)) ⟨_, 0, none⟩ ⟨A6, 4 + 1, c6, x.2⟩ (x.1 ++ [zV], x.2) (by rfl) (by rfl) (one_block_Ent _ _ _ _ _ _) ⟨⟨HR6.out.later (ballo _ _), rfl⟩, fun _ a e => Nat.le_trans hs2 (HF6.out a e)⟩ (far_fresh (n := 4 + 1) (w1 := wx) (fun k e => (HLT.out k e).2) (fun a e => HF6.out a e)) hi2 (Nat.le_trans hs2 (HB6.out.alloc HB6.out.size _).size) ?_); intro v8 w8 hown8 hg8 hat8))
      all_goals
        go_split_ands
        have HBF : Hid (Below w2.heap.size w2 w8) := Lib.hid (by assumption)
        have HOF : Hid (ownD (kEntF w2.heap.size) w8 w2.heap.size v8 (i + 1) (padV 1 (T7.take (i + 1)))) := Lib.hid (by rw [HX.out]; exact hown8)
        clear hown8 hg8 hat8 hown6 hg6 hat6 hown5 hg5 hrd6 hfr6
        go_wp2
        go_roundw
        case rel => exact ⟨i + 1, by omega, by go_num, HBF.out, HOF⟩
        case measure => simp [intOf]; omega
    · obtain rfl : i = n := by omega
      have HTT : T7.take i = T7 := List.take_of_length_le (by have := HTA.out.len; omega)
      obtain ⟨A8, c8, rfl, hcc8, hrd8, hfr8⟩ := HO.out.rd
      rw [HTT] at hrd8
      have HR8 : Hid (rTab wx A8 i (padV 1 T7)) := Lib.hid (rTabF.tab (show rTabF wx w2.heap.size A8 i (padV 1 T7) from ⟨hrd8, fun _ a e => (hfr8 a e).1⟩))
      have HAD := Lib.hid (addE C kk g' A8 i c8 T10 (padV 1 T7) wx (HTC.out.later HBX.out) HR8.out hkg hcc8 HOA.out)
      clear hrd8 hfr8 HTT hbw
      go_wp2_with fail
      refine HAD.out.mono ?_
      rintro e w5 ⟨A9, n9, c9, rfl, hr9, hc9, hb9⟩
      have k21s := cell_later hb9 k21r
      have HT9 : Hid (rTab w5 A9 n9 T9) := Lib.hid (by rw [HLEFT.out]; exact hr9.tab)
      have HB9 := Lib.hid (btr HBX.out hb9)
      have HSM := Lib.hid fun W (hb : Below w5.heap.size w5 W) => sameTE B m d A9 n9 c9 T9 W (HTB.out.later (btr HB9.out hb)) (HT9.out.later hb) (by have := HO9.out.1.1; omega) (fun x hx => by have := (HO9.out.1.2.2 x hx).1; omega)
      clear hr9 hb9
      go_wp2_with fail
      refine (HSM.out w5 (bself w5)).mono ?_
      rintro e w6 ⟨rfl, hb6⟩
      have HB6 := Lib.hid (btr HB9.out hb6)
      have HKN := Lib.hid (knownE (HT2.out.later HB6.out (Nat.le_refl _)))
      clear hb6
      go_wp2_with fail
      refine HKN.out.mono ?_
      rintro e w9 ⟨rfl, hb9⟩
      have HBF := Lib.hid (btr HB2.out (btr HB6.out hb9))
      clear hb9
      go_wp2
      go_ret
      exact ⟨ret_bool rfl, HBF.out⟩
end Go.Proofs.YthcalfeoejdcgaaGreatDoor
