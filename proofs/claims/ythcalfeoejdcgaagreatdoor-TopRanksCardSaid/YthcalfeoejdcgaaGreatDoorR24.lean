/- TopRanks: the walk to Filled, the books, the last loop. -/
import Derived.KernelRfl
import Derived.Test.YthcalfeoejdcgaaGreatDoorR20
import Derived.Test.YthcalfeoejdcgaaGreatDoorR09
import Derived.Test.YthcalfeoejdcgaaGreatDoorR21
import Derived.Test.YthcalfeoejdcgaaGreatDoorR22
import Derived.Test.YthcalfeoejdcgaaGreatDoorR23
namespace Go.Proofs.YthcalfeoejdcgaaGreatDoor
section
open Go.RowKit Go.RowKit Go.BigFrame
set_option linter.unusedSimpArgs false
set_option linter.unusedVariables false

theorem mod3r (n : Int) (h : 0 ≤ n ∧ n ≤ 3) : ∃ c : Nat, c ≤ 2 ∧ n.tmod 3 = c := by
  have : n = 0 ∨ n = 1 ∨ n = 2 ∨ n = 3 := by omega
  rcases this with rfl | rfl | rfl | rfl
  · exact ⟨0, by omega, rfl⟩
  · exact ⟨1, by omega, rfl⟩
  · exact ⟨2, by omega, rfl⟩
  · exact ⟨0, by omega, rfl⟩
theorem wp_abs2r {P : Program} {c0 c1 rest : Code} {Q : Exit → Act → World → Prop} {a : Act} {w : World} (h : ∀ R, R = rest → (Code.seq c0 (.seq c1 R)).wp P Q a w) : (Code.seq c0 (.seq c1 rest)).wp P Q a w := h rest rfl
theorem run8 {c : Nat} (hc : c ≤ 2) : qchk (rpre (R8 c) 157 6 (rest2 Tryz.f8.body) tmF8 sF) (endR (psR c).length) = true :=
  cases3 (P := fun c => qchk (rpre (R8 c) 157 6 (rest2 Tryz.f8.body) tmF8 sF) (endR (psR c).length) = true) hc run8_0 run8_1 run8_2
theorem neq46 (a b : Int) (s : ByteArray) (w : World) :
    (binOp .neq 46 (.agg #[.int .i64 a, .int .i64 b, .string s]) (.agg #[.int .i64 a, .int .i64 b, .string s])).run Tryz.prog w = .ok (.bool false) w := by
  have u3 := Tryz.underlying3
  have u9 := Tryz.underlying9
  have a3 := Tryz.isAgg3
  have a9 := Tryz.isAgg9
  have z3 := Tryz.sizeOf3
  have z9 := Tryz.sizeOf9
  have hS : Tryz.prog.underlying 46 = some (.struct (Tryz.prog.fieldsOf 46)) := by kernel_rfl
  have hp : Tryz.prog.stoodInHeld 46 = false := by kernel_rfl
  rw [run_neq_struct, show (10000 : Nat) = 9999 + 1 from rfl, run_equalIn_agg w 9999 46 _ _ hS hp]
  simp only [Program.fieldsOf, Tryz.underlying46]
  go_simp
theorem tb5_len {c : Nat} {t0 t1 t2 : Tab} : ∀ y ∈ tbR c t0 t1 t2 5, y.1.length = (psR c).length + 1 := fun y hy => by
  obtain ⟨p, hp, rfl⟩ := groupV_mem.1 (show y ∈ groupV (psR c) (aggsV oC itsN) t0 from hy)
  obtain ⟨x, hx, e, _⟩ := (partsV_ok (psR c) t0).key hp
  show (p.1 ++ aggsV oC itsN p.2).length = _
  rw [← e, List.length_append, pkV_len]
  rfl
set_option maxRecDepth 100000 in
theorem act157 (u : Nat → Value) : (⟨⟨(List.range 157).map u⟩, []⟩ : Act) = ⟨⟨[u 0, u 1, u 2, u 3, u 4, u 5, u 6, u 7, u 8, u 9, u 10, u 11, u 12, u 13, u 14, u 15, u 16, u 17, u 18, u 19, u 20, u 21, u 22, u 23, u 24, u 25, u 26, u 27, u 28, u 29, u 30, u 31, u 32, u 33, u 34, u 35, u 36, u 37, u 38, u 39, u 40, u 41, u 42, u 43, u 44, u 45, u 46, u 47, u 48, u 49, u 50, u 51, u 52, u 53, u 54, u 55, u 56, u 57, u 58, u 59, u 60, u 61, u 62, u 63, u 64, u 65, u 66, u 67, u 68, u 69, u 70, u 71, u 72, u 73, u 74, u 75, u 76, u 77, u 78, u 79, u 80, u 81, u 82, u 83, u 84, u 85, u 86, u 87, u 88, u 89, u 90, u 91, u 92, u 93, u 94, u 95, u 96, u 97, u 98, u 99, u 100, u 101, u 102, u 103, u 104, u 105, u 106, u 107, u 108, u 109, u 110, u 111, u 112, u 113, u 114, u 115, u 116, u 117, u 118, u 119, u 120, u 121, u 122, u 123, u 124, u 125, u 126, u 127, u 128, u 129, u 130, u 131, u 132, u 133, u 134, u 135, u 136, u 137, u 138, u 139, u 140, u 141, u 142, u 143, u 144, u 145, u 146, u 147, u 148, u 149, u 150, u 151, u 152, u 153, u 154, u 155, u 156]⟩, []⟩ := rfl
set_option maxRecDepth 100000 in
set_option maxHeartbeats 20000000 in
theorem ranksE (A : Option Addr) (n c : Nat) (l : List Int) (k : Int) (w : World) (h : rInt w A n l) (hc : n ≤ c) (hn : n ≤ 9223372036854775807) (hc2 : c ≤ 9223372036854775807) (ht : Tbs w) :
    Calls Tryz.prog 8 #[.slice A n c, .int .i64 k] w fun e w' => e = .returned (.bool true) ∧ Below w.heap.size w w' := by
  have HF := Lib.hid (filledE A n c l 10 w h hc hn hc2 (by omega))
  have HT := Lib.hid ht
  clear h ht
  go_enter Tryz.func8, Tryz.ntmps8
  refine wp_abs2r fun R hR => ?_
  have HR := Lib.hid hR
  clear hR
  go_wp2_with fail
  refine HF.out.mono ?_
  rintro e w1 ⟨g, bo, bc, rs, rfl, hblk, hfil, hco, hcc, hb, hg1, hg2⟩
  go_wp2_with fail
  obtain ⟨r0, r1, r2, rfl, ⟨A0, n0, c0, t0, rfl, a2, a3, a4⟩, ⟨A1, n1, c1, t1, rfl, b2, b3, b4⟩, ⟨A2, n2, c2, t2, rfl, d2, d3, d4⟩⟩ := hfil
  obtain ⟨cc, hcc2, ec⟩ := mod3r _ (anD3_le k)
  have e30 : (3 : Int) * ((10 : Nat) : Int) = 30 := rfl
  rw [e30] at a4 b4 d4
  obtain ⟨hT, hK⟩ := R8_ok (n := k) hcc2 (t0 := t0) (t1 := t1) (t2 := t2) a4 b4 d4 ec
  obtain ⟨D, ρ, hs, h71, hp71, hD0, hro⟩ := simF (E := ETab (tbR cc t0 t1 t2) (numG k)) (w := w) (HT.out.later hb (Nat.le_refl _)) hblk hco hcc (.inl ⟨by omega, tabAt_of a2 (by omega) a3⟩) (.inl ⟨by omega, tabAt_of b2 (by omega) b3⟩) (.inl ⟨by omega, tabAt_of d2 (by omega) d3⟩)
  have e : R = rest2 Tryz.f8.body := HR.out.trans rfl
  obtain ⟨tm, s, hrun, hend⟩ := qchk_ok (run8 hcc2)
  rw [← e] at hrun
  obtain ⟨m, hm⟩ : ∃ m, m = (psR cc).length := ⟨_, rfl⟩
  have hm12 : m = 1 ∨ m = 2 := by rw [hm]; exact cases3 (P := fun c => (psR c).length = 1 ∨ (psR c).length = 2) hcc2 (.inl rfl) (.inl rfl) (.inr rfl)
  rw [← hm] at hend
  have HTRI : Hid (tbR cc t0 t1 t2 4 = (tbR cc t0 t1 t2 5).map (tri m)) := Lib.hid (by rw [hm]; exact ranks_tri hcc2 a4)
  have HLEN : Hid (∀ y ∈ tbR cc t0 t1 t2 5, y.1.length = m + 1) := Lib.hid (by rw [hm]; exact tb5_len)
  clear e hm
  refine rpre_ok hK 6 hrun (D := D) (ρ := ρ) ⟨hs, ?tr, rfl, rfl⟩ fun D' ρ' a' w2 hst hex => ?_
  case tr => exact trel8 (opq_rv (i := 0) (d := 600) (by omega) hD0 rfl (.inr ⟨by omega, rfl⟩)) rfl (slice_rv (e := 4) (r := 12) h71 hp71 rfl (by decide))
  obtain ⟨A6, c6, b10, o10, b12, o12, A, n, c, B, kk, d, e6, e11, e13, e10, e12, k10, k12, tA, tB, ht2⟩ := endR_ok (by omega) hend hst
  have HB2 : Hid (Below w.heap.size w w2) := Lib.hid (btr hb (below_ex hro rfl hex))
  have HT2 := Lib.hid ht2
  have HTA := Lib.hid tA
  have HTB := Lib.hid tB
  have hnk : kk = n := by have h1 := tA.len; have h2 := tB.len; rw [HTRI.out, List.length_map] at h1; omega
  subst hnk
  have hkk : kk ≤ 4096 := by have h1 := tB.len; have := (tbR_ok hcc2 a4 b4 d4 5).1.1; omega
  obtain ⟨u, hu⟩ : ∃ u : Nat → Value, u = fun t => a'.tmps.getD t undef := ⟨_, rfl⟩
  have ha := act_lit hst
  rw [← hu] at ha
  have e6 : u 6 = .slice A6 m c6 := by rw [hu]; exact e6
  have e10 : u 10 = .pointer (some ⟨b10, o10, none⟩) := by rw [hu]; exact e10
  have e11 : u 11 = .bool true := by rw [hu]; exact e11
  have e12 : u 12 = .pointer (some ⟨b12, o12, none⟩) := by rw [hu]; exact e12
  have e13 : u 13 = .bool true := by rw [hu]; exact e13
  rw [ha, HR.out, act157]
  clear ha hu hst hex hrun hend hT hK hs h71 hp71 hD0 hro tA tB ht2 hb hg1 hg2 hblk hco hcc a2 a3 a4 b2 b3 b4 d2 d3 d4 HR HF ec hcc2
  dsimp only [cdrop]
  rw [e6, e10, e11, e12, e13]
  clear e6 e10 e11 e12 e13
  generalize u 0 = u0
  generalize u 1 = u1
  generalize u 2 = u2
  generalize u 3 = u3
  generalize u 4 = u4
  generalize u 5 = u5
  generalize u 7 = u7
  generalize u 8 = u8
  generalize u 9 = u9
  generalize u 14 = u14
  generalize u 15 = u15
  generalize u 16 = u16
  generalize u 17 = u17
  generalize u 18 = u18
  generalize u 19 = u19
  generalize u 20 = u20
  generalize u 21 = u21
  generalize u 22 = u22
  generalize u 23 = u23
  generalize u 24 = u24
  generalize u 25 = u25
  generalize u 26 = u26
  generalize u 27 = u27
  generalize u 28 = u28
  generalize u 29 = u29
  generalize u 30 = u30
  generalize u 31 = u31
  generalize u 32 = u32
  generalize u 33 = u33
  generalize u 34 = u34
  generalize u 35 = u35
  generalize u 36 = u36
  generalize u 37 = u37
  generalize u 38 = u38
  generalize u 39 = u39
  generalize u 40 = u40
  generalize u 41 = u41
  generalize u 42 = u42
  generalize u 43 = u43
  generalize u 44 = u44
  generalize u 45 = u45
  generalize u 46 = u46
  generalize u 47 = u47
  generalize u 48 = u48
  generalize u 49 = u49
  generalize u 50 = u50
  generalize u 51 = u51
  generalize u 52 = u52
  generalize u 53 = u53
  generalize u 54 = u54
  generalize u 55 = u55
  generalize u 56 = u56
  generalize u 57 = u57
  generalize u 58 = u58
  generalize u 59 = u59
  generalize u 60 = u60
  generalize u 61 = u61
  generalize u 62 = u62
  generalize u 63 = u63
  generalize u 64 = u64
  generalize u 65 = u65
  generalize u 66 = u66
  generalize u 67 = u67
  generalize u 68 = u68
  generalize u 69 = u69
  generalize u 70 = u70
  generalize u 71 = u71
  generalize u 72 = u72
  generalize u 73 = u73
  generalize u 74 = u74
  generalize u 75 = u75
  generalize u 76 = u76
  generalize u 77 = u77
  generalize u 78 = u78
  generalize u 79 = u79
  generalize u 80 = u80
  generalize u 81 = u81
  generalize u 82 = u82
  generalize u 83 = u83
  generalize u 84 = u84
  generalize u 85 = u85
  generalize u 86 = u86
  generalize u 87 = u87
  generalize u 88 = u88
  generalize u 89 = u89
  generalize u 90 = u90
  generalize u 91 = u91
  generalize u 92 = u92
  generalize u 93 = u93
  generalize u 94 = u94
  generalize u 95 = u95
  generalize u 96 = u96
  generalize u 97 = u97
  generalize u 98 = u98
  generalize u 99 = u99
  generalize u 100 = u100
  generalize u 101 = u101
  generalize u 102 = u102
  generalize u 103 = u103
  generalize u 104 = u104
  generalize u 105 = u105
  generalize u 106 = u106
  generalize u 107 = u107
  generalize u 108 = u108
  generalize u 109 = u109
  generalize u 110 = u110
  generalize u 111 = u111
  generalize u 112 = u112
  generalize u 113 = u113
  generalize u 114 = u114
  generalize u 115 = u115
  generalize u 116 = u116
  generalize u 117 = u117
  generalize u 118 = u118
  generalize u 119 = u119
  generalize u 120 = u120
  generalize u 121 = u121
  generalize u 122 = u122
  generalize u 123 = u123
  generalize u 124 = u124
  generalize u 125 = u125
  generalize u 126 = u126
  generalize u 127 = u127
  generalize u 128 = u128
  generalize u 129 = u129
  generalize u 130 = u130
  generalize u 131 = u131
  generalize u 132 = u132
  generalize u 133 = u133
  generalize u 134 = u134
  generalize u 135 = u135
  generalize u 136 = u136
  generalize u 137 = u137
  generalize u 138 = u138
  generalize u 139 = u139
  generalize u 140 = u140
  generalize u 141 = u141
  generalize u 142 = u142
  generalize u 143 = u143
  generalize u 144 = u144
  generalize u 145 = u145
  generalize u 146 = u146
  generalize u 147 = u147
  generalize u 148 = u148
  generalize u 149 = u149
  generalize u 150 = u150
  generalize u 151 = u151
  generalize u 152 = u152
  generalize u 153 = u153
  generalize u 154 = u154
  generalize u 155 = u155
  generalize u 156 = u156
  have qn := neq46
  rcases hm12 with rfl | rfl
  · go_wp2
    go_loopw [14] (fun iv wr => ∃ i : Nat, i ≤ kk ∧ iv = .int .i64 i ∧ Below w2.heap.size w2 wr) (fun iv _ => kk - (intOf iv).toNat)
    case atStart => exact ⟨0, by omega, rfl, bself _⟩
    case round =>
      obtain ⟨i, hi, rfl, hbw⟩ := hrel
      have HBW := Lib.hid hbw
      have k10r := cell_later hbw k10
      have k12r := cell_later hbw k12
      by_cases hlt : i < kk
      · obtain ⟨b1, o1, rfl, hc1⟩ := HTA.out.opn (by omega)
        obtain ⟨b2, o2, rfl, hc2⟩ := HTB.out.opn (by omega)
        obtain ⟨y, hy⟩ := get_some (l := tbR cc t0 t1 t2 5) (k := i) (by have := HTB.out.len; omega)
        have hx : (tbR cc t0 t1 t2 4)[i]? = some (tri 1 y) := by rw [HTRI.out, List.getElem?_map, hy]; rfl
        obtain ⟨xA, xN, xC, x1, x2, x3⟩ := hc1 i _ hx
        obtain ⟨yA, yN, yC, y1, y2, y3⟩ := hc2 i _ hy
        have hyl : y.1.length = 1 + 1 := HLEN.out y (List.mem_of_getElem? hy)
        obtain ⟨v0, v1, hey⟩ : ∃ v0 v1, y.1 = [v0, v1] := by
          obtain ⟨yl, yn⟩ := y
          match yl, hyl with
          | [v0, v1], _ => exact ⟨v0, v1, rfl⟩
        have hex : (tri 1 y).1 = [v0, v1, v1, v1] := by unfold tri; rw [hey]; rfl
        have hxN : xN = 1 + 3 := by have := x3.len; rw [hex] at this; exact this.symm
        have hyN : yN = 1 + 1 := by have := y3.len; rw [hey] at this; exact this.symm
        subst hxN
        subst hyN
        obtain ⟨bx, ox, rfl, hcx⟩ := x3.opn (by omega)
        obtain ⟨by', oy, rfl, hcy⟩ := y3.opn (by omega)
        have z10 := Gro.cell k10r
        have z12 := Gro.cell k12r
        have zx := Gro.cell (cell_later hbw x1)
        have zy := Gro.cell (cell_later hbw y1)
        have hi1 : (i : Int) < (kk : Int) := by omega
        have HX0 : Hid (w2.cell? ⟨bx, ox, none⟩ = some (.int .i64 v0.k) ∧ w2.cell? ⟨bx, ox + 1, none⟩ = some (.int .i64 v0.m) ∧ w2.cell? ⟨bx, ox + 2, none⟩ = some (.string v0.s)) := Lib.hid (by have h := hcx 0 v0 (by rw [hex]; rfl); simpa using h)
        have HX1 : Hid (w2.cell? ⟨bx, ox + 3, none⟩ = some (.int .i64 v1.k) ∧ w2.cell? ⟨bx, ox + 4, none⟩ = some (.int .i64 v1.m) ∧ w2.cell? ⟨bx, ox + 5, none⟩ = some (.string v1.s)) := Lib.hid (by have h := hcx 1 v1 (by rw [hex]; rfl); simpa using h)
        have HX2 : Hid (w2.cell? ⟨bx, ox + 6, none⟩ = some (.int .i64 v1.k) ∧ w2.cell? ⟨bx, ox + 7, none⟩ = some (.int .i64 v1.m) ∧ w2.cell? ⟨bx, ox + 8, none⟩ = some (.string v1.s)) := Lib.hid (by have h := hcx 2 v1 (by rw [hex]; rfl); simpa using h)
        have HX3 : Hid (w2.cell? ⟨bx, ox + 9, none⟩ = some (.int .i64 v1.k) ∧ w2.cell? ⟨bx, ox + 10, none⟩ = some (.int .i64 v1.m) ∧ w2.cell? ⟨bx, ox + 11, none⟩ = some (.string v1.s)) := Lib.hid (by have h := hcx 3 v1 (by rw [hex]; rfl); simpa using h)
        have HY0 : Hid (w2.cell? ⟨by', oy, none⟩ = some (.int .i64 v0.k) ∧ w2.cell? ⟨by', oy + 1, none⟩ = some (.int .i64 v0.m) ∧ w2.cell? ⟨by', oy + 2, none⟩ = some (.string v0.s)) := Lib.hid (by have h := hcy 0 v0 (by rw [hey]; rfl); simpa using h)
        have HY1 : Hid (w2.cell? ⟨by', oy + 3, none⟩ = some (.int .i64 v1.k) ∧ w2.cell? ⟨by', oy + 4, none⟩ = some (.int .i64 v1.m) ∧ w2.cell? ⟨by', oy + 5, none⟩ = some (.string v1.s)) := Lib.hid (by have h := hcy 1 v1 (by rw [hey]; rfl); simpa using h)
        clear x1 x2 y1 y2 hc1 hc2 hx hy hcx hcy hex hey hyl x3 y3
        go_wp2_with fail
        refine wp_region_quiet_gro (by kernel_rfl) (by kernel_rfl) ?_; (repeat (go_big_quiet_step (fail))); refine wpQuiet_nil ?_; intro _ hw'; obtain ⟨pq, hw''⟩ := hw'; subst hw''; have hbq := pq.below; revert hbq; generalize pq.world = wq; intro hbq
        have HBQ := Lib.hid (btr HBW.out hbq)
        clear z10 z12 zx zy hbq k10r k12r hbw
        obtain ⟨ws, rfl⟩ : ∃ ws, ws = wq := ⟨_, rfl⟩
        go_wp2
        go_loopw [18] (fun jv wy => ∃ j : Nat, j ≤ 1 ∧ jv = .int .i64 j ∧ Below w2.heap.size w2 wy) (fun jv _ => 1 - (intOf jv).toNat)
        case atStart => exact ⟨0, by omega, rfl, HBQ.out⟩
        case round =>
          obtain ⟨j, hj, rfl, hby⟩ := hrel
          have HBY := Lib.hid hby
          by_cases hjl : j < 1
          · obtain rfl : j = 0 := by omega
            have gx0a := Gro.cell (cell_later hby HX0.out.1)
            have gx0b := Gro.cell (cell_later hby HX0.out.2.1)
            have gx0c := Gro.cell (cell_later hby HX0.out.2.2)
            have gy0a := Gro.cell (cell_later hby HY0.out.1)
            have gy0b := Gro.cell (cell_later hby HY0.out.2.1)
            have gy0c := Gro.cell (cell_later hby HY0.out.2.2)
            clear hby
            go_wp2_with fail
            refine wp_region_quiet_gro (by kernel_rfl) (by kernel_rfl) ?_; (repeat (go_big_quiet_step (fail))); refine wpQuiet_nil ?_; intro _ hw'; obtain ⟨pq, hw''⟩ := hw'; subst hw''; have hbq := pq.below; revert hbq; generalize pq.world = wq; intro hbq
            have HBF := Lib.hid (btr HBY.out hbq)
            clear gx0a gx0b gx0c gy0a gy0b gy0c hbq
            go_wp2
            go_roundw
            case rel => exact ⟨1, by omega, by go_num, HBF.out⟩
            case measure => simp [intOf]
          · obtain rfl : j = 1 := by omega
            have gx1a := Gro.cell (cell_later hby HX1.out.1)
            have gx1b := Gro.cell (cell_later hby HX1.out.2.1)
            have gx1c := Gro.cell (cell_later hby HX1.out.2.2)
            have gx1d := Gro.cell (cell_later hby (show w2.cell? ⟨bx, ox + 3 + 1, none⟩ = _ from HX1.out.2.1))
            have gx1e := Gro.cell (cell_later hby (show w2.cell? ⟨bx, ox + 3 + 2, none⟩ = _ from HX1.out.2.2))
            have gx2a := Gro.cell (cell_later hby HX2.out.1)
            have gx2b := Gro.cell (cell_later hby HX2.out.2.1)
            have gx2c := Gro.cell (cell_later hby HX2.out.2.2)
            have gx2d := Gro.cell (cell_later hby (show w2.cell? ⟨bx, ox + 6 + 1, none⟩ = _ from HX2.out.2.1))
            have gx2e := Gro.cell (cell_later hby (show w2.cell? ⟨bx, ox + 6 + 2, none⟩ = _ from HX2.out.2.2))
            have gx3a := Gro.cell (cell_later hby HX3.out.1)
            have gx3b := Gro.cell (cell_later hby HX3.out.2.1)
            have gx3c := Gro.cell (cell_later hby HX3.out.2.2)
            have gx3d := Gro.cell (cell_later hby (show w2.cell? ⟨bx, ox + 9 + 1, none⟩ = _ from HX3.out.2.1))
            have gx3e := Gro.cell (cell_later hby (show w2.cell? ⟨bx, ox + 9 + 2, none⟩ = _ from HX3.out.2.2))
            have gy1a := Gro.cell (cell_later hby HY1.out.1)
            have gy1b := Gro.cell (cell_later hby HY1.out.2.1)
            have gy1c := Gro.cell (cell_later hby HY1.out.2.2)
            have gy1d := Gro.cell (cell_later hby (show w2.cell? ⟨by', oy + 3 + 1, none⟩ = _ from HY1.out.2.1))
            have gy1e := Gro.cell (cell_later hby (show w2.cell? ⟨by', oy + 3 + 2, none⟩ = _ from HY1.out.2.2))
            clear hby
            go_wp2_with fail
            refine wp_region_quiet_gro (by kernel_rfl) (by kernel_rfl) ?_; (repeat (go_big_quiet_step (fail))); refine wpQuiet_nil ?_; intro _ hw'; obtain ⟨pq, hw''⟩ := hw'; subst hw''; have hbq := pq.below; revert hbq; generalize pq.world = wq; intro hbq
            have HBF := Lib.hid (btr HBY.out hbq)
            clear gx1a gx1b gx1c gx1d gx1e gx2a gx2b gx2c gx2d gx2e gx3a gx3b gx3c gx3d gx3e gy1a gy1b gy1c gy1d gy1e hbq
            go_wp2
            go_roundw
            case rel => exact ⟨i + 1, by omega, by go_num, HBF.out⟩
            case measure => simp [intOf]; omega
      · obtain rfl : i = kk := by omega
        have HKN := Lib.hid (knownE (HT2.out.later hbw (Nat.le_refl _)))
        go_wp2_with fail
        refine HKN.out.mono ?_
        rintro e w9 ⟨rfl, hb9⟩
        have HBF := Lib.hid (btr HB2.out (btr hbw hb9))
        clear hb9
        go_wp2
        go_ret
        exact ⟨ret_bool rfl, HBF.out⟩
  · go_wp2
    go_loopw [14] (fun iv wr => ∃ i : Nat, i ≤ kk ∧ iv = .int .i64 i ∧ Below w2.heap.size w2 wr) (fun iv _ => kk - (intOf iv).toNat)
    case atStart => exact ⟨0, by omega, rfl, bself _⟩
    case round =>
      obtain ⟨i, hi, rfl, hbw⟩ := hrel
      have HBW := Lib.hid hbw
      have k10r := cell_later hbw k10
      have k12r := cell_later hbw k12
      by_cases hlt : i < kk
      · obtain ⟨b1, o1, rfl, hc1⟩ := HTA.out.opn (by omega)
        obtain ⟨b2, o2, rfl, hc2⟩ := HTB.out.opn (by omega)
        obtain ⟨y, hy⟩ := get_some (l := tbR cc t0 t1 t2 5) (k := i) (by have := HTB.out.len; omega)
        have hx : (tbR cc t0 t1 t2 4)[i]? = some (tri 2 y) := by rw [HTRI.out, List.getElem?_map, hy]; rfl
        obtain ⟨xA, xN, xC, x1, x2, x3⟩ := hc1 i _ hx
        obtain ⟨yA, yN, yC, y1, y2, y3⟩ := hc2 i _ hy
        have hyl : y.1.length = 2 + 1 := HLEN.out y (List.mem_of_getElem? hy)
        obtain ⟨v0, v1, v2, hey⟩ : ∃ v0 v1 v2, y.1 = [v0, v1, v2] := by
          obtain ⟨yl, yn⟩ := y
          match yl, hyl with
          | [v0, v1, v2], _ => exact ⟨v0, v1, v2, rfl⟩
        have hex : (tri 2 y).1 = [v0, v1, v2, v2, v2] := by unfold tri; rw [hey]; rfl
        have hxN : xN = 2 + 3 := by have := x3.len; rw [hex] at this; exact this.symm
        have hyN : yN = 2 + 1 := by have := y3.len; rw [hey] at this; exact this.symm
        subst hxN
        subst hyN
        obtain ⟨bx, ox, rfl, hcx⟩ := x3.opn (by omega)
        obtain ⟨by', oy, rfl, hcy⟩ := y3.opn (by omega)
        have z10 := Gro.cell k10r
        have z12 := Gro.cell k12r
        have zx := Gro.cell (cell_later hbw x1)
        have zy := Gro.cell (cell_later hbw y1)
        have hi1 : (i : Int) < (kk : Int) := by omega
        have HX0 : Hid (w2.cell? ⟨bx, ox, none⟩ = some (.int .i64 v0.k) ∧ w2.cell? ⟨bx, ox + 1, none⟩ = some (.int .i64 v0.m) ∧ w2.cell? ⟨bx, ox + 2, none⟩ = some (.string v0.s)) := Lib.hid (by have h := hcx 0 v0 (by rw [hex]; rfl); simpa using h)
        have HX1 : Hid (w2.cell? ⟨bx, ox + 3, none⟩ = some (.int .i64 v1.k) ∧ w2.cell? ⟨bx, ox + 4, none⟩ = some (.int .i64 v1.m) ∧ w2.cell? ⟨bx, ox + 5, none⟩ = some (.string v1.s)) := Lib.hid (by have h := hcx 1 v1 (by rw [hex]; rfl); simpa using h)
        have HX2 : Hid (w2.cell? ⟨bx, ox + 6, none⟩ = some (.int .i64 v2.k) ∧ w2.cell? ⟨bx, ox + 7, none⟩ = some (.int .i64 v2.m) ∧ w2.cell? ⟨bx, ox + 8, none⟩ = some (.string v2.s)) := Lib.hid (by have h := hcx 2 v2 (by rw [hex]; rfl); simpa using h)
        have HX3 : Hid (w2.cell? ⟨bx, ox + 9, none⟩ = some (.int .i64 v2.k) ∧ w2.cell? ⟨bx, ox + 10, none⟩ = some (.int .i64 v2.m) ∧ w2.cell? ⟨bx, ox + 11, none⟩ = some (.string v2.s)) := Lib.hid (by have h := hcx 3 v2 (by rw [hex]; rfl); simpa using h)
        have HX4 : Hid (w2.cell? ⟨bx, ox + 12, none⟩ = some (.int .i64 v2.k) ∧ w2.cell? ⟨bx, ox + 13, none⟩ = some (.int .i64 v2.m) ∧ w2.cell? ⟨bx, ox + 14, none⟩ = some (.string v2.s)) := Lib.hid (by have h := hcx 4 v2 (by rw [hex]; rfl); simpa using h)
        have HY0 : Hid (w2.cell? ⟨by', oy, none⟩ = some (.int .i64 v0.k) ∧ w2.cell? ⟨by', oy + 1, none⟩ = some (.int .i64 v0.m) ∧ w2.cell? ⟨by', oy + 2, none⟩ = some (.string v0.s)) := Lib.hid (by have h := hcy 0 v0 (by rw [hey]; rfl); simpa using h)
        have HY1 : Hid (w2.cell? ⟨by', oy + 3, none⟩ = some (.int .i64 v1.k) ∧ w2.cell? ⟨by', oy + 4, none⟩ = some (.int .i64 v1.m) ∧ w2.cell? ⟨by', oy + 5, none⟩ = some (.string v1.s)) := Lib.hid (by have h := hcy 1 v1 (by rw [hey]; rfl); simpa using h)
        have HY2 : Hid (w2.cell? ⟨by', oy + 6, none⟩ = some (.int .i64 v2.k) ∧ w2.cell? ⟨by', oy + 7, none⟩ = some (.int .i64 v2.m) ∧ w2.cell? ⟨by', oy + 8, none⟩ = some (.string v2.s)) := Lib.hid (by have h := hcy 2 v2 (by rw [hey]; rfl); simpa using h)
        clear x1 x2 y1 y2 hc1 hc2 hx hy hcx hcy hex hey hyl x3 y3
        go_wp2_with fail
        refine wp_region_quiet_gro (by kernel_rfl) (by kernel_rfl) ?_; (repeat (go_big_quiet_step (fail))); refine wpQuiet_nil ?_; intro _ hw'; obtain ⟨pq, hw''⟩ := hw'; subst hw''; have hbq := pq.below; revert hbq; generalize pq.world = wq; intro hbq
        have HBQ := Lib.hid (btr HBW.out hbq)
        clear z10 z12 zx zy hbq k10r k12r hbw
        obtain ⟨ws, rfl⟩ : ∃ ws, ws = wq := ⟨_, rfl⟩
        go_wp2
        go_loopw [18] (fun jv wy => ∃ j : Nat, j ≤ 2 ∧ jv = .int .i64 j ∧ Below w2.heap.size w2 wy) (fun jv _ => 2 - (intOf jv).toNat)
        case atStart => exact ⟨0, by omega, rfl, HBQ.out⟩
        case round =>
          obtain ⟨j, hj, rfl, hby⟩ := hrel
          have HBY := Lib.hid hby
          by_cases hjl : j < 2
          · rcases (show j = 0 ∨ j = 1 by omega) with rfl | rfl
            · have gx0a := Gro.cell (cell_later hby HX0.out.1)
              have gx0b := Gro.cell (cell_later hby HX0.out.2.1)
              have gx0c := Gro.cell (cell_later hby HX0.out.2.2)
              have gy0a := Gro.cell (cell_later hby HY0.out.1)
              have gy0b := Gro.cell (cell_later hby HY0.out.2.1)
              have gy0c := Gro.cell (cell_later hby HY0.out.2.2)
              clear hby
              go_wp2_with fail
              refine wp_region_quiet_gro (by kernel_rfl) (by kernel_rfl) ?_; (repeat (go_big_quiet_step (fail))); refine wpQuiet_nil ?_; intro _ hw'; obtain ⟨pq, hw''⟩ := hw'; subst hw''; have hbq := pq.below; revert hbq; generalize pq.world = wq; intro hbq
              have HBF := Lib.hid (btr HBY.out hbq)
              clear gx0a gx0b gx0c gy0a gy0b gy0c hbq
              go_wp2
              go_roundw
              case rel => exact ⟨1, by omega, by go_num, HBF.out⟩
              case measure => simp [intOf]
            · have gx1a := Gro.cell (cell_later hby HX1.out.1)
              have gx1b := Gro.cell (cell_later hby HX1.out.2.1)
              have gx1c := Gro.cell (cell_later hby HX1.out.2.2)
              have gx1d := Gro.cell (cell_later hby (show w2.cell? ⟨bx, ox + 3 + 1, none⟩ = _ from HX1.out.2.1))
              have gx1e := Gro.cell (cell_later hby (show w2.cell? ⟨bx, ox + 3 + 2, none⟩ = _ from HX1.out.2.2))
              have gy1a := Gro.cell (cell_later hby HY1.out.1)
              have gy1b := Gro.cell (cell_later hby HY1.out.2.1)
              have gy1c := Gro.cell (cell_later hby HY1.out.2.2)
              have gy1d := Gro.cell (cell_later hby (show w2.cell? ⟨by', oy + 3 + 1, none⟩ = _ from HY1.out.2.1))
              have gy1e := Gro.cell (cell_later hby (show w2.cell? ⟨by', oy + 3 + 2, none⟩ = _ from HY1.out.2.2))
              clear hby
              go_wp2_with fail
              refine wp_region_quiet_gro (by kernel_rfl) (by kernel_rfl) ?_; (repeat (go_big_quiet_step (fail))); refine wpQuiet_nil ?_; intro _ hw'; obtain ⟨pq, hw''⟩ := hw'; subst hw''; have hbq := pq.below; revert hbq; generalize pq.world = wq; intro hbq
              have HBF := Lib.hid (btr HBY.out hbq)
              clear gx1a gx1b gx1c gx1d gx1e gy1a gy1b gy1c gy1d gy1e hbq
              go_wp2
              go_roundw
              case rel => exact ⟨2, by omega, by go_num, HBF.out⟩
              case measure => simp [intOf]
          · obtain rfl : j = 2 := by omega
            have gx2a := Gro.cell (cell_later hby HX2.out.1)
            have gx2b := Gro.cell (cell_later hby HX2.out.2.1)
            have gx2c := Gro.cell (cell_later hby HX2.out.2.2)
            have gx2d := Gro.cell (cell_later hby (show w2.cell? ⟨bx, ox + 6 + 1, none⟩ = _ from HX2.out.2.1))
            have gx2e := Gro.cell (cell_later hby (show w2.cell? ⟨bx, ox + 6 + 2, none⟩ = _ from HX2.out.2.2))
            have gx3a := Gro.cell (cell_later hby HX3.out.1)
            have gx3b := Gro.cell (cell_later hby HX3.out.2.1)
            have gx3c := Gro.cell (cell_later hby HX3.out.2.2)
            have gx3d := Gro.cell (cell_later hby (show w2.cell? ⟨bx, ox + 9 + 1, none⟩ = _ from HX3.out.2.1))
            have gx3e := Gro.cell (cell_later hby (show w2.cell? ⟨bx, ox + 9 + 2, none⟩ = _ from HX3.out.2.2))
            have gx4a := Gro.cell (cell_later hby HX4.out.1)
            have gx4b := Gro.cell (cell_later hby HX4.out.2.1)
            have gx4c := Gro.cell (cell_later hby HX4.out.2.2)
            have gx4d := Gro.cell (cell_later hby (show w2.cell? ⟨bx, ox + 12 + 1, none⟩ = _ from HX4.out.2.1))
            have gx4e := Gro.cell (cell_later hby (show w2.cell? ⟨bx, ox + 12 + 2, none⟩ = _ from HX4.out.2.2))
            have gy2a := Gro.cell (cell_later hby HY2.out.1)
            have gy2b := Gro.cell (cell_later hby HY2.out.2.1)
            have gy2c := Gro.cell (cell_later hby HY2.out.2.2)
            have gy2d := Gro.cell (cell_later hby (show w2.cell? ⟨by', oy + 6 + 1, none⟩ = _ from HY2.out.2.1))
            have gy2e := Gro.cell (cell_later hby (show w2.cell? ⟨by', oy + 6 + 2, none⟩ = _ from HY2.out.2.2))
            clear hby
            go_wp2_with fail
            refine wp_region_quiet_gro (by kernel_rfl) (by kernel_rfl) ?_; (repeat (go_big_quiet_step (fail))); refine wpQuiet_nil ?_; intro _ hw'; obtain ⟨pq, hw''⟩ := hw'; subst hw''; have hbq := pq.below; revert hbq; generalize pq.world = wq; intro hbq
            have HBF := Lib.hid (btr HBY.out hbq)
            clear gx2a gx2b gx2c gx2d gx2e gx3a gx3b gx3c gx3d gx3e gx4a gx4b gx4c gx4d gx4e gy2a gy2b gy2c gy2d gy2e hbq
            go_wp2
            go_roundw
            case rel => exact ⟨i + 1, by omega, by go_num, HBF.out⟩
            case measure => simp [intOf]; omega
      · obtain rfl : i = kk := by omega
        have HKN := Lib.hid (knownE (HT2.out.later hbw (Nat.le_refl _)))
        go_wp2_with fail
        refine HKN.out.mono ?_
        rintro e w9 ⟨rfl, hb9⟩
        have HBF := Lib.hid (btr HB2.out (btr hbw hb9))
        clear hb9
        go_wp2
        go_ret
        exact ⟨ret_bool rfl, HBF.out⟩
end
end Go.Proofs.YthcalfeoejdcgaaGreatDoor
