import Derived.Test.YthcalfeoejdcgaaGreatDoorH37
import Derived.Test.YthcalfeoejdcgaaGreatDoorH38
import Derived.Test.YthcalfeoejdcgaaGreatDoorH39
import Derived.Test.YthcalfeoejdcgaaGreatDoorH40
import Derived.KernelRfl
namespace Go.Proofs.YthcalfeoejdcgaaGreatDoor
set_option linter.unusedSimpArgs false
set_option linter.unusedVariables false
open Go.RowKit Go.RowKit Go.BigFrame
theorem wp_abs6u {P : Program} {c0 c1 c2 c3 c4 c5 rest : Code} {Q : Exit → Act → World → Prop} {a : Act} {w : World} (h : ∀ R, R = rest → (Code.seq c0 (.seq c1 (.seq c2 (.seq c3 (.seq c4 (.seq c5 R)))))).wp P Q a w) : (Code.seq c0 (.seq c1 (.seq c2 (.seq c3 (.seq c4 (.seq c5 rest)))))).wp P Q a w := h rest rfl
theorem d0small : dL0.small = true := by kernel_rfl
theorem run3 (nl : Bool) : endsT (T3 nl) Tryz.f3.results.toList ((R3 nl).code 102 (rest6 Tryz.f3.body) dL0.tm sDr) = true := by
  cases nl
  · exact run3_0
  · exact run3_1
theorem dtm0 {E : Ev} {D : Nat → Prop} {ρ : Nat → Pl} {a : Act} (h1 : Rv E D ρ (.chan (some 600)) (a.tmps.getD 2 undef)) (h4 : a.tmps.getD 6 undef = .bool false) (h5 : Rv E D ρ (.slice (some ⟨71,0,none⟩) 3 3) (a.tmps.getD 7 undef)) (h8 : Rv E D ρ (.chan (some (72 * 1024 + 500))) (a.tmps.getD 8 undef)) (h9 : Rv E D ρ (.chan (some (73 * 1024 + 501))) (a.tmps.getD 9 undef)) : ∀ p ∈ dL0.tms, Rv E D ρ p.2 (a.tmps.getD p.1 undef) := fun p hp => by
  simp only [dL0, List.mem_cons, List.not_mem_nil, or_false] at hp
  rcases hp with rfl | rfl | rfl | rfl | rfl
  · exact h1
  · show Rv E D ρ (.bool false) (a.tmps.getD 6 undef)
    rw [h4]; exact .flat _ rfl
  · exact h5
  · exact h8
  · exact h9
set_option maxRecDepth 100000 in
set_option maxHeartbeats 4000000 in
theorem derivesE (A : Option Addr) (n c : Nat) (l : List Int) (B : Option Addr) (m d : Nat) (l2 : List Int) (k : Int) (w : World) (h : rInt w A n l) (hc : n ≤ c) (hn : n ≤ 9223372036854775807) (hc2 : c ≤ 9223372036854775807) (h2 : rInt w B m l2) (hm : m ≤ 9223372036854775807) (ht : Tbs w) :
    Calls Tryz.prog 3 #[.slice A n c, .slice B m d, .int .i64 k] w fun e w' => e = .returned (.bool true) ∧ Below w.heap.size w w' := by
  have HF := Lib.hid (filledE A n c l 8 w h hc hn hc2 (by omega))
  have HT := Lib.hid ht
  have H2 := Lib.hid h2
  clear h ht h2
  go_enter Tryz.func3, Tryz.ntmps3
  refine wp_abs6u fun R hR => ?_
  have HR := Lib.hid hR
  clear hR
  go_wp2_with fail
  refine HF.out.mono ?_
  rintro e w1 ⟨g, bo, bc, rs, rfl, hblk, hfil, hco, hcc, hb, hg1, hg2⟩
  obtain ⟨r0, r1, r2, rfl, ⟨A0, n0, c0, t0, rfl, a2, a3, a4⟩, ⟨A1, n1, c1, t1, rfl, b2, b3', b4⟩, ⟨A2, n2, c2, t2, rfl, d2, d3, d4⟩⟩ := hfil
  have e24 : (3 : Int) * ((8 : Nat) : Int) = 24 := rfl
  rw [e24] at a4 b4 d4
  have TJ := tj_of a4 b4 d4
  have hg1b : w1.cell? ⟨g, 1, none⟩ = some (.slice (some ⟨bo, 0, none⟩) 4 4) := by
    unfold World.cell?
    rw [show w1.heap[g]? = _ from hblk]
    rfl
  have HE := Lib.hid fun (W : World) (hW : Below w1.heap.size w1 W) (q : Int) (h0 : 0 ≤ q) (h1 : q ≤ 35) => expr10 (cs := oC) (some ⟨bo, 0, none⟩) B 4 4 m d l2 hm zc7 known_oC (List.mem_cons_self ..) (by decide) (by decide) (by decide) 2 (by omega) 2 q W (H2.out.later (btr hb hW)) (hco.later hW) h0 (by omega) (by omega) (by omega)
  have h15 := and15 k
  have h15b := and15 (k / 16)
  go_wp2_with fail
  refine (HE.out _ (za0 _) _ (by omega) (by omega)).mono ?_
  rintro e w2 ⟨v2, m2, p, rfl, hown, hk, hb2⟩
  obtain ⟨A5, c5, rfl, hcc5, hrd5, hfr5⟩ := hown.rd
  have HK := Lib.hid (show okE oC 2 13 p from hk)
  have HN5 : Hid (rNod w2 A5 m2 p) := Lib.hid (rD_Nod.1 hrd5)
  have HF5 : Hid (∀ a, A5 = some a → w1.heap.size ≤ a.block) := Lib.hid fun a e => (hfr5 a e).1
  have HB2 := Lib.hid hb2
  have q1 := cell_later hb2 hg1b
  have hwq : IntKind.i64.wrap (bits .and .i64 (k / 16) 15 + 20) = bits .and .i64 (k / 16) 15 + 20 := by rw [h15b, IntKind.wrap_i64]; omega
  clear hown hk hrd5 hfr5 hb2
  go_wp2_with fail
  refine (HE.out _ HB2.out _ (by omega) (by omega)).mono ?_
  rintro e w3 ⟨v3, m3, q, rfl, hown, hk, hb3⟩
  obtain ⟨A6, c6, rfl, hcc6, hrd6, hfr6⟩ := hown.rd
  have HKQ := Lib.hid (show okE oC 2 13 q from hk)
  have HN6 : Hid (rNod w3 A6 m3 q) := Lib.hid (rD_Nod.1 hrd6)
  have HF6 : Hid (∀ a, A6 = some a → w2.heap.size ≤ a.block) := Lib.hid fun a e => (hfr6 a e).1
  have HB3 := Lib.hid hb3
  have q2 := cell_later hb3 q1
  clear hown hk hrd6 hfr6 hb3 HE
  obtain ⟨h13, hnd, ⟨kk, nl⟩, htk, hbl⟩ := HK.out
  have htk : kk = 2 ∨ kk = 0 := htk
  have HTY : Hid (∀ (W : World) (hW : Below w3.heap.size w3 W) (zA : Option Addr) (hz : rZns W zA 3), Calls Tryz.prog 11 #[.slice A5 m2 c5, .slice (some ⟨bo, 0, none⟩) 4 4, .slice zA 3 3] W fun e w' => e = .returned (.tuple #[.int .i64 kk, .bool nl, .int .i64 0]) ∧ Below W.heap.size W w') := Lib.hid fun W hW zA hz => type11 A5 m2 c5 p (some ⟨bo, 0, none⟩) zA 4 4 3 3 W ((HN5.out.later HB3.out).later hW) (by have := HN5.out.len; omega) hnd hbl known_oC (List.mem_cons_self ..) (by decide) (hco.later (btr (btr HB2.out HB3.out) hW)) (by decide) (by decide) hz
  have HZ := Lib.hid fun W => zonesE W
  have q3 : w3.drew.cell? ⟨g, 1, none⟩ = some (.slice (some ⟨bo, 0, none⟩) 4 4) := q2
  go_wp2_with fail
  go_region_with (first
    | (go_at_call 12; refine (HZ.out _).mono ?_; rintro e w4 ⟨zA, rfl, hz4, hb4⟩; have hb4 : Below w3.heap.size w3 w4 := zap hb4; have q4 := cell_later hb4 q2; have HB4 := Lib.hid hb4; have HTY2 := Lib.hid (HTY.out w4 hb4 zA hz4))
    | (go_at_call 11; refine HTY2.out.mono ?_; rintro e w5 ⟨rfl, hb5⟩; have HB5 := Lib.hid hb5))
  all_goals
    have HBT : Hid (Below w1.heap.size w1 w5) := Lib.hid (btr (btr HB2.out HB3.out) (btr HB4.out HB5.out))
    have HBS : Hid (Below w3.heap.size w3 w5) := Lib.hid (btr HB4.out HB5.out)
    have e : R = rest6 Tryz.f3.body := HR.out.trans rfl
    clear HR HF HZ HTY HTY2 q1 q2 q3 q4 hz4 hb4 hb5
    rcases htk with rfl | rfl
    · go_wp2_with fail
      obtain ⟨hT, hK⟩ := R3_ok (n := k) TJ HK.out hbl HKQ.out
      obtain ⟨D, ρ, hs, h71, hp71, hD0, hro⟩ := simF (E := ETb (tbD (opD k) p q nl t0 t1 t2) (numD k) (ndD (opD k) p q)) (w := w) (HT.out.later hb (Nat.le_refl _)) hblk hco hcc (.inl ⟨by omega, zbw a2 (by omega) a3⟩) (.inl ⟨by omega, zbw b2 (by omega) b3'⟩) (.inl ⟨by omega, zbw d2 (by omega) d3⟩)
      have e500 : ETb (tbD (opD k) p q nl t0 t1 t2) (numD k) (ndD (opD k) p q) 500 (.slice A5 m2 c5) (snapOf w1 w2) := .inr (.inr (.inl ⟨⟨by omega, by omega⟩, nodAt_of HN5.out HF5.out hcc5⟩))
      have e501 : ETb (tbD (opD k) p q nl t0 t1 t2) (numD k) (ndD (opD k) p q) 501 (.slice A6 m3 c6) (snapOf w2 w3) := .inr (.inr (.inl ⟨⟨by omega, by omega⟩, nodAt_of HN6.out HF6.out hcc6⟩))
      obtain ⟨_, s2, _⟩ := zd3 hs HB2.out (d := 500) (by omega) (v := .slice A5 m2 c5) rfl e500
      obtain ⟨_, s3, _⟩ := zd3 s2 HB3.out (d := 501) (by omega) (v := .slice A6 m3 c6) rfl e501
      obtain ⟨s5, _⟩ := zbv s3 HBS.out
      subst e
      refine zpz hT hK (fn := Tryz.f3) (run3 nl) (s := sDr) ⟨s5, ?_, rfl, rfl⟩ (fun D' s' ρ' w' kx => ⟨rfl, btr hb (btr HBT.out (zb1 (s := sDr) (fun b o hbo => hro b o hbo) rfl kx))⟩)
      refine tm_rel d0small rfl (dtm0 (zja (i := 0) (d := 600) (by omega) (.inl (.inl hD0)) rfl (.inr (.inl ⟨by omega, rfl⟩))) rfl (zeo (b := g) (e := 4) (r := 12) (.inl (.inl h71)) ?_ rfl (by decide)) ?_ ?_)
      · exact hp71
      · exact zja (i := 72) (d := 500) (by omega) (.inl (.inr rfl)) rfl e500
      · exact zja (i := 73) (d := 501) (by omega) (.inr rfl) rfl e501
    · have HKN := Lib.hid (knownE (HT.out.later (btr hb HBT.out) (Nat.le_refl _)))
      go_wp2_with fail
      refine HKN.out.mono ?_
      rintro e w6 ⟨rfl, hb6⟩
      go_wp2
      go_ret
      exact ⟨rfl, btr hb (btr HBT.out hb6)⟩
end Go.Proofs.YthcalfeoejdcgaaGreatDoor
