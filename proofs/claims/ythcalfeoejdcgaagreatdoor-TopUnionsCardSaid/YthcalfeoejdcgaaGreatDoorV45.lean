import Derived.Test.YthcalfeoejdcgaaGreatDoorV40
import Derived.Test.YthcalfeoejdcgaaGreatDoorV41
import Derived.Test.YthcalfeoejdcgaaGreatDoorV42
import Derived.Test.YthcalfeoejdcgaaGreatDoorV43
import Derived.Test.YthcalfeoejdcgaaGreatDoorV44
import Derived.Test.YthcalfeoejdcgaaGreatDoorV39
import Derived.KernelRfl
namespace Go.Proofs.YthcalfeoejdcgaaGreatDoor
set_option linter.unusedSimpArgs false
set_option linter.unusedVariables false
open Go.RowKit Go.RowKit Go.BigFrame
theorem zm2 {P : Program} {c0 c1 rest : Code} {Q : Exit -> Act -> World -> Prop} {a : Act} {w : World} (h : ∀ R, R = rest -> (Code.seq c0 (.seq c1 R)).wp P Q a w) : (Code.seq c0 (.seq c1 rest)).wp P Q a w := h rest rfl
theorem cU_of (n : Int) (h : anD3 n ≠ 0) : ∃ c, 1 <= c /\ cU n c := by
 have h1 := zhu n
 by_cases h2 : anD3 n = 1
 . have h3 := zhu (shD2 n)
   have : anD3 (shD2 n) = 0 ∨ anD3 (shD2 n) = 1 ∨ anD3 (shD2 n) = 2 ∨ anD3 (shD2 n) = 3 := by omega
   rcases this with e | e | e | e
   . exact ⟨2, by omega, .inr (.inr ⟨h2, by omega, by omega, by rw [e]; rfl⟩)⟩
   . exact ⟨3, by omega, .inr (.inr ⟨h2, by omega, by omega, by rw [e]; rfl⟩)⟩
   . exact ⟨4, by omega, .inr (.inr ⟨h2, by omega, by omega, by rw [e]; rfl⟩)⟩
   . exact ⟨2, by omega, .inr (.inr ⟨h2, by omega, by omega, by rw [e]; rfl⟩)⟩
 . exact ⟨1, by omega, .inr (.inl ⟨by omega, rfl⟩)⟩
theorem zmk : ∀ c ∈ oC, c.nm ∈ knownN := fun c h => by
 simp only [oC, List.mem_cons, List.not_mem_nil, or_false] at h
 rcases h with rfl | rfl | rfl | rfl <;> simp [knownN, sC, sV, sAt, ba]
theorem run5 {c : Nat} (h1 : 1 <= c) (hc : c <= 4) : endsT (T5 c) Tryz.f5.results.toList ((R5 c).code 106 (rest2 Tryz.f5.body) uL0.tm sF) = true := by
 match c, h1, hc with
 | 1, _, _ => exact run5_1
 | 2, _, _ => exact run5_2
 | 3, _, _ => exact run5_3
 | 4, _, _ => exact run5_4
theorem u0small : uL0.small = true := by kernel_rfl
theorem u1small : uL1.small = true := by kernel_rfl
theorem utm0 {E : Ev} {D : Nat -> Prop} {ρ : Nat -> Pl} {a : Act} (h1 : Rv E D ρ (.chan (some 600)) (a.tmps.getD 2 undef)) (h4 : a.tmps.getD 6 undef = .bool false) (h5 : Rv E D ρ (.slice (some ⟨71,0,none⟩) 3 3) (a.tmps.getD 7 undef)) : ∀ p ∈ uL0.tms, Rv E D ρ p.2 (a.tmps.getD p.1 undef) := fun p hp => by
 simp only [uL0, List.mem_cons, List.not_mem_nil, or_false] at hp
 rcases hp with rfl | rfl | rfl
 . exact h1
 . show Rv E D ρ (.bool false) (a.tmps.getD 6 undef)
   rw [h4]; exact .flat _ rfl
 . exact h5
theorem utm1 {E : Ev} {D : Nat -> Prop} {ρ : Nat -> Pl} {a : Act} (h4 : a.tmps.getD 6 undef = .bool false) (h5 : Rv E D ρ (.slice (some ⟨71,0,none⟩) 3 3) (a.tmps.getD 7 undef)) (h8 : Rv E D ρ (.pointer (some ⟨73,0,none⟩)) (a.tmps.getD 8 undef)) : ∀ p ∈ uL1.tms, Rv E D ρ p.2 (a.tmps.getD p.1 undef) := fun p hp => by
 simp only [uL1, List.mem_cons, List.not_mem_nil, or_false] at hp
 rcases hp with rfl | rfl | rfl
 . show Rv E D ρ (.bool false) (a.tmps.getD 6 undef)
   rw [h4]; exact .flat _ rfl
 . exact h5
 . exact h8
set_option maxRecDepth 100000 in
theorem where15 (A : Option Addr) (n c : Nat) (w : World) : Calls Tryz.prog 15 #[.slice A n c] w fun e w' => e = .returned (.agg #[.int .i64 1, .string ⟨#[]⟩, .slice none 0 0, .slice none 0 0, .slice none 0 0, .slice A n c]) /\ Below w.heap.size w w' := by
 go_enter Tryz.func15, Tryz.ntmps15
 go_wp2
 exact bodyPost_ret (v := .agg #[.int .i64 1, .string ⟨#[]⟩, .slice none 0 0, .slice none 0 0, .slice none 0 0, .slice A n c]) (by simp [results, Tryz.results15, go_sem]) rfl ⟨rfl, zae _ _⟩
set_option maxRecDepth 100000 in
set_option maxHeartbeats 4000000 in
theorem unionsE (A : Option Addr) (n c : Nat) (l : List Int) (B : Option Addr) (m d : Nat) (l2 : List Int) (k : Int) (w : World) (h : rInt w A n l) (hc : n <= c) (hn : n <= 9223372036854775807) (hc2 : c <= 9223372036854775807) (h2 : rInt w B m l2) (hm : m <= 9223372036854775807) (ht : Tbs w) :
 Calls Tryz.prog 5 #[.slice A n c, .slice B m d, .int .i64 k] w fun e w' => e = .returned (.bool true) /\ Below w.heap.size w w' := by
 have HF := qL (filledE A n c l 6 w h hc hn hc2 qF)
 have HT := qL ht
 have H2 := qL h2
 clear h ht h2
 go_enter Tryz.func5, Tryz.ntmps5
 refine zm2 fun R hR => ?_
 have HR := qL hR
 clear hR
 go_wp2_with fail
 refine HF.out.mono ?_
 rintro e w1 ⟨g, bo, bc, rs, rfl, hblk, hfil, hco, hcc, hb, hg1, hg2⟩
 go_wp2_with fail
 obtain ⟨r0, r1, r2, rfl, ⟨A0, n0, c0, t0, rfl, a2, a3, a4⟩, ⟨A1, n1, c1, t1, rfl, b2, b3', b4⟩, ⟨A2, n2, c2, t2, rfl, d2, d3, d4⟩⟩ := hfil
 have e18 : (3 : Int) * ((6 : Nat) : Int) = 18 := rfl
 rw [e18] at a4 b4 d4
 have TJ := tu_of a4 b4 d4
 have e : R = rest2 Tryz.f5.body := HR.out.trans rfl
 by_cases hk0 : anD3 k = 0
 . have ha3 : bits .and .i64 k 3 = 0 := hk0
   rw [e]
   refine zm2 fun R' hR' => ?_
   have HR' := qL hR'
   clear hR' HR HF e
   have hg1b : w1.cell? ⟨g, 1, none⟩ = some (.slice (some ⟨bo, 0, none⟩) 4 4) := by
    unfold World.cell?
    rw [show w1.heap[g]? = _ from hblk]
    rfl
   have hgz : w1.frozen? ⟨g, 1, none⟩ = false := by
    unfold World.frozen?
    rw [show w1.heap[g]? = _ from hblk]
    rfl
   have HE := qL fun (W : World) (hW : Below w1.heap.size w1 W) (q : Int) (h0 : 0 <= q) (h1 : q <= 15) => expr10 (cs := oC) (some ⟨bo, 0, none⟩) B 4 4 m d l2 hm zc7 zmk (List.mem_cons_self ..) (by decide) (by decide) (by decide) 3 qF 1 q W (H2.out.later (btr hb hW)) (hco.later hW) h0 qF qF qF
   have h15 := and15 (k / 4)
   go_wp2_with fail
   refine (HE.out _ (zae _ _) _ qF qF).mono ?_
   rintro e w2 ⟨v2, n2, p, rfl, hown, hk, hb2⟩
   obtain ⟨A5, c5, rfl, hcc5, hrd5, hfr5⟩ := hown.rd
   have HW := qL (where15 A5 n2 c5 w2)
   have HK := qL (show okE oC 1 40 p from hk)
   have HFR := qL hfr5
   have HRD := qL hrd5
   have HB2 := qL hb2
   have s0 : w2.cell? ⟨w1.heap.size, 0, none⟩ = some (.int .i64 0) := qM hb2 qD
   have s1 : w2.cell? ⟨w1.heap.size, 1, none⟩ = some (.string ⟨#[]⟩) := qM hb2 qD
   have s2 : w2.cell? ⟨w1.heap.size, 2, none⟩ = some (.slice none 0 0) := qM hb2 qD
   have s3 : w2.cell? ⟨w1.heap.size, 3, none⟩ = some (.slice none 0 0) := qM hb2 qD
   have s4 : w2.cell? ⟨w1.heap.size, 4, none⟩ = some (.slice none 0 0) := qM hb2 qD
   have s5 : w2.cell? ⟨w1.heap.size, 5, none⟩ = some (.slice none 0 0) := qM hb2 qD
   have sz : ∀ j, w2.frozen? ⟨w1.heap.size, j, none⟩ = false := fun j => (hb2.frozen qH).trans qD
   have slt : w1.heap.size < w2.heap.size := qQ qH hb2.size
   clear hk hown hrd5 hfr5 hb2 HE
   go_wp2_with fail
   refine HW.out.mono ?_
   rintro e w3 ⟨rfl, hb3⟩
   have q0 := qM hb3 s0
   have q1 := qM hb3 s1
   have q2 := qM hb3 s2
   have q3 := qM hb3 s3
   have q4 := qM hb3 s4
   have q5 := qM hb3 s5
   have qz0 : w3.frozen? ⟨w1.heap.size, 0, none⟩ = false := (hb3.frozen slt).trans (sz 0)
   have qz1 : w3.frozen? ⟨w1.heap.size, 1, none⟩ = false := (hb3.frozen slt).trans (sz 1)
   have qz2 : w3.frozen? ⟨w1.heap.size, 2, none⟩ = false := (hb3.frozen slt).trans (sz 2)
   have qz3 : w3.frozen? ⟨w1.heap.size, 3, none⟩ = false := (hb3.frozen slt).trans (sz 3)
   have qz4 : w3.frozen? ⟨w1.heap.size, 4, none⟩ = false := (hb3.frozen slt).trans (sz 4)
   have qz5 : w3.frozen? ⟨w1.heap.size, 5, none⟩ = false := (hb3.frozen slt).trans (sz 5)
   have qlt := qQ slt hb3.size
   have HB3 := qL hb3
   clear s0 s1 s2 s3 s4 s5 hb3 sz HW
   go_wp2_with fail
   obtain ⟨w4, hw4⟩ : ∃ w4, w4 = ((((((w3.setCell ⟨w1.heap.size, 0, none⟩ (.int .i64 1)).setCell ⟨w1.heap.size, 1, none⟩ (.string ⟨#[]⟩)).setCell ⟨w1.heap.size, 2, none⟩ (.slice none 0 0)).setCell ⟨w1.heap.size, 3, none⟩ (.slice none 0 0)).setCell ⟨w1.heap.size, 4, none⟩ (.slice none 0 0)).setCell ⟨w1.heap.size, 5, none⟩ (.slice A5 n2 c5)) := ⟨_, rfl⟩
   have z0 : w4.cell? ⟨w1.heap.size, 0, none⟩ = some (.int .i64 1) := by rw [hw4]; simp [go_sem, q0, q1, q2, q3, q4, q5]
   have z1 : w4.cell? ⟨w1.heap.size, 1, none⟩ = some (.string ⟨#[]⟩) := by rw [hw4]; simp [go_sem, q0, q1, q2, q3, q4, q5]
   have z2 : w4.cell? ⟨w1.heap.size, 2, none⟩ = some (.slice none 0 0) := by rw [hw4]; simp [go_sem, q0, q1, q2, q3, q4, q5]
   have z3 : w4.cell? ⟨w1.heap.size, 3, none⟩ = some (.slice none 0 0) := by rw [hw4]; simp [go_sem, q0, q1, q2, q3, q4, q5]
   have z4 : w4.cell? ⟨w1.heap.size, 4, none⟩ = some (.slice none 0 0) := by rw [hw4]; simp [go_sem, q0, q1, q2, q3, q4, q5]
   have z5 : w4.cell? ⟨w1.heap.size, 5, none⟩ = some (.slice A5 n2 c5) := by rw [hw4]; simp [go_sem, q0, q1, q2, q3, q4, q5]
   have hblk4 : ∀ b, b ≠ w1.heap.size -> w4.heap[b]? = w3.heap[b]? := fun b hb => by
    rw [hw4, Below.heap_setCell _ _ _ _ hb, Below.heap_setCell _ _ _ _ hb, Below.heap_setCell _ _ _ _ hb, Below.heap_setCell _ _ _ _ hb, Below.heap_setCell _ _ _ _ hb, Below.heap_setCell _ _ _ _ hb]
   have b3 : Below w1.heap.size w1 w3 := btr (btr (zae w1 _) HB2.out) HB3.out
   have hb4 : Below w1.heap.size w1 w4 := by
    rw [hw4]
    exact (((((b3.setCell (qV _) _).setCell (qV _) _).setCell (qV _) _).setCell (qV _) _).setCell (qV _) _).setCell (qV _) _
   have hA5 : ∀ a, A5 = some a -> w1.heap.size + 1 <= a.block := fun a ea => by
    have h := (HFR.out a ea).1
    simp at h
    omega
   have hN4 : rNod w4 A5 n2 p := Fl.from (B := w1.heap.size + 1) (rD_Nod.1 HRD.out) (fun _ => hA5) fun b hb hl => (hblk4 b qF).trans (HB3.out.block b hl)
   have hs4 : w1.heap.size < w4.heap.size := qX _ _ z0
   rw [<- hw4]
   obtain ⟨h40, hnd, tk, htk, hbl⟩ := HK.out
   have hX : okX oC p tk := ⟨by omega, hnd, hbl, zc7, zmk⟩
   obtain ⟨hT, hK⟩ := R5_ok (c := 0) (p := p) (n := k) (.inl ⟨hk0, rfl⟩) TJ (fun _ => ⟨tk, htk, hX⟩)
   obtain ⟨D, ρ, hs, h71, hp71, hD0, hro⟩ := simF (E := ETb (tbU 0 p t0 t1 t2) (numG k) fun _ => p) (w := w) (HT.out.later hb (qV _)) hblk hco hcc (.inl ⟨by omega, zbw a2 qF a3⟩) (.inl ⟨by omega, zbw b2 qF b3'⟩) (.inl ⟨by omega, zbw d2 qF d3⟩)
   have e500 : ETb (tbU 0 p t0 t1 t2) (numG k) (fun _ => p) 500 (.slice A5 n2 c5) (snapOf w1 w4) := .inr (.inr (.inl ⟨⟨by omega, by omega⟩, nodAt_of hN4 (fun a ea => by have := hA5 a ea; omega) hcc5⟩))
   obtain ⟨r1, r2, r3⟩ := zd3 hs hb4 (d := 500) qF (v := .slice A5 n2 c5) rfl e500
   obtain ⟨s5, r5⟩ := zij r2 hro (by decide) (p := mkPl w1.heap.size 0 6 6) (b := bU) (by
    refine ⟨rfl, fun j v hv => ?_⟩
    simp only [Nat.zero_add]
    match j, hv with
    | 0, hv => cases hv; exact ⟨_, z0, .flat _ rfl⟩
    | 1, hv => cases hv; exact ⟨_, z1, .flat _ rfl⟩
    | 2, hv => cases hv; exact ⟨_, z2, .flat _ rfl⟩
    | 3, hv => cases hv; exact ⟨_, z3, .flat _ rfl⟩
    | 4, hv => cases hv; exact ⟨_, z4, .flat _ rfl⟩
    | 5, hv => cases hv; exact ⟨_, z5, zja (i := 72) (d := 500) qF (.inl (.inr rfl)) rfl e500⟩
    | j + 6, hv => cases hv) hs4 rfl
   have e' : R' = rest2 (some (rest2 Tryz.f5.body)) := HR'.out.trans rfl
   clear HR'
   subst e'
   refine zpz hT hK (fn := Tryz.f5) run5_0 (s := sU) ⟨s5, ?_, rfl, rfl⟩ (fun D' s' ρ' w' kk => ⟨rfl, btr hb (btr hb4 (zb1 r5 rfl kk))⟩)
   refine tm_rel u1small rfl (utm1 rfl (zeo (b := g) (e := 4) (r := 12) (.inl (.inl h71)) ?_ rfl (by decide)) ?_)
   . exact hp71
   . exact Rv.ptr 73 0 (.inr rfl)
 . obtain ⟨cc, hc1, hcU⟩ := cU_of k hk0
   have hc4 := cU_le hcU
   obtain ⟨hT, hK⟩ := R5_ok (p := []) hcU TJ (fun h => by omega)
   obtain ⟨D, ρ, hs, h71, hp71, hD0, hro⟩ := simF (E := ETb (tbU cc [] t0 t1 t2) (numG k) fun _ => []) (w := w) (HT.out.later hb (qV _)) hblk hco hcc (.inl ⟨by omega, zbw a2 qF a3⟩) (.inl ⟨by omega, zbw b2 qF b3'⟩) (.inl ⟨by omega, zbw d2 qF d3⟩)
   clear HR HF
   subst e
   refine zpz hT hK (fn := Tryz.f5) (run5 hc1 hc4) ⟨hs, ?_, rfl, rfl⟩ (fun D' s' ρ' w' k => ⟨rfl, btr hb (zb1 hro rfl k)⟩)
   exact tm_rel u0small rfl (utm0 (zja (i := 0) (d := 600) qF hD0 rfl (.inr (.inl ⟨by omega, rfl⟩))) rfl (zeo (e := 4) (r := 12) h71 hp71 rfl (by decide)))
end Go.Proofs.YthcalfeoejdcgaaGreatDoor
