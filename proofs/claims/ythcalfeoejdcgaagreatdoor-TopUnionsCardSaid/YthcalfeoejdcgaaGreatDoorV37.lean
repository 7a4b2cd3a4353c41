import Derived.Test.YthcalfeoejdcgaaGreatDoorV36
import Derived.KernelRfl
namespace Go.Proofs.YthcalfeoejdcgaaGreatDoor
set_option linter.unusedSimpArgs false
set_option linter.unusedVariables false
section
open Go.RowKit
def isU (c : Nat) : List Int := match c with
 | 2 => [1]
 | 3 => [2, 0]
 | _ => [3]
def stU (c : Nat) (p : List Nod) (t1 t : Tab) : Tab := match c with
 | 0 => whrV oC p t
 | 1 => joiV false [1] [0] [2] t t1
 | c => prjV (isU c) t
def tbU (c : Nat) (p : List Nod) (t0 t1 t2 : Tab) : Nat -> Tab := fun k => match k with
 | 0 => t0
 | 1 => t1
 | 2 => t2
 | 3 => addV t0 t2
 | 4 => stU c p t1 (addV t0 t2)
 | 5 => stU c p t1 t0
 | 6 => stU c p t1 t2
 | 7 => addV (stU c p t1 t0) (stU c p t1 t2)
 | _ => []
structure TU (t0 t1 t2 : Tab) : Prop where
 o0 : okTab t0
 o1 : okTab t1
 o2 : okTab t2
 s0 : sumC t0 <= 18
 s1 : sumC t1 <= 18
 s2 : sumC t2 <= 18
 r0 : ∀ x ∈ t0, okRow oC x.1
 r1 : ∀ x ∈ t1, okRow cC x.1
 r2 : ∀ x ∈ t2, okRow oC x.1
section
variable {c : Nat} {p : List Nod} {t0 t1 t2 : Tab}
theorem tu_of (h0 : gTab oC 18 t0) (h1 : gTab cC 18 t1) (h2 : gTab oC 18 t2) : TU t0 t1 t2 := by
 have a := zh4 (by decide) (h0.mono (show (18 : Int) <= 30 by omega))
 have b := zh4 (by decide) (h1.mono (show (18 : Int) <= 30 by omega))
 have d := zh4 (by decide) (h2.mono (show (18 : Int) <= 30 by omega))
 exact ⟨a.1, b.1, d.1, h0.2.2.1, h1.2.2.1, h2.2.2.1, a.2.2.2.1, b.2.2.2.1, d.2.2.2.1⟩
theorem zmc {ns os ps : List Int} {t u : Tab} (left : Bool) (ht : okTab t) (hs : sumC t <= 40) (hu : okTab u) (hsu : sumC u <= 24) (hw : ∀ x ∈ t, x.1.length + ps.length <= 12) : okTab (joiV left ns os ps t u) /\ sumC (joiV left ns os ps t u) <= 1000 /\ sumC (joiL left ns os ps t u) <= 1000 := by
 have h1 := zo8 (left := left) (ns := ns) (os := os) (ps := ps) hu.2 ht.2
 have h2 : sumC t * (sumC u + 1) <= 40 * 25 := by
  have a := zbp ht.2
  have b := zbp hu.2
  exact Int.le_trans (Int.mul_le_mul_of_nonneg_right hs qF) (Int.mul_le_mul_of_nonneg_left qF qF)
 have h3 := zo7 (left := left) (ns := ns) (os := os) (ps := ps) (t := t) (u := u) (m := 12) (fun x hx => ⟨ht.2 x hx, (ht.1.2.2 x hx).2.2.2, hw x hx⟩) hu.2 (fun x hx => (hu.1.2.2 x hx).2.2.2)
 obtain ⟨k1, k2⟩ := zin h3 qF
 exact ⟨k1, by show sumC (normV (joiL left ns os ps t u)) <= 1000; rw [k2]; omega, by omega⟩
theorem zdt {is : List Int} {t : Tab} (ht : okTab t) (hs : sumC t <= 40) (hi : is.length <= 12) : okTab (prjV is t) /\ sumC (prjV is t) <= 40 := by
 have e := zie is t
 unfold prjL at e
 obtain ⟨k1, k2⟩ := zin (l := t.map fun x => (pkV is x.1, x.2)) (fun y hy => by
  obtain ⟨x, hx, rfl⟩ := List.mem_map.1 hy
  exact ⟨ht.2 x hx, by show (pkV is x.1).length <= 12; rw [zdi]; exact hi, zer (ht.1.2.2 x hx).2.2.2 is⟩) (by rw [e]; omega)
 exact ⟨k1, by unfold prjV; rw [k2, e]; exact hs⟩
theorem zno {a b : Tab} (ha : okTab a) (hb : okTab b) (hs : sumC a + sumC b <= 4095) : okTab (addV a b) /\ sumC (addV a b) = sumC a + sumC b := by
 obtain ⟨k1, k2⟩ := zin (l := a ++ b) (fun y hy => by
  rcases List.mem_append.1 hy with hy | hy
  . exact ⟨ha.2 y hy, (ha.1.2.2 y hy).1, (ha.1.2.2 y hy).2.2.2⟩
  . exact ⟨hb.2 y hy, (hb.1.2.2 y hy).1, (hb.1.2.2 y hy).2.2.2⟩) (by rw [zbb]; omega)
 exact ⟨k1, by unfold addV; rw [k2, zbb]⟩
theorem zmm {a b : Tab} (ha : okTab a) (hb : okTab b) (hs : sumC a + sumC b <= 4095) : okAdd a b := by
 have h1 := zgc ha.2
 have h2 := zgc hb.2
 exact ⟨ha, hb, by omega, by omega⟩
theorem add_row {cs : List Col} {a b : Tab} (ha : ∀ x ∈ a, okRow cs x.1) (hb : ∀ x ∈ b, okRow cs x.1) : ∀ x ∈ addV a b, okRow cs x.1 := fun x hx => by
 obtain ⟨z, hz, e⟩ := zi9 hx
 rw [<- e]
 rcases List.mem_append.1 hz with hz | hz
 . exact ha z hz
 . exact hb z hz
theorem TU.u (h : TU t0 t1 t2) : okTab (addV t0 t2) /\ sumC (addV t0 t2) <= 36 /\ ∀ x ∈ addV t0 t2, okRow oC x.1 := by
 have a := h.s0
 have b := h.s2
 obtain ⟨k1, k2⟩ := zno h.o0 h.o2 qF
 exact ⟨k1, by omega, add_row h.r0 h.r2⟩
theorem zqe (hc : c <= 4) {t : Tab} (h : TU t0 t1 t2) (ht : okTab t) (hs : sumC t <= 40) (hr : ∀ x ∈ t, okRow oC x.1) : okTab (stU c p t1 t) /\ sumC (stU c p t1 t) <= 1000 := by
 have hj := zmc (ns := [1]) (os := [0]) (ps := [2]) false ht hs h.o1 (by have := h.s1; omega) fun x hx => by rw [(hr x hx).1]; decide
 match c, hc with
 | 0, _ => exact ⟨(zqs ht).1, Int.le_trans (zqs ht).2 qF⟩
 | 1, _ => exact ⟨hj.1, hj.2.1⟩
 | 2, _ => exact ⟨(zdt ht hs (by decide)).1, Int.le_trans (zdt ht hs (by decide)).2 qF⟩
 | 3, _ => exact ⟨(zdt ht hs (by decide)).1, Int.le_trans (zdt ht hs (by decide)).2 qF⟩
 | 4, _ => exact ⟨(zdt ht hs (by decide)).1, Int.le_trans (zdt ht hs (by decide)).2 qF⟩
theorem TU.st0 (hc : c <= 4) (h : TU t0 t1 t2) : okTab (stU c p t1 t0) /\ sumC (stU c p t1 t0) <= 1000 := zqe hc h h.o0 (Int.le_trans h.s0 qF) h.r0
theorem TU.st2 (hc : c <= 4) (h : TU t0 t1 t2) : okTab (stU c p t1 t2) /\ sumC (stU c p t1 t2) <= 1000 := zqe hc h h.o2 (Int.le_trans h.s2 qF) h.r2
theorem TU.stu (hc : c <= 4) (h : TU t0 t1 t2) : okTab (stU c p t1 (addV t0 t2)) /\ sumC (stU c p t1 (addV t0 t2)) <= 1000 := zqe hc h h.u.1 (Int.le_trans h.u.2.1 qF) h.u.2.2
theorem TU.add (hc : c <= 4) (h : TU t0 t1 t2) : okAdd (stU c p t1 t0) (stU c p t1 t2) := zmm (h.st0 hc).1 (h.st2 hc).1 (by have a := (h.st0 (p := p) hc).2; have b := (h.st2 (p := p) hc).2; omega)
theorem TU.ok (hc : c <= 4) (h : TU t0 t1 t2) (k : Nat) : okTab (tbU c p t0 t1 t2 k) := by
 have nil : okTab [] := ⟨⟨by simp, ⟨trivial, fun x h => by cases h⟩, fun x h => by cases h⟩, fun x h => by cases h⟩
 match k with
 | 0 => exact h.o0
 | 1 => exact h.o1
 | 2 => exact h.o2
 | 3 => exact h.u.1
 | 4 => exact (h.stu hc).1
 | 5 => exact (h.st0 hc).1
 | 6 => exact (h.st2 hc).1
 | 7 => exact (zno (h.st0 hc).1 (h.st2 hc).1 (by have a := (h.st0 (p := p) hc).2; have b := (h.st2 (p := p) hc).2; omega)).1
 | n + 8 => exact nil
theorem TU.eq (hc : c <= 4) (h : TU t0 t1 t2) : tbU c p t0 t1 t2 4 = tbU c p t0 t1 t2 7 := by
 show stU c p t1 (addV t0 t2) = addV (stU c p t1 t0) (stU c p t1 t2)
 match c, hc with
 | 0, _ => exact zqt _ _ h.o0.1.2.1 h.o2.1.2.1
 | 1, _ => exact zo9 _ _ _ _ _ _ _
 | 2, _ => exact zgi _ _ _
 | 3, _ => exact zgi _ _ _
 | 4, _ => exact zgi _ _ _
end
def xU (c : Nat) : List Col := match c with
 | 0 => oC
 | 1 => newJ
 | 2 => [⟨sC, 3, false⟩]
 | 3 => [⟨sAt, 4, false⟩, ⟨⟨#[105, 100]⟩, 2, false⟩]
 | _ => [⟨sV, 2, true⟩]
def joU (c : Nat) : List JoiA := match c with
 | 1 => [⟨false, [sC], [sC], itsJ, 3, oC, 1, cC, 4⟩, ⟨false, [sC], [sC], itsJ, 0, oC, 1, cC, 5⟩, ⟨false, [sC], [sC], itsJ, 2, oC, 1, cC, 6⟩]
 | _ => []
def prU (c : Nat) : List PrjA := match c with
 | 0 => []
 | 1 => []
 | c => [⟨3, isU c, 4⟩, ⟨0, isU c, 5⟩, ⟨2, isU c, 6⟩]
def whU (c : Nat) : List WhrA := match c with
 | 0 => [⟨500, 3, oC, 4⟩, ⟨500, 0, oC, 5⟩, ⟨500, 2, oC, 6⟩]
 | _ => []
def wnU (c : Nat) : List Nat := match c with
 | 0 => [500]
 | _ => []
def wcU (c : Nat) : List (Nat × List Col) := match c with
 | 0 => [(500, oC)]
 | _ => []
def clU : List (Nat × List Col) := [(0, oC), (1, cC), (2, oC), (3, oC)]
def csU (c : Nat) : List (List Col) := [oC, cC, xU c]
def adU : List (Nat × Nat × Nat) := [(0, 2, 3), (5, 6, 7)]
def hintU (c : Nat) (op : BinOp) (x y : Value) : Option Value := match op, x, y with
 | .and, .chan (some 600), .int .i64 3 => some (.chan (some 602))
 | .eql, .chan (some 602), .int .i64 0 => some (.bool (Nat.beq c 0))
 | .eql, .chan (some 602), .int .i64 1 => some (.bool (Nat.ble 2 c))
 | .shr, .chan (some 600), .int .u64 2 => some (.chan (some 601))
 | .and, .chan (some 601), .int .i64 3 => some (.chan (some 603))
 | .rem, .chan (some 603), .int .i64 3 => cond (Nat.ble 2 c) (some (.int .i64 (c - 2 : Nat))) none
 | _, _, _ => none
noncomputable def T5 (c : Nat) : Tbl := { xT with hint := hintU c, sp := fun f => cond (Nat.beq f 62) (some (sp62g clU)) (cond (Nat.beq f 129) (some sp129) (cond (Nat.beq f 134) (some (sp134 (joU c))) (cond (Nat.beq f 133) (some (sp133 (prU c))) (cond (Nat.beq f 19) (some (sp2 adU)) (cond (Nat.beq f 17) (some (sp17 fun a b => Nat.beq a 4 && Nat.beq b 7)) (cond (Nat.beq f 89) (some (sp89 (csU c))) (cond (Nat.beq f 123) (some sp123) (cond (Nat.beq f 234) (some sp234) (cond (Nat.beq f 12) (some sp12) (cond (Nat.beq f 90) (some sp90) (cond (Nat.beq f 175) (some (sp175 (wnU c))) (cond (Nat.beq f 193) (some (sp193 (wcU c))) (cond (Nat.beq f 130) (some (sp130 (whU c))) (cond (Nat.beq f 13) (some sp13) none)))))))))))))) }
noncomputable def R5 (c : Nat) : Rn := rn (T5 c) (adraw (T5 c)) 1000
def uL0 : Lit := ⟨106, 72, [(2, .chan (some 600)), (6, .bool false), (7, .slice (some ⟨71,0,none⟩) 3 3)], []⟩
def uL1 : Lit := ⟨106, 74, [(6, .bool false), (7, .slice (some ⟨71,0,none⟩) 3 3), (8, .pointer (some ⟨73, 0, none⟩))], []⟩
def bU : ABody := .cells 44 6 [.int .i64 1, .string ⟨#[]⟩, .slice none 0 0, .slice none 0 0, .slice none 0 0, .chan (some (72 * 1024 + 500))]
def sU : ASt := ⟨sF.heap.set xBits 73 (some ⟨false, bU⟩), 74, sF.tc⟩
end
section
open Go.BigFrame Go.RowKit
def cU (n : Int) (c : Nat) : Prop := (anD3 n = 0 /\ c = 0) ∨ (1 < anD3 n /\ c = 1) ∨ (anD3 n = 1 /\ 2 <= c /\ c <= 4 /\ (anD3 (shD2 n)).tmod 3 = (c - 2 : Nat))
theorem zp2 (n : Int) (h : 0 <= n /\ n <= 3) (m : Int) (hm : m = 0 ∨ m = 1) (t : TypeId) (xo yo : Operand) (P : Program) (w : World) : (do eqGuard .eql t xo yo (.int .i64 n) (.int .i64 m); binOp .eql t (.int .i64 n) (.int .i64 m) : Sem Value).run P w = .ok (.bool (n == m)) w := by
 have : n = 0 ∨ n = 1 ∨ n = 2 ∨ n = 3 := by omega
 rcases this with rfl | rfl | rfl | rfl <;> rcases hm with rfl | rfl <;> rfl
theorem cU_le {n : Int} {c : Nat} (h : cU n c) : c <= 4 := by
 rcases h with ⟨_, h⟩ | ⟨_, h⟩ | ⟨_, _, h, _⟩ <;> omega
theorem T5_ok {n : Int} {tb : Nat -> Tab} {nod : Nat -> List Nod} {c : Nat} (hc : cU n c) : (T5 c).Ok (ETb tb (numG n) nod) Tryz.prog := by
 have k := zg2 (ETb tb (numG n) nod)
 have hle := zhu n
 refine ⟨k.ty, k.fn, k.eqs, k.mixed, k.ex, fun op x y r h t xo yo x' y' w hx hy => ?_, k.hlen⟩
 have h : hintU c op x y = some r := h
 unfold hintU at h
 split at h
 . cases h
   obtain rfl := ze0 (by decide) hx
   obtain rfl := zhh hy
   exact ⟨_, zmu n t xo yo _ w, zks (k := 602) qF qF⟩
 . cases h
   obtain rfl := ze0 (by decide) hx
   obtain rfl := zhh hy
   refine ⟨_, zp2 (anD3 n) hle 0 (.inl rfl) t xo yo _ w, .inl ⟨rfl, ?_⟩⟩
   congr 1
   rcases hc with ⟨h1, h2⟩ | ⟨h1, h2⟩ | ⟨h1, h2, _⟩
   . rw [h1, h2]; rfl
   . subst h2; show (anD3 n == 0) = false; simp; omega
   . rw [h1]
     have : Nat.beq c 0 = false := by cases c with | zero => omega | succ m => rfl
     rw [this]; rfl
 . cases h
   obtain rfl := ze0 (by decide) hx
   obtain rfl := zhh hy
   refine ⟨_, zp2 (anD3 n) hle 1 (.inr rfl) t xo yo _ w, .inl ⟨rfl, ?_⟩⟩
   congr 1
   rcases hc with ⟨h1, h2⟩ | ⟨h1, h2⟩ | ⟨h1, h2, _⟩
   . rw [h1, h2]; rfl
   . subst h2; show (anD3 n == 1) = false; simp; omega
   . rw [h1, Nat.ble_eq_true_of_le h2]; rfl
 . cases h
   obtain rfl := ze0 (by decide) hx
   obtain rfl := zhh hy
   exact ⟨_, run_shr2 n t xo yo _ w, zks (k := 601) qF qF⟩
 . cases h
   obtain rfl := ze0 (by decide) hx
   obtain rfl := zhh hy
   exact ⟨_, zmu (shD2 n) t xo yo _ w, zks (k := 603) qF qF⟩
 . cases hz : Nat.ble 2 c
   . rw [hz] at h; cases h
   . rw [hz] at h
     cases h
     obtain rfl := ze0 (by decide) hx
     obtain rfl := zhh hy
     refine ⟨_, run_rem3 (anD3 (shD2 n)) (zhu _) t xo yo _ w, ?_⟩
     have h2 := qS hz
     rcases hc with ⟨_, h⟩ | ⟨_, h⟩ | ⟨_, _, _, h⟩
     . omega
     . omega
     . rw [h]; exact .inl ⟨rfl, rfl⟩
 . cases h
section
variable {c : Nat} {p : List Nod} {t0 t1 t2 : Tab}
theorem zn7 {P : Nat -> Prop} {c : Nat} (hc : c <= 4) (h0 : P 0) (h1 : P 1) (h2 : P 2) (h3 : P 3) (h4 : P 4) : P c := by
 match c, hc with
 | 0, _ => exact h0
 | 1, _ => exact h1
 | 2, _ => exact h2
 | 3, _ => exact h3
 | 4, _ => exact h4
theorem csU_ok (hc : c <= 4) : ∀ cs ∈ csU c, okCols cs := fun cs h => by
 unfold csU at h
 simp only [List.mem_cons, List.not_mem_nil, or_false] at h
 rcases h with rfl | rfl | rfl
 . exact zc7
 . exact zmo
 . exact zn7 (P := fun c => okCols (xU c)) hc zc7 (zel (by decide) (by decide) qG qG) (zel (by decide) (by decide) qG qG) (zel (by decide) (by decide) qG qG) (zel (by decide) (by decide) qG qG)
theorem TU.okJ (h : TU t0 t1 t2) {t : Tab} (ht : okTab t) (hs : sumC t <= 40) (hr : ∀ x ∈ t, okRow oC x.1) : okJo false oC cC [sC] [sC] itsJ t t1 := by
 obtain ⟨n1, n2, _, e1, e2, _, e4, e5⟩ := namesJ (show 0 <= 2 by omega)
 have hl : ∀ x ∈ t, x.1.length = 4 := fun x hx => (hr x hx).1
 have s1 := h.s1
 refine ⟨⟨n1, rfl, ht, ⟨n2, by decide, by rw [zee]; decide, h.o1.1.1, h.o1.2, Int.le_trans s1 qF, fun x hx => (h.o1.1.2.2 x hx).1, fun x hx => (h.o1.1.2.2 x hx).2.2.2⟩⟩, fun x hx => by rw [hl x hx]; decide, ?_⟩
 rw [zee]
 exact Int.le_trans (zmc (ns := [sC].map (idxC oC)) (os := [sC].map (idxC cC)) (ps := [2]) false ht hs h.o1 qF fun x hx => by rw [hl x hx]; decide).2.2 qF
theorem joU_ok (h : TU t0 t1 t2) (hc : c <= 4) : ∀ g ∈ joU c, g.cs.length <= 12 /\ g.cs'.length <= 12 /\ okJo g.left g.cs g.cs' g.names g.others g.items (tbU c p t0 t1 t2 g.d) (tbU c p t0 t1 t2 g.du) /\ tbU c p t0 t1 t2 g.d2 = joiV g.left (g.names.map (idxC g.cs)) (g.others.map (idxC g.cs')) (g.items.map fun x => idxC g.cs' x.co) (tbU c p t0 t1 t2 g.d) (tbU c p t0 t1 t2 g.du) := by
 obtain ⟨_, _, _, e1, e2, _, _, _⟩ := namesJ (show 0 <= 2 by omega)
 have e1 : [sC].map (idxC oC) = [1] := e1
 have e2 : [sC].map (idxC cC) = [0] := e2
 refine zn7 (P := fun c => ∀ g ∈ joU c, g.cs.length <= 12 /\ g.cs'.length <= 12 /\ okJo g.left g.cs g.cs' g.names g.others g.items (tbU c p t0 t1 t2 g.d) (tbU c p t0 t1 t2 g.du) /\ tbU c p t0 t1 t2 g.d2 = joiV g.left (g.names.map (idxC g.cs)) (g.others.map (idxC g.cs')) (g.items.map fun x => idxC g.cs' x.co) (tbU c p t0 t1 t2 g.d) (tbU c p t0 t1 t2 g.du)) hc ?_ ?_ ?_ ?_ ?_
 . intro g hg; cases hg
 . intro g hg
   unfold joU at hg
   simp only [List.mem_cons, List.not_mem_nil, or_false] at hg
   rcases hg with rfl | rfl | rfl
   . refine ⟨by decide, by decide, h.okJ h.u.1 (Int.le_trans h.u.2.1 qF) h.u.2.2, ?_⟩
     show stU 1 p t1 (addV t0 t2) = joiV false ([sC].map (idxC oC)) ([sC].map (idxC cC)) (itsJ.map fun x => idxC cC x.co) (addV t0 t2) t1
     rw [e1, e2, zee]; rfl
   . refine ⟨by decide, by decide, h.okJ h.o0 (Int.le_trans h.s0 qF) h.r0, ?_⟩
     show stU 1 p t1 t0 = joiV false ([sC].map (idxC oC)) ([sC].map (idxC cC)) (itsJ.map fun x => idxC cC x.co) t0 t1
     rw [e1, e2, zee]; rfl
   . refine ⟨by decide, by decide, h.okJ h.o2 (Int.le_trans h.s2 qF) h.r2, ?_⟩
     show stU 1 p t1 t2 = joiV false ([sC].map (idxC oC)) ([sC].map (idxC cC)) (itsJ.map fun x => idxC cC x.co) t2 t1
     rw [e1, e2, zee]; rfl
 . intro g hg; cases hg
 . intro g hg; cases hg
 . intro g hg; cases hg
theorem prU_ok (h : TU t0 t1 t2) (hc : c <= 4) : ∀ g ∈ prU c, g.is.length <= 12 /\ okTab (tbU c p t0 t1 t2 g.d) /\ sumC (tbU c p t0 t1 t2 g.d) <= 65536 /\ tbU c p t0 t1 t2 g.d2 = prjV g.is (tbU c p t0 t1 t2 g.d) := by
 have a := h.s0
 have b := h.s2
 have d := h.u.2.1
 have key : ∀ c, (isU c).length <= 12 -> (stU c p t1 = fun t => prjV (isU c) t) -> ∀ g ∈ [(⟨3, isU c, 4⟩ : PrjA), ⟨0, isU c, 5⟩, ⟨2, isU c, 6⟩], g.is.length <= 12 /\ okTab (tbU c p t0 t1 t2 g.d) /\ sumC (tbU c p t0 t1 t2 g.d) <= 65536 /\ tbU c p t0 t1 t2 g.d2 = prjV g.is (tbU c p t0 t1 t2 g.d) := fun c hl he g hg => by
  simp only [List.mem_cons, List.not_mem_nil, or_false] at hg
  rcases hg with rfl | rfl | rfl
  . exact ⟨hl, h.u.1, Int.le_trans d qF, congrFun he (addV t0 t2)⟩
  . exact ⟨hl, h.o0, Int.le_trans a qF, congrFun he t0⟩
  . exact ⟨hl, h.o2, Int.le_trans b qF, congrFun he t2⟩
 exact zn7 (P := fun c => ∀ g ∈ prU c, g.is.length <= 12 /\ okTab (tbU c p t0 t1 t2 g.d) /\ sumC (tbU c p t0 t1 t2 g.d) <= 65536 /\ tbU c p t0 t1 t2 g.d2 = prjV g.is (tbU c p t0 t1 t2 g.d)) hc (fun g hg => by cases hg) (fun g hg => by cases hg) (key 2 (by decide) rfl) (key 3 (by decide) rfl) (key 4 (by decide) rfl)
theorem whU_ok (h : TU t0 t1 t2) (hc : c <= 4) (hX : c = 0 -> ∃ t, (t.k = 1 ∨ t.k = 0) /\ okX oC p t) : ∀ g ∈ whU c, 500 <= g.n /\ g.n < 510 /\ (∃ t, okWh g.cs p t (tbU c p t0 t1 t2 g.d)) /\ tbU c p t0 t1 t2 g.d2 = whrV g.cs p (tbU c p t0 t1 t2 g.d) := by
 by_cases h0 : c = 0
 . subst h0
   obtain ⟨t, _, hx⟩ := hX rfl
   intro g hg
   unfold whU at hg
   simp only [List.mem_cons, List.not_mem_nil, or_false] at hg
   rcases hg with rfl | rfl | rfl
   . exact ⟨by decide, by decide, ⟨t, hx, h.u.1, h.u.2.2⟩, rfl⟩
   . exact ⟨by decide, by decide, ⟨t, hx, h.o0, h.r0⟩, rfl⟩
   . exact ⟨by decide, by decide, ⟨t, hx, h.o2, h.r2⟩, rfl⟩
 . have e : whU c = [] := by cases c with | zero => exact absurd rfl h0 | succ m => rfl
   rw [e]
   intro g hg; cases hg
theorem T5_sp {n : Int} (hc : c <= 4) (h : TU t0 t1 t2) (hX : c = 0 -> ∃ t, (t.k = 1 ∨ t.k = 0) /\ okX oC p t) : SpOk (ETb (tbU c p t0 t1 t2) (numG n) fun _ => p) Tryz.prog (T5 c) := fun f g hf args s v s' hx D ρ w args' hs hr => by
 have ok2 : ∀ k, k < 32 -> (tbU c p t0 t1 t2 k).length <= 4096 /\ ∀ x ∈ tbU c p t0 t1 t2 k, x.1.length <= 12 := fun k _ => ⟨(h.ok hc k).1.1, fun x hx => ((h.ok hc k).1.2.2 x hx).1⟩
 have hf : cond (Nat.beq f 62) (some (sp62g clU)) (cond (Nat.beq f 129) (some sp129) (cond (Nat.beq f 134) (some (sp134 (joU c))) (cond (Nat.beq f 133) (some (sp133 (prU c))) (cond (Nat.beq f 19) (some (sp2 adU)) (cond (Nat.beq f 17) (some (sp17 fun a b => Nat.beq a 4 && Nat.beq b 7)) (cond (Nat.beq f 89) (some (sp89 (csU c))) (cond (Nat.beq f 123) (some sp123) (cond (Nat.beq f 234) (some sp234) (cond (Nat.beq f 12) (some sp12) (cond (Nat.beq f 90) (some sp90) (cond (Nat.beq f 175) (some (sp175 (wnU c))) (cond (Nat.beq f 193) (some (sp193 (wcU c))) (cond (Nat.beq f 130) (some (sp130 (whU c))) (cond (Nat.beq f 13) (some sp13) none)))))))))))))) = some g := hf
 have step : ∀ {m : Nat} {x : List Value -> ASt -> Option (Value × ASt)} {y : Option (List Value -> ASt -> Option (Value × ASt))}, cond (Nat.beq f m) (some x) y = some g -> (f = m /\ x = g) ∨ y = some g := fun {m x y} h => by
  cases hz : Nat.beq f m
  . rw [hz] at h; exact .inr h
  . rw [hz] at h; exact .inl ⟨qU hz, Option.some.inj h⟩
 rcases step hf with ⟨rfl, rfl⟩ | hf
 . refine zqd (fun q hq => ?_) hx hs hr
   unfold clU at hq
   simp only [List.mem_cons, List.not_mem_nil, or_false] at hq
   rcases hq with rfl | rfl | rfl | rfl
   . exact ⟨zc7, h.ok (c := c) hc 0, h.r0⟩
   . exact ⟨zmo, h.ok (c := c) hc 1, h.r1⟩
   . exact ⟨zc7, h.ok (c := c) hc 2, h.r2⟩
   . exact ⟨zc7, h.u.1, h.u.2.2⟩
 rcases step hf with ⟨rfl, rfl⟩ | hf
 . exact zqa ok2 hx hs hr
 rcases step hf with ⟨rfl, rfl⟩ | hf
 . exact zqc (joU_ok h hc) hx hs hr
 rcases step hf with ⟨rfl, rfl⟩ | hf
 . exact zqb (prU_ok h hc) hx hs hr
 rcases step hf with ⟨rfl, rfl⟩ | hf
 . refine sp2_okb (fun q hq A n c' B m d w hn hm ht hu => ?_) hx hs hr
   unfold adU at hq
   simp only [List.mem_cons, List.not_mem_nil, or_false] at hq
   rcases hq with rfl | rfl
   . exact addE A n c' B m d _ _ w ht hu hn hm (zmm h.o0 h.o2 (by have a := h.s0; have b := h.s2; omega))
   . exact addE A n c' B m d _ _ w ht hu hn hm (h.add hc)
 rcases step hf with ⟨rfl, rfl⟩ | hf
 . refine sp17_okb (fun a b he => ?_) ok2 hx hs hr
   simp only [Bool.and_eq_true] at he
   rw [qU he.1, qU he.2]
   exact h.eq hc
 rcases step hf with ⟨rfl, rfl⟩ | hf
 . exact sp89_ok (csU_ok hc) hx hs hr
 rcases step hf with ⟨rfl, rfl⟩ | hf
 . exact sp123_ok hx hs hr
 rcases step hf with ⟨rfl, rfl⟩ | hf
 . exact sp234_ok hx hs hr
 rcases step hf with ⟨rfl, rfl⟩ | hf
 . exact sp12_ok hx hs hr
 rcases step hf with ⟨rfl, rfl⟩ | hf
 . exact sp90_ok hx hs hr
 rcases step hf with ⟨rfl, rfl⟩ | hf
 . refine sp175_ok (fun d hd => ?_) hx hs hr
   by_cases h0 : c = 0
   . subst h0
     obtain ⟨t, _, hX⟩ := hX rfl
     have hd : d ∈ [500] := hd
     rw [List.mem_singleton] at hd
     subst hd
     exact ⟨by decide, by decide, oC, t, hX⟩
   . have e : wnU c = [] := by cases c with | zero => exact absurd rfl h0 | succ m => rfl
     rw [e] at hd; cases hd
 rcases step hf with ⟨rfl, rfl⟩ | hf
 . refine sp193_ok (fun q hq => ?_) hx hs hr
   by_cases h0 : c = 0
   . subst h0
     obtain ⟨t, ht, hX⟩ := hX rfl
     have hq : q ∈ [((500 : Nat), oC)] := hq
     rw [List.mem_singleton] at hq
     subst hq
     exact ⟨by decide, by decide, t, ht, hX⟩
   . have e : wcU c = [] := by cases c with | zero => exact absurd rfl h0 | succ m => rfl
     rw [e] at hq; cases hq
 rcases step hf with ⟨rfl, rfl⟩ | hf
 . exact sp130_ok (whU_ok h hc hX) hx hs hr
 rcases step hf with ⟨rfl, rfl⟩ | hf
 . exact sp13_ok hx hs hr
 . cases hf
theorem R5_ok {n : Int} (hc : cU n c) (h : TU t0 t1 t2) (hX : c = 0 -> ∃ t, (t.k = 1 ∨ t.k = 0) /\ okX oC p t) : (T5 c).Ok (ETb (tbU c p t0 t1 t2) (numG n) fun _ => p) Tryz.prog /\ CodeOk (ETb (tbU c p t0 t1 t2) (numG n) fun _ => p) Tryz.prog (R5 c) :=
 ⟨T5_ok hc, (rn_ok (T5_ok hc) (zhr (T5_ok hc)) (T5_sp (cU_le hc) h hX) 1000).1⟩
end
end
end Go.Proofs.YthcalfeoejdcgaaGreatDoor
