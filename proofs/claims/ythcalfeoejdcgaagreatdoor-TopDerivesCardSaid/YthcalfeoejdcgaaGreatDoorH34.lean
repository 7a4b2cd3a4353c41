import Derived.Lib.AppendZeros
import Derived.KernelRfl
import Derived.Test.YthcalfeoejdcgaaGreatDoorH33
import Derived.Deep.RegionLaw
namespace Go.Proofs.YthcalfeoejdcgaaGreatDoor
set_option linter.unusedSimpArgs false
set_option linter.unusedVariables false
section
open Go.BigFrame Go.RowKit
section
variable {tb : Nat -> Tab} {num : Nat -> Int} {D : Nat -> Prop} {ρ : Nat -> Pl} {s : ASt} {w w' : World}
end
def NodAt (p : List Nod) (v : Value) (sn : Nat -> Option Obj) : Prop := ∃ A n c, v = .slice A n c /\ n <= c /\ ∀ W : World, (∀ k ob, sn k = some ob -> W.heap[k]? = some ob) -> rNod W A n p
def ZnsAt (v : Value) (sn : Nat -> Option Obj) : Prop := ∃ A n c, v = .slice A n c /\ n <= c /\ ∀ W : World, (∀ k ob, sn k = some ob -> W.heap[k]? = some ob) -> rZns W A n
theorem nodAt_of {w w' : World} {A : Option Addr} {n c : Nat} {p : List Nod} (h : rNod w' A n p) (hB : ∀ a, A = some a -> w.heap.size <= a.block) (hc : n <= c) : NodAt p (.slice A n c) (snapOf w w') :=
 ⟨A, n, c, rfl, hc, fun W hW => Fl.from h (fun _ => hB) fun b hb hl => by
  have : snapOf w w' b = some w'.heap[b] := by
   unfold snapOf
   rw [if_pos qF, Array.getElem?_eq_getElem hl]
  rw [hW b _ this, Array.getElem?_eq_getElem hl]⟩
def ETb (tb : Nat -> Tab) (num : Nat -> Int) (nod : Nat -> List Nod) : Ev := fun d v sn => (d < 32 /\ TabAt (tb d) v sn) ∨ (600 <= d /\ v = .int .i64 (num d)) ∨ ((500 <= d /\ d < 510) /\ NodAt (nod d) v sn) ∨ (d = 510 /\ ZnsAt v sn)
section
variable {tb : Nat -> Tab} {num : Nat -> Int} {nod : Nat -> List Nod} {D : Nat -> Prop} {ρ : Nat -> Pl} {s : ASt} {w w' : World}
theorem zp3 {k : Nat} {v : Value} (hv : Rv (ETb tb num nod) D ρ (.chan (some k)) v) (h : Sim (ETb tb num nod) D ρ s w) (h1 : 500 <= k % 1024) (h2 : k % 1024 < 510) : ∃ A n c, v = .slice A n c /\ n <= c /\ rNod w A n (nod (k % 1024)) := by
 obtain ⟨sn, he, hs⟩ := zig hv h
 rcases he with ⟨h6, _⟩ | ⟨h6, _⟩ | ⟨_, A, n, c, e, hc, ht⟩ | ⟨h6, _⟩
 . omega
 . omega
 . exact ⟨A, n, c, e, hc, ht w hs⟩
 . omega
theorem zp4 {k : Nat} {v : Value} (hv : Rv (ETb tb num nod) D ρ (.chan (some k)) v) (h : Sim (ETb tb num nod) D ρ s w) (h1 : zon k = true) : ∃ A n c, v = .slice A n c /\ n <= c /\ rZns w A n := by
 have h1 := qU h1
 obtain ⟨sn, he, hs⟩ := zig hv h
 rcases he with ⟨h6, _⟩ | ⟨h6, _⟩ | ⟨h6, _⟩ | ⟨_, A, n, c, e, hc, ht⟩
 . omega
 . omega
 . omega
 . exact ⟨A, n, c, e, hc, ht w hs⟩
theorem rv_num {k : Nat} {v : Value} (hv : Rv (ETb tb num nod) D ρ (.chan (some k)) v) (h : Sim (ETb tb num nod) D ρ s w) (h1 : 600 <= k % 1024) : v = .int .i64 (num (k % 1024)) := by
 obtain ⟨sn, he, hs⟩ := zig hv h
 rcases he with ⟨h6, _⟩ | ⟨_, e⟩ | ⟨h6, _⟩ | ⟨h6, _⟩
 . omega
 . exact e
 . omega
 . omega
theorem zcq {k : Nat} {v : Value} (hv : Rv (ETb tb num nod) D ρ (.chan (some k)) v) (h : Sim (ETb tb num nod) D ρ s w) (hk : tDe k = true) : ∃ A n c, v = .slice A n c /\ n <= c /\ rTab w A n (tb (k % 1024)) := by
 have hk := qS hk
 obtain ⟨sn, he, hs⟩ := zig hv h
 rcases he with ⟨_, A, n, c, e, hc, ht⟩ | ⟨h6, _⟩ | ⟨h6, _⟩ | ⟨h6, _⟩
 . exact ⟨A, n, c, e, hc, ht w hs⟩
 all_goals omega
theorem zqa (hok : ∀ d, d < 32 -> (tb d).length <= 4096 /\ ∀ x ∈ tb d, x.1.length <= 12) {args : List Value} {v : Value} {s' : ASt} (hx : sp129 args s = some (v, s')) {args' : List Value} (h : Sim (ETb tb num nod) D ρ s w) (hr : Rvs (ETb tb num nod) D ρ args args') :
 Calls Tryz.prog 129 ⟨args'⟩ w fun e w' => ∃ v' ρ' D', e = .returned v' /\ Rv (ETb tb num nod) D' ρ' v v' /\ Sim (ETb tb num nod) D' ρ' s' w' /\ Ex D s ρ w D' s' ρ' w' := by
 unfold sp129 at hx
 split at hx
 . rename_i k
   obtain ⟨hk, e⟩ := zax hx
   cases e
   obtain ⟨b, m, rfl, h1, h2⟩ := zag hr
   obtain rfl := zay h2
   obtain ⟨A, n, c, rfl, hc, ht⟩ := zcq h1 h hk
   have hk2 := qS hk
   obtain ⟨o1, o2⟩ := hok (k % 1024) qF
   refine (zog A n c _ w ht (by have := ht.len; omega) o2).mono ?_
   rintro e w' ⟨A', n', c', rfl, hr', hc', hb⟩
   obtain ⟨r1, r2, r3⟩ := zd3 h hb (d := k % 1024) qF (v := .slice A' n' c') rfl (.inl ⟨by omega, zbw hr' (qV _) hc'⟩)
   exact ⟨_, _, _, rfl, r1, r2, r3⟩
 . cases hx
theorem sp17_okb {S : Nat -> Nat -> Bool} (hS : ∀ a b, S a b = true -> tb a = tb b) (hok : ∀ d, d < 32 -> (tb d).length <= 4096 /\ ∀ x ∈ tb d, x.1.length <= 12) {args : List Value} {v : Value} {s' : ASt} (hx : sp17 S args s = some (v, s')) {args' : List Value} (h : Sim (ETb tb num nod) D ρ s w) (hr : Rvs (ETb tb num nod) D ρ args args') :
 Calls Tryz.prog 17 ⟨args'⟩ w fun e w' => ∃ v' ρ' D', e = .returned v' /\ Rv (ETb tb num nod) D' ρ' v v' /\ Sim (ETb tb num nod) D' ρ' s' w' /\ Ex D s ρ w D' s' ρ' w' := by
 unfold sp17 at hx
 split at hx
 . rename_i a b
   obtain ⟨hk, e⟩ := zax hx
   cases e
   simp only [Bool.and_eq_true] at hk
   obtain ⟨⟨ka, kb⟩, kS⟩ := hk
   obtain ⟨x, m, rfl, h1, h2⟩ := zag hr
   obtain ⟨y, m, rfl, h3, h4⟩ := zag h2
   obtain rfl := zay h4
   obtain ⟨A, n, c, rfl, hc, ht⟩ := zcq h1 h ka
   obtain ⟨B, m, d, rfl, hd, hu⟩ := zcq h3 h kb
   rw [<- hS _ _ kS] at hu
   have ha := qS ka
   obtain ⟨o1, o2⟩ := hok (a % 1024) qF
   refine (sameTE A n c B m d _ w ht hu qF (fun x hx => by have := o2 x hx; omega)).mono ?_
   rintro e w' ⟨rfl, hb⟩
   obtain ⟨r1, r2⟩ := zbv h hb
   exact ⟨_, _, _, rfl, .flat _ rfl, r1, r2⟩
 . cases hx
theorem zqd {L : List (Nat × List Col)} (hok : ∀ p ∈ L, okCols p.2 /\ okTab (tb p.1) /\ ∀ x ∈ tb p.1, okRow p.2 x.1) {args : List Value} {v : Value} {s' : ASt} (hx : sp62g L args s = some (v, s')) {args' : List Value} (h : Sim (ETb tb num nod) D ρ s w) (hr : Rvs (ETb tb num nod) D ρ args args') :
 Calls Tryz.prog 62 ⟨args'⟩ w fun e w' => ∃ v' ρ' D', e = .returned v' /\ Rv (ETb tb num nod) D' ρ' v v' /\ Sim (ETb tb num nod) D' ρ' s' w' /\ Ex D s ρ w D' s' ρ' w' := by
 unfold sp62g at hx
 split at hx
 . rename_i nm co k
   obtain ⟨hk, e⟩ := zax hx
   cases e
   rw [Bool.and_eq_true] at hk
   obtain ⟨hk, hf⟩ := hk
   obtain ⟨p, hp, hf⟩ := List.any_eq_true.1 hf
   rw [Bool.and_eq_true] at hf
   obtain ⟨he, hf⟩ := hf
   have he := qU he
   obtain ⟨x, m, rfl, h1, h2⟩ := zag hr
   obtain rfl := zay h2
   obtain ⟨l, rfl, h3⟩ := zdl h1
   obtain ⟨a1, m, rfl, g1, h4⟩ := zag h3
   obtain ⟨a2, m, rfl, g2, h5⟩ := zag h4
   obtain ⟨a3, m, rfl, g3, h6⟩ := zag h5
   obtain ⟨a4, m, rfl, g4, h7⟩ := zag h6
   obtain rfl := zay h7
   obtain rfl := zat g1 rfl
   obtain rfl := zat g3 rfl
   obtain ⟨cA, cN, cC, rfl, hco, hcc⟩ := zbn hf h g2
   have hk2 := qS hk
   obtain ⟨A, n, c, rfl, hc, ht⟩ := zcq g4 h (by unfold tDe; exact Nat.ble_eq_true_of_le qF)
   obtain ⟨o1, o2, o3⟩ := hok p hp
   rw [<- he] at ht
   refine (evalE ⟨nm, cA, cN, cC, none, 0, 0, A, n, c⟩ _ _ w hco ht o1 o2 o3).mono ?_
   rintro e w' ⟨rfl, hb⟩
   obtain ⟨r1, r2⟩ := zbv h hb
   exact ⟨_, _, _, rfl, .flat _ rfl, r1, r2⟩
 . cases hx
theorem ze0 {k : Nat} {x : Value} (hk : 600 <= k % 1024) (h : HV (ETb tb num nod) (.chan (some k)) x) : x = .int .i64 (num (k % 1024)) := by
 rcases h with ⟨h, _⟩ | ⟨k', sn, h, he⟩
 . cases h
 . cases h
   rcases he with ⟨h, _⟩ | ⟨_, h⟩ | ⟨h, _⟩ | ⟨h, _⟩
   . omega
   . exact h
   . omega
   . omega
theorem zks {k : Nat} (h1 : 600 <= k) (h2 : k < 1024) : HR (ETb tb num nod) (.chan (some k)) (.int .i64 (num k)) := by
 have e : k % 1024 = k := Nat.mod_eq_of_lt h2
 exact .inr ⟨k, rfl, by unfold nGlob; omega, rfl, fun sn => .inr (.inl ⟨by omega, by rw [e]⟩)⟩
theorem zkp {E : Ev} (hg : glb s = true) (h : Sim E D ρ s w) : Tbs w := zfa h fun b hb => (zl6 (List.all_eq_true.1 hg b hb)).1
set_option maxRecDepth 100000 in
theorem zonesE2 (w : World) : Calls Tryz.prog 12 #[] w fun e w' => ∃ A, e = .returned (.slice A 3 3) /\ ZnsAt (.slice A 3 3) (snapOf w w') /\ Below w.heap.size w w' := by
 go_enter Tryz.func12, Tryz.ntmps12
 go_wp2
 go_ret
 refine ⟨_, rfl, ⟨_, _, _, rfl, qV _, fun W hW => ⟨[⟨⟨#[122, 48]⟩, 60, none, 0, 0⟩, ⟨⟨#[122, 49]⟩, -300, some ⟨w.heap.size, 0, none⟩, 2, 2⟩, ⟨⟨#[122, 50]⟩, 120, some ⟨w.heap.size + 1, 0, none⟩, 1, 1⟩], ?_, ?_⟩⟩, ((zae _ _).alloc qH _).alloc (by simp; omega) _⟩
 . refine zhd (e := 80) rfl (hW _ _ ?_)
   unfold snapOf
   rw [if_pos qF]
   exact zb7 qH
 . refine ⟨⟨rfl, rfl, rShf.nil _ _⟩, ⟨rfl, rfl, ?_⟩, ⟨rfl, rfl, ?_⟩, trivial⟩
   . refine zhd (xs := flat encShf [⟨145000, -240⟩, ⟨147000, -300⟩]) (e := 88) rfl (hW _ _ ?_)
     unfold snapOf
     rw [if_pos (qV _), Below.heap_alloc _ _ _ (by simp; omega), Below.heap_alloc _ _ _ qH]
     exact zb7 qH
   . refine zhd (xs := flat encShf [⟨145450, 0⟩]) (e := 88) rfl (hW _ _ ?_)
     unfold snapOf
     rw [if_pos qF, Below.heap_alloc _ _ _ qH]
     exact zb7 qH
theorem sp12_ok {args : List Value} {v : Value} {s' : ASt} (hx : sp12 args s = some (v, s')) {args' : List Value} (h : Sim (ETb tb num nod) D ρ s w) (hr : Rvs (ETb tb num nod) D ρ args args') :
 Calls Tryz.prog 12 ⟨args'⟩ w fun e w' => ∃ v' ρ' D', e = .returned v' /\ Rv (ETb tb num nod) D' ρ' v v' /\ Sim (ETb tb num nod) D' ρ' s' w' /\ Ex D s ρ w D' s' ρ' w' := by
 unfold sp12 at hx
 split at hx
 . cases hx
   obtain rfl := zay hr
   refine (zonesE2 w).mono ?_
   rintro e w' ⟨A, rfl, hz, hb⟩
   obtain ⟨r1, r2, r3⟩ := zd3 h hb (d := 510) qF (v := .slice A 3 3) rfl (.inr (.inr (.inr ⟨rfl, hz⟩)))
   exact ⟨_, _, _, rfl, r1, r2, r3⟩
 . cases hx
theorem zj2 {w : World} : ∀ {zs : List Zon} {ys : List (ByteArray × Int × List Shf)} (_ : ∀ y ∈ ys, y ∈ zoneL) (_ : dAll (dZn w) zs ys), dAll (fun z l => dZon w z l /\ okZon z l) zs (ys.map fun y => y.2.2)
 | [], [], _, _ => trivial
 | z :: zs, y :: ys, hm, h => by
   obtain ⟨⟨e1, e2, e3⟩, h2⟩ := h
   obtain ⟨k1, k2, k3, k4⟩ := zfr y (hm y (List.mem_cons_self ..))
   exact ⟨⟨e3, k1, by rw [<- e3.len]; exact k2, by rw [e2]; exact k3, by rw [e2]; exact k4⟩, zj2 (fun x hx => hm x (qW _ hx)) h2⟩
 | [], _ :: _, _, h => by cases h
 | _ :: _, [], _, h => by cases h
theorem sp90_ok {args : List Value} {v : Value} {s' : ASt} (hx : sp90 args s = some (v, s')) {args' : List Value} (h : Sim (ETb tb num nod) D ρ s w) (hr : Rvs (ETb tb num nod) D ρ args args') :
 Calls Tryz.prog 90 ⟨args'⟩ w fun e w' => ∃ v' ρ' D', e = .returned v' /\ Rv (ETb tb num nod) D' ρ' v v' /\ Sim (ETb tb num nod) D' ρ' s' w' /\ Ex D s ρ w D' s' ρ' w' := by
 unfold sp90 at hx
 split at hx
 . rename_i z
   obtain ⟨hk, e⟩ := zax hx
   cases e
   obtain ⟨x, m, rfl, h1, h2⟩ := zag hr
   obtain rfl := zay h2
   obtain ⟨A, n, c, rfl, hc, hz⟩ := zp4 h1 h hk
   obtain ⟨zs, h3, h4⟩ := hz
   have hn : n <= 1000 := by have e1 := h3.len; have e2 := h4.len; have e3 : zoneL.length = 3 := rfl; omega
   refine (zonedE A n c zs (zoneL.map fun y => y.2.2) w h3 (zj2 (fun y hy => hy) h4) hn).mono ?_
   rintro e w' ⟨rfl, hb⟩
   obtain ⟨r1, r2⟩ := zbv h hb
   exact ⟨_, _, _, rfl, .flat _ rfl, r1, r2⟩
 . cases hx
end
theorem gTab.mono {cs : List Col} {N M : Int} {t : Tab} (h : gTab cs N t) (hm : N <= M) : gTab cs M t := ⟨h.1, h.2.1, Int.le_trans h.2.2.1 hm, h.2.2.2⟩
section
variable {ns os ps : List Int} {t u : Tab}
end
theorem fil_tab {a : Tab} (h : okTab a) (p : List Val × Int -> Bool) : okTab (a.filter p) /\ sumC (a.filter p) <= sumC a := by
 refine ⟨⟨⟨qR (List.length_filter_le _ _) h.1.1, h.1.2.1.filter _, fun y hy => h.1.2.2 y (List.mem_filter.1 hy).1⟩, fun y hy => h.2 y (List.mem_filter.1 hy).1⟩, zgt h.2 p⟩
section
variable {c : Nat} {t0 t1 t2 : Tab}
structure TJ (t0 t1 t2 : Tab) : Prop where
 o0 : okTab t0
 o1 : okTab t1
 o2 : okTab t2
 s0 : sumC t0 <= 24
 s1 : sumC t1 <= 24
 r0 : ∀ x ∈ t0, okRow oC x.1
 r1 : ∀ x ∈ t1, okRow cC x.1
 r2 : ∀ x ∈ t2, okRow oC x.1
end
end
section
open Go.RowKit
section
variable {cs : List Col} {p : List Nod} {t : Tab}
theorem zqs (h : okTab t) : okTab (whrV cs p t) /\ sumC (whrV cs p t) <= sumC t := fil_tab h _
end
end
section
open Go.BigFrame Go.RowKit
theorem whr_snoc {cs : List Col} {p : List Nod} {t : Tab} {k : Nat} {x : List Val × Int} (h : t[k]? = some x) : whrV cs p (t.take (k + 1)) = if (truV (evaV cs x.1 p) == 1) = true then whrV cs p (t.take k) ++ [x] else whrV cs p (t.take k) := by
 unfold whrV
 rw [zbc h, List.filter_append, List.filter_cons]
 cases hq : (truV (evaV cs x.1 p) == 1) <;> simp
theorem zqr {cs : List Col} {p : List Nod} (t : Tab) : (whrV cs p t).length <= t.length := List.length_filter_le _ _
set_option maxRecDepth 100000 in
set_option maxHeartbeats 8000000 in
theorem whereX {cs : List Col} {tk : Knd} {t : Tab} (op : Int) (so : ByteArray) (A : Option Addr) (n c : Nat) (p : List Nod) (nm : ByteArray) (cA : Option Addr) (cN cC : Nat) (tA : Option Addr) (tN tC : Nat) (zA : Option Addr) (zN zC : Nat) (w : World) (hX : okX cs p tk) (htab : okTab t) (hrow : ∀ x ∈ t, okRow cs x.1) (hn : rNod w A n p) (hc : rCol w cA cN cs) (hcc : cN <= cC) (ht : rTab w tA tN t) (hz : rZns w zA zN) (hT : Tbs w) :
 Calls Tryz.prog 130 #[.agg #[.int .i64 op, .string so, .slice none 0 0, .slice none 0 0, .slice none 0 0, .slice A n c], .agg #[.string nm, .slice cA cN cC, .slice none 0 0, .slice tA tN tC], .slice zA zN zC] w (Tab2R (whrV cs p t) w) := by
 obtain ⟨iE, PE⟩ := pEnt
 obtain ⟨w0, hw0⟩ : ∃ w0, w0 = (w.alloc (.cells #[.int .i64 op, .string so, .slice none 0 0, .slice none 0 0, .slice none 0 0, .slice A n c] 44)).alloc (.cells #[.string nm, .slice cA cN cC, .slice none 0 0, .slice tA tN tC] 31) := ⟨_, rfl⟩
 have HB0 : Hid (Below w.heap.size w w0) := qL (by rw [hw0]; exact (zae _ _).alloc qH _)
 have a5 : w0.cell? ⟨w.heap.size, 5, none⟩ = some (.slice A n c) := by rw [hw0]; exact qD
 have b1 : w0.cell? ⟨w.heap.size + 1, 1, none⟩ = some (.slice cA cN cC) := by rw [hw0]; exact qD
 have HEV := qL fun W (hb : Below w.heap.size w W) (rA : Option Addr) (rN rC : Nat) (r : List Val) (hr : rVal W rA rN r) (hrow : okRow cs r) => evalX A n c p cA cN cC rA rN rC r zA zN zC W hX (hn.later hb) (hc.later hb) hcc hr hrow (hz.later hb) (hT.later hb (qV _))
 have HTAB := qL htab
 have HROW := qL hrow
 have HT := qL ht
 have LT := qL ht.len
 have htn : tN <= 4096 := by have := ht.len; have := htab.1.1; omega
 clear hX htab hrow hn hc ht hz hT
 go_enter Tryz.func130, Tryz.ntmps130
 go_wp2
 rw [<- hw0]
 clear hw0
 go_loopw [8, 16] (fun v iv wr => ∃ k : Nat, k <= tN /\ iv = .int .i64 k /\ Below w0.heap.size w0 wr /\ Hid (ownD kEnt wr w0.heap.size v (whrV cs p (t.take k)).length (whrV cs p (t.take k)))) (fun _ iv _ => tN - (intOf iv).toNat)
 case atStart => exact ⟨0, by omega, rfl, za0 _, qL (ownD.nil _ _)⟩
 case round =>
  obtain ⟨k, hk, rfl, hbw, HO⟩ := hrel
  obtain ⟨wx, rfl⟩ : ∃ wx, wx = wr := ⟨_, rfl⟩
  have HBW := qL hbw
  by_cases hlt : k < tN
  . obtain ⟨g1, o1, rfl, hc1⟩ := HT.out.opn qF
    obtain ⟨x, hx⟩ := zah (l := t) (k := k) (by have := LT.out; omega)
    obtain ⟨xA, xN, xC, x1, x2, x3⟩ := hc1 k x hx
    have X3 := qL x3
    have hB := btr HB0.out hbw
    have HBB := qL hB
    have z1 := qM hB x1
    have z2 := qM hB x2
    have hmm := qP hx
    have HSN : Hid (whrV cs p (t.take (k + 1)) = if (truV (evaV cs x.1 p) == 1) = true then whrV cs p (t.take k) ++ [x] else whrV cs p (t.take k)) := qL (whr_snoc hx)
    have HXB : Hid (0 < xN -> ∀ a, xA = some a -> a.block < w0.heap.size) := qL fun h0 a e => qQ (zif x3 h0 a e) HB0.out.size
    have hsl : (whrV cs p (t.take k)).length < 1000000 := by have h1 := zqr (cs := cs) (p := p) (t.take k); have h2 := List.length_take (i := k) (l := t); omega
    have HV0 : Hid (∀ y, u8.ownBlock = some y -> w0.heap.size <= y) := qL fun y e => (HO.out.lt y e).1
    have hba : Below wx.heap.size wx (wx.alloc (.cells #[.slice xA xN xC, .int .i64 x.2] 65)) := zae _ _
    have HE2 := qL (HEV.out (wx.alloc (.cells #[.slice xA xN xC, .int .i64 x.2] 65)) (btr hB hba) xA xN xC x.1 (x3.later (btr hB hba)) (HROW.out x hmm))
    have a5 := qM (btr hbw hba) a5
    have b1 := qM (btr hbw hba) b1
    have q0 : (wx.alloc (.cells #[.slice xA xN xC, .int .i64 x.2] 65)).cell? ⟨wx.heap.size, 0, none⟩ = some (.slice xA xN xC) := by simp
    have q1 : (wx.alloc (.cells #[.slice xA xN xC, .int .i64 x.2] 65)).cell? ⟨wx.heap.size, 1, none⟩ = some (.int .i64 x.2) := by simp
    obtain ⟨ev, hev⟩ : ∃ ev, ev = evaV cs x.1 p := ⟨_, rfl⟩
    rw [<- hev] at HE2 HSN
    have HBA := qL hba
    clear hc1 hx x3 hB hbw x1 x2 hmm hba hev
    go_wp2_with fail
    refine HE2.out.mono ?_
    rintro e w5 ⟨rfl, hb5⟩
    have HB5 := qL (btr HBA.out hb5)
    have hb6 : Below w5.heap.size w5 (w5.alloc (.cells #[.int .i64 ev.k, .int .i64 ev.m, .string ev.s] 46)) := zae _ _
    have q0 := qM hb6 (qM hb5 q0)
    have q1 := qM hb6 (qM hb5 q1)
    have HB6 := qL (btr HB5.out hb6)
    have HTR := qL (zjs ev (w5.alloc (.cells #[.int .i64 ev.k, .int .i64 ev.m, .string ev.s] 46)))
    clear hb5 hb6 a5 b1 z1 z2
    obtain ⟨tv, htv⟩ : ∃ tv, tv = truV ev := ⟨_, rfl⟩
    rw [<- htv] at HTR HSN
    clear htv
    go_wp2_with fail
    refine HTR.out.mono ?_
    rintro e w7 ⟨rfl, hb7⟩
    have q0 := qM hb7 q0
    have q1 := qM hb7 q1
    have HB7 := qL (btr HB6.out hb7)
    clear hb7
    cases hd : (tv == 1)
    . have HSF : Hid (whrV cs p (t.take (k + 1)) = whrV cs p (t.take k)) := qL (by rw [HSN.out, hd]; rfl)
      have HBF := qL (btr HBW.out HB7.out)
      have HOF : Hid (ownD kEnt w7 w0.heap.size u8 (whrV cs p (t.take (k + 1))).length (whrV cs p (t.take (k + 1)))) := qL (za2 (HO.out.later HB7.out) HSF.out)
      go_wp2
      go_roundw
      case rel => exact ⟨k + 1, by omega, by go_num, HBF.out, HOF⟩
      case measure => simp [intOf]; omega
    . have HSF : Hid (whrV cs p (t.take (k + 1)) = whrV cs p (t.take k) ++ [x]) := qL (by rw [HSN.out, hd]; rfl)
      have HOA : Hid (ownD kEnt (w7.alloc (.cells #[.slice xA xN xC, .int .i64 x.2] 65)) w0.heap.size u8 (whrV cs p (t.take k)).length (whrV cs p (t.take k))) := qL (HO.out.later (HB7.out.alloc HB7.out.size _))
      have HRA : Hid (rVal (w7.alloc (.cells #[.slice xA xN xC, .int .i64 x.2] 65)) xA xN x.1) := qL ((X3.out.later (btr HBB.out HB7.out)).later (zae _ _))
      have HFF := qL (zh3 (n := xN) HV0.out HXB.out)
      have hsz5 : w0.heap.size <= (w7.alloc (.cells #[.slice xA xN xC, .int .i64 x.2] 65)).heap.size := qR (btr HBW.out HB7.out).size (zae _ _).size
      go_wp2_with (at_builtin; refine zaq _ rfl _ _ rfl PE HOA.out ⟨_, 0, none⟩ ⟨xA, xN, xC, x.2⟩ x rfl rfl (zan _ _ _ _ _ _) ⟨HRA.out, rfl⟩ HFF.out hsl hsz5 ?_; intro v' w' hown' hgrow hat)
      have HBF := qL (zaf ((btr HBW.out HB7.out).alloc (btr HBW.out HB7.out).size _) hgrow HV0.out)
      have HOF : Hid (ownD kEnt w' w0.heap.size v' (whrV cs p (t.take (k + 1))).length (whrV cs p (t.take (k + 1)))) := qL (za2 hown' HSF.out)
      clear hown' hgrow hat
      go_wp2
      go_roundw
      case rel => exact ⟨k + 1, by omega, by go_num, HBF.out, HOF⟩
      case measure => simp [intOf]; omega
  . obtain rfl : k = tN := by omega
    have HTT : t.take k = t := List.take_of_length_le (by have := LT.out; omega)
    obtain ⟨A8, c8, rfl, hcc8, hrd8, hfr8⟩ := HO.out.rd
    have hrd9 : rTab wx A8 (whrV cs p (t.take k)).length (whrV cs p t) := by
     have h := hrd8
     rw [HTT] at h ⊢
     exact h
    have H := qL (zog A8 (whrV cs p (t.take k)).length c8 (whrV cs p t) wx hrd9 (by rw [HTT]; have := zqr (cs := cs) (p := p) t; have := LT.out; omega) (fun y hy => (HTAB.out.1.2.2 y (List.mem_filter.1 hy).1).1))
    clear hrd8 hrd9 hfr8 HTT
    go_wp2_with fail
    refine H.out.mono ?_
    rintro e w5 ⟨A9, n9, c9, rfl, hr9, hc9, hb9⟩
    have HR9 := qL hr9
    have HB9 := qL (btr HB0.out (btr hbw hb9))
    have HSZ := qL (qR HB0.out.size hbw.size)
    clear hr9 hb9
    go_wp2
    go_ret2
    exact ⟨_, _, _, rfl, HR9.out.mono HSZ.out, hc9, HB9.out⟩
theorem condX {cs : List Col} {t : Knd} (A : Option Addr) (n c : Nat) (p : List Nod) (cA : Option Addr) (cN cC : Nat) (zA : Option Addr) (zN zC : Nat) (w : World) (hX : okX cs p t) (ht : t.k = 1 ∨ t.k = 0) (hn : rNod w A n p) (hc : rCol w cA cN cs) (hcc : cN <= cC) (hz : rZns w zA zN) (hT : Tbs w) :
 Calls Tryz.prog 193 #[.slice A n c, .slice cA cN cC, .slice zA zN zC] w fun e w' => e = .returned (.int .i64 0) /\ Below w.heap.size w w' := by
 have H := qL (typeX A n c p cA cN cC zA zN zC w hX hn hc hcc hz hT)
 clear hX hn hc hcc hz hT
 obtain ⟨k, nl⟩ := t
 simp only at ht
 rcases ht with rfl | rfl
 all_goals
  go_enter Tryz.func193, Tryz.ntmps193
  go_wp2_with fail
  refine H.out.mono ?_
  rintro e w1 ⟨rfl, hb1⟩
  have HB := qL hb1
  clear hb1
  go_wp2
  go_ret
  exact ⟨rfl, HB.out⟩
section
variable {tb : Nat -> Tab} {num : Nat -> Int} {nod : Nat -> List Nod} {D : Nat -> Prop} {ρ : Nat -> Pl} {s : ASt} {w w' : World}
theorem sp175_ok {L : List Nat} (hL : ∀ d ∈ L, 500 <= d /\ d < 510 /\ ∃ cs t, okX cs (nod d) t) {args : List Value} {v : Value} {s' : ASt} (hx : sp175 L args s = some (v, s')) {args' : List Value} (h : Sim (ETb tb num nod) D ρ s w) (hr : Rvs (ETb tb num nod) D ρ args args') :
 Calls Tryz.prog 175 ⟨args'⟩ w fun e w' => ∃ v' ρ' D', e = .returned v' /\ Rv (ETb tb num nod) D' ρ' v v' /\ Sim (ETb tb num nod) D' ρ' s' w' /\ Ex D s ρ w D' s' ρ' w' := by
 unfold sp175 at hx
 split at hx
 . rename_i k
   obtain ⟨hk, e⟩ := zax hx
   cases e
   rw [Bool.and_eq_true] at hk
   obtain ⟨hk, hg⟩ := hk
   obtain ⟨d, hd, he⟩ := List.any_eq_true.1 hk
   have he := qU he
   obtain ⟨l1, l2, cs, t, hX⟩ := hL d hd
   rw [he] at l1 l2 hX
   obtain ⟨x, m, rfl, h1, h2⟩ := zag hr
   obtain rfl := zay h2
   obtain ⟨A, n, c, rfl, hc, hn⟩ := zp3 h1 h l1 l2
   refine (validX A n c _ w hX hn (zkp hg h)).mono ?_
   rintro e w' ⟨rfl, hb⟩
   obtain ⟨r1, r2⟩ := zbv h hb
   exact ⟨_, _, _, rfl, .flat _ rfl, r1, r2⟩
 . cases hx
theorem sp193_ok {L : List (Nat × List Col)} (hL : ∀ p ∈ L, 500 <= p.1 /\ p.1 < 510 /\ ∃ t, (t.k = 1 ∨ t.k = 0) /\ okX p.2 (nod p.1) t) {args : List Value} {v : Value} {s' : ASt} (hx : sp193 L args s = some (v, s')) {args' : List Value} (h : Sim (ETb tb num nod) D ρ s w) (hr : Rvs (ETb tb num nod) D ρ args args') :
 Calls Tryz.prog 193 ⟨args'⟩ w fun e w' => ∃ v' ρ' D', e = .returned v' /\ Rv (ETb tb num nod) D' ρ' v v' /\ Sim (ETb tb num nod) D' ρ' s' w' /\ Ex D s ρ w D' s' ρ' w' := by
 unfold sp193 at hx
 split at hx
 . rename_i k co z
   obtain ⟨hk, e⟩ := zax hx
   cases e
   simp only [Bool.and_eq_true] at hk
   obtain ⟨hk, hz, hg⟩ := hk
   obtain ⟨p, hp, he⟩ := List.any_eq_true.1 hk
   rw [Bool.and_eq_true] at he
   obtain ⟨he, hf⟩ := he
   have he := qU he
   obtain ⟨l1, l2, t, ht, hX⟩ := hL p hp
   rw [he] at l1 l2 hX
   obtain ⟨x1, m, rfl, h1, hr⟩ := zag hr
   obtain ⟨x2, m, rfl, h2, hr⟩ := zag hr
   obtain ⟨x3, m, rfl, h3, hr⟩ := zag hr
   obtain rfl := zay hr
   obtain ⟨A, n, c, rfl, hc, hn⟩ := zp3 h1 h l1 l2
   obtain ⟨cA, cN, cC, rfl, hco, hcc⟩ := zbn hf h h2
   obtain ⟨zA, zN, zC, rfl, hzc, hzn⟩ := zp4 h3 h hz
   refine (condX A n c _ cA cN cC zA zN zC w hX ht hn hco hcc hzn (zkp hg h)).mono ?_
   rintro e w' ⟨rfl, hb⟩
   obtain ⟨r1, r2⟩ := zbv h hb
   exact ⟨_, _, _, rfl, .flat _ rfl, r1, r2⟩
 . cases hx
theorem zou {co : Value} {n d d2 : Nat} : ∀ {G : List WhrA} (_ : fWhr s co n d G = some d2), ∃ g ∈ G, g.n = n /\ g.d = d /\ g.d2 = d2 /\ d < 32 /\ d2 < 32 /\ isFlat 3 s co (flat encCol g.cs) = true
 | [], h => by cases h
 | g :: l, h => by
   unfold fWhr at h
   cases hz : (Nat.beq g.n n && (Nat.beq g.d d && (Nat.ble d 31 && (Nat.ble g.d2 31 && isFlat 3 s co (flat encCol g.cs)))))
   . rw [hz] at h
     obtain ⟨g', hg, h⟩ := zou (G := l) h
     exact ⟨g', qW _ hg, h⟩
   . rw [hz] at h
     have h : some g.d2 = some d2 := h
     cases h
     simp only [Bool.and_eq_true] at hz
     obtain ⟨k1, k2, k3, k4, k5⟩ := hz
     have k3 := qS k3
     have k4 := qS k4
     exact ⟨g, List.mem_cons_self .., qU k1, qU k2, rfl, by omega, by omega, k5⟩
structure okWh (cs : List Col) (p : List Nod) (t : Knd) (u : Tab) : Prop where
 x : okX cs p t
 tab : okTab u
 row : ∀ x ∈ u, okRow cs x.1
theorem sp130_ok {G : List WhrA} (hG : ∀ g ∈ G, 500 <= g.n /\ g.n < 510 /\ (∃ t, okWh g.cs (nod g.n) t (tb g.d)) /\ tb g.d2 = whrV g.cs (nod g.n) (tb g.d)) {args : List Value} {v : Value} {s' : ASt} (hx : sp130 G args s = some (v, s')) {args' : List Value} (h : Sim (ETb tb num nod) D ρ s w) (hr : Rvs (ETb tb num nod) D ρ args args') :
 Calls Tryz.prog 130 ⟨args'⟩ w fun e w' => ∃ v' ρ' D', e = .returned v' /\ Rv (ETb tb num nod) D' ρ' v v' /\ Sim (ETb tb num nod) D' ρ' s' w' /\ Ex D s ρ w D' s' ρ' w' := by
 unfold sp130 at hx
 split at hx
 . rename_i op so k nm co kt z
   split at hx
   . rename_i d2 hf
     obtain ⟨hk, e⟩ := zax hx
     cases e
     rw [Bool.and_eq_true] at hk
     obtain ⟨hz, hg⟩ := hk
     obtain ⟨g, hgm, e1, e2, rfl, l4, l5, hf2⟩ := zou hf
     obtain ⟨l1, l2, ⟨t, hX⟩, heq⟩ := hG g hgm
     rw [e1] at l1 l2 hX heq
     rw [e2] at hX heq
     obtain ⟨x1, m, rfl, h1, hr⟩ := zag hr
     obtain ⟨x2, m, rfl, h2, hr⟩ := zag hr
     obtain ⟨x3, m, rfl, h3, hr⟩ := zag hr
     obtain rfl := zay hr
     obtain ⟨l, rfl, h5⟩ := zdl h1
     obtain ⟨a1, m, rfl, g1, h5⟩ := zag h5
     obtain ⟨a2, m, rfl, g2, h5⟩ := zag h5
     obtain ⟨a3, m, rfl, g3, h5⟩ := zag h5
     obtain ⟨a4, m, rfl, g4, h5⟩ := zag h5
     obtain ⟨a5, m, rfl, g5, h5⟩ := zag h5
     obtain ⟨a6, m, rfl, g6, h5⟩ := zag h5
     obtain rfl := zay h5
     obtain rfl := zat g1 rfl
     obtain rfl := zat g2 rfl
     obtain rfl := zat g3 rfl
     obtain rfl := zat g4 rfl
     obtain rfl := zat g5 rfl
     obtain ⟨A, n, c, rfl, hc, hn⟩ := zp3 g6 h l1 l2
     obtain ⟨l, rfl, h5⟩ := zdl h2
     obtain ⟨b1, m, rfl, i1, h5⟩ := zag h5
     obtain ⟨b2, m, rfl, i2, h5⟩ := zag h5
     obtain ⟨b3, m, rfl, i3, h5⟩ := zag h5
     obtain ⟨b4, m, rfl, i4, h5⟩ := zag h5
     obtain rfl := zay h5
     obtain rfl := zat i1 rfl
     obtain rfl := zat i3 rfl
     obtain ⟨cA, cN, cC, rfl, hco, hcc⟩ := zbn hf2 h i2
     obtain ⟨tA, tN, tC, rfl, htc, ht⟩ := zcq i4 h (by unfold tDe; exact Nat.ble_eq_true_of_le qF)
     obtain ⟨zA, zN, zC, rfl, hzc, hzn⟩ := zp4 h3 h hz
     refine (whereX op so A n c _ nm cA cN cC tA tN tC zA zN zC w hX.x hX.tab hX.row hn hco hcc ht hzn (zkp hg h)).mono ?_
     rw [<- heq]
     rintro e w' ⟨B, m, b, rfl, hr', hb', hb⟩
     obtain ⟨r1, r2, r3⟩ := zd3 h hb (d := g.d2) qF (v := .slice B m b) rfl (.inl ⟨by omega, zbw hr' (qV _) hb'⟩)
     exact ⟨_, _, _, rfl, .tuple _ _ (.cons _ _ _ _ r1 (.cons _ _ _ _ (.flat _ rfl) .nil)), r2, r3⟩
   . cases hx
 . cases hx
end
end
end Go.Proofs.YthcalfeoejdcgaaGreatDoor
