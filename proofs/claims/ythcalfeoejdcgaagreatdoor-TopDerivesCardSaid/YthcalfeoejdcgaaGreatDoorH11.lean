import Derived.Lib.SliceRun
import Derived.Lib.AppendStr
import Derived.Laws.IdiomStrings
import Derived.Sort.Grow
import Derived.Shelf.SlSortCmp.WholeK
import Derived.Ground.SlsfProg
import Derived.Test.YthcalfeoejdcgaaGreatDoorH10
namespace Go.Proofs.YthcalfeoejdcgaaGreatDoor
set_option linter.unusedSimpArgs false
set_option linter.unusedVariables false
section
open Go.BigFrame Go.RowKit
section
variable {α β : Type} {K : Kin α β} {P : Program} {t : TypeId} {i : TypeInfo} {z : Value} {bytes : Nat}
theorem zfw {base e size n : Nat} {v : Value} {xs : List Value} (w : World) (ht : P.underlying t = some (.slice e)) (hi : P.info? e = some i) (ty : TypeId) (c : Nat) (hown : w.ownsRow base e size v n xs) : (Builtin.append_ #[t, t] ty #[v, .slice none 0 c]).run P w = .ok v w := by
 rcases hown.2 with ⟨rfl, rfl⟩ | ⟨g, cap, cur, rfl, _, _, hnc, _⟩
 . simp [Builtin.append_, run_underlying ht, sizeOf, typeInfo, hi, Builtin.lenOf, Builtin.firstCells]
 . simp [Builtin.append_, run_underlying ht, sizeOf, typeInfo, hi, Builtin.lenOf, Builtin.firstCells, hnc, storeCells]
theorem run_cat (hP : KinP P K t i z bytes) (w : World) {base n0 : Nat} {v : Value} {l0 : List β} (h0 : ownD K w base v n0 l0) {A : Option Addr} {n c : Nat} {l : List β} {ls : List α} (h1 : Fl w K.C A n (flat K.enc ls)) (h2 : dAll (K.D w) ls l) (ty : TypeId) (hn : n0 + n < 1000000) (hbase : base <= w.heap.size)
 (hfa : ∀ a ∈ ls, farFrom (K.ptrs a) v.ownBlock) :
 ∃ v' w', (Builtin.append_ #[t, t] ty #[v, .slice A n c]).run P w = .ok v' w' /\ ownD K w' base v' (n0 + n) (l0 ++ l) /\ w.grownBy w' v.ownBlock /\ (v'.ownBlock = v.ownBlock ∨ v'.ownBlock = some w.heap.size) := by
 obtain ⟨as0, g1, g2, g3⟩ := h0
 cases A with
 | none =>
   have hn0 : n = 0 := by
    rcases Nat.eq_zero_or_pos n with h0 | h0
    . exact h0
    . obtain ⟨b, off, e, _⟩ := h1.2 h0
      cases e
   subst hn0
   have hl : ls = [] := List.eq_nil_of_length_eq_zero (by have := h1.count K.len K.pos; omega)
   subst hl
   have hl2 : l = [] := List.eq_nil_of_length_eq_zero (by have := h2.len; simpa using this.symm)
   subst hl2
   exact ⟨_, _, zfw w hP.ht hP.hi ty c g1, ⟨as0, g1, by simpa using g2, g3⟩, World.grownBy.refl w _, .inl rfl⟩
 | some ad =>
   obtain ⟨v', w', hr, k1, k2, _, k4⟩ := run_append_own_at (P := P) w base t ty K.e i z K.C bytes hP.ht hP.hi hP.hz hP.hs hP.hb hP.hzs K.pos v n0 _ g1 ad n c (flat K.enc ls) h1.1 h1.news
    (fun u hu => by obtain ⟨x, _, hx⟩ := List.mem_flatMap.1 hu; exact K.one x u hx) (by unfold maxLen; omega)
    (by have := hP.small; have h5 : (n0 + n) * bytes <= 1000000 * 1000 := Nat.mul_le_mul qF this; omega) hbase
   have hrow : ∀ a' ∈ as0 ++ ls, farFrom (K.ptrs a') v.ownBlock := fun a' ha' => (List.mem_append.1 ha').elim (g3 a') (hfa a')
   have hdeep : dAll (K.D w) (as0 ++ ls) (l0 ++ l) := g2.append h2
   refine ⟨v', w', hr, ⟨as0 ++ ls, by rw [zc2]; exact k1, ?_, ?_⟩, k2, k4⟩
   . exact dAll.of_get hdeep.len fun j x y hx hy => by
      obtain ⟨y', hy', hr'⟩ := hdeep.get hx
      rw [hy] at hy'
      cases hy'
      exact K.kept hr' k2 (hrow x (qP hx))
   . intro a' ha' p hp hp0 ad' had'
     obtain ⟨j, hj⟩ := List.getElem?_of_mem ha'
     obtain ⟨y', hy', hr'⟩ := hdeep.get hj
     have hlt := K.lt hr' p hp hp0 ad' had'
     rcases k4 with e | e
     . rw [e]; exact hrow a' ha' p hp hp0 ad' had'
     . rw [e]; intro e2; injection e2 with e2; omega
variable (w : World) {ops : Array Oper} {rest : List Oper} {o : Oper} {a : Act} {Q : Exit -> Act -> World -> Prop}
theorem zc1 (hg : o.guard = none) (s x : Operand) (hop : o.op = Op.call { callee := Callee.builtin Builtin.append, args := #[s, x], argTypes := #[t, t] })
 (hP : KinP P K t i z bytes) {base n0 : Nat} {v : Value} {l0 : List β} (h0 : ownD K w base v n0 l0) {A : Option Addr} {n c : Nat} {l : List β} {ls : List α} (h1 : Fl w K.C A n (flat K.enc ls)) (h2 : dAll (K.D w) ls l) (hs : a.eval s = v) (hx : a.eval x = .slice A n c) (hn : n0 + n < 1000000) (hbase : base <= w.heap.size)
 (hfa : ∀ a ∈ ls, farFrom (K.ptrs a) v.ownBlock)
 (hK : ∀ v' w', ownD K w' base v' (n0 + n) (l0 ++ l) -> w.grownBy w' v.ownBlock -> (v'.ownBlock = v.ownBlock ∨ v'.ownBlock = some w.heap.size) -> wpList P ops Q rest (a.put o.dst v') w') : wpList P ops Q (o :: rest) a w := by
 refine wpList_plain hg fun K' hK' => ?_
 obtain ⟨v', w', hr, h5, h6, h7⟩ := run_cat hP w h0 h1 h2 o.type hn hbase hfa (c := c)
 unfold Oper.wp execOp
 simp only [hop, resolve, invoke, builtin, Sem.run_bind, Sem.run_pure, Result.andThen_ok, List.map_toArray, List.map_cons, List.map_nil, hs, hx, hr]
 exact hK' _ _ (hK v' w' h5 h6 h7)
end
def CloR {α β : Type} (K : Kin α β) (n : Nat) (l : List β) (w : World) (e : Ending) (w' : World) : Prop :=
 ∃ A c, e = .returned (.slice A n c) /\ rD K w' A n l /\ n <= c /\ Below w.heap.size w w' /\ (∀ a, A = some a -> w.heap.size <= a.block /\ a.block < w'.heap.size) /\ ownD K w' w.heap.size (.slice A n c) n l
theorem zmq {α β : Type} (K : Kin α β) (w : World) : ownD K (w.alloc (.cells #[] K.e)) w.heap.size (.slice (some ⟨w.heap.size, 0, none⟩) 0 0) 0 [] :=
 ⟨[], World.ownsRow_made w #[] 0 (qV _) (Nat.zero_le _) qH, trivial, fun a h => by cases h⟩
theorem cloVE (A : Option Addr) (n c : Nat) (l : List _) (w : World) (h : rD kVal w A n l) (hn : n <= 100000) : Calls Tryz.prog 72 #[.slice A n c] w (CloR kVal n l w) := by
 obtain ⟨iV, PV⟩ := pVal
 have qe : ∀ W, (binOp .eql 63 (.slice A n c) (.slice none 0 0)).run Tryz.prog W = .ok (.bool A.isNone) W := fun W => Lib.run_eql_slice_nil (P := Tryz.prog) W 63 46 A n c 0 0 Tryz.underlying63
 have H := qL h
 cases A with
 | none =>
   obtain ⟨ls, h1, h2⟩ := h
   have hn0 : n = 0 := by
    rcases Nat.eq_zero_or_pos n with h0 | h0
    . exact h0
    . obtain ⟨b, off, e, _⟩ := h1.2 h0
      cases e
   subst hn0
   have hl := H.out.len
   have hl2 : l = [] := List.eq_nil_of_length_eq_zero hl
   subst hl2
   clear h1 h2 hl
   go_enter Tryz.func72, Tryz.ntmps72
   go_wp2
   go_ret
   exact ⟨_, 0, rfl, rD.nil _ _, qV _, za0 _, (fun a h => by cases h), ownD.nil _ _⟩
 | some ad =>
   obtain ⟨ls, h1, h2⟩ := h
   have F1 := qL h1
   have F2 := qL h2
   have F3 : Hid (∀ a ∈ ls, farFrom (kVal.ptrs a) (Value.slice (some ⟨w.heap.size, 0, none⟩) 0 0).ownBlock) := qL (fun a ha p hp h0 ad' e e2 => by
    obtain ⟨j, hj⟩ := List.getElem?_of_mem ha
    obtain ⟨y, hy, hr⟩ := h2.get hj
    have := kVal.lt hr p hp h0 ad' e
    simp [Value.ownBlock] at e2
    omega)
   clear h1 h2
   go_enter Tryz.func72, Tryz.ntmps72
   go_wp2_with (at_builtin; refine zc1 _ rfl _ _ rfl PV (zmq kVal w) (F1.out.later (zae _ _)) (F2.out.imp fun _ _ h => kVal.later h (zae _ _)) rfl rfl qF qH F3.out ?_; intro v1 w1 hown hg hat)
   rw [Nat.zero_add, List.nil_append] at hown
   obtain ⟨A1, c1, rfl, hcc, hrd, hfr⟩ := hown.rd
   have HR := qL hrd
   have HOW := qL hown
   have HFR := qL hfr
   have HB := qL (Below.trans (zae w _) (za9 hg qH (fun k e => by simp [Value.ownBlock] at e; omega)))
   clear hown hrd hg hat hfr
   go_wp2
   go_ret
   exact ⟨_, _, rfl, HR.out, hcc, HB.out, HFR.out, HOW.out⟩
theorem cloEE (A : Option Addr) (n c : Nat) (l : List _) (w : World) (h : rD kEnt w A n l) (hn : n <= 100000) : Calls Tryz.prog 251 #[.slice A n c] w (CloR kEnt n l w) := by
 obtain ⟨iV, PV⟩ := pEnt
 have qe : ∀ W, (binOp .eql 29 (.slice A n c) (.slice none 0 0)).run Tryz.prog W = .ok (.bool A.isNone) W := fun W => Lib.run_eql_slice_nil (P := Tryz.prog) W 29 65 A n c 0 0 Tryz.underlying29
 have H := qL h
 cases A with
 | none =>
   obtain ⟨ls, h1, h2⟩ := h
   have hn0 : n = 0 := by
    rcases Nat.eq_zero_or_pos n with h0 | h0
    . exact h0
    . obtain ⟨b, off, e, _⟩ := h1.2 h0
      cases e
   subst hn0
   have hl := H.out.len
   have hl2 : l = [] := List.eq_nil_of_length_eq_zero hl
   subst hl2
   clear h1 h2 hl
   go_enter Tryz.func251, Tryz.ntmps251
   go_wp2
   go_ret
   exact ⟨_, 0, rfl, rD.nil _ _, qV _, za0 _, (fun a h => by cases h), ownD.nil _ _⟩
 | some ad =>
   obtain ⟨ls, h1, h2⟩ := h
   have F1 := qL h1
   have F2 := qL h2
   have F3 : Hid (∀ a ∈ ls, farFrom (kEnt.ptrs a) (Value.slice (some ⟨w.heap.size, 0, none⟩) 0 0).ownBlock) := qL (fun a ha p hp h0 ad' e e2 => by
    obtain ⟨j, hj⟩ := List.getElem?_of_mem ha
    obtain ⟨y, hy, hr⟩ := h2.get hj
    have := kEnt.lt hr p hp h0 ad' e
    simp [Value.ownBlock] at e2
    omega)
   clear h1 h2
   go_enter Tryz.func251, Tryz.ntmps251
   go_wp2_with (at_builtin; refine zc1 _ rfl _ _ rfl PV (zmq kEnt w) (F1.out.later (zae _ _)) (F2.out.imp fun _ _ h => kEnt.later h (zae _ _)) rfl rfl qF qH F3.out ?_; intro v1 w1 hown hg hat)
   rw [Nat.zero_add, List.nil_append] at hown
   obtain ⟨A1, c1, rfl, hcc, hrd, hfr⟩ := hown.rd
   have HR := qL hrd
   have HOW := qL hown
   have HFR := qL hfr
   have HB := qL (Below.trans (zae w _) (za9 hg qH (fun k e => by simp [Value.ownBlock] at e; omega)))
   clear hown hrd hg hat hfr
   go_wp2
   go_ret
   exact ⟨_, _, rfl, HR.out, hcc, HB.out, HFR.out, HOW.out⟩
theorem zff (v : Val) (w : World) (h : validV v = true) : Calls Tryz.prog 128 #[.agg #[.int .i64 v.k, .int .i64 v.m, .string v.s]] w fun e w' => e = .returned (.bool true) /\ Below w.heap.size w w' :=
 (zm1 v.k v.m v.s w).mono fun e w' ⟨h1, h2⟩ => ⟨by rw [h1]; exact zal h, h2⟩
set_option maxRecDepth 100000 in
set_option maxHeartbeats 1000000 in
theorem zoy (rA : Option Addr) (rN rC : Nat) (r : List Val) (c : Int) (w : World) (hr : rVal w rA rN r) (h12 : r.length <= 12) (hv : vOk r) (h1 : -65536 <= c) (h2 : c <= 65536) :
 Calls Tryz.prog 95 #[.agg #[.slice rA rN rC, .int .i64 c]] w fun e w' => e = .returned (.int .i64 0) /\ Below w.heap.size w w' := by
 have HR := qL hr
 have HL := qL hr.len
 have HV := qL hv
 have hrN : rN <= 12 := by have := hr.len; omega
 have d12 : decide (12 < rN) = false := by simp; omega
 have d1 : decide (c < -65536) = false := by simp; omega
 have d2 : decide (65536 < c) = false := by simp; omega
 clear hr hv
 go_enter Tryz.func95, Tryz.ntmps95
 go_wp2
 go_loopw [22] (fun i wr => ∃ k : Nat, k <= rN /\ i = .int .i64 k /\ Below w.heap.size w wr) (fun i _ => rN - (intOf i).toNat)
 case atStart => exact ⟨0, by omega, rfl, zae _ _⟩
 case round =>
  obtain ⟨k, hk, rfl, hbw⟩ := hrel
  have HBW := qL hbw
  by_cases hlt : k < rN
  . obtain ⟨b1, o1, rfl, hc1⟩ := (HR.out.later hbw).opn qF
    obtain ⟨x, hx⟩ := zah (l := r) (k := k) (by have := HL.out; omega)
    obtain ⟨x1, x2, x3⟩ := hc1 k x hx
    have hvx := HV.out x (qP hx)
    clear hc1 hx hbw
    go_wp2_with (go_at_call 128; refine (zff x _ hvx).mono ?_; rintro e w' ⟨rfl, hb⟩)
    go_roundw
    case rel => exact ⟨k + 1, by omega, by go_num, btr HBW.out (btr (zae _ _) hb)⟩
    case measure => simp [intOf]; omega
  . go_wp2
    go_ret
    exact ⟨zak rfl, hbw⟩
theorem zfk (x y : Val) (w : World) : Calls Tryz.prog 71 #[.agg #[.int .i64 x.k, .int .i64 x.m, .string x.s], .agg #[.int .i64 y.k, .int .i64 y.m, .string y.s]] w
 fun e w' => e = .returned (.int .i64 (cmpV x y)) /\ Below w.heap.size w w' := compareE x.k x.m x.s y.k y.m y.s w
set_option maxRecDepth 100000 in
set_option maxHeartbeats 1000000 in
theorem cmfE (A : Option Addr) (n c : Nat) (A' : Option Addr) (n' c' : Nat) (a b : List Val) (w : World) (ha : rVal w A n a) (hb : rVal w A' n' b) (hn : n <= 100000) (hn' : n' <= 100000) :
 Calls Tryz.prog 70 #[.slice A n c, .slice A' n' c', .func (.func 71) #[] #[]] w fun e w' => e = .returned (.int .i64 (cmpR a b)) /\ Below w.heap.size w w' := by
 have HA := qL ha
 have HB := qL hb
 have LA := qL ha.len
 have LB := qL hb.len
 clear ha hb
 go_enter Tryz.func70, Tryz.ntmps70
 go_wp2
 go_loopw [13] (fun i wr => ∃ k : Nat, k <= n /\ k <= n' /\ i = .int .i64 k /\ Below w.heap.size w wr /\ Hid (SameTo a b k)) (fun i _ => n - (intOf i).toNat)
 case atStart => exact ⟨0, by omega, by omega, rfl, za0 _, qL fun j _ _ hj => absurd hj qF⟩
 case round =>
  obtain ⟨k, hk, hk', rfl, hbw, HS⟩ := hrel
  have HBW := qL hbw
  by_cases h1 : k < n
  . obtain ⟨b1, o1, rfl, hc1⟩ := (HA.out.later hbw).opn qF
    obtain ⟨x, hx⟩ := zah (l := a) (k := k) (by have := LA.out; omega)
    obtain ⟨x1, x2, x3⟩ := hc1 k x hx
    have HX := qL hx
    clear hc1 hx
    by_cases h2 : k < n'
    . obtain ⟨b2, o2, rfl, hc2⟩ := (HB.out.later hbw).opn qF
      obtain ⟨y, hy⟩ := zah (l := b) (k := k) (by have := LB.out; omega)
      obtain ⟨y1, y2, y3⟩ := hc2 k y hy
      have HY := qL hy
      have y1' := qM (zae wr (.cells #[.int .i64 x.k, .int .i64 x.m, .string x.s] 46)) y1
      have y2' := qM (zae wr (.cells #[.int .i64 x.k, .int .i64 x.m, .string x.s] 46)) y2
      have y3' := qM (zae wr (.cells #[.int .i64 x.k, .int .i64 x.m, .string x.s] 46)) y3
      clear hc2 hy hbw
      cases hz : (cmpV x y != 0)
      . have HZ : Hid (cmpV x y = 0) := qL (by simpa using hz)
        go_wp2_with fail
        refine (zfk x y _).mono ?_
        rintro e w2 ⟨rfl, hb2⟩
        have HB2 := qL (btr HBW.out (btr ((zae wr _).alloc qH _) hb2))
        clear hb2
        go_wp2
        go_roundw
        case rel => exact ⟨k + 1, by omega, by omega, by go_num, HB2.out, qL (HS.out.succ HX.out HY.out HZ.out)⟩
        case measure => simp [intOf]; omega
      . have HZ : Hid (cmpV x y ≠ 0) := qL (by simpa using hz)
        go_wp2_with fail
        refine (zfk x y _).mono ?_
        rintro e w2 ⟨rfl, hb2⟩
        have HB2 := qL (btr HBW.out (btr ((zae wr _).alloc qH _) hb2))
        clear hb2
        go_wp2
        go_ret
        exact ⟨zak (zkd HS.out HX.out HY.out HZ.out).symm, HB2.out⟩
    . have HE : Hid (Lib.compareInt n n' = cmpR a b) := qL (by
       have e1 := LA.out
       have e2 := LB.out
       rw [zd6 (fun j x y hj => HS.out j x y qF), e1, e2])
      clear hbw
      go_wp2
      go_ret
      exact ⟨zak (by rw [<- HE.out]; unfold Lib.compareInt; rw [if_neg qF, if_pos qF]), btr HBW.out (zae _ _)⟩
  . have HE : Hid (Lib.compareInt n n' = cmpR a b) := qL (by
     have e1 := LA.out
     have e2 := LB.out
     rw [zd6 (fun j x y hj => HS.out j x y qF), e1, e2])
    by_cases h3 : n < n'
    . go_wp2
      go_ret
      exact ⟨zak (by rw [<- HE.out]; unfold Lib.compareInt; rw [if_pos qF]), hbw⟩
    . go_wp2
      go_ret
      exact ⟨zak (by rw [<- HE.out]; unfold Lib.compareInt; rw [if_neg qF, if_neg qF]), hbw⟩
theorem cmrE (A : Option Addr) (n c : Nat) (A' : Option Addr) (n' c' : Nat) (a b : List Val) (w : World) (ha : rVal w A n a) (hb : rVal w A' n' b) (hn : a.length <= 100000) (hn' : b.length <= 100000) :
 Calls Tryz.prog 42 #[.slice A n c, .slice A' n' c'] w fun e w' => e = .returned (.int .i64 (cmpR a b)) /\ Below w.heap.size w w' := by
 have H := qL (cmfE A n c A' n' c' a b w ha hb (by have := ha.len; omega) (by have := hb.len; omega))
 clear ha hb
 go_enter Tryz.func42, Tryz.ntmps42
 go_wp2_with (go_at_call 70; refine (H.out).mono ?_; rintro e w' ⟨rfl, hb⟩)
 go_ret
 exact ⟨zak rfl, hb⟩
def BelD (w w' : World) : Prop := Below w.heap.size w w' /\ w.drawn <= w'.drawn
theorem zki {w w' : World} {o : Obj} (h : w.drawn <= w'.drawn) : w.drawn <= (w'.alloc o).drawn := h
theorem zkj {w : World} {o o' : Obj} : w.drawn <= ((w.alloc o).alloc o').drew.drawn := Nat.le_succ _
theorem BelD.refl (w : World) : BelD w w := ⟨za0 w, qV _⟩
theorem BelD.trans {a b c : World} (h : BelD a b) (k : BelD b c) : BelD a c := ⟨btr h.1 k.1, qR h.2 k.2⟩
theorem BelD.alloc (w : World) (o : Obj) : BelD w (w.alloc o) := ⟨zae w o, qV _⟩
theorem BelD.grow {w w' : World} (h : BelD w w') : ∃ q os, w' = Go.Sort.grow (w.drewN q) os := by
 obtain ⟨⟨h1, h2, h3, h4, h5⟩, h6⟩ := h
 refine ⟨w'.drawn - w.drawn, w'.heap.extract w.heap.size w'.heap.size, ?_⟩
 obtain ⟨hp, tp, dr, os, out⟩ := w
 obtain ⟨hp', tp', dr', os', out'⟩ := w'
 simp only at h1 h2 h3 h4 h5 h6
 subst h1 h2 h3
 unfold Go.Sort.grow World.drewN
 simp only [World.mk.injEq, and_true, true_and]
 refine ⟨?_, by omega⟩
 apply Array.ext_getElem?
 intro i
 rw [Array.getElem?_append]
 split
 . exact h5 i ‹_›
 . rw [Array.getElem?_extract]
   split
   . congr 1; omega
   . rw [Array.getElem?_eq_none]; omega
set_option maxRecDepth 100000 in
set_option maxHeartbeats 4000000 in
theorem compareD (k1 m1 : Int) (s1 : ByteArray) (k2 m2 : Int) (s2 : ByteArray) (w : World) :
 Calls Tryz.prog 71 #[.agg #[.int .i64 k1, .int .i64 m1, .string s1], .agg #[.int .i64 k2, .int .i64 m2, .string s2]] w
  fun e w' => e = .returned (.int .i64 (cmpV ⟨k1, m1, s1⟩ ⟨k2, m2, s2⟩)) /\ BelD w w' := by
 go_enter Tryz.func71, Tryz.ntmps71
 go_wp2_with fail
 go_region_held3 (fun w' => Below w.heap.size w w'
  /\ w'.cell? ⟨w.heap.size, 0, none⟩ = some (.int .i64 k1) /\ w'.cell? ⟨w.heap.size, 1, none⟩ = some (.int .i64 m1) /\ w'.cell? ⟨w.heap.size, 2, none⟩ = some (.string s1)
  /\ w'.cell? ⟨w.heap.size + 1, 0, none⟩ = some (.int .i64 k2) /\ w'.cell? ⟨w.heap.size + 1, 1, none⟩ = some (.int .i64 m2) /\ w'.cell? ⟨w.heap.size + 1, 2, none⟩ = some (.string s2) /\ w.drawn <= w'.drawn)
  (first
    | (go_keep; done)
    | (go_split_ands; refine ⟨?_, ?_, ?_, ?_, ?_, ?_, ?_, ?_⟩ <;> (first | exact zki qI | exact zkj | (go_keep; done) | exact qM qI qI | exact bthen qI (qV _) qI | (repeat (first | exact Below.refl _ _ | assumption | refine Below.drew ?_ | refine Below.alloc ?_ (by first | (simp; done) | (simp; omega) | exact Below.size qI) _)))))
  (first
    | (go_at_call 98; refine (cmpE' _ _ _).mono ?_; rintro e w' ⟨rfl, rfl⟩)
    | (go_at_call 99; refine (strE' _ _ _).mono ?_; rintro e w' ⟨rfl, rfl⟩)
    | (go_at_call 97; go_split_ands; refine (or3E _ _ _ (Lib.compareInt k1 k2) (Lib.compareInt m1 m2) (Lib.compareBytes s1.toList s2.toList) _ ?_ ?_ ?_).mono ?_ <;> (first | exact zaa qH qH | rintro e w' ⟨rfl, rfl⟩)))
 go_split_ands
 have HB : Hid (BelD w _) := qL ⟨by assumption, by assumption⟩
 go_wp2
 go_ret
 exact ⟨zak (zpt ⟨k1, m1, s1⟩ ⟨k2, m2, s2⟩), HB.out⟩
theorem zl0 (x y : Val) (w : World) : Calls Tryz.prog 71 #[.agg #[.int .i64 x.k, .int .i64 x.m, .string x.s], .agg #[.int .i64 y.k, .int .i64 y.m, .string y.s]] w
 fun e w' => e = .returned (.int .i64 (cmpV x y)) /\ BelD w w' := compareD x.k x.m x.s y.k y.m y.s w
set_option maxRecDepth 100000 in
set_option maxHeartbeats 1000000 in
theorem cmfD (A : Option Addr) (n c : Nat) (A' : Option Addr) (n' c' : Nat) (a b : List Val) (w : World) (ha : rVal w A n a) (hb : rVal w A' n' b) (hn : n <= 100000) (hn' : n' <= 100000) :
 Calls Tryz.prog 70 #[.slice A n c, .slice A' n' c', .func (.func 71) #[] #[]] w fun e w' => e = .returned (.int .i64 (cmpR a b)) /\ BelD w w' := by
 have HA := qL ha
 have HB := qL hb
 have LA := qL ha.len
 have LB := qL hb.len
 clear ha hb
 go_enter Tryz.func70, Tryz.ntmps70
 go_wp2
 go_loopw [13] (fun i wr => ∃ k : Nat, k <= n /\ k <= n' /\ i = .int .i64 k /\ BelD w wr /\ Hid (SameTo a b k)) (fun i _ => n - (intOf i).toNat)
 case atStart => exact ⟨0, by omega, by omega, rfl, BelD.refl _, qL fun j _ _ hj => absurd hj qF⟩
 case round =>
  obtain ⟨k, hk, hk', rfl, hbw, HS⟩ := hrel
  have HBW := qL hbw
  by_cases h1 : k < n
  . obtain ⟨b1, o1, rfl, hc1⟩ := (HA.out.later hbw.1).opn qF
    obtain ⟨x, hx⟩ := zah (l := a) (k := k) (by have := LA.out; omega)
    obtain ⟨x1, x2, x3⟩ := hc1 k x hx
    have HX := qL hx
    clear hc1 hx
    by_cases h2 : k < n'
    . obtain ⟨b2, o2, rfl, hc2⟩ := (HB.out.later hbw.1).opn qF
      obtain ⟨y, hy⟩ := zah (l := b) (k := k) (by have := LB.out; omega)
      obtain ⟨y1, y2, y3⟩ := hc2 k y hy
      have HY := qL hy
      have y1' := qM (zae wr (.cells #[.int .i64 x.k, .int .i64 x.m, .string x.s] 46)) y1
      have y2' := qM (zae wr (.cells #[.int .i64 x.k, .int .i64 x.m, .string x.s] 46)) y2
      have y3' := qM (zae wr (.cells #[.int .i64 x.k, .int .i64 x.m, .string x.s] 46)) y3
      clear hc2 hy hbw
      cases hz : (cmpV x y != 0)
      . have HZ : Hid (cmpV x y = 0) := qL (by simpa using hz)
        go_wp2_with fail
        refine (zl0 x y _).mono ?_
        rintro e w2 ⟨rfl, hb2⟩
        have HB2 := qL (HBW.out.trans (((BelD.alloc wr _).trans (BelD.alloc _ _)).trans hb2))
        clear hb2
        go_wp2
        go_roundw
        case rel => exact ⟨k + 1, by omega, by omega, by go_num, HB2.out, qL (HS.out.succ HX.out HY.out HZ.out)⟩
        case measure => simp [intOf]; omega
      . have HZ : Hid (cmpV x y ≠ 0) := qL (by simpa using hz)
        go_wp2_with fail
        refine (zl0 x y _).mono ?_
        rintro e w2 ⟨rfl, hb2⟩
        have HB2 := qL (HBW.out.trans (((BelD.alloc wr _).trans (BelD.alloc _ _)).trans hb2))
        clear hb2
        go_wp2
        go_ret
        exact ⟨zak (zkd HS.out HX.out HY.out HZ.out).symm, HB2.out⟩
    . have HE : Hid (Lib.compareInt n n' = cmpR a b) := qL (by
       have e1 := LA.out
       have e2 := LB.out
       rw [zd6 (fun j x y hj => HS.out j x y qF), e1, e2])
      clear hbw
      go_wp2
      go_ret
      exact ⟨zak (by rw [<- HE.out]; unfold Lib.compareInt; rw [if_neg qF, if_pos qF]), HBW.out.trans (BelD.alloc _ _)⟩
  . have HE : Hid (Lib.compareInt n n' = cmpR a b) := qL (by
     have e1 := LA.out
     have e2 := LB.out
     rw [zd6 (fun j x y hj => HS.out j x y qF), e1, e2])
    by_cases h3 : n < n'
    . go_wp2
      go_ret
      exact ⟨zak (by rw [<- HE.out]; unfold Lib.compareInt; rw [if_pos qF]), hbw⟩
    . go_wp2
      go_ret
      exact ⟨zak (by rw [<- HE.out]; unfold Lib.compareInt; rw [if_neg qF, if_neg qF]), hbw⟩
theorem cmrD (A : Option Addr) (n c : Nat) (A' : Option Addr) (n' c' : Nat) (a b : List Val) (w : World) (ha : rVal w A n a) (hb : rVal w A' n' b) (hn : a.length <= 100000) (hn' : b.length <= 100000) :
 Calls Tryz.prog 42 #[.slice A n c, .slice A' n' c'] w fun e w' => e = .returned (.int .i64 (cmpR a b)) /\ BelD w w' := by
 have H := qL (cmfD A n c A' n' c' a b w ha hb (by have := ha.len; omega) (by have := hb.len; omega))
 clear ha hb
 go_enter Tryz.func42, Tryz.ntmps42
 go_wp2_with (go_at_call 70; refine (H.out).mono ?_; rintro e w' ⟨rfl, hb⟩)
 go_ret
 exact ⟨zak rfl, hb⟩
theorem clo253 (x y : Ent) (a b : List Val) (w : World) (ha : rVal w x.rA x.rN a) (hb : rVal w y.rA y.rN b) (h1 : a.length <= 100000) (h2 : b.length <= 100000) :
 Calls Tryz.prog 253 #[.agg #[.slice x.rA x.rN x.rC, .int .i64 x.c], .agg #[.slice y.rA y.rN y.rC, .int .i64 y.c]] w fun e w' => e = .returned (.int .i64 (cmpR a b)) /\ BelD w w' := by
 have H := qL (cmrD x.rA x.rN x.rC y.rA y.rN y.rC a b ((w.alloc (.cells #[.slice x.rA x.rN x.rC, .int .i64 x.c] 65)).alloc (.cells #[.slice y.rA y.rN y.rC, .int .i64 y.c] 65)) (ha.later (btr (zae _ _) (zae _ _))) (hb.later (btr (zae _ _) (zae _ _))) h1 h2)
 clear ha hb
 go_enter Tryz.func253, Tryz.ntmps253
 go_wp2_with fail
 refine H.out.mono ?_
 rintro e w' ⟨rfl, hb⟩
 have HB := qL (((BelD.alloc w _).trans (BelD.alloc _ _)).trans hb)
 clear hb
 go_wp2
 go_ret
 exact ⟨zak rfl, HB.out⟩
end
section
open Go.BigFrame Go.Lib Go.RowKit Go.Shelf Go.Sort
def sortEnt_ren : Go.Shelf.Ren := ⟨fun | 6 => 252 | 15 => 283 | 14 => 282 | 28 => 320 | 29 => 321 | 20 => 312 | 21 => 313 | 22 => 314 | 23 => 315 | 24 => 316 | 25 => 317 | 26 => 318 | 27 => 319 | 46 => 332 | 47 => 333 | 48 => 334 | 49 => 335 | 50 => 336 | 57 => 349 | n => n, fun | 22 => 29 | 24 => 65 | 25 => 257 | 3 => 3 | 39 => 32 | 0 => 0 | 53 => 317 | 55 => 319 | 4 => 4 | 46 => 311 | 45 => 310 | 50 => 111 | 5 => 5 | 9 => 9 | 66 => 327 | 70 => 331 | 76 => 345 | 77 => 264 | n => n, fun | n => n⟩
theorem zp9 : Go.Proofs.SlLaysF0.n6 Tryz.prog sortEnt_ren := {
 mixed := by kernel_rfl
 f6 := ⟨Tryz.f252.name, by decide, Tryz.func252.trans (congrArg some qG)⟩
 f14 := ⟨Tryz.f282.name, by decide, Tryz.func282.trans (congrArg some qG)⟩
 f15 := Tryz.func283.trans (congrArg some qG)
 f20 := ⟨Tryz.f312.name, by decide, Tryz.func312.trans (congrArg some qG)⟩
 f21 := ⟨Tryz.f313.name, by decide, Tryz.func313.trans (congrArg some qG)⟩
 f22 := ⟨Tryz.f314.name, by decide, Tryz.func314.trans (congrArg some qG)⟩
 f23 := ⟨Tryz.f315.name, by decide, Tryz.func315.trans (congrArg some qG)⟩
 f24 := ⟨Tryz.f316.name, by decide, Tryz.func316.trans (congrArg some qG)⟩
 f25 := ⟨Tryz.f317.name, by decide, Tryz.func317.trans (congrArg some qG)⟩
 f26 := ⟨Tryz.f318.name, by decide, Tryz.func318.trans (congrArg some qG)⟩
 f27 := ⟨Tryz.f319.name, by decide, Tryz.func319.trans (congrArg some qG)⟩
 f28 := Tryz.func320.trans (congrArg some qG)
 f29 := Tryz.func321.trans (congrArg some qG)
 f46 := ⟨Tryz.f332.name, by decide, Tryz.func332.trans (congrArg some qG)⟩
 f47 := Tryz.func333.trans (congrArg some qG)
 f48 := Tryz.func334.trans (congrArg some qG)
 f49 := ⟨Tryz.f335.name, by decide, Tryz.func335.trans (congrArg some qG)⟩
 f50 := ⟨Tryz.f336.name, by decide, Tryz.func336.trans (congrArg some qG)⟩
 f57 := ⟨Tryz.f349.name, by decide, Tryz.func349.trans (congrArg some qG)⟩
 t0 := Tryz.underlying0
 a0 := Tryz.isAgg0
 z0 := Tryz.sizeOf0
 v0 := Tryz.zeroValue0
 t3 := Tryz.underlying3
 a3 := Tryz.isAgg3
 z3 := Tryz.sizeOf3
 v3 := Tryz.zeroValue3
 t4 := Tryz.underlying4
 a4 := Tryz.isAgg4
 z4 := Tryz.sizeOf4
 v4 := Tryz.zeroValue4
 t5 := Tryz.underlying5
 a5 := Tryz.isAgg5
 z5 := Tryz.sizeOf5
 v5 := Tryz.zeroValue5
 t9 := Tryz.underlying9
 a9 := Tryz.isAgg9
 z9 := Tryz.sizeOf9
 v9 := Tryz.zeroValue9
 t22 := Tryz.underlying29
 a22 := Tryz.isAgg29
 z22 := Tryz.sizeOf29
 v22 := Tryz.zeroValue29
 t25 := Tryz.underlying257
 a25 := Tryz.isAgg257
 z25 := Tryz.sizeOf257
 v25 := Tryz.zeroValue257
 t39 := Tryz.underlying32
 a39 := Tryz.isAgg32
 z39 := Tryz.sizeOf32
 v39 := Tryz.zeroValue32
 t45 := Tryz.underlying310
 a45 := Tryz.isAgg310
 z45 := Tryz.sizeOf310
 v45 := Tryz.zeroValue310
 t46 := Tryz.underlying311
 a46 := Tryz.isAgg311
 z46 := Tryz.sizeOf311
 v46 := Tryz.zeroValue311
 t50 := Tryz.underlying111
 a50 := Tryz.isAgg111
 z50 := Tryz.sizeOf111
 v50 := Tryz.zeroValue111
 t53 := Tryz.underlying317
 a53 := Tryz.isAgg317
 z53 := Tryz.sizeOf317
 v53 := Tryz.zeroValue317
 t55 := Tryz.underlying319
 a55 := Tryz.isAgg319
 z55 := Tryz.sizeOf319
 v55 := Tryz.zeroValue319
 t66 := Tryz.underlying327
 a66 := Tryz.isAgg327
 z66 := Tryz.sizeOf327
 v66 := Tryz.zeroValue327
 t70 := Tryz.underlying331
 a70 := Tryz.isAgg331
 z70 := Tryz.sizeOf331
 v70 := Tryz.zeroValue331
 t76 := Tryz.underlying345
 a76 := Tryz.isAgg345
 z76 := Tryz.sizeOf345
 v76 := Tryz.zeroValue345
 t77 := Tryz.underlying264
 a77 := Tryz.isAgg264
 z77 := Tryz.sizeOf264
 v77 := Tryz.zeroValue264 }
section
variable {α : Type} [Inhabited α]
theorem zoz {w : World} {enc : α -> List Value} {k g : Nat} (hk : ∀ x, (enc x).length = k) (h0 : 0 < k) {cs : Array Value} {t : Nat} (hg : w.heap[g]? = some (.cells cs t (0, 0))) {d : Array α} (h : cs.toList.take (d.size * k) = flat enc d.toList) : HoldsK enc k w g 0 d := by
 intro j hj
 rw [size_flatK] at hj
 have hlt : j / k < d.size := Nat.div_lt_of_lt_mul (by rw [Nat.mul_comm]; exact hj)
 have hd : d.toList[j / k]? = some d[j / k]! := by
  rw [getElem!_pos d _ hlt]
  simp [hlt]
 have hm : j % k < k := Nat.mod_lt _ h0
 have hf := zbf hk hd (j % k) hm
 have e : j / k * k + j % k = j := by rw [Nat.mul_comm]; exact Nat.div_add_mod j k
 rw [e, <- h, List.getElem?_take, if_pos hj] at hf
 refine ⟨?_, by simp [World.frozen?, hg]⟩
 rw [get_flatK _ _ _ _ hj, Nat.zero_add]
 have e2 : (enc d[j / k]!)[j % k]? = some (enc d[j / k]!)[j % k]! := by
  rw [List.getElem!_eq_getElem?_getD]
  rw [List.getElem?_eq_getElem (by rw [hk]; exact hm)]
  rfl
 show World.cell? w ⟨g, j, none⟩ = _
 rw [World.cell?, hg]
 show cs[j]? = _
 rw [<- Array.getElem?_toList, hf, e2]
 rfl
end
theorem zk9 {α : Type} [Inhabited α] (enc : α -> List Value) (k : Nat) (w : World) (blk off m : Nat) (d : Array α) (os : Array Obj) (b : Nat) (hb : b ≠ blk) (hl : b < w.heap.size) : (sortWorldK enc k w blk off m d os).heap[b]? = w.heap[b]? := by
 unfold sortWorldK Go.Sort.grow putRowK putRow mapBlock Sort.ahead
 show ((w.heap.modify blk _) ++ os)[b]? = _
 rw [Array.getElem?_append_left (by simpa using hl), Array.getElem?_modify, if_neg (Ne.symm hb)]
theorem zgr {α : Type} [Inhabited α] (enc : α -> List Value) (k : Nat) (w : World) (blk off m : Nat) (d : Array α) (os : Array Obj) : w.grownBy (sortWorldK enc k w blk off m d os) (some blk) :=
 ⟨rfl, rfl, rfl, by unfold sortWorldK Go.Sort.grow putRowK putRow mapBlock Sort.ahead; simp, fun b hl hb => zk9 enc k w blk off m d os b (fun e => hb (by rw [e])) hl⟩
theorem sortW_at {α : Type} [Inhabited α] (enc : α -> List Value) (k : Nat) (hk : ∀ x, (enc x).length = k) (h0 : 0 < k) (w : World) (blk m : Nat) (d : Array α) (os : Array Obj) {cs : Array Value} {t : Nat} (hg : w.heap[blk]? = some (.cells cs t (0, 0))) (hsz : d.size * k <= cs.size) :
 ∃ cs', (sortWorldK enc k w blk 0 m d os).heap[blk]? = some (.cells cs' t (0, 0)) /\ cs'.size = cs.size /\ cs'.toList.take (d.size * k) = flat enc d.toList := by
 have hl := (Array.getElem?_eq_some_iff.1 hg).1
 refine ⟨putCells id 0 (flatK enc k d) cs, ?_, by simp [putCells], ?_⟩
 . unfold sortWorldK Go.Sort.grow putRowK putRow mapBlock Sort.ahead
   show ((w.heap.modify blk _) ++ os)[blk]? = _
   rw [Array.getElem?_append_left (by simpa using hl), Array.getElem?_modify, if_pos rfl, hg]
   rfl
 . apply List.ext_getElem?
   intro j
   rw [List.getElem?_take]
   split
   . rename_i hj
     rw [Array.getElem?_toList, putCells, Array.getElem?_mapIdx, Array.getElem?_eq_getElem qF]
     simp only [Option.map_some, size_flatK, Nat.zero_le, true_and, Nat.zero_add, hj, if_true, Nat.sub_zero, id]
     rw [get_flatK _ _ _ _ hj]
     have hlt : j / k < d.size := Nat.div_lt_of_lt_mul (by rw [Nat.mul_comm]; exact hj)
     have hd : d.toList[j / k]? = some d[j / k]! := by
      rw [getElem!_pos d _ hlt]
      simp [hlt]
     have hm : j % k < k := Nat.mod_lt _ h0
     have hf := zbf hk hd (j % k) hm
     have e : j / k * k + j % k = j := by rw [Nat.mul_comm]; exact Nat.div_add_mod j k
     rw [e] at hf
     rw [hf, List.getElem!_eq_getElem?_getD, List.getElem?_eq_getElem (by rw [hk]; exact hm)]
     rfl
   . rw [List.getElem?_eq_none]
     rw [zau hk]
     simp; omega
theorem zf5 {α : Type} {a : Array α} {n : Nat} (h : a.size = n) : a.extract 0 n = a := by subst h; simp
def leR (x y : List Val × Int) : Prop := ¬ cmpR y.1 x.1 < 0
theorem cmp_swo {n : Nat} (f : Fin n -> List Val) : SWO (ltOf fun i j : Fin n => cmpR (f i) (f j)) where
 irrefl x := by
  show decide (cmpR (f x) (f x) < 0) = false
  rw [zf0]; rfl
 trans x y z h1 h2 := by
  unfold ltOf at *
  simp only [decide_eq_true_eq] at *
  exact zbi _ _ _ h1 h2
 ntrans x y z h1 h2 := by
  unfold ltOf at *
  simp only [decide_eq_false_iff_not] at *
  intro h3
  have a := zbs (f x) (f y)
  have b := zbs (f y) (f z)
  by_cases e : cmpR (f x) (f y) = 0
  . have e := (zar _ _).1 e
    rw [e] at h3
    exact h2 h3
  . have h4 : cmpR (f y) (f x) < 0 := by omega
    exact h2 (zbi _ _ _ h4 h3)
def SortR2 (t : Tab) (g n : Nat) (w : World) (e : Ending) (w' : World) : Prop :=
 e = .returned (.tuple #[]) /\ ∃ t', t'.Perm t /\ t'.Pairwise leR /\ rTab w' (some ⟨g, 0, none⟩) n t' /\ w.grownBy w' (some g)
theorem sortE1 (g n c B : Nat) (t : Tab) (w : World) (h : ownD kEnt w B (.slice (some ⟨g, 0, none⟩) n c) n t) (hn : 0 < n) (hn2 : n <= 1000000) (hf : ∀ x ∈ t, x.1.length <= 100000) :
 Calls Tryz.prog 252 #[.slice (some ⟨g, 0, none⟩) n c, .func (.func 253) #[] #[]] w (SortR2 t g n w) := by
 obtain ⟨es, h1, h2, h3⟩ := h
 have hlen : es.length = n := by
  have : (flat encEnt es).length = n * 2 := h1.1
  rw [zau za5] at this
  omega
 have htl : t.length = n := by rw [<- h2.len]; exact hlen
 rcases h1 with ⟨_, ⟨e1, _⟩ | ⟨g', cap, cur, e1, b1, b2, b3, b4, b5, b6⟩⟩
 . cases e1
 injection e1 with e1 e2 e3
 injection e1 with e1
 injection e1 with e1
 subst e1
 subst e3
 obtain ⟨m, rfl⟩ : ∃ m, n = m + 1 := ⟨n - 1, by omega⟩
 have hgl := (Array.getElem?_eq_some_iff.1 b2).1
 let E : Fin (m + 1) -> Ent := fun i => es[i.1]'(by rw [hlen]; exact i.2)
 let R : Fin (m + 1) -> List Val × Int := fun i => t[i.1]'(by rw [htl]; exact i.2)
 let enc : Fin (m + 1) -> List Value := fun i => encEnt (E i)
 let d : Array (Fin (m + 1)) := (List.finRange (m + 1)).toArray
 have hds : d.size = m + 1 := by simp [d]
 have hfl : ∀ (l : List (Fin (m + 1))), flat enc l = flat encEnt (l.map E) := fun l => by simp [flat, enc, List.flatMap_map]
 have hE : (List.finRange (m + 1)).map E = es := by
  apply List.ext_getElem (by simp [hlen])
  intro i h1 h2
  simp [E]
 have hR : (List.finRange (m + 1)).map R = t := by
  apply List.ext_getElem (by simp [htl])
  intro i h1 h2
  simp [R]
 have hD : ∀ i, dEnt w (E i) (R i) := fun i => by
  obtain ⟨b, hb, hr⟩ := h2.get (j := i.1) (a := E i) (List.getElem?_eq_getElem _)
  rw [List.getElem?_eq_getElem (by rw [htl]; exact i.2)] at hb
  cases hb
  exact hr
 have hH : HoldsK enc 2 w g 0 d := zoz (enc := enc) (k := 2) (fun _ => rfl) (Nat.succ_pos 1) b2 (by
  rw [hds]
  have : cur.toList.take ((m + 1) * 2) = flat encEnt es := b6
  rw [this, hfl]
  simp [d, hE])
 have far : ∀ i, 0 < (E i).rN -> ∀ ad, (E i).rA = some ad -> ad.block ≠ g := fun i h0 ad e e2 => by
  have hm : E i ∈ es := List.getElem_mem _
  exact h3 _ hm ((E i).rA, (E i).rN) (List.mem_cons_self ..) h0 ad e (by rw [e2]; rfl)
 have keep : ∀ (w' : World), w.grownBy w' (some g) -> ∀ i, dEnt w' (E i) (R i) := fun w' hg i => by
  refine kEnt.kept (hD i) hg fun q hq h0 ad e e2 => ?_
  have hq : q ∈ [((E i).rA, (E i).rN)] := hq
  simp at hq
  subst hq
  injection e2 with e2
  exact far i h0 ad e e2
 have hcmp : CmpLays Tryz.prog 253 #[] enc 2 (fun i j : Fin (m + 1) => cmpR (R i).1 (R j).1) g 0 d.size w := fun m' os dk _ x y => by
  have hg := zgr enc 2 w g 0 m' dk os
  have hk0 : True := trivial
  refine (clo253 (E x) (E y) (R x).1 (R y).1 _ (keep _ hg x).1 (keep _ hg y).1 (hf _ (List.getElem_mem _)) (hf _ (List.getElem_mem _))).mono ?_
  rintro e w' ⟨rfl, hb⟩
  exact ⟨rfl, hb.grow⟩
 have eg : ∀ args w, (callFunc 253 args).run Tryz.prog w = .ok (.enter 253 args) w := enters_of Tryz.func253 qG rfl
 have hcon := AnyQ.slices_SortFunc zp9 2 Tryz.isAgg65 Tryz.sizeOf65 enc (fun _ => rfl) (fun x v hv => zfn _ v hv) (fun i j : Fin (m + 1) => cmpR (R i).1 (R j).1) (cmp_swo fun i => (R i).1) 253 #[] g 0 c d w eg hcmp hH hgl (show d.size < 4611686018427387904 from by rw [hds]; exact Nat.lt_of_le_of_lt hn2 (by decide))
 change Calls Tryz.prog 252 _ _ _ at hcon
 rw [hds] at hcon
 refine hcon.mono ?_
 rintro e w' ⟨rfl, d', q, os, hp, hs, rfl⟩
 obtain ⟨hp1, _, hp3⟩ := hp
 rw [hds] at hp1
 have hg := zgr enc 2 w g 0 q d' os
 have hp4 : d'.toList.Perm d.toList := by
  have e1 := zf5 hp1
  have e2 := zf5 hds
  rw [e1, e2] at hp3
  exact hp3
 refine ⟨rfl, d'.toList.map R, ?_, ?_, ?_, hg⟩
 . have := hp4.map R
   rwa [show d.toList.map R = t by simp [d, hR]] at this
 . rw [List.pairwise_map, List.pairwise_iff_getElem]
   intro i j hi hj hij
   have hi' : i < d'.size := by simpa using hi
   have hj' : j < d'.size := by simpa using hj
   have := hs i j (Nat.zero_le _) hij qF
   unfold ltOf at this
   rw [decide_eq_false_iff_not, getElem!_pos d' i hi', getElem!_pos d' j hj'] at this
   exact this
 . obtain ⟨cs', k1, k2, k3⟩ := sortW_at enc 2 (fun _ => rfl) (Nat.succ_pos 1) w g q d' os b2 (by
    rw [hp1]
    have : cur.size = c * 2 := b5
    rw [this]
    exact Nat.mul_le_mul_right 2 b3)
   refine ⟨d'.toList.map E, za7 (by rw [zau za5]; simp [hp1]) fun j u hu => ?_, ?_⟩
   . rw [<- hfl, <- k3, List.getElem?_take] at hu
     split at hu
     . rw [World.cell?, Nat.zero_add, k1]
       simpa using hu
     . cases hu
   . exact dAll.of_get qH fun j a b ha hb => by
      rw [List.getElem?_map] at ha hb
      cases hx : d'.toList[j]? with
      | none => rw [hx] at ha; cases ha
      | some i =>
        rw [hx] at ha hb
        cases ha
        cases hb
        exact keep _ hg i
end
section
open Go.BigFrame Go.RowKit
def TabFR (t : Tab) (w : World) (e : Ending) (w' : World) : Prop := ∃ A n c, e = .returned (.slice A n c) /\ rTabF w' w.heap.size A n t /\ n <= c /\ Below w.heap.size w w'
set_option maxRecDepth 100000 in
set_option maxHeartbeats 1000000 in
theorem zog (A : Option Addr) (n c : Nat) (t : Tab) (w : World) (ht : rTab w A n t) (hn : n <= 4096) (h12 : ∀ x ∈ t, x.1.length <= 12) : Calls Tryz.prog 129 #[.slice A n c] w (TabFR t w) := by
 obtain ⟨iE, PE⟩ := zpw w.heap.size
 have HT := qL ht
 have H12 := qL h12
 have HL := qL ht.len
 clear ht h12
 go_enter Tryz.func129, Tryz.ntmps129
 go_wp2
 go_loopw [3, 8] (fun v i wr => ∃ k : Nat, k <= n /\ i = .int .i64 k /\ Below w.heap.size w wr /\ Hid (ownD (kEntF w.heap.size) wr w.heap.size v k (t.take k))) (fun _ i _ => n - (intOf i).toNat)
 case atStart => exact ⟨0, by omega, rfl, za0 _, qL (ownD.nil _ _)⟩
 case round =>
  obtain ⟨k, hk, rfl, hbw, HO⟩ := hrel
  by_cases hlt : k < n
  . obtain ⟨b1, o1, rfl, hc1⟩ := HT.out.opn qF
    obtain ⟨x, hx⟩ := zah (l := t) (k := k) (by have := HL.out; omega)
    obtain ⟨rA, rN, rC, x1, x2, x3⟩ := hc1 k x hx
    have X3 := qL x3
    have hrN : rN <= 12 := by have := x3.len; have := H12.out x (qP hx); omega
    have hv0 : ∀ j, u3.ownBlock = some j -> w.heap.size <= j /\ j < wr.heap.size := HO.out.lt
    have HV0 := qL hv0
    have HBW := qL hbw
    have HX := qL (zbc hx)
    have z1 := qM hbw x1
    have z2 := qM hbw x2
    have i1 : (k : Int) < (n : Int) := by omega
    have HA : Hid (Below w.heap.size w (wr.alloc (.cells #[.slice rA rN rC, .int .i64 x.2] 65))) := qL (hbw.alloc hbw.size _)
    have c1 : (wr.alloc (.cells #[.slice rA rN rC, .int .i64 x.2] 65)).cell? ⟨wr.heap.size, 0, none⟩ = some (.slice rA rN rC) := by simp
    have c2 : (wr.alloc (.cells #[.slice rA rN rC, .int .i64 x.2] 65)).cell? ⟨wr.heap.size, 1, none⟩ = some (.int .i64 x.2) := by simp
    clear hc1 hx x3 hv0 x1 x2 hbw
    go_wp2_with fail
    have c1d : (wr.alloc (.cells #[.slice rA rN rC, .int .i64 x.2] 65)).drew.cell? ⟨wr.heap.size, 0, none⟩ = some (.slice rA rN rC) := c1
    have c2d : (wr.alloc (.cells #[.slice rA rN rC, .int .i64 x.2] 65)).drew.cell? ⟨wr.heap.size, 1, none⟩ = some (.int .i64 x.2) := c2
    have hk1 : k < 1000000 := by omega
    have hrN1 : rN <= 100000 := by omega
    have hne : some wr.heap.size ≠ u3.ownBlock := fun e => by have := HV0.out _ e.symm; omega
    go_region_held3 (fun w' => Below w.heap.size w w' /\ w'.cell? ⟨wr.heap.size, 0, none⟩ = some (.slice rA rN rC) /\ w'.cell? ⟨wr.heap.size, 1, none⟩ = some (.int .i64 x.2))
     ((go_split_ands; refine ⟨?_, ?_, ?_⟩ <;> (with_reducible first | exact HA.out.drew | exact c1d | exact c2d | (refine Below.alloc ?_ (Below.size qI) _; assumption) | exact qM (zae _ _) qI | (exact zaf qI qI (fun k e => (HV0.out k e).1)) | exact World.grownBy.cell qI qI hne | (refine btr ?_ qI; assumption) | exact qM qI qI)))
     (first
       | (go_at_call 72; go_split_ands; (with_reducible refine (cloVE _ _ _ x.1 _ (zb4.2 (X3.out.later HA.out.drew)) hrN1).mono ?_); rintro e w' ⟨A1, c1', rfl, hrd1, hcc1, hb1, hfr1, hown1⟩; have HB1 := qL (btr (zae wr _) (zap hb1)); have HSZ := qL (qR HBW.out.size HB1.out.size); have HF1 := qL (zb3 (n := rN) (w1 := wr) (fun k e => (HV0.out k e).2) (fun a e => qR (zae wr _).size (hfr1 a e).1)); have HF2 : Hid (∀ a, A1 = some a -> w.heap.size <= a.block) := qL (fun a e => qR HA.out.size (hfr1 a e).1); have HF3 : Hid (ownD (kEntF w.heap.size) (w'.alloc (.cells #[.slice A1 rN c1', .int .i64 x.2] 65)) w.heap.size u3 k (t.take k)) := qL (HO.out.later (HB1.out.alloc HB1.out.size _)); have HF4 := qL (zb4.1 (hrd1.later (zae _ (.cells #[.slice A1 rN c1', .int .i64 x.2] 65)))))
       | ((refine za3 _ qJ _ _ qJ PE HF3.out ⟨_, 0, none⟩ ⟨A1, rN, c1', x.2⟩ x qJ qJ (zan _ _ _ _ _ _) ⟨⟨HF4.out, rfl⟩, fun _ a e => HF2.out a e⟩ HF1.out hk1 (qR HSZ.out (zae _ _).size) ?_; intro v' w' hown' hgrow hat)))
    go_split_ands
    have HBF : Hid (Below w.heap.size w w') := qL qI
    have HOF : Hid (ownD (kEntF w.heap.size) w' w.heap.size v' (k + 1) (t.take (k + 1))) := qL (by rw [HX.out]; exact hown')
    clear hown' hgrow hat hown1 hrd1 hfr1 hb1
    go_wp2
    go_roundw
    case rel => exact ⟨k + 1, by omega, by go_num, HBF.out, HOF⟩
    case measure => simp [intOf]; omega
  . obtain rfl : k = n := by omega
    obtain ⟨vA, vc, hv4, hvc, hrd, hfr⟩ := HO.out.rd
    have HR : Hid (rTabF wr w.heap.size vA k t) := qL ⟨by rw [List.take_of_length_le (by have := HL.out; omega)] at hrd; exact hrd, fun _ a e => (hfr a e).1⟩
    subst hv4
    clear hrd hfr
    go_wp2
    go_ret
    exact ⟨_, _, _, rfl, HR.out, hvc, hbw⟩
end
section
open Go.RowKit
def intV (n : Int) : Val := if n < -1073741824 ∨ 1073741824 < n then zV else ⟨2, n, ⟨#[]⟩⟩
theorem zkx {n : Int} (h : -1073741824 <= n) (h2 : n <= 1073741824) : intV n = ⟨2, n, ⟨#[]⟩⟩ := if_neg qF
end
end Go.Proofs.YthcalfeoejdcgaaGreatDoor
