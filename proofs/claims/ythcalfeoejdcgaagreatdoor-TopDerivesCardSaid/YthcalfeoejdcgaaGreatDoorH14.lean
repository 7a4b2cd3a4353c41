import Derived.Test.YthcalfeoejdcgaaGreatDoorH13
import Derived.WalkSpells
import Derived.StillTailTactics
import Derived.KernelRfl
namespace Go.Proofs.YthcalfeoejdcgaaGreatDoor
set_option linter.unusedSimpArgs false
set_option linter.unusedVariables false
section
section
open Go.BigFrame Go.RowKit
structure GM where
 key : List Val
 tab : Tab
 v : Value
 ib : Nat
 g : List UInt8 -> Option Value
section
variable {P : Program} {w w' : World} {B N m q : Nat} {l : List GM} {I row : Option Nat} {x : GM}
end
section
variable {P : Program} {w w' : World} {B N m q cb ob : Nat} {os ps : List Int} {u : Tab} {l : List GM} {fc fo : List UInt8 -> Option Value}
variable {i : Nat} {x : GM} {e : List Val × Int} {w1 w2 w3 w4 w5 : World}
end
section
variable {P : Program} {w w' : World} {B N m q cb ob : Nat} {os ps : List Int} {u : Tab} {l : List GM} {fc fo : List UInt8 -> Option Value} {i : Nat} {x : GM} {e : List Val × Int}
end
section
variable {P : Program} {k e t : TypeId} {w : World} {ops : Array Oper} {o : Oper} {a : Act} {Q : Exit -> Act -> World -> Prop}
end
def isZ (v : Val) : Bool := (0 == v.k && (0 == v.m && (⟨#[]⟩ : ByteArray).toList == v.s.toList))
theorem isZ_cmp (v : Val) : isZ v = (cmpV v zV == 0) := by
 rw [Bool.eq_iff_iff]
 unfold isZ
 simp only [Bool.and_eq_true, beq_iff_eq]
 rw [zct]
 constructor
 . rintro ⟨h1, h2, h3⟩
   obtain ⟨k, m, s⟩ := v
   simp only at h1 h2 h3
   rw [<- h1, <- h2, <- toList_inj h3]
   rfl
 . rintro rfl
   exact ⟨rfl, rfl, rfl⟩
theorem nulV_isZ (r : List Val) : nulV r = r.any isZ := by
 unfold nulV
 congr 1
 funext v
 rw [isZ_cmp]
set_option maxRecDepth 100000 in
set_option maxHeartbeats 1000000 in
theorem idx277 (A : Option Addr) (n c : Nat) (l : List Val) (w : World) (h : rVal w A n l) (hn : n <= 100000) :
 Calls Tryz.prog 277 #[.slice A n c, .agg #[.int .i64 0, .int .i64 0, .string ⟨#[]⟩]] w fun e w' => e = .returned (.int .i64 (idxV isZ l)) /\ Below w.heap.size w w' := by
 have HA := qL h
 have LA := qL h.len
 clear h
 go_enter Tryz.func277, Tryz.ntmps277
 go_wp2
 go_loopw [8] (fun i wr => ∃ k : Nat, k <= n /\ i = .int .i64 k /\ Below w.heap.size w wr /\ wr.cell? ⟨w.heap.size, 0, none⟩ = some (.int .i64 0) /\ wr.cell? ⟨w.heap.size, 1, none⟩ = some (.int .i64 0) /\ wr.cell? ⟨w.heap.size, 2, none⟩ = some (.string ⟨#[]⟩) /\ Hid (NoneTo isZ l k)) (fun i _ => n - (intOf i).toNat)
 case atStart => exact ⟨0, by omega, rfl, zae _ _, by simp, by simp, by simp, qL fun j _ hj => absurd hj qF⟩
 case round =>
  obtain ⟨k, hk, rfl, hbw, q0, q1, q2, HS⟩ := hrel
  have HBW := qL hbw
  by_cases h1 : k < n
  . obtain ⟨b1, o1, rfl, hc1⟩ := (HA.out.later hbw).opn qF
    obtain ⟨x, hx⟩ := zah (l := l) (k := k) (by have := LA.out; omega)
    obtain ⟨x1, x2, x3⟩ := hc1 k x hx
    have HX := qL hx
    have qe : ∀ W : World, (binOp .eql 46 (.agg #[.int .i64 0, .int .i64 0, .string ⟨#[]⟩]) (.agg #[.int .i64 x.k, .int .i64 x.m, .string x.s])).run Tryz.prog W = .ok (.bool (isZ x)) W := fun W => zne 0 0 ⟨#[]⟩ x.k x.m x.s W
    have g0 := Gro.cell q0
    have g1 := Gro.cell q1
    have g2 := Gro.cell q2
    have g3 := Gro.cell x1
    have g4 := Gro.cell x2
    have g5 := Gro.cell x3
    have h1' : (k : Int) < (n : Int) := by omega
    clear hc1 hx hbw
    cases hz : isZ x
    . have HZ := qL hz
      simp only [hz] at qe
      clear hz x1 x2 x3
      go_wp2_with fail
      refine zai qG qG ?_; (repeat (go_big_quiet_step (fail))); refine wpQuiet_nil ?_; intro _ hw'; obtain ⟨pq, hw''⟩ := hw'; subst hw''; have hbq := pq.below; revert hbq; generalize pq.world = wq; intro hbq
      have HBF := qL (btr HBW.out hbq)
      have s0 := qM hbq q0
      have s1 := qM hbq q1
      have s2 := qM hbq q2
      clear g0 g1 g2 g3 g4 g5 hbq q0 q1 q2
      go_wp2
      go_roundw
      case rel => exact ⟨k + 1, by omega, by go_num, HBF.out, s0, s1, s2, qL (HS.out.succ HX.out HZ.out)⟩
      case measure => simp [intOf]; omega
    . have HZ := qL hz
      simp only [hz] at qe
      clear hz x1 x2 x3
      go_wp2_with fail
      refine zai qG qG ?_; (repeat (go_big_quiet_step (fail))); refine wpQuiet_nil ?_; intro _ hw'; obtain ⟨pq, hw''⟩ := hw'; subst hw''; have hbq := pq.below; revert hbq; generalize pq.world = wq; intro hbq
      have HBF := qL (btr HBW.out hbq)
      clear g0 g1 g2 g3 g4 g5 hbq q0 q1 q2
      go_wp2
      go_ret
      exact ⟨zak (zck HS.out HX.out HZ.out).symm, HBF.out⟩
  . go_wp2
    go_ret
    exact ⟨zak (zcw (fun j y hy => HS.out j y (by have := LA.out; have := (qO hy).1; omega) hy)).symm, hbw⟩
theorem zkf (A : Option Addr) (n c : Nat) (l : List Val) (w : World) (h : rVal w A n l) (hn : n <= 100000) :
 Calls Tryz.prog 248 #[.slice A n c, .agg #[.int .i64 0, .int .i64 0, .string ⟨#[]⟩]] w fun e w' => e = .returned (.bool (nulV l)) /\ Below w.heap.size w w' := by
 have H := qL (idx277 A n c l (w.alloc (.cells #[.int .i64 0, .int .i64 0, .string ⟨#[]⟩] 46)) (h.later (zae _ _)) hn)
 clear h
 go_enter Tryz.func248, Tryz.ntmps248
 go_wp2_with fail
 refine H.out.mono ?_
 rintro e w1 ⟨rfl, hb1⟩
 have HB1 := qL (btr (zae _ _) hb1)
 clear hb1
 go_wp2
 go_ret
 exact ⟨zal (by rw [nulV_isZ, <- zo0]), HB1.out⟩
end
end
section
section
open Go.BigFrame Go.RowKit
def kNod : Kin Nod Nod where
 enc := encNod
 C := 6
 e := 48
 ptrs := fun _ => []
 D := fun _ a b => a = b
 len := zey
 pos := by omega
 one := one1_Nod
 later := fun h _ => h
 kept := fun h _ _ => h
 lt := fun _ p hp => by cases hp
theorem rD_Nod {w : World} {A : Option Addr} {n : Nat} {l : List Nod} : rD kNod w A n l ↔ rNod w A n l :=
 ⟨fun ⟨es, h1, h2⟩ => by have e : es = l := zdz h2; subst e; exact h1, fun h => ⟨l, h, zbg l⟩⟩
theorem info48 : (Tryz.prog.info? 48).map (fun i => (i.zero, i.size, i.bytes)) = some (some (.agg #[.int .i64 0, .int .i64 0, .int .i64 0, .string ⟨#[]⟩, .string ⟨#[]⟩, .int .i64 0]), 6, 64) := by kernel_rfl
theorem pNod : ∃ i, KinP Tryz.prog kNod 25 i (.agg #[.int .i64 0, .int .i64 0, .int .i64 0, .string ⟨#[]⟩, .string ⟨#[]⟩, .int .i64 0]) 64 := by
 obtain ⟨i0, hi, hz0, hz1, hz2⟩ := info_parts info48
 exact ⟨i0, ⟨Tryz.underlying25, hi, hz0, hz1, hz2, rfl, by omega⟩⟩
def kExp : Kin (Option Addr × Nat × Nat) (List Nod) where
 enc := encPart
 C := 1
 e := 25
 ptrs := fun a => [(a.1, a.2.1)]
 D := fun w a r => rNod w a.1 a.2.1 r
 len := fun _ => rfl
 pos := by omega
 one := fun x u hu => by simp [encPart] at hu; subst hu; rfl
 later := fun h hb => rNod.later h hb
 kept := fun {w w' row a b} h hg hf => Fl.kept h hg fun h0 ad e => hf _ (List.mem_cons_self ..) h0 ad e
 lt := fun {w a b} h p hp h0 ad e => by
  simp at hp
  subst hp
  obtain ⟨b', off, e', hl⟩ := Fl.lt h qF h0
  rw [e] at e'
  cases e'
  exact hl
theorem zpv (w : World) (op vk vm : Int) (vs nm : ByteArray) (ar : Int) : ownD kNod (w.alloc (.cells #[.int .i64 op, .int .i64 vk, .int .i64 vm, .string vs, .string nm, .int .i64 ar] 48)) w.heap.size (.slice (some ⟨w.heap.size, 0, none⟩) 1 1) 1 [⟨op, vk, vm, vs, nm, ar⟩] :=
 ⟨[⟨op, vk, vm, vs, nm, ar⟩], World.ownsRow_lit (e := 48) (size := 6) (base := w.heap.size) w #[.int .i64 op, .int .i64 vk, .int .i64 vm, .string vs, .string nm, .int .i64 ar] 1 (qV _) (by decide) rfl, ⟨rfl, trivial⟩, fun a _ p hp => by cases hp⟩
def OneR (x : Nod) (w : World) (e : Ending) (w' : World) : Prop := ∃ v, e = .returned v /\ ownD kNod w' w.heap.size v 1 [x] /\ Below w.heap.size w w'
theorem zl1 (k m : Int) (s : ByteArray) (w : World) : Calls Tryz.prog 46 #[.agg #[.int .i64 k, .int .i64 m, .string s]] w (OneR ⟨0, k, m, s, ⟨#[]⟩, 0⟩ w) := by
 go_enter Tryz.func46, Tryz.ntmps46
 go_wp2
 go_ret
 exact ⟨_, rfl, by simpa using (zpv (w.alloc (.cells #[.int .i64 k, .int .i64 m, .string s] 46)) 0 k m s ⟨#[]⟩ 0).mono (zae w (.cells #[.int .i64 k, .int .i64 m, .string s] 46)).size, (zae _ _).alloc qH _⟩
def ExpR (cs : List Col) (kind : Int) (N : Nat) (w : World) (e : Ending) (w' : World) : Prop := ∃ v n p, e = .returned v /\ ownD kNod w' w.heap.size v n p /\ okE cs kind N p /\ Below w.heap.size w w'
theorem zia {cs : List Col} {kind : Int} {v : Val} (h : validV v = true) (hk : v.k = kind ∨ v.k = 0) : okE cs kind 1 [⟨0, v.k, v.m, v.s, ⟨#[]⟩, 0⟩] := by
 refine ⟨by simp, fun n hn => ?_, ⟨v.k, v.k == 0⟩, hk, blk0 rfl rfl⟩
 rw [List.mem_singleton] at hn
 subst hn
 exact ⟨rfl, by simp, by simp, fun _ => ⟨rfl, h⟩, fun h => absurd rfl h, fun h => (by simp at h), fun h => (by simp at h), fun h => absurd rfl h⟩
theorem okE_col {cs : List Col} (hc : okCols cs) {j : Nat} {c : Col} (hj : cs[j]? = some c) : okE cs c.k 1 [⟨1, 0, 0, ⟨#[]⟩, c.nm, 0⟩] := by
 have hi := (hc.2.2 j c hj).2.2.2
 have hat : colAt cs c.nm = c := by
  unfold colAt
  rw [hi, Int.toNat_natCast, List.getD_eq_getElem?_getD, hj]; rfl
 refine ⟨by simp, fun n hn => ?_, ⟨c.k, c.nl⟩, .inl rfl, blk0 rfl ?_⟩
 . rw [List.mem_singleton] at hn
   subst hn
   exact ⟨rfl, by simp, by simp, fun h => (by simp at h), fun _ => ⟨rfl, rfl, rfl⟩, fun _ => by show 0 <= idxC cs c.nm; rw [hi]; omega, fun h => (by simp at h), fun _ h => absurd rfl h⟩
 . show (if idxC cs c.nm < 0 then none else some (⟨(colAt cs c.nm).k, (colAt cs c.nm).nl⟩ : Knd)) = _
   rw [if_neg (by rw [hi]; omega), hat]
set_option maxRecDepth 100000 in
set_option maxHeartbeats 2000000 in
theorem leafE (kind : Int) (A : Option Addr) (n c : Nat) (cs : List Col) (q : Int) (w : World) (h : rCol w A n cs) (hc : okCols cs) (h1 : 1 <= kind) (h4 : kind <= 4) (hq : 0 <= q) (hq1 : q <= 200000) : Calls Tryz.prog 26 #[.int .i64 kind, .slice A n c, .int .i64 q] w (ExpR cs kind 1 w) := by
 have HC := qL h
 have HL := qL h.len
 have HK := qL hc
 have hn1 : 1 <= n /\ n <= 12 := by have := h.len; have := hc.1; have := hc.2.1; omega
 clear h hc
 cases hz : decide (0 < q % 4)
 . have HZ := qL hz
   have hz2 : ¬ 0 < q % 4 := by simpa using hz
   have HZ2 := qL hz2
   clear hz2
   go_enter Tryz.func26, Tryz.ntmps26
   go_wp2
   go_loopw [7] (fun i wr => i = .int .i64 0 /\ Below w.heap.size w wr) (fun _ _ => 0)
   case atStart => exact ⟨rfl, za0 _⟩
   case round =>
    obtain ⟨rfl, hbw⟩ := hrel
    have d0 : decide ((0 : Int) < (n : Int)) = true := decide_eq_true qF
    cases hz16 : (q % 16 == 0)
    . have HB0 := qL hbw
      go_wp2_with fail
      refine (zqq kind (q / 16) _ h1 h4).mono ?_
      rintro e w5 ⟨m, s, rfl, hval, hb5⟩
      have HVAL := qL hval
      have HB5 := qL (btr HB0.out hb5)
      clear hval hb5
      go_wp2_with fail
      refine (zl1 kind m s _).mono ?_
      rintro e w6 ⟨v, rfl, hown, hb6⟩
      have HO := qL (hown.mono HB5.out.size)
      have HB6 := qL (btr HB5.out hb6)
      clear hown hb6
      go_wp2
      go_ret
      exact ⟨v, 1, _, rfl, HO.out, zia (v := ⟨kind, m, s⟩) HVAL.out (.inl rfl), HB6.out⟩
    . have HB0 := qL hbw
      go_wp2_with fail
      refine (zl1 0 0 ⟨#[]⟩ _).mono ?_
      rintro e w6 ⟨v, rfl, hown, hb6⟩
      have HO := qL (hown.mono HB0.out.size)
      have HB6 := qL (btr HB0.out hb6)
      clear hown hb6
      go_wp2
      go_ret
      exact ⟨v, 1, _, rfl, HO.out, zia (v := zV) zes (.inr rfl), HB6.out⟩
 . have HZ := qL hz
   have hz2 : 0 < q % 4 := by simpa using hz
   have HZ2 := qL hz2
   clear hz2
   go_enter Tryz.func26, Tryz.ntmps26
   go_wp2
   go_loopw [7] (fun i wr => ∃ k : Nat, k <= n /\ i = .int .i64 k /\ Below w.heap.size w wr) (fun i _ => n - (intOf i).toNat)
   case atStart => exact ⟨0, by omega, rfl, za0 _⟩
   case round =>
    obtain ⟨k, hk, rfl, hbw⟩ := hrel
    by_cases hlt : k < n
    . obtain ⟨b1, o1, rfl, hc1⟩ := HC.out.opn qF
      have r0 : 0 <= (q / 4 + (k : Int)) % (n : Int) := Int.emod_nonneg _ qF
      have r1 : (q / 4 + (k : Int)) % (n : Int) < n := Int.emod_lt_of_pos _ qF
      have t1 : (q / 4 + (k : Int)).tmod (n : Int) = (q / 4 + (k : Int)) % (n : Int) := Int.tmod_eq_emod_of_nonneg qF
      have hw : IntKind.i64.wrap (q / 4 + (k : Int)) = q / 4 + (k : Int) := by rw [IntKind.wrap_i64]; omega
      have hne : ¬ (n : Int) = 0 := by omega
      obtain ⟨j, hj⟩ : ∃ j : Nat, (q / 4 + (k : Int)) % (n : Int) = j := ⟨((q / 4 + (k : Int)) % (n : Int)).toNat, by omega⟩
      rw [hj] at t1 r1
      obtain ⟨cl, hcl⟩ := zah (l := cs) (k := j) (by have := HL.out; omega)
      obtain ⟨x1, x2, x3⟩ := hc1 j cl hcl
      have HCL := qL hcl
      have z1 := qM hbw x1
      have z2 := qM hbw x2
      have z3 := qM hbw x3
      have HB0 := qL hbw
      clear hc1 hcl x1 x2 x3 r0 hj hbw
      cases hkk : (cl.k == kind)
      . go_wp2
        go_roundw
        case rel => exact ⟨k + 1, by omega, by go_num, HB0.out.alloc HB0.out.size _⟩
        case measure => simp [intOf]; omega
      . have HKK : Hid (cl.k = kind) := qL (by simpa using hkk)
        go_wp2
        go_ret
        refine ⟨_, 1, [⟨1, 0, 0, ⟨#[]⟩, cl.nm, 0⟩], rfl, ?_, ?_, (HB0.out.alloc HB0.out.size _).alloc (HB0.out.alloc HB0.out.size _).size _⟩
        . have h := (zpv (wr.alloc (.cells #[.string cl.nm, .int .i64 cl.k, .bool cl.nl] 56)) 1 0 0 ⟨#[]⟩ cl.nm 0).mono (HB0.out.alloc HB0.out.size (.cells #[.string cl.nm, .int .i64 cl.k, .bool cl.nl] 56)).size
          simpa using h
        . rw [<- HKK.out]
          exact okE_col HK.out HCL.out
    . obtain rfl : k = n := by omega
      cases hz16 : (q % 16 == 0)
      . have HB0 := qL hbw
        go_wp2_with fail
        refine (zqq kind (q / 16) _ h1 h4).mono ?_
        rintro e w5 ⟨m, s, rfl, hval, hb5⟩
        have HVAL := qL hval
        have HB5 := qL (btr HB0.out hb5)
        clear hval hb5
        go_wp2_with fail
        refine (zl1 kind m s _).mono ?_
        rintro e w6 ⟨v, rfl, hown, hb6⟩
        have HO := qL (hown.mono HB5.out.size)
        have HB6 := qL (btr HB5.out hb6)
        clear hown hb6
        go_wp2
        go_ret
        exact ⟨v, 1, _, rfl, HO.out, zia (v := ⟨kind, m, s⟩) HVAL.out (.inl rfl), HB6.out⟩
      . have HB0 := qL hbw
        go_wp2_with fail
        refine (zl1 0 0 ⟨#[]⟩ _).mono ?_
        rintro e w6 ⟨v, rfl, hown, hb6⟩
        have HO := qL (hown.mono HB0.out.size)
        have HB6 := qL (btr HB0.out hb6)
        clear hown hb6
        go_wp2
        go_ret
        exact ⟨v, 1, _, rfl, HO.out, zia (v := zV) zes (.inr rfl), HB6.out⟩
def flatE (ls : List (List Nod)) : List Nod := ls.flatMap id
theorem znf {ls : List (List Nod)} {k : Nat} {r : List Nod} (h : ls[k]? = some r) : flatE (ls.take (k + 1)) = flatE (ls.take k) ++ r := by
 unfold flatE
 rw [zbc h, List.flatMap_append]
 simp
theorem zi0 : ∀ {ls : List (List Nod)} (_ : ∀ r ∈ ls, r.length <= 100), (flatE ls).length <= ls.length * 100
 | [], _ => by simp [flatE]
 | r :: ls, h => by
   have h1 := h r (List.mem_cons_self ..)
   have ih := zi0 fun x hx => h x (qW _ hx)
   have e : flatE (r :: ls) = r ++ flatE ls := rfl
   rw [e, List.length_append, List.length_cons]
   omega
def opN (op : Int) : Nod := ⟨op, 0, 0, ⟨#[]⟩, ⟨#[]⟩, 0⟩
set_option maxRecDepth 100000 in
set_option maxHeartbeats 2000000 in
theorem appE (op : Int) (A : Option Addr) (n c : Nat) (ls : List (List Nod)) (w : World) (h : rD kExp w A n ls) (hn : n <= 100) (h100 : ∀ r ∈ ls, r.length <= 100) : Calls Tryz.prog 27 #[.int .i64 op, .slice A n c] w fun e w' => ∃ v m, e = .returned v /\ ownD kNod w' w.heap.size v m (flatE ls ++ [opN op]) /\ Below w.heap.size w w' := by
 obtain ⟨iN, PN⟩ := pNod
 have H := qL h
 have HL := qL h.len
 have H100 := qL h100
 clear h h100
 go_enter Tryz.func27, Tryz.ntmps27
 go_wp2
 go_loopw [5, 6] (fun v i wx => ∃ j : Nat, j <= n /\ i = .int .i64 j /\ Below w.heap.size w wx /\ Hid (ownD kNod wx w.heap.size v (flatE (ls.take j)).length (flatE (ls.take j)))) (fun _ i _ => n - (intOf i).toNat)
 case atStart => exact ⟨0, by omega, rfl, za0 _, qL (ownD.nil _ _)⟩
 case round =>
  obtain ⟨j, hj, rfl, hbx, HO⟩ := hrel
  obtain ⟨wx, rfl⟩ : ∃ wx, wx = wr := ⟨_, rfl⟩
  have HBX := qL hbx
  have hsm : (flatE (ls.take j)).length <= 10000 := by
   have h1 := zi0 (ls := ls.take j) fun r hr => H100.out r (List.mem_of_mem_take hr)
   have h2 := List.length_take (i := j) (l := ls)
   omega
  have hsz := hbx.size
  have HV0 : Hid (∀ y, u5.ownBlock = some y -> w.heap.size <= y) := qL fun y e => (HO.out.lt y e).1
  by_cases hjl : j < n
  . obtain ⟨b1, o1, rfl, hc1⟩ := H.out.opn qF
    obtain ⟨r, hr⟩ := zah (l := ls) (k := j) (by have := HL.out; omega)
    obtain ⟨⟨rA, rN, rC⟩, x3, hcell⟩ := hc1 j r hr
    have x1 := hcell 0 (.slice rA rN rC) (by show 0 < 1; omega) rfl
    have x1 := qM hbx (show w.cell? ⟨b1, o1 + j, none⟩ = some (.slice rA rN rC) by rw [show o1 + j = o1 + j * kExp.C + 0 by show o1 + j = o1 + j * 1 + 0; omega]; exact x1)
    have HF : Hid (rNod wx rA rN r) := qL ((show rNod _ rA rN r from x3).later hbx)
    have HS : Hid (flatE (ls.take (j + 1)) = flatE (ls.take j) ++ r) := qL (znf hr)
    have hr12 := H100.out r (qP hr)
    have hrl := HF.out.len
    have hnn : (flatE (ls.take j)).length + rN < 1000000 := by omega
    clear hc1 hr x3 hcell hbx hrl hr12 hsm
    go_wp2_with (at_builtin; refine zc1 _ rfl _ _ rfl PN HO.out HF.out (zbg _) rfl rfl hnn hsz (fun a h p hp => by cases hp) ?_; intro v1 w1 hown hg hat)
    have HOF : Hid (ownD kNod w1 w.heap.size v1 (flatE (ls.take (j + 1))).length (flatE (ls.take (j + 1)))) := qL (za2 hown HS.out)
    have HBF := qL (zaf HBX.out hg HV0.out)
    clear hown hg hat
    go_wp2
    go_roundw
    case rel => exact ⟨j + 1, by omega, by go_num, HBF.out, HOF⟩
    case measure => simp [intOf]; omega
  . obtain rfl : j = n := by omega
    have HTT : Hid (ls.take j = ls) := qL (List.take_of_length_le (by have := HL.out; omega))
    have HOZ := qL (HO.out.later (zae wx (.cells #[.int .i64 op, .int .i64 0, .int .i64 0, .string ⟨#[]⟩, .string ⟨#[]⟩, .int .i64 0] 48)))
    have hsm2 : (flatE (ls.take j)).length < 1000000 := by omega
    have hsz2 : w.heap.size <= (wx.alloc (.cells #[.int .i64 op, .int .i64 0, .int .i64 0, .string ⟨#[]⟩, .string ⟨#[]⟩, .int .i64 0] 48)).heap.size := qR hsz (zae _ _).size
    clear hbx hsm
    go_wp2_with (at_builtin; refine zaq _ rfl _ _ rfl PN HOZ.out ⟨_, 0, none⟩ (opN op) (opN op) rfl rfl (zem _ _ _ _ _ _ _ _) rfl (fun p hp => by cases hp) hsm2 hsz2 ?_; intro v1 w1 hown hg hat)
    have HBF := qL (zaf (HBX.out.alloc HBX.out.size _) hg HV0.out)
    have HOF : Hid (ownD kNod w1 w.heap.size v1 ((flatE (ls.take j)).length + 1) (flatE ls ++ [opN op])) := qL (by have h := hown; rw [HTT.out] at h; rw [HTT.out]; exact h)
    clear hown hg hat
    go_wp2
    go_ret
    exact ⟨v1, _, rfl, HOF.out, HBF.out⟩
def s64 : ASt := ⟨.leaf, 64, []⟩
def noEv : Ev := fun _ _ _ => False
theorem zp8 (w : World) : Sim noEv (fun i => i < 64) (fun i => mkPl i 0 0 0) s64 w := by
 have hg : ∀ i o, s64.heap.get i = some o -> False := fun i o h => by
  have h : (Tr.leaf : Tr AObj).get i = some o := h
  rw [Tr.get_leaf] at h; cases h
 exact ⟨fun i o h => (hg i o h).elim, fun i h => h, fun i o h => (hg i o h).elim, fun i o h => (hg i o h).elim, fun i j o o' h => (hg i o h).elim, fun g h => h, fun g _ => ⟨rfl, rfl⟩, fun i k ob h => by cases h⟩
theorem zgy {n f : Nat} {x : ByteArray} (h : isT ((xR n).call f [.string x] s64) = true) (w : World) : Calls Tryz.prog f #[.string x] w fun e w' => e = .returned (.bool true) /\ Below w.heap.size w w' := by
 unfold isT at h
 split at h
 . rename_i s1 hc
   refine (zir noEv n f _ _ _ _ hc _ _ w [.string x] (zp8 w) (.cons _ _ _ _ (.flat _ rfl) .nil)).mono ?_
   rintro e w' ⟨v', ρ', D', rfl, h1, h2, h3⟩
   obtain rfl := zat h1 rfl
   exact ⟨rfl, zb1 (fun b o h => by
    have h : (Tr.leaf : Tr AObj).get b = some o := h
    rw [Tr.get_leaf] at h; cases h) rfl h3⟩
 . cases h
theorem knownW : ∀ x ∈ knownN, isT ((xR 100).call 78 [.string x] s64) = true /\ isT ((xR 100).call 50 [.string x] s64) = true := fun x hx => by
 have := List.all_eq_true.1 (show (knownN.all fun x => isT ((xR 100).call 78 [.string x] s64) && isT ((xR 100).call 50 [.string x] s64)) = true by kernel_rfl) x hx
 rwa [Bool.and_eq_true] at this
theorem zoneW : ∀ z ∈ zoneL, isT ((xR 100).call 79 [.string z.1] s64) = true /\ isT ((xR 100).call 147 [.string z.1] s64) = true := fun x hx => by
 have := List.all_eq_true.1 (show (zoneL.all fun z => isT ((xR 100).call 79 [.string z.1] s64) && isT ((xR 100).call 147 [.string z.1] s64)) = true by kernel_rfl) x hx
 rwa [Bool.and_eq_true] at this
def dZn (w : World) (z : Zon) (y : ByteArray × Int × List Shf) : Prop := z.nm = y.1 /\ z.off = y.2.1 /\ rShf w z.shA z.shN y.2.2
def rZns (w : World) (A : Option Addr) (n : Nat) : Prop := ∃ zs, rZon w A n zs /\ dAll (dZn w) zs zoneL
theorem rZns.later {w w' : World} {A : Option Addr} {n : Nat} (h : rZns w A n) (hb : Below w.heap.size w w') : rZns w' A n := by
 obtain ⟨zs, h1, h2⟩ := h
 exact ⟨zs, h1.later hb, h2.imp fun _ _ h => ⟨h.1, h.2.1, h.2.2.later hb⟩⟩
theorem rZns.len {w : World} {A : Option Addr} {n : Nat} (h : rZns w A n) : n = 3 := by
 obtain ⟨zs, h1, h2⟩ := h
 rw [<- h1.len, h2.len]; rfl
theorem zfr : ∀ y ∈ zoneL, okShf y.2.2 /\ y.2.2.length <= 64 /\ -840 <= y.2.1 /\ y.2.1 <= 840 := fun y hy => by
 simp only [zoneL, List.mem_cons, List.not_mem_nil, or_false] at hy
 rcases hy with rfl | rfl | rfl
 . exact ⟨⟨fun s h => (by cases h), fun j a b h => (by simp at h)⟩, by decide, by decide, by decide⟩
 . refine ⟨⟨fun s h => ?_, fun j a b h h2 => ?_⟩, by decide, by decide, by decide⟩
   . simp only [List.mem_cons, List.not_mem_nil, or_false] at h
     rcases h with rfl | rfl <;> decide
   . match j, h, h2 with
     | 0, h, h2 =>
       simp at h h2
       subst h; subst h2; decide
     | 1, h, h2 => simp at h2
 . refine ⟨⟨fun s h => ?_, fun j a b h h2 => ?_⟩, by decide, by decide, by decide⟩
   . simp only [List.mem_cons, List.not_mem_nil, or_false] at h
     subst h; decide
   . match j, h, h2 with
     | 0, h, h2 => simp at h2
     | n + 1, h, h2 => simp at h2
theorem zhd {w : World} {b C n : Nat} {xs : List Value} {e : TypeId} (hn : xs.length = n * C) (h : w.heap[b]? = some (.cells xs.toArray e (0, 0))) : Fl w C (some ⟨b, 0, none⟩) n xs := by
 refine za7 hn fun j u hu => ?_
 rw [World.cell?, h]
 simpa using hu
set_option maxRecDepth 100000 in
theorem zonesE (w : World) : Calls Tryz.prog 12 #[] w fun e w' => ∃ A, e = .returned (.slice A 3 3) /\ rZns w' A 3 /\ Below w.heap.size w w' := by
 go_enter Tryz.func12, Tryz.ntmps12
 go_wp2
 go_ret
 refine ⟨_, rfl, ⟨[⟨⟨#[122, 48]⟩, 60, none, 0, 0⟩, ⟨⟨#[122, 49]⟩, -300, some ⟨w.heap.size, 0, none⟩, 2, 2⟩, ⟨⟨#[122, 50]⟩, 120, some ⟨w.heap.size + 1, 0, none⟩, 1, 1⟩], ?_, ?_⟩, ((zae _ _).alloc qH _).alloc (by simp; omega) _⟩
 . exact zhd rfl (zb7 qH)
 . refine ⟨⟨rfl, rfl, rShf.nil _ _⟩, ⟨rfl, rfl, ?_⟩, ⟨rfl, rfl, ?_⟩, trivial⟩
   . refine zhd (xs := flat encShf [⟨145000, -240⟩, ⟨147000, -300⟩]) (e := 88) rfl ?_
     rw [Below.heap_alloc _ _ _ (by simp; omega), Below.heap_alloc _ _ _ qH]
     exact zb7 qH
   . refine zhd (xs := flat encShf [⟨145450, 0⟩]) (e := 88) rfl ?_
     rw [Below.heap_alloc _ _ _ qH]
     exact zb7 qH
end
end
end Go.Proofs.YthcalfeoejdcgaaGreatDoor
