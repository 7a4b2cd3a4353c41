/- The program: evaluate.group; The program: evaluate.group, its walk; The program: valid columns, rows that fit; The program: a valid relation; The reference: tables that are the same; The books of a concrete run of a law: the calls by contract answer so; Grouping twice is grouping once. Plain; TopGroups: what the tables of its queries are. Plain; TopGroups: what the tables of its queries are, the groups of groups. Plain; The numbers that TopGroups and its like draw from their argument; TopGroups: the calls by contract, in the run's books. -/
import Derived.KernelRfl
import Derived.Test.YthcalfeoejdcgaaGreatDoorZ13
import Derived.Test.YthcalfeoejdcgaaGreatDoorZ12
import Derived.Test.YthcalfeoejdcgaaGreatDoorZ11
import Derived.Test.YthcalfeoejdcgaaGreatDoorZ09
import Derived.Test.YthcalfeoejdcgaaGreatDoorZ14
import Derived.Test.YthcalfeoejdcgaaGreatDoorZ10
namespace Go.Proofs.YthcalfeoejdcgaaGreatDoor
section
open Go.RowKit Go.BigFrame
set_option linter.unusedSimpArgs false
set_option linter.unusedVariables false

theorem cnt_le_sum : ∀ {l : Tab} (_ : ∀ x ∈ l, 0 < x.2) (r : List Val), 0 ≤ cnt l r ∧ cnt l r ≤ sumC l
  | [], _, r => by simp [cnt, sumC]
  | x :: l, h, r => by
    have h1 := h x (List.mem_cons_self ..)
    have ih := cnt_le_sum (fun y hy => h y (List.mem_cons_of_mem _ hy)) r
    rw [cnt, sumC]
    split <;> omega
theorem sumC_filter : ∀ {t : Tab} (_ : ∀ x ∈ t, 0 < x.2) (p : List Val × Int → Bool), sumC (t.filter p) ≤ sumC t
  | [], _, p => by simp [sumC]
  | x :: t, h, p => by
    have h1 := h x (List.mem_cons_self ..)
    have ih := sumC_filter (fun y hy => h y (List.mem_cons_of_mem _ hy)) p
    rw [List.filter_cons]
    split <;> simp only [sumC] <;> omega
end
section
open Go.RowKit Go.BigFrame
set_option linter.unusedSimpArgs false
set_option linter.unusedVariables false

theorem sumC_ones : ∀ {l : Tab} (_ : ∀ x ∈ l, x.2 = 1), sumC l = l.length
  | [], _ => rfl
  | x :: l, h => by
    have h1 := h x (List.mem_cons_self ..)
    have ih := sumC_ones (fun y hy => h y (List.mem_cons_of_mem _ hy))
    rw [sumC, ih, h1, List.length_cons]
    omega
end
section
open Go.RowKit Go.BigFrame
set_option linter.unusedSimpArgs false
set_option linter.unusedVariables false

/-- valid columns -/
def okCols (cs : List Col) : Prop := 1 ≤ cs.length ∧ cs.length ≤ 12 ∧ ∀ (j : Nat) (c : Col), cs[j]? = some c → nameV c.nm = true ∧ 1 ≤ c.k ∧ c.k ≤ 4 ∧ idxC cs c.nm = j
theorem nameT (s : ByteArray) (w : World) (h : nameV s = true) : Calls Tryz.prog 123 #[.string s] w fun e w' => e = .returned (.bool true) ∧ Below w.heap.size w w' :=
  (nameE s w).mono fun e w' ⟨h1, h2⟩ => ⟨by rw [h1]; exact ret_bool h, h2⟩
set_option maxRecDepth 100000 in
set_option maxHeartbeats 1000000 in
theorem schvE (A : Option Addr) (n c : Nat) (cs : List Col) (w : World) (h : rCol w A n cs) (hok : okCols cs) : Calls Tryz.prog 89 #[.slice A n c] w fun e w' => e = .returned (.int .i64 0) ∧ Below w.heap.size w w' := by
  have HT := Lib.hid h
  have HL := Lib.hid h.len
  have HK := Lib.hid hok
  have hn1 : 1 ≤ n := by have := h.len; have := hok.1; omega
  have hn : n ≤ 12 := by have := h.len; have := hok.2.1; omega
  have d0 : decide (n < 1) = false := by simp; omega
  have d1 : decide (12 < n) = false := by simp; omega
  clear h hok
  go_enter Tryz.func89, Tryz.ntmps89
  go_wp2
  go_loopw [15] (fun i wr => ∃ k : Nat, k ≤ n ∧ i = .int .i64 k ∧ Below w.heap.size w wr) (fun i _ => n - (intOf i).toNat)
  case atStart => exact ⟨0, by omega, rfl, bself _⟩
  case round =>
    obtain ⟨k, hk, rfl, hbw⟩ := hrel
    have HBW := Lib.hid hbw
    by_cases hlt : k < n
    · obtain ⟨b1, o1, rfl, hc1⟩ := HT.out.opn (by omega)
      obtain ⟨x, hx⟩ := get_some (l := cs) (k := k) (by have := HL.out; omega)
      obtain ⟨x1, x2, x3⟩ := hc1 k x hx
      obtain ⟨q1, q2, q3, q4⟩ := HK.out.2.2 k x hx
      have y1 := cell_later hbw x1
      have y2 := cell_later hbw x2
      have y3 := cell_later hbw x3
      have HN := Lib.hid (nameT x.nm (wr.alloc (.cells #[.string x.nm, .int .i64 x.k, .bool x.nl] 56)) q1)
      have HI := Lib.hid fun W (hb : Below w.heap.size w W) => indexE (some ⟨b1, o1, none⟩) n c cs x.nm W (HT.out.later hb) (by omega)
      have d3 : decide (x.k < 1) = false := by simp; omega
      have d4 : decide (4 < x.k) = false := by simp; omega
      have Q4 := Lib.hid q4
      clear hc1 hx q1 q4 hbw x1 x2 x3
      go_wp2_with fail
      refine HN.out.mono ?_
      rintro e w2 ⟨rfl, hb2⟩
      have z1 : w2.cell? ⟨wr.heap.size, 0, none⟩ = some (.string x.nm) := cell_later hb2 (by simp)
      have z2 : w2.cell? ⟨wr.heap.size, 1, none⟩ = some (.int .i64 x.k) := cell_later hb2 (by simp)
      have HB2 := Lib.hid (btr HBW.out (btr (ballo _ _) hb2))
      have HI2 : Hid (Calls Tryz.prog 124 #[.slice (some ⟨b1, o1, none⟩) n c, .string x.nm] w2 fun e w' => e = .returned (.int .i64 k) ∧ Below w2.heap.size w2 w') := Lib.hid (by have h := HI.out w2 HB2.out; rw [Q4.out] at h; exact h)
      clear hb2
      go_wp2_with fail
      refine HI2.out.mono ?_
      rintro e w3 ⟨rfl, hb3⟩
      have HB3 := Lib.hid (btr HB2.out hb3)
      clear hb3
      go_wp2
      go_roundw
      case rel => exact ⟨k + 1, by omega, by go_num, HB3.out⟩
      case measure => simp [intOf]; omega
    · go_wp2
      go_ret
      exact ⟨ret_int rfl, hbw⟩
set_option maxRecDepth 100000 in
set_option maxHeartbeats 1000000 in
theorem chkE (A : Option Addr) (n c : Nat) (cs : List Col) (B : Option Addr) (m d : Nat) (r : List Val) (w : World) (h : rCol w A n cs) (hr : rVal w B m r) (hok : okRow cs r) (hn : n ≤ 1000) :
    Calls Tryz.prog 93 #[.slice A n c, .slice B m d] w fun e w' => e = .returned (.int .i64 0) ∧ Below w.heap.size w w' := by
  have HT := Lib.hid h
  have HR := Lib.hid hr
  have HL := Lib.hid h.len
  have HRL := Lib.hid hr.len
  have HK := Lib.hid hok
  obtain rfl : m = n := by have := h.len; have := hr.len; have := hok.1; omega
  clear h hr hok
  go_enter Tryz.func93, Tryz.ntmps93
  go_wp2
  go_loopw [15] (fun i wr => ∃ k : Nat, k ≤ m ∧ i = .int .i64 k ∧ Below w.heap.size w wr) (fun i _ => m - (intOf i).toNat)
  case atStart => exact ⟨0, by omega, rfl, bself _⟩
  case round =>
    obtain ⟨k, hk, rfl, hbw⟩ := hrel
    have HBW := Lib.hid hbw
    by_cases hlt : k < m
    · obtain ⟨b1, o1, rfl, hc1⟩ := HT.out.opn (by omega)
      obtain ⟨x, hx⟩ := get_some (l := cs) (k := k) (by have := HL.out; omega)
      obtain ⟨x1, x2, x3⟩ := hc1 k x hx
      obtain ⟨b2, o2, rfl, hc2⟩ := HR.out.opn (by omega)
      obtain ⟨v, hv⟩ := get_some (l := r) (k := k) (by have := HRL.out; omega)
      obtain ⟨v1, v2, v3⟩ := hc2 k v hv
      obtain ⟨q1, q2⟩ := HK.out.2 k v x hv hx
      have y1 := cell_later hbw v1
      have y2 := cell_later hbw v2
      have y3 := cell_later hbw v3
      have u1 := cell_later (btr hbw (ballo wr (.cells #[.int .i64 v.k, .int .i64 v.m, .string v.s] 46))) x1
      have u2 := cell_later (btr hbw (ballo wr (.cells #[.int .i64 v.k, .int .i64 v.m, .string v.s] 46))) x2
      have u3 := cell_later (btr hbw (ballo wr (.cells #[.int .i64 v.k, .int .i64 v.m, .string v.s] 46))) x3
      have HN := Lib.hid (validT v ((wr.alloc (.cells #[.int .i64 v.k, .int .i64 v.m, .string v.s] 46)).alloc (.cells #[.string x.nm, .int .i64 x.k, .bool x.nl] 56)) q1)
      have hq : ((v.k == 0) = true ∧ (v.k != 0) = false ∧ Hid (x.nl = true)) ∨ ((v.k == 0) = false ∧ (v.k != 0) = true ∧ (v.k != x.k) = false) := by
        rcases q2 with ⟨a, b⟩ | ⟨a, b⟩
        · exact .inl ⟨by simp [a], by simp [a], Lib.hid b⟩
        · exact .inr ⟨by simp [a], by simp [a], by simp [b]⟩
      clear hc1 hx hc2 hv q1 q2 hbw x1 x2 x3 v1 v2 v3
      go_wp2_with fail
      refine HN.out.mono ?_
      rintro e w2 ⟨rfl, hb2⟩
      have z1 : w2.cell? ⟨wr.heap.size, 0, none⟩ = some (.int .i64 v.k) := cell_later hb2 (by simp)
      have z2 : w2.cell? ⟨wr.heap.size + 1, 1, none⟩ = some (.int .i64 x.k) := cell_later hb2 (by simp)
      have z3 : w2.cell? ⟨wr.heap.size + 1, 2, none⟩ = some (.bool x.nl) := cell_later hb2 (by simp)
      have HB2 := Lib.hid (btr HBW.out (btr ((ballo _ _).alloc (by simp) _) hb2))
      clear hb2
      rcases hq with ⟨e1, e2, e3⟩ | ⟨e1, e2, e3⟩
      · have z4 : w2.cell? ⟨wr.heap.size + 1, 2, none⟩ = some (.bool true) := by rw [← e3.out]; exact z3
        clear z3
        go_wp2
        go_roundw
        case rel => exact ⟨k + 1, by omega, by go_num, HB2.out⟩
        case measure => simp [intOf]; omega
      · go_wp2
        go_roundw
        case rel => exact ⟨k + 1, by omega, by go_num, HB2.out⟩
        case measure => simp [intOf]; omega
    · go_wp2
      go_ret
      exact ⟨ret_int rfl, hbw⟩
end
section
open Go.RowKit Go.BigFrame
set_option linter.unusedSimpArgs false
set_option linter.unusedVariables false

set_option maxRecDepth 100000 in
set_option maxHeartbeats 1000000 in
theorem evalE (r : Rel) (cs : List Col) (t : Tab) (w : World) (hc : rCol w r.coA r.coN cs) (ht : rTab w r.roA r.roN t) (h1 : okCols cs) (h2 : okTab t) (h3 : ∀ x ∈ t, okRow cs x.1) :
    Calls Tryz.prog 62 #[.agg #[.string r.nm, .slice r.coA r.coN r.coC, .slice r.keA r.keN r.keC, .slice r.roA r.roN r.roC]] w fun e w' => e = .returned (.int .i64 0) ∧ Below w.heap.size w w' := by
  obtain ⟨nm, cA, cN, cC, kA, kN, kC, rA, rN, rC⟩ := r
  simp only at hc ht ⊢
  obtain ⟨W0, hW0⟩ : ∃ W0, W0 = w.alloc (.cells #[.string nm, .slice cA cN cC, .slice kA kN kC, .slice rA rN rC] 31) := ⟨_, rfl⟩
  have HC := Lib.hid hc
  have HT := Lib.hid ht
  have HL := Lib.hid ht.len
  have HK := Lib.hid h3
  have H2 := Lib.hid h2
  have hcn : cN ≤ 12 := by have := hc.len; have := h1.2.1; omega
  have HA := Lib.hid fun W (hb : Below w.heap.size w W) => schvE cA cN cC cs W (hc.later hb) h1
  have HB := Lib.hid fun W (hb : Below w.heap.size w W) => bvalE rA rN rC t W (ht.later hb) h2.1
  have HD := Lib.hid fun W (hb : Below w.heap.size w W) => isTabE rA rN rC t W (ht.later hb) h2
  have hn : rN ≤ 4096 := by have := ht.len; have := h2.1.1; omega
  clear hc ht h1 h2 h3 hW0
  go_enter Tryz.func62, Tryz.ntmps62
  go_wp2_with fail
  refine (HA.out _ (ballo _ _)).mono ?_
  rintro e w1 ⟨rfl, hb1⟩
  have z1 : w1.cell? ⟨w.heap.size, 3, none⟩ = some (.slice rA rN rC) := cell_later hb1 (by simp)
  have B1 := Lib.hid (btr (ballo _ _) hb1)
  have C1 := Lib.hid hb1
  clear hb1
  go_wp2_with fail
  refine (HB.out _ B1.out).mono ?_
  rintro e w2 ⟨rfl, hb2⟩
  have z2 := cell_later hb2 z1
  have B2 := Lib.hid (btr B1.out hb2)
  have C2 := Lib.hid (btr C1.out hb2)
  clear hb2
  go_wp2_with fail
  refine (HD.out _ B2.out).mono ?_
  rintro e w3 ⟨rfl, hb3⟩
  have z3 := cell_later hb3 z2
  have B3 := Lib.hid (btr B2.out hb3)
  have C3 := Lib.hid (btr C2.out hb3)
  clear hb3 z1 z2
  go_wp2
  go_loopw [27] (fun i wr => ∃ k : Nat, k ≤ rN ∧ i = .int .i64 k ∧ Below w3.heap.size w3 wr) (fun i _ => rN - (intOf i).toNat)
  case atStart => exact ⟨0, by omega, rfl, bself _⟩
  case round =>
    obtain ⟨k, hk, rfl, hbw⟩ := hrel
    have HBW := Lib.hid hbw
    have HFI := Lib.hid (btr B3.out hbw)
    by_cases hlt : k < rN
    · obtain ⟨b1, o1, rfl, hc1⟩ := HT.out.opn (by omega)
      obtain ⟨x, hx⟩ := get_some (l := t) (k := k) (by have := HL.out; omega)
      obtain ⟨qA, qN, qC, x1, x2, x3⟩ := hc1 k x hx
      have y1 := cell_later HFI.out x1
      have y2 := cell_later HFI.out x2
      have u1 : (wr.alloc (.cells #[.slice qA qN qC, .int .i64 x.2] 65)).cell? ⟨w.heap.size, 1, none⟩ = some (.slice cA cN cC) := cell_later (btr C3.out (btr hbw (ballo _ _))) (by simp)
      have HX := Lib.hid (chkE cA cN cC cs qA qN qC x.1 (wr.alloc (.cells #[.slice qA qN qC, .int .i64 x.2] 65)) (HC.out.later (btr HFI.out (ballo _ _))) (x3.later (btr HFI.out (ballo _ _))) (HK.out x (List.mem_of_getElem? hx)) (by omega))
      clear hc1 hx x3 hbw x1 x2
      go_wp2_with (go_at_call 93; refine (HX.out).mono ?_; rintro e w' ⟨rfl, hb⟩)
      go_roundw
      case rel => exact ⟨k + 1, by omega, by go_num, btr HBW.out (btr (ballo _ _) hb)⟩
      case measure => simp [intOf]; omega
    · go_wp2
      go_ret
      exact ⟨ret_int rfl, HFI.out⟩
end
section
open Go.RowKit Go.BigFrame
set_option linter.unusedSimpArgs false
set_option linter.unusedVariables false

set_option maxRecDepth 100000 in
set_option maxHeartbeats 1000000 in
/-- tables that are equal are the same -/
theorem sameTE (A : Option Addr) (n c : Nat) (B : Option Addr) (m d : Nat) (t : Tab) (w : World) (ha : rTab w A n t) (hb : rTab w B m t) (hn : t.length ≤ 100000) (h12 : ∀ x ∈ t, x.1.length ≤ 100000) :
    Calls Tryz.prog 17 #[.slice A n c, .slice B m d] w fun e w' => e = .returned (.bool true) ∧ Below w.heap.size w w' := by
  have hl := ha.len
  have hl2 := hb.len
  obtain rfl : m = n := by omega
  have HA := Lib.hid ha
  have HB := Lib.hid hb
  have HL := Lib.hid hl
  have H12 := Lib.hid h12
  have hn2 : m ≤ 100000 := by omega
  clear ha hb hl hl2 h12
  go_enter Tryz.func17, Tryz.ntmps17
  go_wp2
  go_loopw [5] (fun i wr => ∃ k : Nat, k ≤ m ∧ i = .int .i64 k ∧ Below w.heap.size w wr) (fun i _ => m - (intOf i).toNat)
  case atStart => exact ⟨0, by omega, rfl, bself _⟩
  case round =>
    obtain ⟨k, hk, rfl, hbw⟩ := hrel
    by_cases hlt : k < m
    · obtain ⟨b1, o1, rfl, hc1⟩ := (HA.out.later hbw).opn (by omega)
      obtain ⟨b2, o2, rfl, hc2⟩ := (HB.out.later hbw).opn (by omega)
      obtain ⟨x, hx⟩ := get_some (l := t) (k := k) (by have := HL.out; omega)
      obtain ⟨rA, rN, rC, x1, x2, x3⟩ := hc1 k x hx
      obtain ⟨sA, sN, sC, y1, y2, y3⟩ := hc2 k x hx
      have h12 := H12.out x (List.mem_of_getElem? hx)
      have gx1 := Gro.cell x1
      have gx2 := Gro.cell x2
      have gy1 := Gro.cell y1
      have gy2 := Gro.cell y2
      have X3 := Lib.hid x3
      have Y3 := Lib.hid y3
      have hz : (x.2 != x.2) = false := by simp
      have hcm : (cmpR x.1 x.1 == 0) = true := by simp [cmpR_self]
      have hsame := fun W (hb : Below wr.heap.size wr W) => sameE rA rN rC sA sN sC x.1 x.1 W (X3.out.later hb) (Y3.out.later hb) (by have := X3.out.len; omega) (by have := Y3.out.len; omega)
      rw [hcm] at hsame
      have HSA := Lib.hid hsame
      clear hc1 hc2 x1 x2 x3 y1 y2 y3 hx hsame hcm
      go_wp2_with fail
      refine wp_region_quiet_gro (by kernel_rfl) (by kernel_rfl) ?_; (repeat (go_big_quiet_step ((go_at_call 37; exact Calls.gro_of (HSA.out _ (Gro.below _)))))); refine wpQuiet_nil ?_; intro _ hw'; obtain ⟨pq, hw''⟩ := hw'; subst hw''; have hbq := pq.below; revert hbq; generalize pq.world = wq; intro hbq
      have hb2 := btr hbw hbq
      clear gx1 gx2 gy1 gy2
      go_wp2
      go_roundw
      case rel => exact ⟨k + 1, by omega, by go_num, hb2⟩
      case measure => simp [intOf]; omega
    · go_wp2
      go_ret
      exact ⟨ret_bool rfl, hbw⟩
end
section
open Go.RowKit Go.RowKit
set_option linter.unusedSimpArgs false
set_option linter.unusedVariables false

/-- the values that the books do not look into: tables, numbers -/
def ETab (tb : Nat → Tab) (num : Nat → Int) : Ev := fun d v sn => (d < 32 ∧ TabAt (tb d) v sn) ∨ (600 ≤ d ∧ v = .int .i64 (num d))
section
variable {tb : Nat → Tab} {num : Nat → Int} {D : Nat → Prop} {ρ : Nat → Pl} {s : ASt} {w w' : World}
theorem rv_flat {E : Ev} {v v' : Value} (h : Rv E D ρ v v') (hf : flatV v = true) : v' = v := by
  have := rvs_flat (.cons _ _ _ _ h .nil) (by simp [hf])
  injection this
theorem rv_agg {E : Ev} {l : List Value} {v' : Value} (h : Rv E D ρ (.agg ⟨l⟩) v') : ∃ l', v' = .agg ⟨l'⟩ ∧ Rvs E D ρ l l' := by
  cases h with
  | flat _ h => cases h
  | agg l l' h => exact ⟨_, rfl, h⟩
theorem rvs_cons {E : Ev} {a : Value} {l l' : List Value} (h : Rvs E D ρ (a :: l) l') : ∃ b m, l' = b :: m ∧ Rv E D ρ a b ∧ Rvs E D ρ l m := by
  cases h with
  | cons a b l m h t => exact ⟨_, _, rfl, h, t⟩
theorem rvs_nil {E : Ev} {l' : List Value} (h : Rvs E D ρ [] l') : l' = [] := by cases h; rfl
theorem rv_tab {k : Nat} {v : Value} (hv : Rv (ETab tb num) D ρ (.chan (some k)) v) (h : Sim (ETab tb num) D ρ s w) (hk : tDe k = true) : ∃ A n c, v = .slice A n c ∧ n ≤ c ∧ rTab w A n (tb (k % 1024)) := by
  have hk := Nat.le_of_ble_eq_true hk
  obtain ⟨sn, he, hs⟩ := rv_chan hv h
  rcases he with ⟨_, A, n, c, e, hc, ht⟩ | ⟨h6, _⟩
  · exact ⟨A, n, c, e, hc, ht w hs⟩
  · omega
theorem sp129_ok (hok : ∀ d, d < 32 → (tb d).length ≤ 4096 ∧ ∀ x ∈ tb d, x.1.length ≤ 12) {args : List Value} {v : Value} {s' : ASt} (hx : sp129 args s = some (v, s')) {args' : List Value} (h : Sim (ETab tb num) D ρ s w) (hr : Rvs (ETab tb num) D ρ args args') :
    Calls Tryz.prog 129 ⟨args'⟩ w fun e w' => ∃ v' ρ' D', e = .returned v' ∧ Rv (ETab tb num) D' ρ' v v' ∧ Sim (ETab tb num) D' ρ' s' w' ∧ Ex D s ρ w D' s' ρ' w' := by
  unfold sp129 at hx
  split at hx
  · rename_i k
    obtain ⟨hk, e⟩ := of_cond hx
    cases e
    obtain ⟨b, m, rfl, h1, h2⟩ := rvs_cons hr
    obtain rfl := rvs_nil h2
    obtain ⟨A, n, c, rfl, hc, ht⟩ := rv_tab h1 h hk
    have hk2 := Nat.le_of_ble_eq_true hk
    obtain ⟨o1, o2⟩ := hok (k % 1024) (by omega)
    refine (copiedE A n c _ w ht (by have := ht.len; omega) o2).mono ?_
    rintro e w' ⟨A', n', c', rfl, hr', hc', hb⟩
    obtain ⟨r1, r2, r3⟩ := sim_opq h hb (d := k % 1024) (by omega) (v := .slice A' n' c') rfl (.inl ⟨by omega, tabAt_of hr' (Nat.le_refl _) hc'⟩)
    exact ⟨_, _, _, rfl, r1, r2, r3⟩
  · cases hx
theorem sp17_ok {S : Nat → Nat → Bool} (hS : ∀ a b, S a b = true → tb a = tb b) (hok : ∀ d, d < 32 → (tb d).length ≤ 4096 ∧ ∀ x ∈ tb d, x.1.length ≤ 12) {args : List Value} {v : Value} {s' : ASt} (hx : sp17 S args s = some (v, s')) {args' : List Value} (h : Sim (ETab tb num) D ρ s w) (hr : Rvs (ETab tb num) D ρ args args') :
    Calls Tryz.prog 17 ⟨args'⟩ w fun e w' => ∃ v' ρ' D', e = .returned v' ∧ Rv (ETab tb num) D' ρ' v v' ∧ Sim (ETab tb num) D' ρ' s' w' ∧ Ex D s ρ w D' s' ρ' w' := by
  unfold sp17 at hx
  split at hx
  · rename_i a b
    obtain ⟨hk, e⟩ := of_cond hx
    cases e
    simp only [Bool.and_eq_true] at hk
    obtain ⟨⟨ka, kb⟩, kS⟩ := hk
    obtain ⟨x, m, rfl, h1, h2⟩ := rvs_cons hr
    obtain ⟨y, m, rfl, h3, h4⟩ := rvs_cons h2
    obtain rfl := rvs_nil h4
    obtain ⟨A, n, c, rfl, hc, ht⟩ := rv_tab h1 h ka
    obtain ⟨B, m, d, rfl, hd, hu⟩ := rv_tab h3 h kb
    rw [← hS _ _ kS] at hu
    have ha := Nat.le_of_ble_eq_true ka
    obtain ⟨o1, o2⟩ := hok (a % 1024) (by omega)
    refine (sameTE A n c B m d _ w ht hu (by omega) (fun x hx => by have := o2 x hx; omega)).mono ?_
    rintro e w' ⟨rfl, hb⟩
    obtain ⟨r1, r2⟩ := sim_later h hb
    exact ⟨_, _, _, rfl, .flat _ rfl, r1, r2⟩
  · cases hx
theorem sp89_ok {E : Ev} {C : List (List Col)} (hC : ∀ cs ∈ C, okCols cs) {args : List Value} {v : Value} {s' : ASt} (hx : sp89 C args s = some (v, s')) {args' : List Value} (h : Sim E D ρ s w) (hr : Rvs E D ρ args args') :
    Calls Tryz.prog 89 ⟨args'⟩ w fun e w' => ∃ v' ρ' D', e = .returned v' ∧ Rv E D' ρ' v v' ∧ Sim E D' ρ' s' w' ∧ Ex D s ρ w D' s' ρ' w' := by
  unfold sp89 at hx
  split at hx
  · rename_i co
    obtain ⟨hk, e⟩ := of_cond hx
    cases e
    obtain ⟨cs, hcs, hf⟩ := List.any_eq_true.1 hk
    obtain ⟨x, m, rfl, h1, h2⟩ := rvs_cons hr
    obtain rfl := rvs_nil h2
    obtain ⟨cA, cN, cC, rfl, hco, hcc⟩ := isFlat_ok hf h h1
    refine (schvE cA cN cC cs w hco (hC cs hcs)).mono ?_
    rintro e w' ⟨rfl, hb⟩
    obtain ⟨r1, r2⟩ := sim_later h hb
    exact ⟨_, _, _, rfl, .flat _ rfl, r1, r2⟩
  · cases hx
theorem tbs_of_sim {E : Ev} (h : Sim E D ρ s w) (hh : ∀ b ∈ [0, 2, 4, 64, 65], s.heap.get b = h0.get b) : Tbs w := by
  have bd : ∀ b ∈ [0, 2, 4, 64, 65], ∀ e z l, h0.get b = some ⟨false, .cells e z l⟩ → ∀ (j : Nat) (v : Value), l[j]? = some v → ∃ v', w.cell? ⟨(ρ b).blk, (ρ b).off + j, none⟩ = some v' ∧ Rv E D ρ v v' := fun b hb e z l hg => (h.bd b _ ((hh b hb).trans hg)).2
  have gl : ∀ g, g < 64 → (ρ g).blk = g ∧ (ρ g).off = 0 := h.glob
  have str : ∀ (D : Nat → Prop) (b : Nat), b ∈ [0, 2, 4, 64, 65] → ∀ e z l, h0.get b = some ⟨false, .cells e z l⟩ → (∀ v ∈ l, flatV v = true) → ∀ (j : Nat) (v : Value), l[j]? = some v → w.cell? ⟨(ρ b).blk, (ρ b).off + j, none⟩ = some v := fun _ b hb e z l hg hf j v hv => by
    obtain ⟨v', h1, h2⟩ := bd b hb e z l hg j v hv
    rw [h1, rv_flat h2 (hf v (List.mem_of_getElem? hv))]
  have sl : ∀ {v : Value} {i n lb : Nat}, Rv E D ρ (.slice (some ⟨i, 0, none⟩) n lb) v → ∃ c, v = .slice (some ⟨(ρ i).blk, (ρ i).off, none⟩) n c ∧ lb ≤ c ∧ c ≤ maxLen := fun {v i n lb} hr => by
    cases hr with
    | flat _ h => cases h
    | slice i o n lb c h h1 h2 h3 h4 => exact ⟨c, rfl, h2, h3⟩
  refine ⟨?_, ?_, ?_⟩
  · obtain ⟨v', h1, h2⟩ := bd 4 (by simp) 42 1 _ (by rw [h0_get]; rfl) 0 _ rfl
    obtain ⟨c, rfl, hc1, hc2⟩ := sl h2
    rw [(gl 4 (by omega)).1, (gl 4 (by omega)).2] at h1
    exact ⟨_, _, c, h1, hc1, hc2, str D 65 (by simp) 9 1 wrds (by rw [h0_get]; rfl) (by decide)⟩
  · obtain ⟨v', h1, h2⟩ := bd 0 (by simp) 42 1 _ (by rw [h0_get]; rfl) 0 _ rfl
    obtain ⟨c, rfl, hc1, hc2⟩ := sl h2
    rw [(gl 0 (by omega)).1, (gl 0 (by omega)).2] at h1
    exact ⟨_, _, c, h1, hc1, hc2, str D 64 (by simp) 9 1 syms (by rw [h0_get]; rfl) (by decide)⟩
  · intro j v hv
    have := str D 2 (by simp) 4 1 usedc (by rw [h0_get]; rfl) (by decide) j v hv
    rwa [(gl 2 (by omega)).1, (gl 2 (by omega)).2, Nat.zero_add] at this
end
end
section
open Go.RowKit
set_option linter.unusedSimpArgs false
set_option linter.unusedVariables false

end
section
open Go.RowKit Go.BigFrame
set_option linter.unusedSimpArgs false
set_option linter.unusedVariables false

theorem gTab_tab {cs : List Col} {t : Tab} (hc : cs.length ≤ 12) (h : gTab cs 30 t) : okTab t ∧ sumC t ≤ 30 ∧ (∀ x ∈ t, 0 < x.2) ∧ (∀ x ∈ t, okRow cs x.1) ∧ t.length ≤ 30 := by
  obtain ⟨hb, he, hs, hr⟩ := h
  have hp : ∀ x ∈ t, 0 < x.2 := fun x hx => (he x hx).1
  have hl : (t.length : Int) ≤ sumC t := by
    clear hb hs hr he
    induction t with
    | nil => simp [sumC]
    | cons x l ih =>
      have h1 := hp x (List.mem_cons_self ..)
      have h2 := ih fun y hy => hp y (List.mem_cons_of_mem _ hy)
      rw [sumC, List.length_cons]
      omega
  refine ⟨⟨⟨by omega, hb, fun x hx => ?_⟩, hp⟩, hs, hp, hr, by omega⟩
  have h1 := hb.cnt_mem hx
  have h2 := cnt_le_sum hp x.1
  have h3 := hp x hx
  exact ⟨(he x hx).2, by omega, by omega, (hr x hx).vOk⟩
theorem cel_row {cs : List Col} {r : List Val} (h : okRow cs r) {j : Nat} {c : Col} (hc : cs[j]? = some c) : validV (cel r j) = true ∧ (((cel r j).k = 0 ∧ c.nl = true) ∨ ((cel r j).k ≠ 0 ∧ (cel r j).k = c.k)) := by
  have hj := (List.getElem?_eq_some_iff.1 hc).1
  rw [← h.1] at hj
  have e : cel r j = r[j] := by
    unfold cel
    rw [if_pos ⟨by omega, by omega⟩]
    simp [hj]
  rw [e]
  exact h.2 j _ c (List.getElem?_eq_getElem hj) hc
end
section
open Go.RowKit Go.BigFrame
set_option linter.unusedSimpArgs false
set_option linter.unusedVariables false

end
section
open Go.RowKit Go.RowKit
set_option linter.unusedSimpArgs false
set_option linter.unusedVariables false

def anD3 (n : Int) : Int := IntKind.i64.wrap (BitVec.ofInt IntKind.i64.bits n &&& BitVec.ofInt IntKind.i64.bits 3).toNat
theorem run_anD3 (n : Int) (t : TypeId) (xo yo : Operand) (P : Program) (w : World) : (do eqGuard .and t xo yo (.int .i64 n) (.int .i64 3); binOp .and t (.int .i64 n) (.int .i64 3) : Sem Value).run P w = .ok (.int .i64 (anD3 n)) w := by
  rfl
theorem anD3_le (n : Int) : 0 ≤ anD3 n ∧ anD3 n ≤ 3 := by
  unfold anD3
  have h : (BitVec.ofInt IntKind.i64.bits n &&& BitVec.ofInt IntKind.i64.bits 3).toNat ≤ 3 := by
    rw [BitVec.toNat_and]
    exact Nat.le_trans Nat.and_le_right (by decide)
  generalize (BitVec.ofInt IntKind.i64.bits n &&& BitVec.ofInt IntKind.i64.bits 3).toNat = m at h
  have : m = 0 ∨ m = 1 ∨ m = 2 ∨ m = 3 := by omega
  rcases this with rfl | rfl | rfl | rfl <;> decide
theorem run_rem3 (n : Int) (h : 0 ≤ n ∧ n ≤ 3) (t : TypeId) (xo yo : Operand) (P : Program) (w : World) : (do eqGuard .rem t xo yo (.int .i64 n) (.int .i64 3); binOp .rem t (.int .i64 n) (.int .i64 3) : Sem Value).run P w = .ok (.int .i64 (n.tmod 3)) w := by
  have : n = 0 ∨ n = 1 ∨ n = 2 ∨ n = 3 := by omega
  rcases this with rfl | rfl | rfl | rfl <;> rfl
def shD2 (n : Int) : Int := n.fdiv (2 ^ (min (2 : Int).toNat IntKind.i64.bits))
/-- what is known of the numbers -/
def numG (n : Int) (k : Nat) : Int := match k with
  | 600 => n
  | 601 => shD2 n
  | 602 => anD3 n
  | 603 => anD3 (shD2 n)
  | _ => 0
theorem hv_int {E : Ev} {t : IntKind} {m : Int} {x : Value} (h : HV E (.int t m) x) : x = .int t m := by
  rcases h with ⟨_, h⟩ | ⟨k, sn, h, _⟩
  · exact h
  · cases h
theorem hv_num {tb : Nat → Tab} {num : Nat → Int} {k : Nat} {x : Value} (hk : 32 ≤ k % 1024) (h : HV (ETab tb num) (.chan (some k)) x) : x = .int .i64 (num (k % 1024)) := by
  rcases h with ⟨h, _⟩ | ⟨k', sn, h, he⟩
  · cases h
  · cases h
    rcases he with ⟨h, _⟩ | ⟨_, h⟩
    · omega
    · exact h
theorem hr_num {tb : Nat → Tab} {num : Nat → Int} {k : Nat} (h1 : 600 ≤ k) (h2 : k < 1024) : HR (ETab tb num) (.chan (some k)) (.int .i64 (num k)) := by
  have e : k % 1024 = k := Nat.mod_eq_of_lt h2
  exact .inr ⟨k, rfl, by unfold nGlob; omega, rfl, fun sn => .inr ⟨by omega, by rw [e]⟩⟩
end
section
open Go.RowKit Go.RowKit
set_option linter.unusedSimpArgs false
set_option linter.unusedVariables false

theorem nameV_of {s : ByteArray} (h1 : 0 < s.size ∧ s.size ≤ 24) (h2 : okS s s.size) : nameV s = true := by
  unfold nameV
  simp only [decide_eq_true_eq]
  exact ⟨h1.1, h1.2, h2⟩
theorem name1 {x : UInt8} (h : okB 0 x.toNat = true) : nameV (ba [x]) = true := nameV_of ⟨by show 0 < 1; omega, by show 1 ≤ 24; omega⟩ fun j hj h2 => by
  have hj : j < 1 := hj
  obtain rfl : j = 0 := by omega
  exact h
theorem name2 {x y : UInt8} (h : okB 0 x.toNat = true) (h' : okB 1 y.toNat = true) : nameV (ba [x, y]) = true := nameV_of ⟨by show 0 < 2; omega, by show 2 ≤ 24; omega⟩ fun j hj h2 => by
  have hj : j < 2 := hj
  have e : j = 0 ∨ j = 1 := by omega
  rcases e with rfl | rfl
  · exact h
  · exact h'
theorem nameV_ok : nameV sAt = true ∧ nameV sV = true ∧ nameV sK = true ∧ nameV sT = true ∧ nameV sC = true ∧ nameV sId = true ∧ nameV (ba [114]) = true := ⟨name2 (by decide) (by decide), name1 (by decide), name1 (by decide), name1 (by decide), name1 (by decide), name2 (x := 105) (y := 100) (by decide) (by decide), name1 (by decide)⟩
theorem okCols_4 {a b c d : Col} (h : nameV a.nm = true ∧ nameV b.nm = true ∧ nameV c.nm = true ∧ nameV d.nm = true) (hk : 1 ≤ a.k ∧ a.k ≤ 4 ∧ 1 ≤ b.k ∧ b.k ≤ 4 ∧ 1 ≤ c.k ∧ c.k ≤ 4 ∧ 1 ≤ d.k ∧ d.k ≤ 4) (hi : idxC [a, b, c, d] a.nm = 0 ∧ idxC [a, b, c, d] b.nm = 1 ∧ idxC [a, b, c, d] c.nm = 2 ∧ idxC [a, b, c, d] d.nm = 3) : okCols [a, b, c, d] := by
  obtain ⟨h1, h2, h3, h4⟩ := h
  obtain ⟨k1, k2, k3, k4, k5, k6, k7, k8⟩ := hk
  obtain ⟨i1, i2, i3, i4⟩ := hi
  refine ⟨by simp, by simp, fun j co hj => ?_⟩
  match j, hj with
  | 0, hj => cases hj; exact ⟨h1, k1, k2, i1⟩
  | 1, hj => cases hj; exact ⟨h2, k3, k4, i2⟩
  | 2, hj => cases hj; exact ⟨h3, k5, k6, i3⟩
  | 3, hj => cases hj; exact ⟨h4, k7, k8, i4⟩
theorem okCols_o : okCols oC := okCols_4 ⟨nameV_ok.2.2.2.2.2.1, nameV_ok.2.2.2.2.1, nameV_ok.1, nameV_ok.2.1⟩ (by decide) ⟨by kernel_rfl, by kernel_rfl, by kernel_rfl, by kernel_rfl⟩
theorem okCols_c : okCols cC := okCols_4 ⟨nameV_ok.2.2.2.2.1, nameV_ok.1, nameV_ok.2.2.2.2.2.2, nameV_ok.2.2.1⟩ (by decide) ⟨by kernel_rfl, by kernel_rfl, by kernel_rfl, by kernel_rfl⟩
section
variable {c d : Nat} {t0 t1 t2 : Tab}
end
end
end Go.Proofs.YthcalfeoejdcgaaGreatDoor
