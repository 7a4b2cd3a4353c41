/- The books of a concrete run: joins, semi joins, chosen columns, differences by contract. -/
import Derived.Test.YthcalfeoejdcgaaGreatDoorZ19
import Derived.Test.YthcalfeoejdcgaaGreatDoorZ21
import Derived.Test.YthcalfeoejdcgaaGreatDoorZ29
import Derived.Test.YthcalfeoejdcgaaGreatDoorZ28
import Derived.Test.YthcalfeoejdcgaaGreatDoorZ30
import Derived.Test.YthcalfeoejdcgaaGreatDoorZ31
namespace Go.Proofs.YthcalfeoejdcgaaGreatDoor
open Go.RowKit Go.RowKit Go.BigFrame
set_option linter.unusedSimpArgs false
set_option linter.unusedVariables false

section
variable {tb : Nat → Tab} {num : Nat → Int} {D : Nat → Prop} {ρ : Nat → Pl} {s : ASt} {w w' : World}
theorem eqBo_ok {a b : Bool} (h : eqBo a b = true) : a = b := by cases a <;> cases b <;> first | rfl | cases h
theorem fJoi_ok {names others items co co' : Value} {left : Bool} {d du d2 : Nat} : ∀ {G : List JoiA} (_ : fJoi s names others items co co' left d du G = some d2), ∃ g ∈ G, g.left = left ∧ g.d = d ∧ g.du = du ∧ g.d2 = d2 ∧ d < 32 ∧ du < 32 ∧ d2 < 32 ∧ isFlat 1 s names (flat encStr g.names) = true ∧ isFlat 1 s others (flat encStr g.others) = true ∧ isFlat 5 s items (flat encItm g.items) = true ∧ isFlat 3 s co (flat encCol g.cs) = true ∧ isFlat 3 s co' (flat encCol g.cs') = true
  | [], h => by cases h
  | g :: l, h => by
    unfold fJoi at h
    cases hz : (eqBo g.left left && (Nat.beq g.d d && (Nat.beq g.du du && (Nat.ble d 31 && (Nat.ble du 31 && (Nat.ble g.d2 31 && (isFlat 1 s names (flat encStr g.names) && (isFlat 1 s others (flat encStr g.others) && (isFlat 5 s items (flat encItm g.items) && (isFlat 3 s co (flat encCol g.cs) && isFlat 3 s co' (flat encCol g.cs')))))))))))
    · rw [hz] at h
      obtain ⟨g', hg, h⟩ := fJoi_ok (G := l) h
      exact ⟨g', List.mem_cons_of_mem _ hg, h⟩
    · rw [hz] at h
      have h : some g.d2 = some d2 := h
      cases h
      simp only [Bool.and_eq_true] at hz
      obtain ⟨k1, k2, k3, k4, k5, k6, k7, k8, k9, k10, k11⟩ := hz
      have k4 := Nat.le_of_ble_eq_true k4
      have k5 := Nat.le_of_ble_eq_true k5
      have k6 := Nat.le_of_ble_eq_true k6
      exact ⟨g, List.mem_cons_self .., eqBo_ok k1, Nat.eq_of_beq_eq_true k2, Nat.eq_of_beq_eq_true k3, rfl, by omega, by omega, by omega, k7, k8, k9, k10, k11⟩
theorem sp134_ok {G : List JoiA} (hG : ∀ g ∈ G, g.cs.length ≤ 12 ∧ g.cs'.length ≤ 12 ∧ okJo g.left g.cs g.cs' g.names g.others g.items (tb g.d) (tb g.du) ∧ tb g.d2 = joiV g.left (g.names.map (idxC g.cs)) (g.others.map (idxC g.cs')) (g.items.map fun x => idxC g.cs' x.co) (tb g.d) (tb g.du)) {args : List Value} {v : Value} {s' : ASt} (hx : sp134 G args s = some (v, s')) {args' : List Value} (h : Sim (ETab tb num) D ρ s w) (hr : Rvs (ETab tb num) D ρ args args') :
    Calls Tryz.prog 134 ⟨args'⟩ w fun e w' => ∃ v' ρ' D', e = .returned v' ∧ Rv (ETab tb num) D' ρ' v v' ∧ Sim (ETab tb num) D' ρ' s' w' ∧ Ex D s ρ w D' s' ρ' w' := by
  unfold sp134 at hx
  split at hx
  · rename_i op so names others items nm co k nm' co' k' left
    split at hx
    · rename_i d2 hf
      cases hx
      obtain ⟨g, hg, e0, e1, e2, rfl, l1, l2, l3, f1, f2, f3, f4, f5⟩ := fJoi_ok hf
      obtain ⟨x1, m, rfl, h1, hr⟩ := rvs_cons hr
      obtain ⟨x2, m, rfl, h2, hr⟩ := rvs_cons hr
      obtain ⟨x3, m, rfl, h3, hr⟩ := rvs_cons hr
      obtain ⟨x4, m, rfl, h4, hr⟩ := rvs_cons hr
      obtain rfl := rvs_nil hr
      obtain rfl := rv_flat h4 rfl
      obtain ⟨l, rfl, h5⟩ := rv_agg h1
      obtain ⟨a1, m, rfl, g1, h5⟩ := rvs_cons h5
      obtain ⟨a2, m, rfl, g2, h5⟩ := rvs_cons h5
      obtain ⟨a3, m, rfl, g3, h5⟩ := rvs_cons h5
      obtain ⟨a4, m, rfl, g4, h5⟩ := rvs_cons h5
      obtain ⟨a5, m, rfl, g5, h5⟩ := rvs_cons h5
      obtain ⟨a6, m, rfl, g6, h5⟩ := rvs_cons h5
      obtain rfl := rvs_nil h5
      obtain rfl := rv_flat g1 rfl
      obtain rfl := rv_flat g2 rfl
      obtain rfl := rv_flat g6 rfl
      obtain ⟨l, rfl, h5⟩ := rv_agg h2
      obtain ⟨b1, m, rfl, i1, h5⟩ := rvs_cons h5
      obtain ⟨b2, m, rfl, i2, h5⟩ := rvs_cons h5
      obtain ⟨b3, m, rfl, i3, h5⟩ := rvs_cons h5
      obtain ⟨b4, m, rfl, i4, h5⟩ := rvs_cons h5
      obtain rfl := rvs_nil h5
      obtain rfl := rv_flat i1 rfl
      obtain rfl := rv_flat i3 rfl
      obtain ⟨l, rfl, h5⟩ := rv_agg h3
      obtain ⟨c1, m, rfl, j1, h5⟩ := rvs_cons h5
      obtain ⟨c2, m, rfl, j2, h5⟩ := rvs_cons h5
      obtain ⟨c3, m, rfl, j3, h5⟩ := rvs_cons h5
      obtain ⟨c4, m, rfl, j4, h5⟩ := rvs_cons h5
      obtain rfl := rvs_nil h5
      obtain rfl := rv_flat j1 rfl
      obtain rfl := rv_flat j3 rfl
      obtain ⟨nA, nN, nC, rfl, hn, hnc⟩ := isFlat_ok f1 h g3
      obtain ⟨oA, oN, oC, rfl, ho, hoc⟩ := isFlat_ok f2 h g4
      obtain ⟨iA, iN, iC, rfl, hi, hic⟩ := isFlat_ok f3 h g5
      obtain ⟨cA, cN, cC, rfl, hc, hcc⟩ := isFlat_ok f4 h i2
      obtain ⟨cA', cN', cC', rfl, hc', hcc'⟩ := isFlat_ok f5 h j2
      obtain ⟨A, n, c, rfl, _, ht⟩ := rv_tab i4 h (by unfold tDe; exact Nat.ble_eq_true_of_le (by omega))
      obtain ⟨A', n', c', rfl, _, hu⟩ := rv_tab j4 h (by unfold tDe; exact Nat.ble_eq_true_of_le (by omega))
      obtain ⟨o1, o2, o3, o4⟩ := hG g hg
      rw [← e1] at ht
      rw [← e2] at hu
      rw [← e0]
      have q1 : rCol w cA cN g.cs := hc
      have q2 : rCol w cA' cN' g.cs' := hc'
      refine (joinE op so nA oA iA none nN nC oN oC iN iC 0 0 nm cA none A cN cC 0 0 n c nm' cA' none A' cN' cC' 0 0 n' c' g.left g.names g.others g.items g.cs g.cs' (tb g.d) (tb g.du) w hn ho hi hc hc' ht hu hnc hoc (by rw [← q1.len]; exact o1) (by rw [← q2.len]; exact o2) o3).mono ?_
      rw [← o4]
      rintro e w' ⟨B, m, b, rfl, hr', hb', hb⟩
      obtain ⟨r1, r2, r3⟩ := sim_opq h hb (d := g.d2) (by omega) (v := .slice B m b) rfl (.inl ⟨by omega, tabAt_of hr' (Nat.le_refl _) hb'⟩)
      exact ⟨_, _, _, rfl, .tuple _ _ (.cons _ _ _ _ r1 (.cons _ _ _ _ (.flat _ rfl) .nil)), r2, r3⟩
    · cases hx
  · cases hx
theorem sp135_ok {G : List JoiA} (hG : ∀ g ∈ G, g.cs.length ≤ 12 ∧ g.cs'.length ≤ 12 ∧ okJn g.cs g.cs' g.names g.others [] (tb g.d) (tb g.du) ∧ tb g.d2 = semV g.left (g.names.map (idxC g.cs)) (g.others.map (idxC g.cs')) (tb g.d) (tb g.du)) {args : List Value} {v : Value} {s' : ASt} (hx : sp135 G args s = some (v, s')) {args' : List Value} (h : Sim (ETab tb num) D ρ s w) (hr : Rvs (ETab tb num) D ρ args args') :
    Calls Tryz.prog 135 ⟨args'⟩ w fun e w' => ∃ v' ρ' D', e = .returned v' ∧ Rv (ETab tb num) D' ρ' v v' ∧ Sim (ETab tb num) D' ρ' s' w' ∧ Ex D s ρ w D' s' ρ' w' := by
  unfold sp135 at hx
  split at hx
  · rename_i op so names others nm co k nm' co' k' left
    split at hx
    · rename_i d2 hf
      cases hx
      obtain ⟨g, hg, e0, e1, e2, rfl, l1, l2, l3, f1, f2, f3, f4, f5⟩ := fJoi_ok hf
      obtain ⟨x1, m, rfl, h1, hr⟩ := rvs_cons hr
      obtain ⟨x2, m, rfl, h2, hr⟩ := rvs_cons hr
      obtain ⟨x3, m, rfl, h3, hr⟩ := rvs_cons hr
      obtain ⟨x4, m, rfl, h4, hr⟩ := rvs_cons hr
      obtain rfl := rvs_nil hr
      obtain rfl := rv_flat h4 rfl
      obtain ⟨l, rfl, h5⟩ := rv_agg h1
      obtain ⟨a1, m, rfl, g1, h5⟩ := rvs_cons h5
      obtain ⟨a2, m, rfl, g2, h5⟩ := rvs_cons h5
      obtain ⟨a3, m, rfl, g3, h5⟩ := rvs_cons h5
      obtain ⟨a4, m, rfl, g4, h5⟩ := rvs_cons h5
      obtain ⟨a5, m, rfl, g5, h5⟩ := rvs_cons h5
      obtain ⟨a6, m, rfl, g6, h5⟩ := rvs_cons h5
      obtain rfl := rvs_nil h5
      obtain rfl := rv_flat g1 rfl
      obtain rfl := rv_flat g2 rfl
      obtain rfl := rv_flat g5 rfl
      obtain rfl := rv_flat g6 rfl
      obtain ⟨l, rfl, h5⟩ := rv_agg h2
      obtain ⟨b1, m, rfl, i1, h5⟩ := rvs_cons h5
      obtain ⟨b2, m, rfl, i2, h5⟩ := rvs_cons h5
      obtain ⟨b3, m, rfl, i3, h5⟩ := rvs_cons h5
      obtain ⟨b4, m, rfl, i4, h5⟩ := rvs_cons h5
      obtain rfl := rvs_nil h5
      obtain rfl := rv_flat i1 rfl
      obtain rfl := rv_flat i3 rfl
      obtain ⟨l, rfl, h5⟩ := rv_agg h3
      obtain ⟨c1, m, rfl, j1, h5⟩ := rvs_cons h5
      obtain ⟨c2, m, rfl, j2, h5⟩ := rvs_cons h5
      obtain ⟨c3, m, rfl, j3, h5⟩ := rvs_cons h5
      obtain ⟨c4, m, rfl, j4, h5⟩ := rvs_cons h5
      obtain rfl := rvs_nil h5
      obtain rfl := rv_flat j1 rfl
      obtain rfl := rv_flat j3 rfl
      obtain ⟨nA, nN, nC, rfl, hn, hnc⟩ := isFlat_ok f1 h g3
      obtain ⟨oA, oN, oC, rfl, ho, hoc⟩ := isFlat_ok f2 h g4
      obtain ⟨cA, cN, cC, rfl, hc, hcc⟩ := isFlat_ok f4 h i2
      obtain ⟨cA', cN', cC', rfl, hc', hcc'⟩ := isFlat_ok f5 h j2
      obtain ⟨A, n, c, rfl, _, ht⟩ := rv_tab i4 h (by unfold tDe; exact Nat.ble_eq_true_of_le (by omega))
      obtain ⟨A', n', c', rfl, _, hu⟩ := rv_tab j4 h (by unfold tDe; exact Nat.ble_eq_true_of_le (by omega))
      obtain ⟨o1, o2, o3, o4⟩ := hG g hg
      rw [← e1] at ht
      rw [← e2] at hu
      rw [← e0]
      have q1 : rCol w cA cN g.cs := hc
      have q2 : rCol w cA' cN' g.cs' := hc'
      refine (semiE op so nA oA none none nN nC oN oC 0 0 0 0 nm cA none A cN cC 0 0 n c nm' cA' none A' cN' cC' 0 0 n' c' g.left g.names g.others g.cs g.cs' (tb g.d) (tb g.du) w hn ho hc hc' ht hu hnc hoc (by rw [← q1.len]; exact o1) (by rw [← q2.len]; exact o2) o3).mono ?_
      rw [← o4]
      rintro e w' ⟨B, m, b, rfl, hr', hb', hb⟩
      obtain ⟨r1, r2, r3⟩ := sim_opq h hb (d := g.d2) (by omega) (v := .slice B m b) rfl (.inl ⟨by omega, tabAt_of hr' (Nat.le_refl _) hb'⟩)
      exact ⟨_, _, _, rfl, .tuple _ _ (.cons _ _ _ _ r1 (.cons _ _ _ _ (.flat _ rfl) .nil)), r2, r3⟩
    · cases hx
  · cases hx
theorem sp62g_ok {L : List (Nat × List Col)} (hok : ∀ p ∈ L, okCols p.2 ∧ okTab (tb p.1) ∧ ∀ x ∈ tb p.1, okRow p.2 x.1) {args : List Value} {v : Value} {s' : ASt} (hx : sp62g L args s = some (v, s')) {args' : List Value} (h : Sim (ETab tb num) D ρ s w) (hr : Rvs (ETab tb num) D ρ args args') :
    Calls Tryz.prog 62 ⟨args'⟩ w fun e w' => ∃ v' ρ' D', e = .returned v' ∧ Rv (ETab tb num) D' ρ' v v' ∧ Sim (ETab tb num) D' ρ' s' w' ∧ Ex D s ρ w D' s' ρ' w' := by
  unfold sp62g at hx
  split at hx
  · rename_i nm co k
    obtain ⟨hk, e⟩ := of_cond hx
    cases e
    rw [Bool.and_eq_true] at hk
    obtain ⟨hk, hf⟩ := hk
    obtain ⟨p, hp, hf⟩ := List.any_eq_true.1 hf
    rw [Bool.and_eq_true] at hf
    obtain ⟨he, hf⟩ := hf
    have he := Nat.eq_of_beq_eq_true he
    obtain ⟨x, m, rfl, h1, h2⟩ := rvs_cons hr
    obtain rfl := rvs_nil h2
    obtain ⟨l, rfl, h3⟩ := rv_agg h1
    obtain ⟨a1, m, rfl, g1, h4⟩ := rvs_cons h3
    obtain ⟨a2, m, rfl, g2, h5⟩ := rvs_cons h4
    obtain ⟨a3, m, rfl, g3, h6⟩ := rvs_cons h5
    obtain ⟨a4, m, rfl, g4, h7⟩ := rvs_cons h6
    obtain rfl := rvs_nil h7
    obtain rfl := rv_flat g1 rfl
    obtain rfl := rv_flat g3 rfl
    obtain ⟨cA, cN, cC, rfl, hco, hcc⟩ := isFlat_ok hf h g2
    have hk2 := Nat.le_of_ble_eq_true hk
    obtain ⟨A, n, c, rfl, hc, ht⟩ := rv_tab g4 h (by unfold tDe; exact Nat.ble_eq_true_of_le (by omega))
    obtain ⟨o1, o2, o3⟩ := hok p hp
    rw [← he] at ht
    refine (evalE ⟨nm, cA, cN, cC, none, 0, 0, A, n, c⟩ _ _ w hco ht o1 o2 o3).mono ?_
    rintro e w' ⟨rfl, hb⟩
    obtain ⟨r1, r2⟩ := sim_later h hb
    exact ⟨_, _, _, rfl, .flat _ rfl, r1, r2⟩
  · cases hx
theorem fPrj_ok {is : Value} {d d2 : Nat} : ∀ {G : List PrjA} (_ : fPrj s is d G = some d2), ∃ g ∈ G, g.d = d ∧ g.d2 = d2 ∧ d < 32 ∧ d2 < 32 ∧ isFlat 1 s is (flat encInt g.is) = true
  | [], h => by cases h
  | g :: l, h => by
    unfold fPrj at h
    cases hz : (Nat.beq g.d d && (Nat.ble d 31 && (Nat.ble g.d2 31 && isFlat 1 s is (flat encInt g.is))))
    · rw [hz] at h
      obtain ⟨g', hg, h⟩ := fPrj_ok (G := l) h
      exact ⟨g', List.mem_cons_of_mem _ hg, h⟩
    · rw [hz] at h
      have h : some g.d2 = some d2 := h
      cases h
      simp only [Bool.and_eq_true] at hz
      obtain ⟨k1, k2, k3, k4⟩ := hz
      have k2 := Nat.le_of_ble_eq_true k2
      have k3 := Nat.le_of_ble_eq_true k3
      exact ⟨g, List.mem_cons_self .., Nat.eq_of_beq_eq_true k1, rfl, by omega, by omega, k4⟩
theorem sp133_ok {G : List PrjA} (hG : ∀ g ∈ G, g.is.length ≤ 12 ∧ okTab (tb g.d) ∧ sumC (tb g.d) ≤ 65536 ∧ tb g.d2 = prjV g.is (tb g.d)) {args : List Value} {v : Value} {s' : ASt} (hx : sp133 G args s = some (v, s')) {args' : List Value} (h : Sim (ETab tb num) D ρ s w) (hr : Rvs (ETab tb num) D ρ args args') :
    Calls Tryz.prog 133 ⟨args'⟩ w fun e w' => ∃ v' ρ' D', e = .returned v' ∧ Rv (ETab tb num) D' ρ' v v' ∧ Sim (ETab tb num) D' ρ' s' w' ∧ Ex D s ρ w D' s' ρ' w' := by
  unfold sp133 at hx
  split at hx
  · rename_i k is
    split at hx
    · rename_i d2 hf
      cases hx
      obtain ⟨g, hg, e1, rfl, l1, l2, f1⟩ := fPrj_ok hf
      obtain ⟨x1, m, rfl, h1, hr⟩ := rvs_cons hr
      obtain ⟨x2, m, rfl, h2, hr⟩ := rvs_cons hr
      obtain rfl := rvs_nil hr
      obtain ⟨iA, iN, iC, rfl, hi, hic⟩ := isFlat_ok f1 h h2
      obtain ⟨A, n, c, rfl, _, ht⟩ := rv_tab h1 h (by unfold tDe; exact Nat.ble_eq_true_of_le (by omega))
      obtain ⟨o1, o2, o3, o4⟩ := hG g hg
      rw [← e1] at ht
      have q1 : rInt w iA iN g.is := hi
      refine (projectE A n c (tb g.d) iA iN iC g.is w ht hi o2 o3 (by rw [← q1.len]; exact o1)).mono ?_
      rw [← o4]
      rintro e w' ⟨B, m, b, rfl, hr', hb', hb⟩
      obtain ⟨r1, r2, r3⟩ := sim_opq h hb (d := g.d2) (by omega) (v := .slice B m b) rfl (.inl ⟨by omega, tabAt_of hr' (Nat.le_refl _) hb'⟩)
      exact ⟨_, _, _, rfl, .tuple _ _ (.cons _ _ _ _ r1 (.cons _ _ _ _ (.flat _ rfl) .nil)), r2, r3⟩
    · cases hx
  · cases hx
theorem fTwo_ok {a b d2 : Nat} : ∀ {G : List (Nat × Nat × Nat)} (_ : fTwo a b G = some d2), (a, b, d2) ∈ G ∧ a < 32 ∧ b < 32 ∧ d2 < 32
  | [], h => by cases h
  | g :: l, h => by
    unfold fTwo at h
    cases hz : (Nat.beq g.1 a && (Nat.beq g.2.1 b && (Nat.ble a 31 && (Nat.ble b 31 && Nat.ble g.2.2 31))))
    · rw [hz] at h
      obtain ⟨hg, h⟩ := fTwo_ok (G := l) h
      exact ⟨List.mem_cons_of_mem _ hg, h⟩
    · rw [hz] at h
      have h : some g.2.2 = some d2 := h
      cases h
      simp only [Bool.and_eq_true] at hz
      obtain ⟨k1, k2, k3, k4, k5⟩ := hz
      have k3 := Nat.le_of_ble_eq_true k3
      have k4 := Nat.le_of_ble_eq_true k4
      have k5 := Nat.le_of_ble_eq_true k5
      refine ⟨?_, by omega, by omega, by omega⟩
      rw [← Nat.eq_of_beq_eq_true k1, ← Nat.eq_of_beq_eq_true k2]
      exact List.mem_cons_self ..
/-- one table to another, by a contract -/
theorem sp1_ok {f : FuncId} {G : List (Nat × Nat × Nat)} (hG : ∀ p ∈ G, ∀ A n c w, n ≤ c → rTab w A n (tb p.1) → Calls Tryz.prog f #[.slice A n c] w (Tab2R (tb p.2.2) w)) {args : List Value} {v : Value} {s' : ASt} (hx : sp1 G args s = some (v, s')) {args' : List Value} (h : Sim (ETab tb num) D ρ s w) (hr : Rvs (ETab tb num) D ρ args args') :
    Calls Tryz.prog f ⟨args'⟩ w fun e w' => ∃ v' ρ' D', e = .returned v' ∧ Rv (ETab tb num) D' ρ' v v' ∧ Sim (ETab tb num) D' ρ' s' w' ∧ Ex D s ρ w D' s' ρ' w' := by
  unfold sp1 at hx
  split at hx
  · rename_i k
    split at hx
    · rename_i d2 hf
      cases hx
      obtain ⟨hg, l1, _, l2⟩ := fTwo_ok hf
      obtain ⟨x1, m, rfl, h1, hr⟩ := rvs_cons hr
      obtain rfl := rvs_nil hr
      obtain ⟨A, n, c, rfl, hc, ht⟩ := rv_tab h1 h (by unfold tDe; exact Nat.ble_eq_true_of_le (by omega))
      refine (hG _ hg A n c w hc ht).mono ?_
      rintro e w' ⟨B, m, b, rfl, hr', hb', hb⟩
      obtain ⟨r1, r2, r3⟩ := sim_opq h hb (d := d2) (by omega) (v := .slice B m b) rfl (.inl ⟨by omega, tabAt_of hr' (Nat.le_refl _) hb'⟩)
      exact ⟨_, _, _, rfl, .tuple _ _ (.cons _ _ _ _ r1 (.cons _ _ _ _ (.flat _ rfl) .nil)), r2, r3⟩
    · cases hx
  · cases hx
/-- two tables to another, by a contract -/
theorem sp2_ok {f : FuncId} {G : List (Nat × Nat × Nat)} (hG : ∀ p ∈ G, ∀ A n c B m d w, n ≤ c → m ≤ d → rTab w A n (tb p.1) → rTab w B m (tb p.2.1) → Calls Tryz.prog f #[.slice A n c, .slice B m d] w (Tab2R (tb p.2.2) w)) {args : List Value} {v : Value} {s' : ASt} (hx : sp2 G args s = some (v, s')) {args' : List Value} (h : Sim (ETab tb num) D ρ s w) (hr : Rvs (ETab tb num) D ρ args args') :
    Calls Tryz.prog f ⟨args'⟩ w fun e w' => ∃ v' ρ' D', e = .returned v' ∧ Rv (ETab tb num) D' ρ' v v' ∧ Sim (ETab tb num) D' ρ' s' w' ∧ Ex D s ρ w D' s' ρ' w' := by
  unfold sp2 at hx
  split at hx
  · rename_i k k'
    split at hx
    · rename_i d2 hf
      cases hx
      obtain ⟨hg, l1, l3, l2⟩ := fTwo_ok hf
      obtain ⟨x1, m, rfl, h1, hr⟩ := rvs_cons hr
      obtain ⟨x2, m, rfl, h2, hr⟩ := rvs_cons hr
      obtain rfl := rvs_nil hr
      obtain ⟨A, n, c, rfl, hc, ht⟩ := rv_tab h1 h (by unfold tDe; exact Nat.ble_eq_true_of_le (by omega))
      obtain ⟨A', n', c', rfl, hc', hu⟩ := rv_tab h2 h (by unfold tDe; exact Nat.ble_eq_true_of_le (by omega))
      refine (hG _ hg A n c A' n' c' w hc hc' ht hu).mono ?_
      rintro e w' ⟨B, m, b, rfl, hr', hb', hb⟩
      obtain ⟨r1, r2, r3⟩ := sim_opq h hb (d := d2) (by omega) (v := .slice B m b) rfl (.inl ⟨by omega, tabAt_of hr' (Nat.le_refl _) hb'⟩)
      exact ⟨_, _, _, rfl, .tuple _ _ (.cons _ _ _ _ r1 (.cons _ _ _ _ (.flat _ rfl) .nil)), r2, r3⟩
    · cases hx
  · cases hx
end
end Go.Proofs.YthcalfeoejdcgaaGreatDoor
