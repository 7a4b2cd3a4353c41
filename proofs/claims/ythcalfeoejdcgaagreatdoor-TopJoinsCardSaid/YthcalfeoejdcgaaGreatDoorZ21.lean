/- TopRanks: what the tables of its queries are; names and columns. Plain; TopRanks: the calls by contract, in the run's books; TopRanks: the temps behind Filled. -/
import Derived.KernelRfl
import Derived.Test.YthcalfeoejdcgaaGreatDoorZ17
import Derived.Test.YthcalfeoejdcgaaGreatDoorZ15
import Derived.Test.YthcalfeoejdcgaaGreatDoorZ20
import Derived.Test.YthcalfeoejdcgaaGreatDoorZ16
namespace Go.Proofs.YthcalfeoejdcgaaGreatDoor
section
open Go.RowKit Go.RowKit Go.BigFrame
set_option linter.unusedSimpArgs false
set_option linter.unusedVariables false

theorem tab_at : ∀ (l : List UInt8) (j : Nat) (h : j < (⟨⟨l⟩⟩ : ByteArray).size), (⟨⟨l⟩⟩ : ByteArray)[j]'h = l.getD j 0 := fun l j h => by
  have h2 : j < l.length := h
  rw [List.getD_eq_getElem?_getD, List.getElem?_eq_getElem h2]
  rfl
def nameK (l : List UInt8) : Bool := decide (0 < l.length) && (decide (l.length ≤ 24) && (List.range l.length).all fun j => okB j (l.getD j 0).toNat)
theorem nameK_ok {x : ByteArray} (h : nameK x.data.toList = true) : nameV x = true := by
  obtain ⟨⟨l⟩⟩ := x
  unfold nameK at h
  simp only [Bool.and_eq_true, decide_eq_true_eq, List.all_eq_true, List.mem_range] at h
  obtain ⟨h1, h2, h3⟩ := h
  refine nameV_of ⟨h1, h2⟩ fun j hj _ => ?_
  rw [tab_at l j hj]
  exact h3 j hj
theorem name_known : ∀ x ∈ knownN, nameV x = true := fun x hx => nameK_ok (List.all_eq_true.1 (show (knownN.all fun x => nameK x.data.toList) = true by kernel_rfl) x hx)
theorem known_any {x : ByteArray} (h : (knownN.any fun y => eqF (.string y) (.string x)) = true) : x ∈ knownN := by
  obtain ⟨y, hy, e⟩ := List.any_eq_true.1 h
  have := eqF_ok e
  cases this
  exact hy
theorem okCols_of {cs : List Col} (h1 : 1 ≤ cs.length) (h2 : cs.length ≤ 12) (h3 : (cs.all fun co => (knownN.any fun y => eqF (.string y) (.string co.nm)) && (decide (1 ≤ co.k) && decide (co.k ≤ 4))) = true) (h4 : ((List.range cs.length).all fun j => decide (idxC cs (cs.getD j ⟨⟨#[]⟩, 0, false⟩).nm = (j : Int))) = true) : okCols cs := by
  refine ⟨h1, h2, fun j co hj => ?_⟩
  have hm := List.all_eq_true.1 h3 co (List.mem_of_getElem? hj)
  simp only [Bool.and_eq_true, decide_eq_true_eq] at hm
  have hi := List.all_eq_true.1 h4 j (List.mem_range.2 (List.getElem?_eq_some_iff.1 hj).1)
  rw [List.getD_eq_getElem?_getD, hj, decide_eq_true_eq] at hi
  exact ⟨name_known _ (known_any hm.1), hm.2.1, hm.2.2, hi⟩
theorem cases3 {P : Nat → Prop} {c : Nat} (hc : c ≤ 2) (h0 : P 0) (h1 : P 1) (h2 : P 2) : P c := by
  have e : c = 0 ∨ c = 1 ∨ c = 2 := by omega
  rcases e with rfl | rfl | rfl <;> assumption
/-- names of columns, each once: by computing -/
def okNamesB (cs : List Col) (ns : List ByteArray) : Bool := (List.range ns.length).all fun j => decide (0 ≤ idxC cs (ns.getD j ⟨#[]⟩)) && !hasS (ns.take j) (ns.getD j ⟨#[]⟩)
theorem okNames_of {cs : List Col} {ns : List ByteArray} (h : okNamesB cs ns = true) : okNames cs ns := fun j s hj => by
  have := List.all_eq_true.1 h j (List.mem_range.2 (List.getElem?_eq_some_iff.1 hj).1)
  rw [List.getD_eq_getElem?_getD, hj] at this
  simp only [Option.getD_some, Bool.and_eq_true, decide_eq_true_eq, Bool.not_eq_true'] at this
  exact this
section
variable {c : Nat} {t0 t1 t2 : Tab}
end
end
section
open Go.RowKit Go.RowKit Go.BigFrame
set_option linter.unusedSimpArgs false
set_option linter.unusedVariables false

def wordsL : List ByteArray := [ba [97,110,100], ba [111,114], ba [110,111,116], ba [110,117,108,108], ba [116,114,117,101], ba [102,97,108,115,101], ba [98,121], ba [115,101,108,102]]
theorem wordsL_flat : flat encStr wordsL = wrds := rfl
theorem reservedE (x : ByteArray) (w : World) (ht : Tbs w) : Calls Tryz.prog 234 #[.string x] w fun e w' => e = .returned (.bool (hasS wordsL x)) ∧ w = w' := by
  obtain ⟨b, o, c, h1, h2, h3, h4⟩ := ht.words
  have hr : rStr w (some ⟨b, o, none⟩) 8 wordsL := fl_of_cells rfl fun j u h => h4 j u (by rw [← wordsL_flat]; exact h)
  have H := Lib.hid (contS (some ⟨b, o, none⟩) 8 c wordsL x w hr (by omega))
  clear hr h4
  go_enter Tryz.func234, Tryz.ntmps234
  go_wp2_with fail
  refine H.out.mono ?_
  rintro e w1 ⟨rfl, rfl⟩
  go_wp2
  go_ret
  exact ⟨ret_bool rfl, rfl⟩
section
variable {tb : Nat → Tab} {num : Nat → Int} {D : Nat → Prop} {ρ : Nat → Pl} {s : ASt} {w w' : World}
theorem sp123_ok {E : Ev} {args : List Value} {v : Value} {s' : ASt} (hx : sp123 args s = some (v, s')) {args' : List Value} (h : Sim E D ρ s w) (hr : Rvs E D ρ args args') :
    Calls Tryz.prog 123 ⟨args'⟩ w fun e w' => ∃ v' ρ' D', e = .returned v' ∧ Rv E D' ρ' v v' ∧ Sim E D' ρ' s' w' ∧ Ex D s ρ w D' s' ρ' w' := by
  unfold sp123 at hx
  split at hx
  · rename_i x
    obtain ⟨hk, e⟩ := of_cond hx
    cases e
    obtain ⟨x', m, rfl, h1, h2⟩ := rvs_cons hr
    obtain rfl := rvs_nil h2
    obtain rfl := rv_flat h1 rfl
    refine (nameT x w (name_known _ (known_any hk))).mono ?_
    rintro e w' ⟨rfl, hb⟩
    obtain ⟨r1, r2⟩ := sim_later h hb
    exact ⟨_, _, _, rfl, .flat _ rfl, r1, r2⟩
  · cases hx
theorem not_reserved : ∀ x ∈ knownN, hasS wordsL x = false := fun x hx => by
  have := List.all_eq_true.1 (show (knownN.all fun x => !hasS wordsL x) = true by kernel_rfl) x hx
  simpa using this
theorem sp234_ok {E : Ev} {args : List Value} {v : Value} {s' : ASt} (hx : sp234 args s = some (v, s')) {args' : List Value} (h : Sim E D ρ s w) (hr : Rvs E D ρ args args') :
    Calls Tryz.prog 234 ⟨args'⟩ w fun e w' => ∃ v' ρ' D', e = .returned v' ∧ Rv E D' ρ' v v' ∧ Sim E D' ρ' s' w' ∧ Ex D s ρ w D' s' ρ' w' := by
  unfold sp234 at hx
  split at hx
  · rename_i x
    obtain ⟨hk, e⟩ := of_cond hx
    cases e
    simp only [Bool.and_eq_true] at hk
    obtain ⟨hk, hg⟩ := hk
    obtain ⟨x', m, rfl, h1, h2⟩ := rvs_cons hr
    obtain rfl := rvs_nil h2
    obtain rfl := rv_flat h1 rfl
    have ht := tbs_of_sim h fun b hb => (eqO_ok (List.all_eq_true.1 hg b hb)).1
    refine (reservedE x w ht).mono ?_
    rintro e w' ⟨rfl, rfl⟩
    obtain ⟨r1, r2⟩ := sim_later h (bself w)
    exact ⟨_, _, _, rfl, by rw [not_reserved _ (known_any hk)]; exact .flat _ rfl, r1, r2⟩
  · cases hx
end
section
variable {c : Nat} {t0 t1 t2 : Tab}
theorem T8_ok {n : Int} {tb : Nat → Tab} (hc : (anD3 n).tmod 3 = c) : (T8 c).Ok (ETab tb (numG n)) Tryz.prog := by
  have k := xT_ok (ETab tb (numG n))
  refine ⟨k.ty, k.fn, k.eqs, k.mixed, k.ex, fun op x y r h t xo yo x' y' w hx hy => ?_, k.hlen⟩
  have h : hintR c op x y = some r := h
  unfold hintR at h
  split at h
  · cases h
    obtain rfl := hv_num (by decide) hx
    obtain rfl := hv_int hy
    exact ⟨_, run_anD3 n t xo yo _ w, hr_num (k := 602) (by omega) (by omega)⟩
  · cases h
    obtain rfl := hv_num (by decide) hx
    obtain rfl := hv_int hy
    refine ⟨_, run_rem3 (anD3 n) (anD3_le n) t xo yo _ w, ?_⟩
    rw [hc]
    exact .inl ⟨rfl, rfl⟩
  · cases h
end
end
section
open Go.RowKit Go.RowKit Go.BigFrame
set_option linter.unusedSimpArgs false
set_option linter.unusedVariables false

set_option maxRecDepth 100000 in
theorem und157 (a b c d e f : Value) : ∀ t : Nat, t ≠ 0 → t ≠ 1 → t ≠ 4 → t ≠ 5 → t ≠ 19 → t ≠ 20 → (#[a, b, undef, undef, c, d, undef, undef, undef, undef, undef, undef, undef, undef, undef, undef, undef, undef, undef, e, f, undef, undef, undef, undef, undef, undef, undef, undef, undef, undef, undef, undef, undef, undef, undef, undef, undef, undef, undef, undef, undef, undef, undef, undef, undef, undef, undef, undef, undef, undef, undef, undef, undef, undef, undef, undef, undef, undef, undef, undef, undef, undef, undef, undef, undef, undef, undef, undef, undef, undef, undef, undef, undef, undef, undef, undef, undef, undef, undef, undef, undef, undef, undef, undef, undef, undef, undef, undef, undef, undef, undef, undef, undef, undef, undef, undef, undef, undef, undef, undef, undef, undef, undef, undef, undef, undef, undef, undef, undef, undef, undef, undef, undef, undef, undef, undef, undef, undef, undef, undef, undef, undef, undef, undef, undef, undef, undef, undef, undef, undef, undef, undef, undef, undef, undef, undef, undef, undef, undef, undef, undef, undef, undef, undef, undef, undef, undef, undef, undef, undef, undef, undef, undef, undef, undef, undef] : Array Value).getD t undef = undef
  | 0, h, _, _, _, _, _ => absurd rfl h
  | 1, _, h, _, _, _, _ => absurd rfl h
  | 2, _, _, _, _, _, _ => rfl
  | 3, _, _, _, _, _, _ => rfl
  | 4, _, _, h, _, _, _ => absurd rfl h
  | 5, _, _, _, h, _, _ => absurd rfl h
  | 6, _, _, _, _, _, _ => rfl
  | 7, _, _, _, _, _, _ => rfl
  | 8, _, _, _, _, _, _ => rfl
  | 9, _, _, _, _, _, _ => rfl
  | 10, _, _, _, _, _, _ => rfl
  | 11, _, _, _, _, _, _ => rfl
  | 12, _, _, _, _, _, _ => rfl
  | 13, _, _, _, _, _, _ => rfl
  | 14, _, _, _, _, _, _ => rfl
  | 15, _, _, _, _, _, _ => rfl
  | 16, _, _, _, _, _, _ => rfl
  | 17, _, _, _, _, _, _ => rfl
  | 18, _, _, _, _, _, _ => rfl
  | 19, _, _, _, _, h, _ => absurd rfl h
  | 20, _, _, _, _, _, h => absurd rfl h
  | 21, _, _, _, _, _, _ => rfl
  | 22, _, _, _, _, _, _ => rfl
  | 23, _, _, _, _, _, _ => rfl
  | 24, _, _, _, _, _, _ => rfl
  | 25, _, _, _, _, _, _ => rfl
  | 26, _, _, _, _, _, _ => rfl
  | 27, _, _, _, _, _, _ => rfl
  | 28, _, _, _, _, _, _ => rfl
  | 29, _, _, _, _, _, _ => rfl
  | 30, _, _, _, _, _, _ => rfl
  | 31, _, _, _, _, _, _ => rfl
  | 32, _, _, _, _, _, _ => rfl
  | 33, _, _, _, _, _, _ => rfl
  | 34, _, _, _, _, _, _ => rfl
  | 35, _, _, _, _, _, _ => rfl
  | 36, _, _, _, _, _, _ => rfl
  | 37, _, _, _, _, _, _ => rfl
  | 38, _, _, _, _, _, _ => rfl
  | 39, _, _, _, _, _, _ => rfl
  | 40, _, _, _, _, _, _ => rfl
  | 41, _, _, _, _, _, _ => rfl
  | 42, _, _, _, _, _, _ => rfl
  | 43, _, _, _, _, _, _ => rfl
  | 44, _, _, _, _, _, _ => rfl
  | 45, _, _, _, _, _, _ => rfl
  | 46, _, _, _, _, _, _ => rfl
  | 47, _, _, _, _, _, _ => rfl
  | 48, _, _, _, _, _, _ => rfl
  | 49, _, _, _, _, _, _ => rfl
  | 50, _, _, _, _, _, _ => rfl
  | 51, _, _, _, _, _, _ => rfl
  | 52, _, _, _, _, _, _ => rfl
  | 53, _, _, _, _, _, _ => rfl
  | 54, _, _, _, _, _, _ => rfl
  | 55, _, _, _, _, _, _ => rfl
  | 56, _, _, _, _, _, _ => rfl
  | 57, _, _, _, _, _, _ => rfl
  | 58, _, _, _, _, _, _ => rfl
  | 59, _, _, _, _, _, _ => rfl
  | 60, _, _, _, _, _, _ => rfl
  | 61, _, _, _, _, _, _ => rfl
  | 62, _, _, _, _, _, _ => rfl
  | 63, _, _, _, _, _, _ => rfl
  | 64, _, _, _, _, _, _ => rfl
  | 65, _, _, _, _, _, _ => rfl
  | 66, _, _, _, _, _, _ => rfl
  | 67, _, _, _, _, _, _ => rfl
  | 68, _, _, _, _, _, _ => rfl
  | 69, _, _, _, _, _, _ => rfl
  | 70, _, _, _, _, _, _ => rfl
  | 71, _, _, _, _, _, _ => rfl
  | 72, _, _, _, _, _, _ => rfl
  | 73, _, _, _, _, _, _ => rfl
  | 74, _, _, _, _, _, _ => rfl
  | 75, _, _, _, _, _, _ => rfl
  | 76, _, _, _, _, _, _ => rfl
  | 77, _, _, _, _, _, _ => rfl
  | 78, _, _, _, _, _, _ => rfl
  | 79, _, _, _, _, _, _ => rfl
  | 80, _, _, _, _, _, _ => rfl
  | 81, _, _, _, _, _, _ => rfl
  | 82, _, _, _, _, _, _ => rfl
  | 83, _, _, _, _, _, _ => rfl
  | 84, _, _, _, _, _, _ => rfl
  | 85, _, _, _, _, _, _ => rfl
  | 86, _, _, _, _, _, _ => rfl
  | 87, _, _, _, _, _, _ => rfl
  | 88, _, _, _, _, _, _ => rfl
  | 89, _, _, _, _, _, _ => rfl
  | 90, _, _, _, _, _, _ => rfl
  | 91, _, _, _, _, _, _ => rfl
  | 92, _, _, _, _, _, _ => rfl
  | 93, _, _, _, _, _, _ => rfl
  | 94, _, _, _, _, _, _ => rfl
  | 95, _, _, _, _, _, _ => rfl
  | 96, _, _, _, _, _, _ => rfl
  | 97, _, _, _, _, _, _ => rfl
  | 98, _, _, _, _, _, _ => rfl
  | 99, _, _, _, _, _, _ => rfl
  | 100, _, _, _, _, _, _ => rfl
  | 101, _, _, _, _, _, _ => rfl
  | 102, _, _, _, _, _, _ => rfl
  | 103, _, _, _, _, _, _ => rfl
  | 104, _, _, _, _, _, _ => rfl
  | 105, _, _, _, _, _, _ => rfl
  | 106, _, _, _, _, _, _ => rfl
  | 107, _, _, _, _, _, _ => rfl
  | 108, _, _, _, _, _, _ => rfl
  | 109, _, _, _, _, _, _ => rfl
  | 110, _, _, _, _, _, _ => rfl
  | 111, _, _, _, _, _, _ => rfl
  | 112, _, _, _, _, _, _ => rfl
  | 113, _, _, _, _, _, _ => rfl
  | 114, _, _, _, _, _, _ => rfl
  | 115, _, _, _, _, _, _ => rfl
  | 116, _, _, _, _, _, _ => rfl
  | 117, _, _, _, _, _, _ => rfl
  | 118, _, _, _, _, _, _ => rfl
  | 119, _, _, _, _, _, _ => rfl
  | 120, _, _, _, _, _, _ => rfl
  | 121, _, _, _, _, _, _ => rfl
  | 122, _, _, _, _, _, _ => rfl
  | 123, _, _, _, _, _, _ => rfl
  | 124, _, _, _, _, _, _ => rfl
  | 125, _, _, _, _, _, _ => rfl
  | 126, _, _, _, _, _, _ => rfl
  | 127, _, _, _, _, _, _ => rfl
  | 128, _, _, _, _, _, _ => rfl
  | 129, _, _, _, _, _, _ => rfl
  | 130, _, _, _, _, _, _ => rfl
  | 131, _, _, _, _, _, _ => rfl
  | 132, _, _, _, _, _, _ => rfl
  | 133, _, _, _, _, _, _ => rfl
  | 134, _, _, _, _, _, _ => rfl
  | 135, _, _, _, _, _, _ => rfl
  | 136, _, _, _, _, _, _ => rfl
  | 137, _, _, _, _, _, _ => rfl
  | 138, _, _, _, _, _, _ => rfl
  | 139, _, _, _, _, _, _ => rfl
  | 140, _, _, _, _, _, _ => rfl
  | 141, _, _, _, _, _, _ => rfl
  | 142, _, _, _, _, _, _ => rfl
  | 143, _, _, _, _, _, _ => rfl
  | 144, _, _, _, _, _, _ => rfl
  | 145, _, _, _, _, _, _ => rfl
  | 146, _, _, _, _, _, _ => rfl
  | 147, _, _, _, _, _, _ => rfl
  | 148, _, _, _, _, _, _ => rfl
  | 149, _, _, _, _, _, _ => rfl
  | 150, _, _, _, _, _, _ => rfl
  | 151, _, _, _, _, _, _ => rfl
  | 152, _, _, _, _, _, _ => rfl
  | 153, _, _, _, _, _, _ => rfl
  | 154, _, _, _, _, _, _ => rfl
  | 155, _, _, _, _, _, _ => rfl
  | 156, _, _, _, _, _, _ => rfl
  | n + 157, _, _, _, _, _, _ => by
    rw [Array.getD_eq_getD_getElem?, Array.getElem?_eq_none (by simp)]
    rfl
theorem tmF8_get (t : Nat) : tmF8.get t = if t = 5 then some (.slice (some ⟨71,0,none⟩) 3 3) else if t = 20 then some (.chan none) else if t = 19 then some (.chan none) else if t = 4 then some (.bool false) else if t = 1 then some (.chan (some 600)) else if t = 0 then some (.chan none) else none := by
  unfold tmF8
  rw [Tr.get_set tBits _ 5 _ (by decide) t, Tr.get_set tBits _ 20 _ (by decide) t, Tr.get_set tBits _ 19 _ (by decide) t, Tr.get_set tBits _ 4 _ (by decide) t, Tr.get_set tBits _ 1 _ (by decide) t, Tr.get_set tBits _ 0 _ (by decide) t, Tr.get_leaf]
set_option maxRecDepth 100000 in
theorem trel8 {E : Ev} {D : Nat → Prop} {ρ : Nat → Pl} {a b c d e f : Value} (h1 : Rv E D ρ (.chan (some 600)) b) (h4 : c = .bool false) (h5 : Rv E D ρ (.slice (some ⟨71,0,none⟩) 3 3) d) (t : Nat) : Rv E D ρ (match tmF8.get t with | some v => v | none => .tuple ⟨[]⟩) ((#[a, b, undef, undef, c, d, undef, undef, undef, undef, undef, undef, undef, undef, undef, undef, undef, undef, undef, e, f, undef, undef, undef, undef, undef, undef, undef, undef, undef, undef, undef, undef, undef, undef, undef, undef, undef, undef, undef, undef, undef, undef, undef, undef, undef, undef, undef, undef, undef, undef, undef, undef, undef, undef, undef, undef, undef, undef, undef, undef, undef, undef, undef, undef, undef, undef, undef, undef, undef, undef, undef, undef, undef, undef, undef, undef, undef, undef, undef, undef, undef, undef, undef, undef, undef, undef, undef, undef, undef, undef, undef, undef, undef, undef, undef, undef, undef, undef, undef, undef, undef, undef, undef, undef, undef, undef, undef, undef, undef, undef, undef, undef, undef, undef, undef, undef, undef, undef, undef, undef, undef, undef, undef, undef, undef, undef, undef, undef, undef, undef, undef, undef, undef, undef, undef, undef, undef, undef, undef, undef, undef, undef, undef, undef, undef, undef, undef, undef, undef, undef, undef, undef, undef, undef, undef, undef] : Array Value).getD t undef) := by
  rw [tmF8_get]
  by_cases q5 : t = 5
  · subst q5; exact h5
  by_cases q20 : t = 20
  · subst q20; exact .poison _
  by_cases q19 : t = 19
  · subst q19; exact .poison _
  by_cases q4 : t = 4
  · subst q4; subst h4; exact .flat _ rfl
  by_cases q1 : t = 1
  · subst q1; exact h1
  by_cases q0 : t = 0
  · subst q0; exact .poison _
  rw [und157 a b c d e f t q0 q1 q4 q5 q19 q20, if_neg q5, if_neg q20, if_neg q19, if_neg q4, if_neg q1, if_neg q0]
  exact .tuple _ _ .nil
def tmv (v : Option Value) : Value := match v with
  | some v => v
  | none => .tuple ⟨[]⟩
/-- a table in a relation of the books, in the world -/
theorem relD_ok {tb : Nat → Tab} {num : Nat → Int} {D : Nat → Prop} {ρ : Nat → Pl} {s : ASt} {w : World} {v : Option Value} {d : Nat} {v' : Value} (hd : d < 32) (h : relD s v d = true) (hs : Sim (ETab tb num) D ρ s w) (hr : Rv (ETab tb num) D ρ (tmv v) v') :
    ∃ b o A n c, v' = .pointer (some ⟨b, o, none⟩) ∧ w.cell? ⟨b, o + 3, none⟩ = some (.slice A n c) ∧ n ≤ c ∧ rTab w A n (tb d) := by
  unfold relD at h
  split at h
  · rename_i i
    split at h
    · rename_i wr e z l hg
      split at h
      · rename_i k hl
        have hk := Nat.eq_of_beq_eq_true h
        have hr : Rv (ETab tb num) D ρ (.pointer (some ⟨i, 0, none⟩)) v' := hr
        cases hr with
        | flat _ h => cases h
        | ptr i o hD =>
          obtain ⟨x, h1, h2⟩ : ∃ x, w.cell? ⟨(ρ i).blk, (ρ i).off + 3, none⟩ = some x ∧ Rv (ETab tb num) D ρ (.chan (some k)) x := by
            cases wr with
            | false => exact (hs.bd i _ hg).2 3 _ hl
            | true =>
              obtain ⟨_, cur, g1, g2, _, _, g5⟩ := hs.bd i _ hg
              obtain ⟨x, hx, hrx⟩ := g5 3 _ hl
              exact ⟨x, by rw [World.cell?, g1, g2, Nat.zero_add]; exact hx, hrx⟩
          obtain ⟨A, n, c, rfl, hc, ht⟩ := rv_tab h2 hs (by unfold tDe; exact Nat.ble_eq_true_of_le (by omega))
          rw [hk] at ht
          exact ⟨_, _, A, n, c, rfl, by rw [show (ρ i).off + 0 + 3 = (ρ i).off + 3 by omega]; exact h1, hc, ht⟩
      · cases h
    · cases h
  · cases h
theorem bool_rv {E : Ev} {D : Nat → Prop} {ρ : Nat → Pl} {v : Option Value} {v' : Value} (h : v = some (.bool true)) (hr : Rv E D ρ (tmv v) v') : v' = .bool true := by
  subst h
  exact rv_flat hr rfl
end
end Go.Proofs.YthcalfeoejdcgaaGreatDoor
