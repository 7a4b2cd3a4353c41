/- Charge: what is charged to an owner grows, or the owner is laid in. -/
import Derived.Test.YtknpcphaieoocaaIns
import Derived.WalkLawsBesides
namespace Go.Proofs.Ytknpcphaieoocaa
open Go.RowKit
set_option linter.unusedSimpArgs false
set_option linter.unusedVariables false

/-- one name is not behind another -/
def leqS (a b : ByteArray) : Bool := Op.bytesLess a.toList b.toList || a.toList == b.toList
def insV : List (ByteArray × Int) → ByteArray → Int → List (ByteArray × Int)
  | [], o, c => [(o, c)]
  | x :: l, o, c => if leqS x.1 o = true then x :: insV l o c else (o, c) :: x :: l
def hasO (us : List (ByteArray × Int)) (o : ByteArray) : Bool := us.any fun x => x.1.toList == o.toList
def updV : List (ByteArray × Int) → ByteArray → Int → List (ByteArray × Int)
  | [], _, _ => []
  | x :: l, o, c => if (x.1.toList == o.toList) = true then (x.1, wrap64 (x.2 + c)) :: l else x :: updV l o c
/-- the usages behind a charge -/
def chargeV (us : List (ByteArray × Int)) (o : ByteArray) (c : Int) : List (ByteArray × Int) := if hasO us o = true then updV us o c else insV us o c
theorem upd_hit (o : ByteArray) (c : Int) : ∀ {us : List (ByteArray × Int)} {k : Nat} {x : ByteArray × Int} (_ : ∀ j y, j < k → us[j]? = some y → (y.1.toList == o.toList) = false) (_ : us[k]? = some x) (_ : (x.1.toList == o.toList) = true),
    updV us o c = us.set k (x.1, wrap64 (x.2 + c)) ∧ hasO us o = true
  | [], k, x, _, h, _ => by simp at h
  | y :: l, 0, x, _, h, hx => by
    simp at h; subst h
    exact ⟨if_pos hx, by simp only [hasO, List.any_cons, hx, Bool.true_or]⟩
  | y :: l, k + 1, x, hb, h, hx => by
    have h0 := hb 0 y (by omega) rfl
    have ih := upd_hit o c (us := l) (k := k) (x := x) (fun j z hj hz => hb (j + 1) z (by omega) (by simpa using hz)) (by simpa using h) hx
    refine ⟨?_, by have := ih.2; simp only [hasO] at this; simp only [hasO, List.any_cons, this, Bool.or_true]⟩
    rw [List.set_cons_succ, ← ih.1]
    exact if_neg (by rw [h0]; decide)
theorem charge_hit {o : ByteArray} {c : Int} {us : List (ByteArray × Int)} {k : Nat} {x : ByteArray × Int} (hb : ∀ j y, j < k → us[j]? = some y → (y.1.toList == o.toList) = false) (h : us[k]? = some x) (hx : (x.1.toList == o.toList) = true) :
    chargeV us o c = us.set k (x.1, wrap64 (x.2 + c)) := by
  have := upd_hit o c hb h hx
  unfold chargeV
  rw [if_pos this.2, this.1]
theorem charge_miss {o : ByteArray} {c : Int} {us : List (ByteArray × Int)} (hb : ∀ j y, j < us.length → us[j]? = some y → (y.1.toList == o.toList) = false) : chargeV us o c = insV us o c := by
  unfold chargeV
  rw [if_neg]
  intro h
  simp only [hasO, List.any_eq_true] at h
  obtain ⟨x, hx, he⟩ := h
  obtain ⟨j, hj, e⟩ := List.mem_iff_getElem.1 hx
  rw [hb j x hj (by rw [← e]; exact List.getElem?_eq_getElem hj)] at he
  cases he
theorem ins_at (o : ByteArray) (c : Int) : ∀ {us : List (ByteArray × Int)} {k : Nat} (_ : k ≤ us.length) (_ : ∀ j y, j < k → us[j]? = some y → leqS y.1 o = true) (_ : ∀ y, us[k]? = some y → leqS y.1 o = false),
    insV us o c = us.take k ++ (o, c) :: us.drop k
  | [], k, _, _, _ => by simp [insV]
  | y :: l, 0, _, _, h => by
    have := h y rfl
    exact if_neg (by rw [this]; decide)
  | y :: l, k + 1, hk, hb, h => by
    have h0 := hb 0 y (by omega) rfl
    have ih := ins_at o c (us := l) (k := k) (by simpa using hk) (fun j z hj hz => hb (j + 1) z (by omega) (by simpa using hz)) (fun z hz => h z (by simpa using hz))
    rw [List.take_succ_cons, List.drop_succ_cons, List.cons_append, ← ih]
    exact if_pos h0
theorem ins_len (o : ByteArray) (c : Int) : ∀ us : List (ByteArray × Int), (insV us o c).length = us.length + 1
  | [] => rfl
  | x :: l => by
    unfold insV
    split
    · rw [List.length_cons, ins_len o c l, List.length_cons]
    · rfl
theorem prow_of_own2 {w : World} {base : Nat} {v : Value} {n : Nat} {us : List (ByteArray × Int)} (h : w.ownsRow base 55 2 v n (flat enc2 us)) : ∃ A c, v = .slice A n c ∧ Prow w A n us ∧ (∀ a, A = some a → base ≤ a.block ∧ ∀ j, w.frozen? ⟨a.block, j, none⟩ = false) := by
  have hl : us.length = n := by have := h.1; rw [flat_length enc2_len] at this; omega
  rcases h.2 with ⟨rfl, rfl⟩ | ⟨g, cap, cur, rfl, hb, hh, _, _, _, _⟩
  · exact ⟨none, 0, rfl, ⟨hl, fun h => absurd h (by omega)⟩, fun a h => by cases h⟩
  · refine ⟨some ⟨g, 0, none⟩, cap, rfl, prow_of_cells hl fun j u hu => ?_, fun a ha => ?_⟩
    · have hc := h.cells (g := g) rfl j u hu
      rw [addr_lit] at hc; exact hc
    · cases ha
      exact ⟨hb, fun j => by simp [World.frozen?, hh]⟩
theorem Prow.set {w : World} {b off n k : Nat} {us : List (ByteArray × Int)} {x : ByteArray × Int} (h : Prow w (some ⟨b, off, none⟩) n us) (hx : us[k]? = some x) (z : Int) : Prow (w.setCell ⟨b, off + k * 2 + 1, none⟩ (.int .i64 z)) (some ⟨b, off, none⟩) n (us.set k (x.1, z)) := by
  refine ⟨by rw [List.length_set]; exact h.1, fun hn => ?_⟩
  obtain ⟨b', off', hA, hc⟩ := h.2 hn
  cases hA
  refine ⟨b, off, rfl, fun j y hy => ?_⟩
  by_cases hj : j = k
  · subst hj
    rw [List.getElem?_set_self (List.getElem?_eq_some_iff.1 hx).1] at hy
    cases hy
    have := hc j x hx
    exact ⟨by rw [World.cell?_setCell_other (h := fun e => by injection e with e1 e2; omega)]; exact this.1, by simp [World.cell?_setCell_same', this.2]⟩
  · rw [List.getElem?_set_ne (by omega)] at hy
    have := hc j y hy
    exact ⟨by rw [World.cell?_setCell_other (h := fun e => by injection e with e1 e2; omega)]; exact this.1, by rw [World.cell?_setCell_other (h := fun e => by injection e with e1 e2; omega)]; exact this.2⟩

/-- what Charge hands back -/
def ChargeR (us : List (ByteArray × Int)) (o : ByteArray) (c : Int) (w : World) (e : Ending) (w' : World) : Prop :=
  ∃ A cc, e = .returned (.slice A (chargeV us o c).length cc) ∧ Prow w' A (chargeV us o c).length (chargeV us o c) ∧ Below w.heap.size w w'
theorem charge_ins {us : List (ByteArray × Int)} {o : ByteArray} {c : Int} {w w2 w3 : World} {e : Ending} {k : Nat} (hm : ∀ j y, j < us.length → us[j]? = some y → (y.1.toList == o.toList) = false) (hk : k ≤ us.length)
    (hb : ∀ j y, j < k → us[j]? = some y → leqS y.1 o = true) (hq : ∀ y, us[k]? = some y → leqS y.1 o = false) (hB : Below w.heap.size w w2) (h : InsR w.heap.size us k (o, c) w2 e w3) : ChargeR us o c w e w3 := by
  obtain ⟨v', rfl, hown, hb3⟩ := h
  have hc : chargeV us o c = us.take k ++ (o, c) :: us.drop k := (charge_miss hm).trans (ins_at o c hk hb hq)
  have hl : (us.take k ++ (o, c) :: us.drop k).length = us.length + 1 := by simp only [List.length_append, List.length_take, List.length_cons, List.length_drop]; omega
  obtain ⟨A, cc, rfl, hr⟩ := prow_of_own hown
  exact ⟨A, cc, by rw [hc, hl], by rw [hc, hl]; exact hr, hB.trans hb3⟩
theorem charge_set {us : List (ByteArray × Int)} {o : ByteArray} {c : Int} {w w1 : World} {b off cc k n : Nat} {x : ByteArray × Int} (hm : ∀ j y, j < k → us[j]? = some y → (y.1.toList == o.toList) = false) (hx : us[k]? = some x) (ho : (x.1.toList == o.toList) = true)
    (hl : us.length = n) (hB : Below w.heap.size w w1) (hr : Prow w1 (some ⟨b, off, none⟩) n us) (hbb : w.heap.size ≤ b) :
    ChargeR us o c w (.returned (.slice (some ⟨b, off, none⟩) n cc)) (w1.setCell ⟨b, off + k * 2 + 1, none⟩ (.int .i64 (wrap64 (x.2 + c)))) := by
  have e := charge_hit (c := c) hm hx ho
  have e2 : (chargeV us o c).length = n := by rw [e, List.length_set]; exact hl
  refine ⟨some ⟨b, off, none⟩, cc, by rw [e2], ?_, hB.setCell hbb _⟩
  rw [e2, e]
  exact hr.set hx _
theorem ins_ready {v : Value} {us : List (ByteArray × Int)} {n q : Nat} {o : ByteArray} {c : Int} {w0 w : World} (h : w.ownsRow w0.heap.size 55 2 v n (flat enc2 us)) (hl : us.length = n) (hq : q ≤ n) (hn : n ≤ 1000) (hB : Below w0.heap.size w0 w)
    (hm : ∀ j y, j < n → us[j]? = some y → (y.1.toList == o.toList) = false) (hb : ∀ j y, j < q → us[j]? = some y → leqS y.1 o = true) (hq2 : ∀ y, us[q]? = some y → leqS y.1 o = false) :
    Calls Try.prog 29 #[v, .int .i64 q, .slice (some ⟨w.heap.size, 0, none⟩) 1 1] (w.alloc (.cells #[.string o, .int .i64 c] 55)) fun e w' => ∃ v', e = .returned v' ∧ ChargeR us o c w0 (.returned v') w' := by
  subst hl
  have hs := hB.size
  refine (insE w0.heap.size w.heap.size v us q o c _ (heap_alloc_new w _) hn hq (h.alloc _) (by simp; omega) (fun e => by have := (h.lt _ e).2; omega)).mono ?_
  intro e w' hI
  have hc := charge_ins hm hq hb hq2 (hB.alloc hB.size _) hI
  obtain ⟨v', rfl, _⟩ := hI
  exact ⟨v', rfl, hc⟩

set_option maxRecDepth 100000 in
set_option maxHeartbeats 2000000 in
theorem chargeE (A : Option Addr) (n cc : Nat) (us : List (ByteArray × Int)) (o : ByteArray) (c : Int) (w : World) (hU : Prow w A n us) (hn : n ≤ 1000) :
    Calls Try.prog 19 #[.slice A n cc, .string o, .int .i64 c] w (ChargeR us o c w) := by
  have HU := Lib.hid hU
  have hlen := hU.1
  have HLN := Lib.hid hlen
  clear hU hlen
  go_enter Try.func19, Try.ntmps19
  go_wp2_with fail
  refine (cloneU A n cc us _ HU.out hn).mono ?_
  rintro e w1 ⟨v', rfl, hown, hb1⟩
  have HO := Lib.hid hown
  have HB := Lib.hid hb1
  obtain ⟨A1, c1, hv, hr1, hf1⟩ := prow_of_own2 hown
  rw [hv]
  rw [hv] at HO
  have HR := Lib.hid hr1
  have HF := Lib.hid hf1
  clear hown hb1 hr1 hf1 hv
  go_wp2
  go_loop [14] (fun i => ∃ k : Nat, k ≤ n ∧ i = .int .i64 k ∧ Hid (∀ j y, j < k → us[j]? = some y → (y.1.toList == o.toList) = false)) (fun i => n - (intOf i).toNat)
  case atStart => exact ⟨0, by omega, rfl, Lib.hid fun j y hj _ => absurd hj (by omega)⟩
  case round =>
    obtain ⟨k, hk, rfl, HM⟩ := hrel
    by_cases hkn : k < n
    · obtain ⟨b, off, rfl, hcell⟩ := HR.out.2 (by omega)
      obtain ⟨x, hx⟩ : ∃ x, us[k]? = some x := ⟨us[k]'(by have := HLN.out; omega), List.getElem?_eq_getElem _⟩
      obtain ⟨d1, d2⟩ := hcell k x hx
      have hfz := (HF.out _ rfl).2
      have HX := Lib.hid hx
      clear hx hcell
      cases ho : (x.1.toList == o.toList)
      · have HO1 := Lib.hid ho
        go_wp2
        case roundEnd => exact ⟨⟨k + 1, by omega, rfl, Lib.hid fun j y hj hy => by
          rcases Nat.lt_or_ge j k with h | h
          · exact HM.out j y h hy
          · obtain rfl : j = k := by omega
            rw [HX.out] at hy
            cases hy
            exact HO1.out⟩, by simp [intOf]; omega⟩
      · have HO1 := Lib.hid ho
        go_wp2
        go_ret
        exact charge_set HM.out HX.out HO1.out HLN.out HB.out HR.out (HF.out _ rfl).1
    · obtain rfl : k = n := by omega
      go_wp2
      go_loop [9] (fun i => ∃ q : Nat, q ≤ k ∧ i = .int .i64 q ∧ Hid (∀ j y, j < q → us[j]? = some y → leqS y.1 o = true)) (fun i => k - (intOf i).toNat)
      case atStart => exact ⟨0, by omega, rfl, Lib.hid fun j y hj _ => absurd hj (by omega)⟩
      case round =>
        obtain ⟨q, hq, rfl, HQ⟩ := hrel
        by_cases hqk : q < k
        · obtain ⟨b, off, rfl, hcell⟩ := HR.out.2 (by omega)
          obtain ⟨x, hx⟩ : ∃ x, us[q]? = some x := ⟨us[q]'(by have := HLN.out; omega), List.getElem?_eq_getElem _⟩
          obtain ⟨d1, d2⟩ := hcell q x hx
          have HX := Lib.hid hx
          clear hx hcell
          cases ho : (Op.bytesLess x.1.toList o.toList || x.1.toList == o.toList)
          · have HO1 : Hid (leqS x.1 o = false) := Lib.hid ho
            have HI := Lib.hid (ins_ready (o := o) (c := c) HO.out HLN.out hq hn HB.out HM.out HQ.out (fun y hy => by rw [HX.out] at hy; cases hy; exact HO1.out))
            go_wp2_with fail
            refine HI.out.mono ?_
            rintro e w3 ⟨v3, rfl, hR⟩
            have HRR := Lib.hid hR
            clear hR
            go_wp2
            go_ret
            exact HRR.out
          · have HO1 : Hid (leqS x.1 o = true) := Lib.hid ho
            go_wp2
            case roundEnd => exact ⟨⟨q + 1, by omega, rfl, Lib.hid fun j y hj hy => by
              rcases Nat.lt_or_ge j q with h | h
              · exact HQ.out j y h hy
              · obtain rfl : j = q := by omega
                rw [HX.out] at hy
                cases hy
                exact HO1.out⟩, by simp [intOf]; omega⟩
        · obtain rfl : q = k := by omega
          have HI := Lib.hid (ins_ready (o := o) (c := c) HO.out HLN.out hq hn HB.out HM.out HQ.out (fun y hy => by rw [List.getElem?_eq_none (by have := HLN.out; omega)] at hy; cases hy))
          go_wp2_with fail
          refine HI.out.mono ?_
          rintro e w3 ⟨v3, rfl, hR⟩
          have HRR := Lib.hid hR
          clear hR
          go_wp2
          go_ret
          exact HRR.out
end Go.Proofs.Ytknpcphaieoocaa
