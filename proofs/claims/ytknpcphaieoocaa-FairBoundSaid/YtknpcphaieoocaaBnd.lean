/- The bound of fair sharing. Plain. -/
import Derived.Test.YtknpcphaieoocaaChg2
namespace Go.Proofs.Ytknpcphaieoocaa
open Go.RowKit
set_option linter.unusedSimpArgs false
set_option linter.unusedVariables false

theorem beq_iff (a b : ByteArray) : (a.toList == b.toList) = true ↔ a = b := ⟨fun h => toList_inj (by simpa using h), fun h => by rw [h]; simp⟩
theorem beq_no {a b : ByteArray} (h : a ≠ b) : (a.toList == b.toList) = false := by
  cases h1 : (a.toList == b.toList) with
  | false => rfl
  | true => exact absurd ((beq_iff a b).1 h1) h
theorem used_cons (x : ByteArray × Int) (l : List (ByteArray × Int)) (o : ByteArray) : usedV (x :: l) o = if x.1 = o then x.2 else usedV l o := by
  show (if (x.1.toList == o.toList) = true then x.2 else usedV l o) = _
  simp only [beq_iff]
theorem hasO_cons (x : ByteArray × Int) (l : List (ByteArray × Int)) (o : ByteArray) : hasO (x :: l) o = (decide (x.1 = o) || hasO l o) := by
  unfold hasO
  rw [List.any_cons]
  congr 1
  by_cases h : x.1 = o
  · rw [(beq_iff x.1 o).2 h]; simp [h]
  · rw [beq_no h]; simp [h]
theorem used_no : ∀ {us : List (ByteArray × Int)} {o : ByteArray} (_ : hasO us o = false), usedV us o = 0
  | [], _, _ => rfl
  | x :: l, o, h => by
    rw [hasO_cons] at h
    simp at h
    rw [used_cons, if_neg h.1, used_no h.2]
theorem used_upd (o : ByteArray) (c : Int) : ∀ {us : List (ByteArray × Int)} (_ : hasO us o = true) (o' : ByteArray), usedV (updV us o c) o' = if o = o' then wrap64 (usedV us o + c) else usedV us o'
  | [], h, _ => by simp [hasO] at h
  | x :: l, h, o' => by
    by_cases hx : x.1 = o
    · have e : updV (x :: l) o c = (x.1, wrap64 (x.2 + c)) :: l := if_pos ((beq_iff _ _).2 hx)
      rw [e, used_cons, used_cons, used_cons, if_pos hx]
      subst hx
      by_cases h1 : x.1 = o'
      · simp [h1]
      · simp [h1]
    · have e : updV (x :: l) o c = x :: updV l o c := if_neg (by rw [beq_no hx]; simp)
      rw [hasO_cons] at h
      simp [hx] at h
      rw [e, used_cons, used_cons, used_cons, if_neg hx, used_upd o c h o']
      by_cases h1 : x.1 = o'
      · rw [if_pos h1, if_neg (fun e => hx (h1.trans e.symm)), if_pos h1]
      · rw [if_neg h1, if_neg h1]
theorem used_ins (o : ByteArray) (c : Int) : ∀ {us : List (ByteArray × Int)} (_ : hasO us o = false) (o' : ByteArray), usedV (insV us o c) o' = if o = o' then c else usedV us o'
  | [], _, o' => by
    show usedV [(o, c)] o' = _
    rw [used_cons]
  | x :: l, h, o' => by
    rw [hasO_cons] at h
    simp at h
    by_cases hx : leqS x.1 o = true
    · have e : insV (x :: l) o c = x :: insV l o c := if_pos hx
      rw [e, used_cons, used_cons, used_ins o c h.2 o']
      by_cases h1 : x.1 = o'
      · rw [if_pos h1, if_neg (fun e => h.1 (h1.trans e.symm)), if_pos h1]
      · rw [if_neg h1, if_neg h1]
    · have e : insV (x :: l) o c = (o, c) :: x :: l := if_neg hx
      rw [e, used_cons]
theorem used_charge {us : List (ByteArray × Int)} {o : ByteArray} {c : Int} (hw : wrap64 (usedV us o + c) = usedV us o + c) (o' : ByteArray) : usedV (chargeV us o c) o' = if o = o' then usedV us o + c else usedV us o' := by
  unfold chargeV
  cases h : hasO us o with
  | true => rw [if_pos rfl, used_upd o c h, hw]
  | false => rw [if_neg (by simp), used_ins o c h, used_no h, Int.zero_add]
/-- all uses are from 0 to b -/
def upto (b : Int) (us : List (ByteArray × Int)) : Prop := ∀ x ∈ us, 0 ≤ x.2 ∧ x.2 ≤ b
theorem upto_charge {us : List (ByteArray × Int)} {o : ByteArray} {c b : Int} (h : upto b us) (hc : 0 ≤ c) (hb : 0 ≤ b) (hb2 : b + c ≤ 1000000) : upto (b + c) (chargeV us o c) := by
  unfold chargeV
  split
  · intro x hx
    have : ∀ {l : List (ByteArray × Int)}, upto b l → ∀ x ∈ updV l o c, 0 ≤ x.2 ∧ x.2 ≤ b + c := by
      intro l
      induction l with
      | nil => intro _ x hx; simp [updV] at hx
      | cons y l ih =>
        intro hl x hx
        have hy := hl y (List.mem_cons_self ..)
        unfold updV at hx
        split at hx
        · rcases List.mem_cons.1 hx with rfl | hx
          · have : wrap64 (y.2 + c) = y.2 + c := by unfold wrap64; omega
            show 0 ≤ wrap64 (y.2 + c) ∧ wrap64 (y.2 + c) ≤ b + c
            omega
          · have := hl x (List.mem_cons_of_mem _ hx); omega
        · rcases List.mem_cons.1 hx with rfl | hx
          · omega
          · exact ih (fun z hz => hl z (List.mem_cons_of_mem _ hz)) x hx
    exact this h x hx
  · intro x hx
    have : ∀ {l : List (ByteArray × Int)}, upto b l → ∀ x ∈ insV l o c, 0 ≤ x.2 ∧ x.2 ≤ b + c := by
      intro l
      induction l with
      | nil => intro _ x hx; simp [insV] at hx; subst hx; exact ⟨hc, by show c ≤ b + c; omega⟩
      | cons y l ih =>
        intro hl x hx
        have hy := hl y (List.mem_cons_self ..)
        unfold insV at hx
        split at hx
        · rcases List.mem_cons.1 hx with rfl | hx
          · omega
          · exact ih (fun z hz => hl z (List.mem_cons_of_mem _ hz)) x hx
        · rcases List.mem_cons.1 hx with rfl | hx
          · exact ⟨hc, by show c ≤ b + c; omega⟩
          · have := hl x hx; omega
    exact this h x hx
theorem charge_len1 (us : List (ByteArray × Int)) (o : ByteArray) (c : Int) : (chargeV us o c).length ≤ us.length + 1 := by
  unfold chargeV
  split
  · rw [upd_len]; omega
  · rw [ins_len]; exact Nat.le_refl _
theorem upto_used {us : List (ByteArray × Int)} {b : Int} (h : upto b us) (hb : 0 ≤ b) (o : ByteArray) : 0 ≤ usedV us o ∧ usedV us o ≤ b := by
  induction us with
  | nil => exact ⟨Int.le_refl _, hb⟩
  | cons x l ih =>
    rw [used_cons]
    split
    · exact h x (List.mem_cons_self ..)
    · exact ih fun y hy => h y (List.mem_cons_of_mem _ hy)
theorem nm_inj {i j : Nat} (hi : i < 4) (hj : j < 4) (h : nm i = nm j) : i = j := by
  have key : ∀ i, i < 4 → ∀ j, j < 4 → (nm i).data.toList = (nm j).data.toList → i = j := by decide
  exact key i hi j hj (by rw [h])
/-- shares of the first names -/
def goodS (ss : List (ByteArray × Int)) : Prop := ss.length ≤ 4 ∧ ∀ (j : Nat) (x : ByteArray × Int), ss[j]? = some x → x.1 = nm j ∧ 1 ≤ x.2 ∧ x.2 ≤ 6
theorem weight_cons (x : ByteArray × Int) (l : List (ByteArray × Int)) (o : ByteArray) : weightV (x :: l) o = if x.1 = o then wtOf x.2 else weightV l o := by
  show (if (x.1.toList == o.toList) = true then wtOf x.2 else weightV l o) = _
  simp only [beq_iff]
theorem weight_first (o : ByteArray) : ∀ {ss : List (ByteArray × Int)} {j : Nat} {x : ByteArray × Int} (_ : ∀ i y, i < j → ss[i]? = some y → y.1 ≠ o) (_ : ss[j]? = some x) (_ : x.1 = o), weightV ss o = wtOf x.2
  | [], j, x, _, h, _ => by simp at h
  | y :: l, 0, x, _, h, hx => by
    simp at h; subst h
    rw [weight_cons, if_pos hx]
  | y :: l, j + 1, x, hb, h, hx => by
    rw [weight_cons, if_neg (hb 0 y (by omega) rfl)]
    exact weight_first o (ss := l) (j := j) (x := x) (fun i z hi hz => hb (i + 1) z (by omega) (by simpa using hz)) (by simpa using h) hx
theorem weight_at {ss : List (ByteArray × Int)} (hg : goodS ss) {j : Nat} {x : ByteArray × Int} (h : ss[j]? = some x) : weightV ss x.1 = x.2 := by
  have hx := hg.2 j x h
  have hj : j < ss.length := (List.getElem?_eq_some_iff.1 h).1
  have hl4 : ss.length ≤ 4 := hg.1
  have hb : ∀ (i : Nat) (y : ByteArray × Int), i < j → ss[i]? = some y → y.1 ≠ x.1 := fun i y hi hy e => by
    have hy2 := hg.2 i y hy
    have hij : i < ss.length := (List.getElem?_eq_some_iff.1 hy).1
    have hii : i < 4 := by omega
    have hjj : j < 4 := by omega
    have := nm_inj hii hjj (by rw [← hy2.1, e, hx.1])
    omega
  have := weight_first (ss := ss) (j := j) (x := x) x.1 hb h rfl
  rw [this]
  unfold wtOf
  rw [if_pos (by omega)]
theorem same_at {ss : List (ByteArray × Int)} (hg : goodS ss) {i j : Nat} {x y : ByteArray × Int} (hx : ss[i]? = some x) (hy : ss[j]? = some y) (h : x.1 = y.1) : x = y := by
  have h1 := hg.2 i x hx
  have h2 := hg.2 j y hy
  have li : i < ss.length := (List.getElem?_eq_some_iff.1 hx).1
  have lj : j < ss.length := (List.getElem?_eq_some_iff.1 hy).1
  have : i = j := nm_inj (by have := hg.1; omega) (by have := hg.1; omega) (by rw [← h1.1, ← h2.1, h])
  subst this
  rw [hx] at hy
  cases hy; rfl
/-- no owner is further ahead of another than mo, in proportion -/
def BI (ss us : List (ByteArray × Int)) (mo : Int) : Prop := ∀ (i j : Nat) (x y : ByteArray × Int), ss[i]? = some x → ss[j]? = some y → usedV us x.1 * y.2 ≤ usedV us y.1 * x.2 + mo * y.2
/-- the ready tasks of a round: one of each owner -/
def goodR (ss : List (ByteArray × Int)) (mo : Int) (ts : List Task) : Prop :=
  ts ≠ [] ∧ (∀ t ∈ ts, goodT t ∧ t.pri = 0 ∧ t.cost ≤ mo ∧ ∃ (j : Nat) (x : ByteArray × Int), ss[j]? = some x ∧ t.owner = x.1) ∧ (∀ (j : Nat) (x : ByteArray × Int), ss[j]? = some x → ∃ t ∈ ts, t.owner = x.1)
theorem bound_step {ss us : List (ByteArray × Int)} {mo mo' b : Int} {ts : List Task} (hg : goodS ss) (hB : BI ss us mo) (hmo : mo ≤ mo') (hm0 : 0 ≤ mo) (hR : goodR ss mo' ts) (hu : upto b us) (hb : 0 ≤ b) (hb2 : b ≤ 100000) :
    BI ss (chargeV us (minT ss us ts).owner (minT ss us ts).cost) mo' := by
  have hm := minT_mem ss us hR.1
  obtain ⟨hgt, hp, hc, j0, x0, hx0, ho⟩ := hR.2.1 _ hm
  have hc1 : 1 ≤ (minT ss us ts).cost := hgt.2.2.2.1
  have hc2 : (minT ss us ts).cost ≤ 16 := hgt.2.2.2.2.1
  have hbo := upto_used hu hb (minT ss us ts).owner
  have hw : wrap64 (usedV us (minT ss us ts).owner + (minT ss us ts).cost) = usedV us (minT ss us ts).owner + (minT ss us ts).cost := by unfold wrap64; omega
  have hleast : ∀ (j : Nat) (y : ByteArray × Int), ss[j]? = some y → usedV us x0.1 * y.2 ≤ usedV us y.1 * x0.2 := by
    intro j y hy
    obtain ⟨t, ht, hty⟩ := hR.2.2 j y hy
    have hl := min_least (ss := ss) (us := us) ht
    have hpt := (hR.2.1 t ht).2.1
    unfold Lx at hl
    rw [hty, ho, weight_at hg hy, weight_at hg hx0] at hl
    rcases Int.lt_or_le (usedV us y.1 * x0.2) (usedV us x0.1 * y.2) with h | h
    · exact absurd (.inr ⟨by omega, .inl h⟩) hl
    · exact h
  generalize hM : minT ss us ts = m at *
  intro i j x y hx hy
  rw [used_charge hw, used_charge hw, ho]
  have hx2 := (hg.2 i x hx).2
  have hy2 := (hg.2 j y hy).2
  have hold := hB i j x y hx hy
  have k1 : mo * y.2 ≤ mo' * y.2 := Int.mul_le_mul_of_nonneg_right hmo (by omega)
  by_cases e1 : x0.1 = x.1
  · rw [if_pos e1]
    have ex : x0 = x := same_at hg hx0 hx e1
    by_cases e2 : x0.1 = y.1
    · rw [if_pos e2]
      have ey : x0 = y := same_at hg hx0 hy e2
      subst ex
      subst ey
      have : 0 ≤ mo' * x0.2 := Int.mul_nonneg (by omega) (by omega)
      omega
    · rw [if_neg e2]
      have h1 := hleast j y hy
      have h2 : m.cost * y.2 ≤ mo' * y.2 := Int.mul_le_mul_of_nonneg_right hc (by omega)
      rw [← ex, Int.add_mul]
      omega
  · rw [if_neg e1]
    by_cases e2 : x0.1 = y.1
    · rw [if_pos e2]
      have ey : x0 = y := same_at hg hx0 hy e2
      have h3 : 0 ≤ m.cost * x.2 := Int.mul_nonneg (by omega) (by omega)
      rw [← ey] at hold k1 ⊢
      rw [Int.add_mul]
      omega
    · rw [if_neg e2]
      omega
end Go.Proofs.Ytknpcphaieoocaa
