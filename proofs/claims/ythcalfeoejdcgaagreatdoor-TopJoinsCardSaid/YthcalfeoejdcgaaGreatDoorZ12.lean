/- The program: an entry behind a bag; the bag of entries; Picked values and columns; The first place of a column with a name; Names among names; the numbers of named columns; The program: picked columns and values; columns behind columns; Cells and marks of blocks behind later ones; The program: the group of the values of a column; Maps keyed by strings whose elements are whatever values: made, written, looked up. No program here. -/
import Derived.Shelf.SlSortCmp.NoneTotal
import Derived.Deep.AppendLies
import Derived.Maps.OwnSet
import Derived.Test.YthcalfeoejdcgaaGreatDoorZ11
import Derived.Test.YthcalfeoejdcgaaGreatDoorZ09
import Derived.Test.YthcalfeoejdcgaaGreatDoorZ05
import Derived.Test.YthcalfeoejdcgaaGreatDoorZ04
namespace Go.Proofs.YthcalfeoejdcgaaGreatDoor
section
open Go.RowKit Go.BigFrame
set_option linter.unusedSimpArgs false
set_option linter.unusedVariables false

def PutR (B : Nat) (v : Value) (k : Nat) (lo : Tab) (w : World) (e : Ending) (w' : World) : Prop :=
  ∃ v', e = .returned (.tuple #[v', .bool true]) ∧ ownD (kEntF B) w' B v' k lo ∧ w.grownBy w' v.ownBlock
set_option maxRecDepth 100000 in
set_option maxHeartbeats 1000000 in
theorem putE (B : Nat) (v : Value) (k : Nat) (lo : Tab) (rA : Option Addr) (rN rC : Nat) (r : List Val) (m : Int) (w : World) (ho : ownD (kEntF B) w B v k lo) (hr : rVal w rA rN r) (h12 : rN ≤ 12) (h1 : 0 < m) (h2 : m ≤ 65536) (hB : B ≤ w.heap.size) (hk : k < 1000000) :
    Calls Tryz.prog 43 #[v, .slice rA rN rC, .int .i64 m] w (PutR B v (k + 1) (lo ++ [(r, m)]) w) := by
  obtain ⟨iE, PE⟩ := pEntF B
  have d1 : decide (m < -65536) = false := by simp; omega
  have d2 : decide (65536 < m) = false := by simp; omega
  have d3 : (m != 0) = true := by simp; omega
  have hv0 : ∀ j, v.ownBlock = some j → B ≤ j ∧ j < w.heap.size := ho.lt
  have HV0 := Lib.hid hv0
  have HR := Lib.hid (cloVE rA rN rC r w (rD_Val.2 hr) (by omega))
  obtain ⟨vA, vc, rfl, _, _, _⟩ := ho.rd
  have HO := Lib.hid ho
  clear hr ho hv0
  go_enter Tryz.func43, Tryz.ntmps43
  go_wp2_with fail
  refine HR.out.mono ?_
  rintro e w1 ⟨A1, c1, rfl, hrd1, hcc1, hb1, hfr1, _⟩
  have HB1 := Lib.hid hb1
  have HF1 := Lib.hid (far_fresh (n := rN) (w1 := w) (fun k e => (HV0.out k e).2) (fun a e => (hfr1 a e).1))
  have HF2 : Hid (∀ a, A1 = some a → B ≤ a.block) := Lib.hid (fun a e => Nat.le_trans hB (hfr1 a e).1)
  have HF3 : Hid (ownD (kEntF B) (w1.alloc (.cells #[.slice A1 rN c1, .int .i64 m] 65)) B (.slice vA k vc) k lo) := Lib.hid (HO.out.later (HB1.out.alloc HB1.out.size _))
  have HF4 := Lib.hid (rD_Val.1 (hrd1.later (ballo _ (.cells #[.slice A1 rN c1, .int .i64 m] 65))))
  have HSZ : Hid (B ≤ (w1.alloc (.cells #[.slice A1 rN c1, .int .i64 m] 65)).heap.size) := Lib.hid (Nat.le_trans hB (Nat.le_trans HB1.out.size (ballo _ _).size))
  have HG1 : Hid (w.grownBy (w1.alloc (.cells #[.slice A1 rN c1, .int .i64 m] 65)) (Value.slice vA k vc).ownBlock) := Lib.hid (by
    have hb := HB1.out.alloc HB1.out.size (.cells #[.slice A1 rN c1, .int .i64 m] 65)
    exact ⟨hb.os, hb.tape, hb.output, hb.size, fun k hk _ => hb.block k hk⟩)
  clear hrd1 hfr1 hb1
  go_wp2_with (at_builtin; refine wpList_push _ rfl _ _ rfl PE HF3.out ⟨_, 0, none⟩ ⟨A1, rN, c1, m⟩ (r, m) rfl rfl (one_block_Ent _ _ _ _ _ _) ⟨⟨HF4.out, rfl⟩, fun _ a e => HF2.out a e⟩ HF1.out hk HSZ.out ?_; intro v' w' hown' hgrow hat)
  have HOF := Lib.hid hown'
  have HGF : Hid (w.grownBy w' (Value.slice vA k vc).ownBlock) := Lib.hid ⟨hgrow.os.trans HG1.out.os, hgrow.tape.trans HG1.out.tape, hgrow.output.trans HG1.out.output, Nat.le_trans HG1.out.size hgrow.size, fun k hk hne => (hgrow.block k (Nat.lt_of_lt_of_le hk HG1.out.size) hne).trans (HG1.out.block k hk hne)⟩
  clear hown' hgrow hat
  go_wp2
  go_ret2
  exact ⟨v', rfl, HOF.out, HGF.out⟩
/-- how far the summing of sorted entries has come -/
def SumTo (s : Tab) (k : Nat) (lo : Tab) : Prop := Bag lo ∧ (∀ r, cnt lo r = cnt (s.take k) r) ∧ (∀ x ∈ lo, ∃ y ∈ s.take k, y.1 = x.1) ∧ (∀ (i j : Nat) p x, i < k → k ≤ j → s[i]? = some p → s[j]? = some x → cmpR p.1 x.1 < 0) ∧ lo.length ≤ k
theorem SumTo.nil (s : Tab) : SumTo s 0 [] := ⟨⟨trivial, fun x h => (by cases h)⟩, fun r => rfl, fun x h => (by cases h), fun i j p x h => absurd h (by omega), by simp⟩
theorem asc_snoc : ∀ {l : Tab} {x : List Val × Int} (_ : Asc l) (_ : ∀ y ∈ l, cmpR y.1 x.1 < 0), Asc (l ++ [x])
  | [], x, _, _ => ⟨fun y h => (by cases h), trivial⟩
  | z :: l, x, h, hx => ⟨fun y hy => by
    rcases List.mem_append.1 hy with hy | hy
    · exact h.1 y hy
    · simp at hy; subst hy; exact hx z (List.mem_cons_self ..), asc_snoc h.2 fun y hy => hx y (List.mem_cons_of_mem _ hy)⟩
theorem cnt_same {r0 : List Val} : ∀ {l : Tab} (_ : ∀ x ∈ l, x.1 = r0) (r : List Val), cnt l r = if cmpR r0 r = 0 then sumC l else 0
  | [], _, r => by simp [cnt, sumC]
  | x :: l, h, r => by
    rw [cnt, cnt_same (fun y hy => h y (List.mem_cons_of_mem _ hy)) r, h x (List.mem_cons_self ..), sumC]
    split <;> omega
theorem cmp_lt_le {a b c : List Val} (h1 : cmpR a b < 0) (h2 : ¬ cmpR c b < 0) : cmpR a c < 0 := by
  have f := cmpR_flip b c
  by_cases e : cmpR b c = 0
  · rw [← (cmpR_zero _ _).1 e]; exact h1
  · exact cmpR_trans _ _ _ h1 (by omega)
/-- the counts from i to k -/
def midS (s : Tab) (i k : Nat) : Int := sumC ((s.drop i).take (k - i))
theorem midS_self (s : Tab) (i : Nat) : midS s i i = 0 := by unfold midS; rw [Nat.sub_self]; rfl
theorem midS_succ {s : Tab} {i k : Nat} {x : List Val × Int} (h : i ≤ k) (hx : s[k]? = some x) : midS s i (k + 1) = midS s i k + x.2 := by
  unfold midS
  rw [show k + 1 - i = (k - i) + 1 by omega, take_snoc (x := x) (by rw [List.getElem?_drop, show i + (k - i) = k by omega]; exact hx), sumC_append]
  simp [sumC]
theorem sumC_nn : ∀ {l : Tab} (_ : ∀ x ∈ l, 0 < x.2), 0 ≤ sumC l
  | [], _ => by simp [sumC]
  | x :: l, h => by have := h x (List.mem_cons_self ..); have := sumC_nn fun y hy => h y (List.mem_cons_of_mem _ hy); rw [sumC]; omega
theorem sumC_perm {a b : Tab} (h : a.Perm b) : sumC a = sumC b := by
  induction h with
  | nil => rfl
  | cons x _ ih => rw [sumC, sumC, ih]
  | swap x y l => simp only [sumC]; omega
  | trans _ _ h1 h2 => rw [h1, h2]
theorem midS_le {s : Tab} (h : ∀ x ∈ s, 0 < x.2) (i k : Nat) : 0 ≤ midS s i k ∧ midS s i k ≤ sumC s := by
  have h1 : ∀ x ∈ (s.drop i).take (k - i), 0 < x.2 := fun x hx => h x (List.mem_of_mem_drop (List.mem_of_mem_take hx))
  refine ⟨sumC_nn h1, ?_⟩
  unfold midS
  have a := sumC_split (s.drop i) (k - i)
  have b := sumC_split s i
  have c := sumC_nn (l := (s.drop i).drop (k - i)) fun x hx => h x (List.mem_of_mem_drop (List.mem_of_mem_drop hx))
  have d := sumC_nn (l := s.take i) fun x hx => h x (List.mem_of_mem_take hx)
  omega
theorem SumTo.step {s lo : Tab} {i k : Nat} {p : List Val × Int} (h : SumTo s i lo) (hsort : s.Pairwise leR) (hpos : ∀ x ∈ s, 0 < x.2) (hik : i < k) (hk : k ≤ s.length) (hp : s[i]? = some p) (hsame : ∀ j x, i ≤ j → j < k → s[j]? = some x → x.1 = p.1) (hend : ∀ x, s[k]? = some x → x.1 ≠ p.1) :
    SumTo s k (lo ++ [(p.1, midS s i k)]) ∧ 0 < midS s i k := by
  obtain ⟨h1, h2, h3, h4, h5⟩ := h
  have hle : ∀ {a b : Nat} {x y : List Val × Int}, a < b → s[a]? = some x → s[b]? = some y → ¬ cmpR y.1 x.1 < 0 := fun {a b x y} hab hx hy => by
    have := List.pairwise_iff_getElem.1 hsort a b (List.getElem?_eq_some_iff.1 hx).1 (List.getElem?_eq_some_iff.1 hy).1 hab
    rw [(List.getElem?_eq_some_iff.1 hx).2, (List.getElem?_eq_some_iff.1 hy).2] at this
    exact this
  have hmid : ∀ x ∈ (s.drop i).take (k - i), x.1 = p.1 := fun x hx => by
    obtain ⟨j, hj⟩ := List.getElem?_of_mem hx
    rw [List.getElem?_take] at hj
    split at hj
    · rw [List.getElem?_drop] at hj
      exact hsame (i + j) x (by omega) (by omega) hj
    · cases hj
  have hposm : 0 < midS s i k := by
    have a := midS_succ (Nat.le_refl i) hp
    rw [midS_self] at a
    have b := hpos p (List.mem_of_getElem? hp)
    have e : midS s i k = midS s i (i + 1) + midS s (i + 1) k := by
      unfold midS
      rw [← sumC_append]
      congr 1
      rw [show (s.drop (i + 1)) = ((s.drop i).drop (i + 1 - i)) by rw [List.drop_drop]; congr 1; omega]
      rw [show k - i = (i + 1 - i) + (k - (i + 1)) by omega, List.take_add]
    have c := (midS_le hpos (i + 1) k).1
    omega
  have hlo : ∀ y ∈ lo, cmpR y.1 p.1 < 0 := fun y hy => by
    obtain ⟨z, hz, e⟩ := h3 y hy
    obtain ⟨j, hj⟩ := List.getElem?_of_mem hz
    rw [List.getElem?_take] at hj
    split at hj
    · rw [← e]; exact h4 j i z p ‹_› (Nat.le_refl _) hj hp
    · cases hj
  have htk : s.take k = s.take i ++ (s.drop i).take (k - i) := by rw [← List.take_add]; congr 1; omega
  refine ⟨⟨⟨asc_snoc h1.1 hlo, fun x hx => ?_⟩, fun r => ?_, fun x hx => ?_, fun a j q x ha hj hq hx => ?_, ?_⟩, hposm⟩
  · rcases List.mem_append.1 hx with hx | hx
    · exact h1.2 x hx
    · simp at hx; subst hx; show midS s i k ≠ 0; omega
  · rw [cnt_append, h2, htk, cnt_append, cnt_same hmid]
    simp only [cnt]
    unfold midS
    split <;> omega
  · rcases List.mem_append.1 hx with hx | hx
    · obtain ⟨y, hy, e⟩ := h3 x hx
      exact ⟨y, by rw [htk]; exact List.mem_append_left _ hy, e⟩
    · simp at hx
      subst hx
      exact ⟨p, List.mem_of_getElem? (i := i) (by rw [List.getElem?_take, if_pos hik]; exact hp), rfl⟩
  · rcases Nat.lt_or_ge a i with hai | hai
    · exact h4 a j q x hai (by omega) hq hx
    · rw [hsame a q hai ha hq]
      obtain ⟨y, hy⟩ : ∃ y, s[k]? = some y := ⟨s[k]'(by have := (List.getElem?_eq_some_iff.1 hx).1; omega), List.getElem?_eq_getElem _⟩
      have e1 := hend y hy
      have e2 := hle hik hp hy
      have f := cmpR_flip p.1 y.1
      have e3 : cmpR p.1 y.1 < 0 := by
        rcases Int.lt_trichotomy (cmpR p.1 y.1) 0 with c | c | c
        · exact c
        · exact absurd ((cmpR_zero _ _).1 c).symm e1
        · omega
      rcases Nat.lt_or_ge k j with hkj | hkj
      · exact cmp_lt_le e3 (hle hkj hy hx)
      · have : k = j := by omega
        subst this
        rw [hy] at hx
        cases hx
        exact e3
  · simp; omega
theorem SumTo.fin {s t lo : Tab} (h : SumTo s s.length lo) (hp : s.Perm t) : lo = normV t :=
  norm_eq h.1 fun r => by rw [h.2.1, List.take_length, cnt_perm hp]
theorem sortAny (A : Option Addr) (n c : Nat) (t : Tab) (w w1 : World) (hb : Below w.heap.size w w1) (hown : ownD kEnt w1 w.heap.size (.slice A n c) n t) (hn : n ≤ 100000) (hf : ∀ x ∈ t, x.1.length ≤ 100000) :
    Calls Tryz.prog 252 #[.slice A n c, .func (.func 253) #[] #[]] w1 fun e w' => e = .returned (.tuple #[]) ∧ ∃ s, s.Perm t ∧ s.Pairwise leR ∧ rTab w' A n s ∧ Below w.heap.size w w' := by
  rcases Nat.eq_zero_or_pos n with rfl | hn0
  · have hl := hown.len
    obtain rfl : t = [] := List.eq_nil_of_length_eq_zero hl
    refine (AnyF.slices_SortFunc_none sortEnt A c (.func (.func 253) #[] #[]) w1).mono ?_
    rintro e w' ⟨rfl, rfl⟩
    exact ⟨rfl, [], .nil, List.Pairwise.nil, rTab.nil _ _, hb⟩
  · have h2 := hown
    obtain ⟨es, ⟨_, ⟨e1, e2⟩ | ⟨g, cap, cur, e1, b1, _⟩⟩, _⟩ := h2
    · omega
    · cases e1
      refine (sortE1 g n c w.heap.size t w1 hown hn0 (by omega) hf).mono ?_
      rintro e w' ⟨rfl, s, h1, h2, h3, h4⟩
      exact ⟨rfl, s, h1, h2, h3, hb.trans (below_of_grown h4 hb.size fun k e => by cases e; exact b1)⟩
theorem doneE (A : Option Addr) (n c : Nat) (w : World) (hn : n ≤ 4096) : Calls Tryz.prog 67 #[.slice A n c] w fun e w' => e = .returned (.tuple #[.slice A n c, .int .i64 0]) ∧ w' = w := by
  have d1 : decide (4096 < n) = false := by simp; omega
  go_enter Tryz.func67, Tryz.ntmps67
  go_wp2
  go_ret2
  exact ⟨rfl, rfl⟩
set_option maxRecDepth 100000 in
set_option maxHeartbeats 1000000 in
theorem bsumE (A : Option Addr) (n c : Nat) (t : Tab) (w : World) (ht : rTab w A n t) (hn : n ≤ 4096) (hpos : ∀ x ∈ t, 0 < x.2) (hs : sumC t ≤ 65536) (h12 : ∀ x ∈ t, x.1.length ≤ 12) : Calls Tryz.prog 208 #[.slice A n c] w (Tab2R (normV t) w) := by
  have HC := Lib.hid (cloEE A n c t w ht (by omega))
  have HTL := Lib.hid ht.len
  have HPOS := Lib.hid hpos
  have HSUM := Lib.hid hs
  have H12 := Lib.hid h12
  clear ht hpos hs h12
  go_enter Tryz.func208, Tryz.ntmps208
  go_wp2_with fail
  refine HC.out.mono ?_
  rintro e w1 ⟨A1, c1, rfl, hrd1, hcc1, hb1, hfr1, hown1⟩
  have HSORT := Lib.hid (sortAny A1 n c1 t w w1 hb1 hown1 (by omega) (fun x hx => by have := H12.out x hx; omega))
  clear hrd1 hb1 hown1 hfr1
  go_wp2_with fail
  refine HSORT.out.mono ?_
  rintro e w2 ⟨rfl, s, hp, hsort, hs2, hb2⟩
  have HS := Lib.hid hs2
  have HB2 := Lib.hid hb2
  have HP := Lib.hid hp
  have HSO := Lib.hid hsort
  have HSL : Hid (s.length = n) := Lib.hid hs2.len
  have HSP : Hid (∀ x ∈ s, 0 < x.2 ∧ x.1.length ≤ 12) := Lib.hid fun x hx => ⟨HPOS.out x (hp.mem_iff.1 hx), H12.out x (hp.mem_iff.1 hx)⟩
  have HSC : Hid (sumC s ≤ 65536) := Lib.hid (by rw [sumC_perm hp]; exact HSUM.out)
  clear hs2 hb2 hp hsort
  have HPT := Lib.hid (HP.out)
  go_wp2
  go_loopw [4, 5, 6] (fun v ok i wr => ∃ (k : Nat) (lo : Tab), k ≤ n ∧ ok = .bool true ∧ i = .int .i64 k ∧ Below w2.heap.size w2 wr ∧ Hid (ownD (kEntF w2.heap.size) wr w2.heap.size v lo.length lo) ∧ Hid (SumTo s k lo)) (fun _ _ i _ => n - (intOf i).toNat)
  case atStart => exact ⟨0, [], by omega, rfl, rfl, bself _, Lib.hid (ownD.nil _ _), Lib.hid (SumTo.nil s)⟩
  case round =>
    obtain ⟨i, lo, hi, rfl, rfl, hbw, HO, HT⟩ := hrel
    have HBW := Lib.hid hbw
    by_cases hlt : i < n
    · obtain ⟨b1, o1, rfl, hc1⟩ := (HS.out.later hbw).opn (by omega)
      obtain ⟨p, hp⟩ := get_some (l := s) (k := i) (by have := HSL.out; omega)
      obtain ⟨rA, rN, rC, p1, p2, p3⟩ := hc1 i p hp
      have HPP := Lib.hid hp
      have HP3 := Lib.hid p3
      have HC1 := Lib.hid hc1
      have hp12 := (HSP.out p (List.mem_of_getElem? hp)).2
      have hrN : rN ≤ 12 := by have := p3.len; omega
      have P1 := Lib.hid p1
      clear hc1 hp p3 p1 p2 hbw
      go_wp2
      go_loopw [7, 8] (fun nn kv wx => ∃ kk : Nat, i ≤ kk ∧ kk ≤ n ∧ kv = .int .i64 kk ∧ nn = .int .i64 (midS s i kk) ∧ Below wr.heap.size wr wx ∧ Hid (∀ j x, i ≤ j → j < kk → s[j]? = some x → x.1 = p.1)) (fun _ kv _ => n - (intOf kv).toNat)
      case atStart => exact ⟨i, Nat.le_refl _, hi, rfl, by rw [midS_self], bself _, Lib.hid fun j x h1 h2 => absurd h1 (by omega)⟩
      case round =>
        obtain ⟨kk, hik, hkn, rfl, rfl, hbx, HSA⟩ := hrel
        have HBX := Lib.hid hbx
        by_cases hkk : kk < n
        · obtain ⟨x, hx⟩ := get_some (l := s) (k := kk) (by have := HSL.out; omega)
          obtain ⟨sA, sN, sC, x1, x2, x3⟩ := HC1.out kk x hx
          have X3 := Lib.hid x3
          have HXX := Lib.hid hx
          have hx12 := (HSP.out x (List.mem_of_getElem? hx)).2
          have gx := Gro.cell (cell_later hbx P1.out)
          have gy := Gro.cell (cell_later hbx x1)
          have y2 := x2
          have HCM := Lib.hid fun W (hb : Below wr.heap.size wr W) => cmrE rA rN rC sA sN sC p.1 x.1 W (HP3.out.later (btr HBX.out hb)) (X3.out.later (btr HBX.out hb)) (by omega) (by omega)
          have X2 := Lib.hid x2
          clear x1 x2 x3 hx hbx y2
          cases hz : (cmpR p.1 x.1 == 0)
          · have hne : cmpR p.1 x.1 ≠ 0 := by simpa using hz
            have hend : ∀ y, s[kk]? = some y → y.1 ≠ p.1 := fun y hy e => by
              rw [HXX.out] at hy
              cases hy
              exact hne ((cmpR_zero _ _).2 e.symm)
            have hik2 : i < kk := by
              rcases Nat.lt_or_ge i kk with h | h
              · exact h
              · have e : i = kk := by omega
                subst e
                exact absurd rfl (hend p HPP.out)
            go_wp2_with fail
            refine wp_region_quiet_gro (by kernel_rfl) (by kernel_rfl) ?_; (repeat (go_big_quiet_step ((go_at_call 42; exact Calls.gro_of (HCM.out _ (Gro.below _)))))); refine wpQuiet_nil ?_; intro _ hw'; obtain ⟨pq, hw''⟩ := hw'; subst hw''; have hbq := pq.below; revert hbq; generalize pq.world = wq; intro hbq
            have HBE := Lib.hid (btr HBX.out hbq)
            clear gx gy hbq
            have HSTEP := Lib.hid (SumTo.step HT.out HSO.out (fun x hx => (HSP.out x hx).1) hik2 (by have := HSL.out; omega) HPP.out HSA.out hend)
            have hm1 := HSTEP.out.2
            have hm2 : midS s i kk ≤ 65536 := by have := (midS_le (s := s) (fun x hx => (HSP.out x hx).1) i kk).2; have := HSC.out; omega
            have q1 := cell_later HBE.out P1.out
            have HPUT := Lib.hid (putE w2.heap.size u4 lo.length lo rA rN rC p.1 (midS s i kk) _ (HO.out.later HBE.out) (HP3.out.later HBE.out) hrN hm1 hm2 (Nat.le_trans HBW.out.size HBE.out.size) (by have := HT.out.2.2.2.2; omega))
            have HV0 : Hid (∀ k, u4.ownBlock = some k → w2.heap.size ≤ k) := Lib.hid fun k e => (HO.out.lt k e).1
            clear hend
            go_wp2_with fail
            refine HPUT.out.mono ?_
            rintro e w3 ⟨v', rfl, hown', hg⟩
            have HOF := Lib.hid hown'
            have HBF := Lib.hid (below_push2 (btr HBW.out HBE.out) hg HV0.out)
            clear hown' hg
            go_wp2
            go_roundw
            case rel => exact ⟨kk, lo ++ [(p.1, midS s i kk)], hkn, rfl, rfl, HBF.out, Lib.hid (by simpa using HOF.out), Lib.hid HSTEP.out.1⟩
            case measure => simp [intOf]; omega
          · have HEQ : Hid (x.1 = p.1) := Lib.hid ((cmpR_zero _ _).1 (by simpa using hz)).symm
            have HMS := Lib.hid (midS_succ hik HXX.out)
            have hm3 := midS_le (s := s) (fun x hx => (HSP.out x hx).1) i (kk + 1)
            have hm4 := HSC.out
            have hm5 : IntKind.i64.wrap (midS s i kk + x.2) = midS s i kk + x.2 := by have := HMS.out; rw [IntKind.wrap_i64]; omega
            clear hm3 hm4
            go_wp2_with fail
            refine wp_region_quiet_gro (by kernel_rfl) (by kernel_rfl) ?_; (repeat (go_big_quiet_step ((go_at_call 42; exact Calls.gro_of (HCM.out _ (Gro.below _)))))); refine wpQuiet_nil ?_; intro _ hw'; obtain ⟨pq, hw''⟩ := hw'; subst hw''; have hbq := pq.below; revert hbq; generalize pq.world = wq; intro hbq
            have HBE := Lib.hid (btr HBX.out hbq)
            have q2 := cell_later HBE.out X2.out
            clear gx gy hbq
            go_wp2
            go_roundw
            case rel => exact ⟨kk + 1, by omega, by omega, by go_num, by rw [HMS.out], HBE.out, Lib.hid fun j y h1 h2 hy => by
              rcases Nat.lt_or_ge j kk with h | h
              · exact HSA.out j y h1 h hy
              · have ej : j = kk := by omega
                subst ej
                rw [HXX.out] at hy
                cases hy
                exact HEQ.out⟩
            case measure => simp [intOf]; omega
        · obtain rfl : kk = n := by omega
          have hik2 : i < kk := hlt
          have hend : ∀ y, s[kk]? = some y → y.1 ≠ p.1 := fun y hy => by
            rw [List.getElem?_eq_none (by have := HSL.out; omega)] at hy; cases hy
          have dk : decide (kk < kk) = false := by simp
          go_wp2_with fail
          refine wp_region_quiet_gro (by kernel_rfl) (by kernel_rfl) ?_; (repeat (go_big_quiet_step (fail))); refine wpQuiet_nil ?_; intro _ hw'; obtain ⟨pq, hw''⟩ := hw'; subst hw''; have hbq := pq.below; revert hbq; generalize pq.world = wq; intro hbq
          have HBE := Lib.hid (btr HBX.out hbq)
          clear hbq
          have HSTEP := Lib.hid (SumTo.step HT.out HSO.out (fun x hx => (HSP.out x hx).1) hik2 (by have := HSL.out; omega) HPP.out HSA.out hend)
          have hm1 := HSTEP.out.2
          have hm2 : midS s i kk ≤ 65536 := by have := (midS_le (s := s) (fun x hx => (HSP.out x hx).1) i kk).2; have := HSC.out; omega
          have q1 := cell_later HBE.out P1.out
          have HPUT := Lib.hid (putE w2.heap.size u4 lo.length lo rA rN rC p.1 (midS s i kk) _ (HO.out.later HBE.out) (HP3.out.later HBE.out) hrN hm1 hm2 (Nat.le_trans HBW.out.size HBE.out.size) (by have := HT.out.2.2.2.2; omega))
          have HV0 : Hid (∀ k, u4.ownBlock = some k → w2.heap.size ≤ k) := Lib.hid fun k e => (HO.out.lt k e).1
          clear hend
          go_wp2_with fail
          refine HPUT.out.mono ?_
          rintro e w3 ⟨v', rfl, hown', hg⟩
          have HOF := Lib.hid hown'
          have HBF := Lib.hid (below_push2 (btr HBW.out HBE.out) hg HV0.out)
          clear hown' hg
          go_wp2
          go_roundw
          case rel => exact ⟨kk, lo ++ [(p.1, midS s i kk)], hkn, rfl, rfl, HBF.out, Lib.hid (by simpa using HOF.out), Lib.hid HSTEP.out.1⟩
          case measure => simp [intOf]; omega
    · obtain rfl : i = n := by omega
      obtain ⟨vA, vc, hv4, hvc, hrd, hfr⟩ := HO.out.rd
      have HL : Hid (lo = normV t) := Lib.hid (by
        have := HT.out
        rw [← HSL.out] at this
        exact this.fin HPT.out)
      have HR : Hid (rTabF wr w.heap.size vA lo.length lo) := Lib.hid (rTabF.mono ⟨hrd, fun _ a e => (hfr a e).1⟩ HB2.out.size)
      have hle : lo.length ≤ 4096 := by have := HT.out.2.2.2.2; omega
      have dle : decide (4096 < lo.length) = false := by simp; omega
      subst hv4
      clear hrd hfr
      go_wp2_with fail
      refine (doneE vA lo.length vc wr hle).mono ?_
      rintro e w4 ⟨rfl, rfl⟩
      have HBF := Lib.hid (HB2.out.trans (hbw.mono HB2.out.size))
      go_wp2
      go_ret2
      exact ⟨_, _, _, rfl, by rw [← HL.out]; exact HR.out, hvc, HBF.out⟩
set_option maxRecDepth 100000 in
set_option maxHeartbeats 1000000 in
theorem bnormE (A : Option Addr) (n c : Nat) (t : Tab) (w : World) (ht : rTab w A n t) (hn : n ≤ 4096) (hpos : ∀ x ∈ t, 0 < x.2) (hs : sumC t ≤ 65536) (h12 : ∀ x ∈ t, x.1.length ≤ 12) (hv : ∀ x ∈ t, vOk x.1) : Calls Tryz.prog 213 #[.slice A n c] w (Tab2R (normV t) w) := by
  have HT := Lib.hid ht
  have HP := Lib.hid hpos
  have HS := Lib.hid hs
  have H12 := Lib.hid h12
  have HV := Lib.hid hv
  have HL := Lib.hid ht.len
  clear ht hpos hs hv h12
  go_enter Tryz.func213, Tryz.ntmps213
  go_wp2
  go_loopw [9] (fun i wr => ∃ k : Nat, k ≤ n ∧ i = .int .i64 k ∧ Below w.heap.size w wr) (fun i _ => n - (intOf i).toNat)
  case atStart => exact ⟨0, by omega, rfl, bself _⟩
  case round =>
    obtain ⟨k, hk, rfl, hbw⟩ := hrel
    have HBW := Lib.hid hbw
    clear hbw
    by_cases hlt : k < n
    · obtain ⟨b1, o1, rfl, hc1⟩ := (HT.out.later HBW.out).opn (by omega)
      obtain ⟨x, hx⟩ := get_some (l := t) (k := k) (by have := HL.out; omega)
      obtain ⟨rA, rN, rC, x1, x2, x3⟩ := hc1 k x hx
      have hm := List.mem_of_getElem? hx
      have hx1 := HP.out x hm
      have hx2 : x.2 ≤ 65536 := by
        have h1 := HS.out
        have h2 : x.2 ≤ sumC t := by
          have h3 := sumC_split t k
          have h4 := sumC_nn (l := t.take k) fun y hy => HP.out y (List.mem_of_mem_take hy)
          have h5 := sumC_nn (l := t.drop (k + 1)) fun y hy => HP.out y (List.mem_of_mem_drop hy)
          have h6 : t.drop k = x :: t.drop (k + 1) := by
            rw [List.drop_eq_getElem_cons (List.getElem?_eq_some_iff.1 hx).1, (List.getElem?_eq_some_iff.1 hx).2]
          rw [h6, sumC] at h3
          omega
        omega
      have HF := Lib.hid (formedE rA rN rC x.1 x.2 (wr.alloc (.cells #[.slice rA rN rC, .int .i64 x.2] 65)) (x3.later (ballo _ _)) (H12.out x hm) (HV.out x hm) (by omega) hx2)
      clear hc1 hx x3
      go_wp2_with (go_at_call 95; refine HF.out.mono ?_; rintro e w' ⟨rfl, hb⟩)
      go_roundw
      case rel => exact ⟨k + 1, by omega, by go_num, btr HBW.out (btr (ballo _ _) hb)⟩
      case measure => simp [intOf]; omega
    · have H := Lib.hid (bsumE A n c t wr (HT.out.later HBW.out) hn HP.out HS.out H12.out)
      go_wp2_with fail
      refine H.out.mono ?_
      rintro e w2 ⟨A2, n2, c2, rfl, hr2, hc2, hb2⟩
      have HR2 := Lib.hid hr2
      have HB2 := Lib.hid (btr HBW.out hb2)
      clear hr2 hb2
      go_wp2
      go_ret2
      exact ⟨_, _, _, rfl, HR2.out.mono HBW.out.size, hc2, HB2.out⟩
end
section
open Go.RowKit Go.BigFrame
set_option linter.unusedSimpArgs false
set_option linter.unusedVariables false

/-- the picked elements -/
def pickV {α : Type} (z : α) (l : List α) (is : List Int) : List α := is.map fun (i : Int) => if 0 ≤ i ∧ i < (l.length : Int) then l.getD i.toNat z else z
theorem made_gen {α : Type} {enc : α → List Value} (z : α) (zv : Value) (hC : ∀ x, (enc x).length = 3) (hz : zv.cells = (enc z).toArray) (n : Nat) : (madeCells zv.cells (n * 3)).toList = flat enc (List.replicate n z) := by
  apply List.ext_getElem?
  intro j
  rw [hz]
  have hl : (flat enc (List.replicate n z)).length = n * 3 := by rw [flat_length hC, List.length_replicate]
  by_cases hj : j < n * 3
  · have e : j = j / 3 * 3 + j % 3 := by omega
    have h3 : j % 3 < 3 := Nat.mod_lt _ (by omega)
    have hg : (List.replicate n z)[j / 3]? = some z := by rw [List.getElem?_replicate, if_pos (by omega)]
    have hf := flat_get hC hg (j % 3) h3
    rw [← e] at hf
    rw [hf]
    simp only [madeCells, Array.getElem?_toList, Array.getElem?_map, Array.getElem?_range, hj, if_true, Option.map_some, List.size_toArray, hC]
    rw [List.getElem?_eq_getElem (by rw [hC]; exact h3)]
    simp [h3, hC]
  · rw [List.getElem?_eq_none (by simp [madeCells]; omega), List.getElem?_eq_none (by omega)]
/-- how far the picking has come -/
def PicTo {α : Type} (z : α) (l : List α) (is : List Int) (k : Nat) (r : List α) : Prop := r.length = is.length ∧ (∀ j, j < k → r[j]? = (pickV z l is)[j]?) ∧ ∀ j, k ≤ j → j < is.length → r[j]? = some z
theorem PicTo.end_ {α : Type} {z : α} {l : List α} {is : List Int} {r : List α} (h : PicTo z l is is.length r) : r = pickV z l is := by
  apply List.ext_getElem?
  intro j
  by_cases hj : j < is.length
  · exact h.2.1 j hj
  · rw [List.getElem?_eq_none (by rw [h.1]; omega), List.getElem?_eq_none (by simp [pickV]; omega)]
theorem pickV_get {α : Type} {z : α} {l : List α} {is : List Int} {k : Nat} {i : Int} (h : is[k]? = some i) : (pickV z l is)[k]? = some (if 0 ≤ i ∧ i < (l.length : Int) then l.getD i.toNat z else z) := by
  simp [pickV, h]
theorem PicTo.skip {α : Type} {z : α} {l : List α} {is : List Int} {k : Nat} {r : List α} {i : Int} (h : PicTo z l is k r) (hi : is[k]? = some i) (hn : ¬ (0 ≤ i ∧ i < l.length)) : PicTo z l is (k + 1) r := by
  have hk := (List.getElem?_eq_some_iff.1 hi).1
  refine ⟨h.1, fun j hj => ?_, fun j hj => h.2.2 j (by omega)⟩
  rcases Nat.lt_or_ge j k with h1 | h1
  · exact h.2.1 j h1
  · obtain rfl : j = k := by omega
    rw [h.2.2 j (Nat.le_refl _) hk, pickV_get hi, if_neg hn]
theorem PicTo.put {α : Type} {z x : α} {l : List α} {is : List Int} {k : Nat} {r : List α} {i : Int} (h : PicTo z l is k r) (hi : is[k]? = some i) (h0 : 0 ≤ i) (hx : l[i.toNat]? = some x) : PicTo z l is (k + 1) (r.set k x) := by
  have hk := (List.getElem?_eq_some_iff.1 hi).1
  have hl := (List.getElem?_eq_some_iff.1 hx).1
  refine ⟨by rw [List.length_set]; exact h.1, fun j hj => ?_, fun j hj hj2 => ?_⟩
  · rcases Nat.lt_or_ge j k with h1 | h1
    · rw [List.getElem?_set_ne (by omega)]; exact h.2.1 j h1
    · obtain rfl : j = k := by omega
      rw [List.getElem?_set_self (by rw [h.1]; exact hk), pickV_get hi, if_pos ⟨h0, by omega⟩, List.getD_eq_getElem?_getD, hx]; rfl
  · rw [List.getElem?_set_ne (by omega)]; exact h.2.2 j (by omega) hj2
set_option maxRecDepth 100000 in
set_option maxHeartbeats 1000000 in
theorem pickE0 (A : Option Addr) (n c : Nat) (l : List Val) (B : Option Addr) (m d : Nat) (is : List Int) (w : World) (h : rVal w A n l) (hi : rInt w B m is) (hn : n ≤ 100000) (hm : m ≤ 100000) :
    Calls Tryz.prog 250 #[.slice A n c, .slice B m d] w (CloR kVal m (pickV (⟨0, 0, ⟨#[]⟩⟩ : Val) l is) w) := by
  obtain ⟨i0, hi0, hz0, hz1, hz2⟩ := info_parts info46
  have hmk : ∀ W : World, ∃ w', (Instr.makeSlice 63 (.int .i64 (m : Int)) (.int .i64 (m : Int))).run Tryz.prog W = .ok (.slice (some ⟨W.heap.size, 0, none⟩) m m) w' ∧
      w'.ownsRow W.heap.size 46 3 (.slice (some ⟨W.heap.size, 0, none⟩) m m) m (flat encVal (List.replicate m (⟨0, 0, ⟨#[]⟩⟩ : Val))) ∧ W.grownBy w' none := fun W => by
    have := run_make_full (P := Tryz.prog) W W.heap.size 63 46 i0 _ 3 Tryz.underlying63 hi0 hz0 hz1 .i64 .i64 m (by rw [hz2]; omega) (by unfold maxLen; omega) (Nat.le_refl _)
    rwa [made_gen (⟨0, 0, ⟨#[]⟩⟩ : Val) _ encVal_len rfl] at this
  have HA := Lib.hid h
  have HI := Lib.hid hi
  have LA := Lib.hid h.len
  have LI := Lib.hid hi.len
  obtain ⟨w1, hm1, hm2, hm3⟩ := hmk w
  have HM := Lib.hid hm2
  have hB1 : Below w.heap.size w w1 := below_of_grown hm3 (Nat.le_refl _) (fun k h => by cases h)
  clear h hi hmk hm2 hm3
  go_enter Tryz.func250, Tryz.ntmps250
  go_wp2
  go_loopw [13] (fun i wr => ∃ (k : Nat) (r : List Val), k ≤ m ∧ i = .int .i64 k ∧ Below w.heap.size w wr ∧ Hid (wr.ownsRow w.heap.size 46 3 (.slice (some ⟨w.heap.size, 0, none⟩) m m) m (flat encVal r)) ∧ Hid (PicTo (⟨0, 0, ⟨#[]⟩⟩ : Val) l is k r)) (fun i _ => m - (intOf i).toNat)
  case atStart => exact ⟨0, _, by omega, rfl, hB1, HM, Lib.hid ⟨by rw [List.length_replicate, LI.out], fun j hj => absurd hj (by omega), fun j _ hj => by rw [List.getElem?_replicate, if_pos (by have := LI.out; omega)]⟩⟩
  case round =>
    obtain ⟨k, r, hk, rfl, hbw, HO, HP⟩ := hrel
    have HBW := Lib.hid hbw
    by_cases hlt : k < m
    · obtain ⟨b1, o1, rfl, hc1⟩ := HI.out.opn (by omega)
      obtain ⟨i, hi⟩ := get_some (l := is) (k := k) (by have := LI.out; omega)
      have y0 := cell_later hbw (hc1 k i hi)
      have HX := Lib.hid hi
      clear hc1 hi
      by_cases hin : 0 ≤ i ∧ i < n
      · obtain ⟨h0, h1⟩ := hin
        obtain ⟨j, rfl⟩ := Int.eq_ofNat_of_zero_le h0
        have hjn : j < n := by omega
        obtain ⟨b2, o2, rfl, hc2⟩ := HA.out.opn (by omega)
        obtain ⟨x, hx⟩ := get_some (l := l) (k := j) (by have := LA.out; omega)
        obtain ⟨x1, x2, x3⟩ := hc2 j x hx
        have y1 := cell_later hbw x1
        have y2 := cell_later hbw x2
        have y3 := cell_later hbw x3
        obtain ⟨q, hq⟩ := get_some (l := r) (k := k) (by have := HP.out.1; have := LI.out; omega)
        have own := HO.out
        have z1 : wr.cell? ⟨w.heap.size, k * 3, none⟩ = some (held wr ⟨w.heap.size, k * 3, none⟩) := held_some (by rw [own.cellAt _ (by omega)]; exact flat_get encVal_len hq 0 (by omega))
        have z2 : wr.cell? ⟨w.heap.size, k * 3 + 1, none⟩ = some (held wr ⟨w.heap.size, k * 3 + 1, none⟩) := held_some (by rw [own.cellAt _ (by omega)]; exact flat_get encVal_len hq 1 (by omega))
        have z3 : wr.cell? ⟨w.heap.size, k * 3 + 2, none⟩ = some (held wr ⟨w.heap.size, k * 3 + 2, none⟩) := held_some (by rw [own.cellAt _ (by omega)]; exact flat_get encVal_len hq 2 (by omega))
        have zf : ∀ o, wr.frozen? ⟨w.heap.size, o, none⟩ = false := fun o => own.frozenAt o
        have own3 := Lib.hid (own_set3 encVal_len (x := x) rfl own hlt)
        have HP3 := Lib.hid (HP.out.put HX.out (by omega) (by rw [Int.toNat_natCast]; exact hx))
        have HB3 := Lib.hid (below_sets hbw (Nat.le_refl w.heap.size) (a := k * 3) (b := k * 3 + 1) (c := k * 3 + 2) (x := .int .i64 x.k) (y := .int .i64 x.m) (z := .string x.s))
        have d1 : decide (j < n) = true := by simp [hjn]
        clear hc2 hx hq own x1 x2 x3 hbw
        go_wp2
        go_roundw
        case rel => exact ⟨k + 1, r.set k x, by omega, by go_num, HB3.out, own3, HP3⟩
        case measure => simp [intOf]; omega
      · have HP3 := Lib.hid (HP.out.skip HX.out (by rw [LA.out]; exact hin))
        by_cases hi0' : 0 ≤ i
        · have d0 : decide (0 ≤ i) = true := by simp [hi0']
          have d1 : decide (i < n) = false := by simp; omega
          clear hin
          go_wp2
          go_roundw
          case rel => exact ⟨k + 1, r, by omega, by go_num, HBW.out, HO, HP3⟩
          case measure => simp [intOf]; omega
        · have d0 : decide (0 ≤ i) = false := by simp; omega
          clear hin
          go_wp2
          go_roundw
          case rel => exact ⟨k + 1, r, by omega, by go_num, HBW.out, HO, HP3⟩
          case measure => simp [intOf]; omega
    · obtain rfl : k = m := by omega
      go_wp2
      go_ret
      obtain ⟨A2, c2, e2, hr2, _⟩ := fl_of_own HO.out
      have hend : r = pickV (⟨0, 0, ⟨#[]⟩⟩ : Val) l is := PicTo.end_ (by have := HP.out; rw [← LI.out] at this; exact this)
      cases e2
      exact ⟨_, _, rfl, rD_Val.2 (by rw [← hend]; exact hr2), Nat.le_refl _, hbw, (fun a ha => by cases ha; exact ⟨Nat.le_refl _, (HO.out.lt _ rfl).2⟩), ⟨_, by rw [← hend]; exact HO.out, dAll_refl _, fun a h p hp => by cases hp⟩⟩
end
section
open Go.RowKit Go.BigFrame
set_option linter.unusedSimpArgs false
set_option linter.unusedVariables false

/-- the first place at which p holds, or -1 -/
def idxV {α : Type} (p : α → Bool) (l : List α) : Int := match l.findIdx? p with | some i => i | none => -1
theorem idxV_hit {α : Type} {p : α → Bool} {l : List α} {k : Nat} {x : α} (hb : ∀ (j : Nat) y, j < k → l[j]? = some y → p y = false) (hx : l[k]? = some x) (hp : p x = true) : idxV p l = k := by
  have h : l.findIdx? p = some k := by
    rw [List.findIdx?_eq_some_iff_getElem]
    refine ⟨(List.getElem?_eq_some_iff.1 hx).1, by rw [(List.getElem?_eq_some_iff.1 hx).2]; exact hp, fun j hj => ?_⟩
    have hjl : j < l.length := by have := (List.getElem?_eq_some_iff.1 hx).1; omega
    have := hb j _ hj (List.getElem?_eq_getElem hjl)
    simp [this]
  unfold idxV; rw [h]
theorem idxV_miss {α : Type} {p : α → Bool} {l : List α} (hb : ∀ (j : Nat) y, l[j]? = some y → p y = false) : idxV p l = -1 := by
  have h : l.findIdx? p = none := by
    rw [List.findIdx?_eq_none_iff]
    intro x hx
    obtain ⟨j, hj⟩ := List.getElem?_of_mem hx
    exact hb j x hj
  unfold idxV; rw [h]
def NoneTo {α : Type} (p : α → Bool) (l : List α) (k : Nat) : Prop := ∀ (j : Nat) y, j < k → l[j]? = some y → p y = false
theorem NoneTo.succ {α : Type} {p : α → Bool} {l : List α} {k : Nat} {x : α} (h : NoneTo p l k) (hx : l[k]? = some x) (hp : p x = false) : NoneTo p l (k + 1) := by
  intro j y hj hy
  rcases Nat.lt_or_ge j k with h1 | h1
  · exact h j y h1 hy
  · obtain rfl : j = k := by omega
    rw [hx] at hy; cases hy; exact hp
def nmIs (nm : ByteArray) (c : Col) : Bool := c.nm.toList == nm.toList
theorem clo190 (c : Col) (B : Nat) (nm : ByteArray) (w : World) (hc : w.cell? ⟨B, 0, none⟩ = some (.string nm)) :
    Calls Tryz.prog 190 #[.agg #[.string c.nm, .int .i64 c.k, .bool c.nl], .pointer (some ⟨B, 0, none⟩)] w fun e w' => e = .returned (.bool (nmIs nm c)) ∧ Below w.heap.size w w' := by
  have hc' := cell_later (ballo w (.cells #[.string c.nm, .int .i64 c.k, .bool c.nl] 56)) hc
  go_enter Tryz.func190, Tryz.ntmps190
  go_wp2
  go_ret
  exact ⟨ret_bool (by simp [nmIs]), ballo _ _⟩
set_option maxRecDepth 100000 in
theorem idx_189_190 (cB : Nat) (p : Col → Bool) (A : Option Addr) (n c : Nat) (l : List Col) (w : World) (h : rCol w A n l) (hn : n ≤ 100000)
    (hG : ∀ (W : World) (x : Col), Below w.heap.size w W → x ∈ l → Calls Tryz.prog 190 #[.agg #[.string x.nm, .int .i64 x.k, .bool x.nl], .pointer (some ⟨cB, 0, none⟩)] W fun e w' => e = .returned (.bool (p x)) ∧ Below W.heap.size W w') :
    Calls Tryz.prog 189 #[.slice A n c, .func (.func 190) #[] #[.pointer (some ⟨cB, 0, none⟩)]] w fun e w' => e = .returned (.int .i64 (idxV p l)) ∧ Below w.heap.size w w' := by
  have HA := Lib.hid h
  have LA := Lib.hid h.len
  have HG := Lib.hid hG
  clear h hG
  go_enter Tryz.func189, Tryz.ntmps189
  go_wp2
  go_loopw [8] (fun i wr => ∃ k : Nat, k ≤ n ∧ i = .int .i64 k ∧ Below w.heap.size w wr ∧ Hid (NoneTo p l k)) (fun i _ => n - (intOf i).toNat)
  case atStart => exact ⟨0, by omega, rfl, bself _, Lib.hid fun j _ hj => absurd hj (by omega)⟩
  case round =>
    obtain ⟨k, hk, rfl, hbw, HS⟩ := hrel
    have HBW := Lib.hid hbw
    by_cases h1 : k < n
    · obtain ⟨b1, o1, rfl, hc1⟩ := (HA.out.later hbw).opn (by omega)
      obtain ⟨x, hx⟩ := get_some (l := l) (k := k) (by have := LA.out; omega)
      have hcells := hc1 k x hx
      have HX := Lib.hid hx
      have HC := Lib.hid (HG.out wr x hbw (List.mem_of_getElem? hx))
      clear hc1 hx hbw
      (repeat (obtain ⟨_, hcells⟩ := hcells))
      cases hz : p x
      · have HZ := Lib.hid hz
        go_wp2_with fail
        refine HC.out.mono ?_
        rintro e w2 ⟨rfl, hb2⟩
        have HB2 := Lib.hid (btr HBW.out hb2)
        clear hb2
        go_wp2
        go_roundw
        case rel => exact ⟨k + 1, by omega, by go_num, HB2.out, Lib.hid (HS.out.succ HX.out HZ.out)⟩
        case measure => simp [intOf]; omega
      · have HZ := Lib.hid hz
        go_wp2_with fail
        refine HC.out.mono ?_
        rintro e w2 ⟨rfl, hb2⟩
        have HB2 := Lib.hid (btr HBW.out hb2)
        clear hb2
        go_wp2
        go_ret
        exact ⟨ret_int (idxV_hit HS.out HX.out HZ.out).symm, HB2.out⟩
    · go_wp2
      go_ret
      exact ⟨ret_int (idxV_miss (fun j y hy => HS.out j y (by have := LA.out; have := (List.getElem?_eq_some_iff.1 hy).1; omega) hy)).symm, hbw⟩
theorem idx189 (A : Option Addr) (n c : Nat) (cs : List Col) (B : Nat) (nm : ByteArray) (w : World) (h : rCol w A n cs) (hn : n ≤ 100000) (hc : w.cell? ⟨B, 0, none⟩ = some (.string nm)) :
    Calls Tryz.prog 189 #[.slice A n c, .func (.func 190) #[] #[.pointer (some ⟨B, 0, none⟩)]] w fun e w' => e = .returned (.int .i64 (idxV (nmIs nm) cs)) ∧ Below w.heap.size w w' :=
  idx_189_190 B (nmIs nm) A n c cs w h hn fun W x hb _ => clo190 x B nm W (cell_later hb hc)
def idxC (cs : List Col) (nm : ByteArray) : Int := idxV (nmIs nm) cs
theorem indexE (A : Option Addr) (n c : Nat) (cs : List Col) (nm : ByteArray) (w : World) (h : rCol w A n cs) (hn : n ≤ 100000) :
    Calls Tryz.prog 124 #[.slice A n c, .string nm] w fun e w' => e = .returned (.int .i64 (idxC cs nm)) ∧ Below w.heap.size w w' := by
  have H := Lib.hid (idx189 A n c cs w.heap.size nm (w.alloc (.cells #[.string nm] 9)) (h.later (ballo _ _)) hn (by simp))
  clear h
  go_enter Tryz.func124, Tryz.ntmps124
  go_wp2_with (go_at_call 189; refine (H.out).mono ?_; rintro e w' ⟨rfl, hb⟩)
  go_ret
  exact ⟨ret_int rfl, btr (ballo _ _) hb⟩
end
section
open Go.RowKit Go.BigFrame
set_option linter.unusedSimpArgs false
set_option linter.unusedVariables false

def isS (s x : ByteArray) : Bool := s.toList == x.toList
def hasS (l : List ByteArray) (s : ByteArray) : Bool := l.any (isS s)
set_option maxRecDepth 100000 in
theorem idx221 (A : Option Addr) (n c : Nat) (l : List ByteArray) (s : ByteArray) (w : World) (h : rStr w A n l) (hn : n ≤ 100000) :
    Calls Tryz.prog 221 #[.slice A n c, .string s] w fun e w' => e = .returned (.int .i64 (idxV (isS s) l)) ∧ w = w' := by
  have HA := Lib.hid h
  have LA := Lib.hid h.len
  clear h
  go_enter Tryz.func221, Tryz.ntmps221
  go_wp2
  go_loop [8] (fun i => ∃ k : Nat, k ≤ n ∧ i = .int .i64 k ∧ Hid (NoneTo (isS s) l k)) (fun i => n - (intOf i).toNat)
  case atStart => exact ⟨0, by omega, rfl, Lib.hid fun j _ hj => absurd hj (by omega)⟩
  case round =>
    obtain ⟨k, hk, rfl, HS⟩ := hrel
    by_cases h1 : k < n
    · obtain ⟨b1, o1, rfl, hc1⟩ := HA.out.opn (by omega)
      obtain ⟨x, hx⟩ := get_some (l := l) (k := k) (by have := LA.out; omega)
      have hcell := hc1 k x hx
      have HX := Lib.hid hx
      clear hc1 hx
      cases hz : (s.toList == x.toList)
      · have HZ : Hid (isS s x = false) := Lib.hid hz
        go_wp2
        case roundEnd => exact ⟨⟨k + 1, by omega, by go_num, Lib.hid (HS.out.succ HX.out HZ.out)⟩, by simp [intOf]; omega⟩
      · have HZ : Hid (isS s x = true) := Lib.hid hz
        go_wp2
        go_ret
        exact ⟨ret_int (idxV_hit HS.out HX.out HZ.out).symm, rfl⟩
    · go_wp2
      go_ret
      exact ⟨ret_int (idxV_miss (fun j y hy => HS.out j y (by have := LA.out; have := (List.getElem?_eq_some_iff.1 hy).1; omega) hy)).symm, rfl⟩
theorem idxV_ge {α : Type} (p : α → Bool) (l : List α) : decide (0 ≤ idxV p l) = l.any p := by
  unfold idxV
  cases h : l.findIdx? p with
  | none =>
    have : l.any p = false := by
      rw [List.findIdx?_eq_none_iff] at h
      simp only [List.any_eq_false]
      intro x hx; have := h x hx; simp [this]
    rw [this]; simp
  | some i =>
    have : l.any p = true := by
      rw [List.findIdx?_eq_some_iff_getElem] at h
      obtain ⟨hi, hp, _⟩ := h
      exact List.any_eq_true.2 ⟨_, List.getElem_mem hi, hp⟩
    rw [this]; simp
theorem contS (A : Option Addr) (n c : Nat) (l : List ByteArray) (s : ByteArray) (w : World) (h : rStr w A n l) (hn : n ≤ 100000) :
    Calls Tryz.prog 148 #[.slice A n c, .string s] w fun e w' => e = .returned (.bool (hasS l s)) ∧ w = w' := by
  have H := Lib.hid (idx221 A n c l s w h hn)
  clear h
  go_enter Tryz.func148, Tryz.ntmps148
  go_wp2_with (go_at_call 221; refine (H.out).mono ?_; rintro e w' ⟨rfl, rfl⟩)
  go_ret
  exact ⟨ret_bool (by unfold hasS; rw [← idxV_ge]), rfl⟩
/-- the numbers come back -/
def IntsR (is : List Int) (w : World) (e : Ending) (w' : World) : Prop := ∃ A n c, e = .returned (.tuple #[.slice A n c, .int .i64 0]) ∧ rInt w' A n is ∧ n ≤ c ∧ Below w.heap.size w w'
theorem info3 : (Tryz.prog.info? 3).map (fun i => (i.zero, i.size, i.bytes)) = some (some (.int .i64 0), 1, 8) := by kernel_rfl
theorem pInt : ∃ i, KinP Tryz.prog kInt 22 i (.int .i64 0) 8 := by
  obtain ⟨i0, hi, hz0, hz1, hz2⟩ := info_parts info3
  exact ⟨i0, ⟨Tryz.underlying22, hi, hz0, hz1, hz2, rfl, by omega⟩⟩
/-- names of columns, each once -/
def okNames (cs : List Col) (ns : List ByteArray) : Prop := ∀ (j : Nat) (s : ByteArray), ns[j]? = some s → 0 ≤ idxC cs s ∧ hasS (ns.take j) s = false
theorem cell_one {W : World} {v : Value} {t : TypeId} : ∀ j u, [v][j]? = some u → (W.alloc (.cells #[v] t)).cell? ((⟨W.heap.size, 0, none⟩ : Addr).add j) = some u := cell_one_new W v t
set_option maxRecDepth 100000 in
set_option maxHeartbeats 1000000 in
theorem indsE (A : Option Addr) (n c : Nat) (cs : List Col) (B : Option Addr) (m d : Nat) (ns : List ByteArray) (w : World) (h : rCol w A n cs) (hs : rStr w B m ns) (hok : okNames cs ns) (hn : n ≤ 1000) (hm : m ≤ 1000) (hd : m ≤ d) :
    Calls Tryz.prog 132 #[.slice A n c, .slice B m d] w (IntsR (ns.map (idxC cs)) w) := by
  obtain ⟨iI, PI⟩ := pInt
  have HC := Lib.hid h
  have HS := Lib.hid hs
  have LS := Lib.hid hs.len
  have HK := Lib.hid hok
  clear h hs hok
  go_enter Tryz.func132, Tryz.ntmps132
  go_wp2
  go_loopw [6, 12] (fun v i wr => ∃ k : Nat, k ≤ m ∧ i = .int .i64 k ∧ Below w.heap.size w wr ∧ Hid (ownD kInt wr w.heap.size v k ((ns.take k).map (idxC cs)))) (fun _ i _ => m - (intOf i).toNat)
  case atStart => exact ⟨0, by omega, rfl, bself _, Lib.hid (ownD.nil _ _)⟩
  case round =>
    obtain ⟨k, hk, rfl, hbw, HO⟩ := hrel
    have HBW := Lib.hid hbw
    by_cases hlt : k < m
    · obtain ⟨b1, o1, rfl, hc1⟩ := HS.out.opn (by omega)
      obtain ⟨s, hx⟩ := get_some (l := ns) (k := k) (by have := LS.out; omega)
      have y1 := cell_later hbw (hc1 k s hx)
      obtain ⟨q1, q2⟩ := HK.out k s hx
      have d1 : decide (idxC cs s < 0) = false := by simp; omega
      have HX : Hid ((ns.take (k + 1)).map (idxC cs) = (ns.take k).map (idxC cs) ++ [idxC cs s]) := Lib.hid (by rw [take_snoc hx, List.map_append]; rfl)
      have HI := Lib.hid (indexE A n c cs s wr (HC.out.later hbw) (by omega))
      have HH := Lib.hid fun W (hb : Below w.heap.size w W) => contS (some ⟨b1, o1, none⟩) k d (ns.take k) s W (rD_Str.1 ((rD_Str.2 (HS.out.later hb)).take k (by omega))) (by omega)
      have Q2 := Lib.hid q2
      have hv0 : ∀ j, u6.ownBlock = some j → w.heap.size ≤ j ∧ j < wr.heap.size := HO.out.lt
      have HV0 := Lib.hid hv0
      have i1 : (k : Int) ≤ (d : Int) := by omega
      have i2 : ¬ d = 0 := by omega
      have i3 : k ≤ d := by omega
      clear hc1 hx q1 q2 hbw hv0
      go_wp2_with fail
      refine HI.out.mono ?_
      rintro e w1 ⟨rfl, hb1⟩
      have HB1 := Lib.hid (btr HBW.out hb1)
      have C1 := Lib.hid hb1
      have HH2 : Hid (Calls Tryz.prog 148 #[.slice (some ⟨b1, o1, none⟩) k d, .string s] w1 fun e w' => e = .returned (.bool false) ∧ w1 = w') := Lib.hid (by have h := HH.out w1 HB1.out; rw [Q2.out] at h; exact h)
      clear hb1
      go_wp2_with fail
      refine HH2.out.mono ?_
      rintro e w2 ⟨rfl, rfl⟩
      go_wp2_with (at_builtin; refine wpList_push _ rfl _ _ rfl PI (HO.out.later (C1.out.alloc C1.out.size _)) ⟨_, 0, none⟩ (idxC cs s) (idxC cs s) rfl rfl cell_one rfl (fun p hp => by cases hp) (by omega) (by have := HB1.out.size; simp; omega) ?_; intro v' w' hown' hgrow hat)
      have HBF := Lib.hid (below_push2 (HB1.out.alloc HB1.out.size _) hgrow (fun k e => (HV0.out k e).1))
      have HOF : Hid (ownD kInt w' w.heap.size v' (k + 1) ((ns.take (k + 1)).map (idxC cs))) := Lib.hid (by rw [HX.out]; exact hown')
      clear hown' hgrow hat
      go_wp2
      go_roundw
      case rel => exact ⟨k + 1, by omega, by go_num, HBF.out, HOF⟩
      case measure => simp [intOf]; omega
    · obtain rfl : k = m := by omega
      obtain ⟨vA, vc, hv4, hvc, hrd, _⟩ := HO.out.rd
      have HR : Hid (rInt wr vA k (ns.map (idxC cs))) := Lib.hid (by rw [List.take_of_length_le (by have := LS.out; omega)] at hrd; exact rD_Int.1 hrd)
      subst hv4
      clear hrd
      go_wp2
      go_ret2
      exact ⟨_, _, _, rfl, HR.out, hvc, hbw⟩
end
section
open Go.RowKit Go.BigFrame
set_option linter.unusedSimpArgs false
set_option linter.unusedVariables false

theorem picE (A : Option Addr) (n c : Nat) (l : List Val) (B : Option Addr) (m d : Nat) (is : List Int) (w : World) (h : rVal w A n l) (hi : rInt w B m is) (hn : n ≤ 100000) (hm : m ≤ 100000) :
    Calls Tryz.prog 207 #[.slice A n c, .slice B m d] w (CloR kVal m (pickV (⟨0, 0, ⟨#[]⟩⟩ : Val) l is) w) := by
  have H := Lib.hid (pickE0 A n c l B m d is w h hi hn hm)
  clear h hi
  go_enter Tryz.func207, Tryz.ntmps207
  go_wp2_with fail
  refine H.out.mono ?_
  rintro e w1 ⟨A1, c1, rfl, h1, h2, h3, h4, h5⟩
  have HE := Lib.hid (⟨A1, c1, rfl, h1, h2, h3, h4, h5⟩ : CloR kVal m (pickV (⟨0, 0, ⟨#[]⟩⟩ : Val) l is) w (.returned (.slice A1 m c1)) w1)
  clear h1 h2 h3 h4 h5
  go_wp2
  go_ret
  exact HE.out
end
section
open Go.RowKit Go.BigFrame
set_option linter.unusedSimpArgs false
set_option linter.unusedVariables false

theorem alo_cell {W : World} {b j : Nat} {o : Obj} {u : Option Value} (h : b < W.heap.size) (hu : W.cell? ⟨b, j, none⟩ = u) : (W.alloc o).cell? ⟨b, j, none⟩ = u := by
  rw [World.cell?_alloc_past _ _ _ h]; exact hu
theorem alo_froz {W : World} {b j : Nat} {o : Obj} {u : Bool} (h : b < W.heap.size) (hu : W.frozen? ⟨b, j, none⟩ = u) : (W.alloc o).frozen? ⟨b, j, none⟩ = u := by
  rw [World.frozen?_alloc_past _ _ _ h]; exact hu
theorem new_froz {W : World} {cs : Array Value} {t b j : Nat} (h : b = W.heap.size) : (W.alloc (.cells cs t)).frozen? ⟨b, j, none⟩ = false := by
  subst h
  simp
end
section
open Go.RowKit Go.BigFrame
set_option linter.unusedSimpArgs false
set_option linter.unusedVariables false

theorem valid_zV : validV zV = true := by simp [validV, zV, ByteArray.toList_eq]
theorem own_at2 {α β : Type} {K : Kin α β} {w : World} {B n : Nat} {v : Value} {l l' : List β} (h : ownD K w B v n l) (e : l' = l) : ownD K w B v l'.length l' := by
  subst e
  have := h.len
  rw [this]; exact h
end
section
open Go.RowKit Go.Maps Go.WideMaps
set_option linter.unusedSimpArgs false
set_option linter.unusedVariables false

/-- an element reads as itself -/
def anyE (v : Value) : Option (DataW Value × List MemPlace) := some (.held v, [])
/-- block b is a map of at most n entries that holds f -/
def Mp (P : Program) (k : TypeId) (w : World) (b n : Nat) (f : List UInt8 → Option Value) : Prop :=
  ∃ D : DataW Value, w.ownsMap P k anyE b n D ∧ ∀ s, Maps.has D (.string s) = (f s).isSome ∧ ∀ v, f s = some v → ∀ z, D.atKey (.string s) z = .held v
def setF (f : List UInt8 → Option Value) (s : List UInt8) (v : Value) : List UInt8 → Option Value := fun t => if t = s then some v else f t
section
variable {P : Program} {k e t : TypeId} {w w' : World} {b n : Nat} {f : List UInt8 → Option Value}
theorem Mp.made (w : World) : Mp P k (w.alloc (.map #[] 0)) w.heap.size 0 (fun _ => none) :=
  ⟨.map [], World.ownsMap_made _ _ _ _, fun s => ⟨rfl, fun v h => by cases h⟩⟩
theorem Mp.kept {row : Option Nat} (h : Mp P k w b n f) (hg : w.grownBy w' row) (hne : some b ≠ row) : Mp P k w' b n f := by
  obtain ⟨D, h1, h2⟩ := h
  exact ⟨D, h1.kept hg hne, h2⟩
theorem Mp.alloc (h : Mp P k w b n f) (o : Obj) : Mp P k (w.alloc o) b n f := h.kept (World.grownBy_alloc w o none) (by simp)
theorem Mp.drew (h : Mp P k w b n f) : Mp P k w.drew b n f := h
theorem Mp.lt (h : Mp P k w b n f) : b < w.heap.size := by
  obtain ⟨D, h1, _⟩ := h
  exact h1.lt
theorem Mp.later (h : Mp P k w b n f) (hb : Below w.heap.size w w') : Mp P k w' b n f := by
  have hl := h.lt
  obtain ⟨D, ⟨es, clock, h1, r⟩, h2⟩ := h
  exact ⟨D, ⟨es, clock, (hb.block b hl).trans h1, r⟩, h2⟩
theorem Mp.mono (h : Mp P k w b n f) {m : Nat} (hm : n ≤ m) : Mp P k w b m f := by
  obtain ⟨D, h1, h2⟩ := h
  exact ⟨D, h1.mono hm, h2⟩
theorem mp_at {D : DataW Value} (h2 : ∀ s, Maps.has D (.string s) = (f s).isSome ∧ ∀ v, f s = some v → ∀ z, D.atKey (.string s) z = .held v) (s : List UInt8) {v z : Value} {ps : List MemPlace}
    (hv : anyE v = some (D.atKey (.string s) (.held z), ps)) : v = (f s).getD z := by
  cases hf : f s with
  | none =>
    have := (h2 s).1
    rw [hf] at this
    rw [atKey_of_not_has this] at hv
    simp [anyE] at hv
    exact hv.1
  | some u =>
    rw [(h2 s).2 u hf] at hv
    simp [anyE] at hv
    exact hv.1
theorem Mp.look (h : Mp P k w b n f) (hk : P.underlying k = some .string) (ht : P.underlying t = some (.map k e)) {z : Value} (hz : (zeroValue e).run P w = .ok z w) (s : ByteArray) (hs : s.size ≤ maxLen) :
    (Instr.lookup t (.map (some b)) (.string s) false).run P w = .ok ((f s.data.toList).getD z) w := by
  obtain ⟨D, h1, h2⟩ := h
  obtain ⟨v, ps, hrun, hv⟩ := h1.lookup (string_keyed hk) ht hz (zd := .held z) (zp := []) rfl (keyOf_string_mk hk hs)
  rw [hrun, mp_at h2 _ hv]
theorem Mp.lookOk (h : Mp P k w b n f) (hk : P.underlying k = some .string) (ht : P.underlying t = some (.map k e)) {z : Value} (hz : (zeroValue e).run P w = .ok z w) (s : ByteArray) (hs : s.size ≤ maxLen) :
    (Instr.lookup t (.map (some b)) (.string s) true).run P w = .ok (.tuple #[(f s.data.toList).getD z, .bool (f s.data.toList).isSome]) w := by
  obtain ⟨D, h1, h2⟩ := h
  obtain ⟨v, ps, hrun, hv⟩ := h1.look_ok (string_keyed hk) ht hz (zd := .held z) (zp := []) rfl (keyOf_string_mk hk hs)
  rw [hrun, mp_at h2 _ hv, (h2 s.data.toList).1]
theorem Mp.put (h : Mp P k w b n f) (hk : P.underlying k = some .string) (ht : P.underlying t = some (.map k e)) (hn : n < maxLen) (s : ByteArray) (hs : s.size ≤ maxLen) (v : Value) :
    ∃ w', (Instr.mapUpdate t (.map (some b)) (.string s) v).run P w = .ok () w' ∧ Mp P k w' b (n + 1) (setF f s.data.toList v) ∧ w.grownBy w' (some b) := by
  obtain ⟨D, h1, h2⟩ := h
  obtain ⟨w', hrun, h3, h4⟩ := h1.update (string_keyed hk) ht hn (keyOf_string_mk hk hs) (d := .held v) (ps := []) rfl
  refine ⟨w', hrun, ⟨_, h3, fun t => ?_⟩, h4⟩
  by_cases e : t = s.data.toList
  · subst e
    refine ⟨?_, fun u hu z => ?_⟩
    · rw [has_put_same h1.isMap (show WideAt.IsKeyLit (.string s.data.toList) from trivial)]; simp [setF]
    · simp [setF] at hu
      subst hu
      exact atKey_put_same h1.isMap (show WideAt.IsKeyLit (.string s.data.toList) from trivial) _ _
  · have hne : (Lit.string t) ≠ .string s.data.toList := fun h => e (by simpa using h)
    refine ⟨?_, fun u hu z => ?_⟩
    · rw [has_put_other hne, (h2 t).1]; simp [setF, e]
    · simp [setF, e] at hu
      rw [atKey_put_other hne]
      exact (h2 t).2 u hu z
end

section
variable {P : Program} (w : World) {ops : Array Oper} {rest : List Oper} {o : Oper} {a : Act} {Q : Exit → Act → World → Prop}
end
end
end Go.Proofs.YthcalfeoejdcgaaGreatDoor
