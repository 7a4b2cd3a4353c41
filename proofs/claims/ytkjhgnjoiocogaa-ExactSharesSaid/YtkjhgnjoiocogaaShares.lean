/-
  ExactShares: for every three integers the law returns true: a share is within its own ratio and within wider ones. No conditions.
-/
import Derived.Test.YtkjhgnjoiocogaaFrame
import Derived.Test.YtkjhgnjoiocogaaKnow
namespace Go.Proofs.Ytkjhgnjoiocogaa.lawExactShares
open Go.ChangeShapes Go.WideShapes Go.ChangeAt Go.RowKit
set_option linter.unusedSimpArgs false
set_option linter.unusedVariables false

theorem keep {w1 w2 : World} {a : Addr} {v : Value} (h : w1.cell? a = some v) (hb : Below w1.heap.size w1 w2) : w2.cell? a = some v := by
  have hlt : a.block < w1.heap.size := by
    rcases Nat.lt_or_ge a.block w1.heap.size with h1 | h1
    · exact h1
    · have hn : w1.heap[a.block]? = none := Array.getElem?_eq_none h1
      rw [World.cell?, hn] at h
      cases h
  exact (hb.cell hlt).trans h
theorem bthen {B : Nat} {a b c : World} (h : Below B a b) (hB : B ≤ a.heap.size) (k : Below b.heap.size b c) : Below B a c := h.trans (k.mono (Nat.le_trans hB h.size))
theorem wf_one {p q : Int} (h1 : 0 ≤ p) (h2 : p ≤ 2000) (h3 : 1 ≤ q) (h4 : q ≤ 1024) : wf p q = true := by
  unfold wf; simp; exact ⟨sm_iff.2 (by omega), by omega, by omega⟩
theorem w_own {p q : Int} (h1 : 0 ≤ p) (h2 : p ≤ q) (h3 : 1 ≤ q) (h4 : q ≤ 1024) : wi p q p q p q = true := by
  have hw := wf_one h1 (show p ≤ 2000 by omega) h3 h4
  unfold wi; simp [hw, h1, h2]; omega
theorem w_wide {p q l k : Int} (h1 : 0 ≤ p) (h2 : p ≤ q) (h3 : 1 ≤ q) (h4 : q ≤ 1024) (l1 : 0 ≤ l) (l2 : l ≤ p) (k1 : 0 ≤ k) (k2 : k ≤ 7) : wi p q l q (p + k) q = true := by
  have hw := wf_one l1 (show l ≤ 2000 by omega) h3 h4
  have hw' := wf_one (show 0 ≤ p + k by omega) (show p + k ≤ 2000 by omega) h3 h4
  have m1 := Int.mul_le_mul_of_nonneg_right l2 (show 0 ≤ q by omega)
  have m2 := Int.mul_le_mul_of_nonneg_right (show p ≤ p + k by omega) (show 0 ≤ q by omega)
  unfold wi; simp [hw, hw', h1, h2, m1, m2]; omega
theorem w_cmp {p q l k : Int} (h1 : 0 ≤ p) (h2 : p ≤ q) (h3 : 1 ≤ q) (h4 : q ≤ 1024) (l1 : 0 ≤ l) (l2 : l ≤ p) (k1 : 0 ≤ k) (k2 : k ≤ 7) : cr l q (p + k) q ≤ 0 := by
  have m1 := Int.mul_le_mul_of_nonneg_right (show l ≤ p + k by omega) (show 0 ≤ q by omega)
  unfold cr sg
  split
  · split
    · omega
    · split <;> omega
  · omega
theorem w_wfs {p q l k : Int} (h1 : 0 ≤ p) (h2 : p ≤ q) (h3 : 1 ≤ q) (h4 : q ≤ 1024) (l1 : 0 ≤ l) (l2 : l ≤ p) (k1 : 0 ≤ k) (k2 : k ≤ 7) : (wf l q && wf (p + k) q) = true := by
  have hw := wf_one l1 (show l ≤ 2000 by omega) h3 h4
  have hw' := wf_one (show 0 ≤ p + k by omega) (show p + k ≤ 2000 by omega) h3 h4
  rw [hw, hw']; rfl
theorem w_last {p q k : Int} (h1 : 0 ≤ p) (h2 : p ≤ q) (h3 : 1 ≤ q) (h4 : q ≤ 1024) (k1 : 0 ≤ k) (k2 : k ≤ 7) : wi p q (p + k) q (p + k) q = (k == 0) := by
  have hw' := wf_one (show 0 ≤ p + k by omega) (show p + k ≤ 2000 by omega) h3 h4
  by_cases hk : k = 0
  · subst hk
    rw [show p + 0 = p by omega]
    have := w_own h1 h2 h3 h4
    rw [this]; rfl
  · have m : 1 * q ≤ k * q := Int.mul_le_mul_of_nonneg_right (by omega) (by omega)
    have e : (p + k) * q = p * q + k * q := Int.add_mul _ _ _
    have hn : ¬ (p + k) * q ≤ p * q := by omega
    have hq : ¬ q = 0 := by omega
    have hq' : (q == 0) = false := by simpa using hq
    have hk' : (k == 0) = false := by simpa using hk
    unfold wi; rw [hk', hq']; simp [hn]


set_option maxRecDepth 100000 in
set_option maxHeartbeats 2000000 in
theorem core (a b c p q k l : Int) (hq : q = 1 + b % 1024) (hp : p = a % 1024 % (q + 1)) (hk : k = c % 8) (hl : l = max 0 (p - c / 8 % 8)) (w : World) :
    Calls Try.prog 9 #[.int .i64 a, .int .i64 b, .int .i64 c] w fun e w' => e = .returned (.bool true) ∧ Below w.heap.size w w' := by
  have q1 : 1 ≤ q := by omega
  have q2 : q ≤ 1024 := by omega
  have p1 : 0 ≤ p := by rw [hp]; exact Int.emod_nonneg _ (by omega)
  have p2 : p ≤ q := by have := Int.emod_lt_of_pos (a % 1024) (show 0 < q + 1 by omega); omega
  have k1 : 0 ≤ k := by omega
  have k2 : k ≤ 7 := by omega
  have l1 : 0 ≤ l := by omega
  have l2 : l ≤ p := by omega
  have f1 := w_own p1 p2 q1 q2
  have f2 := w_wide p1 p2 q1 q2 l1 l2 k1 k2
  have f3 := w_cmp p1 p2 q1 q2 l1 l2 k1 k2
  have f4 := w_wfs p1 p2 q1 q2 l1 l2 k1 k2
  have f5 := w_last p1 p2 q1 q2 k1 k2
  have e1 : bits .and .i64 b 1023 + 1 = q := by rw [and1023]; omega
  have e1' : 1 + bits .and .i64 b 1023 = q := by rw [and1023]; omega
  have e2 : bits .and .i64 a 1023 = a % 1024 := and1023 a
  have e3 : a % 1024 % (q + 1) = p := hp.symm
  have e4 : bits .and .i64 c 7 = k := by rw [and7]; exact hk.symm
  have e5 : bits .and .i64 (c / 8) 7 = c / 8 % 8 := and7 _
  have a1 : 0 ≤ a % 1024 := by omega
  have a2 : a % 1024 ≤ 1024 := by omega
  have a3 : 0 ≤ c / 8 % 8 := by omega
  have a4 : c / 8 % 8 ≤ 7 := by omega
  clear hq hp hk
  generalize c / 8 % 8 = s at *
  have HL := Lib.hid hl
  clear hl
  rcases Int.lt_or_le s p with hs | hs
  · obtain rfl : l = p - s := by have := HL.out; omega
    clear HL l1
    go_enter Try.func9, Try.ntmps9
    go_wp2_with fail
    refine (compareE _ _ _ _ _).mono ?_
    rintro e w1 ⟨rfl, hb1⟩
    have c10 := keep (a := ⟨w.heap.size, 0, none⟩) (v := .int .i64 p) (by go_simp) hb1
    have c11 := keep (a := ⟨w.heap.size, 1, none⟩) (v := .int .i64 q) (by go_simp) hb1
    have c12 := keep (a := ⟨w.heap.size + 1, 0, none⟩) (v := .int .i64 (p + k)) (by go_simp) hb1
    have c13 := keep (a := ⟨w.heap.size + 1, 1, none⟩) (v := .int .i64 q) (by go_simp) hb1
    have c14 := keep (a := ⟨w.heap.size + 1 + 1, 0, none⟩) (v := .int .i64 (p - s)) (by go_simp) hb1
    have c15 := keep (a := ⟨w.heap.size + 1 + 1, 1, none⟩) (v := .int .i64 q) (by go_simp) hb1
    have H1 := Lib.hid hb1
    clear hb1
    go_wp2_with fail
    refine (withinE _ _ _ _ _ _ _).mono ?_
    rintro e w2 ⟨rfl, hb2⟩
    have c20 := keep c10 hb2
    have c21 := keep c11 hb2
    have c22 := keep c12 hb2
    have c23 := keep c13 hb2
    have c24 := keep c14 hb2
    have c25 := keep c15 hb2
    have H2 := Lib.hid hb2
    clear hb2 c10 c11 c12 c13 c14 c15
    go_wp2_with fail
    refine (withinE _ _ _ _ _ _ _).mono ?_
    rintro e w3 ⟨rfl, hb3⟩
    have c30 := keep c20 hb3
    have c31 := keep c21 hb3
    have c32 := keep c22 hb3
    have c33 := keep c23 hb3
    have c34 := keep c24 hb3
    have c35 := keep c25 hb3
    have H3 := Lib.hid hb3
    clear hb3 c20 c21 c22 c23 c24 c25
    go_wp2_with fail
    refine (withinE _ _ _ _ _ _ _).mono ?_
    rintro e w4 ⟨rfl, hb4⟩
    have H4 := Lib.hid hb4
    clear hb4 c30 c31 c32 c33 c34 c35
    go_wp2_with fail
    refine (known_any _).mono ?_
    rintro e w5 ⟨rfl, hb5⟩
    have H5 := Lib.hid hb5
    clear hb5
    go_wp2_with fail
    go_ret
    exact ⟨rfl, bthen (bthen (bthen (bthen (bthen (by repeat (first | exact Below.refl _ _ | refine Below.drew ?_ | refine below_drewN ?_ _ | refine Below.setCell ?_ (by simp <;> omega) _ | refine Below.alloc ?_ (by simp <;> omega) _)) (Nat.le_refl _) H1.out) (Nat.le_refl _) H2.out) (Nat.le_refl _) H3.out) (Nat.le_refl _) H4.out) (Nat.le_refl _) H5.out⟩
  · obtain rfl : l = 0 := by have := HL.out; omega
    clear HL l1
    go_enter Try.func9, Try.ntmps9
    go_wp2_with fail
    refine (compareE _ _ _ _ _).mono ?_
    rintro e w1 ⟨rfl, hb1⟩
    have c10 := keep (a := ⟨w.heap.size, 0, none⟩) (v := .int .i64 p) (by go_simp) hb1
    have c11 := keep (a := ⟨w.heap.size, 1, none⟩) (v := .int .i64 q) (by go_simp) hb1
    have c12 := keep (a := ⟨w.heap.size + 1, 0, none⟩) (v := .int .i64 (p + k)) (by go_simp) hb1
    have c13 := keep (a := ⟨w.heap.size + 1, 1, none⟩) (v := .int .i64 q) (by go_simp) hb1
    have c14 := keep (a := ⟨w.heap.size + 1 + 1, 0, none⟩) (v := .int .i64 0) (by go_simp) hb1
    have c15 := keep (a := ⟨w.heap.size + 1 + 1, 1, none⟩) (v := .int .i64 q) (by go_simp) hb1
    have H1 := Lib.hid hb1
    clear hb1
    go_wp2_with fail
    refine (withinE _ _ _ _ _ _ _).mono ?_
    rintro e w2 ⟨rfl, hb2⟩
    have c20 := keep c10 hb2
    have c21 := keep c11 hb2
    have c22 := keep c12 hb2
    have c23 := keep c13 hb2
    have c24 := keep c14 hb2
    have c25 := keep c15 hb2
    have H2 := Lib.hid hb2
    clear hb2 c10 c11 c12 c13 c14 c15
    go_wp2_with fail
    refine (withinE _ _ _ _ _ _ _).mono ?_
    rintro e w3 ⟨rfl, hb3⟩
    have c30 := keep c20 hb3
    have c31 := keep c21 hb3
    have c32 := keep c22 hb3
    have c33 := keep c23 hb3
    have c34 := keep c24 hb3
    have c35 := keep c25 hb3
    have H3 := Lib.hid hb3
    clear hb3 c20 c21 c22 c23 c24 c25
    go_wp2_with fail
    refine (withinE _ _ _ _ _ _ _).mono ?_
    rintro e w4 ⟨rfl, hb4⟩
    have H4 := Lib.hid hb4
    clear hb4 c30 c31 c32 c33 c34 c35
    go_wp2_with fail
    refine (known_any _).mono ?_
    rintro e w5 ⟨rfl, hb5⟩
    have H5 := Lib.hid hb5
    clear hb5
    go_wp2_with fail
    go_ret
    exact ⟨rfl, bthen (bthen (bthen (bthen (bthen (by repeat (first | exact Below.refl _ _ | refine Below.drew ?_ | refine below_drewN ?_ _ | refine Below.setCell ?_ (by simp <;> omega) _ | refine Below.alloc ?_ (by simp <;> omega) _)) (Nat.le_refl _) H1.out) (Nat.le_refl _) H2.out) (Nat.le_refl _) H3.out) (Nat.le_refl _) H4.out) (Nat.le_refl _) H5.out⟩
theorem walk (a0 : Int) (w0 : (Lit.int .i64 a0).wf = true) (a1 : Int) (w1 : (Lit.int .i64 a1).wf = true) (a2 : Int) (w2 : (Lit.int .i64 a2).wf = true) (w : World) :
    Calls Try.prog 9 #[.int .i64 a0, .int .i64 a1, .int .i64 a2] w fun e w' => e = .returned (.bool true) ∧ Below w.heap.size w w' :=
  core a0 a1 a2 _ _ _ _ rfl rfl rfl rfl w


set_option maxRecDepth 100000 in
theorem lifted (os : Os) (started : os.Started) (H : Type) (enc : TypeId × Value → H) :
    ReturnsInHanded {} Try.checked os 9 .any (Rows.exactSharesSpec.pre6 enc Try.prog Try.f9 Rows.exactSharesRow.domain false) (Rows.exactSharesSpec.post enc Try.prog Try.f9 false true false false) := by
  refine returnsInHanded_of_change (C := Try.checked) own started (by kernel_rfl) Try.func9
    (ChangeSpec.witness6 (enc := enc) (C := Try.checked) false ⟨#[], #[.int .i64 0, .int .i64 0, .int .i64 0], []⟩ 8 (by kernel_rfl) (by kernel_rfl) (by kernel_rfl) (by kernel_rfl)) ?_
  intro W base args ds gs before hval0 hW hcnd _
  have hval : ∀ (j : Nat) t v, Try.f9.params[j]? = some t → args[j]? = some v → Value.okWide Try.prog W .any base t v := hval0
  have hW' := hW
  obtain ⟨p, q, hA0, hV, rfl, hfz, hnd⟩ := hW
  have hA : DataW.TrodAll enc Try.prog W 0 (fun _ => true) true Try.f9.params.toList args.toList ds p := hA0
  rw [Try.params9] at hA hval
  obtain ⟨v0, vs0, d0, ds0, p0, q0, hargs, rfl, rfl, h0, r0⟩ := trodAll_cons hA
  obtain ⟨v1, vs1, d1, ds1, p1, q1, rfl, rfl, rfl, h1, r1⟩ := trodAll_cons r0
  obtain ⟨v2, vs2, d2, ds2, p2, q2, rfl, rfl, rfl, h2, r2⟩ := trodAll_cons r1
  obtain ⟨rfl, rfl, rfl⟩ := trodAll_nil r2
  obtain rfl : args = #[v0, v1, v2] := by cases args; simp_all
  obtain ⟨rfl, rfl⟩ := trodVars_none hV
  obtain ⟨a0, rfl, rfl, rfl, w0⟩ := open_int Try.underlying3 (hval 0 3 v0 rfl rfl) h0
  obtain ⟨a1, rfl, rfl, rfl, w1⟩ := open_int Try.underlying3 (hval 1 3 v1 rfl rfl) h1
  obtain ⟨a2, rfl, rfl, rfl, w2⟩ := open_int Try.underlying3 (hval 2 3 v2 rfl rfl) h2
  clear hA0 hval0
  simp only [List.append_nil] at hW'
  refine (walk a0 w0 a1 w1 a2 w2 W).mono fun e W' ⟨he, hb⟩ => ?_
  subst he
  exact ⟨_, rfl, law_post laidOut (by rw [Try.params9]; simp only [List.mem_cons, List.not_mem_nil, or_false, forall_eq_or_imp, forall_eq]; exact ⟨⟨by kernel_rfl, by decide +kernel⟩, ⟨by kernel_rfl, by decide +kernel⟩, ⟨by kernel_rfl, by decide +kernel⟩⟩) rfl rfl Try.underlying4 hW' rfl rfl rfl hb⟩

theorem over : Rows.exactSharesRow.holds Try.pinned (OpenSpec.ofChange Rows.exactSharesSpec) :=
  OpenClaim.holds_of_wide 9 Try.f9 rfl rfl rfl rfl rfl rfl rfl ⟨rfl, rfl, rfl, rfl, rfl⟩ rfl rfl rfl rfl rfl (by kernel_rfl) Try.func9 (by kernel_rfl)
    (of_decide_eq_true (by kernel_rfl)) (by unfold Func.isWrapper; first | (rw [if_pos (by decide +kernel)]; kernel_rfl) | (rw [if_neg (by decide +kernel)]; exact ⟨rfl, rfl⟩))
    (fun os started H enc _ => lifted os started H enc)

theorem proved : Rows.ExactSharesSaid := over
#print axioms proved
end Go.Proofs.Ytkjhgnjoiocogaa.lawExactShares
