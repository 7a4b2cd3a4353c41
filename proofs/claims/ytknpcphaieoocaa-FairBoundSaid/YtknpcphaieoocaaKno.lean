/- The closed example. -/
import Derived.Test.YtknpcphaieoocaaSam
namespace Go.Proofs.Ytknpcphaieoocaa
open Go.RowKit
set_option linter.unusedSimpArgs false
set_option linter.unusedVariables false

theorem tl_mk (l : List UInt8) : (⟨l.toArray⟩ : ByteArray).toList = l := by rw [ByteArray.toList_eq]
def kss : List (ByteArray × Int) := [(⟨#[97]⟩, 2), (⟨#[98]⟩, 1)]
def kts : List Task := [⟨1, ⟨#[]⟩, false, 0, ⟨#[98]⟩, 3, 0, none, 0, 0⟩, ⟨2, ⟨#[]⟩, false, 0, ⟨#[97]⟩, 3, 0, none, 0, 0⟩, ⟨3, ⟨#[]⟩, false, 0, ⟨#[99]⟩, 1, -1, none, 0, 0⟩]
def kus : List (ByteArray × Int) := [(⟨#[97]⟩, 3), (⟨#[98]⟩, 1)]
theorem k_min0 : minT kss [] kts = ⟨2, ⟨#[]⟩, false, 0, ⟨#[97]⟩, 3, 0, none, 0, 0⟩ := by
  simp [minT, kts, pick, ltT, befV, cmpV, orV, usedV, weightV, wtOf, kss, tl_mk, Lib.compareInt, Lib.compareBytes]
theorem k_min1 : minT kss kus kts = ⟨1, ⟨#[]⟩, false, 0, ⟨#[98]⟩, 3, 0, none, 0, 0⟩ := by
  simp [minT, kts, pick, ltT, befV, cmpV, orV, usedV, weightV, wtOf, kss, kus, tl_mk, Lib.compareInt, Lib.compareBytes]
theorem k_ok0 : okV kss [] kts 0 3 = true := by unfold okV; rw [k_min0]; rfl
theorem k_ok1 : okV kss kus kts 0 3 = true := by unfold okV; rw [k_min1]; rfl
theorem k_ok2 : okV kss kus kts 1 3 = false := by unfold okV; rw [k_min1]; rfl
theorem k_ch1 : chargeV [] ⟨#[98]⟩ 1 = [(⟨#[98]⟩, 1)] := by simp [chargeV, hasO, insV]
theorem k_ch2 : chargeV [(⟨#[98]⟩, 1)] ⟨#[97]⟩ 3 = kus := by simp [chargeV, hasO, insV, leqS, tl_mk, Op.bytesLess, kus]
theorem k_wt : weightV kss ⟨#[99]⟩ = 1 := by simp [weightV, kss, tl_mk]
theorem k_us : usedV kus ⟨#[98]⟩ = 1 := by simp [usedV, kus, tl_mk]
theorem k_name (b : UInt8) (hb : 97 ≤ b.toNat ∧ b.toNat ≤ 122) : nameV ⟨#[b]⟩ = true := by
  refine (nameV_yes (s := ⟨#[b]⟩) (show 0 < 1 by decide) (show 1 ≤ 24 by decide) ?_).symm
  intro j hj _
  have h1 : j = 0 := by have : (⟨#[b]⟩ : ByteArray).size = 1 := rfl; omega
  subst h1
  exact okB_yes (.inl hb)
theorem k_valid : validV kss = 0 := by
  have h1 : nameV ⟨#[97]⟩ = true := k_name 97 (by decide)
  have h2 : nameV ⟨#[98]⟩ = true := k_name 98 (by decide)
  simp [validV, kss, fromV, codeV, h1, h2, leqS, tl_mk, Op.bytesLess]

theorem k_trow (w : World) : Trow ((w.alloc (.cells #[.string ⟨#[97]⟩, .int .i64 2, .string ⟨#[98]⟩, .int .i64 1] 51)).alloc (.cells #[.int .i64 1, .string ⟨#[]⟩, .bool false, .int .i64 0, .string ⟨#[98]⟩, .int .i64 3, .int .i64 0, .slice none 0 0, .int .i64 2, .string ⟨#[]⟩, .bool false, .int .i64 0, .string ⟨#[97]⟩, .int .i64 3, .int .i64 0, .slice none 0 0, .int .i64 3, .string ⟨#[]⟩, .bool false, .int .i64 0, .string ⟨#[99]⟩, .int .i64 1, .int .i64 (-1), .slice none 0 0] 41)) (some ⟨w.heap.size + 1, 0, none⟩) 3 kts := by
  refine ⟨rfl, fun _ => ⟨w.heap.size + 1, 0, rfl, fun j t ht => ?_⟩⟩
  have hj : j < 3 := (List.getElem?_eq_some_iff.1 ht).1
  match j, hj with
  | 0, _ => simp [kts] at ht; subst ht; unfold Tcells; simp
  | 1, _ => simp [kts] at ht; subst ht; unfold Tcells; simp
  | 2, _ => simp [kts] at ht; subst ht; unfold Tcells; simp
theorem k_prow (w : World) : Prow ((w.alloc (.cells #[.string ⟨#[97]⟩, .int .i64 2, .string ⟨#[98]⟩, .int .i64 1] 51)).alloc (.cells #[.int .i64 1, .string ⟨#[]⟩, .bool false, .int .i64 0, .string ⟨#[98]⟩, .int .i64 3, .int .i64 0, .slice none 0 0, .int .i64 2, .string ⟨#[]⟩, .bool false, .int .i64 0, .string ⟨#[97]⟩, .int .i64 3, .int .i64 0, .slice none 0 0, .int .i64 3, .string ⟨#[]⟩, .bool false, .int .i64 0, .string ⟨#[99]⟩, .int .i64 1, .int .i64 (-1), .slice none 0 0] 41)) (some ⟨w.heap.size, 0, none⟩) 2 kss := by
  refine ⟨rfl, fun _ => ⟨w.heap.size, 0, rfl, fun j t ht => ?_⟩⟩
  have hj : j < 2 := (List.getElem?_eq_some_iff.1 ht).1
  match j, hj with
  | 0, _ => simp [kss] at ht; subst ht; simp
  | 1, _ => simp [kss] at ht; subst ht; simp
theorem k_below (w : World) : Below w.heap.size w ((w.alloc (.cells #[.string ⟨#[97]⟩, .int .i64 2, .string ⟨#[98]⟩, .int .i64 1] 51)).alloc (.cells #[.int .i64 1, .string ⟨#[]⟩, .bool false, .int .i64 0, .string ⟨#[98]⟩, .int .i64 3, .int .i64 0, .slice none 0 0, .int .i64 2, .string ⟨#[]⟩, .bool false, .int .i64 0, .string ⟨#[97]⟩, .int .i64 3, .int .i64 0, .slice none 0 0, .int .i64 3, .string ⟨#[]⟩, .bool false, .int .i64 0, .string ⟨#[99]⟩, .int .i64 1, .int .i64 (-1), .slice none 0 0] 41)) := ((Below.refl _ w).alloc (Nat.le_refl _) _).alloc (by simp) _
theorem k_needs : ∀ (w : World), ∀ t ∈ kts, needsOk w t := by
  intro w t ht
  simp only [kts, List.mem_cons, List.not_mem_nil, or_false] at ht
  rcases ht with rfl | rfl | rfl <;> exact ⟨⟨[], Nrow.nil w⟩, by decide, by decide, fun _ => rfl⟩
theorem k_smallE : smallU [] := fun x h => by simp at h
theorem k_small : smallU kus := fun x h => by
  simp only [kus, List.mem_cons, List.not_mem_nil, or_false] at h
  rcases h with rfl | rfl <;> decide
theorem k_next0 {W w' : World} {e : Ending} (h : NextR kss [] kts 0 3 W e w') : ∃ na nc, e = .returned (.tuple #[.agg #[.int .i64 2, .string ⟨#[]⟩, .bool false, .int .i64 0, .string ⟨#[97]⟩, .int .i64 3, .int .i64 0, .slice na 0 nc], .bool true]) ∧ Below W.heap.size W w' := by
  obtain ⟨hb, ⟨h1, _⟩ | ⟨_, na, nc, he, _⟩⟩ := h
  · rw [k_ok0] at h1; cases h1
  · rw [k_min0] at he; exact ⟨na, nc, he, hb⟩
theorem k_next1 {W w' : World} {e : Ending} (h : NextR kss kus kts 0 3 W e w') : ∃ na nc, e = .returned (.tuple #[.agg #[.int .i64 1, .string ⟨#[]⟩, .bool false, .int .i64 0, .string ⟨#[98]⟩, .int .i64 3, .int .i64 0, .slice na 0 nc], .bool true]) ∧ Below W.heap.size W w' := by
  obtain ⟨hb, ⟨h1, _⟩ | ⟨_, na, nc, he, _⟩⟩ := h
  · rw [k_ok1] at h1; cases h1
  · rw [k_min1] at he; exact ⟨na, nc, he, hb⟩
theorem k_next2 {W w' : World} {e : Ending} (h : NextR kss kus kts 1 3 W e w') : e = .returned (.tuple #[.agg #[.int .i64 0, .string ⟨#[]⟩, .bool false, .int .i64 0, .string ⟨#[]⟩, .int .i64 0, .int .i64 0, .slice none 0 0], .bool false]) ∧ Below W.heap.size W w' := by
  obtain ⟨hb, ⟨_, he⟩ | ⟨h1, _⟩⟩ := h
  · exact ⟨he, hb⟩
  · rw [k_ok2] at h1; cases h1
theorem k_c1 {W w' : World} {e : Ending} (h : ChargeR [] ⟨#[98]⟩ 1 W e w') : ∃ A cc, e = .returned (.slice A 1 cc) ∧ Prow w' A 1 [(⟨#[98]⟩, 1)] ∧ Below W.heap.size W w' := by
  obtain ⟨A, cc, he, hr, hb⟩ := h
  rw [k_ch1] at he hr
  exact ⟨A, cc, he, hr, hb⟩
theorem k_c2 {W w' : World} {e : Ending} (h : ChargeR [(⟨#[98]⟩, 1)] ⟨#[97]⟩ 3 W e w') : ∃ b off cc, e = .returned (.slice (some ⟨b, off, none⟩) 2 cc) ∧ Prow w' (some ⟨b, off, none⟩) 2 kus ∧ w'.cell? ⟨b, off, none⟩ = some (.string ⟨#[97]⟩) ∧ Below W.heap.size W w' := by
  obtain ⟨A, cc, he, hr, hb⟩ := h
  rw [k_ch2] at he hr
  obtain ⟨b, off, rfl, hc⟩ := hr.2 (by decide)
  exact ⟨b, off, cc, he, hr, by have := (hc 0 _ rfl).1; simpa using this, hb⟩

set_option maxRecDepth 100000 in
set_option maxHeartbeats 4000000 in
theorem knownE (w : World) : Calls Try.prog 9 #[] w fun e w' => e = .returned (.bool true) ∧ Below w.heap.size w w' := by
  have F1 := k_trow w
  have F2 := k_prow w
  have F3 := k_below w
  go_enter Try.func9, Try.ntmps9
  go_wp2_with fail
  generalize (w.alloc (.cells #[.string ⟨#[97]⟩, .int .i64 2, .string ⟨#[98]⟩, .int .i64 1] 51)).alloc (.cells #[.int .i64 1, .string ⟨#[]⟩, .bool false, .int .i64 0, .string ⟨#[98]⟩, .int .i64 3, .int .i64 0, .slice none 0 0, .int .i64 2, .string ⟨#[]⟩, .bool false, .int .i64 0, .string ⟨#[97]⟩, .int .i64 3, .int .i64 0, .slice none 0 0, .int .i64 3, .string ⟨#[]⟩, .bool false, .int .i64 0, .string ⟨#[99]⟩, .int .i64 1, .int .i64 (-1), .slice none 0 0] 41) = W0 at F1 F2 F3 ⊢
  refine (nextE _ 3 3 kts 0 3 none _ 0 0 2 2 [] kss W0 F1 (by decide) (k_needs W0) (by decide) (by decide) (Prow.nil _) F2 (by decide) (by decide) k_smallE).mono ?_
  rintro e w1 h1
  obtain ⟨na, nc, rfl, hb1⟩ := k_next0 h1
  have HB := Lib.hid (bthen F3 (Nat.le_refl _) hb1)
  have HT := Lib.hid (F1.later hb1)
  have HS := Lib.hid (F2.later hb1)
  clear h1 hb1 F1 F2 F3
  have HB := Lib.hid (HB.out.alloc HB.out.size (.cells #[.int .i64 2, .string ⟨#[]⟩, .bool false, .int .i64 0, .string ⟨#[97]⟩, .int .i64 3, .int .i64 0, .slice na 0 nc] 41))
  have HT := Lib.hid (HT.out.later ((Below.refl _ _).alloc (Nat.le_refl _) (.cells #[.int .i64 2, .string ⟨#[]⟩, .bool false, .int .i64 0, .string ⟨#[97]⟩, .int .i64 3, .int .i64 0, .slice na 0 nc] 41)))
  have HS := Lib.hid (HS.out.later ((Below.refl _ _).alloc (Nat.le_refl _) (.cells #[.int .i64 2, .string ⟨#[]⟩, .bool false, .int .i64 0, .string ⟨#[97]⟩, .int .i64 3, .int .i64 0, .slice na 0 nc] 41)))
  have q3 : (w1.alloc (.cells #[.int .i64 2, .string ⟨#[]⟩, .bool false, .int .i64 0, .string ⟨#[97]⟩, .int .i64 3, .int .i64 0, .slice na 0 nc] 41)).cell? ⟨w1.heap.size, 0, none⟩ = some (.int .i64 2) := by simp
  go_wp2_with fail
  generalize w1.alloc (.cells #[.int .i64 2, .string ⟨#[]⟩, .bool false, .int .i64 0, .string ⟨#[97]⟩, .int .i64 3, .int .i64 0, .slice na 0 nc] 41) = W2 at HB HT HS q3 ⊢
  refine (chargeE none 0 0 [] ⟨#[98]⟩ 1 W2 (Prow.nil _) (by decide)).mono ?_
  rintro e w3 h3
  obtain ⟨A3, cc3, rfl, hr3, hb3⟩ := k_c1 h3
  have HB := Lib.hid (bthen HB.out (Nat.le_refl _) hb3)
  have HT := Lib.hid (HT.out.later hb3)
  have HS := Lib.hid (HS.out.later hb3)
  have q3 := cell_later hb3 q3
  clear h3 hb3
  have HR := Lib.hid hr3
  clear hr3
  go_wp2_with fail
  refine (chargeE A3 1 cc3 [(⟨#[98]⟩, 1)] ⟨#[97]⟩ 3 w3 HR.out (by decide)).mono ?_
  rintro e w4 h4
  obtain ⟨b, off, cc4, rfl, hr4, q5, hb4⟩ := k_c2 h4
  have HB := Lib.hid (bthen HB.out (Nat.le_refl _) hb4)
  have HT := Lib.hid (HT.out.later hb4)
  have HS := Lib.hid (HS.out.later hb4)
  have q3 := cell_later hb4 q3
  clear h4 hb4 HR
  have HU := Lib.hid hr4
  clear hr4
  go_wp2_with fail
  refine (nextE _ 3 3 kts 0 3 _ _ 2 _ 2 2 kus kss w4 HT.out (by decide) (k_needs _) (by decide) (by decide) HU.out HS.out (by decide) (by decide) k_small).mono ?_
  rintro e w5 h5
  obtain ⟨na5, nc5, rfl, hb5⟩ := k_next1 h5
  have HB := Lib.hid (bthen HB.out (Nat.le_refl _) hb5)
  have HT := Lib.hid (HT.out.later hb5)
  have HS := Lib.hid (HS.out.later hb5)
  have q3 := cell_later hb5 q3
  have q5 := cell_later hb5 q5
  have HU := Lib.hid (HU.out.later hb5)
  clear h5 hb5
  have HB := Lib.hid (HB.out.alloc HB.out.size (.cells #[.int .i64 1, .string ⟨#[]⟩, .bool false, .int .i64 0, .string ⟨#[98]⟩, .int .i64 3, .int .i64 0, .slice na5 0 nc5] 41))
  have HT := Lib.hid (HT.out.later ((Below.refl _ _).alloc (Nat.le_refl _) (.cells #[.int .i64 1, .string ⟨#[]⟩, .bool false, .int .i64 0, .string ⟨#[98]⟩, .int .i64 3, .int .i64 0, .slice na5 0 nc5] 41)))
  have HS := Lib.hid (HS.out.later ((Below.refl _ _).alloc (Nat.le_refl _) (.cells #[.int .i64 1, .string ⟨#[]⟩, .bool false, .int .i64 0, .string ⟨#[98]⟩, .int .i64 3, .int .i64 0, .slice na5 0 nc5] 41)))
  have q6 : (w5.alloc (.cells #[.int .i64 1, .string ⟨#[]⟩, .bool false, .int .i64 0, .string ⟨#[98]⟩, .int .i64 3, .int .i64 0, .slice na5 0 nc5] 41)).cell? ⟨w5.heap.size, 0, none⟩ = some (.int .i64 1) := by simp
  have HU := Lib.hid (HU.out.later ((Below.refl _ _).alloc (Nat.le_refl _) (.cells #[.int .i64 1, .string ⟨#[]⟩, .bool false, .int .i64 0, .string ⟨#[98]⟩, .int .i64 3, .int .i64 0, .slice na5 0 nc5] 41)))
  have q3 := cell_later ((Below.refl _ _).alloc (Nat.le_refl _) (.cells #[.int .i64 1, .string ⟨#[]⟩, .bool false, .int .i64 0, .string ⟨#[98]⟩, .int .i64 3, .int .i64 0, .slice na5 0 nc5] 41)) q3
  have q5 := cell_later ((Below.refl _ _).alloc (Nat.le_refl _) (.cells #[.int .i64 1, .string ⟨#[]⟩, .bool false, .int .i64 0, .string ⟨#[98]⟩, .int .i64 3, .int .i64 0, .slice na5 0 nc5] 41)) q5
  go_wp2_with fail
  generalize w5.alloc (.cells #[.int .i64 1, .string ⟨#[]⟩, .bool false, .int .i64 0, .string ⟨#[98]⟩, .int .i64 3, .int .i64 0, .slice na5 0 nc5] 41) = W6 at HB HT HS HU q3 q5 q6 ⊢
  refine (nextE _ 3 3 kts 1 3 _ _ 2 _ 2 2 kus kss W6 HT.out (by decide) (k_needs _) (by decide) (by decide) HU.out HS.out (by decide) (by decide) k_small).mono ?_
  rintro e w7 h7
  obtain ⟨rfl, hb7⟩ := k_next2 h7
  have HB := Lib.hid (bthen HB.out (Nat.le_refl _) hb7)
  have HT := Lib.hid (HT.out.later hb7)
  have HS := Lib.hid (HS.out.later hb7)
  have q3 := cell_later hb7 q3
  have q5 := cell_later hb7 q5
  have q6 := cell_later hb7 q6
  have HU := Lib.hid (HU.out.later hb7)
  clear h7 hb7
  have HB := Lib.hid (HB.out.alloc HB.out.size (.cells #[.int .i64 0, .string ⟨#[]⟩, .bool false, .int .i64 0, .string ⟨#[]⟩, .int .i64 0, .int .i64 0, .slice none 0 0] 41))
  have HT := Lib.hid (HT.out.later ((Below.refl _ _).alloc (Nat.le_refl _) (.cells #[.int .i64 0, .string ⟨#[]⟩, .bool false, .int .i64 0, .string ⟨#[]⟩, .int .i64 0, .int .i64 0, .slice none 0 0] 41)))
  have HS := Lib.hid (HS.out.later ((Below.refl _ _).alloc (Nat.le_refl _) (.cells #[.int .i64 0, .string ⟨#[]⟩, .bool false, .int .i64 0, .string ⟨#[]⟩, .int .i64 0, .int .i64 0, .slice none 0 0] 41)))
  have q9 : (w7.alloc (.cells #[.int .i64 0, .string ⟨#[]⟩, .bool false, .int .i64 0, .string ⟨#[]⟩, .int .i64 0, .int .i64 0, .slice none 0 0] 41)).cell? ⟨w7.heap.size, 0, none⟩ = some (.int .i64 0) := by simp
  have HU := Lib.hid (HU.out.later ((Below.refl _ _).alloc (Nat.le_refl _) (.cells #[.int .i64 0, .string ⟨#[]⟩, .bool false, .int .i64 0, .string ⟨#[]⟩, .int .i64 0, .int .i64 0, .slice none 0 0] 41)))
  have q3 := cell_later ((Below.refl _ _).alloc (Nat.le_refl _) (.cells #[.int .i64 0, .string ⟨#[]⟩, .bool false, .int .i64 0, .string ⟨#[]⟩, .int .i64 0, .int .i64 0, .slice none 0 0] 41)) q3
  have q5 := cell_later ((Below.refl _ _).alloc (Nat.le_refl _) (.cells #[.int .i64 0, .string ⟨#[]⟩, .bool false, .int .i64 0, .string ⟨#[]⟩, .int .i64 0, .int .i64 0, .slice none 0 0] 41)) q5
  have q6 := cell_later ((Below.refl _ _).alloc (Nat.le_refl _) (.cells #[.int .i64 0, .string ⟨#[]⟩, .bool false, .int .i64 0, .string ⟨#[]⟩, .int .i64 0, .int .i64 0, .slice none 0 0] 41)) q6
  go_wp2_with fail
  generalize w7.alloc (.cells #[.int .i64 0, .string ⟨#[]⟩, .bool false, .int .i64 0, .string ⟨#[]⟩, .int .i64 0, .int .i64 0, .slice none 0 0] 41) = W8 at HB HT HS HU q3 q5 q6 q9 ⊢
  refine (validE _ 2 2 kss W8 HS.out (by decide)).mono ?_
  rintro e w9 ⟨rfl, hb9⟩
  rw [k_valid]
  have HB := Lib.hid (bthen HB.out (Nat.le_refl _) hb9)
  have HT := Lib.hid (HT.out.later hb9)
  have HS := Lib.hid (HS.out.later hb9)
  have q3 := cell_later hb9 q3
  have q5 := cell_later hb9 q5
  have q6 := cell_later hb9 q6
  have HU := Lib.hid (HU.out.later hb9)
  clear hb9
  go_wp2_with fail
  refine (weightE _ 2 2 kss ⟨#[99]⟩ w9 HS.out (by decide)).mono ?_
  rintro e w10 ⟨rfl, hb10⟩
  rw [k_wt]
  have HB := Lib.hid (bthen HB.out (Nat.le_refl _) hb10)
  have HT := Lib.hid (HT.out.later hb10)
  have HS := Lib.hid (HS.out.later hb10)
  have HU := Lib.hid (HU.out.later hb10)
  clear hb10
  go_wp2_with fail
  refine (usedE _ 2 _ kus ⟨#[98]⟩ w10 HU.out (by decide)).mono ?_
  rintro e w11 ⟨rfl, hb11⟩
  rw [k_us]
  have HB := Lib.hid (bthen HB.out (Nat.le_refl _) hb11)
  clear hb11
  go_wp2
  go_ret
  exact ⟨rfl, HB.out⟩
end Go.Proofs.Ytknpcphaieoocaa
