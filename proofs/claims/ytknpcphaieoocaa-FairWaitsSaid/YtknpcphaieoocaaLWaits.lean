/-
  FairWaits: for every list of numbers and every number the law returns true: a task that does not fit is waited for, and the choice does not depend on the capacity. No conditions.
-/
import Derived.Test.YtknpcphaieoocaaArg
namespace Go.Proofs.Ytknpcphaieoocaa.lawFairWaits
open Go.ChangeShapes Go.WideShapes Go.ChangeAt Go.RowKit
set_option linter.unusedSimpArgs false
set_option linter.unusedVariables false
theorem ok16 {ss us : List (ByteArray × Int)} {ts : List Task} (hg : ∀ t ∈ ts, goodT t) : okV ss us ts 0 16 = !ts.isEmpty := by
  cases ts with
  | nil => rfl
  | cons t l =>
    have := (hg _ (minT_mem ss us (List.cons_ne_nil t l))).2.2.2.2.1
    unfold okV
    simp
    omega

set_option maxRecDepth 100000 in
set_option maxHeartbeats 4000000 in
theorem core (A : Option Addr) (n c : Nat) (zs : List Int) (a1 : Int) (W : World) (hI : Irow W A n zs) (h1 : -9223372036854775808 ≤ a1 ∧ a1 ≤ 9223372036854775807) :
    Calls Try.prog 7 #[.slice A n c, .int .i64 a1] W fun e w' => e = .returned (.bool true) ∧ Below W.heap.size W w' := by
  obtain ⟨hr, hbd, hA⟩ := hI
  by_cases hn : n ≤ 100
  · have HM := Lib.hid (madeE A n c zs W (by omega) hr hbd hA)
    have HPL := Lib.hid (fun w => placeE a1 18 w (by omega) (by omega) h1)
    have HPB := Lib.hid (placeV_bd a1 18 (by omega))
    generalize placeV a1 18 = r at HPL HPB
    have hp0 := HPB.out.1
    have hp1 := HPB.out.2
    clear hr hbd hA h1
    go_enter Try.func7, Try.ntmps7
    go_wp2_with fail
    refine HM.out.mono ?_
    rintro e w1 hmd
    obtain ⟨A1, A2, A3, c1, c2, c3, g, N, M, K, ts, ss, us, rfl, hb1, hT, hS, hU, _, l1, l2, l3, hgd, hsm, _⟩ := madeN hmd
    clear hmd
    have HLN := Lib.hid hT.1
    have HE : Hid (ts = [] ∨ ∃ t l, ts = t :: l) := Lib.hid (by cases ts; exact .inl rfl; exact .inr ⟨_, _, rfl⟩)
    have HGD := Lib.hid hgd
    have HSM := Lib.hid hsm
    have HB := Lib.hid hb1
    have HT := Lib.hid hT
    have HS := Lib.hid hS
    have HU := Lib.hid hU
    have HNN : Hid (okV ss us ts 0 16 = !ts.isEmpty) := Lib.hid (ok16 hgd)
    have HL1 := Lib.hid l1
    have HL2 := Lib.hid l2
    have HL3 := Lib.hid l3
    clear hgd hsm hb1 hT hS hU l1 l2 l3 HM
    go_wp2_with fail
    refine (nextE A1 N c1 ts 0 16 A3 A2 K c3 M c2 us ss w1 HT.out (by have := HL1.out; omega) (good_needs HGD.out w1) (by omega) (by omega) HU.out HS.out (by have := HL3.out; omega) (by have := HL2.out; omega) HSM.out).mono ?_
    rintro e w2 h2
    obtain ⟨hb2, h2⟩ := next_made HGD.out h2
    have HB := Lib.hid (bthen HB.out (Nat.le_refl _) hb2)
    have HT := Lib.hid (HT.out.later hb2)
    have HS := Lib.hid (HS.out.later hb2)
    have HU := Lib.hid (HU.out.later hb2)
    clear hb2
    rcases HE.out with rfl | ⟨t0, l0, rfl⟩
    · rcases h2 with ⟨_, rfl⟩ | ⟨h3, _⟩
      · have hN0 : 0 = N := HLN.out
        clear HNN HE
        subst hN0
        rw [show zTask.val = .agg #[.int .i64 0, .string ⟨#[]⟩, .bool false, .int .i64 0, .string ⟨#[]⟩, .int .i64 0, .int .i64 0, .slice none 0 0] from rfl]
        generalize hts : ([] : List Task) = ts at *
        have b2 : Below w2.heap.size w2 (w2.alloc (.cells #[.int .i64 0, .string ⟨#[]⟩, .bool false, .int .i64 0, .string ⟨#[]⟩, .int .i64 0, .int .i64 0, .slice none 0 0] 41)) := (Below.refl _ _).alloc (Nat.le_refl _) _
        have p0 : (w2.alloc (.cells #[.int .i64 0, .string ⟨#[]⟩, .bool false, .int .i64 0, .string ⟨#[]⟩, .int .i64 0, .int .i64 0, .slice none 0 0] 41)).cell? ⟨w2.heap.size, 0, none⟩ = some (.int .i64 0) := by simp
        have p1 : (w2.alloc (.cells #[.int .i64 0, .string ⟨#[]⟩, .bool false, .int .i64 0, .string ⟨#[]⟩, .int .i64 0, .int .i64 0, .slice none 0 0] 41)).cell? ⟨w2.heap.size, 1, none⟩ = some (.string ⟨#[]⟩) := by simp
        have p2 : (w2.alloc (.cells #[.int .i64 0, .string ⟨#[]⟩, .bool false, .int .i64 0, .string ⟨#[]⟩, .int .i64 0, .int .i64 0, .slice none 0 0] 41)).cell? ⟨w2.heap.size, 2, none⟩ = some (.bool false) := by simp
        have p3 : (w2.alloc (.cells #[.int .i64 0, .string ⟨#[]⟩, .bool false, .int .i64 0, .string ⟨#[]⟩, .int .i64 0, .int .i64 0, .slice none 0 0] 41)).cell? ⟨w2.heap.size, 3, none⟩ = some (.int .i64 0) := by simp
        have p4 : (w2.alloc (.cells #[.int .i64 0, .string ⟨#[]⟩, .bool false, .int .i64 0, .string ⟨#[]⟩, .int .i64 0, .int .i64 0, .slice none 0 0] 41)).cell? ⟨w2.heap.size, 4, none⟩ = some (.string ⟨#[]⟩) := by simp
        have p5 : (w2.alloc (.cells #[.int .i64 0, .string ⟨#[]⟩, .bool false, .int .i64 0, .string ⟨#[]⟩, .int .i64 0, .int .i64 0, .slice none 0 0] 41)).cell? ⟨w2.heap.size, 5, none⟩ = some (.int .i64 0) := by simp
        have p6 : (w2.alloc (.cells #[.int .i64 0, .string ⟨#[]⟩, .bool false, .int .i64 0, .string ⟨#[]⟩, .int .i64 0, .int .i64 0, .slice none 0 0] 41)).cell? ⟨w2.heap.size, 6, none⟩ = some (.int .i64 0) := by simp
        have p7 : (w2.alloc (.cells #[.int .i64 0, .string ⟨#[]⟩, .bool false, .int .i64 0, .string ⟨#[]⟩, .int .i64 0, .int .i64 0, .slice none 0 0] 41)).cell? ⟨w2.heap.size, 7, none⟩ = some (.slice none 0 0) := by simp
        have HB := Lib.hid (bthen HB.out (Nat.le_refl _) b2)
        have HT := Lib.hid (HT.out.later b2)
        have HS := Lib.hid (HS.out.later b2)
        have HU := Lib.hid (HU.out.later b2)
        clear b2
        go_wp2_with (go_at_call 25; refine (HPL.out _).mono ?_; rintro e w' ⟨rfl, rfl⟩)
        generalize w2.alloc (.cells #[.int .i64 0, .string ⟨#[]⟩, .bool false, .int .i64 0, .string ⟨#[]⟩, .int .i64 0, .int .i64 0, .slice none 0 0] 41) = w3 at p0 p1 p2 p3 p4 p5 p6 p7 HB HT HS HU ⊢
        refine (nextE A1 0 c1 ts r 16 A3 A2 K c3 M c2 us ss w3 HT.out (by have := HL1.out; omega) (good_needs HGD.out w3) (by omega) (by omega) HU.out HS.out (by have := HL3.out; omega) (by have := HL2.out; omega) HSM.out).mono ?_
        rintro e w4 h4
        obtain ⟨hb4, h4⟩ := next_made HGD.out h4
        have HB := Lib.hid (bthen HB.out (Nat.le_refl _) hb4)
        have p0 := cell_later hb4 p0
        have p1 := cell_later hb4 p1
        have p2 := cell_later hb4 p2
        have p3 := cell_later hb4 p3
        have p4 := cell_later hb4 p4
        have p5 := cell_later hb4 p5
        have p6 := cell_later hb4 p6
        have p7 := cell_later hb4 p7
        clear hb4 HT HS HU
        subst hts
        rcases h4 with ⟨_, rfl⟩ | ⟨h3, _⟩
        · rw [show zTask.val = .agg #[.int .i64 0, .string ⟨#[]⟩, .bool false, .int .i64 0, .string ⟨#[]⟩, .int .i64 0, .int .i64 0, .slice none 0 0] from rfl]
          have b4 : Below w4.heap.size w4 (w4.alloc (.cells #[.int .i64 0, .string ⟨#[]⟩, .bool false, .int .i64 0, .string ⟨#[]⟩, .int .i64 0, .int .i64 0, .slice none 0 0] 41)) := (Below.refl _ _).alloc (Nat.le_refl _) _
          have q0 : (w4.alloc (.cells #[.int .i64 0, .string ⟨#[]⟩, .bool false, .int .i64 0, .string ⟨#[]⟩, .int .i64 0, .int .i64 0, .slice none 0 0] 41)).cell? ⟨w4.heap.size, 0, none⟩ = some (.int .i64 0) := by simp
          have q1 : (w4.alloc (.cells #[.int .i64 0, .string ⟨#[]⟩, .bool false, .int .i64 0, .string ⟨#[]⟩, .int .i64 0, .int .i64 0, .slice none 0 0] 41)).cell? ⟨w4.heap.size, 1, none⟩ = some (.string ⟨#[]⟩) := by simp
          have q2 : (w4.alloc (.cells #[.int .i64 0, .string ⟨#[]⟩, .bool false, .int .i64 0, .string ⟨#[]⟩, .int .i64 0, .int .i64 0, .slice none 0 0] 41)).cell? ⟨w4.heap.size, 2, none⟩ = some (.bool false) := by simp
          have q3 : (w4.alloc (.cells #[.int .i64 0, .string ⟨#[]⟩, .bool false, .int .i64 0, .string ⟨#[]⟩, .int .i64 0, .int .i64 0, .slice none 0 0] 41)).cell? ⟨w4.heap.size, 3, none⟩ = some (.int .i64 0) := by simp
          have q4 : (w4.alloc (.cells #[.int .i64 0, .string ⟨#[]⟩, .bool false, .int .i64 0, .string ⟨#[]⟩, .int .i64 0, .int .i64 0, .slice none 0 0] 41)).cell? ⟨w4.heap.size, 4, none⟩ = some (.string ⟨#[]⟩) := by simp
          have q5 : (w4.alloc (.cells #[.int .i64 0, .string ⟨#[]⟩, .bool false, .int .i64 0, .string ⟨#[]⟩, .int .i64 0, .int .i64 0, .slice none 0 0] 41)).cell? ⟨w4.heap.size, 5, none⟩ = some (.int .i64 0) := by simp
          have q6 : (w4.alloc (.cells #[.int .i64 0, .string ⟨#[]⟩, .bool false, .int .i64 0, .string ⟨#[]⟩, .int .i64 0, .int .i64 0, .slice none 0 0] 41)).cell? ⟨w4.heap.size, 6, none⟩ = some (.int .i64 0) := by simp
          have q7 : (w4.alloc (.cells #[.int .i64 0, .string ⟨#[]⟩, .bool false, .int .i64 0, .string ⟨#[]⟩, .int .i64 0, .int .i64 0, .slice none 0 0] 41)).cell? ⟨w4.heap.size, 7, none⟩ = some (.slice none 0 0) := by simp
          have p0 := cell_later b4 p0
          have p1 := cell_later b4 p1
          have p2 := cell_later b4 p2
          have p3 := cell_later b4 p3
          have p4 := cell_later b4 p4
          have p5 := cell_later b4 p5
          have p6 := cell_later b4 p6
          have p7 := cell_later b4 p7
          have HB := Lib.hid (bthen HB.out (Nat.le_refl _) b4)
          clear b4
          go_wp2_with (first | (go_at_call 23; refine (sameT zTask none 0 [] _ (nrow0 _ _) (nrow0 _ _) (by decide)).mono ?_; rintro e w8 ⟨rfl, hb8⟩; have HB := Lib.hid (bthen HB.out (Nat.le_refl _) hb8); clear hb8) | (go_at_call 9; refine (knownE _).mono ?_; rintro e w9 ⟨rfl, hb9⟩; have HB9 := Lib.hid (bthen HB.out (Nat.le_refl _) hb9); clear hb9))
          go_ret
          first | exact ⟨rfl, HB9.out⟩ | exact ⟨ret_bool (by rw [HF.out]; rfl), HB9.out⟩
        · cases h3
      · cases h3
    · rcases h2 with ⟨h3, _⟩ | ⟨_, na, nc, rfl⟩
      · rw [HNN.out] at h3; cases h3
      · clear HNN HE
        obtain ⟨m, hm⟩ : ∃ m, minT ss us (t0 :: l0) = m := ⟨_, rfl⟩
        have HOK : Hid (okV ss us (t0 :: l0) r 16 = decide (r + m.cost ≤ 16)) := Lib.hid (by rw [← hm]; rfl)
        have HC : Hid (1 ≤ m.cost ∧ m.cost ≤ 16) := Lib.hid (by rw [← hm]; have := HGD.out _ (minT_mem ss us (List.cons_ne_nil t0 l0)); exact ⟨this.2.2.2.1, this.2.2.2.2.1⟩)
        rw [hm]
        have HM := Lib.hid hm
        clear hm
        obtain ⟨i, rl, al, dy, o, co, p, na0, nn0, nc0⟩ := m
        dsimp only [Task.val]
        dsimp only at HOK HC
        have hc0 := HC.out.1
        have hc1 := HC.out.2
        have hlen : 0 < N := by rw [← HLN.out]; simp
        generalize hts : (t0 :: l0) = ts at *
        clear hts
        have b2 : Below w2.heap.size w2 (w2.alloc (.cells #[.int .i64 i, .string rl, .bool al, .int .i64 dy, .string o, .int .i64 co, .int .i64 p, .slice na 0 nc] 41)) := (Below.refl _ _).alloc (Nat.le_refl _) _
        have p0 : (w2.alloc (.cells #[.int .i64 i, .string rl, .bool al, .int .i64 dy, .string o, .int .i64 co, .int .i64 p, .slice na 0 nc] 41)).cell? ⟨w2.heap.size, 0, none⟩ = some (.int .i64 i) := by simp
        have p1 : (w2.alloc (.cells #[.int .i64 i, .string rl, .bool al, .int .i64 dy, .string o, .int .i64 co, .int .i64 p, .slice na 0 nc] 41)).cell? ⟨w2.heap.size, 1, none⟩ = some (.string rl) := by simp
        have p2 : (w2.alloc (.cells #[.int .i64 i, .string rl, .bool al, .int .i64 dy, .string o, .int .i64 co, .int .i64 p, .slice na 0 nc] 41)).cell? ⟨w2.heap.size, 2, none⟩ = some (.bool al) := by simp
        have p3 : (w2.alloc (.cells #[.int .i64 i, .string rl, .bool al, .int .i64 dy, .string o, .int .i64 co, .int .i64 p, .slice na 0 nc] 41)).cell? ⟨w2.heap.size, 3, none⟩ = some (.int .i64 dy) := by simp
        have p4 : (w2.alloc (.cells #[.int .i64 i, .string rl, .bool al, .int .i64 dy, .string o, .int .i64 co, .int .i64 p, .slice na 0 nc] 41)).cell? ⟨w2.heap.size, 4, none⟩ = some (.string o) := by simp
        have p5 : (w2.alloc (.cells #[.int .i64 i, .string rl, .bool al, .int .i64 dy, .string o, .int .i64 co, .int .i64 p, .slice na 0 nc] 41)).cell? ⟨w2.heap.size, 5, none⟩ = some (.int .i64 co) := by simp
        have p6 : (w2.alloc (.cells #[.int .i64 i, .string rl, .bool al, .int .i64 dy, .string o, .int .i64 co, .int .i64 p, .slice na 0 nc] 41)).cell? ⟨w2.heap.size, 6, none⟩ = some (.int .i64 p) := by simp
        have p7 : (w2.alloc (.cells #[.int .i64 i, .string rl, .bool al, .int .i64 dy, .string o, .int .i64 co, .int .i64 p, .slice na 0 nc] 41)).cell? ⟨w2.heap.size, 7, none⟩ = some (.slice na 0 nc) := by simp
        have HB := Lib.hid (bthen HB.out (Nat.le_refl _) b2)
        have HT := Lib.hid (HT.out.later b2)
        have HS := Lib.hid (HS.out.later b2)
        have HU := Lib.hid (HU.out.later b2)
        clear b2
        go_wp2_with (go_at_call 25; refine (HPL.out _).mono ?_; rintro e w' ⟨rfl, rfl⟩)
        generalize w2.alloc (.cells #[.int .i64 i, .string rl, .bool al, .int .i64 dy, .string o, .int .i64 co, .int .i64 p, .slice na 0 nc] 41) = w3 at p0 p1 p2 p3 p4 p5 p6 p7 HB HT HS HU ⊢
        refine (nextE A1 N c1 ts r 16 A3 A2 K c3 M c2 us ss w3 HT.out (by have := HL1.out; omega) (good_needs HGD.out w3) (by omega) (by omega) HU.out HS.out (by have := HL3.out; omega) (by have := HL2.out; omega) HSM.out).mono ?_
        rintro e w4 h4
        obtain ⟨hb4, h4⟩ := next_made HGD.out h4
        have HB := Lib.hid (bthen HB.out (Nat.le_refl _) hb4)
        have p0 := cell_later hb4 p0
        have p1 := cell_later hb4 p1
        have p2 := cell_later hb4 p2
        have p3 := cell_later hb4 p3
        have p4 := cell_later hb4 p4
        have p5 := cell_later hb4 p5
        have p6 := cell_later hb4 p6
        have p7 := cell_later hb4 p7
        clear hb4 HT HS HU
        by_cases hfit : r + co ≤ 16
        · have hf : decide (r + co ≤ 16) = true := decide_eq_true hfit
          rcases h4 with ⟨h3, _⟩ | ⟨_, na2, nc2, rfl⟩
          · rw [HOK.out, hf] at h3; cases h3
          · rw [HM.out]
            dsimp only [Task.val]
            clear hf
            have b4 : Below w4.heap.size w4 (w4.alloc (.cells #[.int .i64 i, .string rl, .bool al, .int .i64 dy, .string o, .int .i64 co, .int .i64 p, .slice na2 0 nc2] 41)) := (Below.refl _ _).alloc (Nat.le_refl _) _
            have q0 : (w4.alloc (.cells #[.int .i64 i, .string rl, .bool al, .int .i64 dy, .string o, .int .i64 co, .int .i64 p, .slice na2 0 nc2] 41)).cell? ⟨w4.heap.size, 0, none⟩ = some (.int .i64 i) := by simp
            have q1 : (w4.alloc (.cells #[.int .i64 i, .string rl, .bool al, .int .i64 dy, .string o, .int .i64 co, .int .i64 p, .slice na2 0 nc2] 41)).cell? ⟨w4.heap.size, 1, none⟩ = some (.string rl) := by simp
            have q2 : (w4.alloc (.cells #[.int .i64 i, .string rl, .bool al, .int .i64 dy, .string o, .int .i64 co, .int .i64 p, .slice na2 0 nc2] 41)).cell? ⟨w4.heap.size, 2, none⟩ = some (.bool al) := by simp
            have q3 : (w4.alloc (.cells #[.int .i64 i, .string rl, .bool al, .int .i64 dy, .string o, .int .i64 co, .int .i64 p, .slice na2 0 nc2] 41)).cell? ⟨w4.heap.size, 3, none⟩ = some (.int .i64 dy) := by simp
            have q4 : (w4.alloc (.cells #[.int .i64 i, .string rl, .bool al, .int .i64 dy, .string o, .int .i64 co, .int .i64 p, .slice na2 0 nc2] 41)).cell? ⟨w4.heap.size, 4, none⟩ = some (.string o) := by simp
            have q5 : (w4.alloc (.cells #[.int .i64 i, .string rl, .bool al, .int .i64 dy, .string o, .int .i64 co, .int .i64 p, .slice na2 0 nc2] 41)).cell? ⟨w4.heap.size, 5, none⟩ = some (.int .i64 co) := by simp
            have q6 : (w4.alloc (.cells #[.int .i64 i, .string rl, .bool al, .int .i64 dy, .string o, .int .i64 co, .int .i64 p, .slice na2 0 nc2] 41)).cell? ⟨w4.heap.size, 6, none⟩ = some (.int .i64 p) := by simp
            have q7 : (w4.alloc (.cells #[.int .i64 i, .string rl, .bool al, .int .i64 dy, .string o, .int .i64 co, .int .i64 p, .slice na2 0 nc2] 41)).cell? ⟨w4.heap.size, 7, none⟩ = some (.slice na2 0 nc2) := by simp
            have p0 := cell_later b4 p0
            have p1 := cell_later b4 p1
            have p2 := cell_later b4 p2
            have p3 := cell_later b4 p3
            have p4 := cell_later b4 p4
            have p5 := cell_later b4 p5
            have p6 := cell_later b4 p6
            have p7 := cell_later b4 p7
            have HB := Lib.hid (bthen HB.out (Nat.le_refl _) b4)
            clear b4
            go_wp2_with (first | (go_at_call 23; refine (sameT ⟨i, rl, al, dy, o, co, p, na, 0, nc⟩ na2 nc2 [] _ (nrow0 _ _) (nrow0 _ _) (by decide : (0 : Nat) ≤ 1000)).mono ?_; rintro e w8 ⟨rfl, hb8⟩; have HB := Lib.hid (bthen HB.out (Nat.le_refl _) hb8); clear hb8) | (go_at_call 9; refine (knownE _).mono ?_; rintro e w9 ⟨rfl, hb9⟩; have HB9 := Lib.hid (bthen HB.out (Nat.le_refl _) hb9); clear hb9))
            go_ret
            first | exact ⟨rfl, HB9.out⟩ | exact ⟨ret_bool (by rw [HF.out]; rfl), HB9.out⟩
        · have hf : decide (r + co ≤ 16) = false := decide_eq_false hfit
          rcases h4 with ⟨_, rfl⟩ | ⟨h3, _⟩
          · rw [show zTask.val = .agg #[.int .i64 0, .string ⟨#[]⟩, .bool false, .int .i64 0, .string ⟨#[]⟩, .int .i64 0, .int .i64 0, .slice none 0 0] from rfl]
            have HF := Lib.hid hf
            clear hf
            have b4 : Below w4.heap.size w4 (w4.alloc (.cells #[.int .i64 0, .string ⟨#[]⟩, .bool false, .int .i64 0, .string ⟨#[]⟩, .int .i64 0, .int .i64 0, .slice none 0 0] 41)) := (Below.refl _ _).alloc (Nat.le_refl _) _
            have q0 : (w4.alloc (.cells #[.int .i64 0, .string ⟨#[]⟩, .bool false, .int .i64 0, .string ⟨#[]⟩, .int .i64 0, .int .i64 0, .slice none 0 0] 41)).cell? ⟨w4.heap.size, 0, none⟩ = some (.int .i64 0) := by simp
            have q1 : (w4.alloc (.cells #[.int .i64 0, .string ⟨#[]⟩, .bool false, .int .i64 0, .string ⟨#[]⟩, .int .i64 0, .int .i64 0, .slice none 0 0] 41)).cell? ⟨w4.heap.size, 1, none⟩ = some (.string ⟨#[]⟩) := by simp
            have q2 : (w4.alloc (.cells #[.int .i64 0, .string ⟨#[]⟩, .bool false, .int .i64 0, .string ⟨#[]⟩, .int .i64 0, .int .i64 0, .slice none 0 0] 41)).cell? ⟨w4.heap.size, 2, none⟩ = some (.bool false) := by simp
            have q3 : (w4.alloc (.cells #[.int .i64 0, .string ⟨#[]⟩, .bool false, .int .i64 0, .string ⟨#[]⟩, .int .i64 0, .int .i64 0, .slice none 0 0] 41)).cell? ⟨w4.heap.size, 3, none⟩ = some (.int .i64 0) := by simp
            have q4 : (w4.alloc (.cells #[.int .i64 0, .string ⟨#[]⟩, .bool false, .int .i64 0, .string ⟨#[]⟩, .int .i64 0, .int .i64 0, .slice none 0 0] 41)).cell? ⟨w4.heap.size, 4, none⟩ = some (.string ⟨#[]⟩) := by simp
            have q5 : (w4.alloc (.cells #[.int .i64 0, .string ⟨#[]⟩, .bool false, .int .i64 0, .string ⟨#[]⟩, .int .i64 0, .int .i64 0, .slice none 0 0] 41)).cell? ⟨w4.heap.size, 5, none⟩ = some (.int .i64 0) := by simp
            have q6 : (w4.alloc (.cells #[.int .i64 0, .string ⟨#[]⟩, .bool false, .int .i64 0, .string ⟨#[]⟩, .int .i64 0, .int .i64 0, .slice none 0 0] 41)).cell? ⟨w4.heap.size, 6, none⟩ = some (.int .i64 0) := by simp
            have q7 : (w4.alloc (.cells #[.int .i64 0, .string ⟨#[]⟩, .bool false, .int .i64 0, .string ⟨#[]⟩, .int .i64 0, .int .i64 0, .slice none 0 0] 41)).cell? ⟨w4.heap.size, 7, none⟩ = some (.slice none 0 0) := by simp
            have p0 := cell_later b4 p0
            have p1 := cell_later b4 p1
            have p2 := cell_later b4 p2
            have p3 := cell_later b4 p3
            have p4 := cell_later b4 p4
            have p5 := cell_later b4 p5
            have p6 := cell_later b4 p6
            have p7 := cell_later b4 p7
            have HB := Lib.hid (bthen HB.out (Nat.le_refl _) b4)
            clear b4
            go_wp2_with (first | (go_at_call 23; refine (sameT zTask none 0 [] _ (nrow0 _ _) (nrow0 _ _) (by decide)).mono ?_; rintro e w8 ⟨rfl, hb8⟩; have HB := Lib.hid (bthen HB.out (Nat.le_refl _) hb8); clear hb8) | (go_at_call 9; refine (knownE _).mono ?_; rintro e w9 ⟨rfl, hb9⟩; have HB9 := Lib.hid (bthen HB.out (Nat.le_refl _) hb9); clear hb9))
            go_ret
            first | exact ⟨rfl, HB9.out⟩ | exact ⟨ret_bool (by rw [HF.out]; rfl), HB9.out⟩
          · rw [HOK.out, hf] at h3; cases h3
  · have hn' : decide (100 < (n : Int)) = true := by simp; omega
    have HB := Lib.hid (Below.refl W.heap.size W)
    clear hr hbd hA h1
    go_enter Try.func7, Try.ntmps7
    go_wp2_with (go_at_call 9; refine (knownE _).mono ?_; rintro e w9 ⟨rfl, hb9⟩; have HB9 := Lib.hid (bthen HB.out (Nat.le_refl _) hb9); clear hb9)
    go_ret
    exact ⟨rfl, HB9.out⟩
theorem walk (A : Option Addr) (n c : Nat) (l : List Int) (W : World) (hr : Irow W A n l) (a1 : Int) (hw1 : (Lit.int .i64 a1).wf = true) :
    Calls Try.prog 7 #[.slice A n c, .int .i64 a1] W fun e w' => e = .returned (.bool true) ∧ Below W.heap.size W w' := core A n c l a1 W hr (bounds_i64 hw1)


set_option maxRecDepth 100000 in
theorem lifted (os : Os) (started : os.Started) (H : Type) (enc : TypeId × Value → H) :
    ReturnsInHanded {} Try.checked os 7 .any (Rows.fairWaitsSpec.pre6 enc Try.prog Try.f7 Rows.fairWaitsRow.domain false) (Rows.fairWaitsSpec.post enc Try.prog Try.f7 false true false false) := by
  refine returnsInHanded_of_change (C := Try.checked) own started (by kernel_rfl) Try.func7
    (ChangeSpec.witness6 (enc := enc) (C := Try.checked) false ⟨#[], #[.slice none 0 0, .int .i64 0], []⟩ 8 (by kernel_rfl) (by kernel_rfl) (by kernel_rfl) (by kernel_rfl)) ?_
  intro W base args ds gs before hval0 hW hcnd _
  have hval : ∀ (j : Nat) t v, Try.f7.params[j]? = some t → args[j]? = some v → Value.okWide Try.prog W .any base t v := hval0
  have hW' := hW
  obtain ⟨p, q, hA0, hV, rfl, hfz, hnd⟩ := hW
  have hA : DataW.TrodAll enc Try.prog W 0 (fun _ => true) true Try.f7.params.toList args.toList ds p := hA0
  rw [Try.params7] at hA hval
  obtain ⟨v0, vs0, d0, ds0, p0, q0, hargs, rfl, rfl, h0, r0⟩ := trodAll_cons hA
  obtain ⟨v1, vs1, d1, ds1, p1, q1, rfl, rfl, rfl, h1, r1⟩ := trodAll_cons r0
  obtain ⟨rfl, rfl, rfl⟩ := trodAll_nil r1
  obtain rfl : args = #[v0, v1] := by cases args; simp_all
  obtain ⟨rfl, rfl⟩ := trodVars_none hV
  obtain ⟨A0, n0, c0, rfl⟩ := okWide_slice Try.underlying24 (hval 0 24 v0 rfl rfl)
  obtain ⟨l0, hrow0⟩ := irow_of_trod h0
  obtain ⟨a1, rfl, rfl, rfl, w1⟩ := open_int Try.underlying3 (hval 1 3 v1 rfl rfl) h1
  clear hA0 hval0
  simp only [List.append_nil] at hW'
  refine (walk A0 n0 c0 l0 W hrow0 a1 w1).mono fun e W' ⟨he, hb⟩ => ?_
  subst he
  exact ⟨_, rfl, law_post laidOut (by rw [Try.params7]; simp only [List.mem_cons, List.not_mem_nil, or_false, forall_eq_or_imp, forall_eq]; exact ⟨⟨by kernel_rfl, by decide +kernel⟩, ⟨by kernel_rfl, by decide +kernel⟩⟩) rfl rfl Try.underlying4 hW' rfl rfl rfl hb⟩

theorem over : Rows.fairWaitsRow.holds Try.pinned (OpenSpec.ofChange Rows.fairWaitsSpec) :=
  OpenClaim.holds_of_wide 7 Try.f7 rfl rfl rfl rfl rfl rfl rfl ⟨rfl, rfl, rfl, rfl, rfl⟩ rfl rfl rfl rfl rfl (by kernel_rfl) Try.func7 (by kernel_rfl)
    (of_decide_eq_true (by kernel_rfl)) (by unfold Func.isWrapper; first | (rw [if_pos (by decide +kernel)]; kernel_rfl) | (rw [if_neg (by decide +kernel)]; exact ⟨rfl, rfl⟩))
    (fun os started H enc _ => lifted os started H enc)

theorem proved : Rows.FairWaitsSaid := over
#print axioms proved
end Go.Proofs.Ytknpcphaieoocaa.lawFairWaits
