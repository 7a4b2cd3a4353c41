/- The reference's Next. -/
import Derived.Test.YtknpcphaieoocaaNext
namespace Go.Proofs.Ytknpcphaieoocaa
open Go.RowKit
set_option linter.unusedSimpArgs false
set_option linter.unusedVariables false

/-- what the scan holds after k tasks -/
def ScanR (ss us : List (ByteArray × Int)) (ts : List Task) (n k : Nat) (b : Value) : Prop :=
  (k = 0 ∧ b = .int .i64 (-1)) ∨ (1 ≤ k ∧ ∃ (j : Nat) (m : Task), j < n ∧ b = .int .i64 j ∧ ts[j]? = some m ∧ pick (ltT ss us) m (ts.drop k) = minT ss us ts)
theorem minT_start {ss us : List (ByteArray × Int)} {ts : List Task} {x : Task} (h : ts[0]? = some x) : pick (ltT ss us) x (ts.drop 1) = minT ss us ts := by
  cases ts with
  | nil => simp at h
  | cons t l => simp at h; subst h; rfl

set_option maxRecDepth 100000 in
set_option maxHeartbeats 4000000 in
theorem nextF (A : Option Addr) (n c : Nat) (ts : List Task) (r cp : Int) (Au As : Option Addr) (nu cu ns cs : Nat) (us ss : List (ByteArray × Int)) (w : World)
    (hT : Trow w A n ts) (hn : n ≤ 1000) (hN : ∀ t ∈ ts, needsOk w t) (hr0 : 0 ≤ r) (hr1 : r ≤ 1099511627776)
    (hU : Prow w Au nu us) (hS : Prow w As ns ss) (hnu : nu ≤ 1000) (hns : ns ≤ 1000) (hs : smallU us) :
    Calls Try.prog 22 #[.slice A n c, .int .i64 r, .int .i64 cp, .slice As ns cs, .slice Au nu cu] w (NextR ss us ts r cp w) := by
  have hz : Below w.heap.size w (w.alloc (.cells #[.int .i64 0, .string ⟨#[]⟩, .bool false, .int .i64 0, .string ⟨#[]⟩, .int .i64 0, .int .i64 0, .slice none 0 0] 41)) := (Below.refl _ w).alloc (Nat.le_refl _) _
  have HZ := Lib.hid hz
  have HO := Lib.hid (one_new w)
  have HT := Lib.hid hT
  have HU := Lib.hid hU
  have HS := Lib.hid hS
  have HN := Lib.hid hN
  have HL := Lib.hid hT.1
  clear hz hT hU hS hN
  go_enter Try.func22, Try.ntmps22
  go_wp2
  go_loopw [12, 13] (fun b i wv => ∃ k : Nat, k ≤ n ∧ i = .int .i64 k ∧ Below w.heap.size w wv ∧ Hid (One wv w.heap.size zTask) ∧ ScanR ss us ts n k b) (fun _ i _ => n - (intOf i).toNat)
  case atStart => exact ⟨0, by omega, rfl, HZ.out, HO, .inl ⟨rfl, rfl⟩⟩
  case round =>
    obtain ⟨k, hkn, rfl, hb, HO1, hsc⟩ := hrel
    have HB := Lib.hid hb
    clear hb
    by_cases hlt : k < n
    · obtain ⟨x, hx⟩ : ∃ x, ts[k]? = some x := ⟨ts[k]'(by have := HL.out; omega), List.getElem?_eq_getElem _⟩
      obtain ⟨b, off, rfl, hcell⟩ := HT.out.2 (by omega)
      have HC := Lib.hid hcell
      have HX := Lib.hid hx
      clear hcell hx
      rcases hsc with ⟨rfl, rfl⟩ | ⟨hk1, j, m, hj, rfl, hm, hp⟩
      · have hz1 : Hid (pick (ltT ss us) x (ts.drop 1) = minT ss us ts) := Lib.hid (minT_start HX.out)
        go_wp2
        go_quiet (fail)
        have hb2 : Below wr.heap.size wr wr.drew := (Below.refl _ wr).drew
        go_wp2
        case roundEnd => exact ⟨⟨0 + 1, by omega, by go_num, below_drewN HB.out _, Lib.hid (HO1.out.later (below_drewN (Below.refl _ wr) _)), .inr ⟨by omega, 0, x, by omega, rfl, HX.out, hz1.out⟩⟩, by simp [intOf]; omega⟩
      · have HM := Lib.hid hm
        have HP := Lib.hid hp
        have hj0 : decide ((j : Int) < 0) = false := by simp
        obtain ⟨e0, e1, e2, e3, e4, e5, e6, e7⟩ := (HC.out k x HX.out).later HB.out
        obtain ⟨m0, m1, m2, m3, m4, m5, m6, m7⟩ := (HC.out j m HM.out).later HB.out
        clear hm hp
        go_wp2
        go_still_tail 13, (by kernel_rfl)
        clear e0 e1 e2 e3 e4 e5 e6 e7 m0 m1 m2 m3 m4 m5 m6 m7
        have HD := Lib.hid HB.out.drew
        have HOD := Lib.hid (HO1.out.later (Below.refl _ wr).drew)
        change wpList _ _ _ _ _ wr.drew
        generalize wr.drew = w2 at HD HOD ⊢
        clear HB HO1
        go_wp2_with fail
        refine (beforeF x.id x.pri m.id m.pri x.owner m.owner (.string x.rel) (.bool x.all) (.int .i64 x.day) (.int .i64 x.cost) (.slice x.na x.nn x.nc) (.string m.rel) (.bool m.all) (.int .i64 m.day) (.int .i64 m.cost) (.slice m.na m.nn m.nc) Au As nu cu ns cs us ss _ (HU.out.later HD.out) (HS.out.later HD.out) hnu hns hs).mono ?_
        rintro e w3 ⟨rfl, hb3⟩
        have HO3 := Lib.hid (HOD.out.later hb3)
        have HD3 := Lib.hid (bthen HD.out (Nat.le_refl _) hb3)
        clear hb3 HD HOD
        cases hc : befV ss us x.owner x.pri x.id m.owner m.pri m.id
        · have HCc : Hid (ltT ss us x m = false) := Lib.hid hc
          go_wp2
          case roundEnd => exact ⟨⟨k + 1, by omega, by go_num, HD3.out, HO3, .inr ⟨by omega, j, m, hj, rfl, HM.out, by rw [← HP.out, pick_step HX.out, HCc.out]; rfl⟩⟩, by simp [intOf]; omega⟩
        · have HCc : Hid (ltT ss us x m = true) := Lib.hid hc
          go_wp2
          case roundEnd => exact ⟨⟨k + 1, by omega, by go_num, HD3.out, HO3, .inr ⟨by omega, k, x, hlt, rfl, HX.out, by rw [← HP.out, pick_step HX.out, HCc.out]; rfl⟩⟩, by simp [intOf]; omega⟩
    · obtain rfl : k = n := by omega
      obtain ⟨⟨z0, z1, z2, z3, z4, z5, z6, z7⟩, hf0, hz0⟩ := HO1.out
      simp only [Nat.zero_add, zTask] at z0 z1 z2 z3 z4 z5 z6 z7
      rcases hsc with ⟨hk0, rfl⟩ | ⟨hk1, j, m, hj, rfl, hm, hp⟩
      · have hts : ts = [] := List.length_eq_zero_iff.1 (by have := HL.out; omega)
        obtain ⟨q0, q1, q2, q3, q4, q5, q6, q7⟩ := tc8 HO1.out.1 zTask
        simp only [Nat.zero_add, zTask] at q0 q1 q2 q3 q4 q5 q6 q7
        have HH := Lib.hid hts
        clear hts
        go_wp2
        refine bodyPost_ret (v := .tuple #[zTask.val, .bool false]) (by simp [results, Try.results22, go_sem, Task.val, zTask, *]) rfl ⟨below8 HB.out (Nat.le_refl _) zTask, .inl ⟨by rw [HH.out]; rfl, rfl⟩⟩
      · have hne : ts ≠ [] := fun h => by rw [h] at hm; simp at hm
        have hmm : minT ss us ts = m := by
          rw [← hp, List.drop_eq_nil_of_le (by have := HL.out; omega)]; rfl
        have hNm := HN.out m (by rw [← hmm]; exact minT_mem ss us hne)
        obtain ⟨⟨zs0, hzs0⟩, hnn, ⟨hc0, hc1⟩, hnil⟩ := hNm
        have HM := Lib.hid hmm
        have HZS := Lib.hid (hzs0.later HB.out)
        have HE : Hid (ts.isEmpty = false) := Lib.hid (by cases ts; exact absurd rfl hne; rfl)
        have hj0 : decide ((j : Int) < 0) = false := by simp
        obtain ⟨b, off, rfl, hcell⟩ := HT.out.2 (by omega)
        obtain ⟨m0, m1, m2, m3, m4, m5, m6, m7⟩ := (hcell j m hm).later HB.out
        clear hmm hp hm hne hzs0 hcell
        by_cases hfit : r + m.cost ≤ cp
        · have HF := Lib.hid hfit
          have HX := Lib.hid (one_newT wr m)
          have B3 : Below wr.heap.size wr (wr.alloc (.cells #[.int .i64 m.id, .string m.rel, .bool m.all, .int .i64 m.day, .string m.owner, .int .i64 m.cost, .int .i64 m.pri, .slice m.na m.nn m.nc] 41)) := (Below.refl _ wr).alloc (Nat.le_refl _) _
          have HB3 := Lib.hid (bthen HB.out (Nat.le_refl _) B3)
          have HO3 := Lib.hid (HO1.out.later B3)
          have HZ3 := Lib.hid (HZS.out.later B3)
          have hne : ¬ w.heap.size = wr.heap.size := by omega
          clear B3
          obtain ⟨mi, mr, ma, md, mo, mc, mp, na, nn, nc⟩ := m
          dsimp only at m0 m1 m2 m3 m4 m5 m6 m7 hnn hc0 hc1 hnil HX HB3 HO3 HZ3 HZS HF
          have hg1 : decide (cp < r + mc) = false := by simpa using HF.out
          clear hfit
          rcases na with _ | ad
          · obtain rfl : nc = 0 := hnil rfl
            have hn0 : nn = 0 := by
              rcases Nat.eq_zero_or_pos nn with h0 | h0
              · exact h0
              · obtain ⟨_, _, h1, _⟩ := HZS.out.2 h0
                simp at h1
            subst hn0
            obtain ⟨i0, hi, hz0, hz1, hz2⟩ := info_parts info3
            obtain ⟨⟨x0, x1, x2, x3, x4, x5, x6, x7⟩, hx0, hxz⟩ := HX.out
            obtain ⟨⟨z0, z1, z2, z3, z4, z5, z6, z7⟩, hf0, hzz⟩ := HO3.out
            simp only [Nat.zero_add, zTask] at x0 x1 x2 x3 x4 x5 x6 x7 z0 z1 z2 z3 z4 z5 z6 z7
            have hap : ∀ w : World, (Builtin.append_ #[24, 24] 24 #[.slice none 0 0, .slice none 0 0]).run Try.prog w = .ok (.slice none 0 0) w := fun w => run_append_owned_none w 0 24 24 3 i0 1 Try.underlying24 hi _ 0 [] (World.ownsRow_nil _ _ _ _)
            clear hi hz0 hz1 hz2
            go_wp2
            have HB5 := Lib.hid (below8 HB3.out (Nat.le_refl _) ⟨mi, mr, ma, md, mo, mc, mp, none, 0, 0⟩)
            obtain ⟨q0, q1, q2, q3, q4, q5, q6, q7⟩ := tc8 HO3.out.1 ⟨mi, mr, ma, md, mo, mc, mp, none, 0, 0⟩
            simp only [Nat.zero_add] at q0 q1 q2 q3 q4 q5 q6 q7
            refine bodyPost_ret (v := .tuple #[Task.val ⟨mi, mr, ma, md, mo, mc, mp, none, 0, 0⟩, .bool true]) (by simp [results, Try.results22, go_sem, Task.val, *]) rfl ⟨HB5.out, .inr ⟨?_, none, 0, ?_, fun zs hzs => ?_⟩⟩
            · unfold okV; rw [HM.out, HE.out]; simpa using HF.out
            · rw [HM.out]
            · rw [HM.out] at hzs ⊢
              exact ⟨hzs.1, fun h => absurd h (Nat.lt_irrefl 0)⟩
          · obtain ⟨i0, hi, hz0, hz1, hz2⟩ := info_parts info3
            have hnz := HZS.out.1
            go_wp2_with (at_builtin; refine wpList_append_own_at _ rfl _ _ 24 rfl (wr.alloc (.cells #[.int .i64 mi, .string mr, .bool ma, .int .i64 md, .string mo, .int .i64 mc, .int .i64 mp, .slice (some ad) nn nc] 41)).heap.size 3 i0 (.int .i64 0) 1 8 Try.underlying24 hi hz0 hz1 hz2 rfl (by decide) (.slice none 0 0) 0 [] rfl (World.ownsRow_nil _ _ _ _) ad nn nc (zs0.map (Value.int .i64)) rfl (by simp [hnz]) HZ3.out.news (one_ints zs0) (by unfold maxLen; omega) (by omega) (Nat.le_refl _) ?_; intro v' w4 hown hgrow hnil2 hat; obtain ⟨na', nc', rfl, hr4, hbl4⟩ := nrow_of_own (by simpa using hown); have hb4 := ((Below.refl (wr.alloc (.cells #[.int .i64 mi, .string mr, .bool ma, .int .i64 md, .string mo, .int .i64 mc, .int .i64 mp, .slice (some ad) nn nc] 41)).heap.size _).grown hgrow (Nat.le_refl _) (by intro k hk; simp [Value.ownBlock] at hk)); have HR4 := Lib.hid hr4; have HBL := Lib.hid hbl4; have HX4 := HX.out.later hb4; have HO4 := HO3.out.later hb4; have HB4 := Lib.hid (bthen HB3.out (Nat.le_refl _) hb4); clear hown hgrow hnil2 hat hr4 hbl4 hb4; obtain ⟨⟨x0, x1, x2, x3, x4, x5, x6, x7⟩, hx0, hxz⟩ := HX4; obtain ⟨⟨z0, z1, z2, z3, z4, z5, z6, z7⟩, hf0, hzz⟩ := HO4; simp only [Nat.zero_add, zTask] at x0 x1 x2 x3 x4 x5 x6 x7 z0 z1 z2 z3 z4 z5 z6 z7)
            have HB5 := Lib.hid (below8 (Below.setCell (p := ⟨wr.heap.size, 7, none⟩) HB4.out (by show _ ≤ wr.heap.size; omega) (.slice na' nn nc')) (Nat.le_refl _) ⟨mi, mr, ma, md, mo, mc, mp, na', nn, nc'⟩)
            have hT5 : Tcells (w4.setCell ⟨wr.heap.size, 7, none⟩ (.slice na' nn nc')) w.heap.size 0 zTask := by
              unfold Tcells
              simp only [Nat.zero_add, zTask]
              have hn7 : ∀ j, (⟨wr.heap.size, 7, none⟩ : Addr) ≠ ⟨w.heap.size, j, none⟩ := fun j h => hne (by injection h with h1; exact h1.symm)
              refine ⟨?_, ?_, ?_, ?_, ?_, ?_, ?_, ?_⟩ <;> (rw [World.cell?_setCell_other (h := hn7 _)]; assumption)
            obtain ⟨q0, q1, q2, q3, q4, q5, q6, q7⟩ := tc8 hT5 ⟨mi, mr, ma, md, mo, mc, mp, na', nn, nc'⟩
            simp only [Nat.zero_add] at q0 q1 q2 q3 q4 q5 q6 q7
            refine bodyPost_ret (v := .tuple #[Task.val ⟨mi, mr, ma, md, mo, mc, mp, na', nn, nc'⟩, .bool true]) (by simp [results, Try.results22, go_sem, Task.val, *]) rfl ⟨HB5.out, .inr ⟨?_, na', nc', ?_, fun zs hzs => ?_⟩⟩
            · unfold okV; rw [HM.out, HE.out]; simpa using HF.out
            · rw [HM.out]
            · rw [HM.out] at hzs ⊢
              obtain rfl : zs = zs0 := nrow_unique (hzs.later HB.out) HZS.out
              have hd : ∀ b, b ≤ wr.heap.size → ∀ a, na' = some a → a.block ≠ b := fun b hb a ha => by
                have := HBL.out a ha
                have h9 : (wr.alloc (.cells #[.int .i64 mi, .string mr, .bool ma, .int .i64 md, .string mo, .int .i64 mc, .int .i64 mp, .slice (some ad) nn nc] 41)).heap.size = wr.heap.size + 1 := World.size_alloc _ _
                omega
              have h1 := nrow_set HR4.out ⟨wr.heap.size, 7, none⟩ (.slice na' nn nc') (hd _ (Nat.le_refl _))
              have hd0 := hd w.heap.size (by omega)
              exact nrow_set (nrow_set (nrow_set (nrow_set (nrow_set (nrow_set (nrow_set (nrow_set h1 ⟨_, 0, none⟩ _ hd0) ⟨_, 1, none⟩ _ hd0) ⟨_, 2, none⟩ _ hd0) ⟨_, 3, none⟩ _ hd0) ⟨_, 4, none⟩ _ hd0) ⟨_, 5, none⟩ _ hd0) ⟨_, 6, none⟩ _ hd0) ⟨_, 7, none⟩ _ hd0
        · have HF := Lib.hid hfit
          have hg1 : decide (cp < r + m.cost) = true := by simpa using HF.out
          clear hfit
          obtain ⟨q0, q1, q2, q3, q4, q5, q6, q7⟩ := tc8 HO1.out.1 zTask
          simp only [Nat.zero_add, zTask] at q0 q1 q2 q3 q4 q5 q6 q7
          go_wp2
          refine bodyPost_ret (v := .tuple #[zTask.val, .bool false]) (by simp [results, Try.results22, go_sem, Task.val, zTask, *]) rfl ⟨below8 HB.out (Nat.le_refl _) zTask, .inl ⟨by unfold okV; rw [HM.out, HE.out]; simpa using HF.out, rfl⟩⟩
end Go.Proofs.Ytknpcphaieoocaa
