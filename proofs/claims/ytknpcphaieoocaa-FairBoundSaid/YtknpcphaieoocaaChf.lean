/- The reference's Charge. -/
import Derived.Test.YtknpcphaieoocaaChg
import Derived.Deep.AppendSrc
namespace Go.Proofs.Ytknpcphaieoocaa
open Go.RowKit
set_option linter.unusedSimpArgs false
set_option linter.unusedVariables false

/-- an append whose target is read, not kept -/
theorem app_ex (W : World) (ty : TypeId) (base : Option Addr) (sLen sCap : Nat) (olds news : List Value) (x : Value) (m : Nat) (hol : olds.length = sLen * 2) (hb : ∀ a, base = some a → ∀ j u, olds[j]? = some u → W.cell? (a.add j) = some u) (hnil : base = none → sLen = 0)
    (hs : Src Try.prog 2 23 x m news W) (hcase : sCap < sLen + m ∨ (m = 0 ∧ sLen ≤ sCap ∧ ∃ h, base = some ⟨h, 0, none⟩)) (hbd : sLen + m ≤ 3000) :
    ∃ b c W', (Builtin.append_ #[23, 23] ty #[.slice base sLen sCap, x]).run Try.prog W = .ok (.slice (some ⟨b, 0, none⟩) (sLen + m) c) W' ∧ (∀ j u, (olds ++ news)[j]? = some u → W'.cell? ⟨b, j, none⟩ = some u) ∧ Below W.heap.size W W' ∧ (sCap < sLen + m → b = W.heap.size) := by
  obtain ⟨i0, hi, hz0, hz1, hz2⟩ := info_parts info55
  rw [← hz1] at hs
  rcases hcase with hg | ⟨rfl, hle, h, rfl⟩
  · have hold : (Builtin.firstCells i0.size sLen (.slice base sLen sCap)).run Try.prog W.drew = .ok olds.toArray W.drew := by
      rw [hz1]
      cases base with
      | none =>
        have h0 := hnil rfl
        subst h0
        rw [List.length_eq_zero_iff.1 (by omega : olds.length = 0)]
        exact run_firstCells_none W.drew 2 0 0 sCap
      | some a => exact run_firstCells_some W.drew 2 sLen a sLen sCap olds hol (fun j v hj => hb a rfl j v hj)
    refine ⟨_, _, _, run_append_grow_src W 23 23 ty 55 i0 _ Try.underlying23 hi hz0 base sLen sCap olds hold x m news hs hg (by omega) (by rw [hz2]; exact growslice_fits hg (by omega)), ?_, ?_, fun _ => rfl⟩
    · intro j u hj
      have hj2 := (List.getElem?_eq_some_iff.1 hj).1
      rw [World.cell?_alloc_at (w := W.drew) _ _ W.heap.size j rfl, Array.getElem?_append_left (by simpa using hj2)]
      simpa using hj
    · exact (Below.refl _ W).drew.alloc (Nat.le_refl _) _
  · have hn0 : news = [] := List.length_eq_zero_iff.1 (by have := hs.newsLen; omega)
    subst hn0
    refine ⟨h, sCap, W, ?_, ?_, .refl _ _, fun h => absurd h (by omega)⟩
    · have := run_append_room_src W 23 23 ty 55 i0 Try.underlying23 hi h 0 sLen sCap x 0 [] hs (by omega) (fun j hj => absurd hj (by simp)) (fun j hj => absurd hj (by simp))
      rw [this]; rfl
    · intro j u hj
      rw [List.append_nil] at hj
      have := hb _ rfl j u hj
      rw [addr_lit] at this
      simpa using this
theorem step_append_ex {ops : Array Oper} {o : Oper} {a : Act} {K : Act → World → Prop} {Q : Exit → Act → World → Prop} {E : Prop} {W : World}
    (hgd : o.guard = none) (s x : Operand) (hop : o.op = Op.call { callee := Callee.builtin Builtin.append, args := #[s, x], argTypes := #[23, 23] })
    (V X : Value) (hs : a.eval s = V) (hx : a.eval x = X) {N : Nat} {R : Nat → World → Prop}
    (hex : ∃ b c W', (Builtin.append_ #[23, 23] o.type #[V, X]).run Try.prog W = .ok (.slice (some ⟨b, 0, none⟩) N c) W' ∧ R b W')
    (h : ∀ b c W', R b W' → K (a.put o.dst (.slice (some ⟨b, 0, none⟩) N c)) W') :
    if Region.wanted o (yielded ops a.tmps) = true then Oper.wp Try.prog o a W K Q else E := by
  have hw : Region.wanted o (yielded ops a.tmps) = true := by simp [Region.wanted, hgd]
  rw [if_pos hw]
  obtain ⟨b, c, W', hr, h1⟩ := hex
  unfold Oper.wp execOp
  simp only [hop, resolve, invoke, builtin, Sem.run_bind, Sem.run_pure, Result.andThen_ok, List.map_toArray, List.map_cons, List.map_nil, hs, hx, hr]
  exact h b c W' h1
theorem blk_add (a : Addr) (n : Nat) : (a.add n).block = a.block := by unfold Addr.add; split <;> rfl
/-- the first append: the new one and what stands behind it -/
theorem hap1 {w1 : World} {X : Value} {m : Nat} {news : List Value} (o : ByteArray) (c : Int) (hS : ∀ W : World, (∀ p : Addr, p.block < w1.heap.size → W.cell? p = w1.cell? p) → Src Try.prog 2 23 X m news W) (hm : m ≤ 1000) :
    ∀ W : World, W.heap = (w1.alloc (.cells #[.string o, .int .i64 c] 55)).heap → ∀ ty, ∃ b cA W', (Builtin.append_ #[23, 23] ty #[.slice (some ⟨w1.heap.size, 0, none⟩) 1 1, X]).run Try.prog W = .ok (.slice (some ⟨b, 0, none⟩) (1 + m) cA) W'
      ∧ ((∀ j u, (enc2 (o, c) ++ news)[j]? = some u → W'.cell? ⟨b, j, none⟩ = some u) ∧ Below w1.heap.size W W') := by
  intro W hW ty
  have hsz : W.heap.size = w1.heap.size + 1 := by rw [hW]; exact World.size_alloc _ _
  have hcell : ∀ p : Addr, W.cell? p = (w1.alloc (.cells #[.string o, .int .i64 c] 55)).cell? p := fun p => by simp [World.cell?, hW]
  obtain ⟨b, cA, W', h1, h2, h3, _⟩ := app_ex W ty (some ⟨w1.heap.size, 0, none⟩) 1 1 (enc2 (o, c)) news X m rfl (fun a ha j u hj => by cases ha; rw [hcell]; exact pair_cells w1 o c 55 j u hj) (fun h => by cases h)
    (hS W (fun p hp => by rw [hcell]; exact Below.cell ((Below.refl w1.heap.size w1).alloc (Nat.le_refl _) _) hp)) (by
      rcases Nat.eq_zero_or_pos m with h | h
      · exact .inr ⟨h, Nat.le_refl _, _, rfl⟩
      · exact .inl (by omega)) (by omega)
  exact ⟨b, cA, W', h1, h2, h3.mono (by omega)⟩
/-- the second append: what stands ahead, and that -/
theorem hap2 {w1 : World} {A1 : Option Addr} {q n : Nat} {us : List (ByteArray × Int)} (mid : List Value) (hr : Prow w1 A1 n us) (hq : q ≤ n) (hn : n ≤ 1000) (hA : A1 = none → n = 0) (hbk : ∀ a, A1 = some a → a.block < w1.heap.size) :
    ∀ (W : World) (b M cA : Nat), Below w1.heap.size w1 W → mid.length = M * 2 → 0 < M → M ≤ 1001 → (∀ u ∈ mid, u.oneCell' = true) → (∀ j u, mid[j]? = some u → W.cell? ⟨b, j, none⟩ = some u) → ∀ ty, ∃ b2 c2 W', (Builtin.append_ #[23, 23] ty #[.slice A1 q q, .slice (some ⟨b, 0, none⟩) M cA]).run Try.prog W = .ok (.slice (some ⟨b2, 0, none⟩) (q + M) c2) W'
      ∧ ((∀ j u, ((flat enc2 us).take (q * 2) ++ mid)[j]? = some u → W'.cell? ⟨b2, j, none⟩ = some u) ∧ Below w1.heap.size w1 W') := by
  intro W b M cA hB hM hM0 hM1 hone hcells ty
  have hfl : (flat enc2 us).length = n * 2 := by rw [flat_length enc2_len, hr.1]
  obtain ⟨b2, c2, W', h1, h2, h3, _⟩ := app_ex W ty A1 q q ((flat enc2 us).take (q * 2)) mid (.slice (some ⟨b, 0, none⟩) M cA) M (by rw [List.length_take, hfl]; omega)
    (fun a ha j u hj => by
      subst ha
      rw [List.getElem?_take] at hj
      split at hj
      · have := hr.news j u hj
        exact (hB.cell (p := a.add j) (by rw [blk_add]; exact hbk a rfl)).trans this
      · cases hj) (fun h => by have := hA h; omega)
    (Src.ofSlice W Try.underlying23 ⟨b, 0, none⟩ M cA mid hM (fun j u hj => by rw [addr_lit]; have := hcells j u hj; simpa using this) hone) (.inl (by omega)) (by omega)
  exact ⟨b2, c2, W', h1, h2, hB.trans (h3.mono hB.size)⟩
/-- the two appends' outcome -/
theorem charge_two {us : List (ByteArray × Int)} {o : ByteArray} {c : Int} {w W : World} {b G k : Nat} (hm : ∀ j y, j < us.length → us[j]? = some y → (y.1.toList == o.toList) = false) (hk : k ≤ us.length)
    (hb : ∀ j y, j < k → us[j]? = some y → leqS y.1 o = true) (hq : ∀ y, us[k]? = some y → leqS y.1 o = false) (hB : Below w.heap.size w W)
    (h : ∀ j u, ((flat enc2 us).take (k * 2) ++ (enc2 (o, c) ++ (flat enc2 us).drop (k * 2)))[j]? = some u → W.cell? ⟨b, j, none⟩ = some u) : ChargeR us o c w (.returned (.slice (some ⟨b, 0, none⟩) (us.length + 1) G)) W := by
  have hc : chargeV us o c = us.take k ++ (o, c) :: us.drop k := (charge_miss hm).trans (ins_at o c hk hb hq)
  have hl : (us.take k ++ (o, c) :: us.drop k).length = us.length + 1 := by simp only [List.length_append, List.length_take, List.length_cons, List.length_drop]; omega
  refine ⟨_, G, by rw [hc, hl], ?_, hB⟩
  rw [hc]
  refine prow_of_cells (by rw [hl]) fun j u hj => ?_
  rw [flat_ins, List.append_assoc] at hj
  have := h j u hj
  simpa using this

theorem src_drop {w1 W : World} {g q n c : Nat} {us : List (ByteArray × Int)} (hr : Prow w1 (some ⟨g, 0, none⟩) n us) (hW : ∀ p : Addr, p.block < w1.heap.size → W.cell? p = w1.cell? p) (hg : g < w1.heap.size) (hq : q ≤ n) :
    Src Try.prog 2 23 (.slice (some ⟨g, q * 2, none⟩) (n - q) c) (n - q) ((flat enc2 us).drop (q * 2)) W :=
  Src.ofSlice W Try.underlying23 _ _ c _ (by rw [List.length_drop, flat_length enc2_len, hr.1]; omega) (fun j u hj => by
    rw [List.getElem?_drop] at hj
    have := hr.news _ u hj
    rw [addr_lit] at this ⊢
    rw [hW _ hg]
    simpa using this) (fun u hu => one_fl2 us u (List.mem_of_mem_drop hu))
theorem mid_len {w1 : World} {A : Option Addr} {q n : Nat} {us : List (ByteArray × Int)} {o : ByteArray} {c : Int} (hr : Prow w1 A n us) (hq : q ≤ n) : (enc2 (o, c) ++ (flat enc2 us).drop (q * 2)).length = (1 + (n - q)) * 2 := by
  rw [List.length_append, List.length_drop, flat_length enc2_len, hr.1]
  show 2 + _ = _
  omega
theorem one_mid (x : ByteArray × Int) (us : List (ByteArray × Int)) (q : Nat) : ∀ u ∈ enc2 x ++ (flat enc2 us).drop q, u.oneCell' = true := fun u hu => by
  rcases List.mem_append.1 hu with h | h
  · exact one_enc2 x u h
  · exact one_fl2 us u (List.mem_of_mem_drop h)
theorem charge_fin {us : List (ByteArray × Int)} {o : ByteArray} {c : Int} {w w1 W : World} {b G k n : Nat} (hl : us.length = n) (hm : ∀ j y, j < n → us[j]? = some y → (y.1.toList == o.toList) = false) (hk : k ≤ n)
    (hb : ∀ j y, j < k → us[j]? = some y → leqS y.1 o = true) (hq : ∀ y, us[k]? = some y → leqS y.1 o = false) (hB : Below w.heap.size w w1)
    (h : ∀ j u, ((flat enc2 us).take (k * 2) ++ (enc2 (o, c) ++ (flat enc2 us).drop (k * 2)))[j]? = some u → W.cell? ⟨b, j, none⟩ = some u) (hB2 : Below w1.heap.size w1 W) : ChargeR us o c w (.returned (.slice (some ⟨b, 0, none⟩) (k + (1 + (n - k))) G)) W := by
  subst hl
  rw [show k + (1 + (us.length - k)) = us.length + 1 by omega]
  exact charge_two hm hk hb hq (hB.trans (hB2.mono hB.size)) h
theorem mid_len0 {w1 : World} {A : Option Addr} {q n m : Nat} {us : List (ByteArray × Int)} {o : ByteArray} {c : Int} (hr : Prow w1 A n us) (hq : q ≤ n) (hm : n - q = m) : (enc2 (o, c) ++ (flat enc2 us).drop (q * 2)).length = (1 + m) * 2 := by
  rw [← hm]; exact mid_len hr hq
theorem charge_fin0 {us : List (ByteArray × Int)} {o : ByteArray} {c : Int} {w w1 W : World} {b G k n m : Nat} (hl : us.length = n) (hm : ∀ j y, j < n → us[j]? = some y → (y.1.toList == o.toList) = false) (hk : k ≤ n) (hmm : n - k = m)
    (hb : ∀ j y, j < k → us[j]? = some y → leqS y.1 o = true) (hq : ∀ y, us[k]? = some y → leqS y.1 o = false) (hB : Below w.heap.size w w1)
    (h : ∀ j u, ((flat enc2 us).take (k * 2) ++ (enc2 (o, c) ++ (flat enc2 us).drop (k * 2)))[j]? = some u → W.cell? ⟨b, j, none⟩ = some u) (hB2 : Below w1.heap.size w1 W) : ChargeR us o c w (.returned (.slice (some ⟨b, 0, none⟩) (k + (1 + m)) G)) W := by
  rw [← hmm]; exact charge_fin hl hm hk hb hq hB h hB2
theorem drop_nil {w1 : World} {A : Option Addr} {n : Nat} {us : List (ByteArray × Int)} (hr : Prow w1 A n us) : (flat enc2 us).drop (n * 2) = [] := List.drop_eq_nil_of_le (by rw [flat_length enc2_len, hr.1]; exact Nat.le_refl _)
theorem src_nil {w1 : World} {A : Option Addr} {n : Nat} {us : List (ByteArray × Int)} (hr : Prow w1 A n us) (W : World) : Src Try.prog 2 23 (.slice none 0 0) 0 ((flat enc2 us).drop (n * 2)) W := by
  rw [drop_nil hr]; exact Src.ofNil W Try.underlying23 0
theorem src_end {w1 : World} {A : Option Addr} {n : Nat} {us : List (ByteArray × Int)} (hr : Prow w1 A n us) (W : World) (a : Addr) {c : Nat} : Src Try.prog 2 23 (.slice (some a) 0 c) 0 ((flat enc2 us).drop (n * 2)) W := by
  rw [drop_nil hr]; exact Src.ofSlice W Try.underlying23 a 0 c [] rfl (fun j u h => by simp at h) (fun u h => by simp at h)

theorem app_nil_nil (w : World) (c : Nat) : (Builtin.append_ #[23, 23] 23 #[.slice none 0 0, .slice none 0 c]).run Try.prog w = .ok (.slice none 0 0) w := by
  obtain ⟨i0, hi, hz0, hz1, hz2⟩ := info_parts info55
  simp [Builtin.append_, run_underlying Try.underlying23, sizeOf, typeInfo, hi, Builtin.lenOf, Builtin.firstCells]

set_option maxRecDepth 100000 in
set_option maxHeartbeats 2000000 in
theorem chargeF (A : Option Addr) (n cc : Nat) (us : List (ByteArray × Int)) (o : ByteArray) (c : Int) (w : World) (hU : Prow w A n us) (hn : n ≤ 1000) :
    Calls Try.prog 20 #[.slice A n cc, .string o, .int .i64 c] w (ChargeR us o c w) := by
  have HU := Lib.hid hU
  have hlen := hU.1
  have HLN := Lib.hid hlen
  obtain ⟨i0, hi, hz0, hz1, hz2⟩ := info_parts info55
  -- the clone
  have HX : Hid (∃ v' w1, (Builtin.append_ #[23, 23] 23 #[.slice none 0 0, .slice A n cc]).run Try.prog w = .ok v' w1 ∧ w1.ownsRow w.heap.size 55 2 v' n (flat enc2 us) ∧ Below w.heap.size w w1) := Lib.hid (by
    rcases A with _ | ad
    · have hn0 : n = 0 := by
        rcases Nat.eq_zero_or_pos n with h0 | h0
        · exact h0
        · obtain ⟨_, _, h1, _⟩ := hU.2 h0
          simp at h1
      subst hn0
      obtain rfl : us = [] := List.length_eq_zero_iff.1 hlen
      exact ⟨_, _, app_nil_nil w cc, World.ownsRow_nil _ _ _ _, .refl _ _⟩
    · obtain ⟨v', w1, hr, h1, h2, _, _⟩ := run_append_own_at (P := Try.prog) w w.heap.size 23 23 55 i0 _ 2 24 Try.underlying23 hi hz0 hz1 hz2 rfl (by decide) (.slice none 0 0) 0 [] (World.ownsRow_nil _ _ _ _) ad n cc (flat enc2 us) (by rw [flat_length enc2_len, hlen]) hU.news (one_fl2 us) (by unfold maxLen; omega) (by omega) (Nat.le_refl _)
      exact ⟨v', w1, hr, by simpa using h1, below_of_grown h2 (Nat.le_refl _) (fun k hk => by simp [Value.ownBlock] at hk)⟩)
  obtain ⟨v', w1, hrun, hown, hb1⟩ := HX.out
  have HO := Lib.hid hown
  have HB := Lib.hid hb1
  obtain ⟨A1, c1, hv, hr1, hf1⟩ := prow_of_own2 hown
  have HA : Hid ((A1 = none ∧ n = 0 ∧ c1 = 0) ∨ ∃ g, A1 = some ⟨g, 0, none⟩ ∧ n ≤ c1 ∧ c1 ≤ maxLen ∧ g < w1.heap.size) := Lib.hid (by
    rcases hown.2 with ⟨e, h0⟩ | ⟨g, cap, cur, e, _, hh, hnc, hcm, _⟩
    · rw [hv] at e; cases e; exact .inl ⟨rfl, h0, rfl⟩
    · rw [hv] at e; cases e; exact .inr ⟨g, rfl, hnc, hcm, (Array.getElem?_eq_some_iff.1 hh).1⟩)
  rw [hv] at hrun HO
  have HR := Lib.hid hr1
  have HF := Lib.hid hf1
  clear hown hb1 hr1 hf1 hv hU HX hlen hi hz0 hz1 hz2
  go_enter Try.func20, Try.ntmps20
  go_wp2_with (at_builtin; refine Lib.wpList_append_run _ rfl _ _ 23 23 rfl (.slice none 0 0) (.slice A n cc) rfl rfl _ _ hrun ?_)
  go_loop [8] (fun i => ∃ k : Nat, k ≤ n ∧ i = .int .i64 k ∧ Hid (∀ j y, j < k → us[j]? = some y → (y.1.toList == o.toList) = false)) (fun i => n - (intOf i).toNat)
  case atStart => exact ⟨0, by omega, rfl, Lib.hid fun j y hj _ => absurd hj (by omega)⟩
  case round =>
    obtain ⟨k, hk, rfl, HM⟩ := hrel
    by_cases hkn : k < n
    · obtain ⟨b, off, rfl, hcell⟩ := HR.out.2 (by omega)
      obtain ⟨x, hx⟩ : ∃ x, us[k]? = some x := ⟨us[k]'(by have := HLN.out; omega), List.getElem?_eq_getElem _⟩
      obtain ⟨d1, d2⟩ := hcell k x hx
      have hfz := (HF.out _ rfl).2
      have HX := Lib.hid hx
      clear hx hcell
      cases ho : (x.1.toList == o.toList)
      · have HO1 := Lib.hid ho
        go_wp2
        case roundEnd => exact ⟨⟨k + 1, by omega, rfl, Lib.hid fun j y hj hy => by
          rcases Nat.lt_or_ge j k with h | h
          · exact HM.out j y h hy
          · obtain rfl : j = k := by omega
            rw [HX.out] at hy
            cases hy
            exact HO1.out⟩, by simp [intOf]; omega⟩
      · have HO1 := Lib.hid ho
        go_wp2
        go_ret
        exact charge_set HM.out HX.out HO1.out HLN.out HB.out HR.out (HF.out _ rfl).1
    · obtain rfl : k = n := by omega
      go_wp2
      go_loop [9] (fun i => ∃ q : Nat, q ≤ k ∧ i = .int .i64 q ∧ Hid (∀ j y, j < q → us[j]? = some y → leqS y.1 o = true)) (fun i => k - (intOf i).toNat)
      case atStart => exact ⟨0, by omega, rfl, Lib.hid fun j y hj _ => absurd hj (by omega)⟩
      case round =>
        obtain ⟨q, hq, rfl, HQ⟩ := hrel
        by_cases hqk : q < k
        · obtain ⟨b, off, hAe, hcell⟩ := HR.out.2 (by omega)
          obtain ⟨x, hx⟩ : ∃ x, us[q]? = some x := ⟨us[q]'(by have := HLN.out; omega), List.getElem?_eq_getElem _⟩
          obtain ⟨d1, d2⟩ := hcell q x hx
          have HX := Lib.hid hx
          clear hx hcell
          cases ho : (Op.bytesLess x.1.toList o.toList || x.1.toList == o.toList)
          · have HO1 : Hid (leqS x.1 o = false) := Lib.hid ho
            rcases HA.out with ⟨rfl, _, _⟩ | ⟨g, rfl, hkc, hcm, hgs⟩
            · cases hAe
            · injection hAe with e9
              injection e9 with e1 e2
              subst e1 e2
              have hcap : c1 ≤ 9223372036854775807 := hcm
              have f5 : ¬ (c1 = q) := by omega
              have f6 : q ≤ c1 := by omega
              simp only [Nat.zero_add] at d1 d2
              clear hcm
              have H1 := hap1 (w1 := w1) (X := .slice (some ⟨g, q * 2, none⟩) (k - q) (c1 - q)) (m := (k - q)) (news := (flat enc2 us).drop (q * 2)) o c (fun W hW => src_drop HR.out hW hgs hq) (by omega)
              have H2 := hap2 (enc2 (o, c) ++ (flat enc2 us).drop (q * 2)) HR.out hq hn (fun h => by cases h) (fun a ha => by cases ha; exact hgs)
              have hM : (enc2 (o, c) ++ (flat enc2 us).drop (q * 2)).length = (1 + (k - q)) * 2 := mid_len0 HR.out hq (by omega)
              have H3 : Hid (∀ b G W, ((∀ j u, ((flat enc2 us).take (q * 2) ++ (enc2 (o, c) ++ (flat enc2 us).drop (q * 2)))[j]? = some u → W.cell? ⟨b, j, none⟩ = some u) ∧ Below w1.heap.size w1 W) → ChargeR us o c w (.returned (.slice (some ⟨b, 0, none⟩) (q + (1 + (k - q))) G)) W) := Lib.hid fun b G W h => charge_fin0 HLN.out HM.out hq (by omega) HQ.out (fun y hy => by rw [HX.out] at hy; cases hy; exact HO1.out) HB.out h.1 h.2
              have HM2 := Lib.hid hM
              have H11 := Lib.hid H1
              have H22 := Lib.hid H2
              clear hM H1 H2
              go_wp2
              clear d1 d2
              go_region_law (first
                | (refine step_append_ex rfl _ _ rfl (.slice (some ⟨w1.heap.size, 0, none⟩) 1 1) (.slice (some ⟨g, q * 2, none⟩) (k - q) (c1 - q)) (by simp [Act.eval, Act.put]) (by simp [Act.eval, Act.put]) (H11.out _ ?h1a _) ?_; (case h1a => rfl); rintro b1 cA WA ⟨hcA, hbA⟩; have HC := Lib.hid hcA; have HBA := Lib.hid hbA; clear hcA hbA)
                | (refine step_append_ex rfl _ _ rfl (.slice (some ⟨g, 0, none⟩) q q) (.slice (some ⟨b1, 0, none⟩) (1 + (k - q)) cA) (by simp [Act.eval, Act.put]) (by simp [Act.eval, Act.put]) (H22.out _ b1 _ cA ?h2a HM2.out ?h3a ?h4a (one_mid _ _ _) HC.out _) ?_; (case h2a => exact ((Below.refl _ _).alloc (Nat.le_refl _) _).drew.trans HBA.out); (case h3a => omega); (case h4a => omega); rintro b2 cB WB h9; have H9 := Lib.hid (H3.out b2 cB WB h9); clear h9))
              go_wp2
              go_ret
              exact H9.out
          · have HO1 : Hid (leqS x.1 o = true) := Lib.hid ho
            subst hAe
            go_wp2
            case roundEnd => exact ⟨⟨q + 1, by omega, rfl, Lib.hid fun j y hj hy => by
              rcases Nat.lt_or_ge j q with h | h
              · exact HQ.out j y h hy
              · obtain rfl : j = q := by omega
                rw [HX.out] at hy
                cases hy
                exact HO1.out⟩, by simp [intOf]; omega⟩
        · obtain rfl : q = k := by omega
          rcases HA.out with ⟨rfl, rfl, rfl⟩ | ⟨g, rfl, hkc, hcm, hgs⟩
          · skip
            have H1 := hap1 (w1 := w1) (X := .slice none 0 0) (m := 0) (news := (flat enc2 us).drop (0 * 2)) o c (fun W hW => src_nil HR.out _) (by omega)
            have H2 := hap2 (enc2 (o, c) ++ (flat enc2 us).drop (0 * 2)) HR.out hq hn (fun h => rfl) (fun a ha => by cases ha)
            have hM : (enc2 (o, c) ++ (flat enc2 us).drop (0 * 2)).length = (1 + 0) * 2 := mid_len0 HR.out hq (by omega)
            have H3 : Hid (∀ b G W, ((∀ j u, ((flat enc2 us).take (0 * 2) ++ (enc2 (o, c) ++ (flat enc2 us).drop (0 * 2)))[j]? = some u → W.cell? ⟨b, j, none⟩ = some u) ∧ Below w1.heap.size w1 W) → ChargeR us o c w (.returned (.slice (some ⟨b, 0, none⟩) (0 + (1 + 0)) G)) W) := Lib.hid fun b G W h => charge_fin0 HLN.out HM.out hq (by omega) HQ.out (fun y hy => by rw [List.getElem?_eq_none (by have := HLN.out; omega)] at hy; cases hy) HB.out h.1 h.2
            have HM2 := Lib.hid hM
            have H11 := Lib.hid H1
            have H22 := Lib.hid H2
            clear hM H1 H2
            go_wp2
            go_region_law (first
              | (refine step_append_ex rfl _ _ rfl (.slice (some ⟨w1.heap.size, 0, none⟩) 1 1) (.slice none 0 0) (by simp [Act.eval, Act.put]) (by simp [Act.eval, Act.put]) (H11.out _ ?h1b _) ?_; (case h1b => rfl); rintro b1 cA WA ⟨hcA, hbA⟩; have HC := Lib.hid hcA; have HBA := Lib.hid hbA; clear hcA hbA)
              | (refine step_append_ex rfl _ _ rfl (.slice none 0 0) (.slice (some ⟨b1, 0, none⟩) (1 + 0) cA) (by simp [Act.eval, Act.put]) (by simp [Act.eval, Act.put]) (H22.out _ b1 _ cA ?h2b HM2.out ?h3b ?h4b (one_mid _ _ _) HC.out _) ?_; (case h2b => exact ((Below.refl _ _).alloc (Nat.le_refl _) _).drew.trans HBA.out); (case h3b => omega); (case h4b => omega); rintro b2 cB WB h9; have H9 := Lib.hid (H3.out b2 cB WB h9); clear h9))
            go_wp2
            go_ret
            exact H9.out
          · have hcap : c1 ≤ 9223372036854775807 := hcm
            have f6 : q ≤ c1 := hkc
            by_cases f5 : c1 = q
            · have f9 := Lib.hid f5
              subst f5
              have H1 := hap1 (w1 := w1) (X := .slice (some ⟨g, 0, none⟩) 0 0) (m := 0) (news := (flat enc2 us).drop (c1 * 2)) o c (fun W hW => src_end HR.out _ _) (by omega)
              have H2 := hap2 (enc2 (o, c) ++ (flat enc2 us).drop (c1 * 2)) HR.out hq hn (fun h => by cases h) (fun a ha => by cases ha; exact hgs)
              have hM : (enc2 (o, c) ++ (flat enc2 us).drop (c1 * 2)).length = (1 + 0) * 2 := mid_len0 HR.out hq (by omega)
              have H3 : Hid (∀ b G W, ((∀ j u, ((flat enc2 us).take (c1 * 2) ++ (enc2 (o, c) ++ (flat enc2 us).drop (c1 * 2)))[j]? = some u → W.cell? ⟨b, j, none⟩ = some u) ∧ Below w1.heap.size w1 W) → ChargeR us o c w (.returned (.slice (some ⟨b, 0, none⟩) (c1 + (1 + 0)) G)) W) := Lib.hid fun b G W h => charge_fin0 HLN.out HM.out hq (by omega) HQ.out (fun y hy => by rw [List.getElem?_eq_none (by have := HLN.out; omega)] at hy; cases hy) HB.out h.1 h.2
              have HM2 := Lib.hid hM
              have H11 := Lib.hid H1
              have H22 := Lib.hid H2
              clear hM H1 H2
              go_wp2
              go_region_law (first
                | (refine step_append_ex rfl _ _ rfl (.slice (some ⟨w1.heap.size, 0, none⟩) 1 1) (.slice (some ⟨g, 0, none⟩) 0 0) (by simp [Act.eval, Act.put]) (by simp [Act.eval, Act.put]) (H11.out _ ?h1c _) ?_; (case h1c => rfl); rintro b1 cA WA ⟨hcA, hbA⟩; have HC := Lib.hid hcA; have HBA := Lib.hid hbA; clear hcA hbA)
                | (refine step_append_ex rfl _ _ rfl (.slice (some ⟨g, 0, none⟩) c1 c1) (.slice (some ⟨b1, 0, none⟩) (1 + 0) cA) (by simp [Act.eval, Act.put]) (by simp [Act.eval, Act.put]) (H22.out _ b1 _ cA ?h2c HM2.out ?h3c ?h4c (one_mid _ _ _) HC.out _) ?_; (case h2c => exact ((Below.refl _ _).alloc (Nat.le_refl _) _).drew.trans HBA.out); (case h3c => omega); (case h4c => omega); rintro b2 cB WB h9; have H9 := Lib.hid (H3.out b2 cB WB h9); clear h9))
              go_wp2
              go_ret
              exact H9.out
            · skip
              have H1 := hap1 (w1 := w1) (X := .slice (some ⟨g, q * 2, none⟩) 0 (c1 - q)) (m := 0) (news := (flat enc2 us).drop (q * 2)) o c (fun W hW => src_end HR.out _ _) (by omega)
              have H2 := hap2 (enc2 (o, c) ++ (flat enc2 us).drop (q * 2)) HR.out hq hn (fun h => by cases h) (fun a ha => by cases ha; exact hgs)
              have hM : (enc2 (o, c) ++ (flat enc2 us).drop (q * 2)).length = (1 + 0) * 2 := mid_len0 HR.out hq (by omega)
              have H3 : Hid (∀ b G W, ((∀ j u, ((flat enc2 us).take (q * 2) ++ (enc2 (o, c) ++ (flat enc2 us).drop (q * 2)))[j]? = some u → W.cell? ⟨b, j, none⟩ = some u) ∧ Below w1.heap.size w1 W) → ChargeR us o c w (.returned (.slice (some ⟨b, 0, none⟩) (q + (1 + 0)) G)) W) := Lib.hid fun b G W h => charge_fin0 HLN.out HM.out hq (by omega) HQ.out (fun y hy => by rw [List.getElem?_eq_none (by have := HLN.out; omega)] at hy; cases hy) HB.out h.1 h.2
              have HM2 := Lib.hid hM
              have H11 := Lib.hid H1
              have H22 := Lib.hid H2
              clear hM H1 H2
              go_wp2
              go_region_law (first
                | (refine step_append_ex rfl _ _ rfl (.slice (some ⟨w1.heap.size, 0, none⟩) 1 1) (.slice (some ⟨g, q * 2, none⟩) 0 (c1 - q)) (by simp [Act.eval, Act.put]) (by simp [Act.eval, Act.put]) (H11.out _ ?h1d _) ?_; (case h1d => rfl); rintro b1 cA WA ⟨hcA, hbA⟩; have HC := Lib.hid hcA; have HBA := Lib.hid hbA; clear hcA hbA)
                | (refine step_append_ex rfl _ _ rfl (.slice (some ⟨g, 0, none⟩) q q) (.slice (some ⟨b1, 0, none⟩) (1 + 0) cA) (by simp [Act.eval, Act.put]) (by simp [Act.eval, Act.put]) (H22.out _ b1 _ cA ?h2d HM2.out ?h3d ?h4d (one_mid _ _ _) HC.out _) ?_; (case h2d => exact ((Below.refl _ _).alloc (Nat.le_refl _) _).drew.trans HBA.out); (case h3d => omega); (case h4d => omega); rintro b2 cB WB h9; have H9 := Lib.hid (H3.out b2 cB WB h9); clear h9))
              go_wp2
              go_ret
              exact H9.out
end Go.Proofs.Ytknpcphaieoocaa
