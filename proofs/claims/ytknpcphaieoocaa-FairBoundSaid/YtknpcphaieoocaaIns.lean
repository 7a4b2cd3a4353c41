/- slices.Insert at one usage, into an own row. -/
import Derived.Test.YtknpcphaieoocaaMade
import Derived.Lib.AppendZeros
import Derived.Lib.AppendZerosOnto
import Derived.Lib.Overlaps
import Derived.Laws.CopyRow
namespace Go.Proofs.Ytknpcphaieoocaa
open Go.RowKit
set_option linter.unusedSimpArgs false
set_option linter.unusedVariables false

/-- copy into a row, whatever the elements' size -/
theorem run_copy_rowN (P : Program) (w : World) (dT sT ty elem : TypeId) (size g o dLen dCap : Nat) (a : Addr) (sLen sCap : Nat) (cur : Array Value) (t : TypeId) (cs : List Value)
    (hu : P.underlying dT = some (.slice elem)) (hs : (P.info? elem).map (·.size) = some size)
    (hg : w.heap[g]? = some (.cells cur t (0, 0))) (hn : cs.length = Nat.min sLen dLen * size)
    (hsrc : ∀ j v, cs[j]? = some v → w.cell? (a.add j) = some v) (hfit : o + cs.length ≤ cur.size) (h1 : ∀ v ∈ cs, v.oneCell' = true) :
    (Builtin.copy_ #[dT, sT] ty #[.slice (some ⟨g, o, none⟩) dLen dCap, .slice (some a) sLen sCap]).run P w =
      .ok (goInt (Nat.min sLen dLen)) (w.setRow g (cur.toList.take o ++ cs ++ cur.toList.drop (o + cs.length)).toArray) := by
  have hl := run_loadCells_list (P := P) w a cs hsrc
  have hst := run_storeCells_at P g o t cs 0 cur w hg (by simpa using hfit) h1
  cases hq : P.info? elem with
  | none => simp [hq] at hs
  | some i =>
    have hi : i.size = size := by simpa [hq] using hs
    simp [Builtin.copy_, run_underlying hu, Builtin.lenOf, Builtin.firstCells, sizeOf, typeInfo, hq, hi, ← hn, hl, hst]
theorem wp_copy_run {P : Program} (w : World) {o : Oper} {a : Act} {K : Act → World → Prop} {Q : Exit → Act → World → Prop} (d s : Operand) (t t' : TypeId)
    (ho : o.op = .call { callee := .builtin .copy, args := #[d, s], argTypes := #[t, t'] }) (v u : Value) (hd : a.eval d = v) (hs : a.eval s = u) {v' : Value} {w' : World}
    (hr : (Builtin.copy_ #[t, t'] o.type #[v, u]).run P w = .ok v' w') (h : K (a.put o.dst v') w') : o.wp P a w K Q := by
  unfold Oper.wp execOp
  simp only [ho, resolve, invoke, builtin, Sem.run_bind, Sem.run_pure, Result.andThen_ok, List.map_toArray, List.map_cons, List.map_nil, hd, hs, hr]
  exact h
theorem wpList_copy_run {P : Program} (w : World) {ops : Array Oper} {rest : List Oper} {o : Oper} {a : Act} {Q : Exit → Act → World → Prop} (hgd : o.guard = none) (d s : Operand) (t t' : TypeId)
    (ho : o.op = .call { callee := .builtin .copy, args := #[d, s], argTypes := #[t, t'] }) (v u : Value) (hd : a.eval d = v) (hs : a.eval s = u) {v' : Value} {w' : World}
    (hr : (Builtin.copy_ #[t, t'] o.type #[v, u]).run P w = .ok v' w') (h : wpList P ops Q rest (a.put o.dst v') w') : wpList P ops Q (o :: rest) a w :=
  wpList_plain hgd fun _ hK => wp_copy_run w d s t t' ho v u hd hs hr (hK _ _ h)
theorem step_copy_run {P : Program} {ops : Array Oper} {o : Oper} {a : Act} {w : World} {K : Act → World → Prop} {Q : Exit → Act → World → Prop} {E : Prop}
    (hg : o.guard = none) (d x : Operand) (dT sT : TypeId) (hop : o.op = Op.call { callee := Callee.builtin Builtin.copy, args := #[d, x], argTypes := #[dT, sT] })
    (v u : Value) (hd : a.eval d = v) (hx : a.eval x = u) {v' : Value} {w' : World} (hr : (Builtin.copy_ #[dT, sT] o.type #[v, u]).run P w = .ok v' w') (hK : K (a.put o.dst v') w') :
    if Region.wanted o (yielded ops a.tmps) = true then Oper.wp P o a w K Q else E := by
  have hw : Region.wanted o (yielded ops a.tmps) = true := by simp [Region.wanted, hg]
  rw [if_pos hw]
  exact wp_copy_run w d x dT sT hop v u hd hx hr hK

/-- what the two copies leave -/
theorem ins_list {cur xs vs : List Value} {a n : Nat} (hx : cur.take n = xs) (hn : xs.length = n) (ha : a ≤ n) (hfit : n + vs.length ≤ cur.length) :
    ((cur.take (a + vs.length) ++ xs.drop a ++ cur.drop (a + vs.length + (xs.drop a).length)).take a ++ vs ++ (cur.take (a + vs.length) ++ xs.drop a ++ cur.drop (a + vs.length + (xs.drop a).length)).drop (a + vs.length)).take (n + vs.length) = xs.take a ++ vs ++ xs.drop a := by
  have h1 : (cur.take (a + vs.length) ++ xs.drop a ++ cur.drop (a + vs.length + (xs.drop a).length)).take a = xs.take a := by
    rw [List.append_assoc, List.take_append_of_le_length (by rw [List.length_take]; omega), List.take_take, ← hx, List.take_take]
    congr 1
    omega
  have h2 : (cur.take (a + vs.length) ++ xs.drop a ++ cur.drop (a + vs.length + (xs.drop a).length)).drop (a + vs.length) = xs.drop a ++ cur.drop (a + vs.length + (xs.drop a).length) := by
    rw [List.append_assoc]
    have : (cur.take (a + vs.length)).length = a + vs.length := by rw [List.length_take]; omega
    rw [List.drop_append_of_le_length (by omega), List.drop_of_length_le (by omega), List.nil_append]
  rw [h1, h2]
  have h3 : (xs.take a ++ vs ++ xs.drop a).length = n + vs.length := by
    simp only [List.length_append, List.length_take, List.length_drop]; omega
  rw [← List.append_assoc, ← h3, List.take_left]
theorem ins_list2 {olds zs xs vs : List Value} {a n : Nat} (hx : olds = xs.take a) (hn : xs.length = n) (ha : a ≤ n) (hfit : n + vs.length ≤ (olds ++ zs).length) :
    (((olds ++ zs).take a ++ vs ++ (olds ++ zs).drop (a + vs.length)).take (a + vs.length) ++ xs.drop a ++ ((olds ++ zs).take a ++ vs ++ (olds ++ zs).drop (a + vs.length)).drop (a + vs.length + (xs.drop a).length)).take (n + vs.length) = xs.take a ++ vs ++ xs.drop a := by
  have hl : olds.length = a := by rw [hx, List.length_take]; omega
  have h0 : (olds ++ zs).take a = xs.take a := by rw [List.take_append_of_le_length (by omega), hx, List.take_take, Nat.min_self]
  have h1 : ((olds ++ zs).take a ++ vs ++ (olds ++ zs).drop (a + vs.length)).take (a + vs.length) = xs.take a ++ vs := by
    rw [h0]
    have : (xs.take a ++ vs).length = a + vs.length := by rw [List.length_append, List.length_take]; omega
    rw [← this, List.take_left]
  rw [h1]
  have h3 : (xs.take a ++ vs ++ xs.drop a).length = n + vs.length := by
    simp only [List.length_append, List.length_take, List.length_drop]; omega
  rw [← h3, List.take_left]

theorem heap_size_setRow (w : World) (g : Nat) (cs : Array Value) : (w.setRow g cs).heap.size = w.heap.size := by simp [World.setRow]
/-- what Insert hands back -/
def InsR (base : Nat) (us : List (ByteArray × Int)) (k : Nat) (x : ByteArray × Int) (w : World) (e : Ending) (w' : World) : Prop :=
  ∃ v', e = .returned v' ∧ w'.ownsRow base 55 2 v' (us.length + 1) (flat enc2 (us.take k ++ x :: us.drop k)) ∧ Below base w w'
theorem flat_take (us : List (ByteArray × Int)) (k : Nat) : (flat enc2 us).take (k * 2) = flat enc2 (us.take k) := by
  induction us generalizing k with
  | nil => simp [flat]
  | cons y l ih =>
    cases k with
    | zero => simp [flat]
    | succ k =>
      rw [flat_cons, List.take_succ_cons, flat_cons, ← ih, Nat.succ_mul]
      simp [enc2]
theorem flat_drop (us : List (ByteArray × Int)) (k : Nat) : (flat enc2 us).drop (k * 2) = flat enc2 (us.drop k) := by
  induction us generalizing k with
  | nil => simp [flat]
  | cons y l ih =>
    cases k with
    | zero => simp [flat]
    | succ k =>
      rw [flat_cons, List.drop_succ_cons, ← ih, Nat.succ_mul]
      simp [enc2]
theorem flat_ins (us : List (ByteArray × Int)) (k : Nat) (x : ByteArray × Int) : flat enc2 (us.take k ++ x :: us.drop k) = (flat enc2 us).take (k * 2) ++ enc2 x ++ (flat enc2 us).drop (k * 2) := by
  rw [flat_append, flat_cons, flat_take, flat_drop, List.append_assoc]

theorem ins_end {base : Nat} {v v' : Value} {us : List (ByteArray × Int)} {N : Nat} {x : ByteArray × Int} {w w' : World} (hN : N = us.length) (hl : ∀ k, v.ownBlock = some k → base ≤ k ∧ k < w.heap.size) (hb : base ≤ w.heap.size)
    (hown : w'.ownsRow base 55 2 v' (N + 1) (flat enc2 us ++ enc2 x)) (hg : w.grownBy w' v.ownBlock) : InsR base us N x w (.returned v') w' := by
  subst hN
  refine ⟨v', rfl, ?_, below_of_grown hg hb (fun k hk => (hl k hk).1)⟩
  rw [List.take_length, List.drop_length, flat_append, flat_cons]
  simpa [flat] using hown

set_option maxHeartbeats 4000000 in
set_option maxRecDepth 100000 in
theorem insEnd (base vb : Nat) (v : Value) (us : List (ByteArray × Int)) (o : ByteArray) (z : Int) (w : World) (hw : w.heap[vb]? = some (.cells #[.string o, .int .i64 z] 55 (0, 0))) (hn : us.length ≤ 1000)
    (h : w.ownsRow base 55 2 v us.length (flat enc2 us)) (hb : base ≤ w.heap.size) :
    Calls Try.prog 29 #[v, .int .i64 us.length, .slice (some ⟨vb, 0, none⟩) 1 1] w (InsR base us us.length (o, z) w) := by
  obtain ⟨i0, hi, hz0, hz1, hz2⟩ := info_parts info55
  have hc : ∀ j u, (enc2 (o, z))[j]? = some u → w.cell? ((⟨vb, 0, none⟩ : Addr).add j) = some u := by
    intro j u hj
    rw [addr_lit]
    have hj2 : j < 2 := by have := (List.getElem?_eq_some_iff.1 hj).1; simpa [enc2] using this
    match j, hj2 with
    | 0, _ => simp [enc2] at hj; subst hj; simp [World.cell?, hw]
    | 1, _ => simp [enc2] at hj; subst hj; simp [World.cell?, hw]
  have HL := Lib.hid h.lt
  have HO := Lib.hid h
  obtain ⟨N, hN⟩ : ∃ N, N = us.length := ⟨_, rfl⟩
  have HNN := Lib.hid hN
  rcases h.2 with ⟨rfl, h0⟩ | ⟨g, cap, cur, rfl, hg, hh, hnc, hcm, hsz, htk⟩
  · have hN0 : N = 0 := by omega
    rw [← hN] at hn HO ⊢
    subst hN0
    clear h hw h0 hN
    go_enter Try.func29, Try.ntmps29
    go_wp2_with (at_builtin; refine wpList_append_own_at _ rfl _ _ 23 rfl base 55 i0 _ 2 24 Try.underlying23 hi hz0 hz1 hz2 rfl (by decide) (.slice none 0 0) 0 _ rfl HO.out _ 1 1 _ rfl rfl hc (one_enc2 _) ?_ ?_ hb ?_; (unfold maxLen; omega); omega; intro v' w' hown hgr _ hat; have HR := Lib.hid (ins_end HNN.out HL.out hb hown hgr); clear hown hgr hat)
    go_ret
    exact HR.out
  · rw [← hN] at hnc hn HO HL ⊢
    have hcap : cap ≤ 9223372036854775807 := hcm
    clear h hw hh htk hsz hN
    go_enter Try.func29, Try.ntmps29
    go_wp2_with (at_builtin; refine wpList_append_own_at _ rfl _ _ 23 rfl base 55 i0 _ 2 24 Try.underlying23 hi hz0 hz1 hz2 rfl (by decide) (.slice (some ⟨g, 0, none⟩) N cap) N _ rfl HO.out _ 1 1 _ rfl rfl hc (one_enc2 _) ?_ ?_ hb ?_; (unfold maxLen; omega); omega; intro v' w' hown hgr _ hat; have HR := Lib.hid (ins_end HNN.out HL.out hb hown hgr); clear hown hgr hat)
    all_goals (go_ret; exact HR.out)

set_option maxHeartbeats 400000 in
set_option maxRecDepth 100000 in
theorem insRoom (base vb g cap : Nat) (cur : Array Value) (us : List (ByteArray × Int)) (k : Nat) (o : ByteArray) (z : Int) (w : World) (hw : w.heap[vb]? = some (.cells #[.string o, .int .i64 z] 55 (0, 0))) (hn : us.length ≤ 1000) (hk : k < us.length)
    (hh : w.heap[g]? = some (.cells cur 55 (0, 0))) (hvb : vb ≠ g) (hbg : base ≤ g) (hcm : cap ≤ maxLen) (hsz : cur.size = cap * 2) (htk : cur.toList.take (us.length * 2) = flat enc2 us) (hroom : us.length + 1 ≤ cap) :
    Calls Try.prog 29 #[.slice (some ⟨g, 0, none⟩) us.length cap, .int .i64 k, .slice (some ⟨vb, 0, none⟩) 1 1] w (InsR base us k (o, z) w) := by
  obtain ⟨i0, hi, hz0, hz1, hz2⟩ := info_parts info55
  have hsz2 : (Try.prog.info? 55).map (·.size) = some 2 := by rw [hi]; simp [hz1]
  have hfl : (flat enc2 us).length = us.length * 2 := flat_length enc2_len us
  have hcur : ∀ j v, (flat enc2 us)[j]? = some v → cur[j]? = some v := fun j v hj => by
    rw [← htk, List.getElem?_take] at hj
    split at hj
    · simpa using hj
    · cases hj
  obtain ⟨n, hN⟩ : ∃ n, n = us.length := ⟨_, rfl⟩
  rw [← hN] at hn hk htk hroom hfl ⊢
  have hdl : ((flat enc2 us).drop (k * 2)).length = (n - k) * 2 := by rw [List.length_drop, hfl]; omega
  have hcp1 : ∀ (W : World), W.heap = w.heap → ∀ ty dc sc, (Builtin.copy_ #[23, 23] ty #[.slice (some ⟨g, (k + 1) * 2, none⟩) (n - k) dc, .slice (some ⟨g, k * 2, none⟩) (n + 1 - k) sc]).run Try.prog W
      = .ok (goInt ((n - k : Nat) : Int)) (W.setRow g (cur.toList.take ((k + 1) * 2) ++ (flat enc2 us).drop (k * 2) ++ cur.toList.drop ((k + 1) * 2 + ((flat enc2 us).drop (k * 2)).length)).toArray) := fun W hW ty dc sc => by
    have := run_copy_rowN Try.prog W 23 23 ty 55 2 g ((k + 1) * 2) (n - k) dc ⟨g, k * 2, none⟩ (n + 1 - k) sc cur 55 ((flat enc2 us).drop (k * 2)) Try.underlying23 hsz2 (by rw [hW]; exact hh)
      (by rw [hdl]; congr 1; show n - k = min _ _; omega)
      (fun j v hj => by
        rw [addr_lit]
        rw [List.getElem?_drop] at hj
        have := hcur _ v hj
        simp [World.cell?, hW, hh, this])
      (by rw [hdl]; omega) (fun v hv => one_fl2 us v (List.mem_of_mem_drop hv))
    rw [this, show Nat.min (n + 1 - k) (n - k) = n - k by show min _ _ = _; omega]
  obtain ⟨C1, hC1⟩ : ∃ C1, C1 = (cur.toList.take ((k + 1) * 2) ++ (flat enc2 us).drop (k * 2) ++ cur.toList.drop ((k + 1) * 2 + ((flat enc2 us).drop (k * 2)).length)).toArray := ⟨_, rfl⟩
  rw [← hC1] at hcp1
  have hC1s : C1.size = cap * 2 := by
    rw [hC1]
    simp only [List.size_toArray, List.length_append, List.length_take, List.length_drop, hfl, Array.length_toList, hsz]
    omega
  obtain ⟨C2, hC2⟩ : ∃ C2, C2 = (C1.toList.take (k * 2) ++ enc2 (o, z) ++ C1.toList.drop (k * 2 + 2)).toArray := ⟨_, rfl⟩
  have hcp2 : ∀ (W : World), W.heap = (w.setRow g C1).heap → ∀ ty dc, (Builtin.copy_ #[23, 23] ty #[.slice (some ⟨g, k * 2, none⟩) (n + 1 - k) dc, .slice (some ⟨vb, 0, none⟩) 1 1]).run Try.prog W = .ok (goInt 1) (W.setRow g C2) := fun W hW ty dc => by
    have hm : Nat.min 1 (n + 1 - k) = 1 := by show min _ _ = _; omega
    have := run_copy_rowN Try.prog W 23 23 ty 55 2 g (k * 2) (n + 1 - k) dc ⟨vb, 0, none⟩ 1 1 C1 55 (enc2 (o, z)) Try.underlying23 hsz2 (by rw [hW]; exact setRow_heap _ _ _ _ _ _ hh)
      (by rw [hm]; rfl)
      (fun j v hj => by
        have hh2 : W.heap[vb]? = some (.cells #[.string o, .int .i64 z] 55 (0, 0)) := by rw [hW, setRow_other _ _ _ _ hvb]; exact hw
        rw [addr_lit]
        have hj2 : j < 2 := by have := (List.getElem?_eq_some_iff.1 hj).1; simpa [enc2] using this
        match j, hj2 with
        | 0, _ => simp [enc2] at hj; subst hj; simp [World.cell?, hh2]
        | 1, _ => simp [enc2] at hj; subst hj; simp [World.cell?, hh2])
      (by rw [hC1s]; show k * 2 + 2 ≤ _; omega) (one_enc2 _)
    rw [this, hm, hC2]; rfl
  have HR : Hid (∀ W, W.heap = ((w.setRow g C1).setRow g C2).heap → W.os = w.os → W.tape = w.tape → W.output = w.output → InsR base us k (o, z) w (.returned (.slice (some ⟨g, 0, none⟩) (n + 1) cap)) W) := Lib.hid fun W hW ho ht hu => by
    refine ⟨_, rfl, ⟨?_, .inr ⟨g, cap, C2, by rw [hN], hbg, ?_, by omega, hcm, ?_, ?_⟩⟩, ⟨ho, ht, hu, ?_, ?_⟩⟩
    · rw [flat_length enc2_len]; simp; omega
    · rw [hW]; exact setRow_heap _ _ _ _ _ _ (setRow_heap _ _ _ _ _ _ hh)
    · rw [hC2]
      simp only [List.size_toArray, List.length_append, List.length_take, List.length_drop, Array.length_toList, hC1s]
      show min (k * 2) (cap * 2) + 2 + _ = _
      omega
    · have := ins_list (vs := enc2 (o, z)) (a := k * 2) htk hfl (by omega) (by show n * 2 + 2 ≤ _; rw [Array.length_toList, hsz]; omega)
      rw [flat_ins, ← this, hC2, hC1, ← hN]
      have e1 : (n + 1) * 2 = n * 2 + (enc2 (o, z)).length := by show _ = n * 2 + 2; omega
      have e2 : (k + 1) * 2 = k * 2 + (enc2 (o, z)).length := by show _ = k * 2 + 2; omega
      have e3 : k * 2 + 2 = k * 2 + (enc2 (o, z)).length := rfl
      rw [e1, e2, e3]
    · rw [hW, heap_size_setRow, heap_size_setRow]; exact Nat.le_refl _
    · intro i hib
      rw [hW, setRow_other _ _ _ _ (by omega), setRow_other _ _ _ _ (by omega)]
  have hov : ∀ lb cb, (callFunc 35 #[.slice (some ⟨vb, 0, none⟩) 1 1, .slice (some ⟨g, (k + 1) * 2, none⟩) lb cb]).run Try.prog w = .ok (.value (.bool false)) w := fun lb cb => by
    rw [run_callFunc_extern Try.func35 (by kernel_rfl) (by kernel_rfl) (by kernel_rfl) (e := Extern.SlicesOverlaps.overlaps #[23, 23] #[4]) (by kernel_rfl),
      Lib.run_overlaps_apart w 23 4 55 Try.underlying23 2 (fun w => by simp [sizeOf, typeInfo, hi, hz1]) ⟨vb, 0, none⟩ ⟨g, (k + 1) * 2, none⟩ 1 1 lb cb hvb 55 55 2 (cap * 2) (by simp [World.shape?, hw]) (by simp [World.shape?, hh, hsz]) (by omega) (by simp [World.frozen?, hw]) (by simp [World.frozen?, hw])]
    rfl
  have hw1 : IntKind.i64.wrap ((k : Int) + 1) = (k : Int) + 1 := by rw [IntKind.wrap_i64]; omega
  have hw2 : IntKind.i64.wrap ((n : Int) + 1) = (n : Int) + 1 := by rw [IntKind.wrap_i64]; omega
  have hcap : cap ≤ 9223372036854775807 := hcm
  have hb1 : ((k : Int) == (n : Int)) = false := by simp; omega
  have hb2 : decide ((cap : Int) < (n : Int) + 1) = false := by simp; omega
  have f1 : (0 : Int) ≤ (k : Int) + 1 := by omega
  have f2 : k ≤ n := by omega
  have f3 : ¬ (cap = k + 1) := by omega
  have f4 : (k : Int) ≤ (n : Int) + 1 := by omega
  have f5 : ¬ (cap = k) := by omega
  clear hC1 hC2 hN hw hh hcur htk hfl hdl hsz hC1s
  go_enter Try.func29, Try.ntmps29
  go_wp2_with (simp only [hov])
  go_region_law (refine step_copy_run rfl _ _ 23 23 rfl (.slice (some ⟨g, (k + 1) * 2, none⟩) (n - k) (cap - (k + 1))) (.slice (some ⟨g, k * 2, none⟩) (n + 1 - k) (cap - k)) (by simp [Act.eval, Act.put]) (by simp [Act.eval, Act.put]) (hcp1 w.drew rfl _ _ _) ?_)
  go_wp2_with (refine wpList_copy_run _ rfl _ _ 23 23 rfl (.slice (some ⟨g, k * 2, none⟩) (n + 1 - k) (cap - k)) (.slice (some ⟨vb, 0, none⟩) 1 1) rfl rfl (hcp2 (w.drew.setRow g C1) rfl _ _) ?_)
  go_ret
  exact HR.out _ rfl rfl rfl rfl

set_option maxHeartbeats 1000000 in
set_option maxRecDepth 100000 in
theorem insGrow (base vb g cap : Nat) (cur : Array Value) (us : List (ByteArray × Int)) (k : Nat) (o : ByteArray) (z : Int) (w : World) (hw : w.heap[vb]? = some (.cells #[.string o, .int .i64 z] 55 (0, 0))) (hn : us.length ≤ 1000) (hk : k < us.length)
    (hh : w.heap[g]? = some (.cells cur 55 (0, 0))) (hvb : vb ≠ g) (hb : base ≤ w.heap.size) (hcm : cap ≤ maxLen) (hsz : cur.size = cap * 2) (htk : cur.toList.take (us.length * 2) = flat enc2 us) (hroom : cap = us.length) :
    Calls Try.prog 29 #[.slice (some ⟨g, 0, none⟩) us.length cap, .int .i64 k, .slice (some ⟨vb, 0, none⟩) 1 1] w (InsR base us k (o, z) w) := by
  obtain ⟨i0, hi, hz0, hz1, hz2⟩ := info_parts info55
  have hsz2 : (Try.prog.info? 55).map (·.size) = some 2 := by rw [hi]; simp [hz1]
  have hfl : (flat enc2 us).length = us.length * 2 := flat_length enc2_len us
  have hcur : ∀ j v, (flat enc2 us)[j]? = some v → cur[j]? = some v := fun j v hj => by
    rw [← htk, List.getElem?_take] at hj
    split at hj
    · simpa using hj
    · cases hj
  obtain ⟨n, hN⟩ : ∃ n, n = us.length := ⟨_, rfl⟩
  rw [← hN] at hn hk htk hroom hfl ⊢
  have hgw : g < w.heap.size := (Array.getElem?_eq_some_iff.1 hh).1
  have hvw : vb < w.heap.size := (Array.getElem?_eq_some_iff.1 hw).1
  have hdl : ((flat enc2 us).drop (k * 2)).length = (n - k) * 2 := by rw [List.length_drop, hfl]; omega
  have htl : ((flat enc2 us).take (k * 2)).length = k * 2 := by rw [List.length_take, hfl]; omega
  have hik : k + (n + 1 - k) = n + 1 := by omega
  have hold : (Builtin.firstCells i0.size k (.slice (some ⟨g, 0, none⟩) k cap)).run Try.prog w.drew = .ok ((flat enc2 us).take (k * 2)).toArray w.drew := by
    rw [hz1]
    exact run_firstCells_some w.drew 2 k ⟨g, 0, none⟩ k cap _ htl (fun j v hj => by
      rw [addr_lit]
      rw [List.getElem?_take] at hj
      split at hj
      · have := hcur _ v hj
        show w.cell? _ = _
        simp [World.cell?, hh, this]
      · cases hj)
  obtain ⟨G, hG⟩ : ∃ G, G = grownCap w (n + 1) cap 55 := ⟨_, rfl⟩
  obtain ⟨ZS, hZS⟩ : ∃ ZS : Array Value, ZS = Builtin.zeroCells (Value.agg #[.string ⟨#[]⟩, .int .i64 0]).cells (n + 1 - k) ++ Builtin.zeroCells (Value.agg #[.string ⟨#[]⟩, .int .i64 0]).cells (G - (n + 1)) := ⟨_, rfl⟩
  obtain ⟨ROW, hROW⟩ : ∃ ROW : Array Value, ROW = ((flat enc2 us).take (k * 2)).toArray ++ ZS := ⟨_, rfl⟩
  have hGn : n + 1 ≤ G := by rw [hG]; exact grownCap_ge w _ _ _
  have hG63 : G ≤ maxLen := by rw [hG]; exact grownCap_le_maxLen w (n + 1) cap 55 (by unfold maxLen; omega)
  have hZl : ZS.size = (n + 1 - k) * 2 + (G - (n + 1)) * 2 := by rw [hZS]; simp [Builtin.zeroCells, Value.cells]
  have hRl : ROW.size = G * 2 := by
    rw [hROW]
    simp only [Array.size_append, List.size_toArray, htl, hZl]
    omega
  have hrz : ∀ ty, (Builtin.append_ #[23, 3] ty #[.slice (some ⟨g, 0, none⟩) k cap, .int .i64 ((n : Int) + 1 - (k : Int))]).run Try.prog w =
      .ok (.slice (some ⟨w.heap.size, 0, none⟩) (n + 1) G) (w.drew.alloc (.cells ROW 55)) := fun ty => by
    have h := Lib.run_append_grow_zeros w 23 3 ty 55 i0 _ .i64 .i64 Try.underlying23 Try.underlying3 hi hz0 (some ⟨g, 0, none⟩) k cap ((flat enc2 us).take (k * 2)) hold (n + 1 - k) (by omega) (by omega) (by omega) (by omega) (by rw [hz2]; omega) (by rw [hz2, hik]; exact growslice_fits (by omega) (by omega))
    rw [hik, ← hG, Array.append_assoc, ← hZS, ← hROW] at h
    rw [show (n : Int) + 1 - (k : Int) = ((n + 1 - k : Nat) : Int) by omega]
    exact h
  obtain ⟨C1, hC1⟩ : ∃ C1, C1 = (ROW.toList.take (k * 2) ++ enc2 (o, z) ++ ROW.toList.drop (k * 2 + (enc2 (o, z)).length)).toArray := ⟨_, rfl⟩
  obtain ⟨C2, hC2⟩ : ∃ C2, C2 = (C1.toList.take ((k + 1) * 2) ++ (flat enc2 us).drop (k * 2) ++ C1.toList.drop ((k + 1) * 2 + ((flat enc2 us).drop (k * 2)).length)).toArray := ⟨_, rfl⟩
  have hC1s : C1.size = G * 2 := by
    rw [hC1]
    simp only [List.size_toArray, List.length_append, List.length_take, List.length_drop, Array.length_toList, hRl]
    show min (k * 2) (G * 2) + 2 + (_ - (k * 2 + 2)) = _
    omega
  have hgr : (w.alloc (.cells ROW 55)).heap[w.heap.size]? = some (.cells ROW 55 (0, 0)) := heap_alloc_new w _
  have hcpA : ∀ (W : World), W.heap = (w.alloc (.cells ROW 55)).heap → ∀ ty dc, (Builtin.copy_ #[23, 23] ty #[.slice (some ⟨w.heap.size, k * 2, none⟩) (n + 1 - k) dc, .slice (some ⟨vb, 0, none⟩) 1 1]).run Try.prog W = .ok (goInt 1) (W.setRow w.heap.size C1) := fun W hW ty dc => by
    have hm : Nat.min 1 (n + 1 - k) = 1 := by show min _ _ = _; omega
    have := run_copy_rowN Try.prog W 23 23 ty 55 2 w.heap.size (k * 2) (n + 1 - k) dc ⟨vb, 0, none⟩ 1 1 ROW 55 (enc2 (o, z)) Try.underlying23 hsz2 (by rw [hW]; exact hgr)
      (by rw [hm]; rfl)
      (fun j v hj => by
        have hh2 : W.heap[vb]? = some (.cells #[.string o, .int .i64 z] 55 (0, 0)) := by rw [hW, heap_alloc_old w _ hvw]; exact hw
        rw [addr_lit]
        have hj2 : j < 2 := by have := (List.getElem?_eq_some_iff.1 hj).1; simpa [enc2] using this
        match j, hj2 with
        | 0, _ => simp [enc2] at hj; subst hj; simp [World.cell?, hh2]
        | 1, _ => simp [enc2] at hj; subst hj; simp [World.cell?, hh2])
      (by rw [hRl]; show k * 2 + 2 ≤ _; omega) (one_enc2 _)
    rw [this, hm, ← hC1]; rfl
  have hcpB : ∀ (W : World), W.heap = ((w.alloc (.cells ROW 55)).setRow w.heap.size C1).heap → ∀ ty dc sc, (Builtin.copy_ #[23, 23] ty #[.slice (some ⟨w.heap.size, (k + 1) * 2, none⟩) (n - k) dc, .slice (some ⟨g, k * 2, none⟩) (n - k) sc]).run Try.prog W = .ok (goInt ((n - k : Nat) : Int)) (W.setRow w.heap.size C2) := fun W hW ty dc sc => by
    have hm : Nat.min (n - k) (n - k) = n - k := by show min _ _ = _; omega
    have := run_copy_rowN Try.prog W 23 23 ty 55 2 w.heap.size ((k + 1) * 2) (n - k) dc ⟨g, k * 2, none⟩ (n - k) sc C1 55 ((flat enc2 us).drop (k * 2)) Try.underlying23 hsz2 (by rw [hW]; exact setRow_heap _ _ _ _ _ _ hgr)
      (by rw [hm, hdl])
      (fun j v hj => by
        rw [addr_lit]
        rw [List.getElem?_drop] at hj
        have h1 := hcur _ v hj
        have hh2 : W.heap[g]? = some (.cells cur 55 (0, 0)) := by rw [hW, setRow_other _ _ _ _ (by omega), heap_alloc_old w _ hgw]; exact hh
        simp [World.cell?, hh2, h1])
      (by rw [hdl, hC1s]; omega) (fun v hv => one_fl2 us v (List.mem_of_mem_drop hv))
    rw [this, hm, ← hC2]
  have HR : Hid (∀ W, W.heap = (((w.alloc (.cells ROW 55)).setRow w.heap.size C1).setRow w.heap.size C2).heap → W.os = w.os → W.tape = w.tape → W.output = w.output → InsR base us k (o, z) w (.returned (.slice (some ⟨w.heap.size, 0, none⟩) (n + 1) G)) W) := Lib.hid fun W hW ho ht hu => by
    refine ⟨_, rfl, ⟨?_, .inr ⟨w.heap.size, G, C2, by rw [hN], hb, ?_, by omega, hG63, ?_, ?_⟩⟩, ⟨ho, ht, hu, ?_, ?_⟩⟩
    · rw [flat_length enc2_len]; simp; omega
    · rw [hW]; exact setRow_heap _ _ _ _ _ _ (setRow_heap _ _ _ _ _ _ hgr)
    · rw [hC2]
      simp only [List.size_toArray, List.length_append, List.length_take, List.length_drop, Array.length_toList, hC1s, hfl]
      omega
    · have := ins_list2 (olds := (flat enc2 us).take (k * 2)) (zs := ZS.toList) (xs := flat enc2 us) (vs := enc2 (o, z)) (a := k * 2) rfl hfl (by omega) (by show n * 2 + 2 ≤ _; rw [List.length_append, htl, Array.length_toList, hZl]; omega)
      rw [flat_ins, ← this, hC2, hC1, hROW, ← hN]
      have e1 : (n + 1) * 2 = n * 2 + (enc2 (o, z)).length := by show _ = n * 2 + 2; omega
      have e2 : (k + 1) * 2 = k * 2 + (enc2 (o, z)).length := by show _ = k * 2 + 2; omega
      rw [e1, e2]
      simp
    · rw [hW, heap_size_setRow, heap_size_setRow]; simp
    · intro i hib
      rw [hW, setRow_other _ _ _ _ (by omega), setRow_other _ _ _ _ (by omega), heap_alloc_old w _ (by omega)]
  have hw1 : IntKind.i64.wrap ((k : Int) + 1) = (k : Int) + 1 := by rw [IntKind.wrap_i64]; omega
  have hw2 : IntKind.i64.wrap ((n : Int) + 1) = (n : Int) + 1 := by rw [IntKind.wrap_i64]; omega
  have hw3 : IntKind.i64.wrap ((n : Int) + 1 - k) = (n : Int) + 1 - k := by rw [IntKind.wrap_i64]; omega
  have hcap : cap ≤ 9223372036854775807 := hcm
  have hG64 : G ≤ 9223372036854775807 := hG63
  have hb1 : ((k : Int) == (n : Int)) = false := by simp; omega
  have hb2 : decide ((cap : Int) < (n : Int) + 1) = true := by simp; omega
  have f1 : (0 : Int) ≤ (k : Int) + 1 := by omega
  have f2 : k ≤ n := by omega
  have f3 : ¬ (cap = k + 1) ∨ cap = k + 1 := by omega
  have f4 : (k : Int) ≤ (n : Int) + 1 := by omega
  have f5 : ¬ (cap = k) := by omega
  have f6 : ¬ (G = k) := by omega
  have f7 : ¬ (G = k + 1) := by omega
  have f8 : k ≤ cap := by omega
  have HCN := Lib.hid hroom
  have hncap : n ≤ cap := by omega
  clear hC1 hC2 hN hw hh hcur htk hfl hdl hsz hC1s hROW hZS hG hRl hZl hold htl hgr hroom f3
  go_enter Try.func29, Try.ntmps29
  go_wp2_with (first
    | (at_builtin; refine Lib.wpList_append_run _ rfl _ _ 23 3 rfl (.slice (some ⟨g, 0, none⟩) k cap) (.int .i64 ((n : Int) + 1 - (k : Int))) rfl rfl _ _ (hrz _) ?_)
    | (refine wpList_copy_run _ rfl _ _ 23 23 rfl (.slice (some ⟨w.heap.size, k * 2, none⟩) (n + 1 - k) (G - k)) (.slice (some ⟨vb, 0, none⟩) 1 1) rfl rfl (hcpA _ ?hha _ _) ?_; (case hha => rfl)))
  go_region_law (refine step_copy_run rfl _ _ 23 23 rfl (.slice (some ⟨w.heap.size, (k + 1) * 2, none⟩) (n - k) (G - (k + 1))) (.slice (some ⟨g, k * 2, none⟩) (n - k) (cap - k)) (by simp [Act.eval, Act.put]) (by simp [Act.eval, Act.put]) (hcpB _ ?hhb _ _ _) ?_; (case hhb => rfl))
  go_wp2
  go_ret
  exact HR.out _ rfl rfl rfl rfl

theorem insE (base vb : Nat) (v : Value) (us : List (ByteArray × Int)) (k : Nat) (o : ByteArray) (z : Int) (w : World) (hw : w.heap[vb]? = some (.cells #[.string o, .int .i64 z] 55 (0, 0))) (hn : us.length ≤ 1000) (hk : k ≤ us.length)
    (h : w.ownsRow base 55 2 v us.length (flat enc2 us)) (hb : base ≤ w.heap.size) (hvb : v.ownBlock ≠ some vb) :
    Calls Try.prog 29 #[v, .int .i64 k, .slice (some ⟨vb, 0, none⟩) 1 1] w (InsR base us k (o, z) w) := by
  rcases Nat.lt_or_ge k us.length with hk1 | hk1
  · rcases h.2 with ⟨rfl, h0⟩ | ⟨g, cap, cur, rfl, hg, hh, hnc, hcm, hsz, htk⟩
    · omega
    · have hne : vb ≠ g := fun e => hvb (by rw [e]; rfl)
      by_cases hr : us.length + 1 ≤ cap
      · exact insRoom base vb g cap cur us k o z w hw hn hk1 hh hne hg hcm hsz htk hr
      · exact insGrow base vb g cap cur us k o z w hw hn hk1 hh hne hb hcm hsz htk (by omega)
  · obtain rfl : k = us.length := by omega
    exact insEnd base vb v us o z w hw hn h hb
end Go.Proofs.Ytknpcphaieoocaa
