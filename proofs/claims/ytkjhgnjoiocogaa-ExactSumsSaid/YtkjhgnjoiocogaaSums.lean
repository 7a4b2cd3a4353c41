/-
  ExactSums: for every list of integers and every integer the law returns true: Sum of package exact returns what the reference returns, whatever the order. No conditions.
-/
import Derived.Test.YtkjhgnjoiocogaaFrame
import Derived.Test.YtkjhgnjoiocogaaKnow
import Derived.Test.YtkjhgnjoiocogaaKeep
import Derived.Test.YtkjhgnjoiocogaaSum
namespace Go.Proofs.Ytkjhgnjoiocogaa.lawExactSums
open Go.ChangeShapes Go.WideShapes Go.ChangeAt Go.RowKit
set_option linter.unusedSimpArgs false
set_option linter.unusedVariables false


theorem int_info : (Try.prog.info? 3).map (fun i => (i.zero, i.size, i.bytes)) = some (some (.int .i64 0), 1, 8) := by kernel_rfl

theorem row_of_own {w : World} {base : Nat} {v : Value} {n : Nat} {xs : List Int} (h : w.ownsRow base 3 1 v n (xs.map (Value.int .i64))) :
    ∃ A c, v = .slice A n c ∧ Row w A n xs := by
  have hl : xs.length = n := by have := h.1; simpa using this
  rcases h.2 with ⟨rfl, rfl⟩ | ⟨g, cap, cur, rfl, _, _, _, _, _, _⟩
  · exact ⟨none, 0, rfl, hl, fun h => absurd h (by omega)⟩
  · refine ⟨some ⟨g, 0, none⟩, cap, rfl, hl, fun _ => ⟨g, 0, rfl, fun j x hx => ?_⟩⟩
    have hc := h.cells (g := g) rfl j (.int .i64 x) (by rw [List.getElem?_map, hx]; rfl)
    have e : (⟨g, 0, none⟩ : Addr).add j = ⟨g, 0 + j, none⟩ := by unfold Addr.add; split <;> simp_all
    rw [e] at hc; exact hc
theorem row_below {w w' : World} {A : Option Addr} {n : Nat} {xs : List Int} (h : Row w A n xs) (hb : Below w.heap.size w w') : Row w' A n xs :=
  ⟨h.1, fun hn => by
    obtain ⟨b, off, rfl, hc⟩ := h.2 hn
    exact ⟨b, off, rfl, fun j x hx => cell_later hb (hc j x hx)⟩⟩

/-- what the loop holds after k rounds -/
def SumRel (w : World) (fl : List Int) (vm vt : Value) (k : Nat) (wr : World) : Prop :=
  wr.ownsRow w.heap.size 3 1 vm k ((fl.take k).map (Value.int .i64)) ∧ wr.ownsRow w.heap.size 3 1 vt k ((fl.take k).reverse.map (Value.int .i64)) ∧
    (∀ g, vm.ownBlock = some g → vt.ownBlock ≠ some g) ∧ Below w.heap.size w wr

theorem rel_start (w : World) (fl : List Int) : SumRel w fl (.slice none 0 0) (.slice none 0 0) 0 w :=
  ⟨by simpa using World.ownsRow_nil w w.heap.size 3 1, by simpa using World.ownsRow_nil w w.heap.size 3 1, fun g h => by simp [Value.ownBlock] at h, Below.refl _ _⟩

theorem news_one (w : World) (y : Int) : ∀ j u, [Value.int .i64 y][j]? = some u → (w.alloc (.cells #[.int .i64 y] 3)).cell? ((⟨w.heap.size, 0, none⟩ : Addr).add j) = some u := by
  intro j u hu
  have hj : j = 0 := by
    rcases j with _ | j
    · rfl
    · simp at hu
  subst hj
  simp at hu
  subst hu
  simp [Addr.add, go_sem]

theorem ne_of {a b : Option Nat} (h : ∀ g, a = some g → b ≠ some g) : b = none ∨ b ≠ a := by
  rcases b with _ | g
  · exact .inl rfl
  · exact .inr (fun e => h g e.symm rfl)
theorem apart_of {base k : Nat} {a b v1 : Value} {w : World} {xs ys : List Value} {o : Obj} (_h1 : w.ownsRow base 3 1 a k xs) (h2 : w.ownsRow base 3 1 b k ys) (h3 : ∀ g, a.ownBlock = some g → b.ownBlock ≠ some g) (h : v1.ownBlock = a.ownBlock ∨ v1.ownBlock = some (w.alloc o).heap.size) :
    ∀ g, v1.ownBlock = some g → b.ownBlock ≠ some g := by
  intro g hg hb
  rcases h with e | e
  · exact h3 g (e ▸ hg) hb
  · rw [e] at hg
    have := (h2.lt g hb).2
    simp at hg; omega
theorem own_lit (w : World) (base : Nat) (y : Int) (h : base ≤ w.heap.size) : (w.alloc (.cells #[.int .i64 y] 3)).ownsRow base 3 1 (.slice (some ⟨w.heap.size, 0, none⟩) 1 1) 1 [.int .i64 y] :=
  World.ownsRow_lit w #[.int .i64 y] 1 h (by unfold maxLen; omega) rfl
theorem rel_next {w w2 : World} {fl : List Int} {v1 v2 : Value} {k : Nat} {y : Int} (hk : fl[k]? = some y)
    (h1 : w2.ownsRow w.heap.size 3 1 v1 (k + 1) ((fl.take k).map (Value.int .i64) ++ [.int .i64 y])) (h2 : w2.ownsRow w.heap.size 3 1 v2 (k + 1) ([.int .i64 y] ++ (fl.take k).reverse.map (Value.int .i64)))
    (h3 : ∀ g, v1.ownBlock = some g → v2.ownBlock ≠ some g) (h4 : Below w.heap.size w w2) : SumRel w fl v1 v2 (k + 1) w2 := by
  have e : fl.take (k + 1) = fl.take k ++ [y] := by rw [List.take_add_one, hk]; rfl
  refine ⟨?_, ?_, h3, h4⟩
  · rw [e]; simpa using h1
  · rw [e]; simpa using h2

set_option maxRecDepth 100000 in
set_option maxHeartbeats 4000000 in
theorem core (A : Option Addr) (n c : Nat) (l : List Int) (by_ : Int) (w : World) (hr : Row w A n l) :
    Calls Try.prog 5 #[.slice A n c, .int .i64 by_] w fun e w' => e = .returned (.bool true) ∧ Below w.heap.size w w' := by
  by_cases hn : n ≤ 1000
  · obtain ⟨i0, hi0, hz0, hz1, hz2⟩ := info_parts int_info
    have HR := Lib.hid hr
    clear hr
    generalize hfl : l.map (fun x => nr (bits .xor .i64 x by_)) = fl
    have HF := Lib.hid hfl
    have hlen : Hid (fl.length = n) := Lib.hid (by rw [← hfl, List.length_map]; exact HR.out.1)
    clear hfl
    go_enter Try.func5, Try.ntmps5
    go_wp2_with (first
      | (go_at_call 19; refine (sumE _ _ _ l _ HR.out hn).mono ?_; rintro e w' ⟨rfl, rfl⟩)
      | (go_at_call 20; refine (sumF _ _ _ l _ HR.out hn).mono ?_; rintro e w' ⟨rfl, rfl⟩))
    go_loopw [9, 10, 11] (fun vm vt i wr => ∃ k : Nat, k ≤ n ∧ i = .int .i64 k ∧ SumRel w fl vm vt k wr) (fun _ _ i _ => n - (intOf i).toNat)
    case atStart => exact ⟨0, by omega, rfl, rel_start w fl⟩
    case round =>
      obtain ⟨k, hk, rfl, hS⟩ := hrel
      have HS := Lib.hid hS
      clear hS
      by_cases hkn : k < n
      · obtain ⟨h1, h2, h3, h4⟩ := HS.out
        obtain ⟨b, off, rfl, hcell⟩ := HR.out.2 (by omega)
        obtain ⟨x, hx⟩ : ∃ x, l[k]? = some x := ⟨l[k]'(by have := HR.out.1; omega), List.getElem?_eq_getElem _⟩
        have hc := cell_later h4 (hcell k x hx)
        have hbl := World.block_lt_of_cell? _ _ (hcell k x hx)
        have hfk : fl[k]? = some (nr (bits .xor .i64 x by_)) := by rw [← HF.out, List.getElem?_map, hx]; rfl
        generalize hy : nr (bits .xor .i64 x by_) = y at hfk
        have HC := Lib.hid (hcell k x hx)
        have HK := Lib.hid hfk
        have HY := Lib.hid hy
        have H1 := Lib.hid h1
        have H2 := Lib.hid h2
        have H3 := Lib.hid h3
        have H4 := Lib.hid h4
        have hsz := h4.size
        clear hcell hx hfk hy h1 h2 h3 h4 HS
        go_wp2_with fail
        refine (near_any _ _).mono ?_
        rintro e w0 ⟨rfl, rfl⟩
        rw [HY.out]
        go_wp2_with (at_builtin; refine wpList_append_own_at _ rfl (.tmp 38) (.tmp 46) 33 rfl w.heap.size 3 i0 (.int .i64 0) 1 8 Try.underlying33 hi0 hz0 hz1 hz2 rfl (by decide) u9 k _ rfl (H1.out.alloc _) ⟨wr.heap.size, 0, none⟩ 1 1 [.int .i64 y] rfl rfl (news_one wr y) (by simp [Value.oneCell']) (by unfold maxLen; omega) (by omega) (by simp; omega) ?_; intro v1 w1 hown1 hgrow1 hnil1 hat1; have B1 : Below w.heap.size w w1 := (H4.out.alloc hsz _).grown hgrow1 (by simp; omega) (fun g hg => (H1.out.lt g hg).1); have hc1 := cell_later B1 HC.out; have K1 := Lib.hid hown1; have K2 := Lib.hid ((H2.out.alloc (.cells #[.int .i64 y] 3)).kept hgrow1 (ne_of H3.out)); have HB1 := Lib.hid B1; have D1 := Lib.hid (apart_of H1.out H2.out H3.out hat1); have hsz1 := B1.size; clear hown1 hgrow1 hnil1 hat1 B1 hc)
        refine (near_any _ _).mono ?_
        rintro e w0 ⟨rfl, rfl⟩
        rw [HY.out]
        rcases K2.out.2 with ⟨rfl, rfl⟩ | ⟨g2, cap2, cur2, rfl, hg2, hh2, hn2, hm2, hs2, ht2⟩
        · go_wp2_with (at_builtin; refine wpList_append_own_none _ rfl (.tmp 55) (.tmp 56) 33 rfl w.heap.size 3 i0 1 Try.underlying33 hi0 (.slice (some ⟨w1.heap.size, 0, none⟩) 1 1) 1 [.int .i64 y] rfl (own_lit _ _ _ hsz1) rfl ?_)
          go_roundw
          case rel => exact ⟨0 + 1, by omega, by go_num, rel_next HK.out (K1.out.alloc _) (by simpa using own_lit w1 w.heap.size y hsz1) (fun g hg => by have := (K1.out.lt g hg).2; simp [Value.ownBlock]; omega) (HB1.out.alloc hsz1 _)⟩
          case measure => simp [intOf]; omega
        · clear hg2 hh2 hn2 hm2 hs2 ht2
          go_wp2_with (at_builtin; refine wpList_append_own_at _ rfl (.tmp 55) (.tmp 56) 33 rfl w.heap.size 3 i0 (.int .i64 0) 1 8 Try.underlying33 hi0 hz0 hz1 hz2 rfl (by decide) (.slice (some ⟨w1.heap.size, 0, none⟩) 1 1) 1 [.int .i64 y] rfl (own_lit _ _ _ hsz1) ⟨g2, 0, none⟩ k cap2 _ rfl (by rw [K2.out.1]) ((K2.out.alloc _).cells rfl) (fun u hu => by obtain ⟨z, _, rfl⟩ := List.mem_map.1 hu; rfl) (by unfold maxLen; omega) (by omega) (by simp; omega) ?_; intro v2 w2 hown2 hgrow2 hnil2 hat2; have K3 := Lib.hid hown2; have G2 := Lib.hid hgrow2; have A2 := Lib.hid hat2; clear hown2 hgrow2 hnil2 hat2)
          go_roundw
          case rel =>
            refine ⟨k + 1, by omega, by go_num, rel_next HK.out ((K1.out.alloc _).kept G2.out (.inr (fun h => ?_))) (by rw [show k + 1 = 1 + k by omega]; exact K3.out) (fun g hg h => ?_) ((HB1.out.alloc hsz1 _).grown G2.out (by simp; omega) (fun g hg => by simp [Value.ownBlock] at hg; omega))⟩
            · exact Nat.lt_irrefl _ (K1.out.lt _ h).2
            · have := (K1.out.lt _ hg).2
              rcases A2.out with e | e <;> rw [e] at h <;> simp [Value.ownBlock] at h <;> omega
          case measure => simp [intOf]; omega
      · obtain rfl : k = n := by omega
        have he : fl.take k = fl := List.take_of_length_le (by have := hlen.out; omega)
        obtain ⟨h1, h2, h3, h4⟩ := HS.out
        rw [he] at h1 h2
        obtain ⟨A1, c1, rfl, r1⟩ := row_of_own h1
        obtain ⟨A2, c2, rfl, r2⟩ := row_of_own h2
        have R1 := Lib.hid r1
        have R2 := Lib.hid r2
        have B4 := Lib.hid h4
        clear h1 h2 h3 h4 r1 r2 HS he
        have q1 : smB fl.reverse = smB fl := smB_reverse fl
        have q2 : smV fl.reverse = smV fl := smV_reverse fl
        go_wp2_with fail
        refine (sumE _ _ _ fl _ R1.out hn).mono ?_
        rintro e w1 ⟨rfl, rfl⟩
        go_wp2_with fail
        refine (sumF _ _ _ fl _ R1.out hn).mono ?_
        rintro e w1 ⟨rfl, rfl⟩
        go_wp2_with fail
        refine (sumE _ _ _ fl.reverse _ R2.out hn).mono ?_
        rintro e w1 ⟨rfl, rfl⟩
        go_wp2_with fail
        refine (known_any _).mono ?_
        rintro e w2 ⟨rfl, hb⟩
        go_wp2_with fail
        go_ret
        exact ⟨rfl, bthen B4.out (Nat.le_refl _) hb⟩
  · have hn' : decide (1000 < (n : Int)) = true := by simp; omega
    clear hr
    go_enter Try.func5, Try.ntmps5
    go_wp2_with (go_at_call 15; refine (known_any _).mono ?_; rintro e w' ⟨rfl, hb⟩)
    go_ret
    exact ⟨rfl, hb⟩
theorem row_of_trod {H : Type} {enc : TypeId × Value → H} {W : World} {a0 : Option Addr} {len0 cap0 : Nat} {d : DataW H} {p : List MemPlace}
    (h0 : DataW.Trod enc Try.prog W 0 (fun _ => true) true 33 (.slice a0 len0 cap0) d p) : ∃ xs, Row W a0 len0 xs := by
  obtain ⟨fuel, hf⟩ := h0
  rcases open_ints Try.underlying33 Try.underlying3 (by kernel_rfl) hf with ⟨hcs, _⟩ | ⟨x, l, c, zs, hcs, _, hl, hm, hz, _, hcell, hwz⟩
  · simp [Value.cells] at hcs
    obtain ⟨rfl, rfl, rfl⟩ := hcs
    exact ⟨[], rfl, fun h => absurd h (by omega)⟩
  · simp [Value.cells] at hcs
    obtain ⟨rfl, rfl, rfl⟩ := hcs
    have hz' : zs.length = cap0 := by simpa using hz
    refine ⟨zs.take len0, by rw [List.length_take]; omega, fun hn => ?_⟩
    obtain ⟨b, off, spot⟩ := x
    have hc := hcell 0 (by omega)
    have hspot : spot = none := by simpa [Addr.add] using World.cell?_spot hc
    subst hspot
    refine ⟨b, off, rfl, fun j v hj => ?_⟩
    have hjl : j < len0 := by
      have := (List.getElem?_eq_some_iff.1 hj).1
      rw [List.length_take] at this; omega
    have hcj := hcell j (by omega)
    have e : (⟨b, off, none⟩ : Addr).add j = ⟨b, off + j, none⟩ := by unfold Addr.add; split <;> simp_all
    rw [e] at hcj
    rw [List.getElem?_take_of_lt hjl] at hj
    rw [hcj, List.getD_eq_getElem?_getD, hj]; rfl
theorem walk (A : Option Addr) (n c : Nat) (l : List Int) (W : World) (hr : Row W A n l) (a1 : Int) :
    Calls Try.prog 5 #[.slice A n c, .int .i64 a1] W fun e w' => e = .returned (.bool true) ∧ Below W.heap.size W w' := core A n c l a1 W hr


set_option maxRecDepth 100000 in
theorem lifted (os : Os) (started : os.Started) (H : Type) (enc : TypeId × Value → H) :
    ReturnsInHanded {} Try.checked os 5 .any (Rows.exactSumsSpec.pre6 enc Try.prog Try.f5 Rows.exactSumsRow.domain false) (Rows.exactSumsSpec.post enc Try.prog Try.f5 false true false false) := by
  refine returnsInHanded_of_change (C := Try.checked) own started (by kernel_rfl) Try.func5
    (ChangeSpec.witness6 (enc := enc) (C := Try.checked) false ⟨#[], #[.slice none 0 0, .int .i64 0], []⟩ 8 (by kernel_rfl) (by kernel_rfl) (by kernel_rfl) (by kernel_rfl)) ?_
  intro W base args ds gs before hval0 hW hcnd _
  have hval : ∀ (j : Nat) t v, Try.f5.params[j]? = some t → args[j]? = some v → Value.okWide Try.prog W .any base t v := hval0
  have hW' := hW
  obtain ⟨p, q, hA0, hV, rfl, hfz, hnd⟩ := hW
  have hA : DataW.TrodAll enc Try.prog W 0 (fun _ => true) true Try.f5.params.toList args.toList ds p := hA0
  rw [Try.params5] at hA hval
  obtain ⟨v0, vs0, d0, ds0, p0, q0, hargs, rfl, rfl, h0, r0⟩ := trodAll_cons hA
  obtain ⟨v1, vs1, d1, ds1, p1, q1, rfl, rfl, rfl, h1, r1⟩ := trodAll_cons r0
  obtain ⟨rfl, rfl, rfl⟩ := trodAll_nil r1
  obtain rfl : args = #[v0, v1] := by cases args; simp_all
  obtain ⟨rfl, rfl⟩ := trodVars_none hV
  obtain ⟨A0, n0, c0, rfl⟩ := okWide_slice Try.underlying33 (hval 0 33 v0 rfl rfl)
  obtain ⟨l0, hrow0⟩ := row_of_trod h0
  obtain ⟨a1, rfl, rfl, rfl, w1⟩ := open_int Try.underlying3 (hval 1 3 v1 rfl rfl) h1
  clear hA0 hval0
  simp only [List.append_nil] at hW'
  refine (walk A0 n0 c0 l0 W hrow0 a1).mono fun e W' ⟨he, hb⟩ => ?_
  subst he
  exact ⟨_, rfl, law_post laidOut (by rw [Try.params5]; simp only [List.mem_cons, List.not_mem_nil, or_false, forall_eq_or_imp, forall_eq]; exact ⟨⟨by kernel_rfl, by decide +kernel⟩, ⟨by kernel_rfl, by decide +kernel⟩⟩) rfl rfl Try.underlying4 hW' rfl rfl rfl hb⟩

theorem over : Rows.exactSumsRow.holds Try.pinned (OpenSpec.ofChange Rows.exactSumsSpec) :=
  OpenClaim.holds_of_wide 5 Try.f5 rfl rfl rfl rfl rfl rfl rfl ⟨rfl, rfl, rfl, rfl, rfl⟩ rfl rfl rfl rfl rfl (by kernel_rfl) Try.func5 (by kernel_rfl)
    (of_decide_eq_true (by kernel_rfl)) (by unfold Func.isWrapper; first | (rw [if_pos (by decide +kernel)]; kernel_rfl) | (rw [if_neg (by decide +kernel)]; exact ⟨rfl, rfl⟩))
    (fun os started H enc _ => lifted os started H enc)

theorem proved : Rows.ExactSumsSaid := over
#print axioms proved
end Go.Proofs.Ytkjhgnjoiocogaa.lawExactSums
