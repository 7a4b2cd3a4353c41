/- What 'light' says of its arguments. -/
import Derived.Test.YtknpcphaieoocaaOrd
namespace Go.Proofs.Ytknpcphaieoocaa
open Go.RowKit
set_option linter.unusedSimpArgs false
set_option linter.unusedVariables false

def small40 (z : Int) : Prop := 0 ≤ z ∧ z ≤ 1099511627776
/-- what light promises -/
def LightP (nt ns nu : Nat) (ts : List Task) (us : List (ByteArray × Int)) (l0 : List Int) : Prop :=
  nt ≤ 30 ∧ ns ≤ 70 ∧ nu ≤ 30 ∧ (∀ t ∈ ts, t.nn ≤ 30 ∧ small40 t.cost) ∧ (∀ x ∈ us, small40 x.2) ∧ (∀ z ∈ l0, small40 z)
def LightR (W : World) (nt ns nu : Nat) (ts : List Task) (us : List (ByteArray × Int)) (l0 : List Int) (e : Ending) (w' : World) : Prop :=
  ∃ r, e = .returned (.bool r) ∧ (r = true → LightP nt ns nu ts us l0) ∧ Below W.heap.size W w'
theorem light_no {W w' : World} {nt ns nu : Nat} {ts : List Task} {us : List (ByteArray × Int)} {l0 : List Int} (h : Below W.heap.size W w') : LightR W nt ns nu ts us l0 (.returned (.bool false)) w' := ⟨false, rfl, fun h => (by cases h), h⟩
/-- the state of the list of numbers that is gathered -/
def Lst (W : World) (v : Value) (zs : List Int) (w : World) : Prop := Below W.heap.size W w ∧ w.ownsRow W.heap.size 3 1 v zs.length (zs.map (Value.int .i64))
theorem wpl_app_int {ops : Array Oper} {rest : List Oper} (o : Oper) {a : Act} {Q : Exit → Act → World → Prop} (hgd : o.guard = none) (s x : Operand)
    (ho : o.op = .call { callee := .builtin .append, args := #[s, x], argTypes := #[24, 24] }) {W w : World} {v : Value} {zs : List Int} {z : Int}
    (h : Lst W v zs w) (hs : a.eval s = v) (hx : a.eval x = .slice (some ⟨w.heap.size, 0, none⟩) 1 1) (hm : zs.length + 1 ≤ 1000)
    (hK : ∀ v' w', Lst W v' (zs ++ [z]) w' → wpList Try.prog ops Q rest (a.put o.dst v') w') :
    wpList Try.prog ops Q (o :: rest) a (w.alloc (.cells #[.int .i64 z] 3)) := by
  obtain ⟨i0, hi, hz0, hz1, hz2⟩ := info_parts info3
  have hsz : (w.alloc (.cells #[.int .i64 z] 3)).heap.size = w.heap.size + 1 := World.size_alloc _ _
  obtain ⟨hB, hown⟩ := h
  have hs0 := hB.size
  refine wpList_append_own_at _ hgd s x 24 ho W.heap.size 3 i0 _ 1 8 Try.underlying24 hi hz0 hz1 hz2 rfl (by decide) v zs.length _ hs (hown.alloc _) ⟨w.heap.size, 0, none⟩ 1 1 [.int .i64 z] hx rfl
    (fun j u hj => by
      rw [addr_lit]
      have hj1 : j < 1 := (List.getElem?_eq_some_iff.1 hj).1
      match j, hj1 with
      | 0, _ => simp at hj; subst hj; simp) (fun u hu => by simp at hu; subst hu; rfl) (by unfold maxLen; omega) (by omega) (by omega) ?_
  intro v' w' hown' hgr _ _
  refine hK v' w' ⟨(hB.alloc hs0 _).trans (below_of_grown hgr (by omega) (fun k hk => (hown.lt k hk).1)), ?_⟩
  rw [List.length_append, List.map_append]
  exact hown'

set_option maxRecDepth 100000 in
set_option maxHeartbeats 4000000 in
theorem lightE (At As Au : Option Addr) (nt ct ns cs nu cu : Nat) (v0 : Value) (ts : List Task) (ss us : List (ByteArray × Int)) (l0 : List Int) (W w : World)
    (hT : Trow W At nt ts) (hS : Prow W As ns ss) (hU : Prow W Au nu us) (hl : Lst W v0 l0 w) (hl0 : l0.length ≤ 10) :
    Calls Try.prog 8 #[.slice At nt ct, .slice As ns cs, .slice Au nu cu, v0] w (LightR W nt ns nu ts us l0) := by
  have HT := Lib.hid hT
  have HS := Lib.hid hS
  have HU := Lib.hid hU
  have HL := Lib.hid hl
  have HLT := Lib.hid hT.1
  have HLS := Lib.hid hS.1
  have HLU := Lib.hid hU.1
  have HNO := Lib.hid (fun w' h => light_no (W := W) (w' := w') (nt := nt) (ns := ns) (nu := nu) (ts := ts) (us := us) (l0 := l0) h)
  clear hT hS hU hl
  by_cases h1 : 30 < nt
  · go_enter Try.func8, Try.ntmps8
    go_wp2
    go_ret
    exact HNO.out _ HL.out.1
  · by_cases h2 : 70 < ns
    · go_enter Try.func8, Try.ntmps8
      go_wp2
      go_ret
      exact HNO.out _ HL.out.1
    · by_cases h3 : 30 < nu
      · go_enter Try.func8, Try.ntmps8
        go_wp2
        go_ret
        exact HNO.out _ HL.out.1
      · go_enter Try.func8, Try.ntmps8
        go_wp2
        go_loopw [3, 29] (fun v i wv => ∃ k : Nat, k ≤ nt ∧ i = .int .i64 k ∧ Hid (Lst W v (l0 ++ (ts.take k).map (·.cost)) wv ∧ ∀ t ∈ ts.take k, t.nn ≤ 30)) (fun _ i _ => nt - (intOf i).toNat)
        case atStart => exact ⟨0, by omega, rfl, Lib.hid ⟨by simpa using HL.out, fun t h => by simp at h⟩⟩
        case round =>
          obtain ⟨k, hk, rfl, HQ⟩ := hrel
          by_cases hkn : k < nt
          · obtain ⟨b, off, rfl, hcell⟩ := HT.out.2 (by omega)
            obtain ⟨t, ht⟩ : ∃ t, ts[k]? = some t := ⟨ts[k]'(by have := HLT.out; omega), List.getElem?_eq_getElem _⟩
            obtain ⟨e0, e1, e2, e3, e4, e5, e6, e7⟩ := (hcell k t ht).later HQ.out.1.1
            have HTK : Hid (ts.take (k + 1) = ts.take k ++ [t]) := Lib.hid (by rw [List.take_add_one, ht]; rfl)
            have hcap : (l0 ++ (ts.take k).map (·.cost)).length + 1 ≤ 1000 := by simp; omega
            have HS1 := Lib.hid HQ.out.1
            have HNN := Lib.hid HQ.out.2
            clear ht hcell e0 e1 e2 e3 e6 HQ
            by_cases g1 : 30 < t.nn
            · go_wp2
              go_ret
              exact HNO.out _ HS1.out.1
            · by_cases g2 : 60 < t.owner.size
              · go_wp2
                go_ret
                exact HNO.out _ HS1.out.1
              · go_wp2_with (at_builtin; refine wpl_app_int _ rfl _ _ rfl HS1.out rfl rfl hcap ?_; intro v' w' hS1; have HS2 := Lib.hid hS1; clear hS1)
                case roundEnd =>
                  exact ⟨⟨k + 1, by omega, by go_num, Lib.hid ⟨by rw [HTK.out, List.map_append, ← List.append_assoc]; exact HS2.out, fun x hx => by
                    rw [HTK.out] at hx
                    rcases List.mem_append.1 hx with h | h
                    · exact HNN.out x h
                    · simp at h; subst h; omega⟩⟩, by simp [intOf]; omega⟩
          · obtain rfl : k = nt := by omega
            have HQ1 : Hid (Lst W u3 (l0 ++ ts.map (·.cost)) wr ∧ ∀ t ∈ ts, t.nn ≤ 30) := Lib.hid (by
              have := HQ.out
              rw [List.take_of_length_le (by have := HLT.out; omega)] at this
              exact this)
            clear HQ
            go_wp2
            go_loop [59] (fun i => ∃ q : Nat, q ≤ ns ∧ i = .int .i64 q) (fun i => ns - (intOf i).toNat)
            case atStart => exact ⟨0, by omega, rfl⟩
            case round =>
              obtain ⟨q, hq, rfl⟩ := hrel
              by_cases hqn : q < ns
              · obtain ⟨b, off, rfl, hcell⟩ := HS.out.2 (by omega)
                obtain ⟨x, hx⟩ : ∃ x, ss[q]? = some x := ⟨ss[q]'(by have := HLS.out; omega), List.getElem?_eq_getElem _⟩
                have e1 := ((hcell q x hx).1)
                have e1 := (HQ1.out.1.1.cell (World.block_lt_of_cell? W _ e1)).trans e1
                clear hx hcell
                by_cases g2 : 60 < x.1.size
                · go_wp2
                  go_ret
                  exact HNO.out _ HQ1.out.1.1
                · go_wp2
                  case roundEnd => exact ⟨⟨q + 1, by omega, by go_num⟩, by simp [intOf]; omega⟩
              · obtain rfl : q = ns := by omega
                go_wp2
                go_loopw [3, 72] (fun v i wv => ∃ j : Nat, j ≤ nu ∧ i = .int .i64 j ∧ Hid (Lst W v ((l0 ++ ts.map (·.cost)) ++ (us.take j).map (·.2)) wv)) (fun _ i _ => nu - (intOf i).toNat)
                case atStart => exact ⟨0, by omega, rfl, Lib.hid (by simpa using HQ1.out.1)⟩
                case round =>
                  obtain ⟨j, hj, rfl, HQ⟩ := hrel
                  by_cases hjn : j < nu
                  · obtain ⟨b, off, rfl, hcell⟩ := HU.out.2 (by omega)
                    obtain ⟨x, hx⟩ : ∃ x, us[j]? = some x := ⟨us[j]'(by have := HLU.out; omega), List.getElem?_eq_getElem _⟩
                    have e1 := ((hcell j x hx).1)
                    have e2 := ((hcell j x hx).2)
                    have e1 := (HQ.out.1.cell (World.block_lt_of_cell? W _ e1)).trans e1
                    have e2 := (HQ.out.1.cell (World.block_lt_of_cell? W _ e2)).trans e2
                    have HTK : Hid (us.take (j + 1) = us.take j ++ [x]) := Lib.hid (by rw [List.take_add_one, hx]; rfl)
                    have hcap : ((l0 ++ ts.map (·.cost)) ++ (us.take j).map (·.2)).length + 1 ≤ 1000 := by simp; have := HLT.out; omega
                    clear hx hcell
                    by_cases g2 : 60 < x.1.size
                    · go_wp2
                      go_ret
                      exact HNO.out _ HQ.out.1
                    · go_wp2_with (at_builtin; refine wpl_app_int _ rfl _ _ rfl HQ.out rfl rfl hcap ?_; intro v' w' hS1; have HS2 := Lib.hid hS1; clear hS1)
                      case roundEnd => exact ⟨⟨j + 1, by omega, by go_num, Lib.hid (by rw [HTK.out, List.map_append, ← List.append_assoc]; exact HS2.out)⟩, by simp [intOf]; omega⟩
                  · obtain rfl : j = nu := by omega
                    obtain ⟨zs, hzs⟩ : ∃ zs, zs = (l0 ++ ts.map (·.cost)) ++ us.map (·.2) := ⟨_, rfl⟩
                    have HZ := Lib.hid hzs
                    have hq := HQ.out
                    rw [List.take_of_length_le (by have := HLU.out; omega), ← hzs] at hq
                    clear hzs
                    obtain ⟨A3, c3, rfl, hr3, _⟩ := nrow_of_own hq.2
                    have HB3 := Lib.hid hq.1
                    have HR3 := Lib.hid hr3
                    obtain ⟨nz, hnz⟩ : ∃ nz, nz = zs.length := ⟨_, rfl⟩
                    have HNZ := Lib.hid hnz
                    have hnz9 : nz ≤ 1000 := by rw [hnz, HZ.out]; simp; have := HLT.out; have := HLU.out; omega
                    rw [← hnz]
                    clear hq hr3 hnz HQ
                    go_wp2
                    go_loop [93] (fun i => ∃ r : Nat, r ≤ nz ∧ i = .int .i64 r ∧ Hid (∀ z ∈ zs.take r, small40 z)) (fun i => nz - (intOf i).toNat)
                    case atStart => exact ⟨0, by omega, rfl, Lib.hid (fun z h => by simp at h)⟩
                    case round =>
                      obtain ⟨r, hr, rfl, HP⟩ := hrel
                      by_cases hrn : r < nz
                      · obtain ⟨b, off, rfl, hcell⟩ := HR3.out.2 (by have := HNZ.out; omega)
                        obtain ⟨z, hz⟩ : ∃ z, zs[r]? = some z := ⟨zs[r]'(by have := HNZ.out; omega), List.getElem?_eq_getElem _⟩
                        have e1 := hcell r z hz
                        have HTK : Hid (zs.take (r + 1) = zs.take r ++ [z]) := Lib.hid (by rw [List.take_add_one, hz]; rfl)
                        clear hz hcell
                        by_cases g1 : z < 0
                        · go_wp2
                          go_ret
                          exact HNO.out _ HB3.out
                        · by_cases g2 : 1099511627776 < z
                          · go_wp2
                            go_ret
                            exact HNO.out _ HB3.out
                          · go_wp2
                            case roundEnd => exact ⟨⟨r + 1, by omega, by go_num, Lib.hid (fun y hy => by
                              rw [HTK.out] at hy
                              rcases List.mem_append.1 hy with h | h
                              · exact HP.out y h
                              · simp at h; subst h; exact ⟨by omega, by omega⟩)⟩, by simp [intOf]; omega⟩
                      · have hall : ∀ z ∈ zs, small40 z := by
                          have := HP.out
                          rwa [List.take_of_length_le (by have := HNZ.out; omega)] at this
                        have HOK : Hid (LightP k q j ts us l0) := Lib.hid ⟨by omega, by omega, by omega, fun t ht => ⟨HQ1.out.2 t ht, hall _ (by rw [HZ.out]; simp only [List.mem_append, List.mem_map]; exact .inl (.inr ⟨t, ht, rfl⟩))⟩, fun x hx => hall _ (by rw [HZ.out]; simp only [List.mem_append, List.mem_map]; exact .inr ⟨x, hx, rfl⟩), fun z hz => hall z (by rw [HZ.out]; simp only [List.mem_append, List.mem_map]; exact .inl (.inl hz))⟩
                        clear hall
                        go_wp2
                        go_ret
                        exact ⟨true, rfl, fun _ => HOK.out, HB3.out⟩
end Go.Proofs.Ytknpcphaieoocaa
