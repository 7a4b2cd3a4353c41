/- Equal usages are found equal; the list of an owner and the names. -/
import Derived.Test.YtknpcphaieoocaaKep
namespace Go.Proofs.Ytknpcphaieoocaa
open Go.RowKit
set_option linter.unusedSimpArgs false
set_option linter.unusedVariables false

set_option maxHeartbeats 1000000 in
theorem sameU (A B : Option Addr) (n c d : Nat) (us : List (ByteArray × Int)) (w : World) (hA : Prow w A n us) (hB : Prow w B n us) (hn : n ≤ 2000) :
    Calls Try.prog 18 #[.slice A n c, .slice B n d] w fun e w' => e = .returned (.bool true) ∧ Below w.heap.size w w' := by
  have HA := Lib.hid hA
  have HB := Lib.hid hB
  have HL := Lib.hid hA.1
  clear hA hB
  go_enter Try.func18, Try.ntmps18
  go_wp2
  go_loopw [13] (fun i wv => ∃ k : Nat, k ≤ n ∧ i = .int .i64 k ∧ Below w.heap.size w wv) (fun i _ => n - (intOf i).toNat)
  case atStart => exact ⟨0, by omega, rfl, .refl _ _⟩
  case round =>
    obtain ⟨k, hk, rfl, hb⟩ := hrel
    have HBB := Lib.hid hb
    by_cases hkn : k < n
    · obtain ⟨b1, o1, rfl, h1⟩ := HA.out.2 (by omega)
      obtain ⟨b2, o2, rfl, h2⟩ := HB.out.2 (by omega)
      obtain ⟨x, hx⟩ : ∃ x, us[k]? = some x := ⟨us[k]'(by have := HL.out; omega), List.getElem?_eq_getElem _⟩
      have c1 := cell_later hb (h1 k x hx).1
      have c2 := cell_later hb (h2 k x hx).1
      have c3 := cell_later hb (h1 k x hx).2
      have c4 := cell_later hb (h2 k x hx).2
      clear hx h1 h2 hb
      go_wp2
      go_quiet (fail)
      go_wp2
      case roundEnd => exact ⟨⟨k + 1, by omega, by go_num, below_drewN HBB.out _⟩, by simp [intOf]; omega⟩
    · clear hb
      go_wp2
      go_ret
      exact ⟨rfl, HBB.out⟩
/-- the owner, and behind it the four names -/
def five (o : ByteArray) (k : Nat) : ByteArray := if k = 0 then o else nm (k - 1)
theorem upd_len (o : ByteArray) (c : Int) : ∀ us : List (ByteArray × Int), (updV us o c).length = us.length
  | [] => rfl
  | x :: l => by
    unfold updV
    split
    · rfl
    · rw [List.length_cons, upd_len o c l, List.length_cons]
theorem charge_len {us : List (ByteArray × Int)} {o : ByteArray} {c : Int} (h : us.length ≤ 1000) : (chargeV us o c).length ≤ 2000 := by
  unfold chargeV
  split
  · rw [upd_len]; omega
  · rw [ins_len]; omega
theorem info9 : (Try.prog.info? 9).map (fun i => (i.zero, i.size, i.bytes)) = some (some (.string ⟨#[]⟩), 1, 16) := by kernel_rfl
theorem wpl_five {ops : Array Oper} {rest : List Oper} (o : Oper) {a : Act} {Q : Exit → Act → World → Prop} (hgd : o.guard = none) (s x : Operand)
    (ho : o.op = .call { callee := .builtin .append, args := #[s, x], argTypes := #[33, 33] }) {w : World} {ow : ByteArray}
    (hs : a.eval s = .slice (some ⟨w.heap.size, 0, none⟩) 1 1) (hx : a.eval x = .slice (some ⟨w.heap.size + 1, 0, none⟩) 4 4)
    (hK : ∀ c b w', (∀ j, j < 5 → w'.cell? ⟨b, j, none⟩ = some (.string (five ow j))) → Below w.heap.size w w' → wpList Try.prog ops Q rest (a.put o.dst (.slice (some ⟨b, 0, none⟩) 5 c)) w') :
    wpList Try.prog ops Q (o :: rest) a ((w.alloc (.cells #[.string ow] 9)).alloc (.cells #[.string ⟨#[]⟩, .string ⟨#[97]⟩, .string ⟨#[98]⟩, .string ⟨#[99]⟩] 9)) := by
  obtain ⟨i0, hi, hz0, hz1, hz2⟩ := info_parts info9
  have h1 : (w.alloc (.cells #[.string ow] 9)).heap.size = w.heap.size + 1 := World.size_alloc _ _
  have h2 : ((w.alloc (.cells #[.string ow] 9)).alloc (.cells #[.string ⟨#[]⟩, .string ⟨#[97]⟩, .string ⟨#[98]⟩, .string ⟨#[99]⟩] 9)).heap.size = w.heap.size + 2 := by rw [World.size_alloc, h1]
  have hown : (w.alloc (.cells #[.string ow] 9)).ownsRow w.heap.size 9 1 (.slice (some ⟨w.heap.size, 0, none⟩) 1 1) 1 [.string ow] :=
    ⟨rfl, .inr ⟨w.heap.size, 1, #[.string ow], rfl, Nat.le_refl _, heap_alloc_new w _, Nat.le_refl _, by unfold maxLen; omega, rfl, rfl⟩⟩
  refine wpList_append_own_at _ hgd s x 33 ho w.heap.size 9 i0 _ 1 16 Try.underlying33 hi hz0 hz1 hz2 rfl (by decide) (.slice (some ⟨w.heap.size, 0, none⟩) 1 1) 1 [.string ow] hs (hown.alloc _) ⟨w.heap.size + 1, 0, none⟩ 4 4 [.string ⟨#[]⟩, .string ⟨#[97]⟩, .string ⟨#[98]⟩, .string ⟨#[99]⟩] hx rfl
    (fun j u hj => by
      rw [addr_lit]
      have hj1 : j < 4 := (List.getElem?_eq_some_iff.1 hj).1
      have e := names_cells (w.alloc (.cells #[.string ow] 9)) j hj1
      rw [h1] at e
      match j, hj1 with
      | 0, _ => simp at hj; subst hj; exact e
      | 1, _ => simp at hj; subst hj; exact e
      | 2, _ => simp at hj; subst hj; exact e
      | 3, _ => simp at hj; subst hj; exact e) (fun u hu => by simp at hu; rcases hu with rfl | rfl | rfl | rfl <;> rfl) (by unfold maxLen; omega) (by omega) (by omega) ?_
  intro v' w' ho' hgr _ _
  have hB : Below w.heap.size w w' := (((Below.refl _ w).alloc (Nat.le_refl _) _).alloc (by omega) _).trans (below_of_grown hgr (by omega) (fun k hk => by simp [Value.ownBlock] at hk; omega))
  rcases ho'.2 with ⟨_, h0⟩ | ⟨g, cap, cur, rfl, _, _, _, _, _, _⟩
  · omega
  · refine hK cap g w' (fun j hj => ?_) hB
    have hc := ho'.cells (g := g) rfl
    match j, hj with
    | 0, _ => have := hc 0 _ rfl; rw [addr_lit] at this; exact this
    | 1, _ => have := hc 1 _ rfl; rw [addr_lit] at this; exact this
    | 2, _ => have := hc 2 _ rfl; rw [addr_lit] at this; exact this
    | 3, _ => have := hc 3 _ rfl; rw [addr_lit] at this; exact this
    | 4, _ => have := hc 4 _ rfl; rw [addr_lit] at this; exact this
end Go.Proofs.Ytknpcphaieoocaa
