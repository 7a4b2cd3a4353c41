/- The program: the sanity check known(), computed: its text's reading. -/
import Derived.KernelRfl
import Derived.Test.YthcalfeoejdcgaaGreatDoorZ06
import Derived.Test.YthcalfeoejdcgaaGreatDoorZ04
namespace Go.Proofs.YthcalfeoejdcgaaGreatDoor
section
open Go.RowKit Go.RowKit
set_option linter.unusedSimpArgs false
set_option linter.unusedVariables false

def strv (l : List UInt8) : Value := .string ⟨⟨l⟩⟩
def syms : List Value := [[43,43],[60,61],[62,61],[33,61],[40],[41],[44],[59],[58],[124],[61],[43],[45],[42],[47],[37],[60],[62]].map strv
def wrds : List Value := [[97,110,100],[111,114],[110,111,116],[110,117,108,108],[116,114,117,101],[102,97,108,115,101],[98,121],[115,101,108,102]].map strv
def usedc : List Value := [1,0,0,0,0, 0,0,0,0,1, 0,0,0,1,0, 0,1,0,0,0, 1,1,1,1,0, 1,1,1,1,0, 1,1,1,0,0, 1,1,1,0,0, 1,0,0,0,0, 1,0,0,0,0, 0,0,0,0,0, 0,1,0,1,0, 0,1,1,1,0].map fun n => .bool (Nat.beq n 1)
/-- the package variables that are read: token.symbols, token.words, query.used, and the rows behind the first two -/
def h0 : Tr AObj := ((((((Tr.leaf : Tr AObj).set xBits 0 (some ⟨false, .cells 42 1 [.slice (some ⟨64,0,none⟩) 18 18]⟩)).set xBits 4 (some ⟨false, .cells 42 1 [.slice (some ⟨65,0,none⟩) 8 8]⟩)).set xBits 2 (some ⟨false, .cells 4 1 usedc⟩)).set xBits 64 (some ⟨false, .cells 9 1 syms⟩)).set xBits 65 (some ⟨false, .cells 9 1 wrds⟩))
def s0 : ASt := ⟨h0, 66, []⟩
/-- "from orders | where id > 0" -/
def txt : Value := strv [102,114,111,109,32,111,114,100,101,114,115,32,124,32,119,104,101,114,101,32,105,100,32,62,32,48]
def nilS : Value := .slice none 0 0
def bStp : AObj := ⟨true, .cells 44 6 [.int .i64 0, strv [111,114,100,101,114,115], nilS, nilS, nilS, nilS, .int .i64 1, strv [], nilS, nilS, nilS, .slice (some ⟨201, 0, none⟩) 3 3]⟩
def bNod : AObj := ⟨true, .cells 48 6 [.int .i64 0, .int .i64 2, .int .i64 0, strv [], strv [], .int .i64 0, .int .i64 1, .int .i64 0, .int .i64 0, strv [], strv [105,100], .int .i64 0, .int .i64 12, .int .i64 0, .int .i64 0, strv [], strv [], .int .i64 0]⟩
def ans36 : Ans where
  args := [txt]
  g := h0
  ids := [0, 2, 4, 64, 65]
  next := 76
  v := .tuple ⟨[.slice (some ⟨226, 0, none⟩) 2 2, .int .i64 0, .int .i64 0]⟩
  nh := ((Tr.leaf : Tr AObj).set xBits 201 (some bNod)).set xBits 226 (some bStp)
  nids := [201, 226]
  next2 := 260
def look36 (x : Option (Value × ASt)) : Option (Value × Nat × Option AObj × Option AObj) := match x with
  | some (v, s) => some (v, s.next, s.heap.get 201, s.heap.get 226)
  | none => none
theorem run36 : look36 ((xR 1000).call 36 [txt] ⟨h0, 76, []⟩) = some (ans36.v, 260, some bNod, some bStp) := by kernel_rfl
theorem h0_get (b : Nat) : h0.get b = if b = 65 then some ⟨false, .cells 9 1 wrds⟩ else if b = 64 then some ⟨false, .cells 9 1 syms⟩ else if b = 2 then some ⟨false, .cells 4 1 usedc⟩ else if b = 4 then some ⟨false, .cells 42 1 [.slice (some ⟨65,0,none⟩) 8 8]⟩ else if b = 0 then some ⟨false, .cells 42 1 [.slice (some ⟨64,0,none⟩) 18 18]⟩ else none := by
  unfold h0
  rw [Tr.get_set xBits _ 65 _ (by decide) b, Tr.get_set xBits _ 64 _ (by decide) b, Tr.get_set xBits _ 2 _ (by decide) b, Tr.get_set xBits _ 4 _ (by decide) b, Tr.get_set xBits _ 0 _ (by decide) b, Tr.get_leaf]
theorem ans36_ok : ans36.Ok (xR 1000) 36 where
  gi b x hb := by
    have hb : h0.get b = some x := hb
    rw [h0_get] at hb
    show b ∈ [0, 2, 4, 64, 65]
    by_cases h1 : b = 65
    · simp [h1]
    · by_cases h2 : b = 64
      · simp [h2]
      · by_cases h3 : b = 2
        · simp [h3]
        · by_cases h4 : b = 4
          · simp [h4]
          · by_cases h5 : b = 0
            · simp [h5]
            · rw [if_neg h1, if_neg h2, if_neg h3, if_neg h4, if_neg h5] at hb; cases hb
  ni b hb := by
    have hb : b ∈ [201, 226] := hb
    simp only [List.mem_cons, List.not_mem_nil, or_false] at hb
    rcases hb with rfl | rfl
    · exact ⟨by decide, by decide, bNod, rfl⟩
    · exact ⟨by decide, by decide, bStp, rfl⟩
  run := by
    have h := run36
    unfold look36 at h
    split at h
    · rename_i v s hx
      simp only [Option.some.injEq, Prod.mk.injEq] at h
      obtain ⟨h1, h2, h3, h4⟩ := h
      refine ⟨s, ?_, h2, fun b hb => ?_⟩
      · rw [← h1]; exact hx
      · have hb : b ∈ [201, 226] := hb
        simp only [List.mem_cons, List.not_mem_nil, or_false] at hb
        rcases hb with rfl | rfl
        · exact h3
        · exact h4
    · cases h
end
end Go.Proofs.YthcalfeoejdcgaaGreatDoor
