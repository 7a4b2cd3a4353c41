import Derived.Test.YthcalfeoejdcgaaGreatDoorChecked
import Derived.KernelRfl
import Derived.Test.YthcalfeoejdcgaaGreatDoorRows
import Derived.Laws.RangeAny
import Derived.Laws.StructEq
import Derived.Deep.RegionHeld3
import Derived.Laws.Externs
import Derived.Test.YthcalfeoejdcgaaGreatDoorH06
namespace Go.Proofs.YthcalfeoejdcgaaGreatDoor
set_option linter.unusedSimpArgs false
set_option linter.unusedVariables false
section
open Go.RowKit
section
variable {E : Ev} {D : Nat -> Prop} {ρ : Nat -> Pl} {s : ASt} {w w' : World}
theorem zbv (h : Sim E D ρ s w) (hb : Below w.heap.size w w') : Sim E D ρ s w' /\ Ex D s ρ w D s ρ w' := by
 refine ⟨⟨h.lt, h.dn, fun i o hi => (h.bd i o hi).kept (fun _ h => h) (fun _ _ => rfl) (hb.block _), fun i o hi => qQ (h.inh i o hi) hb.size, h.apart, h.gl, h.glob, fun i k ob hk => ⟨?_, (h.prot i k ob hk).2⟩⟩, ⟨qV _, fun _ h => h, fun _ h => .inl h, fun _ _ => rfl, fun i o _ h => ⟨o, h⟩, fun i o h1 h2 _ => absurd (h.low i o h2) qF, fun _ h => h, hb.os, hb.tape, hb.output, hb.size, fun k hk _ => hb.block k hk, fun _ _ _ => rfl, fun _ _ h1 h2 _ => absurd h1 h2, fun _ h1 h2 => absurd h1 h2, fun _ h1 h2 => absurd h1 qF, fun _ _ => rfl⟩⟩
 have h1 := (h.prot i k ob hk).1
 exact (hb.block k (Array.getElem?_eq_some_iff.1 h1).1).trans h1
def snapOf (w w' : World) : Nat -> Option Obj := fun k => if w.heap.size <= k then w'.heap[k]? else none
def oPl (w w' : World) : Pl := ⟨0, 0, 1, 0, snapOf w w'⟩
def ASt.opq (s : ASt) : ASt := ⟨s.heap, s.next + 1, s.tc⟩
theorem zd3 (h : Sim E D ρ s w) (hb : Below w.heap.size w w') {d : Nat} (hd : d < 1024) {v : Value} (h1 : v.oneCell' = true) (he : E d v (snapOf w w')) :
 Rv E (more D s.next) (plus ρ s.next (oPl w w')) (.chan (some (s.next * 1024 + d))) v /\ Sim E (more D s.next) (plus ρ s.next (oPl w w')) s.opq w' /\ Ex D s ρ w (more D s.next) s.opq (plus ρ s.next (oPl w w')) w' := by
 have old : ∀ i o, s.heap.get i = some o -> plus ρ s.next (oPl w w') i = ρ i := fun i o hi => zam (h.low i o hi)
 refine ⟨?_, ⟨fun i o hi => .inl (h.lt i o hi), fun i hi => ?_, fun i o hi => ?_, fun i o hi => ?_, fun i j o o' hi hj hne hwr => ?_, fun g hg => .inl (h.gl g hg), fun g hg => ?_, fun i k ob hk => ?_⟩,
  ⟨Nat.le_succ _, fun _ h => .inl h, fun i h => h.imp id fun e => Nat.le_of_eq e.symm, fun i hi => zam hi, fun i o _ h => ⟨o, h⟩, fun i o h1 h2 _ => absurd (h.low i o h2) qF, fun _ h => h, hb.os, hb.tape, hb.output, hb.size, fun k hk _ => hb.block k hk, fun _ _ _ => rfl, fun _ _ h1 h2 _ => absurd h1 h2, fun _ h1 h2 => absurd h1 h2, fun i h1 h2 k ob hk => ?_, fun i h1 => if_neg (by have h1 : s.next + 1 <= i := h1; omega)⟩⟩
 . have e1 : (s.next * 1024 + d) / 1024 = s.next := by omega
   have e2 : (s.next * 1024 + d) % 1024 = d := by omega
   refine .opq _ v (by rw [e1]; exact .inr rfl) h1 ?_
   rw [e1, e2, zao]
   exact he
 . show i < s.next + 1
   rcases hi with hi | hi
   . have := h.dn i hi; omega
   . omega
 . rw [old i o hi]
   exact (h.bd i o hi).kept (fun j hj => .inl hj) (fun j hj => zam (h.dn j hj)) (hb.block _)
 . rw [old i o hi]; exact qQ (h.inh i o hi) hb.size
 . rw [old i o hi, old j o' hj]; exact h.apart i j o o' hi hj hne hwr
 . rw [zam (h.dn g (h.gl g hg))]; exact h.glob g hg
 . by_cases e : i = s.next
   . subst e
     rw [zao] at hk
     have hk : snapOf w w' k = some ob := hk
     unfold snapOf at hk
     split at hk
     . refine ⟨hk, fun b o hbo _ => ?_⟩
       rw [old b o hbo]
       have := h.inh b o hbo
       omega
     . cases hk
   . have e2 : plus ρ s.next (oPl w w') i = ρ i := if_neg e
     rw [e2] at hk
     obtain ⟨h2, h3⟩ := h.prot i k ob hk
     exact ⟨(hb.block k (Array.getElem?_eq_some_iff.1 h2).1).trans h2, fun b o hbo hwr => by rw [old b o hbo]; exact h3 b o hbo hwr⟩
 . have e : i = s.next := by have h2 : i < s.next + 1 := h2; omega
   subst e
   rw [zao] at hk
   have hk : snapOf w w' k = some ob := hk
   unfold snapOf at hk
   split at hk
   . assumption
   . cases hk
def TabAt (t : Tab) (v : Value) (sn : Nat -> Option Obj) : Prop := ∃ A n c, v = .slice A n c /\ n <= c /\ ∀ W : World, (∀ k ob, sn k = some ob -> W.heap[k]? = some ob) -> rTab W A n t
theorem zbw {A : Option Addr} {n c : Nat} {t : Tab} {B : Nat} (h : rTabF w' B A n t) (hB : w.heap.size <= B) (hc : n <= c) : TabAt t (.slice A n c) (snapOf w w') :=
 ⟨A, n, c, rfl, hc, fun W hW => (h.other fun b hb hl => by
  have : snapOf w w' b = some w'.heap[b] := by
   unfold snapOf
   rw [if_pos qF, Array.getElem?_eq_getElem hl]
  rw [hW b _ this, Array.getElem?_eq_getElem hl]).tab⟩
theorem zig {k : Nat} {v : Value} (hv : Rv E D ρ (.chan (some k)) v) (h : Sim E D ρ s w) : ∃ sn, E (k % 1024) v sn /\ ∀ b ob, sn b = some ob -> w.heap[b]? = some ob := by
 cases hv with
 | flat _ h => cases h
 | opq _ _ hd h1 he => exact ⟨_, he, fun b ob hb => (h.prot _ b ob hb).1⟩
def rdFlat (C : Nat) (s : ASt) : Value -> Option (List Value)
 | .slice none 0 0 => some []
 | .slice (some ⟨i, o, none⟩) n _ => match aload s i o (n * C) with
   | some l => cond (l.all flatV && Nat.ble 1 n) (some l) none
   | none => none
 | .slice (some ⟨0, 0, some 0⟩) 0 0 => some []
 | _ => none
theorem zih : ∀ {l l' : List Value} (_ : Rvs E D ρ l l') (_ : l.all flatV = true), l' = l
 | _, _, .nil, _ => rfl
 | _, _, .cons a b l m h t, hf => by
   simp only [List.all_cons, Bool.and_eq_true] at hf
   rw [zih t hf.2]
   have e : b = a := by
    cases h with
    | flat _ _ => rfl
    | poison => cases hf.1
    | opq => cases hf.1
    | ptr => cases hf.1
    | slice => cases hf.1
    | empty => cases hf.1
    | map => cases hf.1
    | func fn k k' l l' g h =>
      obtain ⟨rfl, rfl⟩ := zhf hf.1
      cases g
      cases h
      rfl
    | agg => cases hf.1
    | tuple => cases hf.1
   rw [e]
theorem zpx {C : Nat} {v v' : Value} {l : List Value} (hr : rdFlat C s v = some l) (h : Sim E D ρ s w) (hv : Rv E D ρ v v') : ∃ A n c, v' = .slice A n c /\ Fl w C A n l /\ n <= c := by
 unfold rdFlat at hr
 split at hr
 . cases hr
   cases zdd hv
   exact ⟨_, _, _, rfl, Fl.nil _ _ _, qV _⟩
 . rename_i i o n m
   split at hr
   . rename_i l1 hl
     obtain ⟨h1, h2⟩ := zax hr
     cases h2
     simp only [Bool.and_eq_true] at h1
     have hn := qS h1.2
     obtain ⟨l', j1, j2, j3⟩ := zfi hl h
     have e := zih j1 h1.1
     subst e
     cases hv with
     | flat _ h => cases h
     | slice i o n lb c hd g1 g2 g3 g4 =>
       refine ⟨_, _, _, rfl, ⟨j2, fun _ => ⟨_, _, rfl, fun j u hu => ?_⟩⟩, by omega⟩
       have := j3 j u hu
       rwa [zb2] at this
   . cases hr
 . cases hr
   cases hv with
   | flat _ h => cases h
   | empty A c => exact ⟨_, _, _, rfl, Fl.nil _ _ _, Nat.zero_le _⟩
 . cases hr
def intEq (a b : Int) : Bool := match a, b with
 | .ofNat m, .ofNat n => Nat.beq m n
 | .negSucc m, .negSucc n => Nat.beq m n
 | _, _ => false
theorem zed {a b : Int} (h : intEq a b = true) : a = b := by
 unfold intEq at h
 split at h
 . rw [qU h]
 . rw [qU h]
 . cases h
def eqF : Value -> Value -> Bool
 | .bool a, .bool b => cond a b (cond b false true)
 | .int .i64 a, .int .i64 b => intEq a b
 | .string a, .string b => eqB a.data.toList b.data.toList
 | .slice none 0 0, .slice none 0 0 => true
 | _, _ => false
theorem eqF_ok {a b : Value} (h : eqF a b = true) : a = b := by
 unfold eqF at h
 split at h
 . rename_i a b
   cases a <;> cases b <;> first | rfl | cases h
 . rw [zed h]
 . rename_i a b
   rw [ziz] at h
   have h := eq_of_beq h
   have : a = b := ByteArray.ext (Array.ext' h)
   rw [this]
 . rfl
 . cases h
def eqFs : List Value -> List Value -> Bool
 | [], [] => true
 | a :: l, b :: m => cond (eqF a b) (eqFs l m) false
 | _, _ => false
theorem zol : ∀ {a b : List Value} (_ : eqFs a b = true), a = b
 | [], [], _ => rfl
 | [], _ :: _, h => by cases h
 | _ :: _, [], h => by cases h
 | a :: l, b :: m, h => by
   unfold eqFs at h
   cases hx : eqF a b
   . rw [hx] at h; cases h
   . rw [hx] at h
     rw [eqF_ok hx, zol h]
def isFlat (C : Nat) (s : ASt) (v : Value) (l : List Value) : Bool := match rdFlat C s v with
 | some m => eqFs m l
 | none => false
theorem zbn {C : Nat} {v v' : Value} {l : List Value} (hr : isFlat C s v l = true) (h : Sim E D ρ s w) (hv : Rv E D ρ v v') : ∃ A n c, v' = .slice A n c /\ Fl w C A n l /\ n <= c := by
 unfold isFlat at hr
 split at hr
 . rename_i m hm
   rw [<- zol hr]
   exact zpx hm h hv
 . cases hr
end
noncomputable def ti1 : TI := ⟨TypeDesc.func #[] #[] false, 1, 8, .nilFunc, []⟩
noncomputable def ti3 : TI := ⟨TypeDesc.int IntKind.i64, 1, 8, .int .i64 0, []⟩
noncomputable def ti4 : TI := ⟨TypeDesc.bool, 1, 1, .bool false, []⟩
noncomputable def ti5 : TI := ⟨TypeDesc.int IntKind.u8, 1, 1, .int .u8 0, []⟩
noncomputable def ti9 : TI := ⟨TypeDesc.string, 1, 16, .string ⟨#[]⟩, []⟩
noncomputable def ti21 : TI := ⟨TypeDesc.int IntKind.i32, 1, 4, .int .i32 0, []⟩
noncomputable def ti22 : TI := ⟨TypeDesc.slice 3, 1, 24, .slice none 0 0, []⟩
noncomputable def ti23 : TI := ⟨TypeDesc.slice 31, 1, 24, .slice none 0 0, []⟩
noncomputable def ti25 : TI := ⟨TypeDesc.slice 48, 1, 24, .slice none 0 0, []⟩
noncomputable def ti27 : TI := ⟨TypeDesc.slice 56, 1, 24, .slice none 0 0, []⟩
noncomputable def ti28 : TI := ⟨TypeDesc.slice 42, 1, 24, .slice none 0 0, []⟩
noncomputable def ti29 : TI := ⟨TypeDesc.slice 65, 1, 24, .slice none 0 0, []⟩
noncomputable def ti31 : TI := ⟨TypeDesc.struct #[{ name := "Name", type := 9, offset := 0, embedded := false, tag := "", pkgPath := "", byteOffset := 0 }, { name := "Columns", type := 27, offset := 1, embedded := false, tag := "", pkgPath := "", byteOffset := 16 }, { name := "Keys", type := 28, offset := 2, embedded := false, tag := "", pkgPath := "", byteOffset := 40 }, { name := "Rows", type := 29, offset := 3, embedded := false, tag := "", pkgPath := "", byteOffset := 64 }], 4, 88, .agg #[.string ⟨#[]⟩, .slice none 0 0, .slice none 0 0, .slice none 0 0], [(0, 1, false), (1, 1, false), (2, 1, false), (3, 1, false)]⟩
noncomputable def ti32 : TI := ⟨TypeDesc.int IntKind.u64, 1, 8, .int .u64 0, []⟩
noncomputable def ti33 : TI := ⟨TypeDesc.int IntKind.i64, 1, 8, .int .i64 0, []⟩
noncomputable def ti36 : TI := ⟨TypeDesc.slice 80, 1, 24, .slice none 0 0, []⟩
noncomputable def ti40 : TI := ⟨TypeDesc.struct #[{ name := "Name", type := 9, offset := 0, embedded := false, tag := "", pkgPath := "", byteOffset := 0 }, { name := "Func", type := 3, offset := 1, embedded := false, tag := "", pkgPath := "", byteOffset := 16 }, { name := "Column", type := 9, offset := 2, embedded := false, tag := "", pkgPath := "", byteOffset := 24 }, { name := "Number", type := 3, offset := 3, embedded := false, tag := "", pkgPath := "", byteOffset := 40 }, { name := "Expr", type := 25, offset := 4, embedded := false, tag := "", pkgPath := "", byteOffset := 48 }], 5, 72, .agg #[.string ⟨#[]⟩, .int .i64 0, .string ⟨#[]⟩, .int .i64 0, .slice none 0 0], [(0, 1, false), (1, 1, false), (2, 1, false), (3, 1, false), (4, 1, false)]⟩
noncomputable def ti41 : TI := ⟨TypeDesc.slice 40, 1, 24, .slice none 0 0, []⟩
noncomputable def ti42 : TI := ⟨TypeDesc.slice 9, 1, 24, .slice none 0 0, []⟩
noncomputable def ti44 : TI := ⟨TypeDesc.struct #[{ name := "Op", type := 3, offset := 0, embedded := false, tag := "", pkgPath := "", byteOffset := 0 }, { name := "Source", type := 9, offset := 1, embedded := false, tag := "", pkgPath := "", byteOffset := 8 }, { name := "Names", type := 42, offset := 2, embedded := false, tag := "", pkgPath := "", byteOffset := 24 }, { name := "Others", type := 42, offset := 3, embedded := false, tag := "", pkgPath := "", byteOffset := 48 }, { name := "Items", type := 41, offset := 4, embedded := false, tag := "", pkgPath := "", byteOffset := 72 }, { name := "Cond", type := 25, offset := 5, embedded := false, tag := "", pkgPath := "", byteOffset := 96 }], 6, 120, .agg #[.int .i64 0, .string ⟨#[]⟩, .slice none 0 0, .slice none 0 0, .slice none 0 0, .slice none 0 0], [(0, 1, false), (1, 1, false), (2, 1, false), (3, 1, false), (4, 1, false), (5, 1, false)]⟩
noncomputable def ti46 : TI := ⟨TypeDesc.struct #[{ name := "Kind", type := 3, offset := 0, embedded := false, tag := "", pkgPath := "", byteOffset := 0 }, { name := "Num", type := 3, offset := 1, embedded := false, tag := "", pkgPath := "", byteOffset := 8 }, { name := "Str", type := 9, offset := 2, embedded := false, tag := "", pkgPath := "", byteOffset := 16 }], 3, 32, .agg #[.int .i64 0, .int .i64 0, .string ⟨#[]⟩], [(0, 1, false), (1, 1, false), (2, 1, false)]⟩
noncomputable def ti48 : TI := ⟨TypeDesc.struct #[{ name := "Op", type := 3, offset := 0, embedded := false, tag := "", pkgPath := "", byteOffset := 0 }, { name := "Value", type := 46, offset := 1, embedded := false, tag := "", pkgPath := "", byteOffset := 8 }, { name := "Name", type := 9, offset := 4, embedded := false, tag := "", pkgPath := "", byteOffset := 40 }, { name := "Arity", type := 3, offset := 5, embedded := false, tag := "", pkgPath := "", byteOffset := 56 }], 6, 64, .agg #[.int .i64 0, .int .i64 0, .int .i64 0, .string ⟨#[]⟩, .string ⟨#[]⟩, .int .i64 0], [(0, 1, false), (1, 3, true), (4, 1, false), (5, 1, false)]⟩
noncomputable def ti56 : TI := ⟨TypeDesc.struct #[{ name := "Name", type := 9, offset := 0, embedded := false, tag := "", pkgPath := "", byteOffset := 0 }, { name := "Kind", type := 3, offset := 1, embedded := false, tag := "", pkgPath := "", byteOffset := 16 }, { name := "Nullable", type := 4, offset := 2, embedded := false, tag := "", pkgPath := "", byteOffset := 24 }], 3, 32, .agg #[.string ⟨#[]⟩, .int .i64 0, .bool false], [(0, 1, false), (1, 1, false), (2, 1, false)]⟩
noncomputable def ti57 : TI := ⟨TypeDesc.slice 44, 1, 24, .slice none 0 0, []⟩
noncomputable def ti63 : TI := ⟨TypeDesc.slice 46, 1, 24, .slice none 0 0, []⟩
noncomputable def ti65 : TI := ⟨TypeDesc.struct #[{ name := "Row", type := 63, offset := 0, embedded := false, tag := "", pkgPath := "", byteOffset := 0 }, { name := "Count", type := 3, offset := 1, embedded := false, tag := "", pkgPath := "", byteOffset := 24 }], 2, 32, .agg #[.slice none 0 0, .int .i64 0], [(0, 1, false), (1, 1, false)]⟩
noncomputable def ti78 : TI := ⟨TypeDesc.slice 88, 1, 24, .slice none 0 0, []⟩
noncomputable def ti80 : TI := ⟨TypeDesc.struct #[{ name := "Name", type := 9, offset := 0, embedded := false, tag := "", pkgPath := "", byteOffset := 0 }, { name := "Offset", type := 3, offset := 1, embedded := false, tag := "", pkgPath := "", byteOffset := 16 }, { name := "Shifts", type := 78, offset := 2, embedded := false, tag := "", pkgPath := "", byteOffset := 24 }], 3, 48, .agg #[.string ⟨#[]⟩, .int .i64 0, .slice none 0 0], [(0, 1, false), (1, 1, false), (2, 1, false)]⟩
noncomputable def ti81 : TI := ⟨TypeDesc.slice 84, 1, 24, .slice none 0 0, []⟩
noncomputable def ti84 : TI := ⟨TypeDesc.struct #[{ name := "kind", type := 3, offset := 0, embedded := false, tag := "", pkgPath := "warehouse/warehouseref9", byteOffset := 0 }, { name := "nullable", type := 4, offset := 1, embedded := false, tag := "", pkgPath := "warehouse/warehouseref9", byteOffset := 8 }], 2, 16, .agg #[.int .i64 0, .bool false], [(0, 1, false), (1, 1, false)]⟩
noncomputable def ti88 : TI := ⟨TypeDesc.struct #[{ name := "At", type := 3, offset := 0, embedded := false, tag := "", pkgPath := "", byteOffset := 0 }, { name := "Offset", type := 3, offset := 1, embedded := false, tag := "", pkgPath := "", byteOffset := 8 }], 2, 16, .agg #[.int .i64 0, .int .i64 0], [(0, 1, false), (1, 1, false)]⟩
noncomputable def ti97 : TI := ⟨TypeDesc.func #[63, 63] #[3] false, 1, 8, .nilFunc, []⟩
noncomputable def ti104 : TI := ⟨TypeDesc.slice 25, 1, 24, .slice none 0 0, []⟩
noncomputable def ti118 : TI := ⟨TypeDesc.slice 123, 1, 24, .slice none 0 0, []⟩
noncomputable def ti123 : TI := ⟨TypeDesc.struct #[{ name := "Kind", type := 3, offset := 0, embedded := false, tag := "", pkgPath := "", byteOffset := 0 }, { name := "Text", type := 9, offset := 1, embedded := false, tag := "", pkgPath := "", byteOffset := 8 }, { name := "Num", type := 3, offset := 2, embedded := false, tag := "", pkgPath := "", byteOffset := 24 }, { name := "At", type := 3, offset := 3, embedded := false, tag := "", pkgPath := "", byteOffset := 32 }], 4, 40, .agg #[.int .i64 0, .string ⟨#[]⟩, .int .i64 0, .int .i64 0], [(0, 1, false), (1, 1, false), (2, 1, false), (3, 1, false)]⟩
noncomputable def ti124 : TI := ⟨TypeDesc.slice 27, 1, 24, .slice none 0 0, []⟩
noncomputable def ti129 : TI := ⟨TypeDesc.func #[31] #[4] false, 1, 8, .nilFunc, []⟩
noncomputable def ti133 : TI := ⟨TypeDesc.func #[65] #[4] false, 1, 8, .nilFunc, []⟩
noncomputable def ti135 : TI := ⟨TypeDesc.func #[46, 46] #[3] false, 1, 8, .nilFunc, []⟩
noncomputable def ti146 : TI := ⟨TypeDesc.pointer 148, 1, 8, .pointer none, []⟩
noncomputable def ti148 : TI := ⟨TypeDesc.struct #[{ name := "tokens", type := 118, offset := 0, embedded := false, tag := "", pkgPath := "warehouse/query", byteOffset := 0 }, { name := "at", type := 3, offset := 1, embedded := false, tag := "", pkgPath := "warehouse/query", byteOffset := 24 }, { name := "err", type := 33, offset := 2, embedded := false, tag := "", pkgPath := "warehouse/query", byteOffset := 32 }], 3, 40, .agg #[.slice none 0 0, .int .i64 0, .int .i64 0], [(0, 1, false), (1, 1, false), (2, 1, false)]⟩
noncomputable def ti170 : TI := ⟨TypeDesc.map 9 173, 1, 8, .map none, []⟩
noncomputable def ti173 : TI := ⟨TypeDesc.func #[] #[44] false, 1, 8, .nilFunc, []⟩
noncomputable def ti185 : TI := ⟨TypeDesc.slice 5, 1, 24, .slice none 0 0, []⟩
noncomputable def ti188 : TI := ⟨TypeDesc.func #[] #[25] false, 1, 8, .nilFunc, []⟩
noncomputable def ti193 : TI := ⟨TypeDesc.func #[] #[33] false, 1, 8, .nilFunc, []⟩
noncomputable def ti198 : TI := ⟨TypeDesc.func #[40] #[33] false, 1, 8, .nilFunc, []⟩
noncomputable def ti202 : TI := ⟨TypeDesc.func #[56] #[4] false, 1, 8, .nilFunc, []⟩
noncomputable def ti208 : TI := ⟨TypeDesc.func #[40] #[56, 33] false, 1, 8, .nilFunc, []⟩
noncomputable def ti218 : TI := ⟨TypeDesc.map 9 29, 1, 8, .map none, []⟩
noncomputable def ti223 : TI := ⟨TypeDesc.slice 226, 1, 24, .slice none 0 0, []⟩
noncomputable def ti226 : TI := ⟨TypeDesc.struct #[{ name := "key", type := 63, offset := 0, embedded := false, tag := "", pkgPath := "warehouse/evaluate", byteOffset := 0 }, { name := "rows", type := 29, offset := 1, embedded := false, tag := "", pkgPath := "warehouse/evaluate", byteOffset := 24 }], 2, 48, .agg #[.slice none 0 0, .slice none 0 0], [(0, 1, false), (1, 1, false)]⟩
noncomputable def ti228 : TI := ⟨TypeDesc.struct #[{ name := "Rows", type := 3, offset := 0, embedded := false, tag := "", pkgPath := "", byteOffset := 0 }, { name := "Values", type := 29, offset := 1, embedded := false, tag := "", pkgPath := "", byteOffset := 8 }], 2, 32, .agg #[.int .i64 0, .slice none 0 0], [(0, 1, false), (1, 1, false)]⟩
noncomputable def ti240 : TI := ⟨TypeDesc.map 9 3, 1, 8, .map none, []⟩
noncomputable def ti243 : TI := ⟨TypeDesc.struct #[{ name := "source", type := 4, offset := 0, embedded := false, tag := "", pkgPath := "warehouse/query", byteOffset := 0 }, { name := "names", type := 4, offset := 1, embedded := false, tag := "", pkgPath := "warehouse/query", byteOffset := 1 }, { name := "others", type := 4, offset := 2, embedded := false, tag := "", pkgPath := "warehouse/query", byteOffset := 2 }, { name := "items", type := 4, offset := 3, embedded := false, tag := "", pkgPath := "warehouse/query", byteOffset := 3 }, { name := "cond", type := 4, offset := 4, embedded := false, tag := "", pkgPath := "warehouse/query", byteOffset := 4 }], 5, 5, .agg #[.bool false, .bool false, .bool false, .bool false, .bool false], [(0, 1, false), (1, 1, false), (2, 1, false), (3, 1, false), (4, 1, false)]⟩
noncomputable def ti244 : TI := ⟨TypeDesc.array 13 243, 65, 65, .agg #[.bool false, .bool false, .bool false, .bool false, .bool false, .bool false, .bool false, .bool false, .bool false, .bool false, .bool false, .bool false, .bool false, .bool false, .bool false, .bool false, .bool false, .bool false, .bool false, .bool false, .bool false, .bool false, .bool false, .bool false, .bool false, .bool false, .bool false, .bool false, .bool false, .bool false, .bool false, .bool false, .bool false, .bool false, .bool false, .bool false, .bool false, .bool false, .bool false, .bool false, .bool false, .bool false, .bool false, .bool false, .bool false, .bool false, .bool false, .bool false, .bool false, .bool false, .bool false, .bool false, .bool false, .bool false, .bool false, .bool false, .bool false, .bool false, .bool false, .bool false, .bool false, .bool false, .bool false, .bool false, .bool false], []⟩
noncomputable def ti245 : TI := ⟨TypeDesc.slice 193, 1, 24, .slice none 0 0, []⟩
noncomputable def ti247 : TI := ⟨TypeDesc.func #[40] #[4] false, 1, 8, .nilFunc, []⟩
noncomputable def ti250 : TI := ⟨TypeDesc.func #[56, 56] #[4] false, 1, 8, .nilFunc, []⟩
noncomputable def ti251 : TI := ⟨TypeDesc.map 9 46, 1, 8, .map none, []⟩
noncomputable def ti257 : TI := ⟨TypeDesc.func #[65, 65] #[3] false, 1, 8, .nilFunc, []⟩
noncomputable def ti258 : TI := ⟨TypeDesc.map 9 240, 1, 8, .map none, []⟩
noncomputable def ti261 : TI := ⟨TypeDesc.slice 63, 1, 24, .slice none 0 0, []⟩
noncomputable def ti271 : TI := ⟨TypeDesc.slice 261, 1, 24, .slice none 0 0, []⟩
noncomputable def ti274 : TI := ⟨TypeDesc.array 12 3, 12, 96, .agg #[.int .i64 0, .int .i64 0, .int .i64 0, .int .i64 0, .int .i64 0, .int .i64 0, .int .i64 0, .int .i64 0, .int .i64 0, .int .i64 0, .int .i64 0, .int .i64 0], []⟩
noncomputable def ti275 : TI := ⟨TypeDesc.pointer 277, 1, 8, .pointer none, []⟩
noncomputable def ti277 : TI := ⟨TypeDesc.struct #[{ name := "tokens", type := 118, offset := 0, embedded := false, tag := "", pkgPath := "warehouse/expr", byteOffset := 0 }, { name := "at", type := 3, offset := 1, embedded := false, tag := "", pkgPath := "warehouse/expr", byteOffset := 24 }, { name := "depth", type := 3, offset := 2, embedded := false, tag := "", pkgPath := "warehouse/expr", byteOffset := 32 }, { name := "err", type := 33, offset := 3, embedded := false, tag := "", pkgPath := "warehouse/expr", byteOffset := 40 }], 4, 48, .agg #[.slice none 0 0, .int .i64 0, .int .i64 0, .int .i64 0], [(0, 1, false), (1, 1, false), (2, 1, false), (3, 1, false)]⟩
noncomputable def ti280 : TI := ⟨TypeDesc.slice 282, 1, 24, .slice none 0 0, []⟩
noncomputable def ti282 : TI := ⟨TypeDesc.struct #[{ name := "kind", type := 3, offset := 0, embedded := false, tag := "", pkgPath := "warehouse/scalar", byteOffset := 0 }, { name := "null", type := 4, offset := 1, embedded := false, tag := "", pkgPath := "warehouse/scalar", byteOffset := 8 }], 2, 16, .agg #[.int .i64 0, .bool false], [(0, 1, false), (1, 1, false)]⟩
noncomputable def ti299 : TI := ⟨TypeDesc.slice 322, 1, 24, .slice none 0 0, []⟩
noncomputable def ti302 : TI := ⟨TypeDesc.func #[80] #[4] false, 1, 8, .nilFunc, []⟩
noncomputable def ti304 : TI := ⟨TypeDesc.func #[282] #[4] false, 1, 8, .nilFunc, []⟩
noncomputable def ti310 : TI := ⟨TypeDesc.int IntKind.i64, 1, 8, .int .i64 0, []⟩
noncomputable def ti317 : TI := ⟨TypeDesc.int IntKind.u32, 1, 4, .int .u32 0, []⟩
noncomputable def ti319 : TI := ⟨TypeDesc.int IntKind.u64, 1, 8, .int .u64 0, []⟩
noncomputable def ti322 : TI := ⟨TypeDesc.struct #[{ name := "kind", type := 3, offset := 0, embedded := false, tag := "", pkgPath := "warehouse/expr", byteOffset := 0 }, { name := "operators", type := 240, offset := 1, embedded := false, tag := "", pkgPath := "warehouse/expr", byteOffset := 8 }], 2, 16, .agg #[.int .i64 0, .map none], [(0, 1, false), (1, 1, false)]⟩
noncomputable def ti341 : TI := ⟨TypeDesc.struct #[{ name := "op", type := 3, offset := 0, embedded := false, tag := "", pkgPath := "warehouse/expr", byteOffset := 0 }, { name := "turns", type := 4, offset := 1, embedded := false, tag := "", pkgPath := "warehouse/expr", byteOffset := 8 }], 2, 16, .agg #[.int .i64 0, .bool false], [(0, 1, false), (1, 1, false)]⟩
noncomputable def ti343 : TI := ⟨TypeDesc.map 9 341, 1, 8, .map none, []⟩
noncomputable def xTy : Tr TI := (.node (.node (.node (.node (.node (.node (.node .leaf (some ti63) (.node (.node .leaf (some ti319) .leaf) none .leaf)) (some ti31) (.node .leaf none (.node .leaf (some ti223) .leaf))) none (.node (.node (.node (.node .leaf (some ti271) .leaf) none .leaf) none .leaf) none .leaf)) none (.node (.node (.node (.node .leaf (some ti135) .leaf) none .leaf) none .leaf) (some ti23) (.node (.node .leaf none (.node (.node .leaf (some ti343) .leaf) none .leaf)) none (.node .leaf none (.node .leaf (some ti247) .leaf))))) (some ti3) (.node (.node .leaf none (.node (.node (.node (.node .leaf (some ti275) .leaf) none .leaf) none .leaf) none (.node .leaf none (.node .leaf (some ti243) .leaf)))) none (.node (.node .leaf none (.node (.node (.node .leaf (some ti299) .leaf) none .leaf) none .leaf)) (some ti27) (.node .leaf none (.node .leaf (some ti123) (.node .leaf (some ti251) .leaf)))))) (some ti1) (.node (.node (.node (.node (.node (.node (.node .leaf (some ti257) .leaf) (some ti129) .leaf) (some ti65) (.node .leaf (some ti193) .leaf)) (some ti33) (.node .leaf (some ti97) .leaf)) none (.node (.node .leaf (some ti81) .leaf) none .leaf)) (some ti9) (.node (.node .leaf (some ti41) .leaf) (some ti25) (.node .leaf (some ti57) (.node (.node .leaf (some ti185) .leaf) none .leaf)))) (some ti5) (.node (.node (.node (.node (.node (.node .leaf (some ti261) .leaf) (some ti133) .leaf) none .leaf) none .leaf) (some ti21) (.node (.node (.node (.node .leaf (some ti277) .leaf) none .leaf) none (.node (.node .leaf (some ti341) .leaf) none .leaf)) none (.node .leaf none (.node .leaf (some ti245) .leaf)))) none (.node (.node .leaf none (.node (.node .leaf (some ti173) .leaf) none .leaf)) (some ti29) (.node .leaf none (.node (.node (.node .leaf (some ti317) .leaf) none .leaf) none .leaf)))))) none (.node (.node (.node (.node (.node .leaf (some ti32) .leaf) none (.node (.node .leaf (some ti80) (.node .leaf (some ti208) .leaf)) (some ti48) (.node (.node (.node .leaf (some ti304) .leaf) none .leaf) none (.node .leaf (some ti240) .leaf)))) none (.node (.node .leaf (some ti40) (.node .leaf (some ti104) .leaf)) none (.node (.node (.node (.node .leaf (some ti280) .leaf) none .leaf) (some ti88) .leaf) (some ti56) .leaf))) (some ti4) (.node (.node (.node .leaf (some ti36) (.node .leaf none (.node .leaf (some ti228) .leaf))) none (.node (.node (.node .leaf (some ti148) .leaf) (some ti84) .leaf) none (.node .leaf none (.node .leaf (some ti244) .leaf)))) none (.node (.node .leaf (some ti44) .leaf) (some ti28) (.node .leaf none (.node (.node .leaf (some ti188) .leaf) (some ti124) .leaf))))) none (.node (.node (.node (.node (.node (.node (.node .leaf (some ti258) .leaf) none .leaf) none (.node (.node .leaf (some ti322) .leaf) none .leaf)) none (.node .leaf none (.node .leaf (some ti226) .leaf))) none (.node (.node (.node (.node .leaf (some ti274) .leaf) (some ti146) .leaf) none .leaf) none .leaf)) none (.node (.node (.node .leaf none (.node .leaf (some ti202) .leaf)) (some ti42) (.node (.node .leaf (some ti170) .leaf) none .leaf)) none (.node (.node (.node (.node .leaf (some ti282) .leaf) none .leaf) none (.node .leaf (some ti218) .leaf)) none (.node .leaf none (.node .leaf (some ti250) .leaf))))) none (.node (.node (.node (.node .leaf none (.node .leaf (some ti198) .leaf)) none .leaf) (some ti22) (.node .leaf none (.node (.node (.node .leaf (some ti310) .leaf) none .leaf) (some ti118) .leaf))) none (.node (.node (.node .leaf (some ti78) .leaf) (some ti46) (.node (.node (.node .leaf (some ti302) .leaf) none .leaf) none .leaf)) none .leaf)))))
noncomputable def xFn : Tr Func := (.node (.node (.node (.node (.node (.node (.node (.node (.node .leaf (some Tryz.f255) .leaf) (some Tryz.f127) .leaf) (some Tryz.f63) (.node .leaf (some Tryz.f191) .leaf)) (some Tryz.f31) (.node (.node (.node .leaf (some Tryz.f287) .leaf) (some Tryz.f159) .leaf) (some Tryz.f95) (.node .leaf (some Tryz.f223) .leaf))) (some Tryz.f15) (.node (.node (.node (.node .leaf (some Tryz.f271) .leaf) (some Tryz.f143) .leaf) (some Tryz.f79) (.node .leaf (some Tryz.f207) .leaf)) (some Tryz.f47) (.node (.node (.node .leaf (some Tryz.f303) .leaf) (some Tryz.f175) .leaf) (some Tryz.f111) (.node .leaf (some Tryz.f239) .leaf)))) (some Tryz.f7) (.node (.node (.node (.node (.node .leaf (some Tryz.f263) .leaf) (some Tryz.f135) .leaf) (some Tryz.f71) (.node (.node .leaf (some Tryz.f327) .leaf) (some Tryz.f199) .leaf)) (some Tryz.f39) (.node (.node (.node .leaf (some Tryz.f295) .leaf) (some Tryz.f167) .leaf) (some Tryz.f103) (.node (.node .leaf (some Tryz.f359) .leaf) (some Tryz.f231) .leaf))) (some Tryz.f23) (.node (.node (.node (.node .leaf (some Tryz.f279) .leaf) (some Tryz.f151) .leaf) (some Tryz.f87) (.node .leaf (some Tryz.f215) .leaf)) (some Tryz.f55) (.node (.node (.node .leaf (some Tryz.f311) .leaf) (some Tryz.f183) .leaf) (some Tryz.f119) (.node .leaf (some Tryz.f247) .leaf))))) (some Tryz.f3) (.node (.node (.node (.node (.node (.node .leaf (some Tryz.f259) .leaf) (some Tryz.f131) .leaf) (some Tryz.f67) (.node .leaf (some Tryz.f195) .leaf)) (some Tryz.f35) (.node (.node (.node .leaf (some Tryz.f291) .leaf) (some Tryz.f163) .leaf) (some Tryz.f99) (.node (.node .leaf (some Tryz.f355) .leaf) (some Tryz.f227) .leaf))) (some Tryz.f19) (.node (.node (.node (.node .leaf (some Tryz.f275) .leaf) (some Tryz.f147) .leaf) (some Tryz.f83) (.node .leaf (some Tryz.f211) .leaf)) (some Tryz.f51) (.node (.node (.node .leaf (some Tryz.f307) .leaf) (some Tryz.f179) .leaf) (some Tryz.f115) (.node .leaf (some Tryz.f243) .leaf)))) (some Tryz.f11) (.node (.node (.node (.node (.node .leaf (some Tryz.f267) .leaf) (some Tryz.f139) .leaf) (some Tryz.f75) (.node (.node .leaf (some Tryz.f331) .leaf) (some Tryz.f203) .leaf)) (some Tryz.f43) (.node (.node (.node .leaf (some Tryz.f299) .leaf) (some Tryz.f171) .leaf) (some Tryz.f107) (.node .leaf (some Tryz.f235) .leaf))) (some Tryz.f27) (.node (.node (.node (.node .leaf (some Tryz.f283) .leaf) (some Tryz.f155) .leaf) (some Tryz.f91) (.node (.node .leaf (some Tryz.f347) .leaf) (some Tryz.f219) .leaf)) (some Tryz.f59) (.node (.node .leaf (some Tryz.f187) .leaf) (some Tryz.f123) (.node .leaf (some Tryz.f251) .leaf)))))) none (.node (.node (.node (.node (.node (.node (.node .leaf (some Tryz.f257) .leaf) (some Tryz.f129) .leaf) (some Tryz.f65) (.node .leaf (some Tryz.f193) .leaf)) (some Tryz.f33) (.node (.node (.node .leaf (some Tryz.f289) .leaf) (some Tryz.f161) .leaf) (some Tryz.f97) (.node (.node .leaf (some Tryz.f353) .leaf) (some Tryz.f225) .leaf))) (some Tryz.f17) (.node (.node (.node (.node .leaf (some Tryz.f273) .leaf) (some Tryz.f145) .leaf) (some Tryz.f81) (.node .leaf (some Tryz.f209) .leaf)) (some Tryz.f49) (.node (.node (.node .leaf (some Tryz.f305) .leaf) (some Tryz.f177) .leaf) (some Tryz.f113) (.node .leaf (some Tryz.f241) .leaf)))) (some Tryz.f9) (.node (.node (.node (.node (.node .leaf (some Tryz.f265) .leaf) (some Tryz.f137) .leaf) (some Tryz.f73) (.node (.node .leaf (some Tryz.f329) .leaf) (some Tryz.f201) .leaf)) (some Tryz.f41) (.node (.node (.node .leaf (some Tryz.f297) .leaf) (some Tryz.f169) .leaf) (some Tryz.f105) (.node .leaf (some Tryz.f233) .leaf))) (some Tryz.f25) (.node (.node (.node (.node .leaf (some Tryz.f281) .leaf) (some Tryz.f153) .leaf) (some Tryz.f89) (.node .leaf (some Tryz.f217) .leaf)) (some Tryz.f57) (.node (.node .leaf (some Tryz.f185) .leaf) (some Tryz.f121) (.node .leaf (some Tryz.f249) .leaf))))) (some Tryz.f5) (.node (.node (.node (.node (.node (.node .leaf (some Tryz.f261) .leaf) (some Tryz.f133) .leaf) (some Tryz.f69) (.node .leaf (some Tryz.f197) .leaf)) (some Tryz.f37) (.node (.node (.node .leaf (some Tryz.f293) .leaf) (some Tryz.f165) .leaf) (some Tryz.f101) (.node .leaf (some Tryz.f229) .leaf))) (some Tryz.f21) (.node (.node (.node (.node .leaf (some Tryz.f277) .leaf) (some Tryz.f149) .leaf) (some Tryz.f85) (.node .leaf (some Tryz.f213) .leaf)) (some Tryz.f53) (.node (.node (.node .leaf (some Tryz.f309) .leaf) (some Tryz.f181) .leaf) (some Tryz.f117) (.node .leaf (some Tryz.f245) .leaf)))) (some Tryz.f13) (.node (.node (.node (.node (.node .leaf (some Tryz.f269) .leaf) (some Tryz.f141) .leaf) (some Tryz.f77) (.node .leaf (some Tryz.f205) .leaf)) (some Tryz.f45) (.node (.node (.node .leaf (some Tryz.f301) .leaf) (some Tryz.f173) .leaf) (some Tryz.f109) (.node .leaf (some Tryz.f237) .leaf))) (some Tryz.f29) (.node (.node (.node (.node .leaf (some Tryz.f285) .leaf) (some Tryz.f157) .leaf) (some Tryz.f93) (.node .leaf (some Tryz.f221) .leaf)) (some Tryz.f61) (.node (.node .leaf (some Tryz.f189) .leaf) (some Tryz.f125) (.node .leaf (some Tryz.f253) .leaf))))))) none (.node (.node (.node (.node (.node (.node (.node (.node .leaf (some Tryz.f256) .leaf) (some Tryz.f128) .leaf) (some Tryz.f64) (.node .leaf (some Tryz.f192) .leaf)) (some Tryz.f32) (.node (.node (.node .leaf (some Tryz.f288) .leaf) (some Tryz.f160) .leaf) (some Tryz.f96) (.node .leaf (some Tryz.f224) .leaf))) (some Tryz.f16) (.node (.node (.node (.node .leaf (some Tryz.f272) .leaf) (some Tryz.f144) .leaf) (some Tryz.f80) (.node .leaf (some Tryz.f208) .leaf)) (some Tryz.f48) (.node (.node (.node .leaf (some Tryz.f304) .leaf) (some Tryz.f176) .leaf) (some Tryz.f112) (.node .leaf (some Tryz.f240) .leaf)))) (some Tryz.f8) (.node (.node (.node (.node (.node .leaf (some Tryz.f264) .leaf) (some Tryz.f136) .leaf) (some Tryz.f72) (.node (.node .leaf (some Tryz.f328) .leaf) (some Tryz.f200) .leaf)) (some Tryz.f40) (.node (.node (.node .leaf (some Tryz.f296) .leaf) (some Tryz.f168) .leaf) (some Tryz.f104) (.node (.node .leaf (some Tryz.f360) .leaf) (some Tryz.f232) .leaf))) (some Tryz.f24) (.node (.node (.node (.node .leaf (some Tryz.f280) .leaf) (some Tryz.f152) .leaf) (some Tryz.f88) (.node .leaf (some Tryz.f216) .leaf)) (some Tryz.f56) (.node (.node .leaf (some Tryz.f184) .leaf) (some Tryz.f120) (.node .leaf (some Tryz.f248) .leaf))))) (some Tryz.f4) (.node (.node (.node (.node (.node (.node .leaf (some Tryz.f260) .leaf) (some Tryz.f132) .leaf) (some Tryz.f68) (.node .leaf (some Tryz.f196) .leaf)) (some Tryz.f36) (.node (.node (.node .leaf (some Tryz.f292) .leaf) (some Tryz.f164) .leaf) (some Tryz.f100) (.node (.node .leaf (some Tryz.f356) .leaf) (some Tryz.f228) .leaf))) (some Tryz.f20) (.node (.node (.node (.node .leaf (some Tryz.f276) .leaf) (some Tryz.f148) .leaf) (some Tryz.f84) (.node .leaf (some Tryz.f212) .leaf)) (some Tryz.f52) (.node (.node (.node .leaf (some Tryz.f308) .leaf) (some Tryz.f180) .leaf) (some Tryz.f116) (.node .leaf (some Tryz.f244) .leaf)))) (some Tryz.f12) (.node (.node (.node (.node (.node .leaf (some Tryz.f268) .leaf) (some Tryz.f140) .leaf) (some Tryz.f76) (.node .leaf (some Tryz.f204) .leaf)) (some Tryz.f44) (.node (.node (.node .leaf (some Tryz.f300) .leaf) (some Tryz.f172) .leaf) (some Tryz.f108) (.node .leaf (some Tryz.f236) .leaf))) (some Tryz.f28) (.node (.node (.node (.node .leaf (some Tryz.f284) .leaf) (some Tryz.f156) .leaf) (some Tryz.f92) (.node (.node .leaf (some Tryz.f348) .leaf) (some Tryz.f220) .leaf)) (some Tryz.f60) (.node (.node .leaf (some Tryz.f188) .leaf) (some Tryz.f124) (.node .leaf (some Tryz.f252) .leaf)))))) none (.node (.node (.node (.node (.node (.node (.node .leaf (some Tryz.f258) .leaf) (some Tryz.f130) .leaf) (some Tryz.f66) (.node .leaf (some Tryz.f194) .leaf)) (some Tryz.f34) (.node (.node (.node .leaf (some Tryz.f290) .leaf) (some Tryz.f162) .leaf) (some Tryz.f98) (.node (.node .leaf (some Tryz.f354) .leaf) (some Tryz.f226) .leaf))) (some Tryz.f18) (.node (.node (.node (.node .leaf (some Tryz.f274) .leaf) (some Tryz.f146) .leaf) (some Tryz.f82) (.node .leaf (some Tryz.f210) .leaf)) (some Tryz.f50) (.node (.node (.node .leaf (some Tryz.f306) .leaf) (some Tryz.f178) .leaf) (some Tryz.f114) (.node .leaf (some Tryz.f242) .leaf)))) (some Tryz.f10) (.node (.node (.node (.node (.node .leaf (some Tryz.f266) .leaf) (some Tryz.f138) .leaf) (some Tryz.f74) (.node (.node .leaf (some Tryz.f330) .leaf) (some Tryz.f202) .leaf)) (some Tryz.f42) (.node (.node (.node .leaf (some Tryz.f298) .leaf) (some Tryz.f170) .leaf) (some Tryz.f106) (.node .leaf (some Tryz.f234) .leaf))) (some Tryz.f26) (.node (.node (.node (.node .leaf (some Tryz.f282) .leaf) (some Tryz.f154) .leaf) (some Tryz.f90) (.node (.node .leaf (some Tryz.f346) .leaf) (some Tryz.f218) .leaf)) (some Tryz.f58) (.node (.node .leaf (some Tryz.f186) .leaf) (some Tryz.f122) (.node .leaf (some Tryz.f250) .leaf))))) (some Tryz.f6) (.node (.node (.node (.node (.node (.node .leaf (some Tryz.f262) .leaf) (some Tryz.f134) .leaf) (some Tryz.f70) (.node (.node .leaf (some Tryz.f326) .leaf) (some Tryz.f198) .leaf)) (some Tryz.f38) (.node (.node (.node .leaf (some Tryz.f294) .leaf) (some Tryz.f166) .leaf) (some Tryz.f102) (.node (.node .leaf (some Tryz.f358) .leaf) (some Tryz.f230) .leaf))) (some Tryz.f22) (.node (.node (.node (.node .leaf (some Tryz.f278) .leaf) (some Tryz.f150) .leaf) (some Tryz.f86) (.node .leaf (some Tryz.f214) .leaf)) (some Tryz.f54) (.node (.node (.node .leaf (some Tryz.f310) .leaf) (some Tryz.f182) .leaf) (some Tryz.f118) (.node .leaf (some Tryz.f246) .leaf)))) (some Tryz.f14) (.node (.node (.node (.node (.node .leaf (some Tryz.f270) .leaf) none .leaf) (some Tryz.f78) (.node .leaf (some Tryz.f206) .leaf)) (some Tryz.f46) (.node (.node (.node .leaf (some Tryz.f302) .leaf) (some Tryz.f174) .leaf) (some Tryz.f110) (.node .leaf (some Tryz.f238) .leaf))) (some Tryz.f30) (.node (.node (.node (.node .leaf (some Tryz.f286) .leaf) (some Tryz.f158) .leaf) (some Tryz.f94) (.node .leaf (some Tryz.f222) .leaf)) (some Tryz.f62) (.node (.node .leaf (some Tryz.f190) .leaf) (some Tryz.f126) (.node .leaf (some Tryz.f254) .leaf))))))))
def fldsOk (P : Program) : List Field -> List (Nat × Nat × Bool) -> Bool
 | [], [] => true
 | f :: l, (off, sz, ag) :: m => Nat.beq f.offset off && (match P.info? f.type with | some g => Nat.beq g.size sz | none => false) && (match P.underlying f.type with | some d => aggD d == ag | none => false) && fldsOk P l m
 | _, _ => false
theorem zd0 {P : Program} : ∀ (l : List Field) (m : List (Nat × Nat × Bool)), fldsOk P l m = true -> l.length = m.length /\ ∀ (k : Nat) (f : Field), l[k]? = some f -> ∃ sz ag d g, m[k]? = some (f.offset, sz, ag) /\ P.underlying f.type = some d /\ aggD d = ag /\ P.info? f.type = some g /\ g.size = sz
 | [], [], _ => ⟨rfl, fun k f h => by simp at h⟩
 | [], _ :: _, h => by cases h
 | _ :: _, [], h => by cases h
 | f :: l, (off, sz, ag) :: m, h => by
   simp only [fldsOk, Bool.and_eq_true] at h
   obtain ⟨⟨⟨h1, h2⟩, h3⟩, h4⟩ := h
   obtain ⟨k1, k2⟩ := zd0 l m h4
   refine ⟨by simp [k1], fun k f' hk => ?_⟩
   cases k with
   | succ k =>
     obtain ⟨sz, ag, d, g, j⟩ := k2 k f' (by simpa using hk)
     exact ⟨sz, ag, d, g, by simpa using j⟩
   | zero =>
     simp at hk
     subst hk
     have h1 := qU h1
     subst h1
     cases hi : P.info? f.type with
     | none => rw [hi] at h2; cases h2
     | some g =>
       rw [hi] at h2
       have h2 := qU h2
       cases hd : P.underlying f.type with
       | none => rw [hd] at h3; cases h3
       | some d =>
         rw [hd] at h3
         exact ⟨sz, ag, d, g, rfl, rfl, eq_of_beq h3, rfl, h2⟩
theorem zaj {P : Program} {t : TypeId} {i : TI} (hu : P.underlying t = some i.desc) (hi : (P.info? t).map (fun x => (x.zero, x.size, x.bytes)) = some (some i.zero, i.size, i.bytes)) (hz : Nat.beq i.zero.cells.size i.size = true)
 (hf : (match i.desc with | .struct fs => fldsOk P fs.toList i.flds | _ => true) = true) : TyOk P t i := by
 have key : ∀ fs, i.desc = .struct fs -> fldsOk P fs.toList i.flds = true := fun fs e => by rw [e] at hf; exact hf
 refine ⟨hu, ?_, qU hz, fun fs e k f hk => ?_, fun fs e => ?_⟩
 . cases hx : P.info? t with
   | none => rw [hx] at hi; cases hi
   | some f =>
     rw [hx] at hi
     simp only [Option.map_some, Option.some.injEq, Prod.mk.injEq] at hi
     exact ⟨f, rfl, hi.1, hi.2.1, hi.2.2⟩
 . exact (zd0 _ _ (key fs e)).2 k f (by simpa using hk)
 . have := (zd0 _ _ (key fs e)).1
   simpa using this
def TrAll {α : Type} (p : Nat -> α -> Prop) : (Nat -> Nat) -> Tr α -> Prop
 | _, .leaf => True
 | g, .node l v r => (match v with | none => True | some x => p (g 0) x) /\ TrAll p (fun k => g (2 * k + 1)) l /\ TrAll p (fun k => g (2 * k + 2)) r
theorem TrAll.get {α : Type} {p : Nat -> α -> Prop} : ∀ {t : Tr α} {g : Nat -> Nat} (_ : TrAll p g t) {k : Nat} {x : α} (_ : t.get k = some x), p (g k) x
 | .leaf, g, h, k, x, hx => by rw [Tr.get_leaf] at hx; cases hx
 | .node l v r, g, h, k, x, hx => by
   obtain ⟨h1, h2, h3⟩ := h
   rw [Tr.get_node] at hx
   split at hx
   . rename_i e
     subst e
     rw [hx] at h1
     exact h1
   . split at hx
     . have := TrAll.get h2 hx
       rwa [show 2 * (k / 2) + 1 = k by omega] at this
     . have := TrAll.get h3 hx
       rwa [show 2 * (k / 2 - 1) + 2 = k by omega] at this
def FnOk (f : Nat) (x : Func) : Prop := Tryz.prog.funcs[f]? = some x /\ (x.name == "runtime.NumGoroutine") = false /\ ∃ c, x.body = some c
theorem tyo1 : TyOk Tryz.prog 1 ti1 := zaj Tryz.underlying1 qG qG qG
theorem tyo3 : TyOk Tryz.prog 3 ti3 := zaj Tryz.underlying3 qG qG qG
theorem tyo4 : TyOk Tryz.prog 4 ti4 := zaj Tryz.underlying4 qG qG qG
theorem tyo5 : TyOk Tryz.prog 5 ti5 := zaj Tryz.underlying5 qG qG qG
theorem tyo9 : TyOk Tryz.prog 9 ti9 := zaj Tryz.underlying9 qG qG qG
theorem tyo21 : TyOk Tryz.prog 21 ti21 := zaj Tryz.underlying21 qG qG qG
theorem tyo22 : TyOk Tryz.prog 22 ti22 := zaj Tryz.underlying22 qG qG qG
theorem tyo23 : TyOk Tryz.prog 23 ti23 := zaj Tryz.underlying23 qG qG qG
theorem tyo25 : TyOk Tryz.prog 25 ti25 := zaj Tryz.underlying25 qG qG qG
theorem tyo27 : TyOk Tryz.prog 27 ti27 := zaj Tryz.underlying27 qG qG qG
theorem tyo28 : TyOk Tryz.prog 28 ti28 := zaj Tryz.underlying28 qG qG qG
theorem tyo29 : TyOk Tryz.prog 29 ti29 := zaj Tryz.underlying29 qG qG qG
theorem tyo31 : TyOk Tryz.prog 31 ti31 := zaj Tryz.underlying31 qG qG qG
theorem tyo32 : TyOk Tryz.prog 32 ti32 := zaj Tryz.underlying32 qG qG qG
theorem tyo33 : TyOk Tryz.prog 33 ti33 := zaj Tryz.underlying33 qG qG qG
theorem tyo36 : TyOk Tryz.prog 36 ti36 := zaj Tryz.underlying36 qG qG qG
theorem tyo40 : TyOk Tryz.prog 40 ti40 := zaj Tryz.underlying40 qG qG qG
theorem tyo41 : TyOk Tryz.prog 41 ti41 := zaj Tryz.underlying41 qG qG qG
theorem tyo42 : TyOk Tryz.prog 42 ti42 := zaj Tryz.underlying42 qG qG qG
theorem tyo44 : TyOk Tryz.prog 44 ti44 := zaj Tryz.underlying44 qG qG qG
theorem tyo46 : TyOk Tryz.prog 46 ti46 := zaj Tryz.underlying46 qG qG qG
theorem tyo48 : TyOk Tryz.prog 48 ti48 := zaj Tryz.underlying48 qG qG qG
theorem tyo56 : TyOk Tryz.prog 56 ti56 := zaj Tryz.underlying56 qG qG qG
theorem tyo57 : TyOk Tryz.prog 57 ti57 := zaj Tryz.underlying57 qG qG qG
theorem tyo63 : TyOk Tryz.prog 63 ti63 := zaj Tryz.underlying63 qG qG qG
theorem tyo65 : TyOk Tryz.prog 65 ti65 := zaj Tryz.underlying65 qG qG qG
theorem tyo78 : TyOk Tryz.prog 78 ti78 := zaj Tryz.underlying78 qG qG qG
theorem tyo80 : TyOk Tryz.prog 80 ti80 := zaj Tryz.underlying80 qG qG qG
theorem tyo81 : TyOk Tryz.prog 81 ti81 := zaj Tryz.underlying81 qG qG qG
theorem tyo84 : TyOk Tryz.prog 84 ti84 := zaj Tryz.underlying84 qG qG qG
theorem tyo88 : TyOk Tryz.prog 88 ti88 := zaj Tryz.underlying88 qG qG qG
theorem tyo97 : TyOk Tryz.prog 97 ti97 := zaj Tryz.underlying97 qG qG qG
theorem tyo104 : TyOk Tryz.prog 104 ti104 := zaj Tryz.underlying104 qG qG qG
theorem tyo118 : TyOk Tryz.prog 118 ti118 := zaj Tryz.underlying118 qG qG qG
theorem tyo123 : TyOk Tryz.prog 123 ti123 := zaj Tryz.underlying123 qG qG qG
theorem tyo124 : TyOk Tryz.prog 124 ti124 := zaj Tryz.underlying124 qG qG qG
theorem tyo129 : TyOk Tryz.prog 129 ti129 := zaj Tryz.underlying129 qG qG qG
theorem tyo133 : TyOk Tryz.prog 133 ti133 := zaj Tryz.underlying133 qG qG qG
theorem tyo135 : TyOk Tryz.prog 135 ti135 := zaj Tryz.underlying135 qG qG qG
theorem tyo146 : TyOk Tryz.prog 146 ti146 := zaj Tryz.underlying146 qG qG qG
theorem tyo148 : TyOk Tryz.prog 148 ti148 := zaj Tryz.underlying148 qG qG qG
theorem tyo170 : TyOk Tryz.prog 170 ti170 := zaj Tryz.underlying170 qG qG qG
theorem tyo173 : TyOk Tryz.prog 173 ti173 := zaj Tryz.underlying173 qG qG qG
theorem tyo185 : TyOk Tryz.prog 185 ti185 := zaj Tryz.underlying185 qG qG qG
theorem tyo188 : TyOk Tryz.prog 188 ti188 := zaj Tryz.underlying188 qG qG qG
theorem tyo193 : TyOk Tryz.prog 193 ti193 := zaj Tryz.underlying193 qG qG qG
theorem tyo198 : TyOk Tryz.prog 198 ti198 := zaj Tryz.underlying198 qG qG qG
theorem tyo202 : TyOk Tryz.prog 202 ti202 := zaj Tryz.underlying202 qG qG qG
theorem tyo208 : TyOk Tryz.prog 208 ti208 := zaj Tryz.underlying208 qG qG qG
theorem tyo218 : TyOk Tryz.prog 218 ti218 := zaj Tryz.underlying218 qG qG qG
theorem tyo223 : TyOk Tryz.prog 223 ti223 := zaj Tryz.underlying223 qG qG qG
theorem tyo226 : TyOk Tryz.prog 226 ti226 := zaj Tryz.underlying226 qG qG qG
theorem tyo228 : TyOk Tryz.prog 228 ti228 := zaj Tryz.underlying228 qG qG qG
theorem tyo240 : TyOk Tryz.prog 240 ti240 := zaj Tryz.underlying240 qG qG qG
theorem tyo243 : TyOk Tryz.prog 243 ti243 := zaj Tryz.underlying243 qG qG qG
theorem tyo244 : TyOk Tryz.prog 244 ti244 := zaj Tryz.underlying244 qG qG qG
theorem tyo245 : TyOk Tryz.prog 245 ti245 := zaj Tryz.underlying245 qG qG qG
theorem tyo247 : TyOk Tryz.prog 247 ti247 := zaj Tryz.underlying247 qG qG qG
theorem tyo250 : TyOk Tryz.prog 250 ti250 := zaj Tryz.underlying250 qG qG qG
theorem tyo251 : TyOk Tryz.prog 251 ti251 := zaj Tryz.underlying251 qG qG qG
theorem tyo257 : TyOk Tryz.prog 257 ti257 := zaj Tryz.underlying257 qG qG qG
theorem tyo258 : TyOk Tryz.prog 258 ti258 := zaj Tryz.underlying258 qG qG qG
theorem tyo261 : TyOk Tryz.prog 261 ti261 := zaj Tryz.underlying261 qG qG qG
theorem tyo271 : TyOk Tryz.prog 271 ti271 := zaj Tryz.underlying271 qG qG qG
theorem tyo274 : TyOk Tryz.prog 274 ti274 := zaj Tryz.underlying274 qG qG qG
theorem tyo275 : TyOk Tryz.prog 275 ti275 := zaj Tryz.underlying275 qG qG qG
theorem tyo277 : TyOk Tryz.prog 277 ti277 := zaj Tryz.underlying277 qG qG qG
theorem tyo280 : TyOk Tryz.prog 280 ti280 := zaj Tryz.underlying280 qG qG qG
theorem tyo282 : TyOk Tryz.prog 282 ti282 := zaj Tryz.underlying282 qG qG qG
theorem tyo299 : TyOk Tryz.prog 299 ti299 := zaj Tryz.underlying299 qG qG qG
theorem tyo302 : TyOk Tryz.prog 302 ti302 := zaj Tryz.underlying302 qG qG qG
theorem tyo304 : TyOk Tryz.prog 304 ti304 := zaj Tryz.underlying304 qG qG qG
theorem tyo310 : TyOk Tryz.prog 310 ti310 := zaj Tryz.underlying310 qG qG qG
theorem tyo317 : TyOk Tryz.prog 317 ti317 := zaj Tryz.underlying317 qG qG qG
theorem tyo319 : TyOk Tryz.prog 319 ti319 := zaj Tryz.underlying319 qG qG qG
theorem tyo322 : TyOk Tryz.prog 322 ti322 := zaj Tryz.underlying322 qG qG qG
theorem tyo341 : TyOk Tryz.prog 341 ti341 := zaj Tryz.underlying341 qG qG qG
theorem tyo343 : TyOk Tryz.prog 343 ti343 := zaj Tryz.underlying343 qG qG qG
theorem xTy_ok : TrAll (fun t i => TyOk Tryz.prog t i) (fun k => k) xTy := ⟨trivial, ⟨tyo1, ⟨tyo3, ⟨trivial, ⟨trivial, ⟨tyo31, ⟨tyo63, trivial, ⟨trivial, ⟨tyo319, trivial, trivial⟩, trivial⟩⟩, ⟨trivial, trivial, ⟨tyo223, trivial, trivial⟩⟩⟩, ⟨trivial, ⟨trivial, ⟨trivial, ⟨tyo271, trivial, trivial⟩, trivial⟩, trivial⟩, trivial⟩⟩, ⟨tyo23, ⟨trivial, ⟨trivial, ⟨tyo135, trivial, trivial⟩, trivial⟩, trivial⟩, ⟨trivial, ⟨trivial, trivial, ⟨trivial, ⟨tyo343, trivial, trivial⟩, trivial⟩⟩, ⟨trivial, trivial, ⟨tyo247, trivial, trivial⟩⟩⟩⟩⟩, ⟨trivial, ⟨trivial, trivial, ⟨trivial, ⟨trivial, ⟨trivial, ⟨tyo275, trivial, trivial⟩, trivial⟩, trivial⟩, ⟨trivial, trivial, ⟨tyo243, trivial, trivial⟩⟩⟩⟩, ⟨tyo27, ⟨trivial, trivial, ⟨trivial, ⟨trivial, ⟨tyo299, trivial, trivial⟩, trivial⟩, trivial⟩⟩, ⟨trivial, trivial, ⟨tyo123, trivial, ⟨tyo251, trivial, trivial⟩⟩⟩⟩⟩⟩, ⟨tyo5, ⟨tyo9, ⟨trivial, ⟨tyo33, ⟨tyo65, ⟨tyo129, ⟨tyo257, trivial, trivial⟩, trivial⟩, ⟨tyo193, trivial, trivial⟩⟩, ⟨tyo97, trivial, trivial⟩⟩, ⟨trivial, ⟨tyo81, trivial, trivial⟩, trivial⟩⟩, ⟨tyo25, ⟨tyo41, trivial, trivial⟩, ⟨tyo57, trivial, ⟨trivial, ⟨tyo185, trivial, trivial⟩, trivial⟩⟩⟩⟩, ⟨trivial, ⟨tyo21, ⟨trivial, ⟨trivial, ⟨tyo133, ⟨tyo261, trivial, trivial⟩, trivial⟩, trivial⟩, trivial⟩, ⟨trivial, ⟨trivial, ⟨trivial, ⟨tyo277, trivial, trivial⟩, trivial⟩, ⟨trivial, ⟨tyo341, trivial, trivial⟩, trivial⟩⟩, ⟨trivial, trivial, ⟨tyo245, trivial, trivial⟩⟩⟩⟩, ⟨tyo29, ⟨trivial, trivial, ⟨trivial, ⟨tyo173, trivial, trivial⟩, trivial⟩⟩, ⟨trivial, trivial, ⟨trivial, ⟨trivial, ⟨tyo317, trivial, trivial⟩, trivial⟩, trivial⟩⟩⟩⟩⟩⟩, ⟨trivial, ⟨tyo4, ⟨trivial, ⟨trivial, ⟨tyo32, trivial, trivial⟩, ⟨tyo48, ⟨tyo80, trivial, ⟨tyo208, trivial, trivial⟩⟩, ⟨trivial, ⟨trivial, ⟨tyo304, trivial, trivial⟩, trivial⟩, ⟨tyo240, trivial, trivial⟩⟩⟩⟩, ⟨trivial, ⟨tyo40, trivial, ⟨tyo104, trivial, trivial⟩⟩, ⟨tyo56, ⟨tyo88, ⟨trivial, ⟨tyo280, trivial, trivial⟩, trivial⟩, trivial⟩, trivial⟩⟩⟩, ⟨trivial, ⟨trivial, ⟨tyo36, trivial, ⟨trivial, trivial, ⟨tyo228, trivial, trivial⟩⟩⟩, ⟨trivial, ⟨tyo84, ⟨tyo148, trivial, trivial⟩, trivial⟩, ⟨trivial, trivial, ⟨tyo244, trivial, trivial⟩⟩⟩⟩, ⟨tyo28, ⟨tyo44, trivial, trivial⟩, ⟨trivial, trivial, ⟨tyo124, ⟨tyo188, trivial, trivial⟩, trivial⟩⟩⟩⟩⟩, ⟨trivial, ⟨trivial, ⟨trivial, ⟨trivial, ⟨trivial, ⟨trivial, ⟨tyo258, trivial, trivial⟩, trivial⟩, ⟨trivial, ⟨tyo322, trivial, trivial⟩, trivial⟩⟩, ⟨trivial, trivial, ⟨tyo226, trivial, trivial⟩⟩⟩, ⟨trivial, ⟨trivial, ⟨tyo146, ⟨tyo274, trivial, trivial⟩, trivial⟩, trivial⟩, trivial⟩⟩, ⟨trivial, ⟨tyo42, ⟨trivial, trivial, ⟨tyo202, trivial, trivial⟩⟩, ⟨trivial, ⟨tyo170, trivial, trivial⟩, trivial⟩⟩, ⟨trivial, ⟨trivial, ⟨trivial, ⟨tyo282, trivial, trivial⟩, trivial⟩, ⟨tyo218, trivial, trivial⟩⟩, ⟨trivial, trivial, ⟨tyo250, trivial, trivial⟩⟩⟩⟩⟩, ⟨trivial, ⟨tyo22, ⟨trivial, ⟨trivial, trivial, ⟨tyo198, trivial, trivial⟩⟩, trivial⟩, ⟨trivial, trivial, ⟨tyo118, ⟨trivial, ⟨tyo310, trivial, trivial⟩, trivial⟩, trivial⟩⟩⟩, ⟨trivial, ⟨tyo46, ⟨tyo78, trivial, trivial⟩, ⟨trivial, ⟨trivial, ⟨tyo302, trivial, trivial⟩, trivial⟩, trivial⟩⟩, trivial⟩⟩⟩⟩⟩
theorem fno3 : FnOk 3 Tryz.f3 := ⟨Tryz.func3, by kernel_rfl, _, rfl⟩
theorem fno4 : FnOk 4 Tryz.f4 := ⟨Tryz.func4, by kernel_rfl, _, rfl⟩
theorem fno5 : FnOk 5 Tryz.f5 := ⟨Tryz.func5, by kernel_rfl, _, rfl⟩
theorem fno6 : FnOk 6 Tryz.f6 := ⟨Tryz.func6, by kernel_rfl, _, rfl⟩
theorem fno7 : FnOk 7 Tryz.f7 := ⟨Tryz.func7, by kernel_rfl, _, rfl⟩
theorem fno8 : FnOk 8 Tryz.f8 := ⟨Tryz.func8, by kernel_rfl, _, rfl⟩
theorem fno9 : FnOk 9 Tryz.f9 := ⟨Tryz.func9, by kernel_rfl, _, rfl⟩
theorem fno10 : FnOk 10 Tryz.f10 := ⟨Tryz.func10, by kernel_rfl, _, rfl⟩
theorem fno11 : FnOk 11 Tryz.f11 := ⟨Tryz.func11, by kernel_rfl, _, rfl⟩
theorem fno12 : FnOk 12 Tryz.f12 := ⟨Tryz.func12, by kernel_rfl, _, rfl⟩
theorem fno13 : FnOk 13 Tryz.f13 := ⟨Tryz.func13, by kernel_rfl, _, rfl⟩
theorem fno14 : FnOk 14 Tryz.f14 := ⟨Tryz.func14, by kernel_rfl, _, rfl⟩
theorem fno15 : FnOk 15 Tryz.f15 := ⟨Tryz.func15, by kernel_rfl, _, rfl⟩
theorem fno16 : FnOk 16 Tryz.f16 := ⟨Tryz.func16, by kernel_rfl, _, rfl⟩
theorem fno17 : FnOk 17 Tryz.f17 := ⟨Tryz.func17, by kernel_rfl, _, rfl⟩
theorem fno18 : FnOk 18 Tryz.f18 := ⟨Tryz.func18, by kernel_rfl, _, rfl⟩
theorem fno19 : FnOk 19 Tryz.f19 := ⟨Tryz.func19, by kernel_rfl, _, rfl⟩
theorem fno20 : FnOk 20 Tryz.f20 := ⟨Tryz.func20, by kernel_rfl, _, rfl⟩
theorem fno21 : FnOk 21 Tryz.f21 := ⟨Tryz.func21, by kernel_rfl, _, rfl⟩
theorem fno22 : FnOk 22 Tryz.f22 := ⟨Tryz.func22, by kernel_rfl, _, rfl⟩
theorem fno23 : FnOk 23 Tryz.f23 := ⟨Tryz.func23, by kernel_rfl, _, rfl⟩
theorem fno24 : FnOk 24 Tryz.f24 := ⟨Tryz.func24, by kernel_rfl, _, rfl⟩
theorem fno25 : FnOk 25 Tryz.f25 := ⟨Tryz.func25, by kernel_rfl, _, rfl⟩
theorem fno26 : FnOk 26 Tryz.f26 := ⟨Tryz.func26, by kernel_rfl, _, rfl⟩
theorem fno27 : FnOk 27 Tryz.f27 := ⟨Tryz.func27, by kernel_rfl, _, rfl⟩
theorem fno28 : FnOk 28 Tryz.f28 := ⟨Tryz.func28, by kernel_rfl, _, rfl⟩
theorem fno29 : FnOk 29 Tryz.f29 := ⟨Tryz.func29, by kernel_rfl, _, rfl⟩
theorem fno30 : FnOk 30 Tryz.f30 := ⟨Tryz.func30, by kernel_rfl, _, rfl⟩
theorem fno31 : FnOk 31 Tryz.f31 := ⟨Tryz.func31, by kernel_rfl, _, rfl⟩
theorem fno32 : FnOk 32 Tryz.f32 := ⟨Tryz.func32, by kernel_rfl, _, rfl⟩
theorem fno33 : FnOk 33 Tryz.f33 := ⟨Tryz.func33, by kernel_rfl, _, rfl⟩
theorem fno34 : FnOk 34 Tryz.f34 := ⟨Tryz.func34, by kernel_rfl, _, rfl⟩
theorem fno35 : FnOk 35 Tryz.f35 := ⟨Tryz.func35, by kernel_rfl, _, rfl⟩
theorem fno36 : FnOk 36 Tryz.f36 := ⟨Tryz.func36, by kernel_rfl, _, rfl⟩
theorem fno37 : FnOk 37 Tryz.f37 := ⟨Tryz.func37, by kernel_rfl, _, rfl⟩
theorem fno38 : FnOk 38 Tryz.f38 := ⟨Tryz.func38, by kernel_rfl, _, rfl⟩
theorem fno39 : FnOk 39 Tryz.f39 := ⟨Tryz.func39, by kernel_rfl, _, rfl⟩
theorem fno40 : FnOk 40 Tryz.f40 := ⟨Tryz.func40, by kernel_rfl, _, rfl⟩
theorem fno41 : FnOk 41 Tryz.f41 := ⟨Tryz.func41, by kernel_rfl, _, rfl⟩
theorem fno42 : FnOk 42 Tryz.f42 := ⟨Tryz.func42, by kernel_rfl, _, rfl⟩
theorem fno43 : FnOk 43 Tryz.f43 := ⟨Tryz.func43, by kernel_rfl, _, rfl⟩
theorem fno44 : FnOk 44 Tryz.f44 := ⟨Tryz.func44, by kernel_rfl, _, rfl⟩
theorem fno45 : FnOk 45 Tryz.f45 := ⟨Tryz.func45, by kernel_rfl, _, rfl⟩
theorem fno46 : FnOk 46 Tryz.f46 := ⟨Tryz.func46, by kernel_rfl, _, rfl⟩
theorem fno47 : FnOk 47 Tryz.f47 := ⟨Tryz.func47, by kernel_rfl, _, rfl⟩
theorem fno48 : FnOk 48 Tryz.f48 := ⟨Tryz.func48, by kernel_rfl, _, rfl⟩
theorem fno49 : FnOk 49 Tryz.f49 := ⟨Tryz.func49, by kernel_rfl, _, rfl⟩
theorem fno50 : FnOk 50 Tryz.f50 := ⟨Tryz.func50, by kernel_rfl, _, rfl⟩
theorem fno51 : FnOk 51 Tryz.f51 := ⟨Tryz.func51, by kernel_rfl, _, rfl⟩
theorem fno52 : FnOk 52 Tryz.f52 := ⟨Tryz.func52, by kernel_rfl, _, rfl⟩
theorem fno53 : FnOk 53 Tryz.f53 := ⟨Tryz.func53, by kernel_rfl, _, rfl⟩
theorem fno54 : FnOk 54 Tryz.f54 := ⟨Tryz.func54, by kernel_rfl, _, rfl⟩
theorem fno55 : FnOk 55 Tryz.f55 := ⟨Tryz.func55, by kernel_rfl, _, rfl⟩
theorem fno56 : FnOk 56 Tryz.f56 := ⟨Tryz.func56, by kernel_rfl, _, rfl⟩
theorem fno57 : FnOk 57 Tryz.f57 := ⟨Tryz.func57, by kernel_rfl, _, rfl⟩
theorem fno58 : FnOk 58 Tryz.f58 := ⟨Tryz.func58, by kernel_rfl, _, rfl⟩
theorem fno59 : FnOk 59 Tryz.f59 := ⟨Tryz.func59, by kernel_rfl, _, rfl⟩
theorem fno60 : FnOk 60 Tryz.f60 := ⟨Tryz.func60, by kernel_rfl, _, rfl⟩
theorem fno61 : FnOk 61 Tryz.f61 := ⟨Tryz.func61, by kernel_rfl, _, rfl⟩
theorem fno62 : FnOk 62 Tryz.f62 := ⟨Tryz.func62, by kernel_rfl, _, rfl⟩
theorem fno63 : FnOk 63 Tryz.f63 := ⟨Tryz.func63, by kernel_rfl, _, rfl⟩
theorem fno64 : FnOk 64 Tryz.f64 := ⟨Tryz.func64, by kernel_rfl, _, rfl⟩
theorem fno65 : FnOk 65 Tryz.f65 := ⟨Tryz.func65, by kernel_rfl, _, rfl⟩
theorem fno66 : FnOk 66 Tryz.f66 := ⟨Tryz.func66, by kernel_rfl, _, rfl⟩
theorem fno67 : FnOk 67 Tryz.f67 := ⟨Tryz.func67, by kernel_rfl, _, rfl⟩
theorem fno68 : FnOk 68 Tryz.f68 := ⟨Tryz.func68, by kernel_rfl, _, rfl⟩
theorem fno69 : FnOk 69 Tryz.f69 := ⟨Tryz.func69, by kernel_rfl, _, rfl⟩
theorem fno70 : FnOk 70 Tryz.f70 := ⟨Tryz.func70, by kernel_rfl, _, rfl⟩
theorem fno71 : FnOk 71 Tryz.f71 := ⟨Tryz.func71, by kernel_rfl, _, rfl⟩
theorem fno72 : FnOk 72 Tryz.f72 := ⟨Tryz.func72, by kernel_rfl, _, rfl⟩
theorem fno73 : FnOk 73 Tryz.f73 := ⟨Tryz.func73, by kernel_rfl, _, rfl⟩
theorem fno74 : FnOk 74 Tryz.f74 := ⟨Tryz.func74, by kernel_rfl, _, rfl⟩
theorem fno75 : FnOk 75 Tryz.f75 := ⟨Tryz.func75, by kernel_rfl, _, rfl⟩
theorem fno76 : FnOk 76 Tryz.f76 := ⟨Tryz.func76, by kernel_rfl, _, rfl⟩
theorem fno77 : FnOk 77 Tryz.f77 := ⟨Tryz.func77, by kernel_rfl, _, rfl⟩
theorem fno78 : FnOk 78 Tryz.f78 := ⟨Tryz.func78, by kernel_rfl, _, rfl⟩
theorem fno79 : FnOk 79 Tryz.f79 := ⟨Tryz.func79, by kernel_rfl, _, rfl⟩
theorem fno80 : FnOk 80 Tryz.f80 := ⟨Tryz.func80, by kernel_rfl, _, rfl⟩
theorem fno81 : FnOk 81 Tryz.f81 := ⟨Tryz.func81, by kernel_rfl, _, rfl⟩
theorem fno82 : FnOk 82 Tryz.f82 := ⟨Tryz.func82, by kernel_rfl, _, rfl⟩
theorem fno83 : FnOk 83 Tryz.f83 := ⟨Tryz.func83, by kernel_rfl, _, rfl⟩
theorem fno84 : FnOk 84 Tryz.f84 := ⟨Tryz.func84, by kernel_rfl, _, rfl⟩
theorem fno85 : FnOk 85 Tryz.f85 := ⟨Tryz.func85, by kernel_rfl, _, rfl⟩
theorem fno86 : FnOk 86 Tryz.f86 := ⟨Tryz.func86, by kernel_rfl, _, rfl⟩
theorem fno87 : FnOk 87 Tryz.f87 := ⟨Tryz.func87, by kernel_rfl, _, rfl⟩
theorem fno88 : FnOk 88 Tryz.f88 := ⟨Tryz.func88, by kernel_rfl, _, rfl⟩
theorem fno89 : FnOk 89 Tryz.f89 := ⟨Tryz.func89, by kernel_rfl, _, rfl⟩
theorem fno90 : FnOk 90 Tryz.f90 := ⟨Tryz.func90, by kernel_rfl, _, rfl⟩
theorem fno91 : FnOk 91 Tryz.f91 := ⟨Tryz.func91, by kernel_rfl, _, rfl⟩
theorem fno92 : FnOk 92 Tryz.f92 := ⟨Tryz.func92, by kernel_rfl, _, rfl⟩
theorem fno93 : FnOk 93 Tryz.f93 := ⟨Tryz.func93, by kernel_rfl, _, rfl⟩
theorem fno94 : FnOk 94 Tryz.f94 := ⟨Tryz.func94, by kernel_rfl, _, rfl⟩
theorem fno95 : FnOk 95 Tryz.f95 := ⟨Tryz.func95, by kernel_rfl, _, rfl⟩
theorem fno96 : FnOk 96 Tryz.f96 := ⟨Tryz.func96, by kernel_rfl, _, rfl⟩
theorem fno97 : FnOk 97 Tryz.f97 := ⟨Tryz.func97, by kernel_rfl, _, rfl⟩
theorem fno98 : FnOk 98 Tryz.f98 := ⟨Tryz.func98, by kernel_rfl, _, rfl⟩
theorem fno99 : FnOk 99 Tryz.f99 := ⟨Tryz.func99, by kernel_rfl, _, rfl⟩
theorem fno100 : FnOk 100 Tryz.f100 := ⟨Tryz.func100, by kernel_rfl, _, rfl⟩
theorem fno101 : FnOk 101 Tryz.f101 := ⟨Tryz.func101, by kernel_rfl, _, rfl⟩
theorem fno102 : FnOk 102 Tryz.f102 := ⟨Tryz.func102, by kernel_rfl, _, rfl⟩
theorem fno103 : FnOk 103 Tryz.f103 := ⟨Tryz.func103, by kernel_rfl, _, rfl⟩
theorem fno104 : FnOk 104 Tryz.f104 := ⟨Tryz.func104, by kernel_rfl, _, rfl⟩
theorem fno105 : FnOk 105 Tryz.f105 := ⟨Tryz.func105, by kernel_rfl, _, rfl⟩
theorem fno106 : FnOk 106 Tryz.f106 := ⟨Tryz.func106, by kernel_rfl, _, rfl⟩
theorem fno107 : FnOk 107 Tryz.f107 := ⟨Tryz.func107, by kernel_rfl, _, rfl⟩
theorem fno108 : FnOk 108 Tryz.f108 := ⟨Tryz.func108, by kernel_rfl, _, rfl⟩
theorem fno109 : FnOk 109 Tryz.f109 := ⟨Tryz.func109, by kernel_rfl, _, rfl⟩
theorem fno110 : FnOk 110 Tryz.f110 := ⟨Tryz.func110, by kernel_rfl, _, rfl⟩
theorem fno111 : FnOk 111 Tryz.f111 := ⟨Tryz.func111, by kernel_rfl, _, rfl⟩
theorem fno112 : FnOk 112 Tryz.f112 := ⟨Tryz.func112, by kernel_rfl, _, rfl⟩
theorem fno113 : FnOk 113 Tryz.f113 := ⟨Tryz.func113, by kernel_rfl, _, rfl⟩
theorem fno114 : FnOk 114 Tryz.f114 := ⟨Tryz.func114, by kernel_rfl, _, rfl⟩
theorem fno115 : FnOk 115 Tryz.f115 := ⟨Tryz.func115, by kernel_rfl, _, rfl⟩
theorem fno116 : FnOk 116 Tryz.f116 := ⟨Tryz.func116, by kernel_rfl, _, rfl⟩
theorem fno117 : FnOk 117 Tryz.f117 := ⟨Tryz.func117, by kernel_rfl, _, rfl⟩
theorem fno118 : FnOk 118 Tryz.f118 := ⟨Tryz.func118, by kernel_rfl, _, rfl⟩
theorem fno119 : FnOk 119 Tryz.f119 := ⟨Tryz.func119, by kernel_rfl, _, rfl⟩
theorem fno120 : FnOk 120 Tryz.f120 := ⟨Tryz.func120, by kernel_rfl, _, rfl⟩
theorem fno121 : FnOk 121 Tryz.f121 := ⟨Tryz.func121, by kernel_rfl, _, rfl⟩
theorem fno122 : FnOk 122 Tryz.f122 := ⟨Tryz.func122, by kernel_rfl, _, rfl⟩
theorem fno123 : FnOk 123 Tryz.f123 := ⟨Tryz.func123, by kernel_rfl, _, rfl⟩
theorem fno124 : FnOk 124 Tryz.f124 := ⟨Tryz.func124, by kernel_rfl, _, rfl⟩
theorem fno125 : FnOk 125 Tryz.f125 := ⟨Tryz.func125, by kernel_rfl, _, rfl⟩
theorem fno126 : FnOk 126 Tryz.f126 := ⟨Tryz.func126, by kernel_rfl, _, rfl⟩
theorem fno127 : FnOk 127 Tryz.f127 := ⟨Tryz.func127, by kernel_rfl, _, rfl⟩
theorem fno128 : FnOk 128 Tryz.f128 := ⟨Tryz.func128, by kernel_rfl, _, rfl⟩
theorem fno129 : FnOk 129 Tryz.f129 := ⟨Tryz.func129, by kernel_rfl, _, rfl⟩
theorem fno130 : FnOk 130 Tryz.f130 := ⟨Tryz.func130, by kernel_rfl, _, rfl⟩
theorem fno131 : FnOk 131 Tryz.f131 := ⟨Tryz.func131, by kernel_rfl, _, rfl⟩
theorem fno132 : FnOk 132 Tryz.f132 := ⟨Tryz.func132, by kernel_rfl, _, rfl⟩
theorem fno133 : FnOk 133 Tryz.f133 := ⟨Tryz.func133, by kernel_rfl, _, rfl⟩
theorem fno134 : FnOk 134 Tryz.f134 := ⟨Tryz.func134, by kernel_rfl, _, rfl⟩
theorem fno135 : FnOk 135 Tryz.f135 := ⟨Tryz.func135, by kernel_rfl, _, rfl⟩
theorem fno136 : FnOk 136 Tryz.f136 := ⟨Tryz.func136, by kernel_rfl, _, rfl⟩
theorem fno137 : FnOk 137 Tryz.f137 := ⟨Tryz.func137, by kernel_rfl, _, rfl⟩
theorem fno138 : FnOk 138 Tryz.f138 := ⟨Tryz.func138, by kernel_rfl, _, rfl⟩
theorem fno139 : FnOk 139 Tryz.f139 := ⟨Tryz.func139, by kernel_rfl, _, rfl⟩
theorem fno140 : FnOk 140 Tryz.f140 := ⟨Tryz.func140, by kernel_rfl, _, rfl⟩
theorem fno141 : FnOk 141 Tryz.f141 := ⟨Tryz.func141, by kernel_rfl, _, rfl⟩
theorem fno143 : FnOk 143 Tryz.f143 := ⟨Tryz.func143, by kernel_rfl, _, rfl⟩
theorem fno144 : FnOk 144 Tryz.f144 := ⟨Tryz.func144, by kernel_rfl, _, rfl⟩
theorem fno145 : FnOk 145 Tryz.f145 := ⟨Tryz.func145, by kernel_rfl, _, rfl⟩
theorem fno146 : FnOk 146 Tryz.f146 := ⟨Tryz.func146, by kernel_rfl, _, rfl⟩
theorem fno147 : FnOk 147 Tryz.f147 := ⟨Tryz.func147, by kernel_rfl, _, rfl⟩
theorem fno148 : FnOk 148 Tryz.f148 := ⟨Tryz.func148, by kernel_rfl, _, rfl⟩
theorem fno149 : FnOk 149 Tryz.f149 := ⟨Tryz.func149, by kernel_rfl, _, rfl⟩
theorem fno150 : FnOk 150 Tryz.f150 := ⟨Tryz.func150, by kernel_rfl, _, rfl⟩
theorem fno151 : FnOk 151 Tryz.f151 := ⟨Tryz.func151, by kernel_rfl, _, rfl⟩
theorem fno152 : FnOk 152 Tryz.f152 := ⟨Tryz.func152, by kernel_rfl, _, rfl⟩
theorem fno153 : FnOk 153 Tryz.f153 := ⟨Tryz.func153, by kernel_rfl, _, rfl⟩
theorem fno154 : FnOk 154 Tryz.f154 := ⟨Tryz.func154, by kernel_rfl, _, rfl⟩
theorem fno155 : FnOk 155 Tryz.f155 := ⟨Tryz.func155, by kernel_rfl, _, rfl⟩
theorem fno156 : FnOk 156 Tryz.f156 := ⟨Tryz.func156, by kernel_rfl, _, rfl⟩
theorem fno157 : FnOk 157 Tryz.f157 := ⟨Tryz.func157, by kernel_rfl, _, rfl⟩
theorem fno158 : FnOk 158 Tryz.f158 := ⟨Tryz.func158, by kernel_rfl, _, rfl⟩
theorem fno159 : FnOk 159 Tryz.f159 := ⟨Tryz.func159, by kernel_rfl, _, rfl⟩
theorem fno160 : FnOk 160 Tryz.f160 := ⟨Tryz.func160, by kernel_rfl, _, rfl⟩
theorem fno161 : FnOk 161 Tryz.f161 := ⟨Tryz.func161, by kernel_rfl, _, rfl⟩
theorem fno162 : FnOk 162 Tryz.f162 := ⟨Tryz.func162, by kernel_rfl, _, rfl⟩
theorem fno163 : FnOk 163 Tryz.f163 := ⟨Tryz.func163, by kernel_rfl, _, rfl⟩
theorem fno164 : FnOk 164 Tryz.f164 := ⟨Tryz.func164, by kernel_rfl, _, rfl⟩
theorem fno165 : FnOk 165 Tryz.f165 := ⟨Tryz.func165, by kernel_rfl, _, rfl⟩
theorem fno166 : FnOk 166 Tryz.f166 := ⟨Tryz.func166, by kernel_rfl, _, rfl⟩
theorem fno167 : FnOk 167 Tryz.f167 := ⟨Tryz.func167, by kernel_rfl, _, rfl⟩
theorem fno168 : FnOk 168 Tryz.f168 := ⟨Tryz.func168, by kernel_rfl, _, rfl⟩
theorem fno169 : FnOk 169 Tryz.f169 := ⟨Tryz.func169, by kernel_rfl, _, rfl⟩
theorem fno170 : FnOk 170 Tryz.f170 := ⟨Tryz.func170, by kernel_rfl, _, rfl⟩
theorem fno171 : FnOk 171 Tryz.f171 := ⟨Tryz.func171, by kernel_rfl, _, rfl⟩
theorem fno172 : FnOk 172 Tryz.f172 := ⟨Tryz.func172, by kernel_rfl, _, rfl⟩
theorem fno173 : FnOk 173 Tryz.f173 := ⟨Tryz.func173, by kernel_rfl, _, rfl⟩
theorem fno174 : FnOk 174 Tryz.f174 := ⟨Tryz.func174, by kernel_rfl, _, rfl⟩
theorem fno175 : FnOk 175 Tryz.f175 := ⟨Tryz.func175, by kernel_rfl, _, rfl⟩
theorem fno176 : FnOk 176 Tryz.f176 := ⟨Tryz.func176, by kernel_rfl, _, rfl⟩
theorem fno177 : FnOk 177 Tryz.f177 := ⟨Tryz.func177, by kernel_rfl, _, rfl⟩
theorem fno178 : FnOk 178 Tryz.f178 := ⟨Tryz.func178, by kernel_rfl, _, rfl⟩
theorem fno179 : FnOk 179 Tryz.f179 := ⟨Tryz.func179, by kernel_rfl, _, rfl⟩
theorem fno180 : FnOk 180 Tryz.f180 := ⟨Tryz.func180, by kernel_rfl, _, rfl⟩
theorem fno181 : FnOk 181 Tryz.f181 := ⟨Tryz.func181, by kernel_rfl, _, rfl⟩
theorem fno182 : FnOk 182 Tryz.f182 := ⟨Tryz.func182, by kernel_rfl, _, rfl⟩
theorem fno183 : FnOk 183 Tryz.f183 := ⟨Tryz.func183, by kernel_rfl, _, rfl⟩
theorem fno184 : FnOk 184 Tryz.f184 := ⟨Tryz.func184, by kernel_rfl, _, rfl⟩
theorem fno185 : FnOk 185 Tryz.f185 := ⟨Tryz.func185, by kernel_rfl, _, rfl⟩
theorem fno186 : FnOk 186 Tryz.f186 := ⟨Tryz.func186, by kernel_rfl, _, rfl⟩
theorem fno187 : FnOk 187 Tryz.f187 := ⟨Tryz.func187, by kernel_rfl, _, rfl⟩
theorem fno188 : FnOk 188 Tryz.f188 := ⟨Tryz.func188, by kernel_rfl, _, rfl⟩
theorem fno189 : FnOk 189 Tryz.f189 := ⟨Tryz.func189, by kernel_rfl, _, rfl⟩
theorem fno190 : FnOk 190 Tryz.f190 := ⟨Tryz.func190, by kernel_rfl, _, rfl⟩
theorem fno191 : FnOk 191 Tryz.f191 := ⟨Tryz.func191, by kernel_rfl, _, rfl⟩
theorem fno192 : FnOk 192 Tryz.f192 := ⟨Tryz.func192, by kernel_rfl, _, rfl⟩
theorem fno193 : FnOk 193 Tryz.f193 := ⟨Tryz.func193, by kernel_rfl, _, rfl⟩
theorem fno194 : FnOk 194 Tryz.f194 := ⟨Tryz.func194, by kernel_rfl, _, rfl⟩
theorem fno195 : FnOk 195 Tryz.f195 := ⟨Tryz.func195, by kernel_rfl, _, rfl⟩
theorem fno196 : FnOk 196 Tryz.f196 := ⟨Tryz.func196, by kernel_rfl, _, rfl⟩
theorem fno197 : FnOk 197 Tryz.f197 := ⟨Tryz.func197, by kernel_rfl, _, rfl⟩
theorem fno198 : FnOk 198 Tryz.f198 := ⟨Tryz.func198, by kernel_rfl, _, rfl⟩
theorem fno199 : FnOk 199 Tryz.f199 := ⟨Tryz.func199, by kernel_rfl, _, rfl⟩
theorem fno200 : FnOk 200 Tryz.f200 := ⟨Tryz.func200, by kernel_rfl, _, rfl⟩
theorem fno201 : FnOk 201 Tryz.f201 := ⟨Tryz.func201, by kernel_rfl, _, rfl⟩
theorem fno202 : FnOk 202 Tryz.f202 := ⟨Tryz.func202, by kernel_rfl, _, rfl⟩
theorem fno203 : FnOk 203 Tryz.f203 := ⟨Tryz.func203, by kernel_rfl, _, rfl⟩
theorem fno204 : FnOk 204 Tryz.f204 := ⟨Tryz.func204, by kernel_rfl, _, rfl⟩
theorem fno205 : FnOk 205 Tryz.f205 := ⟨Tryz.func205, by kernel_rfl, _, rfl⟩
theorem fno206 : FnOk 206 Tryz.f206 := ⟨Tryz.func206, by kernel_rfl, _, rfl⟩
theorem fno207 : FnOk 207 Tryz.f207 := ⟨Tryz.func207, by kernel_rfl, _, rfl⟩
theorem fno208 : FnOk 208 Tryz.f208 := ⟨Tryz.func208, by kernel_rfl, _, rfl⟩
theorem fno209 : FnOk 209 Tryz.f209 := ⟨Tryz.func209, by kernel_rfl, _, rfl⟩
theorem fno210 : FnOk 210 Tryz.f210 := ⟨Tryz.func210, by kernel_rfl, _, rfl⟩
theorem fno211 : FnOk 211 Tryz.f211 := ⟨Tryz.func211, by kernel_rfl, _, rfl⟩
theorem fno212 : FnOk 212 Tryz.f212 := ⟨Tryz.func212, by kernel_rfl, _, rfl⟩
theorem fno213 : FnOk 213 Tryz.f213 := ⟨Tryz.func213, by kernel_rfl, _, rfl⟩
theorem fno214 : FnOk 214 Tryz.f214 := ⟨Tryz.func214, by kernel_rfl, _, rfl⟩
theorem fno215 : FnOk 215 Tryz.f215 := ⟨Tryz.func215, by kernel_rfl, _, rfl⟩
theorem fno216 : FnOk 216 Tryz.f216 := ⟨Tryz.func216, by kernel_rfl, _, rfl⟩
theorem fno217 : FnOk 217 Tryz.f217 := ⟨Tryz.func217, by kernel_rfl, _, rfl⟩
theorem fno218 : FnOk 218 Tryz.f218 := ⟨Tryz.func218, by kernel_rfl, _, rfl⟩
theorem fno219 : FnOk 219 Tryz.f219 := ⟨Tryz.func219, by kernel_rfl, _, rfl⟩
theorem fno220 : FnOk 220 Tryz.f220 := ⟨Tryz.func220, by kernel_rfl, _, rfl⟩
theorem fno221 : FnOk 221 Tryz.f221 := ⟨Tryz.func221, by kernel_rfl, _, rfl⟩
theorem fno222 : FnOk 222 Tryz.f222 := ⟨Tryz.func222, by kernel_rfl, _, rfl⟩
theorem fno223 : FnOk 223 Tryz.f223 := ⟨Tryz.func223, by kernel_rfl, _, rfl⟩
theorem fno224 : FnOk 224 Tryz.f224 := ⟨Tryz.func224, by kernel_rfl, _, rfl⟩
theorem fno225 : FnOk 225 Tryz.f225 := ⟨Tryz.func225, by kernel_rfl, _, rfl⟩
theorem fno226 : FnOk 226 Tryz.f226 := ⟨Tryz.func226, by kernel_rfl, _, rfl⟩
theorem fno227 : FnOk 227 Tryz.f227 := ⟨Tryz.func227, by kernel_rfl, _, rfl⟩
theorem fno228 : FnOk 228 Tryz.f228 := ⟨Tryz.func228, by kernel_rfl, _, rfl⟩
theorem fno229 : FnOk 229 Tryz.f229 := ⟨Tryz.func229, by kernel_rfl, _, rfl⟩
theorem fno230 : FnOk 230 Tryz.f230 := ⟨Tryz.func230, by kernel_rfl, _, rfl⟩
theorem fno231 : FnOk 231 Tryz.f231 := ⟨Tryz.func231, by kernel_rfl, _, rfl⟩
theorem fno232 : FnOk 232 Tryz.f232 := ⟨Tryz.func232, by kernel_rfl, _, rfl⟩
theorem fno233 : FnOk 233 Tryz.f233 := ⟨Tryz.func233, by kernel_rfl, _, rfl⟩
theorem fno234 : FnOk 234 Tryz.f234 := ⟨Tryz.func234, by kernel_rfl, _, rfl⟩
theorem fno235 : FnOk 235 Tryz.f235 := ⟨Tryz.func235, by kernel_rfl, _, rfl⟩
theorem fno236 : FnOk 236 Tryz.f236 := ⟨Tryz.func236, by kernel_rfl, _, rfl⟩
theorem fno237 : FnOk 237 Tryz.f237 := ⟨Tryz.func237, by kernel_rfl, _, rfl⟩
theorem fno238 : FnOk 238 Tryz.f238 := ⟨Tryz.func238, by kernel_rfl, _, rfl⟩
theorem fno239 : FnOk 239 Tryz.f239 := ⟨Tryz.func239, by kernel_rfl, _, rfl⟩
theorem fno240 : FnOk 240 Tryz.f240 := ⟨Tryz.func240, by kernel_rfl, _, rfl⟩
theorem fno241 : FnOk 241 Tryz.f241 := ⟨Tryz.func241, by kernel_rfl, _, rfl⟩
theorem fno242 : FnOk 242 Tryz.f242 := ⟨Tryz.func242, by kernel_rfl, _, rfl⟩
theorem fno243 : FnOk 243 Tryz.f243 := ⟨Tryz.func243, by kernel_rfl, _, rfl⟩
theorem fno244 : FnOk 244 Tryz.f244 := ⟨Tryz.func244, by kernel_rfl, _, rfl⟩
theorem fno245 : FnOk 245 Tryz.f245 := ⟨Tryz.func245, by kernel_rfl, _, rfl⟩
theorem fno246 : FnOk 246 Tryz.f246 := ⟨Tryz.func246, by kernel_rfl, _, rfl⟩
theorem fno247 : FnOk 247 Tryz.f247 := ⟨Tryz.func247, by kernel_rfl, _, rfl⟩
theorem fno248 : FnOk 248 Tryz.f248 := ⟨Tryz.func248, by kernel_rfl, _, rfl⟩
theorem fno249 : FnOk 249 Tryz.f249 := ⟨Tryz.func249, by kernel_rfl, _, rfl⟩
theorem fno250 : FnOk 250 Tryz.f250 := ⟨Tryz.func250, by kernel_rfl, _, rfl⟩
theorem fno251 : FnOk 251 Tryz.f251 := ⟨Tryz.func251, by kernel_rfl, _, rfl⟩
theorem fno252 : FnOk 252 Tryz.f252 := ⟨Tryz.func252, by kernel_rfl, _, rfl⟩
theorem fno253 : FnOk 253 Tryz.f253 := ⟨Tryz.func253, by kernel_rfl, _, rfl⟩
theorem fno254 : FnOk 254 Tryz.f254 := ⟨Tryz.func254, by kernel_rfl, _, rfl⟩
theorem fno255 : FnOk 255 Tryz.f255 := ⟨Tryz.func255, by kernel_rfl, _, rfl⟩
theorem fno256 : FnOk 256 Tryz.f256 := ⟨Tryz.func256, by kernel_rfl, _, rfl⟩
theorem fno257 : FnOk 257 Tryz.f257 := ⟨Tryz.func257, by kernel_rfl, _, rfl⟩
theorem fno258 : FnOk 258 Tryz.f258 := ⟨Tryz.func258, by kernel_rfl, _, rfl⟩
theorem fno259 : FnOk 259 Tryz.f259 := ⟨Tryz.func259, by kernel_rfl, _, rfl⟩
theorem fno260 : FnOk 260 Tryz.f260 := ⟨Tryz.func260, by kernel_rfl, _, rfl⟩
theorem fno261 : FnOk 261 Tryz.f261 := ⟨Tryz.func261, by kernel_rfl, _, rfl⟩
theorem fno262 : FnOk 262 Tryz.f262 := ⟨Tryz.func262, by kernel_rfl, _, rfl⟩
theorem fno263 : FnOk 263 Tryz.f263 := ⟨Tryz.func263, by kernel_rfl, _, rfl⟩
theorem fno264 : FnOk 264 Tryz.f264 := ⟨Tryz.func264, by kernel_rfl, _, rfl⟩
theorem fno265 : FnOk 265 Tryz.f265 := ⟨Tryz.func265, by kernel_rfl, _, rfl⟩
theorem fno266 : FnOk 266 Tryz.f266 := ⟨Tryz.func266, by kernel_rfl, _, rfl⟩
theorem fno267 : FnOk 267 Tryz.f267 := ⟨Tryz.func267, by kernel_rfl, _, rfl⟩
theorem fno268 : FnOk 268 Tryz.f268 := ⟨Tryz.func268, by kernel_rfl, _, rfl⟩
theorem fno269 : FnOk 269 Tryz.f269 := ⟨Tryz.func269, by kernel_rfl, _, rfl⟩
theorem fno270 : FnOk 270 Tryz.f270 := ⟨Tryz.func270, by kernel_rfl, _, rfl⟩
theorem fno271 : FnOk 271 Tryz.f271 := ⟨Tryz.func271, by kernel_rfl, _, rfl⟩
theorem fno272 : FnOk 272 Tryz.f272 := ⟨Tryz.func272, by kernel_rfl, _, rfl⟩
theorem fno273 : FnOk 273 Tryz.f273 := ⟨Tryz.func273, by kernel_rfl, _, rfl⟩
theorem fno274 : FnOk 274 Tryz.f274 := ⟨Tryz.func274, by kernel_rfl, _, rfl⟩
theorem fno275 : FnOk 275 Tryz.f275 := ⟨Tryz.func275, by kernel_rfl, _, rfl⟩
theorem fno276 : FnOk 276 Tryz.f276 := ⟨Tryz.func276, by kernel_rfl, _, rfl⟩
theorem fno277 : FnOk 277 Tryz.f277 := ⟨Tryz.func277, by kernel_rfl, _, rfl⟩
theorem fno278 : FnOk 278 Tryz.f278 := ⟨Tryz.func278, by kernel_rfl, _, rfl⟩
theorem fno279 : FnOk 279 Tryz.f279 := ⟨Tryz.func279, by kernel_rfl, _, rfl⟩
theorem fno280 : FnOk 280 Tryz.f280 := ⟨Tryz.func280, by kernel_rfl, _, rfl⟩
theorem fno281 : FnOk 281 Tryz.f281 := ⟨Tryz.func281, by kernel_rfl, _, rfl⟩
theorem fno282 : FnOk 282 Tryz.f282 := ⟨Tryz.func282, by kernel_rfl, _, rfl⟩
theorem fno283 : FnOk 283 Tryz.f283 := ⟨Tryz.func283, by kernel_rfl, _, rfl⟩
theorem fno284 : FnOk 284 Tryz.f284 := ⟨Tryz.func284, by kernel_rfl, _, rfl⟩
theorem fno285 : FnOk 285 Tryz.f285 := ⟨Tryz.func285, by kernel_rfl, _, rfl⟩
theorem fno286 : FnOk 286 Tryz.f286 := ⟨Tryz.func286, by kernel_rfl, _, rfl⟩
theorem fno287 : FnOk 287 Tryz.f287 := ⟨Tryz.func287, by kernel_rfl, _, rfl⟩
theorem fno288 : FnOk 288 Tryz.f288 := ⟨Tryz.func288, by kernel_rfl, _, rfl⟩
theorem fno289 : FnOk 289 Tryz.f289 := ⟨Tryz.func289, by kernel_rfl, _, rfl⟩
theorem fno290 : FnOk 290 Tryz.f290 := ⟨Tryz.func290, by kernel_rfl, _, rfl⟩
theorem fno291 : FnOk 291 Tryz.f291 := ⟨Tryz.func291, by kernel_rfl, _, rfl⟩
theorem fno292 : FnOk 292 Tryz.f292 := ⟨Tryz.func292, by kernel_rfl, _, rfl⟩
theorem fno293 : FnOk 293 Tryz.f293 := ⟨Tryz.func293, by kernel_rfl, _, rfl⟩
theorem fno294 : FnOk 294 Tryz.f294 := ⟨Tryz.func294, by kernel_rfl, _, rfl⟩
theorem fno295 : FnOk 295 Tryz.f295 := ⟨Tryz.func295, by kernel_rfl, _, rfl⟩
theorem fno296 : FnOk 296 Tryz.f296 := ⟨Tryz.func296, by kernel_rfl, _, rfl⟩
theorem fno297 : FnOk 297 Tryz.f297 := ⟨Tryz.func297, by kernel_rfl, _, rfl⟩
theorem fno298 : FnOk 298 Tryz.f298 := ⟨Tryz.func298, by kernel_rfl, _, rfl⟩
theorem fno299 : FnOk 299 Tryz.f299 := ⟨Tryz.func299, by kernel_rfl, _, rfl⟩
theorem fno300 : FnOk 300 Tryz.f300 := ⟨Tryz.func300, by kernel_rfl, _, rfl⟩
theorem fno301 : FnOk 301 Tryz.f301 := ⟨Tryz.func301, by kernel_rfl, _, rfl⟩
theorem fno302 : FnOk 302 Tryz.f302 := ⟨Tryz.func302, by kernel_rfl, _, rfl⟩
theorem fno303 : FnOk 303 Tryz.f303 := ⟨Tryz.func303, by kernel_rfl, _, rfl⟩
theorem fno304 : FnOk 304 Tryz.f304 := ⟨Tryz.func304, by kernel_rfl, _, rfl⟩
theorem fno305 : FnOk 305 Tryz.f305 := ⟨Tryz.func305, by kernel_rfl, _, rfl⟩
theorem fno306 : FnOk 306 Tryz.f306 := ⟨Tryz.func306, by kernel_rfl, _, rfl⟩
theorem fno307 : FnOk 307 Tryz.f307 := ⟨Tryz.func307, by kernel_rfl, _, rfl⟩
theorem fno308 : FnOk 308 Tryz.f308 := ⟨Tryz.func308, by kernel_rfl, _, rfl⟩
theorem fno309 : FnOk 309 Tryz.f309 := ⟨Tryz.func309, by kernel_rfl, _, rfl⟩
theorem fno310 : FnOk 310 Tryz.f310 := ⟨Tryz.func310, by kernel_rfl, _, rfl⟩
theorem fno311 : FnOk 311 Tryz.f311 := ⟨Tryz.func311, by kernel_rfl, _, rfl⟩
theorem fno326 : FnOk 326 Tryz.f326 := ⟨Tryz.func326, by kernel_rfl, _, rfl⟩
theorem fno327 : FnOk 327 Tryz.f327 := ⟨Tryz.func327, by kernel_rfl, _, rfl⟩
theorem fno328 : FnOk 328 Tryz.f328 := ⟨Tryz.func328, by kernel_rfl, _, rfl⟩
theorem fno329 : FnOk 329 Tryz.f329 := ⟨Tryz.func329, by kernel_rfl, _, rfl⟩
theorem fno330 : FnOk 330 Tryz.f330 := ⟨Tryz.func330, by kernel_rfl, _, rfl⟩
theorem fno331 : FnOk 331 Tryz.f331 := ⟨Tryz.func331, by kernel_rfl, _, rfl⟩
theorem fno346 : FnOk 346 Tryz.f346 := ⟨Tryz.func346, by kernel_rfl, _, rfl⟩
theorem fno347 : FnOk 347 Tryz.f347 := ⟨Tryz.func347, by kernel_rfl, _, rfl⟩
theorem fno348 : FnOk 348 Tryz.f348 := ⟨Tryz.func348, by kernel_rfl, _, rfl⟩
theorem fno353 : FnOk 353 Tryz.f353 := ⟨Tryz.func353, by kernel_rfl, _, rfl⟩
theorem fno354 : FnOk 354 Tryz.f354 := ⟨Tryz.func354, by kernel_rfl, _, rfl⟩
theorem fno355 : FnOk 355 Tryz.f355 := ⟨Tryz.func355, by kernel_rfl, _, rfl⟩
theorem fno356 : FnOk 356 Tryz.f356 := ⟨Tryz.func356, by kernel_rfl, _, rfl⟩
theorem fno358 : FnOk 358 Tryz.f358 := ⟨Tryz.func358, by kernel_rfl, _, rfl⟩
theorem fno359 : FnOk 359 Tryz.f359 := ⟨Tryz.func359, by kernel_rfl, _, rfl⟩
theorem fno360 : FnOk 360 Tryz.f360 := ⟨Tryz.func360, by kernel_rfl, _, rfl⟩
theorem xFn_ok : TrAll FnOk (fun k => k) xFn := ⟨trivial, ⟨trivial, ⟨fno3, ⟨fno7, ⟨fno15, ⟨fno31, ⟨fno63, ⟨fno127, ⟨fno255, trivial, trivial⟩, trivial⟩, ⟨fno191, trivial, trivial⟩⟩, ⟨fno95, ⟨fno159, ⟨fno287, trivial, trivial⟩, trivial⟩, ⟨fno223, trivial, trivial⟩⟩⟩, ⟨fno47, ⟨fno79, ⟨fno143, ⟨fno271, trivial, trivial⟩, trivial⟩, ⟨fno207, trivial, trivial⟩⟩, ⟨fno111, ⟨fno175, ⟨fno303, trivial, trivial⟩, trivial⟩, ⟨fno239, trivial, trivial⟩⟩⟩⟩, ⟨fno23, ⟨fno39, ⟨fno71, ⟨fno135, ⟨fno263, trivial, trivial⟩, trivial⟩, ⟨fno199, ⟨fno327, trivial, trivial⟩, trivial⟩⟩, ⟨fno103, ⟨fno167, ⟨fno295, trivial, trivial⟩, trivial⟩, ⟨fno231, ⟨fno359, trivial, trivial⟩, trivial⟩⟩⟩, ⟨fno55, ⟨fno87, ⟨fno151, ⟨fno279, trivial, trivial⟩, trivial⟩, ⟨fno215, trivial, trivial⟩⟩, ⟨fno119, ⟨fno183, ⟨fno311, trivial, trivial⟩, trivial⟩, ⟨fno247, trivial, trivial⟩⟩⟩⟩⟩, ⟨fno11, ⟨fno19, ⟨fno35, ⟨fno67, ⟨fno131, ⟨fno259, trivial, trivial⟩, trivial⟩, ⟨fno195, trivial, trivial⟩⟩, ⟨fno99, ⟨fno163, ⟨fno291, trivial, trivial⟩, trivial⟩, ⟨fno227, ⟨fno355, trivial, trivial⟩, trivial⟩⟩⟩, ⟨fno51, ⟨fno83, ⟨fno147, ⟨fno275, trivial, trivial⟩, trivial⟩, ⟨fno211, trivial, trivial⟩⟩, ⟨fno115, ⟨fno179, ⟨fno307, trivial, trivial⟩, trivial⟩, ⟨fno243, trivial, trivial⟩⟩⟩⟩, ⟨fno27, ⟨fno43, ⟨fno75, ⟨fno139, ⟨fno267, trivial, trivial⟩, trivial⟩, ⟨fno203, ⟨fno331, trivial, trivial⟩, trivial⟩⟩, ⟨fno107, ⟨fno171, ⟨fno299, trivial, trivial⟩, trivial⟩, ⟨fno235, trivial, trivial⟩⟩⟩, ⟨fno59, ⟨fno91, ⟨fno155, ⟨fno283, trivial, trivial⟩, trivial⟩, ⟨fno219, ⟨fno347, trivial, trivial⟩, trivial⟩⟩, ⟨fno123, ⟨fno187, trivial, trivial⟩, ⟨fno251, trivial, trivial⟩⟩⟩⟩⟩⟩, ⟨fno5, ⟨fno9, ⟨fno17, ⟨fno33, ⟨fno65, ⟨fno129, ⟨fno257, trivial, trivial⟩, trivial⟩, ⟨fno193, trivial, trivial⟩⟩, ⟨fno97, ⟨fno161, ⟨fno289, trivial, trivial⟩, trivial⟩, ⟨fno225, ⟨fno353, trivial, trivial⟩, trivial⟩⟩⟩, ⟨fno49, ⟨fno81, ⟨fno145, ⟨fno273, trivial, trivial⟩, trivial⟩, ⟨fno209, trivial, trivial⟩⟩, ⟨fno113, ⟨fno177, ⟨fno305, trivial, trivial⟩, trivial⟩, ⟨fno241, trivial, trivial⟩⟩⟩⟩, ⟨fno25, ⟨fno41, ⟨fno73, ⟨fno137, ⟨fno265, trivial, trivial⟩, trivial⟩, ⟨fno201, ⟨fno329, trivial, trivial⟩, trivial⟩⟩, ⟨fno105, ⟨fno169, ⟨fno297, trivial, trivial⟩, trivial⟩, ⟨fno233, trivial, trivial⟩⟩⟩, ⟨fno57, ⟨fno89, ⟨fno153, ⟨fno281, trivial, trivial⟩, trivial⟩, ⟨fno217, trivial, trivial⟩⟩, ⟨fno121, ⟨fno185, trivial, trivial⟩, ⟨fno249, trivial, trivial⟩⟩⟩⟩⟩, ⟨fno13, ⟨fno21, ⟨fno37, ⟨fno69, ⟨fno133, ⟨fno261, trivial, trivial⟩, trivial⟩, ⟨fno197, trivial, trivial⟩⟩, ⟨fno101, ⟨fno165, ⟨fno293, trivial, trivial⟩, trivial⟩, ⟨fno229, trivial, trivial⟩⟩⟩, ⟨fno53, ⟨fno85, ⟨fno149, ⟨fno277, trivial, trivial⟩, trivial⟩, ⟨fno213, trivial, trivial⟩⟩, ⟨fno117, ⟨fno181, ⟨fno309, trivial, trivial⟩, trivial⟩, ⟨fno245, trivial, trivial⟩⟩⟩⟩, ⟨fno29, ⟨fno45, ⟨fno77, ⟨fno141, ⟨fno269, trivial, trivial⟩, trivial⟩, ⟨fno205, trivial, trivial⟩⟩, ⟨fno109, ⟨fno173, ⟨fno301, trivial, trivial⟩, trivial⟩, ⟨fno237, trivial, trivial⟩⟩⟩, ⟨fno61, ⟨fno93, ⟨fno157, ⟨fno285, trivial, trivial⟩, trivial⟩, ⟨fno221, trivial, trivial⟩⟩, ⟨fno125, ⟨fno189, trivial, trivial⟩, ⟨fno253, trivial, trivial⟩⟩⟩⟩⟩⟩⟩, ⟨trivial, ⟨fno4, ⟨fno8, ⟨fno16, ⟨fno32, ⟨fno64, ⟨fno128, ⟨fno256, trivial, trivial⟩, trivial⟩, ⟨fno192, trivial, trivial⟩⟩, ⟨fno96, ⟨fno160, ⟨fno288, trivial, trivial⟩, trivial⟩, ⟨fno224, trivial, trivial⟩⟩⟩, ⟨fno48, ⟨fno80, ⟨fno144, ⟨fno272, trivial, trivial⟩, trivial⟩, ⟨fno208, trivial, trivial⟩⟩, ⟨fno112, ⟨fno176, ⟨fno304, trivial, trivial⟩, trivial⟩, ⟨fno240, trivial, trivial⟩⟩⟩⟩, ⟨fno24, ⟨fno40, ⟨fno72, ⟨fno136, ⟨fno264, trivial, trivial⟩, trivial⟩, ⟨fno200, ⟨fno328, trivial, trivial⟩, trivial⟩⟩, ⟨fno104, ⟨fno168, ⟨fno296, trivial, trivial⟩, trivial⟩, ⟨fno232, ⟨fno360, trivial, trivial⟩, trivial⟩⟩⟩, ⟨fno56, ⟨fno88, ⟨fno152, ⟨fno280, trivial, trivial⟩, trivial⟩, ⟨fno216, trivial, trivial⟩⟩, ⟨fno120, ⟨fno184, trivial, trivial⟩, ⟨fno248, trivial, trivial⟩⟩⟩⟩⟩, ⟨fno12, ⟨fno20, ⟨fno36, ⟨fno68, ⟨fno132, ⟨fno260, trivial, trivial⟩, trivial⟩, ⟨fno196, trivial, trivial⟩⟩, ⟨fno100, ⟨fno164, ⟨fno292, trivial, trivial⟩, trivial⟩, ⟨fno228, ⟨fno356, trivial, trivial⟩, trivial⟩⟩⟩, ⟨fno52, ⟨fno84, ⟨fno148, ⟨fno276, trivial, trivial⟩, trivial⟩, ⟨fno212, trivial, trivial⟩⟩, ⟨fno116, ⟨fno180, ⟨fno308, trivial, trivial⟩, trivial⟩, ⟨fno244, trivial, trivial⟩⟩⟩⟩, ⟨fno28, ⟨fno44, ⟨fno76, ⟨fno140, ⟨fno268, trivial, trivial⟩, trivial⟩, ⟨fno204, trivial, trivial⟩⟩, ⟨fno108, ⟨fno172, ⟨fno300, trivial, trivial⟩, trivial⟩, ⟨fno236, trivial, trivial⟩⟩⟩, ⟨fno60, ⟨fno92, ⟨fno156, ⟨fno284, trivial, trivial⟩, trivial⟩, ⟨fno220, ⟨fno348, trivial, trivial⟩, trivial⟩⟩, ⟨fno124, ⟨fno188, trivial, trivial⟩, ⟨fno252, trivial, trivial⟩⟩⟩⟩⟩⟩, ⟨fno6, ⟨fno10, ⟨fno18, ⟨fno34, ⟨fno66, ⟨fno130, ⟨fno258, trivial, trivial⟩, trivial⟩, ⟨fno194, trivial, trivial⟩⟩, ⟨fno98, ⟨fno162, ⟨fno290, trivial, trivial⟩, trivial⟩, ⟨fno226, ⟨fno354, trivial, trivial⟩, trivial⟩⟩⟩, ⟨fno50, ⟨fno82, ⟨fno146, ⟨fno274, trivial, trivial⟩, trivial⟩, ⟨fno210, trivial, trivial⟩⟩, ⟨fno114, ⟨fno178, ⟨fno306, trivial, trivial⟩, trivial⟩, ⟨fno242, trivial, trivial⟩⟩⟩⟩, ⟨fno26, ⟨fno42, ⟨fno74, ⟨fno138, ⟨fno266, trivial, trivial⟩, trivial⟩, ⟨fno202, ⟨fno330, trivial, trivial⟩, trivial⟩⟩, ⟨fno106, ⟨fno170, ⟨fno298, trivial, trivial⟩, trivial⟩, ⟨fno234, trivial, trivial⟩⟩⟩, ⟨fno58, ⟨fno90, ⟨fno154, ⟨fno282, trivial, trivial⟩, trivial⟩, ⟨fno218, ⟨fno346, trivial, trivial⟩, trivial⟩⟩, ⟨fno122, ⟨fno186, trivial, trivial⟩, ⟨fno250, trivial, trivial⟩⟩⟩⟩⟩, ⟨fno14, ⟨fno22, ⟨fno38, ⟨fno70, ⟨fno134, ⟨fno262, trivial, trivial⟩, trivial⟩, ⟨fno198, ⟨fno326, trivial, trivial⟩, trivial⟩⟩, ⟨fno102, ⟨fno166, ⟨fno294, trivial, trivial⟩, trivial⟩, ⟨fno230, ⟨fno358, trivial, trivial⟩, trivial⟩⟩⟩, ⟨fno54, ⟨fno86, ⟨fno150, ⟨fno278, trivial, trivial⟩, trivial⟩, ⟨fno214, trivial, trivial⟩⟩, ⟨fno118, ⟨fno182, ⟨fno310, trivial, trivial⟩, trivial⟩, ⟨fno246, trivial, trivial⟩⟩⟩⟩, ⟨fno30, ⟨fno46, ⟨fno78, ⟨trivial, ⟨fno270, trivial, trivial⟩, trivial⟩, ⟨fno206, trivial, trivial⟩⟩, ⟨fno110, ⟨fno174, ⟨fno302, trivial, trivial⟩, trivial⟩, ⟨fno238, trivial, trivial⟩⟩⟩, ⟨fno62, ⟨fno94, ⟨fno158, ⟨fno286, trivial, trivial⟩, trivial⟩, ⟨fno222, trivial, trivial⟩⟩, ⟨fno126, ⟨fno190, trivial, trivial⟩, ⟨fno254, trivial, trivial⟩⟩⟩⟩⟩⟩⟩⟩
def okB (k b : Nat) : Bool := (decide (97 <= b) && decide (b <= 122)) || (decide (k ≠ 0) && (decide (b = 95) || (decide (48 <= b) && decide (b <= 57))))
def okS (s : ByteArray) (k : Nat) : Prop := ∀ j (h : j < s.size), j < k -> okB j (s[j]'h).toNat = true
open Classical in
noncomputable def nameV (s : ByteArray) : Bool := decide (0 < s.size /\ s.size <= 24 /\ okS s s.size)
theorem nameV_no {s : ByteArray} (k : Nat) (h : k < s.size) (hb : okB k (s[k]'h).toNat = false) : false = nameV s := by
 symm
 unfold nameV
 simp only [decide_eq_false_iff_not]
 intro ⟨_, _, h3⟩
 have := h3 k h h
 rw [hb] at this
 cases this
theorem ze1 {s : ByteArray} (h : ¬ (0 < s.size /\ s.size <= 24)) : false = nameV s := by
 symm
 unfold nameV
 simp only [decide_eq_false_iff_not]
 intro ⟨h1, h2, _⟩
 exact h ⟨h1, h2⟩
theorem zpi {s : ByteArray} (h1 : 0 < s.size) (h2 : s.size <= 24) (h3 : okS s s.size) : true = nameV s := by
 symm
 unfold nameV
 simp only [decide_eq_true_eq]
 exact ⟨h1, h2, h3⟩
theorem okS_step {s : ByteArray} {k : Nat} (h : okS s k) (hk : k < s.size) (hb : okB k (s[k]'hk).toNat = true) : okS s (k + 1) := by
 intro j hj hjk
 rcases Nat.lt_or_ge j k with h1 | h1
 . exact h j hj h1
 . obtain rfl : j = k := by omega
   exact hb
theorem zbq (w : World) (s : ByteArray) (p : Nat) : Below w.heap.size w (w.iter s p) := (Below.refl _ w).alloc (qV _) _
theorem ziy (s : ByteArray) : s.toList.isEmpty = decide (s.size = 0) := by
 rw [ByteArray.toList_eq]
 have e : s.size = s.data.toList.length := rfl
 rw [e]
 cases s.data.toList <;> simp
theorem zge {k b : Nat} (h : (97 <= b /\ b <= 122) ∨ (k ≠ 0 /\ (b = 95 ∨ (48 <= b /\ b <= 57)))) : okB k b = true := by
 unfold okB; simp; omega
theorem zhk {k b : Nat} (h : ¬ ((97 <= b /\ b <= 122) ∨ (k ≠ 0 /\ (b = 95 ∨ (48 <= b /\ b <= 57))))) : okB k b = false := by
 unfold okB; simp; omega
set_option maxHeartbeats 2000000 in
theorem nameE (s : ByteArray) (w : World) : Calls Tryz.prog 123 #[.string s] w fun e w' => e = .returned (.bool (nameV s)) /\ Below w.heap.size w w' := by
 by_cases h24 : 24 < s.size
 . have HN := qL (ze1 (s := s) qF)
   go_enter Tryz.func123, Tryz.ntmps123
   go_wp2
   go_ret
   exact ⟨zal HN.out, .refl _ _⟩
 . go_enter Tryz.func123, Tryz.ntmps123
   go_wp2
   go_loopw [] (fun w' => ∃ pos : Nat, w' = w.iter s pos /\ pos <= s.size /\ Hid (okS s pos)) (fun w' => s.size - w'.iterPos w.heap.size)
   case atStart => exact ⟨0, rfl, Nat.zero_le _, qL fun j hj h => absurd h qF⟩
   case round =>
    obtain ⟨k, rfl, hk, HO⟩ := hrel
    by_cases hp : k < s.size
    . obtain ⟨x, hx⟩ : ∃ x, x = (s[k]'hp).toNat := ⟨_, rfl⟩
      obtain ⟨r, hr⟩ : ∃ r, r = (Utf8.decode s k).1 := ⟨_, rfl⟩
      obtain ⟨d, hd⟩ : ∃ d, d = (Utf8.decode s k).2 := ⟨_, rfl⟩
      have hnx : ∀ ty, (Instr.next (.pointer (some ⟨w.heap.size, 0, none⟩)) true ty).run Tryz.prog (w.iter s k) = .ok (.tuple #[.bool true, .int .i64 k, .int .i32 r]) (w.iter s (k + d)) := fun ty => by rw [hr, hd]; exact run_next_any w s k ty hp
      have HXR : Hid ((x < 128 /\ r = x /\ d = 1) ∨ (128 <= x /\ 128 <= r)) := qL (by
       rcases Nat.lt_or_ge x 128 with h | h
       . have := decode_ascii s k hp (by rw [<- hx]; exact h)
         rw [<- hx] at this
         rw [this] at hr hd
         exact .inl ⟨h, hr, hd⟩
       . exact .inr ⟨h, by rw [hr]; exact (decode_high s k hp (by rw [<- hx]; exact h)).1⟩)
      have HBX : Hid (okB k (s[k]'hp).toNat = okB k x) := qL (by rw [hx])
      clear hr hd hx
      have hno : Hid (okB k x = false -> false = nameV s) := qL fun h => nameV_no k hp (by rw [HBX.out]; exact h)
      have hyes : Hid (okB k x = true -> okS s (k + 1)) := qL fun h => okS_step HO.out hp (by rw [HBX.out]; exact h)
      by_cases a1 : 97 <= r
      . by_cases a2 : r <= 122
        . skip
          have hd1 : d = 1 := by have := HXR.out; omega
          have fa1 : decide ((97 : Int) <= (r : Int)) = true := by simp; omega
          have fa2 : decide ((r : Int) <= 122) = true := by simp; omega
          subst hd1
          have HY := qL (hyes.out (zge (by have := HXR.out; omega)))
          go_wp2
          go_roundw
          case rel => exact ⟨k + 1, rfl, by omega, HY⟩
          case measure => simp; omega
        . skip
          by_cases b0 : k = 0
          . subst b0
            have fa1 : decide ((97 : Int) <= (r : Int)) = true := by simp; omega
            have fa2 : decide ((r : Int) <= 122) = false := by simp; omega
            have HN := qL (hno.out (zhk (by have := HXR.out; omega)))
            go_wp2
            go_ret
            exact ⟨zal HN.out, zbq _ _ _⟩
          . by_cases b1 : r = 95
            . skip
              have hd1 : d = 1 := by have := HXR.out; omega
              have fa1 : decide ((97 : Int) <= (r : Int)) = true := by simp; omega
              have fa2 : decide ((r : Int) <= 122) = false := by simp; omega
              have fb0 : ((k : Int) == 0) = false := by simp; omega
              have fb1 : ((r : Int) != 95) = false := by simp; omega
              subst hd1
              have HY := qL (hyes.out (zge (by have := HXR.out; omega)))
              go_wp2
              go_roundw
              case rel => exact ⟨k + 1, rfl, by omega, HY⟩
              case measure => simp; omega
            . by_cases b2 : r < 48
              . skip
                have fa1 : decide ((97 : Int) <= (r : Int)) = true := by simp; omega
                have fa2 : decide ((r : Int) <= 122) = false := by simp; omega
                have fb0 : ((k : Int) == 0) = false := by simp; omega
                have fb1 : ((r : Int) != 95) = true := by simp; omega
                have fb2 : decide ((r : Int) < 48) = true := by simp; omega
                have HN := qL (hno.out (zhk (by have := HXR.out; omega)))
                go_wp2
                go_ret
                exact ⟨zal HN.out, zbq _ _ _⟩
              . by_cases b3 : 57 < r
                . skip
                  have fa1 : decide ((97 : Int) <= (r : Int)) = true := by simp; omega
                  have fa2 : decide ((r : Int) <= 122) = false := by simp; omega
                  have fb0 : ((k : Int) == 0) = false := by simp; omega
                  have fb1 : ((r : Int) != 95) = true := by simp; omega
                  have fb2 : decide ((r : Int) < 48) = false := by simp; omega
                  have fb3 : decide ((57 : Int) < (r : Int)) = true := by simp; omega
                  have HN := qL (hno.out (zhk (by have := HXR.out; omega)))
                  go_wp2
                  go_ret
                  exact ⟨zal HN.out, zbq _ _ _⟩
                . skip
                  have hd1 : d = 1 := by have := HXR.out; omega
                  have fa1 : decide ((97 : Int) <= (r : Int)) = true := by simp; omega
                  have fa2 : decide ((r : Int) <= 122) = false := by simp; omega
                  have fb0 : ((k : Int) == 0) = false := by simp; omega
                  have fb1 : ((r : Int) != 95) = true := by simp; omega
                  have fb2 : decide ((r : Int) < 48) = false := by simp; omega
                  have fb3 : decide ((57 : Int) < (r : Int)) = false := by simp; omega
                  subst hd1
                  have HY := qL (hyes.out (zge (by have := HXR.out; omega)))
                  go_wp2
                  go_roundw
                  case rel => exact ⟨k + 1, rfl, by omega, HY⟩
                  case measure => simp; omega
      . skip
        by_cases b0 : k = 0
        . subst b0
          have fa1 : decide ((97 : Int) <= (r : Int)) = false := by simp; omega
          have HN := qL (hno.out (zhk (by have := HXR.out; omega)))
          go_wp2
          go_ret
          exact ⟨zal HN.out, zbq _ _ _⟩
        . by_cases b1 : r = 95
          . skip
            have hd1 : d = 1 := by have := HXR.out; omega
            have fa1 : decide ((97 : Int) <= (r : Int)) = false := by simp; omega
            have fb0 : ((k : Int) == 0) = false := by simp; omega
            have fb1 : ((r : Int) != 95) = false := by simp; omega
            subst hd1
            have HY := qL (hyes.out (zge (by have := HXR.out; omega)))
            go_wp2
            go_roundw
            case rel => exact ⟨k + 1, rfl, by omega, HY⟩
            case measure => simp; omega
          . by_cases b2 : r < 48
            . skip
              have fa1 : decide ((97 : Int) <= (r : Int)) = false := by simp; omega
              have fb0 : ((k : Int) == 0) = false := by simp; omega
              have fb1 : ((r : Int) != 95) = true := by simp; omega
              have fb2 : decide ((r : Int) < 48) = true := by simp; omega
              have HN := qL (hno.out (zhk (by have := HXR.out; omega)))
              go_wp2
              go_ret
              exact ⟨zal HN.out, zbq _ _ _⟩
            . by_cases b3 : 57 < r
              . skip
                have fa1 : decide ((97 : Int) <= (r : Int)) = false := by simp; omega
                have fb0 : ((k : Int) == 0) = false := by simp; omega
                have fb1 : ((r : Int) != 95) = true := by simp; omega
                have fb2 : decide ((r : Int) < 48) = false := by simp; omega
                have fb3 : decide ((57 : Int) < (r : Int)) = true := by simp; omega
                have HN := qL (hno.out (zhk (by have := HXR.out; omega)))
                go_wp2
                go_ret
                exact ⟨zal HN.out, zbq _ _ _⟩
              . skip
                have hd1 : d = 1 := by have := HXR.out; omega
                have fa1 : decide ((97 : Int) <= (r : Int)) = false := by simp; omega
                have fb0 : ((k : Int) == 0) = false := by simp; omega
                have fb1 : ((r : Int) != 95) = true := by simp; omega
                have fb2 : decide ((r : Int) < 48) = false := by simp; omega
                have fb3 : decide ((57 : Int) < (r : Int)) = false := by simp; omega
                subst hd1
                have HY := qL (hyes.out (zge (by have := HXR.out; omega)))
                go_wp2
                go_roundw
                case rel => exact ⟨k + 1, rfl, by omega, HY⟩
                case measure => simp; omega
    . obtain rfl : k = s.size := by omega
      have hnx : ∀ ty, (Instr.next (.pointer (some ⟨w.heap.size, 0, none⟩)) true ty).run Tryz.prog (w.iter s s.size) = _ := fun ty => run_next_end w s s.size ty hp
      by_cases h0 : s.size = 0
      . have HN := qL (ze1 (s := s) qF)
        have hz : s.toList.isEmpty = true := by rw [ziy]; exact decide_eq_true h0
        clear h0
        go_wp2
        go_ret
        exact ⟨zal HN.out, zbq _ _ _⟩
      . have HN := qL (zpi (s := s) qF qF HO.out)
        have hz : s.toList.isEmpty = false := by rw [ziy]; exact decide_eq_false h0
        go_wp2
        go_ret
        exact ⟨zal HN.out, zbq _ _ _⟩
end
section
open Go.RowKit
def validV (v : Val) : Bool :=
 if v.k = 0 then (v.m == 0) && v.s.toList.isEmpty else if v.k = 1 then v.s.toList.isEmpty && ((v.m == 0) || (v.m == 1))
 else if v.k = 2 then v.s.toList.isEmpty && decide (-1073741824 <= v.m) && decide (v.m <= 1073741824)
 else if v.k = 3 then (v.m == 0) && decide (v.s.size <= 64) else if v.k = 4 then v.s.toList.isEmpty && decide (0 <= v.m) && decide (v.m <= 575999999) else false
theorem zne (a b : Int) (s : ByteArray) (a' b' : Int) (s' : ByteArray) (w : World) :
 (binOp .eql 46 (.agg #[.int .i64 a, .int .i64 b, .string s]) (.agg #[.int .i64 a', .int .i64 b', .string s'])).run Tryz.prog w = .ok (.bool (a == a' && (b == b' && s.toList == s'.toList))) w := by
 have u3 := Tryz.underlying3
 have u9 := Tryz.underlying9
 have a3 := Tryz.isAgg3
 have a9 := Tryz.isAgg9
 have z3 := Tryz.sizeOf3
 have z9 := Tryz.sizeOf9
 have hS : Tryz.prog.underlying 46 = some (.struct (Tryz.prog.fieldsOf 46)) := by kernel_rfl
 have hp : Tryz.prog.stoodInHeld 46 = false := by kernel_rfl
 rw [run_eql_struct, show (10000 : Nat) = 9999 + 1 from rfl, run_equalIn_agg w 9999 46 _ _ hS hp]
 simp only [Program.fieldsOf, Tryz.underlying46]
 go_simp
 by_cases h1 : a = a' <;> by_cases h2 : b = b' <;> by_cases h3 : s.toList = s'.toList <;> simp [h1, h2, h3]
theorem nanE (a : Int) (w : World) : Calls Tryz.prog 139 #[.int .i64 a] w fun e w' => e = .returned (.bool false) /\ w' = w := by
 go_enter Tryz.func139, Tryz.ntmps139
 go_wp2
 go_ret
 exact ⟨zal qH, rfl⟩
theorem cmpE (a b : Int) (w : World) : Calls Tryz.prog 98 #[.int .i64 a, .int .i64 b] w fun e w' => e = .returned (.int .i64 (Lib.compareInt a b)) /\ w' = w := by
 rcases Int.lt_trichotomy a b with h | h | h
 . go_enter Tryz.func98, Tryz.ntmps98
   go_wp2_with (go_at_call 139; refine (nanE _ _).mono ?_; rintro e w' ⟨rfl, rfl⟩)
   go_ret
   exact ⟨zak (by unfold Lib.compareInt; rw [if_pos h]), rfl⟩
 . have h1 : decide (a < b) = false := by simp; omega
   have h2 : decide (a > b) = false := by simp; omega
   have HE := qL h
   clear h
   go_enter Tryz.func98, Tryz.ntmps98
   go_wp2_with (go_at_call 139; refine (nanE _ _).mono ?_; rintro e w' ⟨rfl, rfl⟩)
   all_goals (go_ret; exact ⟨zak (by have := HE.out; unfold Lib.compareInt; rw [if_neg qF, if_neg qF]), rfl⟩)
 . go_enter Tryz.func98, Tryz.ntmps98
   go_wp2_with (go_at_call 139; refine (nanE _ _).mono ?_; rintro e w' ⟨rfl, rfl⟩)
   go_ret
   exact ⟨zak (by unfold Lib.compareInt; rw [if_neg qF, if_pos qF]), rfl⟩
theorem nanS (a : ByteArray) (w : World) : Calls Tryz.prog 140 #[.string a] w fun e w' => e = .returned (.bool false) /\ w' = w := by
 go_enter Tryz.func140, Tryz.ntmps140
 go_wp2
 go_ret
 exact ⟨zal qH, rfl⟩
theorem zhy (a b : List UInt8) : Op.bytesLess a b = decide (Lib.compareBytes a b < 0) := by
 induction a generalizing b with
 | nil => cases b <;> simp [Op.bytesLess, Lib.compareBytes]
 | cons x a ih =>
   cases b with
   | nil => simp [Op.bytesLess, Lib.compareBytes]
   | cons y b =>
     unfold Op.bytesLess Lib.compareBytes
     rcases zhn x y with h | h | h
     . simp [h]
     . subst h
       simp [UInt8.lt_irrefl, ih]
     . have h2 : ¬ x = y := fun e => by subst e; exact UInt8.lt_irrefl _ h
       have h3 : ¬ x < y := UInt8.lt_asymm h
       simp [h, h2, h3]
theorem zhz : ∀ a b : List UInt8, Lib.compareBytes a b = -1 ∨ Lib.compareBytes a b = 0 ∨ Lib.compareBytes a b = 1
 | [], [] => by simp [Lib.compareBytes]
 | [], _ :: _ => by simp [Lib.compareBytes]
 | _ :: _, [] => by simp [Lib.compareBytes]
 | x :: a, y :: b => by
   have := zhz a b
   unfold Lib.compareBytes
   split
   . simp
   . split
     . simp
     . exact this
def orV : List Int -> Int
 | [] => 0
 | x :: l => if x = 0 then orV l else x
theorem or_step {l : List Int} {k : Nat} {x : Int} (h : l[k]? = some x) : orV (l.drop k) = if x = 0 then orV (l.drop (k + 1)) else x := by
 rw [List.drop_eq_getElem_cons (qO h).1, (qO h).2]; rfl
theorem orE (A : Option Addr) (n c : Nat) (l : List Int) (w : World) (h : rInt w A n l) (hn : n <= 100000) :
 Calls Tryz.prog 97 #[.slice A n c] w fun e w' => e = .returned (.int .i64 (orV l)) /\ w' = w := by
 have HR := qL h
 have HL := qL h.len
 clear h
 go_enter Tryz.func97, Tryz.ntmps97
 go_wp2
 go_loop [8] (fun i => ∃ k : Nat, k <= n /\ i = .int .i64 k /\ Hid (orV l = orV (l.drop k))) (fun i => n - (intOf i).toNat)
 case atStart => exact ⟨0, by omega, rfl, rfl⟩
 case round =>
  obtain ⟨k, hk, rfl, HU⟩ := hrel
  by_cases hkn : k < n
  . obtain ⟨b, off, rfl, hcell⟩ := HR.out.opn qF
    obtain ⟨x, hx⟩ := zah (l := l) (k := k) (by have := HL.out; omega)
    have hc := hcell k x hx
    have HS := qL (or_step hx)
    clear hcell hx
    by_cases hz : x = 0
    . subst hz
      go_wp2
      case roundEnd => exact ⟨⟨k + 1, by omega, by go_num, qL (by rw [HU.out, HS.out]; rfl)⟩, by simp [intOf]; omega⟩
    . have hz1 : (x == 0) = false := by simp; exact hz
      have HZ := qL hz
      clear hz
      go_wp2
      go_ret
      exact ⟨zak (by rw [HU.out, HS.out, if_neg HZ.out]), rfl⟩
  . go_wp2
    go_ret
    exact ⟨zak (by rw [HU.out, List.drop_eq_nil_of_le (by have := HL.out; omega)]; rfl), rfl⟩
theorem gtr9 (a b : ByteArray) (w : World) : (binOp .gtr 9 (.string a) (.string b)).run Tryz.prog w = .ok (.bool (!(Op.bytesLess a.toList b.toList || a.toList == b.toList))) w := by
 have e : binOp .gtr 9 (.string a) (.string b) = pure (.bool !(Op.bytesLess a.toList b.toList || a.toList == b.toList)) := by simp [binOp, Op.stringOp]
 rw [e]; rfl
theorem strE (a b : ByteArray) (w : World) : Calls Tryz.prog 99 #[.string a, .string b] w fun e w' => e = .returned (.int .i64 (Lib.compareBytes a.toList b.toList)) /\ w' = w := by
 have hl := zhy a.toList b.toList
 have hg := zhy b.toList a.toList
 have hf := zhx a.toList b.toList
 have h3 := zhz a.toList b.toList
 have qg := gtr9
 cases h1 : Op.bytesLess a.toList b.toList
 . cases h2 : (a.toList == b.toList)
   . have HE : Hid (1 = Lib.compareBytes a.toList b.toList) := qL (by rw [h1] at hl; have hz := zew a.toList b.toList; simp at hl h2; rcases h3 with h | h | h <;> (first | omega | exact absurd (hz.1 h) h2))
     clear hl hg hf h3
     go_enter Tryz.func99, Tryz.ntmps99
     go_wp2_with (go_at_call 140; refine (nanS _ _).mono ?_; rintro e w' ⟨rfl, rfl⟩)
     go_ret
     exact ⟨zak HE.out, rfl⟩
   . have HE : Hid (0 = Lib.compareBytes a.toList b.toList) := qL (by have hz := zew a.toList b.toList; simp at h2; exact (hz.2 h2).symm)
     clear hl hg hf h3
     go_enter Tryz.func99, Tryz.ntmps99
     go_wp2_with (go_at_call 140; refine (nanS _ _).mono ?_; rintro e w' ⟨rfl, rfl⟩)
     go_ret
     exact ⟨zak HE.out, rfl⟩
 . have HE : Hid (-1 = Lib.compareBytes a.toList b.toList) := qL (by rw [h1] at hl; simp at hl hg; omega)
   clear hl hg hf h3
   go_enter Tryz.func99, Tryz.ntmps99
   go_wp2_with (go_at_call 140; refine (nanS _ _).mono ?_; rintro e w' ⟨rfl, rfl⟩)
   go_ret
   exact ⟨zak HE.out, rfl⟩
theorem eqs46 : EqsOk Tryz.prog 46 := by
 intro op x y a b u a' b' u' w hop
 have h := zne a b u a' b' u' w
 have hg : (eqGuard op 46 x y (.agg #[.int .i64 a, .int .i64 b, .string u]) (.agg #[.int .i64 a', .int .i64 b', .string u'])).run Tryz.prog w = .ok () w := by
  have ht : Tryz.prog.eqGuardType Tryz.prog.depth 46 = false := by kernel_rfl
  rcases hop with rfl | rfl <;> simp [eqGuard, ht]
 have he : (Op.equal 46 (.agg #[.int .i64 a, .int .i64 b, .string u]) (.agg #[.int .i64 a', .int .i64 b', .string u'])).run Tryz.prog w = .ok (a == a' && (b == b' && u.toList == u'.toList)) w := by
  have e : binOp .eql 46 (.agg #[.int .i64 a, .int .i64 b, .string u]) (.agg #[.int .i64 a', .int .i64 b', .string u']) = (do pure (.bool (<- Op.equal 46 (.agg #[.int .i64 a, .int .i64 b, .string u]) (.agg #[.int .i64 a', .int .i64 b', .string u'])))) := rfl
  rw [e, Sem.run_bind] at h
  generalize (Op.equal 46 (.agg #[.int .i64 a, .int .i64 b, .string u]) (.agg #[.int .i64 a', .int .i64 b', .string u'])).run Tryz.prog w = rr at h ⊢
  cases rr with
  | ok q w' =>
    rw [Result.andThen_ok, Sem.run_pure] at h
    injection h with h1 h2
    injection h1 with h1
    rw [h1, h2]
  | halt q w' =>
    rw [Result.andThen_halt] at h
    exact absurd h (fun e => by cases e)
 rcases hop with rfl | rfl
 . simp only [Sem.run_bind, hg, Result.andThen_ok, h]
   rfl
 . have e : binOp .neq 46 (.agg #[.int .i64 a, .int .i64 b, .string u]) (.agg #[.int .i64 a', .int .i64 b', .string u']) = (do pure (.bool (!(<- Op.equal 46 (.agg #[.int .i64 a, .int .i64 b, .string u]) (.agg #[.int .i64 a', .int .i64 b', .string u']))))) := rfl
   rw [e]
   simp only [Sem.run_bind, hg, Result.andThen_ok, he]
   rfl
def fidx (c : Nat) : List UInt8 -> Nat -> Int
 | [], _ => -1
 | b :: l, k => cond (Nat.beq b.toNat c) (Int.ofNat k) (fidx c l (k + 1))
def exIB (args : List Value) : Option Value := match args with
 | [.string u, .int .u8 (.ofNat c)] => cond (Nat.ble (c + 1) 256) (some (.int .i64 (fidx c u.data.toList 0))) none
 | _ => none
theorem zov (s : ByteArray) (c : Nat) (hc : c < 256) : ∀ (l : List UInt8) (k : Nat), s.data.toList.drop k = l -> k + l.length = s.size ->
 fidx c l k = match (List.range' k l.length).find? fun i => s[i]! == c.toUInt8 with | some i => (i : Int) | none => -1
 | [], k, _, _ => by simp [fidx]
 | b :: l, k, h, hl => by
   have hd : s.data.toList.drop (k + 1) = l := by rw [<- List.drop_drop, h]; rfl
   have ih := zov s c hc l (k + 1) hd (by simp at hl; omega)
   have hk : k < s.size := by simp at hl; omega
   have hb : s[k]! = b := by
    have h1 : s.data.toList[k]? = some b := by
     have : (s.data.toList.drop k)[0]? = some b := by rw [h]; rfl
     rw [List.getElem?_drop] at this
     simpa using this
    rw [getElem!_pos s k hk]
    have h2 : s.data[k]? = some b := by simpa using h1
    have h3 : s.data[k]'hk = b := by
     rw [Array.getElem?_eq_getElem hk] at h2
     exact Option.some.inj h2
    exact h3
   have he : (b == c.toUInt8) = Nat.beq b.toNat c := by
    rw [<- zkc]
    have : c.toUInt8.toNat = c := by
     show (UInt8.ofNat c).toNat = c
     simp [UInt8.toNat_ofNat]; omega
    rw [this]
   rw [fidx, List.length_cons, List.range'_succ, List.find?_cons, hb, he]
   cases Nat.beq b.toNat c
   . simpa using ih
   . rfl
theorem ex142 (E : Ev) (D : Nat -> Prop) (ρ : Nat -> Pl) (args args' : List Value) (v : Value) (w : World) (h : exIB args = some v) (hr : Rvs E D ρ args args') : ∃ v', (callFunc 142 ⟨args'⟩).run Tryz.prog w = .ok (.value v') w /\ Rv E D ρ v v' := by
 unfold exIB at h
 split at h
 . rename_i u c
   obtain ⟨h1, h2⟩ := zax h
   have h1 := qS h1
   cases h2
   cases hr with
   | cons _ x _ _ k1 k2 =>
     cases k2 with
     | cons _ y _ _ k2 k3 =>
       cases k3
       cases zbk k1
       cases zbe k2
       refine ⟨.int .i64 (fidx c u.data.toList 0), ?_, .flat _ rfl⟩
       have hx := run_callFunc_extern (e := Extern.BytealgIndexByte.indexByte) Tryz.func142 qG qG qG qJ #[.string u, .int .u8 (Int.ofNat c)] w
       rw [show (⟨[.string u, .int .u8 (Int.ofNat c)]⟩ : Array Value) = #[.string u, .int .u8 (Int.ofNat c)] from rfl, hx, run_indexByte_string]
       have hl : u.data.toList.length = u.size := Array.length_toList (xs := u.data)
       have := zov u c qF u.data.toList 0 qH qF
       rw [hl] at this
       simp only [Result.andThen_ok]
       rw [this]
       unfold firstIdx
       rw [List.range_eq_range']
       rfl
 . cases h
noncomputable def xT : Tbl := ⟨xTy.get, xFn.get, fun t => Nat.beq t 46, fun _ => none, fun f => cond (Nat.beq f 142) (some exIB) none, fun _ _ _ => none, fun _ => none⟩
theorem zg2 (E : Ev) : xT.Ok E Tryz.prog where
 ty t i h := TrAll.get xTy_ok h
 fn f x h := TrAll.get xFn_ok h
 eqs t h := by
  have := qU h
  subst this
  exact eqs46
 mixed := by kernel_rfl
 ex f h hf D ρ args args' v w hv hr := by
  obtain ⟨h1, h2⟩ := zax hf
  have h1 := qU h1
  subst h1
  cases h2
  exact ex142 E D ρ args args' v w hv hr
 hint _ _ _ _ h := by cases h
 hlen _ _ h := by cases h
theorem xSp_ok (E : Ev) : SpOk E Tryz.prog xT := fun f g h => by cases h
noncomputable def xR (n : Nat) : Rn := rn xT (adraw xT) n
theorem zir (E : Ev) (n : Nat) : CallOk E Tryz.prog (xR n) := (rn_ok (zg2 E) (zhr (zg2 E)) (xSp_ok E) n).2
end
end Go.Proofs.YthcalfeoejdcgaaGreatDoor
