import Derived.Test.YthcalfeoejdcgaaGreatDoorChecked
import Derived.KernelRfl
import Derived.Test.YthcalfeoejdcgaaGreatDoorRows
import Derived.Laws.RangeAny
import Derived.Laws.StructEq
import Derived.Deep.RegionHeld3
import Derived.Laws.Externs
import Derived.Test.YthcalfeoejdcgaaGreatDoorK04
namespace Go.Proofs.YthcalfeoejdcgaaGreatDoor
set_option linter.unusedSimpArgs false
set_option linter.unusedVariables false
set_option maxRecDepth 100000
set_option maxHeartbeats 20000000
section
open Go.RowKit
section
variable {E:Ev}{D:Nat->Prop}{ρ:Nat->Pl}{s:ASt}{w w':World}
theorem zbv (h:Sim E D ρ s w)(hb:Below w.heap.size w w'):Sim E D ρ s w'/\Ex D s ρ w D s ρ w':=by
 refine ⟨⟨h.lt,h.dn,fun i o hi=>(h.bd i o hi).kept (fun _ h=>h) (fun _ _=>rfl) (hb.block _),fun i o hi=>qQ (h.inh i o hi) hb.size,h.apart,h.gl,h.glob,fun i k ob hk=>⟨?_,(h.prot i k ob hk).2⟩⟩,⟨qV _,fun _ h=>h,fun _ h=> .inl h,fun _ _=>rfl,fun i o _ h=>⟨o,h⟩,fun i o h1 h2 _=>absurd (h.low i o h2) qF,fun _ h=>h,hb.os,hb.tape,hb.output,hb.size,fun k hk _=>hb.block k hk,fun _ _ _=>rfl,fun _ _ h1 h2 _=>absurd h1 h2,fun _ h1 h2=>absurd h1 h2,fun _ h1 h2=>absurd h1 qF,fun _ _=>rfl⟩⟩
 have h1:=(h.prot i k ob hk).1
 exact (hb.block k (Array.getElem?_eq_some_iff.1 h1).1).trans h1
def ya2 (w w':World):Nat->Option Obj:=fun k=>if w.heap.size<=k then w'.heap[k]? else none
def oPl (w w':World):Pl:=⟨0,0,1,0,ya2 w w'⟩
def ASt.opq (s:ASt):ASt:=⟨s.heap,s.next+1,s.tc⟩
theorem zd3 (h:Sim E D ρ s w)(hb:Below w.heap.size w w'){d:Nat}(hd:d<1024){v:Value}(h1:v.oneCell'=true)(he:E d v (ya2 w w')):
 Rv E (ydf D s.next) (ych ρ s.next (oPl w w')) (.chan (some (s.next*1024+d))) v/\Sim E (ydf D s.next) (ych ρ s.next (oPl w w')) s.opq w'/\Ex D s ρ w (ydf D s.next) s.opq (ych ρ s.next (oPl w w')) w':=by
 have old: ∀ i o,s.heap.get i=some o->ych ρ s.next (oPl w w') i=ρ i:=fun i o hi=>zam (h.low i o hi)
 refine ⟨?_,⟨fun i o hi=> .inl (h.lt i o hi),fun i hi=>?_,fun i o hi=>?_,fun i o hi=>?_,fun i j o o' hi hj hne hwr=>?_,fun g hg=> .inl (h.gl g hg),fun g hg=>?_,fun i k ob hk=>?_⟩,
  ⟨Nat.le_succ _,fun _ h=> .inl h,fun i h=>h.imp id fun e=>Nat.le_of_eq e.symm,fun i hi=>zam hi,fun i o _ h=>⟨o,h⟩,fun i o h1 h2 _=>absurd (h.low i o h2) qF,fun _ h=>h,hb.os,hb.tape,hb.output,hb.size,fun k hk _=>hb.block k hk,fun _ _ _=>rfl,fun _ _ h1 h2 _=>absurd h1 h2,fun _ h1 h2=>absurd h1 h2,fun i h1 h2 k ob hk=>?_,fun i h1=>if_neg (by have h1:s.next+1<=i:=h1;omega)⟩⟩
 ·have e1:(s.next*1024+d) / 1024=s.next:=by omega
  have e2:(s.next*1024+d) % 1024=d:=by omega
  refine .opq _ v (by rw [e1];exact .inr rfl) h1 ?_
  rw [e1,e2,zao]
  exact he
 ·show i<s.next+1
  rcases hi with hi|hi
  ·have:=h.dn i hi;omega
  ·omega
 ·rw [old i o hi]
  exact (h.bd i o hi).kept (fun j hj=> .inl hj) (fun j hj=>zam (h.dn j hj)) (hb.block _)
 ·rw [old i o hi];exact qQ (h.inh i o hi) hb.size
 ·rw [old i o hi,old j o' hj];exact h.apart i j o o' hi hj hne hwr
 ·rw [zam (h.dn g (h.gl g hg))];exact h.glob g hg
 ·by_cases e:i=s.next
  ·subst e
   rw [zao] at hk
   have hk:ya2 w w' k=some ob:=hk
   unfold ya2 at hk
   split at hk
   ·refine ⟨hk,fun b o hbo _=>?_⟩
    rw [old b o hbo]
    have:=h.inh b o hbo
    omega
   ·cases hk
  ·have e2:ych ρ s.next (oPl w w') i=ρ i:=if_neg e
   rw [e2] at hk
   obtain ⟨h2,h3⟩:=h.prot i k ob hk
   exact ⟨(hb.block k (Array.getElem?_eq_some_iff.1 h2).1).trans h2,fun b o hbo hwr=>by rw [old b o hbo];exact h3 b o hbo hwr⟩
 ·have e:i=s.next:=by have h2:i<s.next+1:=h2;omega
  subst e
  rw [zao] at hk
  have hk:ya2 w w' k=some ob:=hk
  unfold ya2 at hk
  split at hk
  ·assumption
  ·cases hk
def yqz (t:Tab)(v:Value)(sn:Nat->Option Obj):Prop:= ∃ A n c,v= .slice A n c/\n<=c/\ ∀ W:World,(∀ k ob,sn k=some ob->W.heap[k]?=some ob)->rTab W A n t
theorem zbw {A:Option Addr}{n c:Nat}{t:Tab}{B:Nat}(h:rTabF w' B A n t)(hB:w.heap.size<=B)(hc:n<=c):yqz t (.slice A n c) (ya2 w w'):=
 ⟨A,n,c,rfl,hc,fun W hW=>(h.other fun b hb hl=>by
  have:ya2 w w' b=some w'.heap[b]:=by
   unfold ya2
   rw [if_pos qF,Array.getElem?_eq_getElem hl]
  rw [hW b _ this,Array.getElem?_eq_getElem hl]).tab⟩
theorem zig {k:Nat}{v:Value}(hv:Rv E D ρ (.chan (some k)) v)(h:Sim E D ρ s w): ∃ sn,E (k % 1024) v sn/\ ∀ b ob,sn b=some ob->w.heap[b]?=some ob:=by
 cases hv with
 |flat _ h=>cases h
 |opq _ _ hd h1 he=>exact ⟨_,he,fun b ob hb=>(h.prot _ b ob hb).1⟩
def yil (C:Nat)(s:ASt):Value->Option (List Value)
 | .slice none 0 0=>some []
 | .slice (some ⟨i,o,none⟩) n _=>match yhv s i o (n*C) with
  |some l=>cond (l.all ybx&&Nat.ble 1 n) (some l) none
  |none=>none
 | .slice (some ⟨0,0,some 0⟩) 0 0=>some []
 |_=>none
theorem zih : ∀ {l l':List Value} (_:Rvs E D ρ l l') (_:l.all ybx=true),l'=l
 |_,_, .nil,_=>rfl
 |_,_, .cons a b l m h t,hf=>by
  simp only [List.all_cons,Bool.and_eq_true] at hf
  rw [zih t hf.2]
  have e:b=a:=by
   cases h with
   |flat _ _=>rfl
   |poison=>cases hf.1
   |opq=>cases hf.1
   |ptr=>cases hf.1
   |slice=>cases hf.1
   |empty=>cases hf.1
   |map=>cases hf.1
   |func fn k k' l l' g h=>
    obtain ⟨rfl,rfl⟩:=zhf hf.1
    cases g
    cases h
    rfl
   |agg=>cases hf.1
   |tuple=>cases hf.1
  rw [e]
theorem zpx {C:Nat}{v v':Value}{l:List Value}(hr:yil C s v=some l)(h:Sim E D ρ s w)(hv:Rv E D ρ v v'): ∃ A n c,v'= .slice A n c/\Fl w C A n l/\n<=c:=by
 unfold yil at hr
 split at hr
 ·cases hr
  cases zdd hv
  exact ⟨_,_,_,rfl,Fl.nil _ _ _,qV _⟩
 ·rename_i i o n m
  split at hr
  ·rename_i l1 hl
   obtain ⟨h1,h2⟩:=zax hr
   cases h2
   simp only [Bool.and_eq_true] at h1
   have hn:=qS h1.2
   obtain ⟨l',j1,j2,j3⟩:=zfi hl h
   have e:=zih j1 h1.1
   subst e
   cases hv with
   |flat _ h=>cases h
   |slice i o n lb c hd g1 g2 g3 g4=>
    refine ⟨_,_,_,rfl,⟨j2,fun _=>⟨_,_,rfl,fun j u hu=>?_⟩⟩,by omega⟩
    have:=j3 j u hu
    rwa [zb2] at this
  ·cases hr
 ·cases hr
  cases hv with
  |flat _ h=>cases h
  |empty A c=>exact ⟨_,_,_,rfl,Fl.nil _ _ _,Nat.zero_le _⟩
 ·cases hr
def yib (a b:Int):Bool:=match a,b with
 | .ofNat m, .ofNat n=>Nat.beq m n
 | .negSucc m, .negSucc n=>Nat.beq m n
 |_,_=>false
theorem zed {a b:Int}(h:yib a b=true):a=b:=by
 unfold yib at h
 split at h
 ·rw [qU h]
 ·rw [qU h]
 ·cases h
def eqF :Value->Value->Bool
 | .bool a, .bool b=>cond a b (cond b false true)
 | .int .i64 a, .int .i64 b=>yib a b
 | .string a, .string b=>eqB a.data.toList b.data.toList
 | .slice none 0 0, .slice none 0 0=>true
 |_,_=>false
theorem yma {a b:Value}(h:eqF a b=true):a=b:=by
 unfold eqF at h
 split at h
 ·rename_i a b
  cases a<;>cases b<;>first |rfl|cases h
 ·rw [zed h]
 ·rename_i a b
  rw [ziz] at h
  have h:=eq_of_beq h
  have:a=b:=ByteArray.ext (Array.ext' h)
  rw [this]
 ·rfl
 ·cases h
def Ycz :List Value->List Value->Bool
 | [],[]=>true
 |a::l,b::m=>cond (eqF a b) (Ycz l m) false
 |_,_=>false
theorem zol : ∀ {a b:List Value} (_:Ycz a b=true),a=b
 | [],[],_=>rfl
 | [],_::_,h=>by cases h
 |_::_,[],h=>by cases h
 |a::l,b::m,h=>by
  unfold Ycz at h
  cases hx:eqF a b
  ·rw [hx] at h;cases h
  ·rw [hx] at h
   rw [yma hx,zol h]
def yak (C:Nat)(s:ASt)(v:Value)(l:List Value):Bool:=match yil C s v with
 |some m=>Ycz m l
 |none=>false
theorem zbn {C:Nat}{v v':Value}{l:List Value}(hr:yak C s v l=true)(h:Sim E D ρ s w)(hv:Rv E D ρ v v'): ∃ A n c,v'= .slice A n c/\Fl w C A n l/\n<=c:=by
 unfold yak at hr
 split at hr
 ·rename_i m hm
  rw [<-zol hr]
  exact zpx hm h hv
 ·cases hr
end
noncomputable def ti1 :TI:=⟨TypeDesc.func #[] #[] false,1,8, .nilFunc,[]⟩
noncomputable def ti3 :TI:=⟨TypeDesc.int IntKind.i64,1,8, .int .i64 0,[]⟩
noncomputable def ti4 :TI:=⟨TypeDesc.bool,1,1, .bool false,[]⟩
noncomputable def ti5 :TI:=⟨TypeDesc.int IntKind.u8,1,1, .int .u8 0,[]⟩
noncomputable def ti9 :TI:=⟨TypeDesc.string,1,16, .string ⟨#[]⟩,[]⟩
noncomputable def ti21 :TI:=⟨TypeDesc.int IntKind.i32,1,4, .int .i32 0,[]⟩
noncomputable def ti22 :TI:=⟨TypeDesc.slice 3,1,24, .slice none 0 0,[]⟩
noncomputable def ti23 :TI:=⟨TypeDesc.slice 31,1,24, .slice none 0 0,[]⟩
noncomputable def ti25 :TI:=⟨TypeDesc.slice 48,1,24, .slice none 0 0,[]⟩
noncomputable def ti27 :TI:=⟨TypeDesc.slice 56,1,24, .slice none 0 0,[]⟩
noncomputable def ti28 :TI:=⟨TypeDesc.slice 42,1,24, .slice none 0 0,[]⟩
noncomputable def ti29 :TI:=⟨TypeDesc.slice 65,1,24, .slice none 0 0,[]⟩
noncomputable def ti31 : TI := ⟨TypeDesc.struct #[{ name := "Name", type := 9, offset := 0, embedded := false, tag := "", pkgPath := "", byteOffset := 0 }, { name := "Columns", type := 27, offset := 1, embedded := false, tag := "", pkgPath := "", byteOffset := 16 }, { name := "Keys", type := 28, offset := 2, embedded := false, tag := "", pkgPath := "", byteOffset := 40 }, { name := "Rows", type := 29, offset := 3, embedded := false, tag := "", pkgPath := "", byteOffset := 64 }], 4, 88, .agg #[.string ⟨#[]⟩, .slice none 0 0, .slice none 0 0, .slice none 0 0], [(0, 1, false), (1, 1, false), (2, 1, false), (3, 1, false)]⟩
noncomputable def ti32 :TI:=⟨TypeDesc.int IntKind.u64,1,8, .int .u64 0,[]⟩
noncomputable def ti33 :TI:=⟨TypeDesc.int IntKind.i64,1,8, .int .i64 0,[]⟩
noncomputable def ti36 :TI:=⟨TypeDesc.slice 80,1,24, .slice none 0 0,[]⟩
noncomputable def ti40 : TI := ⟨TypeDesc.struct #[{ name := "Name", type := 9, offset := 0, embedded := false, tag := "", pkgPath := "", byteOffset := 0 }, { name := "Func", type := 3, offset := 1, embedded := false, tag := "", pkgPath := "", byteOffset := 16 }, { name := "Column", type := 9, offset := 2, embedded := false, tag := "", pkgPath := "", byteOffset := 24 }, { name := "Number", type := 3, offset := 3, embedded := false, tag := "", pkgPath := "", byteOffset := 40 }, { name := "Expr", type := 25, offset := 4, embedded := false, tag := "", pkgPath := "", byteOffset := 48 }], 5, 72, .agg #[.string ⟨#[]⟩, .int .i64 0, .string ⟨#[]⟩, .int .i64 0, .slice none 0 0], [(0, 1, false), (1, 1, false), (2, 1, false), (3, 1, false), (4, 1, false)]⟩
noncomputable def ti41 :TI:=⟨TypeDesc.slice 40,1,24, .slice none 0 0,[]⟩
noncomputable def ti42 :TI:=⟨TypeDesc.slice 9,1,24, .slice none 0 0,[]⟩
noncomputable def ti44 : TI := ⟨TypeDesc.struct #[{ name := "Op", type := 3, offset := 0, embedded := false, tag := "", pkgPath := "", byteOffset := 0 }, { name := "Source", type := 9, offset := 1, embedded := false, tag := "", pkgPath := "", byteOffset := 8 }, { name := "Names", type := 42, offset := 2, embedded := false, tag := "", pkgPath := "", byteOffset := 24 }, { name := "Others", type := 42, offset := 3, embedded := false, tag := "", pkgPath := "", byteOffset := 48 }, { name := "Items", type := 41, offset := 4, embedded := false, tag := "", pkgPath := "", byteOffset := 72 }, { name := "Cond", type := 25, offset := 5, embedded := false, tag := "", pkgPath := "", byteOffset := 96 }], 6, 120, .agg #[.int .i64 0, .string ⟨#[]⟩, .slice none 0 0, .slice none 0 0, .slice none 0 0, .slice none 0 0], [(0, 1, false), (1, 1, false), (2, 1, false), (3, 1, false), (4, 1, false), (5, 1, false)]⟩
noncomputable def ti46 : TI := ⟨TypeDesc.struct #[{ name := "Kind", type := 3, offset := 0, embedded := false, tag := "", pkgPath := "", byteOffset := 0 }, { name := "Num", type := 3, offset := 1, embedded := false, tag := "", pkgPath := "", byteOffset := 8 }, { name := "Str", type := 9, offset := 2, embedded := false, tag := "", pkgPath := "", byteOffset := 16 }], 3, 32, .agg #[.int .i64 0, .int .i64 0, .string ⟨#[]⟩], [(0, 1, false), (1, 1, false), (2, 1, false)]⟩
noncomputable def ti48 : TI := ⟨TypeDesc.struct #[{ name := "Op", type := 3, offset := 0, embedded := false, tag := "", pkgPath := "", byteOffset := 0 }, { name := "Value", type := 46, offset := 1, embedded := false, tag := "", pkgPath := "", byteOffset := 8 }, { name := "Name", type := 9, offset := 4, embedded := false, tag := "", pkgPath := "", byteOffset := 40 }, { name := "Arity", type := 3, offset := 5, embedded := false, tag := "", pkgPath := "", byteOffset := 56 }], 6, 64, .agg #[.int .i64 0, .int .i64 0, .int .i64 0, .string ⟨#[]⟩, .string ⟨#[]⟩, .int .i64 0], [(0, 1, false), (1, 3, true), (4, 1, false), (5, 1, false)]⟩
noncomputable def ti56 : TI := ⟨TypeDesc.struct #[{ name := "Name", type := 9, offset := 0, embedded := false, tag := "", pkgPath := "", byteOffset := 0 }, { name := "Kind", type := 3, offset := 1, embedded := false, tag := "", pkgPath := "", byteOffset := 16 }, { name := "Nullable", type := 4, offset := 2, embedded := false, tag := "", pkgPath := "", byteOffset := 24 }], 3, 32, .agg #[.string ⟨#[]⟩, .int .i64 0, .bool false], [(0, 1, false), (1, 1, false), (2, 1, false)]⟩
noncomputable def ti57 :TI:=⟨TypeDesc.slice 44,1,24, .slice none 0 0,[]⟩
noncomputable def ti63 :TI:=⟨TypeDesc.slice 46,1,24, .slice none 0 0,[]⟩
noncomputable def ti65 : TI := ⟨TypeDesc.struct #[{ name := "Row", type := 63, offset := 0, embedded := false, tag := "", pkgPath := "", byteOffset := 0 }, { name := "Count", type := 3, offset := 1, embedded := false, tag := "", pkgPath := "", byteOffset := 24 }], 2, 32, .agg #[.slice none 0 0, .int .i64 0], [(0, 1, false), (1, 1, false)]⟩
noncomputable def ti78 :TI:=⟨TypeDesc.slice 88,1,24, .slice none 0 0,[]⟩
noncomputable def ti80 : TI := ⟨TypeDesc.struct #[{ name := "Name", type := 9, offset := 0, embedded := false, tag := "", pkgPath := "", byteOffset := 0 }, { name := "Offset", type := 3, offset := 1, embedded := false, tag := "", pkgPath := "", byteOffset := 16 }, { name := "Shifts", type := 78, offset := 2, embedded := false, tag := "", pkgPath := "", byteOffset := 24 }], 3, 48, .agg #[.string ⟨#[]⟩, .int .i64 0, .slice none 0 0], [(0, 1, false), (1, 1, false), (2, 1, false)]⟩
noncomputable def ti81 :TI:=⟨TypeDesc.slice 84,1,24, .slice none 0 0,[]⟩
noncomputable def ti84 : TI := ⟨TypeDesc.struct #[{ name := "kind", type := 3, offset := 0, embedded := false, tag := "", pkgPath := "warehouse/warehouseref9", byteOffset := 0 }, { name := "nullable", type := 4, offset := 1, embedded := false, tag := "", pkgPath := "warehouse/warehouseref9", byteOffset := 8 }], 2, 16, .agg #[.int .i64 0, .bool false], [(0, 1, false), (1, 1, false)]⟩
noncomputable def ti88 : TI := ⟨TypeDesc.struct #[{ name := "At", type := 3, offset := 0, embedded := false, tag := "", pkgPath := "", byteOffset := 0 }, { name := "Offset", type := 3, offset := 1, embedded := false, tag := "", pkgPath := "", byteOffset := 8 }], 2, 16, .agg #[.int .i64 0, .int .i64 0], [(0, 1, false), (1, 1, false)]⟩
noncomputable def ti97 :TI:=⟨TypeDesc.func #[63,63] #[3] false,1,8, .nilFunc,[]⟩
noncomputable def yzu :TI:=⟨TypeDesc.slice 25,1,24, .slice none 0 0,[]⟩
noncomputable def yzv :TI:=⟨TypeDesc.slice 123,1,24, .slice none 0 0,[]⟩
noncomputable def yzw : TI := ⟨TypeDesc.struct #[{ name := "Kind", type := 3, offset := 0, embedded := false, tag := "", pkgPath := "", byteOffset := 0 }, { name := "Text", type := 9, offset := 1, embedded := false, tag := "", pkgPath := "", byteOffset := 8 }, { name := "Num", type := 3, offset := 2, embedded := false, tag := "", pkgPath := "", byteOffset := 24 }, { name := "At", type := 3, offset := 3, embedded := false, tag := "", pkgPath := "", byteOffset := 32 }], 4, 40, .agg #[.int .i64 0, .string ⟨#[]⟩, .int .i64 0, .int .i64 0], [(0, 1, false), (1, 1, false), (2, 1, false), (3, 1, false)]⟩
noncomputable def yzx :TI:=⟨TypeDesc.slice 27,1,24, .slice none 0 0,[]⟩
noncomputable def yzy :TI:=⟨TypeDesc.func #[31] #[4] false,1,8, .nilFunc,[]⟩
noncomputable def yzz :TI:=⟨TypeDesc.func #[65] #[4] false,1,8, .nilFunc,[]⟩
noncomputable def yz0 :TI:=⟨TypeDesc.func #[46,46] #[3] false,1,8, .nilFunc,[]⟩
noncomputable def yz1 :TI:=⟨TypeDesc.pointer 148,1,8, .pointer none,[]⟩
noncomputable def yz2 : TI := ⟨TypeDesc.struct #[{ name := "tokens", type := 118, offset := 0, embedded := false, tag := "", pkgPath := "warehouse/query", byteOffset := 0 }, { name := "at", type := 3, offset := 1, embedded := false, tag := "", pkgPath := "warehouse/query", byteOffset := 24 }, { name := "err", type := 33, offset := 2, embedded := false, tag := "", pkgPath := "warehouse/query", byteOffset := 32 }], 3, 40, .agg #[.slice none 0 0, .int .i64 0, .int .i64 0], [(0, 1, false), (1, 1, false), (2, 1, false)]⟩
noncomputable def yz3 :TI:=⟨TypeDesc.map 9 173,1,8, .map none,[]⟩
noncomputable def yz4 :TI:=⟨TypeDesc.func #[] #[44] false,1,8, .nilFunc,[]⟩
noncomputable def yz5 :TI:=⟨TypeDesc.slice 5,1,24, .slice none 0 0,[]⟩
noncomputable def yz6 :TI:=⟨TypeDesc.func #[] #[25] false,1,8, .nilFunc,[]⟩
noncomputable def yz7 :TI:=⟨TypeDesc.func #[] #[33] false,1,8, .nilFunc,[]⟩
noncomputable def yz8 :TI:=⟨TypeDesc.func #[40] #[33] false,1,8, .nilFunc,[]⟩
noncomputable def yz9 :TI:=⟨TypeDesc.func #[56] #[4] false,1,8, .nilFunc,[]⟩
noncomputable def Yaa :TI:=⟨TypeDesc.func #[40] #[56,33] false,1,8, .nilFunc,[]⟩
noncomputable def Yab :TI:=⟨TypeDesc.map 9 29,1,8, .map none,[]⟩
noncomputable def Yac :TI:=⟨TypeDesc.slice 226,1,24, .slice none 0 0,[]⟩
noncomputable def Yad : TI := ⟨TypeDesc.struct #[{ name := "key", type := 63, offset := 0, embedded := false, tag := "", pkgPath := "warehouse/evaluate", byteOffset := 0 }, { name := "rows", type := 29, offset := 1, embedded := false, tag := "", pkgPath := "warehouse/evaluate", byteOffset := 24 }], 2, 48, .agg #[.slice none 0 0, .slice none 0 0], [(0, 1, false), (1, 1, false)]⟩
noncomputable def Yae : TI := ⟨TypeDesc.struct #[{ name := "Rows", type := 3, offset := 0, embedded := false, tag := "", pkgPath := "", byteOffset := 0 }, { name := "Values", type := 29, offset := 1, embedded := false, tag := "", pkgPath := "", byteOffset := 8 }], 2, 32, .agg #[.int .i64 0, .slice none 0 0], [(0, 1, false), (1, 1, false)]⟩
noncomputable def Yaf :TI:=⟨TypeDesc.map 9 3,1,8, .map none,[]⟩
noncomputable def Yag : TI := ⟨TypeDesc.struct #[{ name := "source", type := 4, offset := 0, embedded := false, tag := "", pkgPath := "warehouse/query", byteOffset := 0 }, { name := "names", type := 4, offset := 1, embedded := false, tag := "", pkgPath := "warehouse/query", byteOffset := 1 }, { name := "others", type := 4, offset := 2, embedded := false, tag := "", pkgPath := "warehouse/query", byteOffset := 2 }, { name := "items", type := 4, offset := 3, embedded := false, tag := "", pkgPath := "warehouse/query", byteOffset := 3 }, { name := "cond", type := 4, offset := 4, embedded := false, tag := "", pkgPath := "warehouse/query", byteOffset := 4 }], 5, 5, .agg #[.bool false, .bool false, .bool false, .bool false, .bool false], [(0, 1, false), (1, 1, false), (2, 1, false), (3, 1, false), (4, 1, false)]⟩
noncomputable def Yah :TI:=⟨TypeDesc.array 13 243,65,65, .agg #[.bool false, .bool false, .bool false, .bool false, .bool false, .bool false, .bool false, .bool false, .bool false, .bool false, .bool false, .bool false, .bool false, .bool false, .bool false, .bool false, .bool false, .bool false, .bool false, .bool false, .bool false, .bool false, .bool false, .bool false, .bool false, .bool false, .bool false, .bool false, .bool false, .bool false, .bool false, .bool false, .bool false, .bool false, .bool false, .bool false, .bool false, .bool false, .bool false, .bool false, .bool false, .bool false, .bool false, .bool false, .bool false, .bool false, .bool false, .bool false, .bool false, .bool false, .bool false, .bool false, .bool false, .bool false, .bool false, .bool false, .bool false, .bool false, .bool false, .bool false, .bool false, .bool false, .bool false, .bool false, .bool false],[]⟩
noncomputable def Yai :TI:=⟨TypeDesc.slice 193,1,24, .slice none 0 0,[]⟩
noncomputable def Yaj :TI:=⟨TypeDesc.func #[40] #[4] false,1,8, .nilFunc,[]⟩
noncomputable def Yak :TI:=⟨TypeDesc.func #[56,56] #[4] false,1,8, .nilFunc,[]⟩
noncomputable def Yal :TI:=⟨TypeDesc.map 9 46,1,8, .map none,[]⟩
noncomputable def Yam :TI:=⟨TypeDesc.func #[65,65] #[3] false,1,8, .nilFunc,[]⟩
noncomputable def Yan :TI:=⟨TypeDesc.map 9 240,1,8, .map none,[]⟩
noncomputable def Yao :TI:=⟨TypeDesc.slice 63,1,24, .slice none 0 0,[]⟩
noncomputable def Yap :TI:=⟨TypeDesc.slice 261,1,24, .slice none 0 0,[]⟩
noncomputable def Yaq :TI:=⟨TypeDesc.array 12 3,12,96, .agg #[.int .i64 0, .int .i64 0, .int .i64 0, .int .i64 0, .int .i64 0, .int .i64 0, .int .i64 0, .int .i64 0, .int .i64 0, .int .i64 0, .int .i64 0, .int .i64 0],[]⟩
noncomputable def Yar :TI:=⟨TypeDesc.pointer 277,1,8, .pointer none,[]⟩
noncomputable def Yas : TI := ⟨TypeDesc.struct #[{ name := "tokens", type := 118, offset := 0, embedded := false, tag := "", pkgPath := "warehouse/expr", byteOffset := 0 }, { name := "at", type := 3, offset := 1, embedded := false, tag := "", pkgPath := "warehouse/expr", byteOffset := 24 }, { name := "depth", type := 3, offset := 2, embedded := false, tag := "", pkgPath := "warehouse/expr", byteOffset := 32 }, { name := "err", type := 33, offset := 3, embedded := false, tag := "", pkgPath := "warehouse/expr", byteOffset := 40 }], 4, 48, .agg #[.slice none 0 0, .int .i64 0, .int .i64 0, .int .i64 0], [(0, 1, false), (1, 1, false), (2, 1, false), (3, 1, false)]⟩
noncomputable def Yat :TI:=⟨TypeDesc.slice 282,1,24, .slice none 0 0,[]⟩
noncomputable def Yau : TI := ⟨TypeDesc.struct #[{ name := "kind", type := 3, offset := 0, embedded := false, tag := "", pkgPath := "warehouse/scalar", byteOffset := 0 }, { name := "null", type := 4, offset := 1, embedded := false, tag := "", pkgPath := "warehouse/scalar", byteOffset := 8 }], 2, 16, .agg #[.int .i64 0, .bool false], [(0, 1, false), (1, 1, false)]⟩
noncomputable def Yav :TI:=⟨TypeDesc.slice 322,1,24, .slice none 0 0,[]⟩
noncomputable def Yaw :TI:=⟨TypeDesc.func #[80] #[4] false,1,8, .nilFunc,[]⟩
noncomputable def Yax :TI:=⟨TypeDesc.func #[282] #[4] false,1,8, .nilFunc,[]⟩
noncomputable def Yay :TI:=⟨TypeDesc.int IntKind.i64,1,8, .int .i64 0,[]⟩
noncomputable def Yaz :TI:=⟨TypeDesc.int IntKind.u32,1,4, .int .u32 0,[]⟩
noncomputable def Ya0 :TI:=⟨TypeDesc.int IntKind.u64,1,8, .int .u64 0,[]⟩
noncomputable def Ya1 : TI := ⟨TypeDesc.struct #[{ name := "kind", type := 3, offset := 0, embedded := false, tag := "", pkgPath := "warehouse/expr", byteOffset := 0 }, { name := "operators", type := 240, offset := 1, embedded := false, tag := "", pkgPath := "warehouse/expr", byteOffset := 8 }], 2, 16, .agg #[.int .i64 0, .map none], [(0, 1, false), (1, 1, false)]⟩
noncomputable def Ya2 : TI := ⟨TypeDesc.struct #[{ name := "op", type := 3, offset := 0, embedded := false, tag := "", pkgPath := "warehouse/expr", byteOffset := 0 }, { name := "turns", type := 4, offset := 1, embedded := false, tag := "", pkgPath := "warehouse/expr", byteOffset := 8 }], 2, 16, .agg #[.int .i64 0, .bool false], [(0, 1, false), (1, 1, false)]⟩
noncomputable def Ya3 :TI:=⟨TypeDesc.map 9 341,1,8, .map none,[]⟩
noncomputable def xTy :Tr TI:=(.node (.node (.node (.node (.node (.node (.node .leaf (some ti63) (.node (.node .leaf (some Ya0) .leaf) none .leaf)) (some ti31) (.node .leaf none (.node .leaf (some Yac) .leaf))) none (.node (.node (.node (.node .leaf (some Yap) .leaf) none .leaf) none .leaf) none .leaf)) none (.node (.node (.node (.node .leaf (some yz0) .leaf) none .leaf) none .leaf) (some ti23) (.node (.node .leaf none (.node (.node .leaf (some Ya3) .leaf) none .leaf)) none (.node .leaf none (.node .leaf (some Yaj) .leaf))))) (some ti3) (.node (.node .leaf none (.node (.node (.node (.node .leaf (some Yar) .leaf) none .leaf) none .leaf) none (.node .leaf none (.node .leaf (some Yag) .leaf)))) none (.node (.node .leaf none (.node (.node (.node .leaf (some Yav) .leaf) none .leaf) none .leaf)) (some ti27) (.node .leaf none (.node .leaf (some yzw) (.node .leaf (some Yal) .leaf)))))) (some ti1) (.node (.node (.node (.node (.node (.node (.node .leaf (some Yam) .leaf) (some yzy) .leaf) (some ti65) (.node .leaf (some yz7) .leaf)) (some ti33) (.node .leaf (some ti97) .leaf)) none (.node (.node .leaf (some ti81) .leaf) none .leaf)) (some ti9) (.node (.node .leaf (some ti41) .leaf) (some ti25) (.node .leaf (some ti57) (.node (.node .leaf (some yz5) .leaf) none .leaf)))) (some ti5) (.node (.node (.node (.node (.node (.node .leaf (some Yao) .leaf) (some yzz) .leaf) none .leaf) none .leaf) (some ti21) (.node (.node (.node (.node .leaf (some Yas) .leaf) none .leaf) none (.node (.node .leaf (some Ya2) .leaf) none .leaf)) none (.node .leaf none (.node .leaf (some Yai) .leaf)))) none (.node (.node .leaf none (.node (.node .leaf (some yz4) .leaf) none .leaf)) (some ti29) (.node .leaf none (.node (.node (.node .leaf (some Yaz) .leaf) none .leaf) none .leaf)))))) none (.node (.node (.node (.node (.node .leaf (some ti32) .leaf) none (.node (.node .leaf (some ti80) (.node .leaf (some Yaa) .leaf)) (some ti48) (.node (.node (.node .leaf (some Yax) .leaf) none .leaf) none (.node .leaf (some Yaf) .leaf)))) none (.node (.node .leaf (some ti40) (.node .leaf (some yzu) .leaf)) none (.node (.node (.node (.node .leaf (some Yat) .leaf) none .leaf) (some ti88) .leaf) (some ti56) .leaf))) (some ti4) (.node (.node (.node .leaf (some ti36) (.node .leaf none (.node .leaf (some Yae) .leaf))) none (.node (.node (.node .leaf (some yz2) .leaf) (some ti84) .leaf) none (.node .leaf none (.node .leaf (some Yah) .leaf)))) none (.node (.node .leaf (some ti44) .leaf) (some ti28) (.node .leaf none (.node (.node .leaf (some yz6) .leaf) (some yzx) .leaf))))) none (.node (.node (.node (.node (.node (.node (.node .leaf (some Yan) .leaf) none .leaf) none (.node (.node .leaf (some Ya1) .leaf) none .leaf)) none (.node .leaf none (.node .leaf (some Yad) .leaf))) none (.node (.node (.node (.node .leaf (some Yaq) .leaf) (some yz1) .leaf) none .leaf) none .leaf)) none (.node (.node (.node .leaf none (.node .leaf (some yz9) .leaf)) (some ti42) (.node (.node .leaf (some yz3) .leaf) none .leaf)) none (.node (.node (.node (.node .leaf (some Yau) .leaf) none .leaf) none (.node .leaf (some Yab) .leaf)) none (.node .leaf none (.node .leaf (some Yak) .leaf))))) none (.node (.node (.node (.node .leaf none (.node .leaf (some yz8) .leaf)) none .leaf) (some ti22) (.node .leaf none (.node (.node (.node .leaf (some Yay) .leaf) none .leaf) (some yzv) .leaf))) none (.node (.node (.node .leaf (some ti78) .leaf) (some ti46) (.node (.node (.node .leaf (some Yaw) .leaf) none .leaf) none .leaf)) none .leaf)))))
noncomputable def xFn :Tr Func:=(.node (.node (.node (.node (.node (.node (.node (.node (.node .leaf (some Tryz.f255) .leaf) (some Tryz.f127) .leaf) (some Tryz.f63) (.node .leaf (some Tryz.f191) .leaf)) (some Tryz.f31) (.node (.node (.node .leaf (some Tryz.f287) .leaf) (some Tryz.f159) .leaf) (some Tryz.f95) (.node .leaf (some Tryz.f223) .leaf))) (some Tryz.f15) (.node (.node (.node (.node .leaf (some Tryz.f271) .leaf) (some Tryz.f143) .leaf) (some Tryz.f79) (.node .leaf (some Tryz.f207) .leaf)) (some Tryz.f47) (.node (.node (.node .leaf (some Tryz.f303) .leaf) (some Tryz.f175) .leaf) (some Tryz.f111) (.node .leaf (some Tryz.f239) .leaf)))) (some Tryz.f7) (.node (.node (.node (.node (.node .leaf (some Tryz.f263) .leaf) (some Tryz.f135) .leaf) (some Tryz.f71) (.node (.node .leaf (some Tryz.f327) .leaf) (some Tryz.f199) .leaf)) (some Tryz.f39) (.node (.node (.node .leaf (some Tryz.f295) .leaf) (some Tryz.f167) .leaf) (some Tryz.f103) (.node (.node .leaf (some Tryz.f359) .leaf) (some Tryz.f231) .leaf))) (some Tryz.f23) (.node (.node (.node (.node .leaf (some Tryz.f279) .leaf) (some Tryz.f151) .leaf) (some Tryz.f87) (.node .leaf (some Tryz.f215) .leaf)) (some Tryz.f55) (.node (.node (.node .leaf (some Tryz.f311) .leaf) (some Tryz.f183) .leaf) (some Tryz.f119) (.node .leaf (some Tryz.f247) .leaf))))) (some Tryz.f3) (.node (.node (.node (.node (.node (.node .leaf (some Tryz.f259) .leaf) (some Tryz.f131) .leaf) (some Tryz.f67) (.node .leaf (some Tryz.f195) .leaf)) (some Tryz.f35) (.node (.node (.node .leaf (some Tryz.f291) .leaf) (some Tryz.f163) .leaf) (some Tryz.f99) (.node (.node .leaf (some Tryz.f355) .leaf) (some Tryz.f227) .leaf))) (some Tryz.f19) (.node (.node (.node (.node .leaf (some Tryz.f275) .leaf) (some Tryz.f147) .leaf) (some Tryz.f83) (.node .leaf (some Tryz.f211) .leaf)) (some Tryz.f51) (.node (.node (.node .leaf (some Tryz.f307) .leaf) (some Tryz.f179) .leaf) (some Tryz.f115) (.node .leaf (some Tryz.f243) .leaf)))) (some Tryz.f11) (.node (.node (.node (.node (.node .leaf (some Tryz.f267) .leaf) (some Tryz.f139) .leaf) (some Tryz.f75) (.node (.node .leaf (some Tryz.f331) .leaf) (some Tryz.f203) .leaf)) (some Tryz.f43) (.node (.node (.node .leaf (some Tryz.f299) .leaf) (some Tryz.f171) .leaf) (some Tryz.f107) (.node .leaf (some Tryz.f235) .leaf))) (some Tryz.f27) (.node (.node (.node (.node .leaf (some Tryz.f283) .leaf) (some Tryz.f155) .leaf) (some Tryz.f91) (.node (.node .leaf (some Tryz.f347) .leaf) (some Tryz.f219) .leaf)) (some Tryz.f59) (.node (.node .leaf (some Tryz.f187) .leaf) (some Tryz.f123) (.node .leaf (some Tryz.f251) .leaf)))))) none (.node (.node (.node (.node (.node (.node (.node .leaf (some Tryz.f257) .leaf) (some Tryz.f129) .leaf) (some Tryz.f65) (.node .leaf (some Tryz.f193) .leaf)) (some Tryz.f33) (.node (.node (.node .leaf (some Tryz.f289) .leaf) (some Tryz.f161) .leaf) (some Tryz.f97) (.node (.node .leaf (some Tryz.f353) .leaf) (some Tryz.f225) .leaf))) (some Tryz.f17) (.node (.node (.node (.node .leaf (some Tryz.f273) .leaf) (some Tryz.f145) .leaf) (some Tryz.f81) (.node .leaf (some Tryz.f209) .leaf)) (some Tryz.f49) (.node (.node (.node .leaf (some Tryz.f305) .leaf) (some Tryz.f177) .leaf) (some Tryz.f113) (.node .leaf (some Tryz.f241) .leaf)))) (some Tryz.f9) (.node (.node (.node (.node (.node .leaf (some Tryz.f265) .leaf) (some Tryz.f137) .leaf) (some Tryz.f73) (.node (.node .leaf (some Tryz.f329) .leaf) (some Tryz.f201) .leaf)) (some Tryz.f41) (.node (.node (.node .leaf (some Tryz.f297) .leaf) (some Tryz.f169) .leaf) (some Tryz.f105) (.node .leaf (some Tryz.f233) .leaf))) (some Tryz.f25) (.node (.node (.node (.node .leaf (some Tryz.f281) .leaf) (some Tryz.f153) .leaf) (some Tryz.f89) (.node .leaf (some Tryz.f217) .leaf)) (some Tryz.f57) (.node (.node .leaf (some Tryz.f185) .leaf) (some Tryz.f121) (.node .leaf (some Tryz.f249) .leaf))))) (some Tryz.f5) (.node (.node (.node (.node (.node (.node .leaf (some Tryz.f261) .leaf) (some Tryz.f133) .leaf) (some Tryz.f69) (.node .leaf (some Tryz.f197) .leaf)) (some Tryz.f37) (.node (.node (.node .leaf (some Tryz.f293) .leaf) (some Tryz.f165) .leaf) (some Tryz.f101) (.node .leaf (some Tryz.f229) .leaf))) (some Tryz.f21) (.node (.node (.node (.node .leaf (some Tryz.f277) .leaf) (some Tryz.f149) .leaf) (some Tryz.f85) (.node .leaf (some Tryz.f213) .leaf)) (some Tryz.f53) (.node (.node (.node .leaf (some Tryz.f309) .leaf) (some Tryz.f181) .leaf) (some Tryz.f117) (.node .leaf (some Tryz.f245) .leaf)))) (some Tryz.f13) (.node (.node (.node (.node (.node .leaf (some Tryz.f269) .leaf) (some Tryz.f141) .leaf) (some Tryz.f77) (.node .leaf (some Tryz.f205) .leaf)) (some Tryz.f45) (.node (.node (.node .leaf (some Tryz.f301) .leaf) (some Tryz.f173) .leaf) (some Tryz.f109) (.node .leaf (some Tryz.f237) .leaf))) (some Tryz.f29) (.node (.node (.node (.node .leaf (some Tryz.f285) .leaf) (some Tryz.f157) .leaf) (some Tryz.f93) (.node .leaf (some Tryz.f221) .leaf)) (some Tryz.f61) (.node (.node .leaf (some Tryz.f189) .leaf) (some Tryz.f125) (.node .leaf (some Tryz.f253) .leaf))))))) none (.node (.node (.node (.node (.node (.node (.node (.node .leaf (some Tryz.f256) .leaf) (some Tryz.f128) .leaf) (some Tryz.f64) (.node .leaf (some Tryz.f192) .leaf)) (some Tryz.f32) (.node (.node (.node .leaf (some Tryz.f288) .leaf) (some Tryz.f160) .leaf) (some Tryz.f96) (.node .leaf (some Tryz.f224) .leaf))) (some Tryz.f16) (.node (.node (.node (.node .leaf (some Tryz.f272) .leaf) (some Tryz.f144) .leaf) (some Tryz.f80) (.node .leaf (some Tryz.f208) .leaf)) (some Tryz.f48) (.node (.node (.node .leaf (some Tryz.f304) .leaf) (some Tryz.f176) .leaf) (some Tryz.f112) (.node .leaf (some Tryz.f240) .leaf)))) (some Tryz.f8) (.node (.node (.node (.node (.node .leaf (some Tryz.f264) .leaf) (some Tryz.f136) .leaf) (some Tryz.f72) (.node (.node .leaf (some Tryz.f328) .leaf) (some Tryz.f200) .leaf)) (some Tryz.f40) (.node (.node (.node .leaf (some Tryz.f296) .leaf) (some Tryz.f168) .leaf) (some Tryz.f104) (.node (.node .leaf (some Tryz.f360) .leaf) (some Tryz.f232) .leaf))) (some Tryz.f24) (.node (.node (.node (.node .leaf (some Tryz.f280) .leaf) (some Tryz.f152) .leaf) (some Tryz.f88) (.node .leaf (some Tryz.f216) .leaf)) (some Tryz.f56) (.node (.node .leaf (some Tryz.f184) .leaf) (some Tryz.f120) (.node .leaf (some Tryz.f248) .leaf))))) (some Tryz.f4) (.node (.node (.node (.node (.node (.node .leaf (some Tryz.f260) .leaf) (some Tryz.f132) .leaf) (some Tryz.f68) (.node .leaf (some Tryz.f196) .leaf)) (some Tryz.f36) (.node (.node (.node .leaf (some Tryz.f292) .leaf) (some Tryz.f164) .leaf) (some Tryz.f100) (.node (.node .leaf (some Tryz.f356) .leaf) (some Tryz.f228) .leaf))) (some Tryz.f20) (.node (.node (.node (.node .leaf (some Tryz.f276) .leaf) (some Tryz.f148) .leaf) (some Tryz.f84) (.node .leaf (some Tryz.f212) .leaf)) (some Tryz.f52) (.node (.node (.node .leaf (some Tryz.f308) .leaf) (some Tryz.f180) .leaf) (some Tryz.f116) (.node .leaf (some Tryz.f244) .leaf)))) (some Tryz.f12) (.node (.node (.node (.node (.node .leaf (some Tryz.f268) .leaf) (some Tryz.f140) .leaf) (some Tryz.f76) (.node .leaf (some Tryz.f204) .leaf)) (some Tryz.f44) (.node (.node (.node .leaf (some Tryz.f300) .leaf) (some Tryz.f172) .leaf) (some Tryz.f108) (.node .leaf (some Tryz.f236) .leaf))) (some Tryz.f28) (.node (.node (.node (.node .leaf (some Tryz.f284) .leaf) (some Tryz.f156) .leaf) (some Tryz.f92) (.node (.node .leaf (some Tryz.f348) .leaf) (some Tryz.f220) .leaf)) (some Tryz.f60) (.node (.node .leaf (some Tryz.f188) .leaf) (some Tryz.f124) (.node .leaf (some Tryz.f252) .leaf)))))) none (.node (.node (.node (.node (.node (.node (.node .leaf (some Tryz.f258) .leaf) (some Tryz.f130) .leaf) (some Tryz.f66) (.node .leaf (some Tryz.f194) .leaf)) (some Tryz.f34) (.node (.node (.node .leaf (some Tryz.f290) .leaf) (some Tryz.f162) .leaf) (some Tryz.f98) (.node (.node .leaf (some Tryz.f354) .leaf) (some Tryz.f226) .leaf))) (some Tryz.f18) (.node (.node (.node (.node .leaf (some Tryz.f274) .leaf) (some Tryz.f146) .leaf) (some Tryz.f82) (.node .leaf (some Tryz.f210) .leaf)) (some Tryz.f50) (.node (.node (.node .leaf (some Tryz.f306) .leaf) (some Tryz.f178) .leaf) (some Tryz.f114) (.node .leaf (some Tryz.f242) .leaf)))) (some Tryz.f10) (.node (.node (.node (.node (.node .leaf (some Tryz.f266) .leaf) (some Tryz.f138) .leaf) (some Tryz.f74) (.node (.node .leaf (some Tryz.f330) .leaf) (some Tryz.f202) .leaf)) (some Tryz.f42) (.node (.node (.node .leaf (some Tryz.f298) .leaf) (some Tryz.f170) .leaf) (some Tryz.f106) (.node .leaf (some Tryz.f234) .leaf))) (some Tryz.f26) (.node (.node (.node (.node .leaf (some Tryz.f282) .leaf) (some Tryz.f154) .leaf) (some Tryz.f90) (.node (.node .leaf (some Tryz.f346) .leaf) (some Tryz.f218) .leaf)) (some Tryz.f58) (.node (.node .leaf (some Tryz.f186) .leaf) (some Tryz.f122) (.node .leaf (some Tryz.f250) .leaf))))) (some Tryz.f6) (.node (.node (.node (.node (.node (.node .leaf (some Tryz.f262) .leaf) (some Tryz.f134) .leaf) (some Tryz.f70) (.node (.node .leaf (some Tryz.f326) .leaf) (some Tryz.f198) .leaf)) (some Tryz.f38) (.node (.node (.node .leaf (some Tryz.f294) .leaf) (some Tryz.f166) .leaf) (some Tryz.f102) (.node (.node .leaf (some Tryz.f358) .leaf) (some Tryz.f230) .leaf))) (some Tryz.f22) (.node (.node (.node (.node .leaf (some Tryz.f278) .leaf) (some Tryz.f150) .leaf) (some Tryz.f86) (.node .leaf (some Tryz.f214) .leaf)) (some Tryz.f54) (.node (.node (.node .leaf (some Tryz.f310) .leaf) (some Tryz.f182) .leaf) (some Tryz.f118) (.node .leaf (some Tryz.f246) .leaf)))) (some Tryz.f14) (.node (.node (.node (.node (.node .leaf (some Tryz.f270) .leaf) none .leaf) (some Tryz.f78) (.node .leaf (some Tryz.f206) .leaf)) (some Tryz.f46) (.node (.node (.node .leaf (some Tryz.f302) .leaf) (some Tryz.f174) .leaf) (some Tryz.f110) (.node .leaf (some Tryz.f238) .leaf))) (some Tryz.f30) (.node (.node (.node (.node .leaf (some Tryz.f286) .leaf) (some Tryz.f158) .leaf) (some Tryz.f94) (.node .leaf (some Tryz.f222) .leaf)) (some Tryz.f62) (.node (.node .leaf (some Tryz.f190) .leaf) (some Tryz.f126) (.node .leaf (some Tryz.f254) .leaf))))))))
def yfc (P:Program):List Field->List (Nat × Nat × Bool)->Bool
 | [],[]=>true
 |f::l,(off,sz,ag)::m=>Nat.beq f.offset off&&(match P.info? f.type with|some g=>Nat.beq g.size sz|none=>false)&&(match P.underlying f.type with|some d=>yi1 d==ag|none=>false)&&yfc P l m
 |_,_=>false
theorem zd0 {P:Program}: ∀ (l:List Field) (m:List (Nat × Nat × Bool)),yfc P l m=true->l.length=m.length/\ ∀ (k:Nat) (f:Field),l[k]?=some f-> ∃ sz ag d g,m[k]?=some (f.offset,sz,ag)/\P.underlying f.type=some d/\yi1 d=ag/\P.info? f.type=some g/\g.size=sz
 | [],[],_=>⟨rfl,fun k f h=>by simp at h⟩
 | [],_::_,h=>by cases h
 |_::_,[],h=>by cases h
 |f::l,(off,sz,ag)::m,h=>by
  simp only [yfc,Bool.and_eq_true] at h
  obtain ⟨⟨⟨h1,h2⟩,h3⟩,h4⟩:=h
  obtain ⟨k1,k2⟩:=zd0 l m h4
  refine ⟨by simp [k1],fun k f' hk=>?_⟩
  cases k with
  |succ k=>
   obtain ⟨sz,ag,d,g,j⟩:=k2 k f' (by simpa using hk)
   exact ⟨sz,ag,d,g,by simpa using j⟩
  |zero=>
   simp at hk
   subst hk
   have h1:=qU h1
   subst h1
   cases hi:P.info? f.type with
   |none=>rw [hi] at h2;cases h2
   |some g=>
    rw [hi] at h2
    have h2:=qU h2
    cases hd:P.underlying f.type with
    |none=>rw [hd] at h3;cases h3
    |some d=>
     rw [hd] at h3
     exact ⟨sz,ag,d,g,rfl,rfl,eq_of_beq h3,rfl,h2⟩
theorem zaj {P:Program}{t:TypeId}{i:TI}(hu:P.underlying t=some i.desc)(hi:(P.info? t).map (fun x=>(x.zero,x.size,x.bytes))=some (some i.zero,i.size,i.bytes))(hz:Nat.beq i.zero.cells.size i.size=true)
 (hf:(match i.desc with| .struct fs=>yfc P fs.toList i.flds|_=>true)=true):TyOk P t i:=by
 have key: ∀ fs,i.desc= .struct fs->yfc P fs.toList i.flds=true:=fun fs e=>by rw [e] at hf;exact hf
 refine ⟨hu,?_,qU hz,fun fs e k f hk=>?_,fun fs e=>?_⟩
 ·cases hx:P.info? t with
  |none=>rw [hx] at hi;cases hi
  |some f=>
   rw [hx] at hi
   simp only [Option.map_some,Option.some.injEq,Prod.mk.injEq] at hi
   exact ⟨f,rfl,hi.1,hi.2.1,hi.2.2⟩
 ·exact (zd0 _ _ (key fs e)).2 k f (by simpa using hk)
 ·have:=(zd0 _ _ (key fs e)).1
  simpa using this
def TrAll {α:Type}(p:Nat->α->Prop):(Nat->Nat)->Tr α->Prop
 |_, .leaf=>True
 |g, .node l v r=>(match v with|none=>True|some x=>p (g 0) x)/\TrAll p (fun k=>g (2*k+1)) l/\TrAll p (fun k=>g (2*k+2)) r
theorem TrAll.get {α:Type}{p:Nat->α->Prop}: ∀ {t:Tr α} {g:Nat->Nat} (_:TrAll p g t) {k:Nat} {x:α} (_:t.get k=some x),p (g k) x
 | .leaf,g,h,k,x,hx=>by rw [Tr.get_leaf] at hx;cases hx
 | .node l v r,g,h,k,x,hx=>by
  obtain ⟨h1,h2,h3⟩:=h
  rw [Tr.get_node] at hx
  split at hx
  ·rename_i e
   subst e
   rw [hx] at h1
   exact h1
  ·split at hx
   ·have:=TrAll.get h2 hx
    rwa [show 2*(k / 2)+1=k by omega] at this
   ·have:=TrAll.get h3 hx
    rwa [show 2*(k / 2 - 1)+2=k by omega] at this
def yaa (f : Nat)(x : Func) : Prop := Tryz.prog.funcs[f]? = some x /\ (x.name == "runtime.NumGoroutine") = false /\ ∃ c, x.body = some c
theorem tyo1 :TyOk Tryz.prog 1 ti1:=zaj Tryz.underlying1 qG qG qG
theorem tyo3 :TyOk Tryz.prog 3 ti3:=zaj Tryz.underlying3 qG qG qG
theorem tyo4 :TyOk Tryz.prog 4 ti4:=zaj Tryz.underlying4 qG qG qG
theorem tyo5 :TyOk Tryz.prog 5 ti5:=zaj Tryz.underlying5 qG qG qG
theorem tyo9 :TyOk Tryz.prog 9 ti9:=zaj Tryz.underlying9 qG qG qG
theorem Yh9 :TyOk Tryz.prog 21 ti21:=zaj Tryz.underlying21 qG qG qG
theorem Yia :TyOk Tryz.prog 22 ti22:=zaj Tryz.underlying22 qG qG qG
theorem Yib :TyOk Tryz.prog 23 ti23:=zaj Tryz.underlying23 qG qG qG
theorem Yic :TyOk Tryz.prog 25 ti25:=zaj Tryz.underlying25 qG qG qG
theorem Yid :TyOk Tryz.prog 27 ti27:=zaj Tryz.underlying27 qG qG qG
theorem Yie :TyOk Tryz.prog 28 ti28:=zaj Tryz.underlying28 qG qG qG
theorem Yif :TyOk Tryz.prog 29 ti29:=zaj Tryz.underlying29 qG qG qG
theorem Yig :TyOk Tryz.prog 31 ti31:=zaj Tryz.underlying31 qG qG qG
theorem Yih :TyOk Tryz.prog 32 ti32:=zaj Tryz.underlying32 qG qG qG
theorem Yii :TyOk Tryz.prog 33 ti33:=zaj Tryz.underlying33 qG qG qG
theorem Yij :TyOk Tryz.prog 36 ti36:=zaj Tryz.underlying36 qG qG qG
theorem Yik :TyOk Tryz.prog 40 ti40:=zaj Tryz.underlying40 qG qG qG
theorem Yil :TyOk Tryz.prog 41 ti41:=zaj Tryz.underlying41 qG qG qG
theorem Yim :TyOk Tryz.prog 42 ti42:=zaj Tryz.underlying42 qG qG qG
theorem Yin :TyOk Tryz.prog 44 ti44:=zaj Tryz.underlying44 qG qG qG
theorem Yio :TyOk Tryz.prog 46 ti46:=zaj Tryz.underlying46 qG qG qG
theorem Yip :TyOk Tryz.prog 48 ti48:=zaj Tryz.underlying48 qG qG qG
theorem Yiq :TyOk Tryz.prog 56 ti56:=zaj Tryz.underlying56 qG qG qG
theorem Yir :TyOk Tryz.prog 57 ti57:=zaj Tryz.underlying57 qG qG qG
theorem Yis :TyOk Tryz.prog 63 ti63:=zaj Tryz.underlying63 qG qG qG
theorem Yit :TyOk Tryz.prog 65 ti65:=zaj Tryz.underlying65 qG qG qG
theorem Yiu :TyOk Tryz.prog 78 ti78:=zaj Tryz.underlying78 qG qG qG
theorem Yiv :TyOk Tryz.prog 80 ti80:=zaj Tryz.underlying80 qG qG qG
theorem Yiw :TyOk Tryz.prog 81 ti81:=zaj Tryz.underlying81 qG qG qG
theorem Yix :TyOk Tryz.prog 84 ti84:=zaj Tryz.underlying84 qG qG qG
theorem Yiy :TyOk Tryz.prog 88 ti88:=zaj Tryz.underlying88 qG qG qG
theorem Yiz :TyOk Tryz.prog 97 ti97:=zaj Tryz.underlying97 qG qG qG
theorem Ya8 :TyOk Tryz.prog 104 yzu:=zaj Tryz.underlying104 qG qG qG
theorem Ya9 :TyOk Tryz.prog 118 yzv:=zaj Tryz.underlying118 qG qG qG
theorem Yba :TyOk Tryz.prog 123 yzw:=zaj Tryz.underlying123 qG qG qG
theorem Ybb :TyOk Tryz.prog 124 yzx:=zaj Tryz.underlying124 qG qG qG
theorem Ybc :TyOk Tryz.prog 129 yzy:=zaj Tryz.underlying129 qG qG qG
theorem Ybd :TyOk Tryz.prog 133 yzz:=zaj Tryz.underlying133 qG qG qG
theorem Ybe :TyOk Tryz.prog 135 yz0:=zaj Tryz.underlying135 qG qG qG
theorem Ybf :TyOk Tryz.prog 146 yz1:=zaj Tryz.underlying146 qG qG qG
theorem Ybg :TyOk Tryz.prog 148 yz2:=zaj Tryz.underlying148 qG qG qG
theorem Ybh :TyOk Tryz.prog 170 yz3:=zaj Tryz.underlying170 qG qG qG
theorem Ybi :TyOk Tryz.prog 173 yz4:=zaj Tryz.underlying173 qG qG qG
theorem Ybj :TyOk Tryz.prog 185 yz5:=zaj Tryz.underlying185 qG qG qG
theorem Ybk :TyOk Tryz.prog 188 yz6:=zaj Tryz.underlying188 qG qG qG
theorem Ybl :TyOk Tryz.prog 193 yz7:=zaj Tryz.underlying193 qG qG qG
theorem Ybm :TyOk Tryz.prog 198 yz8:=zaj Tryz.underlying198 qG qG qG
theorem Ybn :TyOk Tryz.prog 202 yz9:=zaj Tryz.underlying202 qG qG qG
theorem Ybo :TyOk Tryz.prog 208 Yaa:=zaj Tryz.underlying208 qG qG qG
theorem Ybp :TyOk Tryz.prog 218 Yab:=zaj Tryz.underlying218 qG qG qG
theorem Ybq :TyOk Tryz.prog 223 Yac:=zaj Tryz.underlying223 qG qG qG
theorem Ybr :TyOk Tryz.prog 226 Yad:=zaj Tryz.underlying226 qG qG qG
theorem Ybs :TyOk Tryz.prog 228 Yae:=zaj Tryz.underlying228 qG qG qG
theorem Ybt :TyOk Tryz.prog 240 Yaf:=zaj Tryz.underlying240 qG qG qG
theorem tyo243 :TyOk Tryz.prog 243 Yag:=zaj Tryz.underlying243 qG qG qG
theorem tyo244 :TyOk Tryz.prog 244 Yah:=zaj Tryz.underlying244 qG qG qG
theorem Ybu :TyOk Tryz.prog 245 Yai:=zaj Tryz.underlying245 qG qG qG
theorem Ybv :TyOk Tryz.prog 247 Yaj:=zaj Tryz.underlying247 qG qG qG
theorem Ybw :TyOk Tryz.prog 250 Yak:=zaj Tryz.underlying250 qG qG qG
theorem Ybx :TyOk Tryz.prog 251 Yal:=zaj Tryz.underlying251 qG qG qG
theorem Yby :TyOk Tryz.prog 257 Yam:=zaj Tryz.underlying257 qG qG qG
theorem Ybz :TyOk Tryz.prog 258 Yan:=zaj Tryz.underlying258 qG qG qG
theorem Yb0 :TyOk Tryz.prog 261 Yao:=zaj Tryz.underlying261 qG qG qG
theorem Yb1 :TyOk Tryz.prog 271 Yap:=zaj Tryz.underlying271 qG qG qG
theorem Yb2 :TyOk Tryz.prog 274 Yaq:=zaj Tryz.underlying274 qG qG qG
theorem Yb3 :TyOk Tryz.prog 275 Yar:=zaj Tryz.underlying275 qG qG qG
theorem Yb4 :TyOk Tryz.prog 277 Yas:=zaj Tryz.underlying277 qG qG qG
theorem Yb5 :TyOk Tryz.prog 280 Yat:=zaj Tryz.underlying280 qG qG qG
theorem Yb6 :TyOk Tryz.prog 282 Yau:=zaj Tryz.underlying282 qG qG qG
theorem Yb7 :TyOk Tryz.prog 299 Yav:=zaj Tryz.underlying299 qG qG qG
theorem Yb8 :TyOk Tryz.prog 302 Yaw:=zaj Tryz.underlying302 qG qG qG
theorem Yb9 :TyOk Tryz.prog 304 Yax:=zaj Tryz.underlying304 qG qG qG
theorem Yca :TyOk Tryz.prog 310 Yay:=zaj Tryz.underlying310 qG qG qG
theorem Ycb :TyOk Tryz.prog 317 Yaz:=zaj Tryz.underlying317 qG qG qG
theorem Ycc :TyOk Tryz.prog 319 Ya0:=zaj Tryz.underlying319 qG qG qG
theorem Ycd :TyOk Tryz.prog 322 Ya1:=zaj Tryz.underlying322 qG qG qG
theorem Yce :TyOk Tryz.prog 341 Ya2:=zaj Tryz.underlying341 qG qG qG
theorem Ycf :TyOk Tryz.prog 343 Ya3:=zaj Tryz.underlying343 qG qG qG
theorem Ycp :TrAll (fun t i=>TyOk Tryz.prog t i) (fun k=>k) xTy:=⟨trivial,⟨tyo1,⟨tyo3,⟨trivial,⟨trivial,⟨Yig,⟨Yis,trivial,⟨trivial,⟨Ycc,trivial,trivial⟩,trivial⟩⟩,⟨trivial,trivial,⟨Ybq,trivial,trivial⟩⟩⟩,⟨trivial,⟨trivial,⟨trivial,⟨Yb1,trivial,trivial⟩,trivial⟩,trivial⟩,trivial⟩⟩,⟨Yib,⟨trivial,⟨trivial,⟨Ybe,trivial,trivial⟩,trivial⟩,trivial⟩,⟨trivial,⟨trivial,trivial,⟨trivial,⟨Ycf,trivial,trivial⟩,trivial⟩⟩,⟨trivial,trivial,⟨Ybv,trivial,trivial⟩⟩⟩⟩⟩,⟨trivial,⟨trivial,trivial,⟨trivial,⟨trivial,⟨trivial,⟨Yb3,trivial,trivial⟩,trivial⟩,trivial⟩,⟨trivial,trivial,⟨tyo243,trivial,trivial⟩⟩⟩⟩,⟨Yid,⟨trivial,trivial,⟨trivial,⟨trivial,⟨Yb7,trivial,trivial⟩,trivial⟩,trivial⟩⟩,⟨trivial,trivial,⟨Yba,trivial,⟨Ybx,trivial,trivial⟩⟩⟩⟩⟩⟩,⟨tyo5,⟨tyo9,⟨trivial,⟨Yii,⟨Yit,⟨Ybc,⟨Yby,trivial,trivial⟩,trivial⟩,⟨Ybl,trivial,trivial⟩⟩,⟨Yiz,trivial,trivial⟩⟩,⟨trivial,⟨Yiw,trivial,trivial⟩,trivial⟩⟩,⟨Yic,⟨Yil,trivial,trivial⟩,⟨Yir,trivial,⟨trivial,⟨Ybj,trivial,trivial⟩,trivial⟩⟩⟩⟩,⟨trivial,⟨Yh9,⟨trivial,⟨trivial,⟨Ybd,⟨Yb0,trivial,trivial⟩,trivial⟩,trivial⟩,trivial⟩,⟨trivial,⟨trivial,⟨trivial,⟨Yb4,trivial,trivial⟩,trivial⟩,⟨trivial,⟨Yce,trivial,trivial⟩,trivial⟩⟩,⟨trivial,trivial,⟨Ybu,trivial,trivial⟩⟩⟩⟩,⟨Yif,⟨trivial,trivial,⟨trivial,⟨Ybi,trivial,trivial⟩,trivial⟩⟩,⟨trivial,trivial,⟨trivial,⟨trivial,⟨Ycb,trivial,trivial⟩,trivial⟩,trivial⟩⟩⟩⟩⟩⟩,⟨trivial,⟨tyo4,⟨trivial,⟨trivial,⟨Yih,trivial,trivial⟩,⟨Yip,⟨Yiv,trivial,⟨Ybo,trivial,trivial⟩⟩,⟨trivial,⟨trivial,⟨Yb9,trivial,trivial⟩,trivial⟩,⟨Ybt,trivial,trivial⟩⟩⟩⟩,⟨trivial,⟨Yik,trivial,⟨Ya8,trivial,trivial⟩⟩,⟨Yiq,⟨Yiy,⟨trivial,⟨Yb5,trivial,trivial⟩,trivial⟩,trivial⟩,trivial⟩⟩⟩,⟨trivial,⟨trivial,⟨Yij,trivial,⟨trivial,trivial,⟨Ybs,trivial,trivial⟩⟩⟩,⟨trivial,⟨Yix,⟨Ybg,trivial,trivial⟩,trivial⟩,⟨trivial,trivial,⟨tyo244,trivial,trivial⟩⟩⟩⟩,⟨Yie,⟨Yin,trivial,trivial⟩,⟨trivial,trivial,⟨Ybb,⟨Ybk,trivial,trivial⟩,trivial⟩⟩⟩⟩⟩,⟨trivial,⟨trivial,⟨trivial,⟨trivial,⟨trivial,⟨trivial,⟨Ybz,trivial,trivial⟩,trivial⟩,⟨trivial,⟨Ycd,trivial,trivial⟩,trivial⟩⟩,⟨trivial,trivial,⟨Ybr,trivial,trivial⟩⟩⟩,⟨trivial,⟨trivial,⟨Ybf,⟨Yb2,trivial,trivial⟩,trivial⟩,trivial⟩,trivial⟩⟩,⟨trivial,⟨Yim,⟨trivial,trivial,⟨Ybn,trivial,trivial⟩⟩,⟨trivial,⟨Ybh,trivial,trivial⟩,trivial⟩⟩,⟨trivial,⟨trivial,⟨trivial,⟨Yb6,trivial,trivial⟩,trivial⟩,⟨Ybp,trivial,trivial⟩⟩,⟨trivial,trivial,⟨Ybw,trivial,trivial⟩⟩⟩⟩⟩,⟨trivial,⟨Yia,⟨trivial,⟨trivial,trivial,⟨Ybm,trivial,trivial⟩⟩,trivial⟩,⟨trivial,trivial,⟨Ya9,⟨trivial,⟨Yca,trivial,trivial⟩,trivial⟩,trivial⟩⟩⟩,⟨trivial,⟨Yio,⟨Yiu,trivial,trivial⟩,⟨trivial,⟨trivial,⟨Yb8,trivial,trivial⟩,trivial⟩,trivial⟩⟩,trivial⟩⟩⟩⟩⟩
theorem fno3 :yaa 3 Tryz.f3:=⟨Tryz.func3,by kernel_rfl,_,rfl⟩
theorem fno4 :yaa 4 Tryz.f4:=⟨Tryz.func4,by kernel_rfl,_,rfl⟩
theorem fno5 :yaa 5 Tryz.f5:=⟨Tryz.func5,by kernel_rfl,_,rfl⟩
theorem fno6 :yaa 6 Tryz.f6:=⟨Tryz.func6,by kernel_rfl,_,rfl⟩
theorem fno7 :yaa 7 Tryz.f7:=⟨Tryz.func7,by kernel_rfl,_,rfl⟩
theorem fno8 :yaa 8 Tryz.f8:=⟨Tryz.func8,by kernel_rfl,_,rfl⟩
theorem fno9 :yaa 9 Tryz.f9:=⟨Tryz.func9,by kernel_rfl,_,rfl⟩
theorem Yev :yaa 10 Tryz.f10:=⟨Tryz.func10,by kernel_rfl,_,rfl⟩
theorem Yew :yaa 11 Tryz.f11:=⟨Tryz.func11,by kernel_rfl,_,rfl⟩
theorem Yex :yaa 12 Tryz.f12:=⟨Tryz.func12,by kernel_rfl,_,rfl⟩
theorem Yey :yaa 13 Tryz.f13:=⟨Tryz.func13,by kernel_rfl,_,rfl⟩
theorem Yez :yaa 14 Tryz.f14:=⟨Tryz.func14,by kernel_rfl,_,rfl⟩
theorem Ye0 :yaa 15 Tryz.f15:=⟨Tryz.func15,by kernel_rfl,_,rfl⟩
theorem Ye1 :yaa 16 Tryz.f16:=⟨Tryz.func16,by kernel_rfl,_,rfl⟩
theorem Ye2 :yaa 17 Tryz.f17:=⟨Tryz.func17,by kernel_rfl,_,rfl⟩
theorem Ye3 :yaa 18 Tryz.f18:=⟨Tryz.func18,by kernel_rfl,_,rfl⟩
theorem Ye4 :yaa 19 Tryz.f19:=⟨Tryz.func19,by kernel_rfl,_,rfl⟩
theorem Ye5 :yaa 20 Tryz.f20:=⟨Tryz.func20,by kernel_rfl,_,rfl⟩
theorem Ye6 :yaa 21 Tryz.f21:=⟨Tryz.func21,by kernel_rfl,_,rfl⟩
theorem Ye7 :yaa 22 Tryz.f22:=⟨Tryz.func22,by kernel_rfl,_,rfl⟩
theorem Ye8 :yaa 23 Tryz.f23:=⟨Tryz.func23,by kernel_rfl,_,rfl⟩
theorem Ye9 :yaa 24 Tryz.f24:=⟨Tryz.func24,by kernel_rfl,_,rfl⟩
theorem Yfa :yaa 25 Tryz.f25:=⟨Tryz.func25,by kernel_rfl,_,rfl⟩
theorem Yfb :yaa 26 Tryz.f26:=⟨Tryz.func26,by kernel_rfl,_,rfl⟩
theorem Yfc :yaa 27 Tryz.f27:=⟨Tryz.func27,by kernel_rfl,_,rfl⟩
theorem Yfd :yaa 28 Tryz.f28:=⟨Tryz.func28,by kernel_rfl,_,rfl⟩
theorem Yfe :yaa 29 Tryz.f29:=⟨Tryz.func29,by kernel_rfl,_,rfl⟩
theorem Yff :yaa 30 Tryz.f30:=⟨Tryz.func30,by kernel_rfl,_,rfl⟩
theorem Yfg :yaa 31 Tryz.f31:=⟨Tryz.func31,by kernel_rfl,_,rfl⟩
theorem Yfh :yaa 32 Tryz.f32:=⟨Tryz.func32,by kernel_rfl,_,rfl⟩
theorem Yfi :yaa 33 Tryz.f33:=⟨Tryz.func33,by kernel_rfl,_,rfl⟩
theorem Yfj :yaa 34 Tryz.f34:=⟨Tryz.func34,by kernel_rfl,_,rfl⟩
theorem Yfk :yaa 35 Tryz.f35:=⟨Tryz.func35,by kernel_rfl,_,rfl⟩
theorem Yfl :yaa 36 Tryz.f36:=⟨Tryz.func36,by kernel_rfl,_,rfl⟩
theorem Yfm :yaa 37 Tryz.f37:=⟨Tryz.func37,by kernel_rfl,_,rfl⟩
theorem Yfn :yaa 38 Tryz.f38:=⟨Tryz.func38,by kernel_rfl,_,rfl⟩
theorem Yfo :yaa 39 Tryz.f39:=⟨Tryz.func39,by kernel_rfl,_,rfl⟩
theorem Yfp :yaa 40 Tryz.f40:=⟨Tryz.func40,by kernel_rfl,_,rfl⟩
theorem Yfq :yaa 41 Tryz.f41:=⟨Tryz.func41,by kernel_rfl,_,rfl⟩
theorem Yfr :yaa 42 Tryz.f42:=⟨Tryz.func42,by kernel_rfl,_,rfl⟩
theorem Yfs :yaa 43 Tryz.f43:=⟨Tryz.func43,by kernel_rfl,_,rfl⟩
theorem Yft :yaa 44 Tryz.f44:=⟨Tryz.func44,by kernel_rfl,_,rfl⟩
theorem Yfu :yaa 45 Tryz.f45:=⟨Tryz.func45,by kernel_rfl,_,rfl⟩
theorem Yfv :yaa 46 Tryz.f46:=⟨Tryz.func46,by kernel_rfl,_,rfl⟩
theorem Yfw :yaa 47 Tryz.f47:=⟨Tryz.func47,by kernel_rfl,_,rfl⟩
theorem Yfx :yaa 48 Tryz.f48:=⟨Tryz.func48,by kernel_rfl,_,rfl⟩
theorem Yfy :yaa 49 Tryz.f49:=⟨Tryz.func49,by kernel_rfl,_,rfl⟩
theorem Yfz :yaa 50 Tryz.f50:=⟨Tryz.func50,by kernel_rfl,_,rfl⟩
theorem Yf0 :yaa 51 Tryz.f51:=⟨Tryz.func51,by kernel_rfl,_,rfl⟩
theorem Yf1 :yaa 52 Tryz.f52:=⟨Tryz.func52,by kernel_rfl,_,rfl⟩
theorem Yf2 :yaa 53 Tryz.f53:=⟨Tryz.func53,by kernel_rfl,_,rfl⟩
theorem Yf3 :yaa 54 Tryz.f54:=⟨Tryz.func54,by kernel_rfl,_,rfl⟩
theorem Yf4 :yaa 55 Tryz.f55:=⟨Tryz.func55,by kernel_rfl,_,rfl⟩
theorem Yf5 :yaa 56 Tryz.f56:=⟨Tryz.func56,by kernel_rfl,_,rfl⟩
theorem Yf6 :yaa 57 Tryz.f57:=⟨Tryz.func57,by kernel_rfl,_,rfl⟩
theorem Yf7 :yaa 58 Tryz.f58:=⟨Tryz.func58,by kernel_rfl,_,rfl⟩
theorem Yf8 :yaa 59 Tryz.f59:=⟨Tryz.func59,by kernel_rfl,_,rfl⟩
theorem Yf9 :yaa 60 Tryz.f60:=⟨Tryz.func60,by kernel_rfl,_,rfl⟩
theorem Yga :yaa 61 Tryz.f61:=⟨Tryz.func61,by kernel_rfl,_,rfl⟩
theorem Ygb :yaa 62 Tryz.f62:=⟨Tryz.func62,by kernel_rfl,_,rfl⟩
theorem Ygc :yaa 63 Tryz.f63:=⟨Tryz.func63,by kernel_rfl,_,rfl⟩
theorem Ygd :yaa 64 Tryz.f64:=⟨Tryz.func64,by kernel_rfl,_,rfl⟩
theorem Yge :yaa 65 Tryz.f65:=⟨Tryz.func65,by kernel_rfl,_,rfl⟩
theorem Ygf :yaa 66 Tryz.f66:=⟨Tryz.func66,by kernel_rfl,_,rfl⟩
theorem Ygg :yaa 67 Tryz.f67:=⟨Tryz.func67,by kernel_rfl,_,rfl⟩
theorem Ygh :yaa 68 Tryz.f68:=⟨Tryz.func68,by kernel_rfl,_,rfl⟩
theorem Ygi :yaa 69 Tryz.f69:=⟨Tryz.func69,by kernel_rfl,_,rfl⟩
theorem Ygj :yaa 70 Tryz.f70:=⟨Tryz.func70,by kernel_rfl,_,rfl⟩
theorem Ygk :yaa 71 Tryz.f71:=⟨Tryz.func71,by kernel_rfl,_,rfl⟩
theorem Ygl :yaa 72 Tryz.f72:=⟨Tryz.func72,by kernel_rfl,_,rfl⟩
theorem Ygm :yaa 73 Tryz.f73:=⟨Tryz.func73,by kernel_rfl,_,rfl⟩
theorem Ygn :yaa 74 Tryz.f74:=⟨Tryz.func74,by kernel_rfl,_,rfl⟩
theorem Ygo :yaa 75 Tryz.f75:=⟨Tryz.func75,by kernel_rfl,_,rfl⟩
theorem Ygp :yaa 76 Tryz.f76:=⟨Tryz.func76,by kernel_rfl,_,rfl⟩
theorem Ygq :yaa 77 Tryz.f77:=⟨Tryz.func77,by kernel_rfl,_,rfl⟩
theorem Ygr :yaa 78 Tryz.f78:=⟨Tryz.func78,by kernel_rfl,_,rfl⟩
theorem Ygs :yaa 79 Tryz.f79:=⟨Tryz.func79,by kernel_rfl,_,rfl⟩
theorem Ygt :yaa 80 Tryz.f80:=⟨Tryz.func80,by kernel_rfl,_,rfl⟩
theorem Ygu :yaa 81 Tryz.f81:=⟨Tryz.func81,by kernel_rfl,_,rfl⟩
theorem Ygv :yaa 82 Tryz.f82:=⟨Tryz.func82,by kernel_rfl,_,rfl⟩
theorem Ygw :yaa 83 Tryz.f83:=⟨Tryz.func83,by kernel_rfl,_,rfl⟩
theorem Ygx :yaa 84 Tryz.f84:=⟨Tryz.func84,by kernel_rfl,_,rfl⟩
theorem Ygy :yaa 85 Tryz.f85:=⟨Tryz.func85,by kernel_rfl,_,rfl⟩
theorem Ygz :yaa 86 Tryz.f86:=⟨Tryz.func86,by kernel_rfl,_,rfl⟩
theorem Yg0 :yaa 87 Tryz.f87:=⟨Tryz.func87,by kernel_rfl,_,rfl⟩
theorem Yg1 :yaa 88 Tryz.f88:=⟨Tryz.func88,by kernel_rfl,_,rfl⟩
theorem Yg2 :yaa 89 Tryz.f89:=⟨Tryz.func89,by kernel_rfl,_,rfl⟩
theorem Yg3 :yaa 90 Tryz.f90:=⟨Tryz.func90,by kernel_rfl,_,rfl⟩
theorem Yg4 :yaa 91 Tryz.f91:=⟨Tryz.func91,by kernel_rfl,_,rfl⟩
theorem Yg5 :yaa 92 Tryz.f92:=⟨Tryz.func92,by kernel_rfl,_,rfl⟩
theorem Yg6 :yaa 93 Tryz.f93:=⟨Tryz.func93,by kernel_rfl,_,rfl⟩
theorem Yg7 :yaa 94 Tryz.f94:=⟨Tryz.func94,by kernel_rfl,_,rfl⟩
theorem Yg8 :yaa 95 Tryz.f95:=⟨Tryz.func95,by kernel_rfl,_,rfl⟩
theorem Yg9 :yaa 96 Tryz.f96:=⟨Tryz.func96,by kernel_rfl,_,rfl⟩
theorem Yha :yaa 97 Tryz.f97:=⟨Tryz.func97,by kernel_rfl,_,rfl⟩
theorem Yhb :yaa 98 Tryz.f98:=⟨Tryz.func98,by kernel_rfl,_,rfl⟩
theorem Yhc :yaa 99 Tryz.f99:=⟨Tryz.func99,by kernel_rfl,_,rfl⟩
theorem yr6 :yaa 100 Tryz.f100:=⟨Tryz.func100,by kernel_rfl,_,rfl⟩
theorem yr7 :yaa 101 Tryz.f101:=⟨Tryz.func101,by kernel_rfl,_,rfl⟩
theorem yr8 :yaa 102 Tryz.f102:=⟨Tryz.func102,by kernel_rfl,_,rfl⟩
theorem yr9 :yaa 103 Tryz.f103:=⟨Tryz.func103,by kernel_rfl,_,rfl⟩
theorem ysa :yaa 104 Tryz.f104:=⟨Tryz.func104,by kernel_rfl,_,rfl⟩
theorem ysb :yaa 105 Tryz.f105:=⟨Tryz.func105,by kernel_rfl,_,rfl⟩
theorem ysc :yaa 106 Tryz.f106:=⟨Tryz.func106,by kernel_rfl,_,rfl⟩
theorem ysd :yaa 107 Tryz.f107:=⟨Tryz.func107,by kernel_rfl,_,rfl⟩
theorem yse :yaa 108 Tryz.f108:=⟨Tryz.func108,by kernel_rfl,_,rfl⟩
theorem ysf :yaa 109 Tryz.f109:=⟨Tryz.func109,by kernel_rfl,_,rfl⟩
theorem ysg :yaa 110 Tryz.f110:=⟨Tryz.func110,by kernel_rfl,_,rfl⟩
theorem ysh :yaa 111 Tryz.f111:=⟨Tryz.func111,by kernel_rfl,_,rfl⟩
theorem ysi :yaa 112 Tryz.f112:=⟨Tryz.func112,by kernel_rfl,_,rfl⟩
theorem ysj :yaa 113 Tryz.f113:=⟨Tryz.func113,by kernel_rfl,_,rfl⟩
theorem ysk :yaa 114 Tryz.f114:=⟨Tryz.func114,by kernel_rfl,_,rfl⟩
theorem ysl :yaa 115 Tryz.f115:=⟨Tryz.func115,by kernel_rfl,_,rfl⟩
theorem ysm :yaa 116 Tryz.f116:=⟨Tryz.func116,by kernel_rfl,_,rfl⟩
theorem ysn :yaa 117 Tryz.f117:=⟨Tryz.func117,by kernel_rfl,_,rfl⟩
theorem yso :yaa 118 Tryz.f118:=⟨Tryz.func118,by kernel_rfl,_,rfl⟩
theorem ysp :yaa 119 Tryz.f119:=⟨Tryz.func119,by kernel_rfl,_,rfl⟩
theorem ysq :yaa 120 Tryz.f120:=⟨Tryz.func120,by kernel_rfl,_,rfl⟩
theorem ysr :yaa 121 Tryz.f121:=⟨Tryz.func121,by kernel_rfl,_,rfl⟩
theorem yss :yaa 122 Tryz.f122:=⟨Tryz.func122,by kernel_rfl,_,rfl⟩
theorem yst :yaa 123 Tryz.f123:=⟨Tryz.func123,by kernel_rfl,_,rfl⟩
theorem ysu :yaa 124 Tryz.f124:=⟨Tryz.func124,by kernel_rfl,_,rfl⟩
theorem ysv :yaa 125 Tryz.f125:=⟨Tryz.func125,by kernel_rfl,_,rfl⟩
theorem ysw :yaa 126 Tryz.f126:=⟨Tryz.func126,by kernel_rfl,_,rfl⟩
theorem ysx :yaa 127 Tryz.f127:=⟨Tryz.func127,by kernel_rfl,_,rfl⟩
theorem ysy :yaa 128 Tryz.f128:=⟨Tryz.func128,by kernel_rfl,_,rfl⟩
theorem ysz :yaa 129 Tryz.f129:=⟨Tryz.func129,by kernel_rfl,_,rfl⟩
theorem ys0 :yaa 130 Tryz.f130:=⟨Tryz.func130,by kernel_rfl,_,rfl⟩
theorem ys1 :yaa 131 Tryz.f131:=⟨Tryz.func131,by kernel_rfl,_,rfl⟩
theorem ys2 :yaa 132 Tryz.f132:=⟨Tryz.func132,by kernel_rfl,_,rfl⟩
theorem ys3 :yaa 133 Tryz.f133:=⟨Tryz.func133,by kernel_rfl,_,rfl⟩
theorem ys4 :yaa 134 Tryz.f134:=⟨Tryz.func134,by kernel_rfl,_,rfl⟩
theorem ys5 :yaa 135 Tryz.f135:=⟨Tryz.func135,by kernel_rfl,_,rfl⟩
theorem ys6 :yaa 136 Tryz.f136:=⟨Tryz.func136,by kernel_rfl,_,rfl⟩
theorem ys7 :yaa 137 Tryz.f137:=⟨Tryz.func137,by kernel_rfl,_,rfl⟩
theorem ys8 :yaa 138 Tryz.f138:=⟨Tryz.func138,by kernel_rfl,_,rfl⟩
theorem ys9 :yaa 139 Tryz.f139:=⟨Tryz.func139,by kernel_rfl,_,rfl⟩
theorem yta :yaa 140 Tryz.f140:=⟨Tryz.func140,by kernel_rfl,_,rfl⟩
theorem ytb :yaa 141 Tryz.f141:=⟨Tryz.func141,by kernel_rfl,_,rfl⟩
theorem ytc :yaa 143 Tryz.f143:=⟨Tryz.func143,by kernel_rfl,_,rfl⟩
theorem ytd :yaa 144 Tryz.f144:=⟨Tryz.func144,by kernel_rfl,_,rfl⟩
theorem yte :yaa 145 Tryz.f145:=⟨Tryz.func145,by kernel_rfl,_,rfl⟩
theorem ytf :yaa 146 Tryz.f146:=⟨Tryz.func146,by kernel_rfl,_,rfl⟩
theorem ytg :yaa 147 Tryz.f147:=⟨Tryz.func147,by kernel_rfl,_,rfl⟩
theorem yth :yaa 148 Tryz.f148:=⟨Tryz.func148,by kernel_rfl,_,rfl⟩
theorem yti :yaa 149 Tryz.f149:=⟨Tryz.func149,by kernel_rfl,_,rfl⟩
theorem ytj :yaa 150 Tryz.f150:=⟨Tryz.func150,by kernel_rfl,_,rfl⟩
theorem ytk :yaa 151 Tryz.f151:=⟨Tryz.func151,by kernel_rfl,_,rfl⟩
theorem ytl :yaa 152 Tryz.f152:=⟨Tryz.func152,by kernel_rfl,_,rfl⟩
theorem ytm :yaa 153 Tryz.f153:=⟨Tryz.func153,by kernel_rfl,_,rfl⟩
theorem ytn :yaa 154 Tryz.f154:=⟨Tryz.func154,by kernel_rfl,_,rfl⟩
theorem yto :yaa 155 Tryz.f155:=⟨Tryz.func155,by kernel_rfl,_,rfl⟩
theorem ytp :yaa 156 Tryz.f156:=⟨Tryz.func156,by kernel_rfl,_,rfl⟩
theorem ytq :yaa 157 Tryz.f157:=⟨Tryz.func157,by kernel_rfl,_,rfl⟩
theorem ytr :yaa 158 Tryz.f158:=⟨Tryz.func158,by kernel_rfl,_,rfl⟩
theorem yts :yaa 159 Tryz.f159:=⟨Tryz.func159,by kernel_rfl,_,rfl⟩
theorem ytt :yaa 160 Tryz.f160:=⟨Tryz.func160,by kernel_rfl,_,rfl⟩
theorem ytu :yaa 161 Tryz.f161:=⟨Tryz.func161,by kernel_rfl,_,rfl⟩
theorem ytv :yaa 162 Tryz.f162:=⟨Tryz.func162,by kernel_rfl,_,rfl⟩
theorem ytw :yaa 163 Tryz.f163:=⟨Tryz.func163,by kernel_rfl,_,rfl⟩
theorem ytx :yaa 164 Tryz.f164:=⟨Tryz.func164,by kernel_rfl,_,rfl⟩
theorem yty :yaa 165 Tryz.f165:=⟨Tryz.func165,by kernel_rfl,_,rfl⟩
theorem ytz :yaa 166 Tryz.f166:=⟨Tryz.func166,by kernel_rfl,_,rfl⟩
theorem yt0 :yaa 167 Tryz.f167:=⟨Tryz.func167,by kernel_rfl,_,rfl⟩
theorem yt1 :yaa 168 Tryz.f168:=⟨Tryz.func168,by kernel_rfl,_,rfl⟩
theorem yt2 :yaa 169 Tryz.f169:=⟨Tryz.func169,by kernel_rfl,_,rfl⟩
theorem yt3 :yaa 170 Tryz.f170:=⟨Tryz.func170,by kernel_rfl,_,rfl⟩
theorem yt4 :yaa 171 Tryz.f171:=⟨Tryz.func171,by kernel_rfl,_,rfl⟩
theorem yt5 :yaa 172 Tryz.f172:=⟨Tryz.func172,by kernel_rfl,_,rfl⟩
theorem yt6 :yaa 173 Tryz.f173:=⟨Tryz.func173,by kernel_rfl,_,rfl⟩
theorem yt7 :yaa 174 Tryz.f174:=⟨Tryz.func174,by kernel_rfl,_,rfl⟩
theorem yt8 :yaa 175 Tryz.f175:=⟨Tryz.func175,by kernel_rfl,_,rfl⟩
theorem yt9 :yaa 176 Tryz.f176:=⟨Tryz.func176,by kernel_rfl,_,rfl⟩
theorem yua :yaa 177 Tryz.f177:=⟨Tryz.func177,by kernel_rfl,_,rfl⟩
theorem yub :yaa 178 Tryz.f178:=⟨Tryz.func178,by kernel_rfl,_,rfl⟩
theorem yuc :yaa 179 Tryz.f179:=⟨Tryz.func179,by kernel_rfl,_,rfl⟩
theorem yud :yaa 180 Tryz.f180:=⟨Tryz.func180,by kernel_rfl,_,rfl⟩
theorem yue :yaa 181 Tryz.f181:=⟨Tryz.func181,by kernel_rfl,_,rfl⟩
theorem yuf :yaa 182 Tryz.f182:=⟨Tryz.func182,by kernel_rfl,_,rfl⟩
theorem yug :yaa 183 Tryz.f183:=⟨Tryz.func183,by kernel_rfl,_,rfl⟩
theorem yuh :yaa 184 Tryz.f184:=⟨Tryz.func184,by kernel_rfl,_,rfl⟩
theorem yui :yaa 185 Tryz.f185:=⟨Tryz.func185,by kernel_rfl,_,rfl⟩
theorem yuj :yaa 186 Tryz.f186:=⟨Tryz.func186,by kernel_rfl,_,rfl⟩
theorem yuk :yaa 187 Tryz.f187:=⟨Tryz.func187,by kernel_rfl,_,rfl⟩
theorem yul :yaa 188 Tryz.f188:=⟨Tryz.func188,by kernel_rfl,_,rfl⟩
theorem yum :yaa 189 Tryz.f189:=⟨Tryz.func189,by kernel_rfl,_,rfl⟩
theorem yun :yaa 190 Tryz.f190:=⟨Tryz.func190,by kernel_rfl,_,rfl⟩
theorem yuo :yaa 191 Tryz.f191:=⟨Tryz.func191,by kernel_rfl,_,rfl⟩
theorem yup :yaa 192 Tryz.f192:=⟨Tryz.func192,by kernel_rfl,_,rfl⟩
theorem yuq :yaa 193 Tryz.f193:=⟨Tryz.func193,by kernel_rfl,_,rfl⟩
theorem yur :yaa 194 Tryz.f194:=⟨Tryz.func194,by kernel_rfl,_,rfl⟩
theorem yus :yaa 195 Tryz.f195:=⟨Tryz.func195,by kernel_rfl,_,rfl⟩
theorem yut :yaa 196 Tryz.f196:=⟨Tryz.func196,by kernel_rfl,_,rfl⟩
theorem yuu :yaa 197 Tryz.f197:=⟨Tryz.func197,by kernel_rfl,_,rfl⟩
theorem yuv :yaa 198 Tryz.f198:=⟨Tryz.func198,by kernel_rfl,_,rfl⟩
theorem yuw :yaa 199 Tryz.f199:=⟨Tryz.func199,by kernel_rfl,_,rfl⟩
theorem yux :yaa 200 Tryz.f200:=⟨Tryz.func200,by kernel_rfl,_,rfl⟩
theorem yuy :yaa 201 Tryz.f201:=⟨Tryz.func201,by kernel_rfl,_,rfl⟩
theorem yuz :yaa 202 Tryz.f202:=⟨Tryz.func202,by kernel_rfl,_,rfl⟩
theorem yu0 :yaa 203 Tryz.f203:=⟨Tryz.func203,by kernel_rfl,_,rfl⟩
theorem yu1 :yaa 204 Tryz.f204:=⟨Tryz.func204,by kernel_rfl,_,rfl⟩
theorem yu2 :yaa 205 Tryz.f205:=⟨Tryz.func205,by kernel_rfl,_,rfl⟩
theorem yu3 :yaa 206 Tryz.f206:=⟨Tryz.func206,by kernel_rfl,_,rfl⟩
theorem yu4 :yaa 207 Tryz.f207:=⟨Tryz.func207,by kernel_rfl,_,rfl⟩
theorem yu5 :yaa 208 Tryz.f208:=⟨Tryz.func208,by kernel_rfl,_,rfl⟩
theorem yu6 :yaa 209 Tryz.f209:=⟨Tryz.func209,by kernel_rfl,_,rfl⟩
theorem yu7 :yaa 210 Tryz.f210:=⟨Tryz.func210,by kernel_rfl,_,rfl⟩
theorem yu8 :yaa 211 Tryz.f211:=⟨Tryz.func211,by kernel_rfl,_,rfl⟩
theorem yu9 :yaa 212 Tryz.f212:=⟨Tryz.func212,by kernel_rfl,_,rfl⟩
theorem yva :yaa 213 Tryz.f213:=⟨Tryz.func213,by kernel_rfl,_,rfl⟩
theorem yvb :yaa 214 Tryz.f214:=⟨Tryz.func214,by kernel_rfl,_,rfl⟩
theorem yvc :yaa 215 Tryz.f215:=⟨Tryz.func215,by kernel_rfl,_,rfl⟩
theorem yvd :yaa 216 Tryz.f216:=⟨Tryz.func216,by kernel_rfl,_,rfl⟩
theorem yve :yaa 217 Tryz.f217:=⟨Tryz.func217,by kernel_rfl,_,rfl⟩
theorem yvf :yaa 218 Tryz.f218:=⟨Tryz.func218,by kernel_rfl,_,rfl⟩
theorem yvg :yaa 219 Tryz.f219:=⟨Tryz.func219,by kernel_rfl,_,rfl⟩
theorem yvh :yaa 220 Tryz.f220:=⟨Tryz.func220,by kernel_rfl,_,rfl⟩
theorem yvi :yaa 221 Tryz.f221:=⟨Tryz.func221,by kernel_rfl,_,rfl⟩
theorem yvj :yaa 222 Tryz.f222:=⟨Tryz.func222,by kernel_rfl,_,rfl⟩
theorem yvk :yaa 223 Tryz.f223:=⟨Tryz.func223,by kernel_rfl,_,rfl⟩
theorem yvl :yaa 224 Tryz.f224:=⟨Tryz.func224,by kernel_rfl,_,rfl⟩
theorem yvm :yaa 225 Tryz.f225:=⟨Tryz.func225,by kernel_rfl,_,rfl⟩
theorem yvn :yaa 226 Tryz.f226:=⟨Tryz.func226,by kernel_rfl,_,rfl⟩
theorem yvo :yaa 227 Tryz.f227:=⟨Tryz.func227,by kernel_rfl,_,rfl⟩
theorem yvp :yaa 228 Tryz.f228:=⟨Tryz.func228,by kernel_rfl,_,rfl⟩
theorem yvq :yaa 229 Tryz.f229:=⟨Tryz.func229,by kernel_rfl,_,rfl⟩
theorem yvr :yaa 230 Tryz.f230:=⟨Tryz.func230,by kernel_rfl,_,rfl⟩
theorem yvs :yaa 231 Tryz.f231:=⟨Tryz.func231,by kernel_rfl,_,rfl⟩
theorem yvt :yaa 232 Tryz.f232:=⟨Tryz.func232,by kernel_rfl,_,rfl⟩
theorem yvu :yaa 233 Tryz.f233:=⟨Tryz.func233,by kernel_rfl,_,rfl⟩
theorem yvv :yaa 234 Tryz.f234:=⟨Tryz.func234,by kernel_rfl,_,rfl⟩
theorem yvw :yaa 235 Tryz.f235:=⟨Tryz.func235,by kernel_rfl,_,rfl⟩
theorem yvx :yaa 236 Tryz.f236:=⟨Tryz.func236,by kernel_rfl,_,rfl⟩
theorem yvy :yaa 237 Tryz.f237:=⟨Tryz.func237,by kernel_rfl,_,rfl⟩
theorem yvz :yaa 238 Tryz.f238:=⟨Tryz.func238,by kernel_rfl,_,rfl⟩
theorem yv0 :yaa 239 Tryz.f239:=⟨Tryz.func239,by kernel_rfl,_,rfl⟩
theorem yv1 :yaa 240 Tryz.f240:=⟨Tryz.func240,by kernel_rfl,_,rfl⟩
theorem yv2 :yaa 241 Tryz.f241:=⟨Tryz.func241,by kernel_rfl,_,rfl⟩
theorem yv3 :yaa 242 Tryz.f242:=⟨Tryz.func242,by kernel_rfl,_,rfl⟩
theorem yv4 :yaa 243 Tryz.f243:=⟨Tryz.func243,by kernel_rfl,_,rfl⟩
theorem yv5 :yaa 244 Tryz.f244:=⟨Tryz.func244,by kernel_rfl,_,rfl⟩
theorem yv6 :yaa 245 Tryz.f245:=⟨Tryz.func245,by kernel_rfl,_,rfl⟩
theorem yv7 :yaa 246 Tryz.f246:=⟨Tryz.func246,by kernel_rfl,_,rfl⟩
theorem yv8 :yaa 247 Tryz.f247:=⟨Tryz.func247,by kernel_rfl,_,rfl⟩
theorem yv9 :yaa 248 Tryz.f248:=⟨Tryz.func248,by kernel_rfl,_,rfl⟩
theorem ywa :yaa 249 Tryz.f249:=⟨Tryz.func249,by kernel_rfl,_,rfl⟩
theorem ywb :yaa 250 Tryz.f250:=⟨Tryz.func250,by kernel_rfl,_,rfl⟩
theorem ywc :yaa 251 Tryz.f251:=⟨Tryz.func251,by kernel_rfl,_,rfl⟩
theorem ywd :yaa 252 Tryz.f252:=⟨Tryz.func252,by kernel_rfl,_,rfl⟩
theorem ywe :yaa 253 Tryz.f253:=⟨Tryz.func253,by kernel_rfl,_,rfl⟩
theorem ywf :yaa 254 Tryz.f254:=⟨Tryz.func254,by kernel_rfl,_,rfl⟩
theorem ywg :yaa 255 Tryz.f255:=⟨Tryz.func255,by kernel_rfl,_,rfl⟩
theorem ywh :yaa 256 Tryz.f256:=⟨Tryz.func256,by kernel_rfl,_,rfl⟩
theorem ywi :yaa 257 Tryz.f257:=⟨Tryz.func257,by kernel_rfl,_,rfl⟩
theorem ywj :yaa 258 Tryz.f258:=⟨Tryz.func258,by kernel_rfl,_,rfl⟩
theorem ywk :yaa 259 Tryz.f259:=⟨Tryz.func259,by kernel_rfl,_,rfl⟩
theorem ywl :yaa 260 Tryz.f260:=⟨Tryz.func260,by kernel_rfl,_,rfl⟩
theorem ywm :yaa 261 Tryz.f261:=⟨Tryz.func261,by kernel_rfl,_,rfl⟩
theorem ywn :yaa 262 Tryz.f262:=⟨Tryz.func262,by kernel_rfl,_,rfl⟩
theorem ywo :yaa 263 Tryz.f263:=⟨Tryz.func263,by kernel_rfl,_,rfl⟩
theorem ywp :yaa 264 Tryz.f264:=⟨Tryz.func264,by kernel_rfl,_,rfl⟩
theorem ywq :yaa 265 Tryz.f265:=⟨Tryz.func265,by kernel_rfl,_,rfl⟩
theorem ywr :yaa 266 Tryz.f266:=⟨Tryz.func266,by kernel_rfl,_,rfl⟩
theorem yws :yaa 267 Tryz.f267:=⟨Tryz.func267,by kernel_rfl,_,rfl⟩
theorem ywt :yaa 268 Tryz.f268:=⟨Tryz.func268,by kernel_rfl,_,rfl⟩
theorem ywu :yaa 269 Tryz.f269:=⟨Tryz.func269,by kernel_rfl,_,rfl⟩
theorem ywv :yaa 270 Tryz.f270:=⟨Tryz.func270,by kernel_rfl,_,rfl⟩
theorem yww :yaa 271 Tryz.f271:=⟨Tryz.func271,by kernel_rfl,_,rfl⟩
theorem ywx :yaa 272 Tryz.f272:=⟨Tryz.func272,by kernel_rfl,_,rfl⟩
theorem ywy :yaa 273 Tryz.f273:=⟨Tryz.func273,by kernel_rfl,_,rfl⟩
theorem ywz :yaa 274 Tryz.f274:=⟨Tryz.func274,by kernel_rfl,_,rfl⟩
theorem yw0 :yaa 275 Tryz.f275:=⟨Tryz.func275,by kernel_rfl,_,rfl⟩
theorem yw1 :yaa 276 Tryz.f276:=⟨Tryz.func276,by kernel_rfl,_,rfl⟩
theorem yw2 :yaa 277 Tryz.f277:=⟨Tryz.func277,by kernel_rfl,_,rfl⟩
theorem yw3 :yaa 278 Tryz.f278:=⟨Tryz.func278,by kernel_rfl,_,rfl⟩
theorem yw4 :yaa 279 Tryz.f279:=⟨Tryz.func279,by kernel_rfl,_,rfl⟩
theorem yw5 :yaa 280 Tryz.f280:=⟨Tryz.func280,by kernel_rfl,_,rfl⟩
theorem yw6 :yaa 281 Tryz.f281:=⟨Tryz.func281,by kernel_rfl,_,rfl⟩
theorem yw7 :yaa 282 Tryz.f282:=⟨Tryz.func282,by kernel_rfl,_,rfl⟩
theorem yw8 :yaa 283 Tryz.f283:=⟨Tryz.func283,by kernel_rfl,_,rfl⟩
theorem yw9 :yaa 284 Tryz.f284:=⟨Tryz.func284,by kernel_rfl,_,rfl⟩
theorem yxa :yaa 285 Tryz.f285:=⟨Tryz.func285,by kernel_rfl,_,rfl⟩
theorem yxb :yaa 286 Tryz.f286:=⟨Tryz.func286,by kernel_rfl,_,rfl⟩
theorem yxc :yaa 287 Tryz.f287:=⟨Tryz.func287,by kernel_rfl,_,rfl⟩
theorem yxd :yaa 288 Tryz.f288:=⟨Tryz.func288,by kernel_rfl,_,rfl⟩
theorem yxe :yaa 289 Tryz.f289:=⟨Tryz.func289,by kernel_rfl,_,rfl⟩
theorem yxf :yaa 290 Tryz.f290:=⟨Tryz.func290,by kernel_rfl,_,rfl⟩
theorem yxg :yaa 291 Tryz.f291:=⟨Tryz.func291,by kernel_rfl,_,rfl⟩
theorem yxh :yaa 292 Tryz.f292:=⟨Tryz.func292,by kernel_rfl,_,rfl⟩
theorem yxi :yaa 293 Tryz.f293:=⟨Tryz.func293,by kernel_rfl,_,rfl⟩
theorem yxj :yaa 294 Tryz.f294:=⟨Tryz.func294,by kernel_rfl,_,rfl⟩
theorem yxk :yaa 295 Tryz.f295:=⟨Tryz.func295,by kernel_rfl,_,rfl⟩
theorem yxl :yaa 296 Tryz.f296:=⟨Tryz.func296,by kernel_rfl,_,rfl⟩
theorem yxm :yaa 297 Tryz.f297:=⟨Tryz.func297,by kernel_rfl,_,rfl⟩
theorem yxn :yaa 298 Tryz.f298:=⟨Tryz.func298,by kernel_rfl,_,rfl⟩
theorem yxo :yaa 299 Tryz.f299:=⟨Tryz.func299,by kernel_rfl,_,rfl⟩
theorem yxp :yaa 300 Tryz.f300:=⟨Tryz.func300,by kernel_rfl,_,rfl⟩
theorem yxq :yaa 301 Tryz.f301:=⟨Tryz.func301,by kernel_rfl,_,rfl⟩
theorem yxr :yaa 302 Tryz.f302:=⟨Tryz.func302,by kernel_rfl,_,rfl⟩
theorem yxs :yaa 303 Tryz.f303:=⟨Tryz.func303,by kernel_rfl,_,rfl⟩
theorem yxt :yaa 304 Tryz.f304:=⟨Tryz.func304,by kernel_rfl,_,rfl⟩
theorem yxu :yaa 305 Tryz.f305:=⟨Tryz.func305,by kernel_rfl,_,rfl⟩
theorem yxv :yaa 306 Tryz.f306:=⟨Tryz.func306,by kernel_rfl,_,rfl⟩
theorem yxw :yaa 307 Tryz.f307:=⟨Tryz.func307,by kernel_rfl,_,rfl⟩
theorem yxx :yaa 308 Tryz.f308:=⟨Tryz.func308,by kernel_rfl,_,rfl⟩
theorem yxy :yaa 309 Tryz.f309:=⟨Tryz.func309,by kernel_rfl,_,rfl⟩
theorem yxz :yaa 310 Tryz.f310:=⟨Tryz.func310,by kernel_rfl,_,rfl⟩
theorem yx0 :yaa 311 Tryz.f311:=⟨Tryz.func311,by kernel_rfl,_,rfl⟩
theorem yx1 :yaa 326 Tryz.f326:=⟨Tryz.func326,by kernel_rfl,_,rfl⟩
theorem yx2 :yaa 327 Tryz.f327:=⟨Tryz.func327,by kernel_rfl,_,rfl⟩
theorem yx3 :yaa 328 Tryz.f328:=⟨Tryz.func328,by kernel_rfl,_,rfl⟩
theorem yx4 :yaa 329 Tryz.f329:=⟨Tryz.func329,by kernel_rfl,_,rfl⟩
theorem yx5 :yaa 330 Tryz.f330:=⟨Tryz.func330,by kernel_rfl,_,rfl⟩
theorem yx6 :yaa 331 Tryz.f331:=⟨Tryz.func331,by kernel_rfl,_,rfl⟩
theorem yx7 :yaa 346 Tryz.f346:=⟨Tryz.func346,by kernel_rfl,_,rfl⟩
theorem yx8 :yaa 347 Tryz.f347:=⟨Tryz.func347,by kernel_rfl,_,rfl⟩
theorem yx9 :yaa 348 Tryz.f348:=⟨Tryz.func348,by kernel_rfl,_,rfl⟩
theorem yya :yaa 353 Tryz.f353:=⟨Tryz.func353,by kernel_rfl,_,rfl⟩
theorem yyb :yaa 354 Tryz.f354:=⟨Tryz.func354,by kernel_rfl,_,rfl⟩
theorem yyc :yaa 355 Tryz.f355:=⟨Tryz.func355,by kernel_rfl,_,rfl⟩
theorem yyd :yaa 356 Tryz.f356:=⟨Tryz.func356,by kernel_rfl,_,rfl⟩
theorem yye :yaa 358 Tryz.f358:=⟨Tryz.func358,by kernel_rfl,_,rfl⟩
theorem yyf :yaa 359 Tryz.f359:=⟨Tryz.func359,by kernel_rfl,_,rfl⟩
theorem yyg :yaa 360 Tryz.f360:=⟨Tryz.func360,by kernel_rfl,_,rfl⟩
theorem Ycm :TrAll yaa (fun k=>k) xFn:=⟨trivial,⟨trivial,⟨fno3,⟨fno7,⟨Ye0,⟨Yfg,⟨Ygc,⟨ysx,⟨ywg,trivial,trivial⟩,trivial⟩,⟨yuo,trivial,trivial⟩⟩,⟨Yg8,⟨yts,⟨yxc,trivial,trivial⟩,trivial⟩,⟨yvk,trivial,trivial⟩⟩⟩,⟨Yfw,⟨Ygs,⟨ytc,⟨yww,trivial,trivial⟩,trivial⟩,⟨yu4,trivial,trivial⟩⟩,⟨ysh,⟨yt8,⟨yxs,trivial,trivial⟩,trivial⟩,⟨yv0,trivial,trivial⟩⟩⟩⟩,⟨Ye8,⟨Yfo,⟨Ygk,⟨ys5,⟨ywo,trivial,trivial⟩,trivial⟩,⟨yuw,⟨yx2,trivial,trivial⟩,trivial⟩⟩,⟨yr9,⟨yt0,⟨yxk,trivial,trivial⟩,trivial⟩,⟨yvs,⟨yyf,trivial,trivial⟩,trivial⟩⟩⟩,⟨Yf4,⟨Yg0,⟨ytk,⟨yw4,trivial,trivial⟩,trivial⟩,⟨yvc,trivial,trivial⟩⟩,⟨ysp,⟨yug,⟨yx0,trivial,trivial⟩,trivial⟩,⟨yv8,trivial,trivial⟩⟩⟩⟩⟩,⟨Yew,⟨Ye4,⟨Yfk,⟨Ygg,⟨ys1,⟨ywk,trivial,trivial⟩,trivial⟩,⟨yus,trivial,trivial⟩⟩,⟨Yhc,⟨ytw,⟨yxg,trivial,trivial⟩,trivial⟩,⟨yvo,⟨yyc,trivial,trivial⟩,trivial⟩⟩⟩,⟨Yf0,⟨Ygw,⟨ytg,⟨yw0,trivial,trivial⟩,trivial⟩,⟨yu8,trivial,trivial⟩⟩,⟨ysl,⟨yuc,⟨yxw,trivial,trivial⟩,trivial⟩,⟨yv4,trivial,trivial⟩⟩⟩⟩,⟨Yfc,⟨Yfs,⟨Ygo,⟨ys9,⟨yws,trivial,trivial⟩,trivial⟩,⟨yu0,⟨yx6,trivial,trivial⟩,trivial⟩⟩,⟨ysd,⟨yt4,⟨yxo,trivial,trivial⟩,trivial⟩,⟨yvw,trivial,trivial⟩⟩⟩,⟨Yf8,⟨Yg4,⟨yto,⟨yw8,trivial,trivial⟩,trivial⟩,⟨yvg,⟨yx8,trivial,trivial⟩,trivial⟩⟩,⟨yst,⟨yuk,trivial,trivial⟩,⟨ywc,trivial,trivial⟩⟩⟩⟩⟩⟩,⟨fno5,⟨fno9,⟨Ye2,⟨Yfi,⟨Yge,⟨ysz,⟨ywi,trivial,trivial⟩,trivial⟩,⟨yuq,trivial,trivial⟩⟩,⟨Yha,⟨ytu,⟨yxe,trivial,trivial⟩,trivial⟩,⟨yvm,⟨yya,trivial,trivial⟩,trivial⟩⟩⟩,⟨Yfy,⟨Ygu,⟨yte,⟨ywy,trivial,trivial⟩,trivial⟩,⟨yu6,trivial,trivial⟩⟩,⟨ysj,⟨yua,⟨yxu,trivial,trivial⟩,trivial⟩,⟨yv2,trivial,trivial⟩⟩⟩⟩,⟨Yfa,⟨Yfq,⟨Ygm,⟨ys7,⟨ywq,trivial,trivial⟩,trivial⟩,⟨yuy,⟨yx4,trivial,trivial⟩,trivial⟩⟩,⟨ysb,⟨yt2,⟨yxm,trivial,trivial⟩,trivial⟩,⟨yvu,trivial,trivial⟩⟩⟩,⟨Yf6,⟨Yg2,⟨ytm,⟨yw6,trivial,trivial⟩,trivial⟩,⟨yve,trivial,trivial⟩⟩,⟨ysr,⟨yui,trivial,trivial⟩,⟨ywa,trivial,trivial⟩⟩⟩⟩⟩,⟨Yey,⟨Ye6,⟨Yfm,⟨Ygi,⟨ys3,⟨ywm,trivial,trivial⟩,trivial⟩,⟨yuu,trivial,trivial⟩⟩,⟨yr7,⟨yty,⟨yxi,trivial,trivial⟩,trivial⟩,⟨yvq,trivial,trivial⟩⟩⟩,⟨Yf2,⟨Ygy,⟨yti,⟨yw2,trivial,trivial⟩,trivial⟩,⟨yva,trivial,trivial⟩⟩,⟨ysn,⟨yue,⟨yxy,trivial,trivial⟩,trivial⟩,⟨yv6,trivial,trivial⟩⟩⟩⟩,⟨Yfe,⟨Yfu,⟨Ygq,⟨ytb,⟨ywu,trivial,trivial⟩,trivial⟩,⟨yu2,trivial,trivial⟩⟩,⟨ysf,⟨yt6,⟨yxq,trivial,trivial⟩,trivial⟩,⟨yvy,trivial,trivial⟩⟩⟩,⟨Yga,⟨Yg6,⟨ytq,⟨yxa,trivial,trivial⟩,trivial⟩,⟨yvi,trivial,trivial⟩⟩,⟨ysv,⟨yum,trivial,trivial⟩,⟨ywe,trivial,trivial⟩⟩⟩⟩⟩⟩⟩,⟨trivial,⟨fno4,⟨fno8,⟨Ye1,⟨Yfh,⟨Ygd,⟨ysy,⟨ywh,trivial,trivial⟩,trivial⟩,⟨yup,trivial,trivial⟩⟩,⟨Yg9,⟨ytt,⟨yxd,trivial,trivial⟩,trivial⟩,⟨yvl,trivial,trivial⟩⟩⟩,⟨Yfx,⟨Ygt,⟨ytd,⟨ywx,trivial,trivial⟩,trivial⟩,⟨yu5,trivial,trivial⟩⟩,⟨ysi,⟨yt9,⟨yxt,trivial,trivial⟩,trivial⟩,⟨yv1,trivial,trivial⟩⟩⟩⟩,⟨Ye9,⟨Yfp,⟨Ygl,⟨ys6,⟨ywp,trivial,trivial⟩,trivial⟩,⟨yux,⟨yx3,trivial,trivial⟩,trivial⟩⟩,⟨ysa,⟨yt1,⟨yxl,trivial,trivial⟩,trivial⟩,⟨yvt,⟨yyg,trivial,trivial⟩,trivial⟩⟩⟩,⟨Yf5,⟨Yg1,⟨ytl,⟨yw5,trivial,trivial⟩,trivial⟩,⟨yvd,trivial,trivial⟩⟩,⟨ysq,⟨yuh,trivial,trivial⟩,⟨yv9,trivial,trivial⟩⟩⟩⟩⟩,⟨Yex,⟨Ye5,⟨Yfl,⟨Ygh,⟨ys2,⟨ywl,trivial,trivial⟩,trivial⟩,⟨yut,trivial,trivial⟩⟩,⟨yr6,⟨ytx,⟨yxh,trivial,trivial⟩,trivial⟩,⟨yvp,⟨yyd,trivial,trivial⟩,trivial⟩⟩⟩,⟨Yf1,⟨Ygx,⟨yth,⟨yw1,trivial,trivial⟩,trivial⟩,⟨yu9,trivial,trivial⟩⟩,⟨ysm,⟨yud,⟨yxx,trivial,trivial⟩,trivial⟩,⟨yv5,trivial,trivial⟩⟩⟩⟩,⟨Yfd,⟨Yft,⟨Ygp,⟨yta,⟨ywt,trivial,trivial⟩,trivial⟩,⟨yu1,trivial,trivial⟩⟩,⟨yse,⟨yt5,⟨yxp,trivial,trivial⟩,trivial⟩,⟨yvx,trivial,trivial⟩⟩⟩,⟨Yf9,⟨Yg5,⟨ytp,⟨yw9,trivial,trivial⟩,trivial⟩,⟨yvh,⟨yx9,trivial,trivial⟩,trivial⟩⟩,⟨ysu,⟨yul,trivial,trivial⟩,⟨ywd,trivial,trivial⟩⟩⟩⟩⟩⟩,⟨fno6,⟨Yev,⟨Ye3,⟨Yfj,⟨Ygf,⟨ys0,⟨ywj,trivial,trivial⟩,trivial⟩,⟨yur,trivial,trivial⟩⟩,⟨Yhb,⟨ytv,⟨yxf,trivial,trivial⟩,trivial⟩,⟨yvn,⟨yyb,trivial,trivial⟩,trivial⟩⟩⟩,⟨Yfz,⟨Ygv,⟨ytf,⟨ywz,trivial,trivial⟩,trivial⟩,⟨yu7,trivial,trivial⟩⟩,⟨ysk,⟨yub,⟨yxv,trivial,trivial⟩,trivial⟩,⟨yv3,trivial,trivial⟩⟩⟩⟩,⟨Yfb,⟨Yfr,⟨Ygn,⟨ys8,⟨ywr,trivial,trivial⟩,trivial⟩,⟨yuz,⟨yx5,trivial,trivial⟩,trivial⟩⟩,⟨ysc,⟨yt3,⟨yxn,trivial,trivial⟩,trivial⟩,⟨yvv,trivial,trivial⟩⟩⟩,⟨Yf7,⟨Yg3,⟨ytn,⟨yw7,trivial,trivial⟩,trivial⟩,⟨yvf,⟨yx7,trivial,trivial⟩,trivial⟩⟩,⟨yss,⟨yuj,trivial,trivial⟩,⟨ywb,trivial,trivial⟩⟩⟩⟩⟩,⟨Yez,⟨Ye7,⟨Yfn,⟨Ygj,⟨ys4,⟨ywn,trivial,trivial⟩,trivial⟩,⟨yuv,⟨yx1,trivial,trivial⟩,trivial⟩⟩,⟨yr8,⟨ytz,⟨yxj,trivial,trivial⟩,trivial⟩,⟨yvr,⟨yye,trivial,trivial⟩,trivial⟩⟩⟩,⟨Yf3,⟨Ygz,⟨ytj,⟨yw3,trivial,trivial⟩,trivial⟩,⟨yvb,trivial,trivial⟩⟩,⟨yso,⟨yuf,⟨yxz,trivial,trivial⟩,trivial⟩,⟨yv7,trivial,trivial⟩⟩⟩⟩,⟨Yff,⟨Yfv,⟨Ygr,⟨trivial,⟨ywv,trivial,trivial⟩,trivial⟩,⟨yu3,trivial,trivial⟩⟩,⟨ysg,⟨yt7,⟨yxr,trivial,trivial⟩,trivial⟩,⟨yvz,trivial,trivial⟩⟩⟩,⟨Ygb,⟨Yg7,⟨ytr,⟨yxb,trivial,trivial⟩,trivial⟩,⟨yvj,trivial,trivial⟩⟩,⟨ysw,⟨yun,trivial,trivial⟩,⟨ywf,trivial,trivial⟩⟩⟩⟩⟩⟩⟩⟩
def okB (k b:Nat):Bool:=(decide (97<=b)&&decide (b<=122)) || (decide (k≠0)&&(decide (b=95) || (decide (48<=b)&&decide (b<=57))))
def okS (s:ByteArray)(k:Nat):Prop:= ∀ j (h:j<s.size),j<k->okB j (s[j]'h).toNat=true
open Classical in
noncomputable def ybc (s:ByteArray):Bool:=decide (0<s.size/\s.size<=24/\okS s s.size)
theorem yj4 {s:ByteArray}(k:Nat)(h:k<s.size)(hb:okB k (s[k]'h).toNat=false):false=ybc s:=by
 symm
 unfold ybc
 simp only [decide_eq_false_iff_not]
 intro ⟨_,_,h3⟩
 have:=h3 k h h
 rw [hb] at this
 cases this
theorem ze1 {s:ByteArray}(h: ¬ (0<s.size/\s.size<=24)):false=ybc s:=by
 symm
 unfold ybc
 simp only [decide_eq_false_iff_not]
 intro ⟨h1,h2,_⟩
 exact h ⟨h1,h2⟩
theorem zpi {s:ByteArray}(h1:0<s.size)(h2:s.size<=24)(h3:okS s s.size):true=ybc s:=by
 symm
 unfold ybc
 simp only [decide_eq_true_eq]
 exact ⟨h1,h2,h3⟩
theorem ykd {s:ByteArray}{k:Nat}(h:okS s k)(hk:k<s.size)(hb:okB k (s[k]'hk).toNat=true):okS s (k+1):=by
 intro j hj hjk
 rcases Nat.lt_or_ge j k with h1|h1
 ·exact h j hj h1
 ·obtain rfl:j=k:=by omega
  exact hb
theorem zbq (w:World)(s:ByteArray)(p:Nat):Below w.heap.size w (w.iter s p):=(Below.refl _ w).alloc (qV _) _
theorem ziy (s:ByteArray):s.toList.isEmpty=decide (s.size=0):=by
 rw [ByteArray.toList_eq]
 have e:s.size=s.data.toList.length:=rfl
 rw [e]
 cases s.data.toList<;>simp
theorem zge {k b:Nat}(h:(97<=b/\b<=122)∨(k≠0/\(b=95∨(48<=b/\b<=57)))):okB k b=true:=by
 unfold okB;simp;omega
theorem zhk {k b:Nat}(h: ¬ ((97<=b/\b<=122)∨(k≠0/\(b=95∨(48<=b/\b<=57))))):okB k b=false:=by
 unfold okB;simp;omega
theorem Yhh (s:ByteArray)(w:World):Calls Tryz.prog 123 #[.string s] w fun e w'=>e= .returned (.bool (ybc s))/\Below w.heap.size w w':=by
 by_cases h24:24<s.size
 ·have HN:=qL (ze1 (s:=s) qF)
  go_enter Tryz.func123,Tryz.ntmps123
  go_wp2
  go_ret
  exact ⟨zal HN.out, .refl _ _⟩
 ·go_enter Tryz.func123,Tryz.ntmps123
  go_wp2
  go_loopw [] (fun w'=> ∃ pos:Nat,w'=w.iter s pos/\pos<=s.size/\Hid (okS s pos)) (fun w'=>s.size - w'.iterPos w.heap.size)
  case atStart=>exact ⟨0,rfl,Nat.zero_le _,qL fun j hj h=>absurd h qF⟩
  case round=>
   obtain ⟨k,rfl,hk,HO⟩:=hrel
   by_cases hp:k<s.size
   ·obtain ⟨x,hx⟩: ∃ x,x=(s[k]'hp).toNat:=⟨_,rfl⟩
    obtain ⟨r,hr⟩: ∃ r,r=(Utf8.decode s k).1:=⟨_,rfl⟩
    obtain ⟨d,hd⟩: ∃ d,d=(Utf8.decode s k).2:=⟨_,rfl⟩
    have hnx: ∀ ty,(Instr.next (.pointer (some ⟨w.heap.size,0,none⟩)) true ty).run Tryz.prog (w.iter s k)= .ok (.tuple #[.bool true, .int .i64 k, .int .i32 r]) (w.iter s (k+d)):=fun ty=>by rw [hr,hd];exact run_next_any w s k ty hp
    have HXR:Hid ((x<128/\r=x/\d=1)∨(128<=x/\128<=r)):=qL (by
     rcases Nat.lt_or_ge x 128 with h|h
     ·have:=decode_ascii s k hp (by rw [<-hx];exact h)
      rw [<-hx] at this
      rw [this] at hr hd
      exact .inl ⟨h,hr,hd⟩
     ·exact .inr ⟨h,by rw [hr];exact (decode_high s k hp (by rw [<-hx];exact h)).1⟩)
    have HBX:Hid (okB k (s[k]'hp).toNat=okB k x):=qL (by rw [hx])
    clear hr hd hx
    have hno:Hid (okB k x=false->false=ybc s):=qL fun h=>yj4 k hp (by rw [HBX.out];exact h)
    have hyes:Hid (okB k x=true->okS s (k+1)):=qL fun h=>ykd HO.out hp (by rw [HBX.out];exact h)
    by_cases a1:97<=r
    ·by_cases a2:r<=122
     ·skip
      have hd1:d=1:=by have:=HXR.out;omega
      have fa1:decide ((97:Int)<=(r:Int))=true:=by simp;omega
      have fa2:decide ((r:Int)<=122)=true:=by simp;omega
      subst hd1
      have HY:=qL (hyes.out (zge (by have:=HXR.out;omega)))
      go_wp2
      go_roundw
      case rel=>exact ⟨k+1,rfl,by omega,HY⟩
      case measure=>simp;omega
     ·skip
      by_cases b0:k=0
      ·subst b0
       have fa1:decide ((97:Int)<=(r:Int))=true:=by simp;omega
       have fa2:decide ((r:Int)<=122)=false:=by simp;omega
       have HN:=qL (hno.out (zhk (by have:=HXR.out;omega)))
       go_wp2
       go_ret
       exact ⟨zal HN.out,zbq _ _ _⟩
      ·by_cases b1:r=95
       ·skip
        have hd1:d=1:=by have:=HXR.out;omega
        have fa1:decide ((97:Int)<=(r:Int))=true:=by simp;omega
        have fa2:decide ((r:Int)<=122)=false:=by simp;omega
        have fb0:((k:Int)==0)=false:=by simp;omega
        have fb1:((r:Int) !=95)=false:=by simp;omega
        subst hd1
        have HY:=qL (hyes.out (zge (by have:=HXR.out;omega)))
        go_wp2
        go_roundw
        case rel=>exact ⟨k+1,rfl,by omega,HY⟩
        case measure=>simp;omega
       ·by_cases b2:r<48
        ·skip
         have fa1:decide ((97:Int)<=(r:Int))=true:=by simp;omega
         have fa2:decide ((r:Int)<=122)=false:=by simp;omega
         have fb0:((k:Int)==0)=false:=by simp;omega
         have fb1:((r:Int) !=95)=true:=by simp;omega
         have fb2:decide ((r:Int)<48)=true:=by simp;omega
         have HN:=qL (hno.out (zhk (by have:=HXR.out;omega)))
         go_wp2
         go_ret
         exact ⟨zal HN.out,zbq _ _ _⟩
        ·by_cases b3:57<r
         ·skip
          have fa1:decide ((97:Int)<=(r:Int))=true:=by simp;omega
          have fa2:decide ((r:Int)<=122)=false:=by simp;omega
          have fb0:((k:Int)==0)=false:=by simp;omega
          have fb1:((r:Int) !=95)=true:=by simp;omega
          have fb2:decide ((r:Int)<48)=false:=by simp;omega
          have fb3:decide ((57:Int)<(r:Int))=true:=by simp;omega
          have HN:=qL (hno.out (zhk (by have:=HXR.out;omega)))
          go_wp2
          go_ret
          exact ⟨zal HN.out,zbq _ _ _⟩
         ·skip
          have hd1:d=1:=by have:=HXR.out;omega
          have fa1:decide ((97:Int)<=(r:Int))=true:=by simp;omega
          have fa2:decide ((r:Int)<=122)=false:=by simp;omega
          have fb0:((k:Int)==0)=false:=by simp;omega
          have fb1:((r:Int) !=95)=true:=by simp;omega
          have fb2:decide ((r:Int)<48)=false:=by simp;omega
          have fb3:decide ((57:Int)<(r:Int))=false:=by simp;omega
          subst hd1
          have HY:=qL (hyes.out (zge (by have:=HXR.out;omega)))
          go_wp2
          go_roundw
          case rel=>exact ⟨k+1,rfl,by omega,HY⟩
          case measure=>simp;omega
    ·skip
     by_cases b0:k=0
     ·subst b0
      have fa1:decide ((97:Int)<=(r:Int))=false:=by simp;omega
      have HN:=qL (hno.out (zhk (by have:=HXR.out;omega)))
      go_wp2
      go_ret
      exact ⟨zal HN.out,zbq _ _ _⟩
     ·by_cases b1:r=95
      ·skip
       have hd1:d=1:=by have:=HXR.out;omega
       have fa1:decide ((97:Int)<=(r:Int))=false:=by simp;omega
       have fb0:((k:Int)==0)=false:=by simp;omega
       have fb1:((r:Int) !=95)=false:=by simp;omega
       subst hd1
       have HY:=qL (hyes.out (zge (by have:=HXR.out;omega)))
       go_wp2
       go_roundw
       case rel=>exact ⟨k+1,rfl,by omega,HY⟩
       case measure=>simp;omega
      ·by_cases b2:r<48
       ·skip
        have fa1:decide ((97:Int)<=(r:Int))=false:=by simp;omega
        have fb0:((k:Int)==0)=false:=by simp;omega
        have fb1:((r:Int) !=95)=true:=by simp;omega
        have fb2:decide ((r:Int)<48)=true:=by simp;omega
        have HN:=qL (hno.out (zhk (by have:=HXR.out;omega)))
        go_wp2
        go_ret
        exact ⟨zal HN.out,zbq _ _ _⟩
       ·by_cases b3:57<r
        ·skip
         have fa1:decide ((97:Int)<=(r:Int))=false:=by simp;omega
         have fb0:((k:Int)==0)=false:=by simp;omega
         have fb1:((r:Int) !=95)=true:=by simp;omega
         have fb2:decide ((r:Int)<48)=false:=by simp;omega
         have fb3:decide ((57:Int)<(r:Int))=true:=by simp;omega
         have HN:=qL (hno.out (zhk (by have:=HXR.out;omega)))
         go_wp2
         go_ret
         exact ⟨zal HN.out,zbq _ _ _⟩
        ·skip
         have hd1:d=1:=by have:=HXR.out;omega
         have fa1:decide ((97:Int)<=(r:Int))=false:=by simp;omega
         have fb0:((k:Int)==0)=false:=by simp;omega
         have fb1:((r:Int) !=95)=true:=by simp;omega
         have fb2:decide ((r:Int)<48)=false:=by simp;omega
         have fb3:decide ((57:Int)<(r:Int))=false:=by simp;omega
         subst hd1
         have HY:=qL (hyes.out (zge (by have:=HXR.out;omega)))
         go_wp2
         go_roundw
         case rel=>exact ⟨k+1,rfl,by omega,HY⟩
         case measure=>simp;omega
   ·obtain rfl:k=s.size:=by omega
    have hnx: ∀ ty,(Instr.next (.pointer (some ⟨w.heap.size,0,none⟩)) true ty).run Tryz.prog (w.iter s s.size)=_:=fun ty=>run_next_end w s s.size ty hp
    by_cases h0:s.size=0
    ·have HN:=qL (ze1 (s:=s) qF)
     have hz:s.toList.isEmpty=true:=by rw [ziy];exact decide_eq_true h0
     clear h0
     go_wp2
     go_ret
     exact ⟨zal HN.out,zbq _ _ _⟩
    ·have HN:=qL (zpi (s:=s) qF qF HO.out)
     have hz:s.toList.isEmpty=false:=by rw [ziy];exact decide_eq_false h0
     go_wp2
     go_ret
     exact ⟨zal HN.out,zbq _ _ _⟩
end
section
open Go.RowKit
def yab (v:Val):Bool:=
 if v.k=0 then (v.m==0)&&v.s.toList.isEmpty else if v.k=1 then v.s.toList.isEmpty&&((v.m==0) || (v.m==1))
 else if v.k=2 then v.s.toList.isEmpty&&decide (-1073741824<=v.m)&&decide (v.m<=1073741824)
 else if v.k=3 then (v.m==0)&&decide (v.s.size<=64) else if v.k=4 then v.s.toList.isEmpty&&decide (0<=v.m)&&decide (v.m<=575999999) else false
theorem zne (a b:Int)(s:ByteArray)(a' b':Int)(s':ByteArray)(w:World):
 (binOp .eql 46 (.agg #[.int .i64 a, .int .i64 b, .string s]) (.agg #[.int .i64 a', .int .i64 b', .string s'])).run Tryz.prog w= .ok (.bool (a==a'&&(b==b'&&s.toList==s'.toList))) w:=by
 have u3:=Tryz.underlying3
 have u9:=Tryz.underlying9
 have a3:=Tryz.isAgg3
 have a9:=Tryz.isAgg9
 have z3:=Tryz.sizeOf3
 have z9:=Tryz.sizeOf9
 have hS:Tryz.prog.underlying 46=some (.struct (Tryz.prog.fieldsOf 46)):=by kernel_rfl
 have hp:Tryz.prog.stoodInHeld 46=false:=by kernel_rfl
 rw [run_eql_struct,show (10000:Nat)=9999+1 from rfl,run_equalIn_agg w 9999 46 _ _ hS hp]
 simp only [Program.fieldsOf,Tryz.underlying46]
 go_simp
 by_cases h1:a=a'<;>by_cases h2:b=b'<;>by_cases h3:s.toList=s'.toList<;>simp [h1,h2,h3]
theorem Yhi (a:Int)(w:World):Calls Tryz.prog 139 #[.int .i64 a] w fun e w'=>e= .returned (.bool false)/\w'=w:=by
 go_enter Tryz.func139,Tryz.ntmps139
 go_wp2
 go_ret
 exact ⟨zal qH,rfl⟩
theorem cmpE (a b:Int)(w:World):Calls Tryz.prog 98 #[.int .i64 a, .int .i64 b] w fun e w'=>e= .returned (.int .i64 (Lib.compareInt a b))/\w'=w:=by
 rcases Int.lt_trichotomy a b with h|h|h
 ·go_enter Tryz.func98,Tryz.ntmps98
  go_wp2_with (go_at_call 139;refine (Yhi _ _).mono ?_;rintro e w' ⟨rfl,rfl⟩)
  go_ret
  exact ⟨zak (by unfold Lib.compareInt;rw [if_pos h]),rfl⟩
 ·have h1:decide (a<b)=false:=by simp;omega
  have h2:decide (a>b)=false:=by simp;omega
  have HE:=qL h
  clear h
  go_enter Tryz.func98,Tryz.ntmps98
  go_wp2_with (go_at_call 139;refine (Yhi _ _).mono ?_;rintro e w' ⟨rfl,rfl⟩)
  all_goals (go_ret;exact ⟨zak (by have:=HE.out;unfold Lib.compareInt;rw [if_neg qF,if_neg qF]),rfl⟩)
 ·go_enter Tryz.func98,Tryz.ntmps98
  go_wp2_with (go_at_call 139;refine (Yhi _ _).mono ?_;rintro e w' ⟨rfl,rfl⟩)
  go_ret
  exact ⟨zak (by unfold Lib.compareInt;rw [if_neg qF,if_pos qF]),rfl⟩
theorem Yhj (a:ByteArray)(w:World):Calls Tryz.prog 140 #[.string a] w fun e w'=>e= .returned (.bool false)/\w'=w:=by
 go_enter Tryz.func140,Tryz.ntmps140
 go_wp2
 go_ret
 exact ⟨zal qH,rfl⟩
theorem zhy (a b:List UInt8):Op.bytesLess a b=decide (Lib.compareBytes a b<0):=by
 induction a generalizing b with
 |nil=>cases b<;>simp [Op.bytesLess,Lib.compareBytes]
 |cons x a ih=>
  cases b with
  |nil=>simp [Op.bytesLess,Lib.compareBytes]
  |cons y b=>
   unfold Op.bytesLess Lib.compareBytes
   rcases zhn x y with h|h|h
   ·simp [h]
   ·subst h
    simp [UInt8.lt_irrefl,ih]
   ·have h2: ¬ x=y:=fun e=>by subst e;exact UInt8.lt_irrefl _ h
    have h3: ¬ x<y:=UInt8.lt_asymm h
    simp [h,h2,h3]
theorem zhz : ∀ a b:List UInt8,Lib.compareBytes a b= -1∨Lib.compareBytes a b=0∨Lib.compareBytes a b=1
 | [],[]=>by simp [Lib.compareBytes]
 | [],_::_=>by simp [Lib.compareBytes]
 |_::_,[]=>by simp [Lib.compareBytes]
 |x::a,y::b=>by
  have:=zhz a b
  unfold Lib.compareBytes
  split
  ·simp
  ·split
   ·simp
   ·exact this
def orV :List Int->Int
 | []=>0
 |x::l=>if x=0 then orV l else x
theorem yo6 {l:List Int}{k:Nat}{x:Int}(h:l[k]?=some x):orV (l.drop k)=if x=0 then orV (l.drop (k+1)) else x:=by
 rw [List.drop_eq_getElem_cons (qO h).1,(qO h).2];rfl
theorem orE (A:Option Addr)(n c:Nat)(l:List Int)(w:World)(h:rInt w A n l)(hn:n<=100000):
 Calls Tryz.prog 97 #[.slice A n c] w fun e w'=>e= .returned (.int .i64 (orV l))/\w'=w:=by
 have HR:=qL h
 have HL:=qL h.len
 clear h
 go_enter Tryz.func97,Tryz.ntmps97
 go_wp2
 go_loop [8] (fun i=> ∃ k:Nat,k<=n/\i= .int .i64 k/\Hid (orV l=orV (l.drop k))) (fun i=>n - (intOf i).toNat)
 case atStart=>exact ⟨0,by omega,rfl,rfl⟩
 case round=>
  obtain ⟨k,hk,rfl,HU⟩:=hrel
  by_cases hkn:k<n
  ·obtain ⟨b,off,rfl,hcell⟩:=HR.out.opn qF
   obtain ⟨x,hx⟩:=zah (l:=l) (k:=k) (by have:=HL.out;omega)
   have hc:=hcell k x hx
   have HS:=qL (yo6 hx)
   clear hcell hx
   by_cases hz:x=0
   ·subst hz
    go_wp2
    case roundEnd=>exact ⟨⟨k+1,by omega,by go_num,qL (by rw [HU.out,HS.out];rfl)⟩,by simp [intOf];omega⟩
   ·have hz1:(x==0)=false:=by simp;exact hz
    have HZ:=qL hz
    clear hz
    go_wp2
    go_ret
    exact ⟨zak (by rw [HU.out,HS.out,if_neg HZ.out]),rfl⟩
  ·go_wp2
   go_ret
   exact ⟨zak (by rw [HU.out,List.drop_eq_nil_of_le (by have:=HL.out;omega)];rfl),rfl⟩
theorem gtr9 (a b:ByteArray)(w:World):(binOp .gtr 9 (.string a) (.string b)).run Tryz.prog w= .ok (.bool (!(Op.bytesLess a.toList b.toList || a.toList==b.toList))) w:=by
 have e:binOp .gtr 9 (.string a) (.string b)=pure (.bool !(Op.bytesLess a.toList b.toList || a.toList==b.toList)):=by simp [binOp,Op.stringOp]
 rw [e];rfl
theorem strE (a b:ByteArray)(w:World):Calls Tryz.prog 99 #[.string a, .string b] w fun e w'=>e= .returned (.int .i64 (Lib.compareBytes a.toList b.toList))/\w'=w:=by
 have hl:=zhy a.toList b.toList
 have hg:=zhy b.toList a.toList
 have hf:=zhx a.toList b.toList
 have h3:=zhz a.toList b.toList
 have qg:=gtr9
 cases h1:Op.bytesLess a.toList b.toList
 ·cases h2:(a.toList==b.toList)
  ·have HE:Hid (1=Lib.compareBytes a.toList b.toList):=qL (by rw [h1] at hl;have hz:=zew a.toList b.toList;simp at hl h2;rcases h3 with h|h|h<;>(first |omega|exact absurd (hz.1 h) h2))
   clear hl hg hf h3
   go_enter Tryz.func99,Tryz.ntmps99
   go_wp2_with (go_at_call 140;refine (Yhj _ _).mono ?_;rintro e w' ⟨rfl,rfl⟩)
   go_ret
   exact ⟨zak HE.out,rfl⟩
  ·have HE:Hid (0=Lib.compareBytes a.toList b.toList):=qL (by have hz:=zew a.toList b.toList;simp at h2;exact (hz.2 h2).symm)
   clear hl hg hf h3
   go_enter Tryz.func99,Tryz.ntmps99
   go_wp2_with (go_at_call 140;refine (Yhj _ _).mono ?_;rintro e w' ⟨rfl,rfl⟩)
   go_ret
   exact ⟨zak HE.out,rfl⟩
 ·have HE:Hid (-1=Lib.compareBytes a.toList b.toList):=qL (by rw [h1] at hl;simp at hl hg;omega)
  clear hl hg hf h3
  go_enter Tryz.func99,Tryz.ntmps99
  go_wp2_with (go_at_call 140;refine (Yhj _ _).mono ?_;rintro e w' ⟨rfl,rfl⟩)
  go_ret
  exact ⟨zak HE.out,rfl⟩
theorem Yek :ym3 Tryz.prog 46:=by
 intro op x y a b u a' b' u' w hop
 have h:=zne a b u a' b' u' w
 have hg:(eqGuard op 46 x y (.agg #[.int .i64 a, .int .i64 b, .string u]) (.agg #[.int .i64 a', .int .i64 b', .string u'])).run Tryz.prog w= .ok () w:=by
  have ht:Tryz.prog.eqGuardType Tryz.prog.depth 46=false:=by kernel_rfl
  rcases hop with rfl|rfl<;>simp [eqGuard,ht]
 have he:(Op.equal 46 (.agg #[.int .i64 a, .int .i64 b, .string u]) (.agg #[.int .i64 a', .int .i64 b', .string u'])).run Tryz.prog w= .ok (a==a'&&(b==b'&&u.toList==u'.toList)) w:=by
  have e:binOp .eql 46 (.agg #[.int .i64 a, .int .i64 b, .string u]) (.agg #[.int .i64 a', .int .i64 b', .string u'])=(do pure (.bool (<-Op.equal 46 (.agg #[.int .i64 a, .int .i64 b, .string u]) (.agg #[.int .i64 a', .int .i64 b', .string u'])))):=rfl
  rw [e,Sem.run_bind] at h
  generalize (Op.equal 46 (.agg #[.int .i64 a, .int .i64 b, .string u]) (.agg #[.int .i64 a', .int .i64 b', .string u'])).run Tryz.prog w=rr at h ⊢
  cases rr with
  |ok q w'=>
   rw [Result.andThen_ok,Sem.run_pure] at h
   injection h with h1 h2
   injection h1 with h1
   rw [h1,h2]
  |halt q w'=>
   rw [Result.andThen_halt] at h
   exact absurd h (fun e=>by cases e)
 rcases hop with rfl|rfl
 ·simp only [Sem.run_bind,hg,Result.andThen_ok,h]
  rfl
 ·have e:binOp .neq 46 (.agg #[.int .i64 a, .int .i64 b, .string u]) (.agg #[.int .i64 a', .int .i64 b', .string u'])=(do pure (.bool (!(<-Op.equal 46 (.agg #[.int .i64 a, .int .i64 b, .string u]) (.agg #[.int .i64 a', .int .i64 b', .string u']))))):=rfl
  rw [e]
  simp only [Sem.run_bind,hg,Result.andThen_ok,he]
  rfl
def yqk (c:Nat):List UInt8->Nat->Int
 | [],_=> -1
 |b::l,k=>cond (Nat.beq b.toNat c) (Int.ofNat k) (yqk c l (k+1))
def Yeo (args:List Value):Option Value:=match args with
 | [.string u, .int .u8 (.ofNat c)]=>cond (Nat.ble (c+1) 256) (some (.int .i64 (yqk c u.data.toList 0))) none
 |_=>none
theorem zov (s:ByteArray)(c:Nat)(hc:c<256): ∀ (l:List UInt8) (k:Nat),s.data.toList.drop k=l->k+l.length=s.size->
 yqk c l k=match (List.range' k l.length).find? fun i=>s[i]! ==c.toUInt8 with|some i=>(i:Int)|none=> -1
 | [],k,_,_=>by simp [yqk]
 |b::l,k,h,hl=>by
  have hd:s.data.toList.drop (k+1)=l:=by rw [<-List.drop_drop,h];rfl
  have ih:=zov s c hc l (k+1) hd (by simp at hl;omega)
  have hk:k<s.size:=by simp at hl;omega
  have hb:s[k]! =b:=by
   have h1:s.data.toList[k]?=some b:=by
    have:(s.data.toList.drop k)[0]?=some b:=by rw [h];rfl
    rw [List.getElem?_drop] at this
    simpa using this
   rw [getElem!_pos s k hk]
   have h2:s.data[k]?=some b:=by simpa using h1
   have h3:s.data[k]'hk=b:=by
    rw [Array.getElem?_eq_getElem hk] at h2
    exact Option.some.inj h2
   exact h3
  have he:(b==c.toUInt8)=Nat.beq b.toNat c:=by
   rw [<-zkc]
   have:c.toUInt8.toNat=c:=by
    show (UInt8.ofNat c).toNat=c
    simp [UInt8.toNat_ofNat];omega
   rw [this]
  rw [yqk,List.length_cons,List.range'_succ,List.find?_cons,hb,he]
  cases Nat.beq b.toNat c
  ·simpa using ih
  ·rfl
theorem Yen (E:Ev)(D:Nat->Prop)(ρ:Nat->Pl)(args args':List Value)(v:Value)(w:World)(h:Yeo args=some v)(hr:Rvs E D ρ args args'): ∃ v',(callFunc 142 ⟨args'⟩).run Tryz.prog w= .ok (.value v') w/\Rv E D ρ v v':=by
 unfold Yeo at h
 split at h
 ·rename_i u c
  obtain ⟨h1,h2⟩:=zax h
  have h1:=qS h1
  cases h2
  cases hr with
  |cons _ x _ _ k1 k2=>
   cases k2 with
   |cons _ y _ _ k2 k3=>
    cases k3
    cases zbk k1
    cases zbe k2
    refine ⟨.int .i64 (yqk c u.data.toList 0),?_, .flat _ rfl⟩
    have hx:=run_callFunc_extern (e:=Extern.BytealgIndexByte.indexByte) Tryz.func142 qG qG qG qJ #[.string u, .int .u8 (Int.ofNat c)] w
    rw [show (⟨[.string u, .int .u8 (Int.ofNat c)]⟩:Array Value)= #[.string u, .int .u8 (Int.ofNat c)] from rfl,hx,run_indexByte_string]
    have hl:u.data.toList.length=u.size:=Array.length_toList (xs:=u.data)
    have:=zov u c qF u.data.toList 0 qH qF
    rw [hl] at this
    simp only [Result.andThen_ok]
    rw [this]
    unfold firstIdx
    rw [List.range_eq_range']
    rfl
 ·cases h
noncomputable def xT :Tbl:=⟨xTy.get,xFn.get,fun t=>Nat.beq t 46,fun _=>none,fun f=>cond (Nat.beq f 142) (some Yeo) none,fun _ _ _=>none,fun _=>none⟩
theorem zg2 (E:Ev):xT.Ok E Tryz.prog where
 ty t i h:=TrAll.get Ycp h
 fn f x h:=TrAll.get Ycm h
 eqs t h:=by
  have:=qU h
  subst this
  exact Yek
 mixed:=by kernel_rfl
 ex f h hf D ρ args args' v w hv hr:=by
  obtain ⟨h1,h2⟩:=zax hf
  have h1:=qU h1
  subst h1
  cases h2
  exact Yen E D ρ args args' v w hv hr
 hint _ _ _ _ h:=by cases h
 hlen _ _ h:=by cases h
theorem Yco (E:Ev):yqx E Tryz.prog xT:=fun f g h=>by cases h
noncomputable def xR (n:Nat):Rn:=rn xT (yhr xT) n
theorem zir (E:Ev)(n:Nat):ybl E Tryz.prog (xR n):=(ykn (zg2 E) (zhr (zg2 E)) (Yco E) n).2
end
end Go.Proofs.YthcalfeoejdcgaaGreatDoor
