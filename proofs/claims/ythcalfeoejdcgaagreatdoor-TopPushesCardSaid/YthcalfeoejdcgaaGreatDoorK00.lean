import Derived.Test.YthcalfeoejdcgaaGreatDoorRows
import Derived.WalkSpells
import Derived.Lib.Hide
import Derived.WalkKit
import Derived.Maps.AppendAt
import Derived.Deep.MidRow
import Derived.Laws.MakeOwn
import Derived.Laws.Tables
import Derived.MapKept
namespace Go.Proofs.YthcalfeoejdcgaaGreatDoor
set_option linter.unusedSimpArgs false
set_option linter.unusedVariables false
set_option maxRecDepth 100000
set_option maxHeartbeats 20000000
section
open Go.RowKit Go.BigFrame
theorem qB {P:Prop}(h:P:=by first |(simp;done)|(repeat (first |(refine zaa ?_ rfl;(simp;done))|(refine zad ?_;(simp;done))|(refine zac ?_ ?_;(focus first |(simp;done)|(simp;omega)))|(refine zab ?_ ?_;(focus first |(simp;done)|(simp;omega)))))):P:=h
theorem qD {P:Prop}(h:P:=by (repeat (first |(refine zaa ?_ rfl;(simp;done))|(refine zad ?_;(simp;done))|(refine zac ?_ ?_;(focus first |(simp;done)|(simp;omega)))|(refine zab ?_ ?_;(focus first |(simp;done)|(simp;omega)))))):P:=h
theorem qE {P:Prop}(h:P:=by first |(simp;done)|(simp;omega)):P:=h
theorem qF {P:Prop}(h:P:=by omega):P:=h
theorem qG {P:Prop}(h:P:=by kernel_rfl):P:=h
theorem qH {P:Prop}(h:P:=by simp):P:=h
theorem qI {P:Prop}(h:P:=by assumption):P:=h
theorem qJ {P:Prop}(h:P:=by rfl):P:=h
theorem qK {P:Prop}(h:P:=by simp [Op.operands]):P:=h
theorem qL {p:Prop}(h:p):Go.RowKit.Hid p:=Lib.hid h
theorem qM {w wx:World}{a:Addr}{v:Value}(hb:Below w.heap.size w wx)(h:w.cell? a=some v):wx.cell? a=some v:=cell_later hb h
theorem qO {α:Type _}{l:List α}{i:Nat}{x:α}(h:l[i]?=some x): ∃ h:i<l.length,l[i]=x:=List.getElem?_eq_some_iff.1 h
theorem qP {α:Type _}{l:List α}{i:Nat}{x:α}(h:l[i]?=some x):x∈l:=List.mem_of_getElem? h
theorem qQ {n m k:Nat}(h:n<m)(g:m≤k):n<k:=Nat.lt_of_lt_of_le h g
theorem qR {n m k:Nat}(h:n≤m)(g:m≤k):n≤k:=Nat.le_trans h g
theorem qS {n m:Nat}(h:Nat.ble n m=true):n≤m:=Nat.le_of_ble_eq_true h
theorem qU {n m:Nat}(h:Nat.beq n m=true):n=m:=Nat.eq_of_beq_eq_true h
theorem qV (n:Nat):n≤n:=Nat.le_refl n
theorem qW {α:Type _}(y:α){a:α}{l:List α}(h:a∈l):a∈y::l:=List.mem_cons_of_mem y h
theorem qX (w:World)(a:Addr){v:Value}(h:w.cell? a=some v):a.block<w.heap.size:=World.block_lt_of_cell? w a h
theorem qY {α:Type _}{a b:α}{l:List α}(h:a∈b::l):a=b∨a∈l:=List.mem_cons.1 h
end
section
section
open Go.RowKit
inductive Tr (α:Type) where
 |leaf
 |node (l:Tr α) (v:Option α) (r:Tr α)
namespace Tr
variable {α:Type}
def get :Tr α->Nat->Option α
 | .leaf,_=>none
 | .node l v r,k=>cond (Nat.beq k 0) v (cond (Nat.beq (k % 2) 1) (l.get (k / 2)) (r.get (k / 2 - 1)))
def set :Nat->Tr α->Nat->Option α->Tr α
 |0,t,_,_=>t
 |n+1, .leaf,k,x=>cond (Nat.beq k 0) (.node .leaf x .leaf) (cond (Nat.beq (k % 2) 1) (.node (set n .leaf (k / 2) x) none .leaf) (.node .leaf none (set n .leaf (k / 2 - 1) x)))
 |n+1, .node l v r,k,x=>cond (Nat.beq k 0) (.node l x r) (cond (Nat.beq (k % 2) 1) (.node (set n l (k / 2) x) v r) (.node l v (set n r (k / 2 - 1) x)))
theorem get_leaf (k:Nat):(leaf:Tr α).get k=none:=by unfold get;rfl
theorem get_node (l r:Tr α)(v:Option α)(k:Nat):(node l v r).get k=if k=0 then v else if k % 2=1 then l.get (k / 2) else r.get (k / 2 - 1):=by
 rw [get]
 by_cases h:k=0
 ·subst h;rfl
 ·have e:Nat.beq k 0=false:=by cases hb:Nat.beq k 0 with|false=>rfl|true=>exact absurd (qU hb) h
  rw [e,if_neg h]
  by_cases h2:k % 2=1
  ·have e2:Nat.beq (k % 2) 1=true:=by rw [h2];rfl
   rw [e2,if_pos h2];rfl
  ·have e2:Nat.beq (k % 2) 1=false:=by cases hb:Nat.beq (k % 2) 1 with|false=>rfl|true=>exact absurd (qU hb) h2
   rw [e2,if_neg h2];rfl
theorem zmw (n:Nat)(l r:Tr α)(v x:Option α)(k:Nat):set (n+1) (node l v r) k x=if k=0 then node l x r else if k % 2=1 then node (set n l (k / 2) x) v r else node l v (set n r (k / 2 - 1) x):=by
 rw [set]
 by_cases h:k=0
 ·subst h;rfl
 ·have e:Nat.beq k 0=false:=by cases hb:Nat.beq k 0 with|false=>rfl|true=>exact absurd (qU hb) h
  rw [e,if_neg h]
  by_cases h2:k % 2=1
  ·have e2:Nat.beq (k % 2) 1=true:=by rw [h2];rfl
   rw [e2,if_pos h2];rfl
  ·have e2:Nat.beq (k % 2) 1=false:=by cases hb:Nat.beq (k % 2) 1 with|false=>rfl|true=>exact absurd (qU hb) h2
   rw [e2,if_neg h2];rfl
theorem ykw (n:Nat)(x:Option α)(k:Nat):set (n+1) leaf k x=set (n+1) (node leaf none leaf) k x:=by
 rw [zmw,set]
 by_cases h:k=0
 ·subst h;rfl
 ·have e:Nat.beq k 0=false:=by cases hb:Nat.beq k 0 with|false=>rfl|true=>exact absurd (qU hb) h
  rw [e,if_neg h]
  by_cases h2:k % 2=1
  ·have e2:Nat.beq (k % 2) 1=true:=by rw [h2];rfl
   rw [e2,if_pos h2];rfl
  ·have e2:Nat.beq (k % 2) 1=false:=by cases hb:Nat.beq (k % 2) 1 with|false=>rfl|true=>exact absurd (qU hb) h2
   rw [e2,if_neg h2];rfl
theorem yjt (k:Nat):(node leaf none leaf:Tr α).get k=none:=by
 rw [get_node];split
 ·rfl
 ·split<;>exact get_leaf _
theorem get_set : ∀ (n:Nat) (t:Tr α) (k:Nat) (x:Option α),k+1<2 ^ n-> ∀ j,(set n t k x).get j=if j=k then x else t.get j
 |0,_,k,_,h,_=>by simp at h
 |n+1, .node l v r,k,x,h,j=>by
  have h2:2 ^ (n+1)=2*2 ^ n:=by rw [Nat.pow_succ];omega
  rw [zmw]
  by_cases hk:k=0
  ·subst hk
   rw [if_pos rfl,get_node,get_node]
   by_cases hj:j=0
   ·rw [if_pos hj,if_pos hj]
   ·rw [if_neg hj,if_neg hj,if_neg hj]
  ·rw [if_neg hk]
   by_cases hm:k % 2=1
   ·rw [if_pos hm,get_node,get_node]
    by_cases hj:j=0
    ·rw [if_pos hj,if_pos hj,if_neg qF]
    ·rw [if_neg hj,if_neg hj]
     by_cases hmj:j % 2=1
     ·rw [if_pos hmj,if_pos hmj,get_set n l (k / 2) x qF]
      by_cases e:j=k
      ·rw [if_pos e,if_pos (by rw [e])]
      ·rw [if_neg e,if_neg qF]
     ·rw [if_neg hmj,if_neg hmj,if_neg qF]
   ·rw [if_neg hm,get_node,get_node]
    by_cases hj:j=0
    ·rw [if_pos hj,if_pos hj,if_neg qF]
    ·rw [if_neg hj,if_neg hj]
     by_cases hmj:j % 2=1
     ·rw [if_pos hmj,if_pos hmj,if_neg qF]
     ·rw [if_neg hmj,if_neg hmj,get_set n r (k / 2 - 1) x qF]
      by_cases e:j=k
      ·rw [if_pos e,if_pos (by rw [e])]
      ·rw [if_neg e,if_neg qF]
 |n+1, .leaf,k,x,h,j=>by
  rw [ykw]
  have:=get_set (n+1) (.node .leaf none .leaf:Tr α) k x h j
  rw [this,yjt,get_leaf]
termination_by n t => (n, match t with | .leaf => 1 | .node .. => 0)
end Tr
structure Pl where
 blk:Nat
 off:Nat
 esz:Nat
 room:Nat
 snap:Nat->Option Obj
def ycu :Nat->Option Obj:=fun _=>none
@[reducible] def ya8 (b o e r:Nat):Pl:=⟨b,o,e,r,ycu⟩
abbrev Ev :=Nat->Value->(Nat->Option Obj)->Prop
inductive ABody where
 |cells (e:TypeId) (z:Nat) (c:List Value)
 |map (es:List (ByteArray × Value))
 |iter (s:ByteArray) (pos:Nat)
structure AObj where
 wr:Bool
 body:ABody
structure ASt where
 heap:Tr AObj
 next:Nat
 tc:List Nat
def ybx :Value->Bool
 | .bool _=>true
 | .int _ _=>true
 | .string _=>true
 | .pointer none=>true
 | .slice none 0 0=>true
 | .map none=>true
 | .nilFunc=>true
 | .nilIface=>true
 | .func _ ⟨[]⟩ ⟨[]⟩=>true
 |_=>false
def yki :Value->Bool
 | .agg _=>false
 | .tuple _=>false
 | .chan none=>false
 |_=>true
mutual
inductive Rv (E:Ev)(D:Nat->Prop)(ρ:Nat->Pl):Value->Value->Prop
 |poison (v:Value):Rv E D ρ (.chan none) v
 |opq (k:Nat) (v:Value) (hd:D (k / 1024)) (h:v.oneCell'=true) (he:E (k % 1024) v (ρ (k / 1024)).snap):Rv E D ρ (.chan (some k)) v
 |flat (v:Value) (h:ybx v=true):Rv E D ρ v v
 |ptr (i o:Nat) (h:D i):Rv E D ρ (.pointer (some ⟨i,o,none⟩)) (.pointer (some ⟨(ρ i).blk,(ρ i).off+o,none⟩))
 |slice (i o n lb c:Nat) (h:D i) (h1:n<=lb) (h2:lb<=c) (h3:c<=maxLen) (h4:o+c*(ρ i).esz=(ρ i).room):Rv E D ρ (.slice (some ⟨i,o,none⟩) n lb) (.slice (some ⟨(ρ i).blk,(ρ i).off+o,none⟩) n c)
 |empty (A:Option Addr) (c:Nat):Rv E D ρ (.slice (some ⟨0,0,some 0⟩) 0 0) (.slice A 0 c)
 |map (i:Nat) (h:D i):Rv E D ρ (.map (some i)) (.map (some (ρ i).blk))
 |func (fn:Fn) (k k' l l':List Value) (g:Rvs E D ρ k k') (h:Rvs E D ρ l l'):Rv E D ρ (.func fn ⟨k⟩ ⟨l⟩) (.func fn ⟨k'⟩ ⟨l'⟩)
 |agg (l l':List Value) (h:Rvs E D ρ l l'):Rv E D ρ (.agg ⟨l⟩) (.agg ⟨l'⟩)
 |tuple (l l':List Value) (h:Rvs E D ρ l l'):Rv E D ρ (.tuple ⟨l⟩) (.tuple ⟨l'⟩)
inductive Rvs (E:Ev)(D:Nat->Prop)(ρ:Nat->Pl):List Value->List Value->Prop
 |nil:Rvs E D ρ [] []
 |cons (a b:Value) (l m:List Value) (h:Rv E D ρ a b) (t:Rvs E D ρ l m):Rvs E D ρ (a::l) (b::m)
end
section
variable {E:Ev}{D D':Nat->Prop}{ρ ρ':Nat->Pl}
mutual
theorem Rv.mono (hD: ∀ i,D i->D' i)(hρ: ∀ i,D i->ρ' i=ρ i): ∀ {a b:Value} (_:Rv E D ρ a b),Rv E D' ρ' a b
 |_,_, .poison v=> .poison v
 |_,_, .opq k v hd h he=> .opq k v (hD _ hd) h (by rw [hρ _ hd];exact he)
 |_,_, .flat v h=> .flat v h
 |_,_, .ptr i o h=>by rw [<-hρ i h];exact .ptr i o (hD i h)
 |_,_, .slice i o n lb c h h1 h2 h3 h4=>by rw [<-hρ i h] at h4 ⊢;exact .slice i o n lb c (hD i h) h1 h2 h3 h4
 |_,_, .empty A c=> .empty A c
 |_,_, .map i h=>by rw [<-hρ i h];exact .map i (hD i h)
 |_,_, .func fn k k' l l' g h=> .func fn k k' l l' (Rvs.mono hD hρ g) (Rvs.mono hD hρ h)
 |_,_, .agg l l' h=> .agg l l' (Rvs.mono hD hρ h)
 |_,_, .tuple l l' h=> .tuple l l' (Rvs.mono hD hρ h)
theorem Rvs.mono (hD: ∀ i,D i->D' i)(hρ: ∀ i,D i->ρ' i=ρ i): ∀ {a b:List Value} (_:Rvs E D ρ a b),Rvs E D' ρ' a b
 |_,_, .nil=> .nil
 |_,_, .cons a b l m h t=> .cons a b l m (Rv.mono hD hρ h) (Rvs.mono hD hρ t)
end
theorem Rv.one {a b:Value}(h:Rv E D ρ a b)(h1:yki a=true):b.oneCell'=true:=by
 cases h with
 |poison=>cases h1
 |opq k v hd h=>exact h
 |flat _ h=>cases a<;>first |rfl|cases h
 |agg=>cases h1
 |tuple=>cases h1
 |_=>rfl
theorem Rvs.get : ∀ {a b:List Value} (_:Rvs E D ρ a b) {j:Nat} {v:Value} (_:a[j]?=some v),∃ u,b[j]?=some u/\Rv E D ρ v u
 |_,_, .nil,_,_,h=>by simp at h
 |_,_, .cons a b l m h t,0,v,hv=>by simp at hv;subst hv;exact ⟨b,rfl,h⟩
 |_,_, .cons a b l m h t,j+1,v,hv=>by
  obtain ⟨u,hu,hr⟩:=Rvs.get t (j:=j) (v:=v) (by simpa using hv)
  exact ⟨u,by simpa using hu,hr⟩
theorem Rvs.get2 : ∀ {a b:List Value} (_:Rvs E D ρ a b) {j:Nat} {u:Value} (_:b[j]?=some u),∃ v,a[j]?=some v/\Rv E D ρ v u
 |_,_, .nil,_,_,h=>by simp at h
 |_,_, .cons a b l m h t,0,v,hv=>by simp at hv;subst hv;exact ⟨a,rfl,h⟩
 |_,_, .cons a b l m h t,j+1,v,hv=>by
  obtain ⟨u,hu,hr⟩:=Rvs.get2 t (j:=j) (u:=v) (by simpa using hv)
  exact ⟨u,by simpa using hu,hr⟩
theorem Rvs.len : ∀ {a b:List Value} (_:Rvs E D ρ a b),b.length=a.length
 |_,_, .nil=>rfl
 |_,_, .cons a b l m h t=>by simp [Rvs.len t]
theorem Rvs.append : ∀ {a b c d:List Value} (_:Rvs E D ρ a b) (_:Rvs E D ρ c d),Rvs E D ρ (a++c) (b++d)
 |_,_,_,_, .nil,h=>h
 |_,_,_,_, .cons a b l m h t,k=> .cons a b _ _ h (Rvs.append t k)
theorem Rvs.of_get : ∀ {a b:List Value} (_:b.length=a.length) (_: ∀ (j:Nat) (v:Value),a[j]?=some v-> ∃ u,b[j]?=some u/\Rv E D ρ v u),Rvs E D ρ a b
 | [],[],_,_=> .nil
 | [],_::_,h,_=>by simp at h
 |_::_,[],h,_=>by simp at h
 |a::l,b::m,hl,h=>by
  obtain ⟨u,hu,hr⟩:=h 0 a rfl
  simp at hu
  subst hu
  exact .cons a b l m hr (Rvs.of_get (by simpa using hl) fun j v hv=>by
   obtain ⟨u,hu,hr⟩:=h (j+1) v (by simpa using hv)
   exact ⟨u,by simpa using hu,hr⟩)
theorem Rvs.take {a b:List Value}(h:Rvs E D ρ a b)(k:Nat):Rvs E D ρ (a.take k) (b.take k):=
 .of_get (by rw [List.length_take,List.length_take,h.len]) fun j v hv=>by
  rw [List.getElem?_take] at hv
  split at hv
  ·rename_i hj
   obtain ⟨u,hu,hr⟩:=h.get hv
   exact ⟨u,by rw [List.getElem?_take,if_pos hj];exact hu,hr⟩
  ·cases hv
theorem Rvs.drop {a b:List Value}(h:Rvs E D ρ a b)(k:Nat):Rvs E D ρ (a.drop k) (b.drop k):=
 .of_get (by rw [List.length_drop,List.length_drop,h.len]) fun j v hv=>by
  rw [List.getElem?_drop] at hv
  obtain ⟨u,hu,hr⟩:=h.get hv
  exact ⟨u,by rw [List.getElem?_drop];exact hu,hr⟩
theorem Rvs.one {a b:List Value}(h:Rvs E D ρ a b)(h1:a.all yki=true): ∀ u∈b,u.oneCell'=true:=by
 intro u hu
 obtain ⟨j,hj⟩:=List.getElem?_of_mem hu
 obtain ⟨v,hv,hr⟩:=h.get2 hj
 exact hr.one (List.all_eq_true.1 h1 v (qP hv))
end
def yb2 (k:ByteArray):List (ByteArray × Value)->Nat->Option (Nat × Value)
 | [],_=>none
 |(k',v)::l,i=>cond (k==k') (some (i,v)) (yb2 k l (i+1))
def Ents (E:Ev)(D:Nat->Prop)(ρ:Nat->Pl)(es:List (ByteArray × Value))(es':List MapEntry):Prop:= ∀ k,(yb2 k es 0=none/\Instr.findNow .string (.string k) es' 0=some none)∨ ∃ i v j v',yb2 k es 0=some (i,v)/\Instr.findNow .string (.string k) es' 0=some (some (j,v'))/\Rv E D ρ v v'
theorem Ents.mono {E:Ev}{D D':Nat->Prop}{ρ ρ':Nat->Pl}{es:List (ByteArray × Value)}{es':List MapEntry}(h:Ents E D ρ es es')(hD: ∀ i,D i->D' i)(hρ: ∀ i,D i->ρ' i=ρ i):Ents E D' ρ' es es':=fun k=>
 (h k).imp id fun ⟨i,v,j,v',h1,h2,h3⟩=>⟨i,v,j,v',h1,h2,h3.mono hD hρ⟩
def Bd (E:Ev)(D:Nat->Prop)(ρ:Nat->Pl)(w:World)(p:Pl):Bool->ABody->Prop
 |false, .cells _ z c=>p.esz=z/\ ∀ (j:Nat) (v:Value),c[j]?=some v-> ∃ v',w.cell? ⟨p.blk,p.off+j,none⟩=some v'/\Rv E D ρ v v'
 |true, .cells e z c=>p.esz=z/\ ∃ cur,w.heap[p.blk]?=some (.cells cur e (0,0))/\p.off=0/\p.room=cur.size/\c.length<=cur.size/\ ∀ (j:Nat) (v:Value),c[j]?=some v-> ∃ v',cur[j]?=some v'/\Rv E D ρ v v'
 |true, .map es=> ∃ es' clk,w.heap[p.blk]?=some (.map es' clk)/\Ents E D ρ es es'.toList
 |true, .iter s pos=>w.heap[p.blk]?=some (.stringIter s pos)/\p.off=0
 |false,_=>False
def yfg :Nat:=64
structure Sim (E:Ev)(D:Nat->Prop)(ρ:Nat->Pl)(s:ASt)(w:World):Prop where
 lt: ∀ i o,s.heap.get i=some o->D i
 dn: ∀ i,D i->i<s.next
 bd: ∀ i o,s.heap.get i=some o->Bd E D ρ w (ρ i) o.wr o.body
 inh: ∀ i o,s.heap.get i=some o->(ρ i).blk<w.heap.size
 apart: ∀ i j o o',s.heap.get i=some o->s.heap.get j=some o'->i≠j->o.wr=true->(ρ i).blk≠(ρ j).blk
 gl: ∀ g,g<yfg->D g
 glob: ∀ g,g<yfg->(ρ g).blk=g/\(ρ g).off=0
 prot: ∀ i k ob,(ρ i).snap k=some ob->w.heap[k]?=some ob/\ ∀ b o,s.heap.get b=some o->o.wr=true->(ρ b).blk≠k
structure Ex (D:Nat->Prop)(s:ASt)(ρ:Nat->Pl)(w:World)(D':Nat->Prop)(s':ASt)(ρ':Nat->Pl)(w':World):Prop where
 next:s.next<=s'.next
 sub: ∀ i,D i->D' i
 fresh: ∀ i,D' i->D i∨s.next<=i
 same: ∀ i,i<s.next->ρ' i=ρ i
 dead: ∀ i o,i<s.next->s'.heap.get i=some o-> ∃ o',s.heap.get i=some o'
 born: ∀ i o,s.next<=i->s'.heap.get i=some o->(ρ' i).blk<w.heap.size-> ∃ b∈s'.tc,(∃ o',s.heap.get b=some o')/\b<s.next/\(ρ b).blk=(ρ' i).blk
 tc: ∀ b∈s.tc,b∈s'.tc
 os:w'.os=w.os
 tape:w'.tape=w.tape
 output:w'.output=w.output
 size:w.heap.size<=w'.heap.size
 frame: ∀ k,k<w.heap.size->(∀ b∈s'.tc,∀ o,s.heap.get b=some o->(ρ b).blk≠k)->w'.heap[k]?=w.heap[k]?
 kept: ∀ i,i<s.next->i∉s'.tc->s'.heap.get i=s.heap.get i
 twr: ∀ b o,b∈s'.tc->b∉s.tc->s.heap.get b=some o->o.wr=true
 tcl: ∀ b,b∈s'.tc->b∉s.tc->((∃ o,s.heap.get b=some o)/\b<s.next)∨(s.next<=b/\b<s'.next)
 snew: ∀ i,s.next<=i->i<s'.next-> ∀ k ob,(ρ' i).snap k=some ob->w.heap.size<=k
 sbig: ∀ i,s'.next<=i->ρ' i=ρ i
section
variable {E:Ev}{D D1 D2:Nat->Prop}{s s1 s2:ASt}{ρ ρ1 ρ2:Nat->Pl}{w w1 w2:World}
theorem Sim.low (h:Sim E D ρ s w)(i:Nat)(o:AObj)(hi:s.heap.get i=some o):i<s.next:=h.dn i (h.lt i o hi)
theorem Ex.refl (h:Sim E D ρ s w):Ex D s ρ w D s ρ w:=
 ⟨qV _,fun _ h=>h,fun _ h=> .inl h,fun _ _=>rfl,fun i o _ h=>⟨o,h⟩,fun i o h1 h2 h3=>absurd (h.low i o h2) qF,fun _ h=>h,rfl,rfl,rfl,qV _,fun _ _ _=>rfl,fun _ _ _=>rfl,fun _ _ h1 h2 _=>absurd h1 h2,fun _ h1 h2=>absurd h1 h2,fun _ h1 h2=>absurd h1 qF,fun _ _=>rfl⟩
theorem Ex.trans (hlow: ∀ b o,s.heap.get b=some o->b<s.next)(h:Ex D s ρ w D1 s1 ρ1 w1)(k:Ex D1 s1 ρ1 w1 D2 s2 ρ2 w2):Ex D s ρ w D2 s2 ρ2 w2 where
 next:=qR h.next k.next
 sub i hi:=k.sub i (h.sub i hi)
 fresh i hi:=(k.fresh i hi).elim (fun h1=>h.fresh i h1) fun h1=> .inr (qR h.next h1)
 same i hi:=(k.same i (qQ hi h.next)).trans (h.same i hi)
 dead i o hi ho:=by
  obtain ⟨o',ho'⟩:=k.dead i o (qQ hi h.next) ho
  exact h.dead i o' hi ho'
 born i o hi ho hl:=by
  rcases Nat.lt_or_ge i s1.next with h1|h1
  ·obtain ⟨o',ho'⟩:=k.dead i o h1 ho
   rw [k.same i h1] at hl ⊢
   obtain ⟨b,hb,hb2⟩:=h.born i o' hi ho' hl
   exact ⟨b,k.tc b hb,hb2⟩
  ·obtain ⟨b,hb,⟨o',ho'⟩,hb3,hb4⟩:=k.born i o h1 ho (qQ hl h.size)
   rw [<-hb4] at hl ⊢
   rcases Nat.lt_or_ge b s.next with h2|h2
   ·rw [h.same b h2]
    exact ⟨b,hb,h.dead b o' h2 ho',h2,rfl⟩
   ·obtain ⟨c,hc,hc2⟩:=h.born b o' h2 ho' hl
    exact ⟨c,k.tc c hc,hc2⟩
 tc b hb:=k.tc b (h.tc b hb)
 os:=k.os.trans h.os
 tape:=k.tape.trans h.tape
 output:=k.output.trans h.output
 size:=qR h.size k.size
 frame x hx hf:=by
  rw [k.frame x (qQ hx h.size) fun b hb o ho e=>?_,h.frame x hx fun b hb o ho=>hf b (k.tc b hb) o ho]
  rcases Nat.lt_or_ge b s.next with h2|h2
  ·obtain ⟨o',ho'⟩:=h.dead b o h2 ho
   exact hf b hb o' ho' (by rw [<-h.same b h2];exact e)
  ·obtain ⟨c,hc,⟨o',ho'⟩,_,hc4⟩:=h.born b o h2 ho (by rw [e];exact hx)
   exact hf c (k.tc c hc) o' ho' (hc4.trans e)
 kept i hi hn:=(k.kept i (qQ hi h.next) hn).trans (h.kept i hi fun hm=>hn (k.tc i hm))
 twr b o h1 h2 h3:=by
  by_cases hm:b∈s1.tc
  ·exact h.twr b o hm h2 h3
  ·rcases Nat.lt_or_ge b s.next with hb|hb
   ·exact k.twr b o h1 hm (by rw [h.kept b hb hm];exact h3)
   ·exact absurd (hlow b o h3) qF
 tcl b h1 h2:=by
  by_cases hm:b∈s1.tc
  ·exact (h.tcl b hm h2).imp id fun hh=>⟨hh.1,qQ hh.2 k.next⟩
  ·rcases k.tcl b h1 hm with ⟨⟨o,ho⟩,hlt⟩|⟨h3,h4⟩
   ·rcases Nat.lt_or_ge b s.next with hb|hb
    ·exact .inl ⟨h.dead b o hb ho,hb⟩
    ·exact .inr ⟨hb,qQ hlt k.next⟩
   ·exact .inr ⟨qR h.next h3,h4⟩
 snew i h1 h2 x ob hx:=by
  rcases Nat.lt_or_ge i s1.next with hb|hb
  ·rw [k.same i hb] at hx
   exact h.snew i h1 hb x ob hx
  ·exact qR h.size (k.snew i hb h2 x ob hx)
 sbig i h1:=(k.sbig i h1).trans (h.sbig i (qR k.next h1))
theorem Bd.of_heap {p:Pl}{wr:Bool}{b:ABody}(h:Bd E D ρ w p wr b)(hh:w1.heap=w.heap):Bd E D ρ w1 p wr b:=by
 cases wr<;>cases b<;>first |exact h|skip
 ·refine ⟨h.1,fun j v hv=>?_⟩
  obtain ⟨v',h1,h2⟩:=h.2 j v hv
  exact ⟨v',by unfold World.cell? at*;rw [hh];exact h1,h2⟩
 ·obtain ⟨h0,cur,h1,h2⟩:=h
  exact ⟨h0,cur,by rw [hh];exact h1,h2⟩
 ·obtain ⟨es',clk,h1,h2⟩:=h
  exact ⟨es',clk,by rw [hh];exact h1,h2⟩
 ·refine ⟨?_,h.2⟩
  rw [hh];exact h.1
theorem Sim.drew (h:Sim E D ρ s w):Sim E D ρ s w.drew:=⟨h.lt,h.dn,fun i o ho=>(h.bd i o ho).of_heap rfl,h.inh,h.apart,h.gl,h.glob,h.prot⟩
theorem Ex.drew (h:Sim E D ρ s w):Ex D s ρ w D s ρ w.drew:=
 ⟨qV _,fun _ h=>h,fun _ h=> .inl h,fun _ _=>rfl,fun i o _ h=>⟨o,h⟩,fun i o h1 h2 h3=>absurd (h.low i o h2) qF,fun _ h=>h,rfl,rfl,rfl,qV _,fun _ _ _=>rfl,fun _ _ _=>rfl,fun _ _ h1 h2 _=>absurd h1 h2,fun _ h1 h2=>absurd h1 h2,fun _ h1 h2=>absurd h1 qF,fun _ _=>rfl⟩
theorem Bd.kept {p:Pl}{wr:Bool}{b:ABody}(h:Bd E D ρ w p wr b)(hD: ∀ i,D i->D1 i)(hρ: ∀ i,D i->ρ1 i=ρ i)(hh:p.blk<w.heap.size->w1.heap[p.blk]?=w.heap[p.blk]?):Bd E D1 ρ1 w1 p wr b:=by
 cases wr<;>cases b<;>first |exact h|skip
 ·refine ⟨h.1,fun j v hv=>?_⟩
  obtain ⟨v',h1,h2⟩:=h.2 j v hv
  exact ⟨v',by rw [World.cell?_of_block (hh (qX _ _ h1))];exact h1,h2.mono hD hρ⟩
 ·obtain ⟨h0,cur,h1,h2,h3,h4,h5⟩:=h
  refine ⟨h0,cur,by rw [hh (Array.getElem?_eq_some_iff.1 h1).1];exact h1,h2,h3,h4,fun j v hv=>?_⟩
  obtain ⟨v',h6,h7⟩:=h5 j v hv
  exact ⟨v',h6,h7.mono hD hρ⟩
 ·obtain ⟨es',clk,h1,h2⟩:=h
  exact ⟨es',clk,by rw [hh (Array.getElem?_eq_some_iff.1 h1).1];exact h1,h2.mono hD hρ⟩
 ·refine ⟨?_,h.2⟩
  rw [hh (Array.getElem?_eq_some_iff.1 h.1).1];exact h.1
theorem Bd.lt {p:Pl}{b:ABody}(h:Bd E D ρ w p true b):p.blk<w.heap.size:=by
 cases b
 ·obtain ⟨_,cur,h1,_⟩:=h
  exact (Array.getElem?_eq_some_iff.1 h1).1
 ·obtain ⟨es',clk,h1,_⟩:=h
  exact (Array.getElem?_eq_some_iff.1 h1).1
 ·exact (Array.getElem?_eq_some_iff.1 h.1).1
end
end
section
open Go.RowKit
def yad :Nat:=20
def ASt.new (s:ASt)(wr:Bool)(b:ABody):Option ASt:=cond (Nat.ble (s.next+2) (2 ^ yad)) (some ⟨s.heap.set yad s.next (some ⟨wr,b⟩),s.next+1,s.tc⟩) none
def ASt.put (s:ASt)(i:Nat)(b:ABody):ASt:=⟨s.heap.set yad i (some ⟨true,b⟩),s.next,i::s.tc⟩
def ASt.move (s:ASt)(i:Nat)(b:ABody):Option ASt:=cond (Nat.ble (s.next+2) (2 ^ yad)) (some ⟨(s.heap.set yad i none).set yad s.next (some ⟨true,b⟩),s.next+1,i::s.tc⟩) none
theorem zax {α:Type}{b:Bool}{x y:α}(h:cond b (some x) none=some y):b=true/\x=y:=by
 cases b
 ·cases h
 ·exact ⟨rfl,Option.some.inj h⟩
section
variable {E:Ev}{D:Nat->Prop}{s s1:ASt}{ρ:Nat->Pl}{w w1:World}{b:ABody}{wr:Bool}
def ydf (D:Nat->Prop)(n:Nat):Nat->Prop:=fun i=>D i∨i=n
def ych (ρ:Nat->Pl)(n:Nat)(p:Pl):Nat->Pl:=fun j=>if j=n then p else ρ j
theorem zao {n:Nat}{p:Pl}:ych ρ n p n=p:=if_pos rfl
theorem zam {n:Nat}{p:Pl}{i:Nat}(h:i<n):ych ρ n p i=ρ i:=if_neg (Nat.ne_of_lt h)
theorem zgj {ρ':Nat->Pl}{hp hp':Tr AObj}(h: ∀ i k ob,(ρ i).snap k=some ob->w.heap[k]?=some ob/\ ∀ b o,hp.get b=some o->o.wr=true->(ρ b).blk≠k)
 (hρ: ∀ i k ob,(ρ' i).snap k=some ob->(ρ i).snap k=some ob)
 (hf: ∀ k,k<w.heap.size->(∀ b o,hp.get b=some o->o.wr=true->(ρ b).blk≠k)->w1.heap[k]?=w.heap[k]?)
 (hw: ∀ b o,hp'.get b=some o->o.wr=true->w.heap.size<=(ρ' b).blk∨ ∃ c o',hp.get c=some o'/\o'.wr=true/\(ρ c).blk=(ρ' b).blk):
 ∀ i k ob,(ρ' i).snap k=some ob->w1.heap[k]?=some ob/\ ∀ b o,hp'.get b=some o->o.wr=true->(ρ' b).blk≠k:=by
 intro i k ob hs
 obtain ⟨h1,h2⟩:=h i k ob (hρ i k ob hs)
 have hk:=(Array.getElem?_eq_some_iff.1 h1).1
 refine ⟨(hf k hk h2).trans h1,fun b o hb hwr e=>?_⟩
 rcases hw b o hb hwr with h3|⟨c,o',h3,h4,h5⟩
 ·omega
 ·exact h2 c o' h3 h4 (h5.trans e)
theorem zen {n:Nat}{p:Pl}(hs:p.snap=ycu): ∀ i k ob,((ych ρ n p) i).snap k=some ob->(ρ i).snap k=some ob:=by
 intro i k ob h
 unfold ych at h
 split at h
 ·rw [hs] at h;cases h
 ·exact h
theorem zds {n:Nat}{p:Pl}(hs:p.snap=ycu){i:Nat}(h1:n<=i)(h2:i<n+1){k:Nat}{ob:Obj}(h:((ych ρ n p) i).snap k=some ob):False:=by
 have e:i=n:=by omega
 subst e
 rw [zao,hs] at h;cases h
theorem zav {hp:Tr AObj}{n:Nat}{tc:List Nat}{i:Nat}:(ASt.mk hp n tc).heap.get i=hp.get i:=rfl
theorem ze8 (hs:s.new wr b=some s1)(h:Sim E D ρ s w){p:Pl}(hp:p.blk=w.heap.size)(hsn:p.snap=ycu)(ho:w1.os=w.os)(ht:w1.tape=w.tape)(hu:w1.output=w.output)(hz:w.heap.size<w1.heap.size)
 (hk: ∀ k,k<w.heap.size->w1.heap[k]?=w.heap[k]?) (hb:Bd E (ydf D s.next) (ych ρ s.next p) w1 p wr b):
 s1.next=s.next+1/\Sim E (ydf D s.next) (ych ρ s.next p) s1 w1/\Ex D s ρ w (ydf D s.next) s1 (ych ρ s.next p) w1:=by
 obtain ⟨h1,rfl⟩:=zax hs
 have h2:s.next+1<2 ^ yad:=by have:=qS h1;omega
 have hget: ∀ j,(s.heap.set yad s.next (some ⟨wr,b⟩)).get j=if j=s.next then some ⟨wr,b⟩ else s.heap.get j:=Tr.get_set yad s.heap s.next (some ⟨wr,b⟩) h2
 refine ⟨rfl,⟨?_,?_,?_,?_,?_,fun g hg=> .inl (h.gl g hg),?_,zgj h.prot (zen hsn) (fun k h1 _=>hk k h1) fun j o hj hwr=>?_⟩,⟨Nat.le_succ _,fun i hi=> .inl hi,fun i hi=>hi.imp id fun e=>Nat.le_of_eq e.symm,fun i hi=>zam hi,?_,?_,fun _ h=>h,ho,ht,hu,Nat.le_of_lt hz,fun k hk' _=>hk k hk',?_,fun _ _ h1 h2 _=>absurd h1 h2,fun _ h1 h2=>absurd h1 h2,fun i h1 h2 k ob hs=>(zds hsn h1 h2 hs).elim,fun i h1=>if_neg (by have h1:s.next+1<=i:=h1;omega)⟩⟩
 ·intro i o hi
  rw [zav,hget] at hi
  split at hi
  ·rename_i e;exact .inr e
  ·exact .inl (h.lt i o hi)
 ·intro i hi
  show i<s.next+1
  rcases hi with hi|hi
  ·have:=h.dn i hi;omega
  ·omega
 ·intro i o hi
  rw [zav,hget] at hi
  split at hi
  ·rename_i e
   cases hi
   rw [e,zao]
   exact hb
  ·rw [zam (h.low i o hi)]
   exact (h.bd i o hi).kept (fun j hj=> .inl hj) (fun j hj=>zam (h.dn j hj)) (hk _)
 ·intro i o hi
  rw [zav,hget] at hi
  split at hi
  ·rename_i e
   rw [e,zao,hp];exact hz
  ·rw [zam (h.low i o hi)]
   exact Nat.lt_trans (h.inh i o hi) hz
 ·intro i j o o' hi hj hne hw
  rw [zav,hget] at hi hj
  split at hi
  ·rename_i e
   rw [if_neg qF] at hj
   rw [e,zao,zam (h.low j o' hj),hp]
   have:=h.inh j o' hj
   omega
  ·rw [zam (h.low i o hi)]
   split at hj
   ·rename_i e
    rw [e,zao,hp]
    have:=h.inh i o hi
    omega
   ·rw [zam (h.low j o' hj)]
    exact h.apart i j o o' hi hj hne hw
 ·intro g hg
  rw [zam (h.dn g (h.gl g hg))]
  exact h.glob g hg
 ·rw [hget] at hj
  split at hj
  ·rename_i e
   rw [e,zao,hp]
   exact .inl (qV _)
  ·rw [zam (h.low j o hj)]
   exact .inr ⟨j,o,hj,hwr,rfl⟩
 ·intro i o hi ho
  rw [zav,hget,if_neg qF] at ho
  exact ⟨o,ho⟩
 ·intro i o hi ho hl
  rw [zav,hget] at ho
  split at ho
  ·rename_i e
   rw [e,zao,hp] at hl
   omega
  ·exact absurd (h.low i o ho) qF
 ·intro i hi _
  rw [zav,hget,if_neg qF]
theorem zk7 {i:Nat}{b0:ABody}(hi:s.heap.get i=some ⟨true,b0⟩)(hn:i+1<2 ^ yad)(h:Sim E D ρ s w)(ho:w1.os=w.os)(ht:w1.tape=w.tape)(hu:w1.output=w.output)(hz:w.heap.size<=w1.heap.size)
 (hk: ∀ k,k<w.heap.size->k≠(ρ i).blk->w1.heap[k]?=w.heap[k]?) (hb:Bd E D ρ w1 (ρ i) true b):Sim E D ρ (s.put i b) w1/\Ex D s ρ w D (s.put i b) ρ w1:=by
 have hget: ∀ j,(s.heap.set yad i (some ⟨true,b⟩)).get j=if j=i then some ⟨true,b⟩ else s.heap.get j:=Tr.get_set yad s.heap i (some ⟨true,b⟩) hn
 have hin:=h.low i _ hi
 refine ⟨⟨?_,h.dn,?_,?_,?_,h.gl,h.glob,zgj h.prot (fun _ _ _ h=>h) (fun k h1 hno=>hk k h1 fun e=>hno i _ hi rfl e.symm) fun j o hj hwr=>?_⟩,⟨qV _,fun _ h=>h,fun _ h=> .inl h,fun i hi=>rfl,?_,?_,fun _ h=> .tail _ h,ho,ht,hu,hz,fun k hk' hf=>hk k hk' fun e=>hf i (.head _) _ hi e.symm,?_,fun b o h1 h2 h3=>by
  rcases qY h1 with e|e
  ·subst e;rw [hi] at h3;cases h3;rfl
  ·exact absurd e h2,fun b h1 h2=>by
  rcases qY h1 with e|e
  ·subst e;exact .inl ⟨⟨_,hi⟩,hin⟩
  ·exact absurd e h2,fun i h1 h2 k ob hs=>absurd h2 (by show ¬ i<s.next;omega),fun _ _=>rfl⟩⟩
 ·intro j o hj
  rw [show (s.put i b).heap.get j=_ from hget j] at hj
  split at hj
  ·rename_i e;rw [e];exact h.lt i _ hi
  ·exact h.lt j o hj
 ·intro j o hj
  rw [show (s.put i b).heap.get j=_ from hget j] at hj
  split at hj
  ·rename_i e
   cases hj
   rw [e]
   exact hb
  ·rename_i e
   exact (h.bd j o hj).kept (fun _ h=>h) (fun _ _=>rfl) fun hl=>hk _ hl (Ne.symm (h.apart i j _ o hi hj (fun e2=>e e2.symm) rfl))
 ·intro j o hj
  rw [show (s.put i b).heap.get j=_ from hget j] at hj
  split at hj
  ·rename_i e;rw [e];exact qQ (h.inh i _ hi) hz
  ·exact qQ (h.inh j o hj) hz
 ·intro j k o o' hj hk' hne hw
  rw [show (s.put i b).heap.get j=_ from hget j] at hj
  rw [show (s.put i b).heap.get k=_ from hget k] at hk'
  split at hj
  ·rename_i e
   rw [if_neg qF] at hk'
   rw [e]
   exact h.apart i k _ o' hi hk' qF rfl
  ·split at hk'
   ·rename_i e;rw [e]
    exact h.apart j i o _ hj hi qF hw
   ·exact h.apart j k o o' hj hk' hne hw
 ·rw [show (s.put i b).heap.get j=_ from hget j] at hj
  split at hj
  ·rename_i e;rw [e];exact .inr ⟨i,_,hi,rfl,rfl⟩
  ·exact .inr ⟨j,o,hj,hwr,rfl⟩
 ·intro j o hj ho
  rw [show (s.put i b).heap.get j=_ from hget j] at ho
  split at ho
  ·rename_i e;rw [e];exact ⟨_,hi⟩
  ·exact ⟨o,ho⟩
 ·intro j o hj ho hl
  rw [show (s.put i b).heap.get j=_ from hget j] at ho
  split at ho
  ·omega
  ·exact absurd (h.low j o ho) qF
 ·intro j hj hn
  rw [show (s.put i b).heap.get j=_ from hget j,if_neg (fun e=>hn (by rw [e];exact .head _))]
theorem ykz {i:Nat}{b0:ABody}(hi:s.heap.get i=some ⟨true,b0⟩)(hs:s.move i b=some s1)(h:Sim E D ρ s w){p:Pl}(hsn:p.snap=ycu)(hp:p.blk=(ρ i).blk∨p.blk=w.heap.size)(hl:p.blk<w1.heap.size)(ho:w1.os=w.os)(ht:w1.tape=w.tape)(hu:w1.output=w.output)(hz:w.heap.size<=w1.heap.size)
 (hk: ∀ k,k<w.heap.size->k≠(ρ i).blk->w1.heap[k]?=w.heap[k]?) (hb:Bd E (ydf D s.next) (ych ρ s.next p) w1 p true b):
 s1.next=s.next+1/\Sim E (ydf D s.next) (ych ρ s.next p) s1 w1/\Ex D s ρ w (ydf D s.next) s1 (ych ρ s.next p) w1:=by
 obtain ⟨h1,rfl⟩:=zax hs
 have h2:s.next+1<2 ^ yad:=by have:=qS h1;omega
 have hin:=h.low i _ hi
 have hget: ∀ j,((s.heap.set yad i none).set yad s.next (some ⟨true,b⟩)).get j=if j=s.next then some ⟨true,b⟩ else if j=i then none else s.heap.get j:=fun j=>by
  rw [Tr.get_set (α:=AObj) yad _ s.next (some ⟨true,b⟩) h2,Tr.get_set (α:=AObj) yad s.heap i none qF]
 have far: ∀ j o,s.heap.get j=some o->j≠i->(ρ j).blk≠p.blk:=fun j o hj hne e=>by
  have h3:=h.inh j o hj
  rcases hp with hp|hp
  ·exact h.apart i j _ o hi hj (Ne.symm hne) rfl (by rw [<-hp,e])
  ·omega
 refine ⟨rfl,⟨?_,?_,?_,?_,?_,fun g hg=> .inl (h.gl g hg),?_,zgj h.prot (zen hsn) (fun k h1 hno=>hk k h1 fun e=>hno i _ hi rfl e.symm) fun j o hj hwr=>?_⟩,⟨Nat.le_succ _,fun i hi=> .inl hi,fun i hi=>hi.imp id fun e=>Nat.le_of_eq e.symm,fun i hi=>zam hi,?_,?_,fun _ h=> .tail _ h,ho,ht,hu,hz,fun k hk' hf=>hk k hk' fun e=>hf i (.head _) _ hi e.symm,?_,fun b o h1 h2 h3=>by
  rcases qY h1 with e|e
  ·subst e;rw [hi] at h3;cases h3;rfl
  ·exact absurd e h2,fun b h1 h2=>by
  rcases qY h1 with e|e
  ·subst e;exact .inl ⟨⟨_,hi⟩,hin⟩
  ·exact absurd e h2,fun i h1 h2 k ob hs=>(zds hsn h1 h2 hs).elim,fun i h1=>if_neg (by have h1:s.next+1<=i:=h1;omega)⟩⟩
 ·intro j o hj
  rw [zav,hget] at hj
  split at hj
  ·rename_i e;exact .inr e
  ·split at hj
   ·cases hj
   ·exact .inl (h.lt j o hj)
 ·intro i hi
  show i<s.next+1
  rcases hi with hi|hi
  ·have:=h.dn i hi;omega
  ·omega
 ·intro j o hj
  rw [zav,hget] at hj
  split at hj
  ·rename_i e
   cases hj
   rw [e,zao]
   exact hb
  ·split at hj
   ·cases hj
   ·rename_i e2
    rw [zam (h.low j o hj)]
    exact (h.bd j o hj).kept (fun j hj=> .inl hj) (fun j hj=>zam (h.dn j hj)) fun hl=>hk _ hl (Ne.symm (h.apart i j _ o hi hj (fun e=>e2 e.symm) rfl))
 ·intro j o hj
  rw [zav,hget] at hj
  split at hj
  ·rename_i e
   rw [e,zao];exact hl
  ·split at hj
   ·cases hj
   ·rw [zam (h.low j o hj)]
    exact qQ (h.inh j o hj) hz
 ·intro j k o o' hj hk' hne hw
  rw [zav,hget] at hj hk'
  split at hj
  ·rename_i e
   rw [if_neg qF] at hk'
   split at hk'
   ·cases hk'
   ·rename_i e2
    rw [e,zao,zam (h.low k o' hk')]
    exact Ne.symm (far k o' hk' e2)
  ·split at hj
   ·cases hj
   ·rename_i e2
    rw [zam (h.low j o hj)]
    split at hk'
    ·rename_i e3
     rw [e3,zao]
     exact far j o hj e2
    ·split at hk'
     ·cases hk'
     ·rw [zam (h.low k o' hk')]
      exact h.apart j k o o' hj hk' hne hw
 ·intro g hg
  rw [zam (h.dn g (h.gl g hg))]
  exact h.glob g hg
 ·rw [hget] at hj
  split at hj
  ·rename_i e
   rw [e,zao]
   rcases hp with hp|hp
   ·exact .inr ⟨i,_,hi,rfl,hp.symm⟩
   ·exact .inl (Nat.le_of_eq hp.symm)
  ·split at hj
   ·cases hj
   ·rw [zam (h.low j o hj)]
    exact .inr ⟨j,o,hj,hwr,rfl⟩
 ·intro j o hj ho
  rw [zav,hget,if_neg qF] at ho
  split at ho
  ·cases ho
  ·exact ⟨o,ho⟩
 ·intro j o hj ho hl2
  rw [zav,hget] at ho
  split at ho
  ·rename_i e
   rw [e,zao] at hl2 ⊢
   rcases hp with hp|hp
   ·exact ⟨i, .head _,⟨_,hi⟩,hin,hp.symm⟩
   ·omega
  ·split at ho
   ·cases ho
   ·exact absurd (h.low j o ho) qF
 ·intro j hj hn
  rw [zav,hget,if_neg qF,if_neg (fun e=>hn (by rw [e];exact .head _))]
end
end
section
open Go.RowKit Go.RowKit
def yhv (s:ASt)(i o n:Nat):Option (List Value):=
 match s.heap.get i with
 |some ⟨_, .cells _ _ c⟩=>cond (Nat.ble (o+n) c.length) (some ((c.drop o).take n)) none
 |_=>none
def ygr (s:ASt)(i o:Nat)(vs:List Value):Option ASt:=
 match s.heap.get i with
 |some ⟨true, .cells e z c⟩=>cond (Nat.ble (i+2) (2 ^ yad)&&Nat.ble (o+vs.length) c.length&&vs.all yki) (some (s.put i (.cells e z (c.take o++vs++c.drop (o+vs.length))))) none
 |_=>none
def yq3 (s:ASt)(e:TypeId)(z:Nat)(vs:List Value):Option ASt:=cond (vs.all yki) (s.new true (.cells e z vs)) none
def yar :Value->List Value
 | .agg ⟨l⟩=>l
 |v=> [v]
theorem zas {α:Type}{b:Bool}{x:Option α}{y:α}(h:cond b x none=some y):b=true/\x=some y:=by
 cases b
 ·cases h
 ·exact ⟨rfl,h⟩
theorem zb2 (b o j:Nat):(⟨b,o,none⟩:Addr).add j=⟨b,o+j,none⟩:=by unfold Addr.add;split<;>simp_all
section
variable {E:Ev}{D:Nat->Prop}{s s1:ASt}{ρ:Nat->Pl}{w w1:World}{P:Program}
theorem Bd.cell {p:Pl}{wr:Bool}{e:TypeId}{z:Nat}{c:List Value}(h:Bd E D ρ w p wr (.cells e z c)){j:Nat}{v:Value}(hv:c[j]?=some v): ∃ v',w.cell? ⟨p.blk,p.off+j,none⟩=some v'/\Rv E D ρ v v':=by
 cases wr
 ·exact h.2 j v hv
 ·obtain ⟨_,cur,h1,h2,h3,h4,h5⟩:=h
  obtain ⟨v',h6,h7⟩:=h5 j v hv
  exact ⟨v',by rw [h2,Nat.zero_add];simp [World.cell?,h1,h6],h7⟩
theorem zpp {R:Nat->Value->Value->Prop}: ∀ (l:List Value) (k:Nat),(∀ j v,l[j]?=some v-> ∃ v',R (k+j) v v')-> ∃ l':List Value,l'.length=l.length/\ ∀ j v,l[j]?=some v-> ∃ v',l'[j]?=some v'/\R (k+j) v v'
 | [],_,_=>⟨[],rfl,fun j v h=>by simp at h⟩
 |a::l,k,h=>by
  obtain ⟨a',ha⟩:=h 0 a rfl
  obtain ⟨l',hl,hl'⟩:=zpp l (k+1) fun j v hv=>by
   have:=h (j+1) v (by simpa using hv)
   rwa [show k+(j+1)=k+1+j by omega] at this
  refine ⟨a'::l',by simp [hl],fun j v hv=>?_⟩
  cases j with
  |zero=>simp at hv;subst hv;exact ⟨a',rfl,ha⟩
  |succ j=>
   obtain ⟨v',h1,h2⟩:=hl' j v (by simpa using hv)
   exact ⟨v',by simpa using h1,by rwa [show k+(j+1)=k+1+j by omega]⟩
theorem zfi {i o n:Nat}{l:List Value}(hl:yhv s i o n=some l)(h:Sim E D ρ s w):
 ∃ l',Rvs E D ρ l l'/\l.length=n/\ ∀ j v,l'[j]?=some v->w.cell? ((⟨(ρ i).blk,(ρ i).off+o,none⟩:Addr).add j)=some v:=by
 unfold yhv at hl
 split at hl
 ·rename_i wr e z c hi
  obtain ⟨h1,h2⟩:=zax hl
  have h3:=qS h1
  have hb:=h.bd i _ hi
  have hlen:l.length=n:=by rw [<-h2,List.length_take,List.length_drop];omega
  obtain ⟨l',hl',hall⟩:=zpp (R:=fun j v v'=>w.cell? ⟨(ρ i).blk,(ρ i).off+o+j,none⟩=some v'/\Rv E D ρ v v') l 0 fun j v hv=>by
   rw [<-h2,List.getElem?_take] at hv
   split at hv
   ·rw [List.getElem?_drop] at hv
    obtain ⟨v',h4,h5⟩:=Bd.cell hb hv
    exact ⟨v',by rw [Nat.zero_add,Nat.add_assoc];exact h4,h5⟩
   ·cases hv
  refine ⟨l', .of_get hl' fun j v hv=>?_,hlen,fun j v hv=>?_⟩
  ·obtain ⟨v',h4,h5⟩:=hall j v hv
   exact ⟨v',h4,h5.2⟩
  ·obtain ⟨u,hu⟩: ∃ u,l[j]?=some u:=by
    have:=(qO hv).1
    exact ⟨l[j]'(by omega),List.getElem?_eq_getElem _⟩
   obtain ⟨v',h4,h5⟩:=hall j u hu
   rw [hv] at h4
   cases h4
   rw [zb2]
   have:=h5.1
   rwa [Nat.zero_add] at this
 ·cases hl
theorem zfy {v v':Value}(h:Rv E D ρ v v')(h1:(yar v).all yki=true):Rvs E D ρ (yar v) v'.cells.toList:=by
 cases h with
 |poison=>cases h1
 |opq k x hd h he=>
  have e:v'.cells= #[v']:=by
   cases v'<;>first |rfl|(cases h)
  rw [e]
  exact .cons _ _ _ _ (.opq k v' hd h he) .nil
 |flat _ h=>
  have e:yar v= [v]/\v.cells= #[v]:=by cases v<;>first |exact ⟨rfl,rfl⟩|cases h
  rw [e.1,e.2]
  exact .cons _ _ _ _ (.flat v h) .nil
 |agg l l' h=>exact h
 |tuple=>cases h1
 |ptr i o h=>exact .cons _ _ _ _ (.ptr i o h) .nil
 |slice i o n lb c h g1 h2 h3 h4=>exact .cons _ _ _ _ (.slice i o n lb c h g1 h2 h3 h4) .nil
 |empty A c=>exact .cons _ _ _ _ (.empty A c) .nil
 |map i h=>exact .cons _ _ _ _ (.map i h) .nil
 |func fn k k' l l' g h=>exact .cons _ _ _ _ (.func fn k k' l l' g h) .nil
theorem znv {e:TypeId}{z:Nat}{vs vs':List Value}(hs:yq3 s e z vs=some s1)(h:Sim E D ρ s w)(hv:Rvs E D ρ vs vs'):
 s1.next=s.next+1/\Sim E (ydf D s.next) (ych ρ s.next (ya8 (w.heap.size) 0 (z) (vs.length))) s1 (w.alloc (.cells ⟨vs'⟩ e))/\Ex D s ρ w (ydf D s.next) s1 (ych ρ s.next (ya8 (w.heap.size) 0 (z) (vs.length))) (w.alloc (.cells ⟨vs'⟩ e)):=by
 obtain ⟨h1,h2⟩:=zas hs
 refine ze8 h2 h rfl rfl rfl rfl rfl qH (fun k hk=>Below.heap_alloc w _ k hk) ⟨rfl,⟨vs'⟩,heap_alloc_new w _,rfl,hv.len.symm,Nat.le_of_eq hv.len.symm,fun j v hj=>?_⟩
 obtain ⟨u,hu,hr⟩:=hv.get hj
 exact ⟨u,by simpa using hu,hr.mono (fun i hi=> .inl hi) fun i hi=>zam (h.dn i hi)⟩
theorem zn1 {i o:Nat}{vs vs':List Value}(hs:ygr s i o vs=some s1)(h:Sim E D ρ s w)(hv:Rvs E D ρ vs vs'):
 ∃ w1,(storeCells ⟨(ρ i).blk,(ρ i).off+o,none⟩ vs').run P w= .ok () w1/\s1.next=s.next/\Sim E D ρ s1 w1/\Ex D s ρ w D s1 ρ w1:=by
 unfold ygr at hs
 split at hs
 ·rename_i e z c hi
  obtain ⟨h1,h2⟩:=zax hs
  simp only [Bool.and_eq_true] at h1
  obtain ⟨⟨h1,h3⟩,h4⟩:=h1
  have h1:=qS h1
  have h3:=qS h3
  obtain ⟨hz,cur,hc,hoff,hroom,hlen,hall⟩:=h.bd i _ hi
  have hr:=run_storeCells_at (P:=P) (ρ i).blk o e vs' 0 cur w hc (by rw [hv.len];omega) (hv.one h4)
  rw [hoff,Nat.zero_add]
  refine ⟨_,hr,by rw [<-h2];rfl,?_⟩
  rw [<-h2]
  refine zk7 hi qF h rfl rfl rfl qH (fun k _ hk=>setRow_other w _ k _ hk) ⟨hz,_,setRow_heap w _ cur _ e _ hc,hoff,?_,?_,?_⟩
  ·rw [hroom]
   simp only [List.size_toArray,List.length_append,List.length_take,List.length_drop,Array.length_toList,hv.len]
   omega
  ·simp only [List.size_toArray,List.length_append,List.length_take,List.length_drop,Array.length_toList,hv.len]
   omega
  ·intro j v hj
   have hcr:Rvs E D ρ c (cur.toList.take c.length):= .of_get (by simp;omega) fun j v hv=>by
    obtain ⟨u,hu,hr⟩:=hall j v hv
    refine ⟨u,?_,hr⟩
    rw [List.getElem?_take,if_pos (qO hv).1]
    simpa using hu
   have h5:Rvs E D ρ (c.take o++vs++c.drop (o+vs.length)) ((cur.toList.take c.length).take o++vs'++(cur.toList.take c.length).drop (o+vs.length)):=((hcr.take o).append hv).append (hcr.drop _)
   obtain ⟨u,hu,hr⟩:=h5.get hj
   refine ⟨u,?_,hr⟩
   have e1:(cur.toList.take c.length).take o=cur.toList.take o:=by rw [List.take_take];congr 1;omega
   have e2:(cur.toList.take c.length).drop (o+vs.length)=(cur.toList.drop (o+vs.length)).take (c.length - (o+vs.length)):=by rw [List.drop_take]
   rw [e1,e2] at hu
   simp only [List.getElem?_toArray,Nat.add_zero,hv.len]
   rw [List.getElem?_append] at hu ⊢
   split at hu
   ·rename_i hlt
    rw [if_pos hlt];exact hu
   ·rename_i hlt
    rw [if_neg hlt,List.getElem?_take] at*
    split at hu
    ·exact hu
    ·cases hu
 ·cases hs
end
end
section
open Go.RowKit Go.RowKit
def ydd (s:ASt):Value->Option (List (ByteArray × Value))
 | .map none=>some []
 | .map (some i)=>match s.heap.get i with
  |some ⟨true, .map es⟩=>some es
  |_=>none
 |_=>none
def Yd2 (es:List (ByteArray × Value))(k:ByteArray)(v:Value):Option (List (ByteArray × Value)):=
 match yb2 k es 0 with
 |some _=>none
 |none=>some (es++ [(k,v)])
section
variable {E:Ev}{s s1:ASt}{ρ:Nat->Pl}{w w1:World}{P:Program}{D:Nat->Prop}{t kt et:TypeId}
theorem Ents.nil :Ents E D ρ [] []:=fun k=> .inl ⟨rfl,rfl⟩
theorem zg3 (k k':ByteArray)(v:Value): ∀ (l:List (ByteArray × Value)) (i:Nat),yb2 k (l++ [(k',v)]) i=match yb2 k l i with|some r=>some r|none=>if (k==k')=true then some (i+l.length,v) else none
 | [],i=>by
  simp only [List.nil_append,yb2]
  cases h:k==k'<;>simp
 |(q,u)::l,i=>by
  have ih:=zg3 k k' v l (i+1)
  simp only [List.cons_append,yb2]
  cases h:k==q
  ·simp only [cond_false]
   rw [ih]
   cases yb2 k l (i+1) with
   |some r=>rfl
   |none=>
    simp only [List.length_cons]
    rw [show i+1+l.length=i+(l.length+1) by omega]
  ·rfl
theorem zcj (k:ByteArray)(x:MapEntry)(k':ByteArray)(hx:x.key= .string k'): ∀ (l:List MapEntry) (i:Nat),Instr.findNow .string (.string k) (l++ [x]) i=match Instr.findNow .string (.string k) l i with|some (some r)=>some (some r)|some none=>if (k==k')=true then some (some (i+l.length,x.val)) else some none|none=>none
 | [],i=>by
  simp only [List.nil_append,Instr.findNow,hx,Instr.sameNow]
  cases h:k==k'<;>simp
 |y::l,i=>by
  have ih:=zcj k x k' hx l (i+1)
  simp only [List.cons_append,Instr.findNow]
  cases h:Instr.sameNow .string (.string k) y.key with
  |none=>rfl
  |some b=>
   cases b
   ·simp only
    rw [ih]
    rw [show i+1+l.length=i+(l.length+1) by omega]
    rfl
   ·rfl
theorem Ents.push {es:List (ByteArray × Value)}{es':List MapEntry}(h:Ents E D ρ es es'){k:ByteArray}{v v':Value}(hn:yb2 k es 0=none)(hv:Rv E D ρ v v')(b:Nat):Ents E D ρ (es++ [(k,v)]) (es'++ [⟨.string k,v',b⟩]):=fun q=>by
 rw [zg3,zcj q ⟨.string k,v',b⟩ k rfl]
 rcases h q with ⟨h1,h2⟩|⟨i,u,j,u',h1,h2,h3⟩
 ·rw [h1,h2]
  cases he:q==k
  ·exact .inl ⟨rfl,rfl⟩
  ·exact .inr ⟨_,_,_,_,rfl,rfl,hv⟩
 ·rw [h1,h2]
  exact .inr ⟨i,u,j,u',rfl,rfl,h3⟩
theorem zj4 {m m':Value}{es:List (ByteArray × Value)}(hm:ydd s m=some es)(h:Sim E D ρ s w)(hr:Rv E D ρ m m'):
 (m'= .map none/\es= [])∨ ∃ b es' clk,m'= .map (some b)/\w.heap[b]?=some (.map es' clk)/\Ents E D ρ es es'.toList:=by
 unfold ydd at hm
 split at hm
 ·cases hm
  cases hr with
  |flat=>exact .inl ⟨rfl,rfl⟩
 ·rename_i i
  split at hm
  ·rename_i es0 hi
   cases hm
   cases hr with
   |flat _ h=>cases h
   |map i hi2=>
    obtain ⟨es',clk,h1,h2⟩:=h.bd i _ hi
    exact .inr ⟨_,es',clk,rfl,h1,h2⟩
  ·cases hm
 ·cases hm
theorem run_checkKey' (hk:P.underlying kt=some .string)(b:Bool)(v:Value)(w:World)(n:Nat):(Instr.checkKey b (n+1) kt v).run P w= .ok () w:=by
 simp [Instr.checkKey,run_underlying hk]
theorem run_checkKey (hk:P.underlying kt=some .string)(b:Bool)(v:Value)(w:World):(Instr.checkKey b 10000 kt v).run P w= .ok () w:=run_checkKey' hk b v w 9999
theorem zcg (hk:P.underlying kt=some .string){v:Value}{l:List MapEntry}{r:Option (Nat × Value)}(h:Instr.findNow .string v l 0=some r)(w:World):(Instr.findKey kt v l).run P w= .ok r w:=by
 simp [Instr.findKey,run_underlying hk,h]
theorem zm8 {m m':Value}{k:ByteArray}{es:List (ByteArray × Value)}{zv:Value}{i:TypeInfo}(hm:ydd s m=some es)(h:Sim E D ρ s w)(hr:Rv E D ρ m m')(ok:Bool)
 (ht:P.underlying t=some (.map kt et)) (hk:P.underlying kt=some .string) (hi:P.info? et=some i) (hz:i.zero=some zv) (hzr:Rv E D ρ zv zv):
 ∃ r,(Instr.lookup t m' (.string k) ok).run P w= .ok r w/\
  Rv E D ρ (match yb2 k es 0 with
   |some (_,v)=>if ok then .tuple ⟨[v, .bool true]⟩ else v
   |none=>if ok then .tuple ⟨[zv, .bool false]⟩ else zv) r:=by
 have fin: ∀ (es':List MapEntry),Ents E D ρ es es'-> ∃ f,Instr.findNow .string (.string k) es' 0=some f/\ ∃ r,Rv E D ρ (match yb2 k es 0 with
  |some (_,v)=>if ok then .tuple ⟨[v, .bool true]⟩ else v
  |none=>if ok then .tuple ⟨[zv, .bool false]⟩ else zv) r/\r=match f with
   |some (_,v)=>if ok then .tuple #[v, .bool true] else v
   |none=>if ok then .tuple #[zv, .bool false] else zv:=fun es' he=>by
  rcases he k with ⟨h1,h2⟩|⟨i,v,j,v',h1,h2,h3⟩
  ·refine ⟨_,h2,_,?_,rfl⟩
   rw [h1]
   cases ok
   ·exact hzr
   ·exact .tuple _ _ (.cons _ _ _ _ hzr (.cons _ _ _ _ (.flat _ rfl) .nil))
  ·refine ⟨_,h2,_,?_,rfl⟩
   rw [h1]
   cases ok
   ·exact h3
   ·exact .tuple _ _ (.cons _ _ _ _ h3 (.cons _ _ _ _ (.flat _ rfl) .nil))
 have hzero:(zeroValue et).run P w= .ok zv w:=by simp [zeroValue,typeInfo,hi,hz]
 rcases zj4 hm h hr with ⟨rfl,rfl⟩|⟨b,es',clk,rfl,hb,he⟩
 ·obtain ⟨f,hf,r,hr,rfl⟩:=fin [] Ents.nil
  refine ⟨_,?_,hr⟩
  cases hf
  cases ok<;>simp [Instr.lookup,run_underlying ht,run_checkKey hk,zcg hk (show Instr.findNow .string (.string k) [] 0=some none from rfl),hzero]
 ·obtain ⟨f,hf,r,hr,rfl⟩:=fin es'.toList he
  refine ⟨_,?_,hr⟩
  have hg:(getObj b).run P w= .ok (.map es' clk) w:=by simp [getObj,Sem.run,hb]
  cases f with
  |none=>cases ok<;>simp [Instr.lookup,run_underlying ht,hg,run_checkKey hk,zcg hk hf,hzero]
  |some x=>obtain ⟨j,x⟩:=x;cases ok<;>simp [Instr.lookup,run_underlying ht,hg,run_checkKey hk,zcg hk hf]
theorem zm9 {i:Nat}{m':Value}{k:ByteArray}{v v':Value}{es es2:List (ByteArray × Value)}(hi:s.heap.get i=some ⟨true, .map es⟩)(hn:Nat.ble (i+2) (2 ^ yad)=true)(hput:Yd2 es k v=some es2)(h:Sim E D ρ s w)(hr:Rv E D ρ (.map (some i)) m')(hv:Rv E D ρ v v')
 (ht:P.underlying t=some (.map kt et)) (hk:P.underlying kt=some .string):
 ∃ w1,(Instr.mapUpdate t m' (.string k) v').run P w= .ok () w1/\Sim E D ρ (s.put i (.map es2)) w1/\Ex D s ρ w D (s.put i (.map es2)) ρ w1:=by
 have hn:=qS hn
 unfold Yd2 at hput
 split at hput
 ·cases hput
 ·rename_i hno
  cases hput
  cases hr with
  |flat _ h=>cases h
  |map i hi2=>
   obtain ⟨es',clk,hb,he⟩:=h.bd i _ hi
   have hg:(getObj (ρ i).blk).run P w= .ok (.map es' clk) w:=by simp [getObj,Sem.run,hb]
   have hset : ∀ o, (setObj (ρ i).blk o).run P w = .ok () { w with heap := w.heap.setIfInBounds (ρ i).blk o } := fun o => by simp [setObj, Sem.run, hb]
   have hlt:(ρ i).blk<w.heap.size:=(Array.getElem?_eq_some_iff.1 hb).1
   have h6:Instr.findNow .string (.string k) es'.toList 0=some none:=by
    rcases he k with ⟨_,h2⟩|⟨_,_,_,_,h1,_⟩
    ·exact h2
    ·rw [hno] at h1;cases h1
   obtain ⟨k1, k2⟩ := zk7 (ρ := ρ) (w1 := { w with heap := w.heap.setIfInBounds (ρ i).blk (.map (es'.push ⟨.string k, v', clk⟩) (clk + 1)) }) hi qF h rfl rfl rfl qH (fun k _ hk => by
    show (w.heap.setIfInBounds (ρ i).blk _)[k]?=_
    rw [Array.getElem?_setIfInBounds,if_neg (Ne.symm hk)]) (b:= .map (es++ [(k,v)])) ⟨es'.push ⟨.string k,v',clk⟩,clk+1,by
    show (w.heap.setIfInBounds (ρ i).blk _)[(ρ i).blk]?=_
    rw [Array.getElem?_setIfInBounds,if_pos rfl,if_pos hlt],by rw [Array.toList_push];exact he.push hno hv clk⟩
   refine ⟨_,?_,k1,k2⟩
   simp [Instr.mapUpdate,run_underlying ht,hg,run_checkKey hk,zcg hk h6,hset]
end
section
variable {E:Ev}{s s1:ASt}{ρ:Nat->Pl}{w w1:World}{P:Program}{D:Nat->Prop}{t:TypeId}
theorem znx {str:ByteArray}(hs:s.new true (.iter str 0)=some s1)(h:Sim E D ρ s w)(ht:P.underlying t=some .string):
 ∃ r w1 ρ1 D1,(Instr.range t (.string str)).run P w= .ok r w1/\Rv E D1 ρ1 (.pointer (some ⟨s.next,0,none⟩)) r/\Sim E D1 ρ1 s1 w1/\Ex D s ρ w D1 s1 ρ1 w1:=by
 obtain ⟨k1,k2,k3⟩:=ze8 (ρ:=ρ) (p:=(ya8 (w.heap.size) 0 (1) (0))) (w1:=w.alloc (.stringIter str 0)) hs h rfl rfl rfl rfl rfl qH (fun k hk=>Below.heap_alloc w _ k hk) ⟨heap_alloc_new w _,rfl⟩
 refine ⟨.pointer (some ⟨w.heap.size,0,none⟩),_,_,_,?_,?_,k2,k3⟩
 ·simp [Instr.range,run_underlying ht]
 ·have:=Rv.ptr (E:=E) (D:=ydf D s.next) (ρ:=ych ρ s.next (ya8 (w.heap.size) 0 (1) (0))) s.next 0 (.inr rfl)
  rwa [zao] at this
def yng (s:ASt)(v:Value):Option (Value × ASt):=
 match v with
 | .pointer (some ⟨i,0,none⟩)=>match s.heap.get i with
  |some ⟨true, .iter str pos⟩=>cond (Nat.ble (i+2) (2 ^ yad)) (cond (Nat.ble (pos+1) str.size)
   (match Utf8.decode str pos with
   |(c,width)=>some (.tuple ⟨[.bool true, .int .i64 pos, .int .i32 c]⟩,s.put i (.iter str (pos+width))))
   (some (.tuple ⟨[.bool false]⟩,s))) none
  |_=>none
 |_=>none
theorem yi7 {v v' r:Value}(hs:yng s v=some (r,s1))(h:Sim E D ρ s w)(hr:Rv E D ρ v v')(hoff:True):
 ∃ r' w1,(Instr.next v' true t).run P w= .ok r' w1/\Rv E D ρ r r'/\Sim E D ρ s1 w1/\Ex D s ρ w D s1 ρ w1:=by
 unfold yng at hs
 split at hs
 ·rename_i i
  split at hs
  ·rename_i str pos hi
   obtain ⟨h1,h2⟩:=zas hs
   have h1:=qS h1
   obtain ⟨hb,hoff⟩:=h.bd i _ hi
   have hg:(getObj (ρ i).blk).run P w= .ok (.stringIter str pos) w:=by simp [getObj,Sem.run,hb]
   have hset : ∀ o, (setObj (ρ i).blk o).run P w = .ok () { w with heap := w.heap.setIfInBounds (ρ i).blk o } := fun o => by simp [setObj, Sem.run, hb]
   have hlt:(ρ i).blk<w.heap.size:=(Array.getElem?_eq_some_iff.1 hb).1
   cases hr with
   |flat _ h=>cases h
   |ptr i o hi2=>
    rw [hoff]
    cases hc:Nat.ble (pos+1) str.size
    ·rw [hc] at h2
     cases h2
     have hn: ¬ pos<str.size:=fun hlt=>by
      have:=Nat.ble_eq_true_of_le (show pos+1<=str.size from hlt)
      rw [hc] at this;cases this
     refine ⟨.tuple ⟨[.bool false]⟩,w,?_, .tuple _ _ (.cons _ _ _ _ (.flat _ rfl) .nil),h,Ex.refl h⟩
     simp [Instr.next,hg,hn]
    ·rw [hc] at h2
     have hn:pos<str.size:=qS hc
     generalize hd:Utf8.decode str pos=d at h2
     obtain ⟨c,width⟩:=d
     cases h2
     obtain ⟨k1, k2⟩ := zk7 (ρ := ρ) (w1 := { w with heap := w.heap.setIfInBounds (ρ i).blk (.stringIter str (pos + width)) }) hi qF h rfl rfl rfl qH (fun k _ hk => by
      show (w.heap.setIfInBounds (ρ i).blk _)[k]?=_
      rw [Array.getElem?_setIfInBounds,if_neg (Ne.symm hk)]) (b:= .iter str (pos+width)) ⟨by
      show (w.heap.setIfInBounds (ρ i).blk _)[(ρ i).blk]?=_
      rw [Array.getElem?_setIfInBounds,if_pos rfl,if_pos hlt],hoff⟩
     refine ⟨.tuple ⟨[.bool true, .int .i64 pos, .int .i32 c]⟩,_,?_, .tuple _ _ (.cons _ _ _ _ (.flat _ rfl) (.cons _ _ _ _ (.flat _ rfl) (.cons _ _ _ _ (.flat _ rfl) .nil))),k1,k2⟩
     simp [Instr.next,hg,hn,hd,hset,goInt]
  ·cases hs
 ·cases hs
end
end
section
open Go.RowKit Go.RowKit
def ynf (s:ASt)(z:Nat):Value->Option (Nat × List Value)
 | .slice none 0 0=>some (0,[])
 | .slice (some ⟨0,0,some 0⟩) 0 0=>some (0,[])
 | .slice (some ⟨i,o,none⟩) m _=>match yhv s i o (m*z) with
  |some l=>some (m,l)
  |none=>none
 |_=>none
def yfx (s:ASt)(e:TypeId)(z bytes:Nat)(v x:Value):Option (Value × ASt):=
 match v,ynf s z x with
 | .slice A n c,some (0,_)=>cond (Nat.ble n c) (some (.slice A n c,s)) none
 | .slice none 0 0,some (m+1,l)=>cond (Nat.ble ((m+1)*bytes) 100000000&&Nat.ble (m+1) 100000000) (match yq3 s e z l with
  |some s1=>some (.slice (some ⟨s.next,0,none⟩) (m+1) (m+1),s1)
  |none=>none) none
 | .slice (some ⟨i,0,none⟩) n _,some (m+1,l)=>match s.heap.get i with
  |some ⟨true, .cells e' z' c⟩=>cond (Nat.beq e' e&&Nat.beq z' z&&Nat.ble (n*z) c.length&&l.all yki&&Nat.ble ((n+(m+1))*bytes) 100000000&&Nat.ble (n+(m+1)) 100000000) (match s.move i (.cells e z (c.take (n*z)++l)) with
   |some s1=>some (.slice (some ⟨s.next,0,none⟩) (n+(m+1)) (n+(m+1)),s1)
   |none=>none) none
  |_=>none
 |_,_=>none
section
variable {E:Ev}{s s1:ASt}{ρ:Nat->Pl}{w w1:World}{P:Program}{D:Nat->Prop}{t e ty:TypeId}{i:TypeInfo}{z bytes:Nat}{zv:Value}
theorem zgo (ht:P.underlying t=some (.slice e))(hi:P.info? e=some i)(A B:Option Addr)(n c d:Nat)(h:n<=c):(Builtin.append_ #[t,t] ty #[.slice A n c, .slice B 0 d]).run P w= .ok (.slice A n c) w:=by
 have hf: ∀ sz,(Builtin.firstCells sz 0 (.slice B 0 d)).run P w= .ok #[] w:=fun sz=>by
  cases B<;>simp [Builtin.firstCells,loadCells,loadCellsFrom]
 cases A<;>simp [Builtin.append_,run_underlying ht,sizeOf,typeInfo,hi,Builtin.lenOf,hf,h,storeCells]
theorem zhv {x x':Value}{m:Nat}{l:List Value}(hx:ynf s z x=some (m,l))(h:Sim E D ρ s w)(hr:Rv E D ρ x x'):
 ∃ A d,x'= .slice A m d/\(0<m-> ∃ ad l',A=some ad/\Rvs E D ρ l l'/\l.length=m*z/\ ∀ j v,l'[j]?=some v->w.cell? (ad.add j)=some v):=by
 unfold ynf at hx
 split at hx
 ·cases hx
  cases hr with
  |flat=>exact ⟨_,_,rfl,fun h=>absurd h qF⟩
 ·cases hx
  cases hr with
  |flat _ h=>cases h
  |empty A c=>exact ⟨_,_,rfl,fun h=>absurd h qF⟩
 ·rename_i i o m' _
  split at hx
  ·rename_i l2 hl
   cases hx
   obtain ⟨l',h1,h2,h3⟩:=zfi hl h
   cases hr with
   |flat _ h=>cases h
   |slice i o n lb c=>exact ⟨_,_,rfl,fun _=>⟨_,l',rfl,h1,h2,h3⟩⟩
  ·cases hx
 ·cases hx
theorem zm4 {v x v' x' r:Value}(hs:yfx s e z bytes v x=some (r,s1))(h:Sim E D ρ s w)(hv:Rv E D ρ v v')(hx:Rv E D ρ x x')
 (ht:P.underlying t=some (.slice e)) (hi:P.info? e=some i) (hz:i.zero=some zv) (hsz:i.size=z) (hby:i.bytes=bytes) (hzs:zv.cells.size=z) (hz0:0<z):
 ∃ r' w1 ρ1 D1,(Builtin.append_ #[t,t] ty #[v',x']).run P w= .ok r' w1/\Rv E D1 ρ1 r r'/\Sim E D1 ρ1 s1 w1/\Ex D s ρ w D1 s1 ρ1 w1:=by
 unfold yfx at hs
 split at hs
 ·rename_i A n c l hn
  obtain ⟨h1,h2⟩:=zax hs
  cases h2
  obtain ⟨B,d,rfl,_⟩:=zhv hn h hx
  have h1:=qS h1
  have hform: ∃ A' n' c',v'= .slice A' n' c'/\n'<=c':=by
   cases hv with
   |flat _ hf=>exact ⟨_,_,_,rfl,h1⟩
   |slice i o n lb c h g1 g2 g3 g4=>exact ⟨_,_,_,rfl,by omega⟩
   |empty A c=>exact ⟨_,_,_,rfl,by omega⟩
  obtain ⟨A',n',c',rfl,h3⟩:=hform
  exact ⟨_,w,ρ,D,zgo ht hi _ _ _ _ _ h3,hv,h,Ex.refl h⟩
 ·rename_i m l hn
  obtain ⟨h1,h2⟩:=zas hs
  simp only [Bool.and_eq_true] at h1
  obtain ⟨h1,h3⟩:=h1
  have h1:=qS h1
  have h3:=qS h3
  split at h2
  ·rename_i s2 hs2
   cases h2
   obtain ⟨B,d,rfl,hB⟩:=zhv hn h hx
   obtain ⟨ad,l',rfl,hl,hll,hlc⟩:=hB qF
   have hall:=(zas hs2).1
   cases hv with
   |flat _ hf=>
    obtain ⟨r',w1,hr,hown,hgrow,hnil,hat⟩:=run_append_own_at (P:=P) w 0 t ty e i zv z bytes ht hi hz hsz hby hzs hz0 (.slice none 0 0) 0 [] (World.ownsRow_nil w 0 e z) ad (m+1) d l' (by rw [hl.len,hll]) hlc (hl.one hall) (by unfold maxLen;omega) (by rw [Nat.zero_add];omega) (Nat.zero_le _)
    rcases hown.2 with ⟨e1,e2⟩|⟨g,cap,cur,rfl,_,hg,hnc,hcm,hcs,htk⟩
    ·omega
    ·have hgs:g=w.heap.size:=by rcases hat with hat|hat<;>simp [Value.ownBlock] at hat<;>exact hat
     rw [Nat.zero_add,List.nil_append] at htk
     rw [Nat.zero_add] at hnc
     have hlen:l.length<=cur.size:=by rw [hll,hcs];exact Nat.mul_le_mul_right _ hnc
     obtain ⟨k1,k2,k3⟩:=ze8 (ρ:=ρ) (p:=(ya8 g 0 z cur.size)) (zas hs2).2 h hgs rfl hgrow.os hgrow.tape hgrow.output (by rw [<-hgs];exact (Array.getElem?_eq_some_iff.1 hg).1) (fun k hk=>hgrow.block k hk (by simp [Value.ownBlock])) ⟨rfl,cur,hg,rfl,rfl,hlen,fun j u hj=>by
      obtain ⟨u',hu,hr⟩:=hl.get hj
      refine ⟨u',?_,hr.mono (fun i hi=> .inl hi) fun i hi=>zam (h.dn i hi)⟩
      rw [<-htk,List.getElem?_take] at hu
      split at hu
      ·simpa using hu
      ·cases hu⟩
     refine ⟨_,w1,_,_,hr,?_,k2,k3⟩
     have:=Rv.slice (E:=E) (D:=ydf D s.next) (ρ:=ych ρ s.next (ya8 g 0 z cur.size)) s.next 0 (m+1) (m+1) cap (.inr rfl) (qV _) qF hcm (by rw [zao];show 0+cap*z=cur.size;omega)
     rw [zao] at this
     rwa [Nat.zero_add]
  ·cases h2
 ·rename_i i0 n lb m l hn
  split at hs
  ·rename_i e' z' c hi0
   obtain ⟨h1,h2⟩:=zas hs
   simp only [Bool.and_eq_true] at h1
   obtain ⟨⟨⟨⟨⟨h1,h3⟩,h4⟩,h5⟩,h6⟩,h7⟩:=h1
   have h1:=qU h1
   have h3:=qU h3
   subst h1
   subst h3
   have h4:=qS h4
   have h6:=qS h6
   have h7:=qS h7
   split at h2
   ·rename_i s2 hs2
    cases h2
    obtain ⟨B,d,rfl,hB⟩:=zhv hn h hx
    obtain ⟨ad,l',rfl,hl,hll,hlc⟩:=hB qF
    obtain ⟨hz2,cur,hcur,hoff,hroom,hlen,hall⟩:=h.bd i0 _ hi0
    cases hv with
    |flat _ hf=>cases hf
    |slice i o n lb cap hlt g1 g2 g3 g4=>
     have hcr:Rvs E D ρ (c.take (n*z')) (cur.toList.take (n*z')):= .of_get (by simp;omega) fun j v hv=>by
      rw [List.getElem?_take] at hv
      split at hv
      ·rename_i hj
       obtain ⟨u,hu,hr⟩:=hall j v hv
       exact ⟨u,by rw [List.getElem?_take,if_pos hj];simpa using hu,hr⟩
      ·cases hv
     have hcs:cur.size=cap*z':=by rw [hroom,hz2] at g4;omega
     obtain ⟨r',w1,hr,hown,hgrow,hnil,hat⟩:=run_append_own_at (P:=P) w 0 t ty e' _ zv z' bytes ht hi hz hsz hby hzs hz0 (.slice (some ⟨(ρ i0).blk,0,none⟩) n cap) n (cur.toList.take (n*z')) ⟨by rw [List.length_take,Array.length_toList,hcs];exact Nat.min_eq_left (Nat.mul_le_mul_right _ qF), .inr ⟨_,cap,cur,rfl,Nat.zero_le _,hcur,by omega,g3,hcs,rfl⟩⟩ ad (m+1) d l' (by rw [hl.len,hll]) hlc (hl.one h5) (by unfold maxLen;omega) qF (Nat.zero_le _)
     rcases hown.2 with ⟨e1,e2⟩|⟨g,cap2,cur2,rfl,_,hg,hnc,hcm,hcs2,htk⟩
     ·omega
     ·have hgs:g=(ρ i0).blk∨g=w.heap.size:=by simpa [Value.ownBlock] using hat
      have hfull:=hcr.append hl
      have hl2:(c.take (n*z')++l).length<=cur2.size:=by
       rw [<-hfull.len,<-htk,List.length_take]
       simp;omega
      obtain ⟨k1,k2,k3⟩:=ykz (ρ:=ρ) (p:=(ya8 g 0 z' cur2.size)) hi0 hs2 h rfl hgs (Array.getElem?_eq_some_iff.1 hg).1 hgrow.os hgrow.tape hgrow.output hgrow.size (fun k hk hne=>hgrow.block k hk (by simp [Value.ownBlock];exact hne)) ⟨rfl,cur2,hg,rfl,rfl,hl2,fun j u hj=>by
       obtain ⟨u',hu,hr⟩:=hfull.get hj
       refine ⟨u',?_,hr.mono (fun i hi=> .inl hi) fun i hi=>zam (h.dn i hi)⟩
       rw [<-htk,List.getElem?_take] at hu
       split at hu
       ·simpa using hu
       ·cases hu⟩
      refine ⟨_,w1,_,_,by rw [hoff];exact hr,?_,k2,k3⟩
      have:=Rv.slice (E:=E) (D:=ydf D s.next) (ρ:=ych ρ s.next (ya8 g 0 z' cur2.size)) s.next 0 (n+(m+1)) (n+(m+1)) cap2 (.inr rfl) (qV _) qF hcm (by rw [zao];show 0+cap2*z'=cur2.size;omega)
      rwa [zao] at this
   ·cases h2
  ·cases hs
 ·cases hs
end
end
section
open Go.RowKit Go.RowKit
structure TI where
 desc:TypeDesc
 size:Nat
 bytes:Nat
 zero:Value
 flds:List (Nat × Nat × Bool)
def yi1 :TypeDesc->Bool
 | .struct _=>true
 | .array _ _=>true
 |_=>false
def yay :Value->Bool
 | .agg ⟨l⟩=>l.all ybx
 | .tuple ⟨[]⟩=>true
 |v=>ybx v
structure Tbl where
 ty:Nat->Option TI
 fn:Nat->Option Func
 eqs:Nat->Bool
 sp:Nat->Option (List Value->ASt->Option (Value × ASt))
 ex:Nat->Option (List Value->Option Value)
 hint:BinOp->Value->Value->Option Value
 hlen:Value->Option Value
def yql :Value->Bool
 | .chan (some _)=>true
 |_=>false
def okH :Value->Bool
 | .chan (some _)=>true
 |v=>ybx v
def HV (E:Ev)(x x':Value):Prop:=(ybx x=true/\x'=x)∨ ∃ k snap,x= .chan (some k)/\E (k % 1024) x' snap
def HR (E:Ev)(r r':Value):Prop:=(ybx r=true/\r'=r)∨ ∃ k,r= .chan (some k)/\k / 1024<yfg/\r'.oneCell'=true/\ ∀ snap,E (k % 1024) r' snap
structure TyOk (P:Program)(t:TypeId)(i:TI):Prop where
 und:P.underlying t=some i.desc
 info: ∃ f,P.info? t=some f/\f.zero=some i.zero/\f.size=i.size/\f.bytes=i.bytes
 zs:i.zero.cells.size=i.size
 fs: ∀ fs,i.desc= .struct fs-> ∀ (k:Nat) (f:Field),fs[k]?=some f-> ∃ sz ag d g,i.flds[k]?=some (f.offset,sz,ag)/\P.underlying f.type=some d/\yi1 d=ag/\P.info? f.type=some g/\g.size=sz
 fl: ∀ fs,i.desc= .struct fs->fs.size=i.flds.length
section
variable {E:Ev}{s s1:ASt}{ρ:Nat->Pl}{w w1:World}{P:Program}{D D1:Nat->Prop}{t:TypeId}{i:TI}
theorem zgq {v:Value}(h:yay v=true):Rv E D ρ v v:=by
 unfold yay at h
 split at h
 ·rename_i l
  refine .agg l l ?_
  induction l with
  |nil=>exact .nil
  |cons a l ih=>
   simp only [List.all_cons,Bool.and_eq_true] at h
   exact .cons _ _ _ _ (.flat _ h.1) (ih h.2)
 ·exact .tuple _ _ .nil
 ·exact .flat _ h
theorem TyOk.run_und (h:TyOk P t i)(w:World):(underlying t).run P w= .ok i.desc w:=run_underlying h.und w
theorem TyOk.run_size (h:TyOk P t i)(w:World):(sizeOf t).run P w= .ok i.size w:=by
 obtain ⟨f,h1,h2,h3,h4⟩:=h.info
 simp [sizeOf,typeInfo,h1,h3]
theorem TyOk.run_zero (h:TyOk P t i)(w:World):(zeroValue t).run P w= .ok i.zero w:=by
 obtain ⟨f,h1,h2,h3,h4⟩:=h.info
 simp [zeroValue,typeInfo,h1,h2]
theorem zc0 {d:TypeDesc}(h:P.underlying t=some d)(w:World):(isAgg t).run P w= .ok (yi1 d) w:=by
 unfold isAgg
 simp only [Sem.run_bind,run_underlying h,Result.andThen_ok]
 cases d<;>rfl
def Runs (E:Ev)(P:Program)(D:Nat->Prop)(s s1:ASt)(ρ:Nat->Pl)(w:World)(m:Sem Value)(r:Value):Prop:=
 ∃ r' w1 ρ1 D1,m.run P w= .ok r' w1/\Rv E D1 ρ1 r r'/\Sim E D1 ρ1 s1 w1/\Ex D s ρ w D1 s1 ρ1 w1
theorem Runs.quiet (h:Sim E D ρ s w){m:Sem Value}{r r':Value}(hm:m.run P w= .ok r' w)(hr:Rv E D ρ r r'):Runs E P D s s ρ w m r:=⟨r',w,ρ,D,hm,hr,h,Ex.refl h⟩
theorem zhf {fn:Fn}{k l:List Value}(h:ybx (.func fn ⟨k⟩ ⟨l⟩)=true):k= []/\l= []:=by
 cases k<;>cases l<;>first |exact ⟨rfl,rfl⟩|cases h
theorem HV.of {x x':Value}(h:Rv E D ρ x x')(hk:okH x=true):HV E x x':=by
 cases h with
 |poison=>cases hk
 |opq k v hd h he=>exact .inr ⟨k,_,rfl,he⟩
 |flat v h=>exact .inl ⟨h,rfl⟩
 |func fn k k' l l' g h=>
  have hk:ybx (.func fn ⟨k⟩ ⟨l⟩)=true:=hk
  obtain ⟨rfl,rfl⟩:=zhf hk
  cases g
  cases h
  exact .inl ⟨rfl,rfl⟩
 |_=>cases hk
theorem HR.rv {r r':Value}(h:HR E r r')(hs:Sim E D ρ s w):Rv E D ρ r r':=by
 rcases h with ⟨h,rfl⟩|⟨k,rfl,h1,h2,h3⟩
 ·exact .flat _ h
 ·exact .opq k r' (hs.gl _ h1) h2 (h3 _)
def yhs (i:TI)(a:Value)(k:Nat):Option Value:=
 match i.desc,a,i.flds[k]? with
 | .struct _, .pointer (some ⟨b,o,none⟩),some (off,sz,_)=>cond (Nat.beq sz 0) none (some (.pointer (some ⟨b,o+off,none⟩)))
 |_,_,_=>none
theorem znp (hi:TyOk P t i){a a' r:Value}{k:Nat}(hf:yhs i a k=some r)(h:Sim E D ρ s w)(ha:Rv E D ρ a a'):Runs E P D s s ρ w (Instr.fieldAt t a' k) r:=by
 unfold yhs at hf
 split at hf
 ·rename_i fs b o off sz ag hd hk
  cases hz:Nat.beq sz 0
  ·rw [hz] at hf
   cases hf
   cases ha with
   |flat _ h=>cases h
   |ptr b o hb=>
    have hlen:=hi.fl fs hd
    obtain ⟨f,hfk⟩: ∃ f,fs[k]?=some f:=by
     have:=(qO hk).1
     exact ⟨fs[k]'(by omega),Array.getElem?_eq_getElem _⟩
    obtain ⟨sz',ag',d,g,h1,h2,h3,h4,h5⟩:=hi.fs fs hd k f hfk
    rw [hk] at h1
    injection h1 with h1
    injection h1 with h6 h7
    injection h7 with h7 h8
    have hsz:(sizeOf f.type).run P w= .ok sz w:=by simp [sizeOf,typeInfo,h4,h5,h7]
    have hne: ¬ sz=0:=fun e=>by rw [e] at hz;cases hz
    refine .quiet h (r':= .pointer (some ⟨(ρ b).blk,(ρ b).off+o+off,none⟩)) ?_ ?_
    ·simp [Instr.fieldAt,hi.run_und,hd,hfk,Instr.sureAddr,fieldPlace,hsz,hne,zb2,h6]
    ·have:=Rv.ptr (E:=E) (D:=D) (ρ:=ρ) b (o+off) hb
     rwa [<-Nat.add_assoc] at this
  ·rw [hz] at hf;cases hf
 ·cases hf
end
end
section
open Go.RowKit Go.RowKit
section
variable {E:Ev}{s s1:ASt}{ρ:Nat->Pl}{w w1:World}{P:Program}{D D1:Nat->Prop}{t:TypeId}{i:TI}
theorem ziw (off:Nat): ∀ (vs:List Value) (k:Nat) (cs:Array Value),off+k+vs.length<=cs.size->
 ((vs.zipIdx k).foldl (fun (cs:Array Value) (p:Value × Nat)=>cs.setIfInBounds (off+p.2) p.1) cs).toList=cs.toList.take (off+k)++vs++cs.toList.drop (off+k+vs.length)
 | [],k,cs,_=>by simp
 |v::vs,k,cs,h=>by
  simp only [List.length_cons] at h
  have ih:=ziw off vs (k+1) (cs.setIfInBounds (off+k) v) (by simp;omega)
  simp only [List.zipIdx_cons,List.foldl_cons]
  rw [ih]
  have e:=list_seg_step cs.toList (off+k) v vs (by simp;omega)
  simpa [Array.toList_setIfInBounds,Nat.add_assoc] using e
def yht (place:Nat->Option (Nat × Nat)):List Value->List (Nat × Value)->Option (List Value)
 |cells,[]=>some cells
 |cells,(k,v)::rest=>match place k with
  |none=>none
  |some (off,size)=>cond (Nat.beq (yar v).length size&&Nat.ble (off+size) cells.length&&(yar v).all yki) (yht place (cells.take off++yar v++cells.drop (off+size)) rest) none
inductive Prts (E:Ev)(D:Nat->Prop)(ρ:Nat->Pl):List (Nat × Value)->List (Nat × Value)->Prop
 |nil:Prts E D ρ [] []
 |cons (k:Nat) (a b:Value) (l m:List (Nat × Value)) (h:Rv E D ρ a b) (t:Prts E D ρ l m):Prts E D ρ ((k,a)::l) ((k,b)::m)
theorem zhs {place place':Nat->Option (Nat × Nat)}(hp: ∀ k x,place k=some x->place' k=some x): ∀ (cells cells' r:List Value) (ps ps':List (Nat × Value)),yht place cells ps=some r->Rvs E D ρ cells cells'->Prts E D ρ ps ps'->
 ∃ r':List Value,Instr.fill place' ⟨cells'⟩ ps'=some ⟨r'⟩/\Rvs E D ρ r r'/\r.length=cells.length
 |cells,cells',r,[],_,h,hc, .nil=>by
  cases h
  exact ⟨cells',rfl,hc,rfl⟩
 |cells,cells',r,(k,v)::ps,_,h,hc, .cons _ _ v' _ ps' hv ht=>by
  unfold yht at h
  split at h
  ·cases h
  ·rename_i off size hpk
   obtain ⟨h1,h2⟩:=zas h
   simp only [Bool.and_eq_true] at h1
   obtain ⟨⟨h1,h3⟩,h4⟩:=h1
   have h1:=qU h1
   have h3:=qS h3
   have hvc:=zfy hv h4
   have hvl:v'.cells.toList.length=size:=by rw [hvc.len,h1]
   have hseg:=ziw off v'.cells.toList 0 ⟨cells'⟩ (by rw [Nat.add_zero,hvl];simpa [hc.len] using h3)
   rw [Nat.add_zero,hvl] at hseg
   have hnew:Rvs E D ρ (cells.take off++yar v++cells.drop (off+size)) (cells'.take off++v'.cells.toList++cells'.drop (off+size)):=((hc.take off).append hvc).append (hc.drop _)
   obtain ⟨r',k1,k2,k3⟩:=zhs hp _ _ r ps ps' h2 hnew ht
   refine ⟨r',?_,k2,?_⟩
   ·have hfold:(Array.foldl (fun (cs:Array Value) (p:Value × Nat)=>cs.setIfInBounds (off+p.2) p.1) (⟨cells'⟩:Array Value) v'.cells.zipIdx)=⟨cells'.take off++v'.cells.toList++cells'.drop (off+size)⟩:=by
     apply Array.ext'
     rw [<-Array.foldl_toList,Array.toList_zipIdx]
     exact hseg
    have hsz:v'.cells.size=size:=by simpa using hvl
    have hcs:cells'.length=cells.length:=hc.len
    rw [Instr.fill,hp k _ hpk]
    simp only [hsz]
    rw [if_neg (by simp [hcs];omega)]
    rw [show (v'.cells.zipIdx.foldl (fun cs x=>match x with|(c,j)=>cs.setIfInBounds (off+j) c) (⟨cells'⟩:Array Value))=⟨cells'.take off++v'.cells.toList++cells'.drop (off+size)⟩ from hfold]
    exact k1
   ·rw [k3]
    simp only [List.length_append,List.length_take,List.length_drop,h1]
    omega
def yhn (i:TI)(ps:List (Nat × Value)):Option Value:=
 match i.desc with
 | .struct _=>cond (yay i.zero) (match yht (fun k=>match i.flds[k]? with|some (off,sz,_)=>some (off,sz)|none=>none) (yar i.zero) ps with
   |some l=>some (.agg ⟨l⟩)
   |none=>none) none
 |_=>none
theorem zfc {v:Value}(h:yay v=true)(h2:(∃ l,v= .agg l)∨ybx v=true):Rvs E D ρ (yar v) v.cells.toList:=by
 rcases h2 with ⟨⟨l⟩,rfl⟩|h2
 ·have:=zgq (E:=E) (D:=D) (ρ:=ρ) h
  cases this with
  |flat _ h=>cases h
  |agg _ _ h=>exact h
 ·have e:yar v= [v]/\v.cells= #[v]:=by cases v<;>first |exact ⟨rfl,rfl⟩|cases h2
  rw [e.1,e.2]
  exact .cons _ _ _ _ (.flat v h2) .nil
theorem zdy {v:Value}(h:yay v=true)(hs:v.cells.size≠0∨True):Rvs E D ρ (yar v) v.cells.toList:=by
 unfold yay at h
 split at h
 ·rename_i l;exact zfc (by unfold yay;exact h) (.inl ⟨_,rfl⟩)
 ·exact .cons _ _ _ _ (.tuple _ _ .nil) .nil
 ·exact zfc (by unfold yay;split<;>first |exact h|cases h|rfl) (.inr h)
theorem zjd : ∀ (fs:List Field) (flds:List (Nat × Nat × Bool)) (w:World),flds.length=fs.length->(∀ (k:Nat) (f:Field),fs[k]?=some f-> ∃ sz ag g,flds[k]?=some (f.offset,sz,ag)/\P.info? f.type=some g/\g.size=sz)->
 (fs.mapM (m:=Sem) fun f=>do pure (f.offset,<-sizeOf f.type)).run P w= .ok (flds.map fun x=>(x.1,x.2.1)) w
 | [],flds,w,hl,_=>by
  have:flds= []:=List.eq_nil_of_length_eq_zero hl
  subst this
  rfl
 |f::fs,[],w,hl,_=>by simp at hl
 |f::fs,x::flds,w,hl,h=>by
  obtain ⟨sz,ag,g,h1,h2,h3⟩:=h 0 f rfl
  simp at h1
  subst h1
  have ih:=zjd fs flds w (by simpa using hl) fun k f hk=>by
   obtain ⟨sz,ag,g,h1,h2⟩:=h (k+1) f (by simpa using hk)
   exact ⟨sz,ag,g,by simpa using h1,h2⟩
  rw [List.mapM_cons]
  simp only [Sem.run_bind,sizeOf,typeInfo,run_program,Result.andThen_ok,h2,Sem.run_pure,h3,List.map_cons]
  simp only [sizeOf,typeInfo] at ih
  rw [ih]
  rfl
theorem znm (hi:TyOk P t i){ps ps':List (Nat × Value)}{r:Value}(hb:yhn i ps=some r)(h:Sim E D ρ s w)(hp:Prts E D ρ ps ps'):Runs E P D s s ρ w (Instr.build t ⟨ps'⟩) r:=by
 unfold yhn at hb
 split at hb
 ·rename_i fs hd
  obtain ⟨h1,h2⟩:=zas hb
  split at h2
  ·rename_i l hl
   cases h2
   have hz:=zdy (E:=E) (D:=D) (ρ:=ρ) h1 (.inr trivial)
   have hlen:=hi.fl fs hd
   have hplaces:(fs.mapM (m:=Sem) fun f=>do pure (f.offset,<-sizeOf f.type)).run P w= .ok (⟨i.flds.map fun x=>(x.1,x.2.1)⟩:Array (Nat × Nat)) w:=by
    have:=zjd (P:=P) fs.toList i.flds w (by simpa using hlen.symm) fun k f hk=>by
     obtain ⟨sz,ag,d,g,h1,h2,h3,h4,h5⟩:=hi.fs fs hd k f (by simpa using hk)
     exact ⟨sz,ag,g,h1,h4,h5⟩
    rw [Array.mapM_eq_mapM_toList]
    rw [Sem.run_map,this]
    rfl
   obtain ⟨r',k1,k2,k3⟩:=zhs (place':=((⟨i.flds.map fun x=>(x.1,x.2.1)⟩:Array (Nat × Nat))[·]?)) (fun k x hk=>by
    simp only [List.getElem?_toArray,List.getElem?_map]
    split at hk
    ·rename_i off sz ag hf
     rw [hf];exact hk
    ·cases hk) _ _ l ps ps' hl hz hp
   refine .quiet h (r':= .agg ⟨r'⟩) ?_ (.agg _ _ k2)
   simp only [Instr.build,Sem.run_bind,hi.run_zero,Result.andThen_ok,hi.run_und,hd,hplaces,Array.toArray_toList] at k1 ⊢
   rw [k1]
   rfl
  ·cases h2
 ·cases hb
end
end
end
end Go.Proofs.YthcalfeoejdcgaaGreatDoor
