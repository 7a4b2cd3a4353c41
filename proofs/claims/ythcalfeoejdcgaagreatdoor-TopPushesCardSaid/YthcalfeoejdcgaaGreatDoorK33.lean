import Derived.Test.YthcalfeoejdcgaaGreatDoorK13
import Derived.Deep.QuietTactic
import Derived.Deep.RegionLaw
import Derived.Ground.SlsfProg
import Derived.KernelRfl
import Derived.Laws.IdiomStrings
import Derived.Lib.AppendStr
import Derived.Shelf.SlSortCmp.NoneTotal
import Derived.Shelf.SlSortCmp.Whole1
namespace Go.Proofs.YthcalfeoejdcgaaGreatDoor
set_option linter.unusedSimpArgs false
set_option linter.unusedVariables false
set_option maxRecDepth 100000
set_option maxHeartbeats 20000000
open Go.RowKit Go.BigFrame
def Val.val (x:Val):Value:= .agg #[.int .i64 x.k, .int .i64 x.m, .string x.s]
theorem rItm.later {w w':World}{A:Option Addr}{n:Nat}{l:List Itm}(h:rItm w A n l)(hb:Below w.heap.size w w'):rItm w' A n l:=Fl.later h hb
section
variable {α β:Type}{R S:α->β->Prop}
end
def yci (k:List Val)(x:List Val × Int):List (List Val × Tab)->List (List Val × Tab)
 | []=> [(k,[x])]
 |p::l=>if yag p.1 k=0 then (p.1,p.2++ [x])::l else p::yci k x l
def yal (is:List Int)(t:Tab):List (List Val × Tab):=t.foldl (fun l x=>yci (pkV is x.1) x l) []
theorem ygc (is:List Int)(t:Tab)(x:List Val × Int):yal is (t++ [x])=yci (pkV is x.1) x (yal is t):=by unfold yal;rw [List.foldl_append];rfl
def ofK (is:List Int)(k:List Val)(t:Tab):Tab:=t.filter fun x=>yag (pkV is x.1) k==0
theorem yex {is:List Int}{k:List Val}{t:Tab}{x:List Val × Int}:x∈ofK is k t↔x∈t/\pkV is x.1=k:=by
 unfold ofK
 rw [List.mem_filter]
 simp [zar]
theorem yka (is:List Int)(k:List Val)(t:Tab)(x:List Val × Int):ofK is k (t++ [x])=if yag (pkV is x.1) k=0 then ofK is k t++ [x] else ofK is k t:=by
 unfold ofK
 rw [List.filter_append]
 by_cases h:yag (pkV is x.1) k=0
 ·rw [if_pos h];simp [h]
 ·rw [if_neg h];simp [h]
theorem yb1 {k:List Val}{x:List Val × Int}: ∀ {ps:List (List Val × Tab)} (_:ps.Pairwise fun p q=>p.1≠q.1) {p:List Val × Tab},
 p∈yci k x ps↔(p.1≠k/\p∈ps)∨(p.1=k/\((∃ q∈ps,q.1=k/\p.2=q.2++ [x])∨((∀ q∈ps,q.1≠k)/\p.2= [x])))
 | [],_,p=>by
  simp only [yci,List.mem_singleton,List.not_mem_nil,and_false,false_or]
  constructor
  ·rintro rfl;exact ⟨rfl, .inr ⟨fun q h=>(by simp at h),rfl⟩⟩
  ·rintro ⟨h1,⟨q,hq,_⟩|⟨_,h2⟩⟩
   ·simp at hq
   ·cases p;simp at h1 h2;simp [h1,h2]
 |q::l,hp,p=>by
  have ih:=yb1 (k:=k) (x:=x) (List.pairwise_cons.1 hp).2 (p:=p)
  have hq:=(List.pairwise_cons.1 hp).1
  unfold yci
  by_cases h:yag q.1 k=0
  ·have e:=(zar _ _).1 h
   rw [if_pos h]
   constructor
   ·intro hm
    rcases qY hm with rfl|hm
    ·exact .inr ⟨e, .inl ⟨q,List.mem_cons_self ..,e,rfl⟩⟩
    ·exact .inl ⟨fun e2=>hq p hm (e.trans e2.symm),qW _ hm⟩
   ·rintro (⟨h1,hm⟩|⟨h1,⟨q',hq',h2,h3⟩|⟨h2,_⟩⟩)
    ·rcases qY hm with rfl|hm
     ·exact absurd e h1
     ·exact qW _ hm
    ·rcases qY hq' with rfl|hq'
     ·refine List.mem_cons.2 (.inl ?_)
      cases p
      simp at h1 h3
      simp [h1,h3,e]
     ·exact absurd (e.trans h2.symm) (hq q' hq')
    ·exact absurd e (h2 q (List.mem_cons_self ..))
  ·have e:q.1≠k:=fun e=>h ((zar _ _).2 e)
   rw [if_neg h,List.mem_cons,ih]
   constructor
   ·rintro (rfl|⟨h1,hm⟩|⟨h1,⟨q',hq',h2,h3⟩|⟨h2,h3⟩⟩)
    ·exact .inl ⟨e,List.mem_cons_self ..⟩
    ·exact .inl ⟨h1,qW _ hm⟩
    ·exact .inr ⟨h1, .inl ⟨q',qW _ hq',h2,h3⟩⟩
    ·exact .inr ⟨h1, .inr ⟨fun q' hq'=>by
      rcases qY hq' with rfl|hq'
      ·exact e
      ·exact h2 q' hq',h3⟩⟩
   ·rintro (⟨h1,hm⟩|⟨h1,⟨q',hq',h2,h3⟩|⟨h2,h3⟩⟩)
    ·rcases qY hm with rfl|hm
     ·exact .inl rfl
     ·exact .inr (.inl ⟨h1,hm⟩)
    ·rcases qY hq' with rfl|hq'
     ·exact absurd h2 e
     ·exact .inr (.inr ⟨h1, .inl ⟨q',hq',h2,h3⟩⟩)
    ·exact .inr (.inr ⟨h1, .inr ⟨fun q' hq'=>h2 q' (qW _ hq'),h3⟩⟩)
theorem yhq {k:List Val}{x:List Val × Int}: ∀ {ps:List (List Val × Tab)} (_:ps.Pairwise fun p q=>p.1≠q.1),(yci k x ps).Pairwise fun p q=>p.1≠q.1
 | [],_=>by simp [yci]
 |q::l,hp=>by
  have ih:=yhq (k:=k) (x:=x) (List.pairwise_cons.1 hp).2
  have hm:=fun p=>yb1 (k:=k) (x:=x) (List.pairwise_cons.1 hp).2 (p:=p)
  have hq:=(List.pairwise_cons.1 hp).1
  unfold yci
  by_cases h:yag q.1 k=0
  ·rw [if_pos h]
   exact List.pairwise_cons.2 ⟨hq,(List.pairwise_cons.1 hp).2⟩
  ·have e:q.1≠k:=fun e=>h ((zar _ _).2 e)
   rw [if_neg h]
   refine List.pairwise_cons.2 ⟨fun p hp2=>?_,ih⟩
   rcases (hm p).1 hp2 with ⟨_,h2⟩|⟨h2,_⟩
   ·exact hq p h2
   ·rw [h2];exact e
structure PartOk (is:List Int)(t:Tab)(ps:List (List Val × Tab)):Prop where
 pw:ps.Pairwise fun p q=>p.1≠q.1
 rows: ∀ p∈ps,p.2=ofK is p.1 t
 ne: ∀ p∈ps,p.2≠ []
 all: ∀ x∈t,∃ p∈ps,p.1=pkV is x.1
theorem PartOk.key {is:List Int}{t:Tab}{ps:List (List Val × Tab)}(h:PartOk is t ps){p:List Val × Tab}(hp:p∈ps): ∃ x∈t,pkV is x.1=p.1/\x∈p.2:=by
 obtain ⟨x,hx⟩:=List.exists_mem_of_ne_nil _ (h.ne p hp)
 have hx2:=hx
 rw [h.rows p hp] at hx
 exact ⟨x,(yex.1 hx).1,(yex.1 hx).2,hx2⟩
theorem PartOk.mem {is:List Int}{t:Tab}{ps:List (List Val × Tab)}(h:PartOk is t ps){p:List Val × Tab}(hp:p∈ps){x:List Val × Int}:x∈p.2↔x∈t/\pkV is x.1=p.1:=by
 rw [h.rows p hp];exact yex
theorem PartOk.add {is:List Int}{t:Tab}{ps:List (List Val × Tab)}(h:PartOk is t ps)(x:List Val × Int):PartOk is (t++ [x]) (yci (pkV is x.1) x ps) where
 pw:=yhq h.pw
 rows p hp:=by
  rw [yka]
  rcases (yb1 h.pw).1 hp with ⟨h1,h2⟩|⟨h1,⟨q,h2,h3,h4⟩|⟨h2,h3⟩⟩
  ·rw [if_neg (fun e=>h1 ((zar _ _).1 e).symm)];exact h.rows p h2
  ·rw [if_pos ((zar _ _).2 h1.symm),h4,h.rows q h2,h3,h1]
  ·rw [if_pos ((zar _ _).2 h1.symm),h3]
   have e:ofK is p.1 t= []:=List.eq_nil_iff_forall_not_mem.2 fun y hy=>by
    obtain ⟨hy1,hy2⟩:=yex.1 hy
    obtain ⟨q,hq,e⟩:=h.all y hy1
    exact h2 q hq (e.trans (hy2.trans h1))
   rw [e];rfl
 ne p hp:=by
  rcases (yb1 h.pw).1 hp with ⟨h1,h2⟩|⟨h1,⟨q,h2,h3,h4⟩|⟨h2,h3⟩⟩
  ·exact h.ne p h2
  ·rw [h4];simp
  ·rw [h3];simp
 all y hy:=by
  by_cases hk:pkV is y.1=pkV is x.1
  ·by_cases hex: ∃ q∈ps,q.1=pkV is x.1
   ·obtain ⟨q,h2,h3⟩:=hex
    exact ⟨(pkV is x.1,q.2++ [x]),(yb1 h.pw).2 (.inr ⟨rfl, .inl ⟨q,h2,h3,rfl⟩⟩),hk.symm⟩
   ·exact ⟨(pkV is x.1,[x]),(yb1 h.pw).2 (.inr ⟨rfl, .inr ⟨fun q hq e=>hex ⟨q,hq,e⟩,rfl⟩⟩),hk.symm⟩
  ·rcases List.mem_append.1 hy with hy|hy
   ·obtain ⟨q,h2,h3⟩:=h.all y hy
    exact ⟨q,(yb1 h.pw).2 (.inl ⟨fun e=>hk (h3.symm.trans e),h2⟩),h3⟩
   ·simp at hy;subst hy;exact absurd rfl hk
theorem yfj (is:List Int): ∀ (t t0:Tab) (ps:List (List Val × Tab)),PartOk is t0 ps->PartOk is (t0++t) (t.foldl (fun l x=>yci (pkV is x.1) x l) ps)
 | [],t0,ps,h=>by simpa using h
 |x::t,t0,ps,h=>by
  have:=yfj is t (t0++ [x]) _ (h.add x)
  simpa using this
theorem ybj (is:List Int)(t:Tab):PartOk is t (yal is t):=by
 have h0:PartOk is [] []:=⟨List.Pairwise.nil,fun p h=>(by cases h),fun p h=>(by cases h),fun p h=>(by cases h)⟩
 have:=yfj is t [] [] h0
 simpa [yal] using this
theorem yek (is:List Int)(t:Tab):(yal is t).length<=t.length:=by
 have addL: ∀ (k:List Val) (x:List Val × Int) (ps:List (List Val × Tab)),(yci k x ps).length<=ps.length+1:=by
  intro k x ps
  induction ps with
  |nil=>simp [yci]
  |cons p l ih=>unfold yci;split<;>simp;omega
 have: ∀ (t:Tab) (ps:List (List Val × Tab)),(t.foldl (fun l x=>yci (pkV is x.1) x l) ps).length<=ps.length+t.length:=by
  intro t
  induction t with
  |nil=>intro ps;simp
  |cons x t ih=>
   intro ps
   have h1:=ih (yci (pkV is x.1) x ps)
   have h2:=addL (pkV is x.1) x ps
   simp only [List.foldl_cons,List.length_cons]
   omega
 simpa [yal] using this t []
section
variable {e:TypeId}{w w':World}{B0 B n:Nat}{v v':Value}{qs:List Prt}{ps:List (List Val × Tab)}{a:Prt}{p:List Val × Tab}{row:Option Nat}
theorem ycp (hb:Below w.heap.size w w'):w.grownBy w' none:=⟨hb.os,hb.tape,hb.output,hb.size,fun k hk _=>hb.block k hk⟩
end
abbrev Slc :=Option Addr × Nat × Nat
def Slc.val (a:Slc):Value:= .slice a.1 a.2.1 a.2.2
def yc0 (a:Slc):Option Nat:=a.val.ownBlock
theorem yae (a:Slc):(yah a).length=1:=rfl
theorem yf1 (a:Slc): ∀ u∈yah a,u.oneCell'=true:=fun u hu=>by simp [yah] at hu;subst hu;rfl
def ygv (e:TypeId):Kin Slc Slc where
 enc:=yah
 C:=1
 e:=e
 ptrs:=fun _=> []
 D:=fun _ a b=>a=b
 len:=yae
 pos:=by omega
 one:=yf1
 later:=fun h _=>h
 kept:=fun h _ _=>h
 lt:=fun _ p hp=>by cases hp
def oldRow (B0:Nat)(w:World)(e:Slc)(r:List Val):Prop:=rVal w e.1 e.2.1 r/\(0<e.2.1-> ∀ ad,e.1=some ad->ad.block<B0)
def QD (w:World)(B0 B:Nat)(a:Slc)(l:List (List Val)):Prop:= ∃ es,w.ownsRow B 63 1 a.val a.2.1 (flat yah es)/\dAll (oldRow B0 w) es l
structure QS (e:TypeId)(w:World)(B0 B:Nat)(v:Value)(qs:List Slc)(ps:List (List (List Val))):Prop where
 own:w.ownsRow B e 1 v qs.length (flat yah qs)
 rel:dAll (QD w B0 B) qs ps
 apart: ∀ (i j:Nat) (a b:Slc) (x:Nat),qs[i]?=some a->qs[j]?=some b->yc0 a=some x->yc0 b=some x->i=j
 sep: ∀ a∈qs,∀ x,yc0 a=some x->v.ownBlock≠some x
section
variable {e:TypeId}{w w':World}{B0 B n:Nat}{v v':Value}{qs:List Slc}{ps:List (List (List Val))}{a:Slc}{p:List (List Val)}{row:Option Nat}
theorem oldRow.kept {el:Slc}{r:List Val}(h:oldRow B0 w el r)(hg:w.grownBy w' row)(hB: ∀ k,row=some k->B0<=k):oldRow B0 w' el r:=
 ⟨Fl.kept h.1 hg fun h0 ad e e2=>by
  have:=h.2 h0 ad e
  have:=hB _ e2.symm
  omega,h.2⟩
end
section
variable {e:TypeId}{w w':World}{B0 B n:Nat}{v v':Value}{qs:List Slc}{ps:List (List (List Val))}{a:Slc}{p:List (List Val)}{row:Option Nat}
theorem QD.lt (h:QD w B0 B a p): ∀ x,yc0 a=some x->B<=x/\x<w.heap.size:=by
 obtain ⟨es,h1,_⟩:=h
 exact h1.lt
end
section
variable {e:TypeId}{w w':World}{B0 B n:Nat}{v v':Value}{qs:List Slc}{ps:List (List (List Val))}{a:Slc}{p:List (List Val)}{row:Option Nat}
theorem QD.kept (h:QD w B0 B a p)(hg:w.grownBy w' row)(hB: ∀ k,row=some k->B0<=k)(h1:yc0 a=none∨yc0 a≠row):QD w' B0 B a p:=by
 obtain ⟨es,h4,h5⟩:=h
 exact ⟨es,h4.kept hg h1,h5.imp fun _ _ h=>h.kept hg hB⟩
end
section
variable {e:TypeId}{w w':World}{B0 B n:Nat}{v v':Value}{qs:List Slc}{ps:List (List (List Val))}{a:Slc}{p:List (List Val)}{row:Option Nat}
theorem QS.len (h:QS e w B0 B v qs ps):ps.length=qs.length:=h.rel.len.symm
end
section
variable {e:TypeId}{w w':World}{B0 B n:Nat}{v v':Value}{qs:List Slc}{ps:List (List (List Val))}{a:Slc}{p:List (List Val)}{row:Option Nat}
theorem QS.kept (h:QS e w B0 B v qs ps)(hg:w.grownBy w' row)(hB: ∀ k,row=some k->B0<=k)(h0:v.ownBlock=none∨v.ownBlock≠row)(h1: ∀ a∈qs,yc0 a=none∨yc0 a≠row):QS e w' B0 B v qs ps:=
 ⟨h.own.kept hg h0,dAll.of_get h.rel.len fun j a b ha hb=>by
  obtain ⟨b',hb',hr⟩:=h.rel.get ha
  rw [hb] at hb'
  cases hb'
  exact hr.kept hg hB (h1 a (qP ha)),h.apart,h.sep⟩
end
section
variable {e:TypeId}{w w':World}{B0 B n:Nat}{v v':Value}{qs:List Slc}{ps:List (List (List Val))}{a:Slc}{p:List (List Val)}{row:Option Nat}
theorem QS.inlt (h:QS e w B0 B v qs ps): ∀ a∈qs,∀ x,yc0 a=some x->B<=x/\x<w.heap.size:=fun a ha x hx=>by
 obtain ⟨j,hj⟩:=List.getElem?_of_mem ha
 obtain ⟨b,_,hr⟩:=h.rel.get hj
 exact hr.lt x hx
end
section
variable {e:TypeId}{w w':World}{B0 B n:Nat}{v v':Value}{qs:List Slc}{ps:List (List (List Val))}{a:Slc}{p:List (List Val)}{row:Option Nat}
theorem QS.low (h:QS e w B0 B v qs ps)(hg:w.grownBy w' row)(hB: ∀ k,row=some k->B0<=k/\k<B):QS e w' B0 B v qs ps:=by
 refine h.kept hg (fun k e=>(hB k e).1) ?_ (fun a ha=>?_)
 ·cases hv:v.ownBlock with
  |none=>exact .inl rfl
  |some x=>
   refine .inr fun e2=>?_
   have h1:=(h.own.lt x hv).1
   have h2:=(hB x e2.symm).2
   omega
 ·cases hv:yc0 a with
  |none=>exact .inl rfl
  |some x=>
   refine .inr fun e2=>?_
   have h1:=(h.inlt a ha x hv).1
   have h2:=(hB x e2.symm).2
   omega
end
section
variable {e:TypeId}{w w':World}{B0 B n:Nat}{v v':Value}{qs:List Slc}{ps:List (List (List Val))}{a:Slc}{p:List (List Val)}{row:Option Nat}
theorem QS.later (h:QS e w B0 B v qs ps)(hb:Below w.heap.size w w'):QS e w' B0 B v qs ps:=h.low (ycp hb) (fun k e=>by cases e)
end
section
variable {e:TypeId}{w w':World}{B0 B n:Nat}{v v':Value}{qs:List Slc}{ps:List (List (List Val))}{a:Slc}{p:List (List Val)}{row:Option Nat}
theorem QS.nil (w:World)(e:TypeId)(B0 B:Nat):QS e w B0 B (.slice none 0 0) [] []:=
 ⟨World.ownsRow_nil w B _ _,trivial,fun i j a b x h=>by simp at h,fun a h=>(by simp at h)⟩
end
section
variable {e:TypeId}{w w':World}{B0 B n:Nat}{v v':Value}{qs:List Slc}{ps:List (List (List Val))}{a:Slc}{p:List (List Val)}{row:Option Nat}
theorem QS.push (h:QS e w B0 B v qs ps)(hB:B0<=B)(hBw:B<=w.heap.size)
 (hown:w'.ownsRow B e 1 v' (qs.length+1) (flat yah (qs++ [(none,0,0)]))) (hg:w.grownBy w' v.ownBlock) (hv:v'.ownBlock=v.ownBlock∨v'.ownBlock=some w.heap.size):
 QS e w' B0 B v' (qs++ [(none,0,0)]) (ps++ [[]]):=by
 have hBr: ∀ x,v.ownBlock=some x->B0<=x:=fun x e=>qR hB (h.own.lt x e).1
 have nb:yc0 (none,0,0)=none:=rfl
 refine ⟨by rw [List.length_append];exact hown,?_,fun i j a b x ha hb h1 h2=>?_,fun a ha x hx=>?_⟩
 ·refine dAll.snoc (dAll.of_get h.rel.len fun j a b ha hb=>?_) ⟨[],World.ownsRow_nil _ _ _ _,trivial⟩
  obtain ⟨b',hb',hr⟩:=h.rel.get ha
  rw [hb] at hb'
  cases hb'
  have hm:=qP ha
  exact hr.kept hg hBr (by
   cases hx:yc0 a with
   |none=>exact .inl rfl
   |some x=>exact .inr (fun e=>h.sep a hm x hx e.symm))
 ·rw [List.getElem?_append] at ha hb
  split at ha
  ·split at hb
   ·exact h.apart i j a b x ha hb h1 h2
   ·rw [List.getElem?_singleton] at hb
    split at hb
    ·cases hb;rw [nb] at h2;cases h2
    ·cases hb
  ·rw [List.getElem?_singleton] at ha
   split at ha
   ·cases ha;rw [nb] at h1;cases h1
   ·cases ha
 ·rcases List.mem_append.1 ha with ha|ha
  ·rcases hv with hv|hv
   ·rw [hv];exact h.sep a ha x hx
   ·rw [hv];intro e2;cases e2;exact absurd (h.inlt a ha _ hx).2 qF
  ·simp at ha;subst ha;rw [nb] at hx;cases hx
end
section
variable {e:TypeId}{w w':World}{B0 B n:Nat}{v v':Value}{qs:List Slc}{ps:List (List (List Val))}{a:Slc}{p:List (List Val)}{row:Option Nat}
theorem QS.turn (h:QS e w B0 B v qs ps){i:Nat}{a a2:Slc}(hi:qs[i]?=some a){l l2:List (List Val)}(hp:ps[i]?=some l){w1:World}(hB:B0<=B)
 {es2:List Slc} (hown:w1.ownsRow B 63 1 a2.val a2.2.1 (flat yah es2)) (hrel:dAll (oldRow B0 w1) es2 l2) (hg:w.grownBy w1 (yc0 a))
 (hv:yc0 a2=yc0 a∨yc0 a2=some w.heap.size) {g n c:Nat} (hvv:v= .slice (some ⟨g,0,none⟩) n c):
 QS e (w1.setCell ⟨g,i,none⟩ a2.val) B0 B v (qs.set i a2) (ps.set i l2):=by
 have him:=qP hi
 have hilt:i<qs.length:=(qO hi).1
 have vb:v.ownBlock=some g:=by rw [hvv];rfl
 have hgB:=h.own.lt g vb
 have hbr:=h.inlt a him
 have hBr: ∀ x,yc0 a=some x->B0<=x:=fun x e=>qR hB (hbr x e).1
 -- the block of the partitions is as it was in w1
 have hgw:w1.heap[g]?=w.heap[g]?:=hg.block g hgB.2 (fun e=>h.sep _ him g e.symm vb)
 have nbl: ∀ y,yc0 a2=some y->y≠g/\(∀ j b,qs[j]?=some b->j≠i->yc0 b≠some y):=fun y hy=>by
  rcases hv with hv|hv
  ·rw [hv] at hy
   refine ⟨fun e=>?_,fun j b hb hne e=>hne (h.apart j i b _ y hb hi e hy)⟩
   have:=h.sep _ him y hy
   rw [vb,e] at this
   exact this rfl
  ·rw [hv] at hy
   injection hy with hy
   refine ⟨by omega,fun j b hb _ e=>?_⟩
   have:=(h.inlt b (qP hb) y e).2;omega
 have hs: ∀ b,b≠g->(w1.setCell ⟨g,i,none⟩ a2.val).heap[b]?=w1.heap[b]?:=fun b hb=>Below.heap_setCell _ _ _ _ (by show b≠g;exact hb)
 have hg2:w1.grownBy (w1.setCell ⟨g,i,none⟩ a2.val) (some g):=⟨rfl,rfl,rfl,by simp,fun b _ hne=>hs b (fun e=>hne (by rw [e]))⟩
 have memset: ∀ b∈qs.set i a2,b=a2∨ ∃ j,qs[j]?=some b/\j≠i:=fun b hb=>by
  obtain ⟨j,hj⟩:=List.getElem?_of_mem hb
  rw [List.getElem?_set] at hj
  split at hj
  ·cases hj;exact .inl rfl
  ·rename_i hne
   exact .inr ⟨j,hj,fun e=>hne e.symm⟩
 refine ⟨?_,?_,fun j l a b y ha hb h1 h2=>?_,fun a ha y hy=>?_⟩
 ·-- the partitions themselves
  have ho:=h.own
  rw [hvv] at ho ⊢
  rcases ho with ⟨l1,⟨e1,_⟩|⟨g',cap,cur,e1,b1,b2,b3,b4,b5,b6⟩⟩
  ·cases e1
  ·injection e1 with e1 e2 e3
   injection e1 with e1
   injection e1 with e1
   subst e1
   subst e2
   subst e3
   have hcur:w1.heap[g]?=some (.cells cur e (0,0)):=hgw.trans b2
   refine ⟨by rw [zau yae,List.length_set], .inr ⟨g,c,cur.setIfInBounds i a2.val,by rw [List.length_set],b1,heap_setCell_same w1 g _ _ e _ hcur,by rw [List.length_set];exact b3,b4,by rw [Array.size_setIfInBounds];exact b5,?_⟩⟩
   rw [List.length_set,Array.toList_setIfInBounds,List.take_set,b6]
   have hf:=zi3 yae qs i a2 hilt
   apply List.ext_getElem?
   intro j
   rw [hf,List.getElem?_set]
   have hl2:(flat yah qs).length=qs.length*1:=zau yae _
   have hsplit:((flat yah qs).take (i*1)).length=i:=by rw [List.length_take];omega
   by_cases c1:j<i
   ·rw [if_neg qF,List.append_assoc,List.getElem?_append_left (by rw [hsplit];exact c1),List.getElem?_take,if_pos qF]
   ·by_cases c3:j=i
    ·rw [if_pos qF,if_pos qF,List.append_assoc,List.getElem?_append_right (by rw [hsplit];omega),hsplit,c3,Nat.sub_self]
     rfl
    ·rw [if_neg qF,List.getElem?_append_right (by rw [List.length_append,hsplit,yae];omega),List.length_append,hsplit,yae,List.getElem?_drop]
     congr 1
     omega
 ·refine dAll.of_get (by rw [List.length_set,List.length_set];exact h.rel.len) fun j a b ha hb=>?_
  rw [List.getElem?_set] at ha hb
  by_cases hj:i=j
  ·rw [if_pos hj,if_pos hilt] at ha
   rw [if_pos hj,if_pos (by have:=h.rel.len;omega)] at hb
   cases ha
   cases hb
   refine ⟨es2,?_,hrel.imp fun _ _ h=>h.kept hg2 (fun q hq=>by cases hq;omega)⟩
   refine hown.kept hg2 ?_
   show yc0 a2=none∨yc0 a2≠some g
   cases hx:yc0 a2 with
   |none=>exact .inl rfl
   |some y=>exact .inr (fun e2=>(nbl y hx).1 (by injection e2))
  ·rw [if_neg hj] at ha hb
   obtain ⟨b',hb',hr⟩:=h.rel.get ha
   rw [hb] at hb'
   cases hb'
   have hm:=qP ha
   refine (hr.kept hg hBr ?_).kept hg2 (fun q hq=>by cases hq;omega) ?_
   ·cases hx:yc0 a with
    |none=>exact .inl rfl
    |some y=>exact .inr (fun e2=>hj (h.apart j i a _ y ha hi hx e2.symm).symm)
   ·cases hx:yc0 a with
    |none=>exact .inl rfl
    |some y=>exact .inr (fun e2=>by have:=h.sep a hm y hx;rw [vb] at this;exact this e2.symm)
 ·rw [List.getElem?_set] at ha hb
  by_cases hj:i=j<;>by_cases hl:i=l
  ·omega
  ·exfalso
   rw [if_pos hj,if_pos hilt] at ha
   rw [if_neg hl] at hb
   cases ha
   exact (nbl y h1).2 l b hb (Ne.symm hl) h2
  ·exfalso
   rw [if_neg hj] at ha
   rw [if_pos hl,if_pos hilt] at hb
   cases hb
   exact (nbl y h2).2 j a ha (Ne.symm hj) h1
  ·rw [if_neg hj] at ha
   rw [if_neg hl] at hb
   exact h.apart j l a b y ha hb h1 h2
 ·rcases memset a ha with rfl|⟨j,hj,_⟩
  ·rw [vb];intro e2;injection e2 with e2;exact (nbl y hy).1 e2.symm
  ·exact h.sep a (qP hj) y hy
end
section
variable {e:TypeId}{w w':World}{B0 B n:Nat}{v v':Value}{qs:List Slc}{ps:List (List (List Val))}{a:Slc}{p:List (List Val)}{row:Option Nat}
theorem QS.turn0 (h:QS e w B0 B v qs ps){i:Nat}{a:Slc}(hi:qs[i]?=some a){l2:List (List Val)}{w1:World}(hB:B0<=B)
 {es2:List Slc} (hown:w1.ownsRow B 63 1 a.val a.2.1 (flat yah es2)) (hrel:dAll (oldRow B0 w1) es2 l2) (hg:w.grownBy w1 (yc0 a)):QS e w1 B0 B v qs (ps.set i l2):=by
 have him:=qP hi
 have hbr:=h.inlt a him
 have hBr: ∀ x,yc0 a=some x->B0<=x:=fun x e=>qR hB (hbr x e).1
 refine ⟨h.own.kept hg ?_,dAll.of_get (by rw [List.length_set];exact h.rel.len) fun j b l hb hl=>?_,h.apart,h.sep⟩
 ·cases hv:v.ownBlock with
  |none=>exact .inl rfl
  |some x=>exact .inr fun e2=>h.sep a him x e2.symm hv
 ·rw [List.getElem?_set] at hl
  by_cases hj:i=j
  ·subst hj
   rw [hi] at hb
   cases hb
   rw [if_pos rfl] at hl
   split at hl
   ·cases hl;exact ⟨es2,hown,hrel⟩
   ·cases hl
  ·rw [if_neg hj] at hl
   obtain ⟨b',hb',hr⟩:=h.rel.get hb
   rw [hl] at hb'
   cases hb'
   refine hr.kept hg hBr ?_
   cases hx:yc0 b with
   |none=>exact .inl rfl
   |some y=>exact .inr (fun e2=>hj (h.apart j i b _ y hb hi hx e2.symm).symm)
end
def yca :Tab->Tab
 | []=> []
 |x::l=>List.replicate x.2.toNat (x.1,1)++yca l
theorem yf2 (a b:Tab):yca (a++b)=yca a++yca b:=by
 induction a with
 |nil=>rfl
 |cons x l ih=>rw [List.cons_append,yca,yca,ih,List.append_assoc]
theorem ybt {t:Tab}{y:List Val × Int}:y∈yca t↔y.2=1/\ ∃ x∈t,0<x.2/\x.1=y.1:=by
 induction t with
 |nil=>simp [yca]
 |cons x l ih=>
  rw [yca,List.mem_append,ih,List.mem_replicate]
  constructor
  ·rintro (⟨h1,rfl⟩|⟨h1,z,hz,h2⟩)
   ·exact ⟨rfl,x,List.mem_cons_self ..,by omega,rfl⟩
   ·exact ⟨h1,z,qW _ hz,h2⟩
  ·rintro ⟨h1,z,hz,h2,h3⟩
   rcases qY hz with rfl|hz
   ·exact .inl ⟨by omega,by cases y;simp at h1 h3;rw [h1,h3]⟩
   ·exact .inr ⟨h1,z,hz,h2,h3⟩
theorem yde : ∀ {t:Tab} (_: ∀ x∈t,0<x.2),((yca t).length:Int)=yac t
 | [],_=>rfl
 |x::l,h=>by
  have h1:=h x (List.mem_cons_self ..)
  have ih:=yde fun y hy=>h y (qW _ hy)
  rw [yca,List.length_append,List.length_replicate,yac]
  omega
def ydj (os:List Int)(a b:List Val):Int:=if yag (pkV os a) (pkV os b)=0 then yag a b else yag (pkV os a) (pkV os b)
theorem ydl {os:List Int}{a b:List Val}:ydj os a b=0↔a=b:=by
 unfold ydj
 constructor
 ·intro h
  split at h
  ·exact (zar _ _).1 h
  ·contradiction
 ·rintro rfl
  rw [if_pos (zf0 _),zf0]
theorem ydk (os:List Int)(a b:List Val):ydj os a b= - ydj os b a:=by
 have h1:=zbs (pkV os a) (pkV os b)
 have h2:=zbs a b
 unfold ydj
 by_cases h:yag (pkV os b) (pkV os a)=0
 ·rw [if_pos qF,if_pos h];exact h2
 ·rw [if_neg qF,if_neg h];exact h1
theorem yef {os:List Int}{a b c:List Val}(h1:ydj os a b<0)(h2:ydj os b c<0):ydj os a c<0:=by
 unfold ydj at*
 by_cases e1:yag (pkV os a) (pkV os b)=0
 ·rw [if_pos e1] at h1
  have e:=(zar _ _).1 e1
  rw [e]
  by_cases e2:yag (pkV os b) (pkV os c)=0
  ·rw [if_pos e2] at h2 ⊢
   exact zbi _ _ _ h1 h2
  ·rw [if_neg e2] at h2 ⊢
   exact h2
 ·rw [if_neg e1] at h1
  by_cases e2:yag (pkV os b) (pkV os c)=0
  ·have e:=(zar _ _).1 e2
   rw [<-e,if_neg e1]
   exact h1
  ·rw [if_neg e2] at h2
   have h3:=zbi _ _ _ h1 h2
   rw [if_neg qF]
   exact h3
theorem ycr {os:List Int}{a b c:List Val}(h1: ¬ ydj os b a<0)(h2: ¬ ydj os c b<0): ¬ ydj os c a<0:=by
 intro h3
 by_cases e:ydj os a b=0
 ·rw [ydl.1 e] at h3;exact h2 h3
 ·have f:=ydk os a b
  exact h2 (yef h3 qF)
def yoh (os:List Int)(r:List Val):List (List Val)->List (List Val)
 | []=> [r]
 |x::l=>if ydj os x r<0 then x::yoh os r l else r::x::l
def ya3 (os:List Int)(l:List (List Val)):List (List Val):=l.foldr (yoh os) []
def leW (os:List Int)(x y:List Val):Prop:= ¬ ydj os y x<0
theorem ydq (os:List Int)(r:List Val): ∀ l,(yoh os r l).Perm (r::l)
 | []=> .refl _
 |x::l=>by
  unfold yoh
  split
  ·exact ((ydq os r l).cons x).trans (.swap r x l)
  ·exact .refl _
theorem ya7 (os:List Int): ∀ l,(ya3 os l).Perm l
 | []=> .refl _
 |x::l=>(ydq os x (ya3 os l)).trans ((ya7 os l).cons x)
theorem yia {os:List Int}{r:List Val}: ∀ {l:List (List Val)} (_:l.Pairwise (leW os)),(yoh os r l).Pairwise (leW os)
 | [],_=>by simp [yoh]
 |x::l,h=>by
  obtain ⟨h1,h2⟩:=List.pairwise_cons.1 h
  unfold yoh
  split
  ·rename_i hx
   refine List.pairwise_cons.2 ⟨fun y hy=>?_,yia h2⟩
   rcases qY ((ydq os r l).subset hy) with rfl|hy
   ·have:=ydk os y x
    unfold leW;omega
   ·exact h1 y hy
  ·rename_i hx
   refine List.pairwise_cons.2 ⟨fun y hy=>?_,h⟩
   rcases qY hy with rfl|hy
   ·exact hx
   ·exact ycr hx (h1 y hy)
theorem yg5 (os:List Int): ∀ l,(ya3 os l).Pairwise (leW os)
 | []=> .nil
 |_::l=>yia (yg5 os l)
theorem ydv {os:List Int}: ∀ {a b:List (List Val)} (_:a.Perm b) (_:a.Pairwise (leW os)) (_:b.Pairwise (leW os)),a=b
 | [],b,h,_,_=>h.symm.eq_nil.symm
 |x::a,[],h,_,_=>by cases h.eq_nil
 |x::a,y::b,h,ha,hb=>by
  obtain ⟨a1,a2⟩:=List.pairwise_cons.1 ha
  obtain ⟨b1,b2⟩:=List.pairwise_cons.1 hb
  have e:x=y:=by
   have hx:x∈y::b:=h.subset (List.mem_cons_self ..)
   have hy:y∈x::a:=h.symm.subset (List.mem_cons_self ..)
   rcases qY hx with e|hx
   ·exact e
   rcases qY hy with e|hy
   ·exact e.symm
   have c1:=a1 y hy
   have c2:=b1 x hx
   unfold leW at c1 c2
   have f:=ydk os x y
   exact ydl.1 (show ydj os x y=0 by omega)
  subst e
  rw [ydv h.cons_inv a2 b2]
theorem yk3 {os:List Int}{a b:List (List Val)}(h:a.Perm b)(ha:a.Pairwise (leW os)):a=ya3 os b:=ydv (h.trans (ya7 os b).symm) ha (yg5 os b)
theorem ybq (os:List Int)(l:List (List Val)):(ya3 os l).length=l.length:=(ya7 os l).length_eq
def ybs (l:List (List Val))(p:Nat):List Val:=l.getD p []
def atW (arg:Int)(l:List (List Val))(i:Int):Val:=if 0<=i/\i<(l.length:Int) then cel (ybs l i.toNat) arg else zV
def yby (os:List Int)(l:List (List Val)):Nat->Int
 |0=>1
 |p+1=>if yag (pkV os (ybs l p)) (pkV os (ybs l (p+1)))=0 then yby os l p else (p:Int)+2
def ydg (arg:Int)(l:List (List Val)):Nat->Int
 |0=>0
 |p+1=>if (atW arg l p).k=0 then ydg arg l p else ydg arg l p+(atW arg l p).m
def yc9 (arg:Int)(l:List (List Val)):Nat->Bool
 |0=>false
 |p+1=>if (atW arg l p).k=0 then yc9 arg l p else true
structure WItm where
 f:Int
 num:Int
 arg:Int
def yb7 (os:List Int)(x:WItm)(l:List (List Val))(p:Nat):Val:=
 if x.f=1 then ya5 l.length
 else if x.f=8 then ya5 ((p:Int)+1)
 else if x.f=9 then ya5 (yby os l p)
 else if x.f=3 then (if yc9 x.arg l (p+1)=true then ya5 (ydg x.arg l (p+1)) else zV)
 else if x.f=10 then atW x.arg l ((p:Int) - x.num)
 else zV
def ye1 (os:List Int)(is:List WItm)(l:List (List Val))(p:Nat):List Val:=is.map fun x=>yb7 os x l p
def yfw (os:List Int)(is:List WItm)(l:List (List Val)):Tab:=(List.range l.length).map fun p=>(ybs l p++ye1 os is l p,1)
def yap (p:List Val × Tab):List (List Val):=p.2.map (·.1)
def ycj (ps os:List Int)(is:List WItm)(t:Tab):Tab:=(yal ps (yca t)).flatMap fun p=>yfw os is (ya3 os (yap p))
def yhl (ps os:List Int)(is:List WItm)(t:Tab):Tab:=ybp (ycj ps os is t)
theorem yew {os:List Int}{is:List WItm}{l:List (List Val)}{y:List Val × Int}:y∈yfw os is l↔ ∃ j,j<l.length/\y=(ybs l j++ye1 os is l j,1):=by
 unfold yfw
 rw [List.mem_map]
 constructor
 ·rintro ⟨j,hj,rfl⟩;exact ⟨j,List.mem_range.1 hj,rfl⟩
 ·rintro ⟨j,hj,rfl⟩;exact ⟨j,List.mem_range.2 hj,rfl⟩
theorem yfe {ps os:List Int}{is:List WItm}{t:Tab}{y:List Val × Int}:y∈ycj ps os is t↔ ∃ p∈yal ps (yca t),∃ j,j<p.2.length/\y=(ybs (ya3 os (yap p)) j++ye1 os is (ya3 os (yap p)) j,1):=by
 unfold ycj
 rw [List.mem_flatMap]
 constructor
 ·rintro ⟨p,hp,hy⟩
  obtain ⟨j,hj,e⟩:=yew.1 hy
  rw [ybq] at hj
  exact ⟨p,hp,j,by simpa [yap] using hj,e⟩
 ·rintro ⟨p,hp,j,hj,e⟩
  exact ⟨p,hp,yew.2 ⟨j,by rw [ybq];simpa [yap] using hj,e⟩⟩
theorem yfo {l:List (List Val)}{j:Nat}(h:j<l.length):ybs l j∈l:=by
 unfold ybs
 rw [List.getD_eq_getElem?_getD,List.getElem?_eq_getElem h]
 exact List.getElem_mem h
theorem yc2 {ps os:List Int}{t:Tab}{p:List Val × Tab}(hp:p∈yal ps (yca t)){j:Nat}(hj:j<p.2.length): ∃ x∈t,0<x.2/\x.1=ybs (ya3 os (yap p)) j/\pkV ps x.1=p.1:=by
 have h1:ybs (ya3 os (yap p)) j∈ya3 os (yap p):=yfo (by rw [ybq];simpa [yap] using hj)
 have h2:=(ya7 os (yap p)).subset h1
 obtain ⟨y,hy,e⟩:=List.mem_map.1 h2
 obtain ⟨h3,h4⟩:=((ybj ps (yca t)).mem hp).1 hy
 obtain ⟨h5,x,hx,h6,h7⟩:=ybt.1 h3
 exact ⟨x,hx,h6,h7.trans e,by rw [h7];exact h4⟩
theorem Yh4 (A:Option Addr)(n c:Nat)(t:Tab)(w:World)(ht:rTab w A n t)(hok:ybi t)(hs:yac t<=1000000):Calls Tryz.prog 286 #[.slice A n c] w fun e w'=>e= .returned (.tuple #[.int .i64 (yac t), .int .i64 0])/\Below w.heap.size w w':=by
 have HV:=qL (zn4 A n c t w ht hok.1)
 have hn:n<=4096:=by have:=ht.len;have:=hok.1.1;omega
 have HT:=qL ht
 have HL:=qL ht.len
 have HP:=qL hok.2
 have HS:=qL hs
 clear ht hok hs
 go_enter Tryz.func286,Tryz.ntmps286
 go_wp2_with fail
 refine HV.out.mono ?_
 rintro e w1 ⟨rfl,hb1⟩
 have HB1:=qL hb1
 clear hb1
 go_wp2
 go_loopw [5,15] (fun v i wr=> ∃ k:Nat,k<=n/\i= .int .i64 k/\v= .int .i64 (yac (t.take k))/\Below w.heap.size w wr) (fun _ i _=>n - (intOf i).toNat)
 case atStart=>exact ⟨0,by omega,rfl,rfl,HB1.out⟩
 case round=>
  obtain ⟨k,hk,rfl,rfl,hbw⟩:=hrel
  have HBW:=qL hbw
  by_cases hlt:k<n
  ·obtain ⟨b1,o1,rfl,hc1⟩:=HT.out.opn qF
   obtain ⟨x,hx⟩:=zah (l:=t) (k:=k) (by have:=HL.out;omega)
   obtain ⟨rA,rN,rC,x1,x2,x3⟩:=hc1 k x hx
   have z1:=qM hbw x1
   have z2:=qM hbw x2
   have HX:=qL (zbc hx)
   have h5:0<=yac (t.take k):=zbp fun y hy=>HP.out y (List.mem_of_mem_take hy)
   have hpx:=HP.out x (qP hx)
   have h6:yac (t.take k)+x.2<=1000000:=by
    have h3:=zbm t (k+1)
    have h4:=zbp (l:=t.drop (k+1)) fun y hy=>HP.out y (List.mem_of_mem_drop hy)
    rw [HX.out,zbb] at h3
    simp only [yac] at h3
    have:=HS.out
    omega
   have m1:IntKind.i64.wrap (yac (t.take k)+x.2)=yac (t.take k)+x.2:=by rw [IntKind.wrap_i64];omega
   have HTS:Hid (yac (t.take (k+1))=yac (t.take k)+x.2):=qL (by rw [HX.out,zbb];simp [yac])
   clear hc1 hx x3 hbw x1 x2
   go_wp2
   go_roundw
   case rel=>exact ⟨k+1,by omega,by go_num,by rw [HTS.out],HBW.out.alloc HBW.out.size _⟩
   case measure=>simp [intOf];omega
  ·obtain rfl:k=n:=by omega
   have HTT:Hid (t.take k=t):=qL (List.take_of_length_le (by have:=HL.out;omega))
   go_wp2
   go_ret2
   exact ⟨by rw [HTT.out];rfl,hbw⟩
theorem yyo :(Tryz.prog.info? 63).map (fun i=>(i.zero,i.size,i.bytes))=some (some (.slice none 0 0),1,24):=by kernel_rfl
theorem Yht : ∃ i,KinP Tryz.prog kRow 261 i (.slice none 0 0) 24:=by
 obtain ⟨i0,hi,hz0,hz1,hz2⟩:=info_parts yyo
 exact ⟨i0,⟨Tryz.underlying261,hi,hz0,hz1,hz2,rfl,by omega⟩⟩
theorem ya9 (w:World)(t:TypeId)(rA:Option Addr)(rN:Nat)(rC:Nat): ∀ j u,(yah (rA,rN,rC))[j]?=some u->(w.alloc (.cells #[.slice rA rN rC] t)).cell? ((⟨w.heap.size,0,none⟩:Addr).add j)=some u:=by
 intro j u h
 have hj:j<1:=by have:=(qO h).1;simpa [yah] using this
 rw [zaw]
 match j,hj with
 |0,_=>simp [yah] at h;subst h;simp
def yba (t:Tab):List (List Val):=(yca t).map (·.1)
theorem yhi {t:Tab}{k:Nat}{x:List Val × Int}(hx:t[k]?=some x):yba (t.take (k+1))=yba (t.take k)++List.replicate x.2.toNat x.1:=by
 unfold yba
 rw [zbc hx,yf2,List.map_append]
 simp [yca]
theorem yfp {t:Tab}(h: ∀ x∈t,0<x.2):((yba t).length:Int)=yac t:=by
 unfold yba
 rw [List.length_map,yde h]
def Ydl (t:Tab)(w:World)(e:Ending)(w':World):Prop:= ∃ A m c',e= .returned (.tuple #[.slice A m c', .int .i64 0])/\rD kRow w' A m (yba t)/\m<=c'/\Below w.heap.size w w'
theorem yn6 (A:Option Addr)(n c:Nat)(t:Tab)(w:World)(ht:rTab w A n t)(hok:ybi t)(hs:yac t<=4096):Calls Tryz.prog 262 #[.slice A n c] w (Ydl t w):=by
 obtain ⟨iE,PE⟩:=Yht
 have HSZ:=qL (Yh4 A n c t w ht hok qF)
 have hn:n<=4096:=by have:=ht.len;have:=hok.1.1;omega
 have HIT:=qL fun W (hb:Below w.heap.size w W)=>ymh A n c t W (ht.later hb) hok
 have HT:=qL ht
 have HL:=qL ht.len
 have HP:=qL hok.2
 have HW:=qL fun x hx=>(hok.1.2.2 x hx).1
 have d1:decide (4096<yac t)=false:=by simp;omega
 have HS:=qL hs
 clear ht hok hs
 go_enter Tryz.func262,Tryz.ntmps262
 go_wp2_with fail
 refine HSZ.out.mono ?_
 rintro e w1 ⟨rfl,hb1⟩
 have HB1:=qL hb1
 have HI1:=qL (HIT.out w1 hb1)
 clear hb1
 go_wp2_with fail
 refine HI1.out.mono ?_
 rintro e w2 ⟨rfl,hb2⟩
 have HB2:=qL (btr HB1.out hb2)
 clear hb2
 go_wp2
 go_loopw [6,24] (fun v i wr=> ∃ k:Nat,k<=n/\i= .int .i64 k/\Below w.heap.size w wr/\Hid (ownD kRow wr w.heap.size v (yba (t.take k)).length (yba (t.take k)))) (fun _ i _=>n - (intOf i).toNat)
 case atStart=>exact ⟨0,by omega,rfl,HB2.out,qL (ownD.nil _ _)⟩
 case round=>
  obtain ⟨k,hk,rfl,hbw,HO⟩:=hrel
  obtain ⟨wo,rfl⟩: ∃ wo,wo=wr:=⟨_,rfl⟩
  have HBW:=qL hbw
  by_cases hlt:k<n
  ·obtain ⟨b1,o1,rfl,hc1⟩:=HT.out.opn qF
   obtain ⟨x,hx⟩:=zah (l:=t) (k:=k) (by have:=HL.out;omega)
   obtain ⟨rA,rN,rC,x1,x2,x3⟩:=hc1 k x hx
   have X3:=qL x3
   have z1:=qM hbw x1
   have z2:=qM hbw x2
   have HX:=qL (yhi hx)
   have hm:=qP hx
   have hpx:=HP.out x hm
   have hrN:rN<=12:=by have:=x3.len;have:=HW.out x hm;omega
   have HLEN:Hid (((yba (t.take k)).length:Int)+x.2<=4096):=qL (by
    have h3:=zbm t (k+1)
    have h4:=zbp (l:=t.drop (k+1)) fun y hy=>HP.out y (List.mem_of_mem_drop hy)
    rw [zbc hx,zbb] at h3
    simp only [yac] at h3
    have:=HS.out
    rw [yfp fun y hy=>HP.out y (List.mem_of_mem_take hy)]
    omega)
   have HV0:Hid (∀ j,u6.ownBlock=some j->w.heap.size<=j/\j<wo.heap.size):=qL HO.out.lt
   have hszo:w.heap.size<=wo.heap.size:=hbw.size
   clear hc1 hx x3 hbw x1 x2 hm
   go_wp2
   go_loopw [6,30] (fun v j wx=> ∃ i:Nat,(i:Int)<=x.2/\j= .int .i64 i/\Below w.heap.size w wx/\wo.heap.size<wx.heap.size/\wx.cell? ⟨wo.heap.size,0,none⟩=some (.slice rA rN rC)/\wx.cell? ⟨wo.heap.size,1,none⟩=some (.int .i64 x.2)/\Hid (ownD kRow wx w.heap.size v ((yba (t.take k)).length+i) (yba (t.take k)++List.replicate i x.1))/\Hid (∀ y,v.ownBlock=some y->y≠wo.heap.size)) (fun _ j _=>x.2.toNat - (intOf j).toNat)
   case atStart=>exact ⟨0,by omega,rfl,HBW.out.alloc HBW.out.size _,by simp,by simp,by simp,qL (by simpa using HO.out.later (zae _ _)),qL fun y hy=>by have:=(HV0.out y hy).2;omega⟩
   case round=>
    obtain ⟨i,hi,rfl,hbx,hsx,q0,q1,HOX,HNE⟩:=hrel
    have HBX:=qL hbx
    by_cases hil:(i:Int)<x.2
    ·have HCL:=qL (yjd rA rN rC x.1 wr (zb4.2 (X3.out.later hbx)) qF)
     have HVX:Hid (∀ j,u6.ownBlock=some j->w.heap.size<=j/\j<wr.heap.size):=qL HOX.out.lt
     have HQ0:=qL q0
     have HQ1:=qL q1
     clear hbx q1
     go_wp2_with fail
     refine HCL.out.mono ?_
     rintro e w3 ⟨A3,c3,rfl,hrd3,hcc3,hb3,hfr3,_⟩
     have HB3:=qL hb3
     have HOA:Hid (ownD kRow (w3.alloc (.cells #[.slice A3 rN c3] 63)) w.heap.size u6 ((yba (t.take k)).length+i) (yba (t.take k)++List.replicate i x.1)):=qL ((HOX.out.later hb3).later (zae _ _))
     have HRA:Hid (rVal (w3.alloc (.cells #[.slice A3 rN c3] 63)) A3 rN x.1):=qL ((zb4.1 hrd3).later (zae _ _))
     have HFF:=qL (zb3 (n:=rN) (w1:=wr) (fun k e=>(HVX.out k e).2) (fun a e=>(hfr3 a e).1))
     have hsz3:w.heap.size<=(w3.alloc (.cells #[.slice A3 rN c3] 63)).heap.size:=by have:=HBX.out.size;have:=hb3.size;simp;omega
     have hnn:(yba (t.take k)).length+i<1000000:=by have:=HLEN.out;omega
     clear hrd3 hb3 hfr3 q0
     go_wp2_with (at_builtin;refine zaq _ rfl _ _ rfl PE HOA.out ⟨_,0,none⟩ (A3,rN,c3) x.1 rfl rfl (ya9 _ _ _ _ _) HRA.out HFF.out hnn hsz3 ?_;intro v' w' hown' hgrow hat)
     have hne:some wo.heap.size≠u6.ownBlock:=fun e=>HNE.out _ e.symm rfl
     have HBF:=qL (zaf ((btr HBX.out HB3.out).alloc (btr HBX.out HB3.out).size _) hgrow (fun y e=>(HVX.out y e).1))
     have s0:=hgrow.cell (qM (zae _ _) (qM HB3.out HQ0.out)) hne
     have s1:=hgrow.cell (qM (zae _ _) (qM HB3.out HQ1.out)) hne
     have HOF:Hid (ownD kRow w' w.heap.size v' ((yba (t.take k)).length+(i+1)) (yba (t.take k)++List.replicate (i+1) x.1)):=qL (by rw [List.replicate_succ',<-List.append_assoc,<-Nat.add_assoc];exact hown')
     have HNF:Hid (∀ y,v'.ownBlock=some y->y≠wo.heap.size):=qL fun y hy e=>by
      rcases hat with h|h
      ·rw [h] at hy;exact HNE.out y hy e
      ·rw [h] at hy
       injection hy with hy
       have:=HB3.out.size
       simp at hy
       omega
     have hszf:wo.heap.size<w'.heap.size:=qX _ _ s0
     clear hown' hgrow hat hne
     go_wp2
     go_roundw
     case rel=>exact ⟨i+1,by omega,by go_num,HBF.out,hszf,s0,s1,HOF,HNF⟩
     case measure=>simp [intOf];omega
    ·have HOF:=qL (za2 HOX.out (l':=yba (t.take (k+1))) (by rw [HX.out,show i=x.2.toNat by omega]))
     clear q0 q1
     go_wp2
     go_roundw
     case rel=>exact ⟨k+1,by omega,by go_num,hbx,HOF⟩
     case measure=>simp [intOf];omega
  ·obtain rfl:k=n:=by omega
   have HTT:Hid (t.take k=t):=qL (List.take_of_length_le (by have:=HL.out;omega))
   obtain ⟨A8,c8,rfl,hcc8,hrd8,hfr8⟩:=HO.out.rd
   have HR8:Hid (rD kRow wo A8 (yba (t.take k)).length (yba t)):=qL (by have h:=hrd8;rw [HTT.out] at h;rw [HTT.out];exact h)
   clear hrd8 hfr8
   go_wp2
   go_ret2
   exact ⟨_,_,_,rfl,HR8.out,hcc8,hbw⟩
section
open Go.Shelf Go.Sort Go.Lib
def ygi :Go.Shelf.Ren:=⟨fun|6=>289|15=>283|14=>322|28=>320|29=>321|20=>337|21=>338|22=>339|23=>340|24=>341|25=>342|26=>343|27=>344|46=>350|47=>333|48=>334|49=>351|50=>352|57=>357|n=>n,fun|22=>261|24=>63|25=>97|3=>3|39=>32|0=>0|53=>317|55=>319|4=>4|46=>311|45=>310|50=>111|5=>5|9=>9|66=>327|70=>331|76=>345|77=>264|n=>n,fun|n=>n⟩
end
section
open Go.Shelf Go.Sort Go.Lib
theorem ypu :Go.Proofs.SlLaysF.n6 Tryz.prog ygi:={
 mixed:=by kernel_rfl
 f6:=⟨Tryz.f289.name,by decide,Tryz.func289.trans (congrArg some qG)⟩
 f14:=⟨Tryz.f322.name,by decide,Tryz.func322.trans (congrArg some qG)⟩
 f15:=Tryz.func283.trans (congrArg some qG)
 f20:=⟨Tryz.f337.name,by decide,Tryz.func337.trans (congrArg some qG)⟩
 f21:=⟨Tryz.f338.name,by decide,Tryz.func338.trans (congrArg some qG)⟩
 f22:=⟨Tryz.f339.name,by decide,Tryz.func339.trans (congrArg some qG)⟩
 f23:=⟨Tryz.f340.name,by decide,Tryz.func340.trans (congrArg some qG)⟩
 f24:=⟨Tryz.f341.name,by decide,Tryz.func341.trans (congrArg some qG)⟩
 f25:=⟨Tryz.f342.name,by decide,Tryz.func342.trans (congrArg some qG)⟩
 f26:=⟨Tryz.f343.name,by decide,Tryz.func343.trans (congrArg some qG)⟩
 f27:=⟨Tryz.f344.name,by decide,Tryz.func344.trans (congrArg some qG)⟩
 f28:=Tryz.func320.trans (congrArg some qG)
 f29:=Tryz.func321.trans (congrArg some qG)
 f46:=⟨Tryz.f350.name,by decide,Tryz.func350.trans (congrArg some qG)⟩
 f47:=Tryz.func333.trans (congrArg some qG)
 f48:=Tryz.func334.trans (congrArg some qG)
 f49:=⟨Tryz.f351.name,by decide,Tryz.func351.trans (congrArg some qG)⟩
 f50:=⟨Tryz.f352.name,by decide,Tryz.func352.trans (congrArg some qG)⟩
 f57:=⟨Tryz.f357.name,by decide,Tryz.func357.trans (congrArg some qG)⟩
 t0:=Tryz.underlying0
 a0:=Tryz.isAgg0
 z0:=Tryz.sizeOf0
 v0:=Tryz.zeroValue0
 t3:=Tryz.underlying3
 a3:=Tryz.isAgg3
 z3:=Tryz.sizeOf3
 v3:=Tryz.zeroValue3
 t4:=Tryz.underlying4
 a4:=Tryz.isAgg4
 z4:=Tryz.sizeOf4
 v4:=Tryz.zeroValue4
 t5:=Tryz.underlying5
 a5:=Tryz.isAgg5
 z5:=Tryz.sizeOf5
 v5:=Tryz.zeroValue5
 t9:=Tryz.underlying9
 a9:=Tryz.isAgg9
 z9:=Tryz.sizeOf9
 v9:=Tryz.zeroValue9
 t22:=Tryz.underlying261
 a22:=Tryz.isAgg261
 z22:=Tryz.sizeOf261
 v22:=Tryz.zeroValue261
 a24:=Tryz.isAgg63
 z24:=Tryz.sizeOf63
 t25:=Tryz.underlying97
 a25:=Tryz.isAgg97
 z25:=Tryz.sizeOf97
 v25:=Tryz.zeroValue97
 t39:=Tryz.underlying32
 a39:=Tryz.isAgg32
 z39:=Tryz.sizeOf32
 v39:=Tryz.zeroValue32
 t45:=Tryz.underlying310
 a45:=Tryz.isAgg310
 z45:=Tryz.sizeOf310
 v45:=Tryz.zeroValue310
 t46:=Tryz.underlying311
 a46:=Tryz.isAgg311
 z46:=Tryz.sizeOf311
 v46:=Tryz.zeroValue311
 t50:=Tryz.underlying111
 a50:=Tryz.isAgg111
 z50:=Tryz.sizeOf111
 v50:=Tryz.zeroValue111
 t53:=Tryz.underlying317
 a53:=Tryz.isAgg317
 z53:=Tryz.sizeOf317
 v53:=Tryz.zeroValue317
 t55:=Tryz.underlying319
 a55:=Tryz.isAgg319
 z55:=Tryz.sizeOf319
 v55:=Tryz.zeroValue319
 t66:=Tryz.underlying327
 a66:=Tryz.isAgg327
 z66:=Tryz.sizeOf327
 v66:=Tryz.zeroValue327
 t70:=Tryz.underlying331
 a70:=Tryz.isAgg331
 z70:=Tryz.sizeOf331
 v70:=Tryz.zeroValue331
 t76:=Tryz.underlying345
 a76:=Tryz.isAgg345
 z76:=Tryz.sizeOf345
 v76:=Tryz.zeroValue345
 t77:=Tryz.underlying264
 a77:=Tryz.isAgg264
 z77:=Tryz.sizeOf264
 v77:=Tryz.zeroValue264}
end
section
open Go.Shelf Go.Sort Go.Lib
def Ydg (n:Nat)(l:List Val)(w:World)(e:Ending)(w':World):Prop:=yg9 kVal n l w e w'/\w.drawn<=w'.drawn
end
section
open Go.Shelf Go.Sort Go.Lib
theorem yy9 (A:Option Addr)(n c:Nat)(l:List Val)(B:Option Addr)(m d:Nat)(is:List Int)(w:World)(h:rVal w A n l)(hi:rInt w B m is)(hn:n<=100000)(hm:m<=100000):
 Calls Tryz.prog 250 #[.slice A n c, .slice B m d] w (Ydg m (yc8 (⟨0,0,⟨#[]⟩⟩:Val) l is) w):=by
 obtain ⟨i0,hi0,hz0,hz1,hz2⟩:=info_parts zi4
 have hmk: ∀ W:World,∃ w',(Instr.makeSlice 63 (.int .i64 (m:Int)) (.int .i64 (m:Int))).run Tryz.prog W= .ok (.slice (some ⟨W.heap.size,0,none⟩) m m) w'/\
  w'.ownsRow W.heap.size 46 3 (.slice (some ⟨W.heap.size,0,none⟩) m m) m (flat yat (List.replicate m (⟨0,0,⟨#[]⟩⟩:Val)))/\W.grownBy w' none/\W.drawn<=w'.drawn:=fun W=>by
  have hr:=run_make (P:=Tryz.prog) W 63 46 i0 _ Tryz.underlying63 hi0 hz0 .i64 .i64 m m qF (Int.le_refl _) (by rw [hz2];omega) qF
  simp only [Int.toNat_natCast] at hr
  rw [hz1] at hr
  refine ⟨_,hr,?_,World.grownBy_alloc W _ none,qV _⟩
  have:=World.ownsRow_lit (e:=46) (size:=3) (base:=W.heap.size) W (madeCells (Value.cells (.agg #[.int .i64 0, .int .i64 0, .string ⟨#[]⟩])) (m*3)) m (qV _) (by unfold maxLen;omega) (size_madeCells _ _)
  rwa [zme (⟨0,0,⟨#[]⟩⟩:Val) _ za4 rfl] at this
 have HA:=qL h
 have HI:=qL hi
 have LA:=qL h.len
 have LI:=qL hi.len
 obtain ⟨w1,hm1,hm2,hm3,hm4⟩:=hmk w
 have HDR:=qL hm4
 have HM:=qL hm2
 have hB1:Below w.heap.size w w1:=za9 hm3 (qV _) (fun k h=>by cases h)
 clear h hi hmk hm2 hm3 hm4
 go_enter Tryz.func250,Tryz.ntmps250
 go_wp2
 go_loopw [13] (fun i wr=> ∃ (k:Nat) (r:List Val),k<=m/\i= .int .i64 k/\Below w.heap.size w wr/\Hid (w.drawn<=wr.drawn)/\Hid (wr.ownsRow w.heap.size 46 3 (.slice (some ⟨w.heap.size,0,none⟩) m m) m (flat yat r))/\Hid (PicTo (⟨0,0,⟨#[]⟩⟩:Val) l is k r)) (fun i _=>m - (intOf i).toNat)
 case atStart=>exact ⟨0,_,by omega,rfl,hB1,HDR,HM,qL ⟨by rw [List.length_replicate,LI.out],fun j hj=>absurd hj qF,fun j _ hj=>by rw [List.getElem?_replicate,if_pos (by have:=LI.out;omega)]⟩⟩
 case round=>
  obtain ⟨k,r,hk,rfl,hbw,HDR2,HO,HP⟩:=hrel
  have HBW:=qL hbw
  by_cases hlt:k<m
  ·obtain ⟨b1,o1,rfl,hc1⟩:=HI.out.opn qF
   obtain ⟨i,hi⟩:=zah (l:=is) (k:=k) (by have:=LI.out;omega)
   have y0:=qM hbw (hc1 k i hi)
   have HX:=qL hi
   clear hc1 hi
   by_cases hin:0<=i/\i<n
   ·obtain ⟨h0,h1⟩:=hin
    obtain ⟨j,rfl⟩:=Int.eq_ofNat_of_zero_le h0
    have hjn:j<n:=by omega
    obtain ⟨b2,o2,rfl,hc2⟩:=HA.out.opn qF
    obtain ⟨x,hx⟩:=zah (l:=l) (k:=j) (by have:=LA.out;omega)
    obtain ⟨x1,x2,x3⟩:=hc2 j x hx
    have y1:=qM hbw x1
    have y2:=qM hbw x2
    have y3:=qM hbw x3
    obtain ⟨q,hq⟩:=zah (l:=r) (k:=k) (by have:=HP.out.1;have:=LI.out;omega)
    have own:=HO.out
    have z1:wr.cell? ⟨w.heap.size,k*3,none⟩=some (held wr ⟨w.heap.size,k*3,none⟩):=zbt (by rw [own.cellAt _ qF];exact zbf za4 hq 0 qF)
    have z2:wr.cell? ⟨w.heap.size,k*3+1,none⟩=some (held wr ⟨w.heap.size,k*3+1,none⟩):=zbt (by rw [own.cellAt _ qF];exact zbf za4 hq 1 qF)
    have z3:wr.cell? ⟨w.heap.size,k*3+2,none⟩=some (held wr ⟨w.heap.size,k*3+2,none⟩):=zbt (by rw [own.cellAt _ qF];exact zbf za4 hq 2 qF)
    have zf: ∀ o,wr.frozen? ⟨w.heap.size,o,none⟩=false:=fun o=>own.frozenAt o
    have own3:=qL (zmr za4 (x:=x) rfl own hlt)
    have HP3:=qL (HP.out.put HX.out qF (by rw [Int.toNat_natCast];exact hx))
    have HB3:=qL (zev hbw (qV w.heap.size) (a:=k*3) (b:=k*3+1) (c:=k*3+2) (x:= .int .i64 x.k) (y:= .int .i64 x.m) (z:= .string x.s))
    have d1:decide (j<n)=true:=by simp [hjn]
    clear hc2 hx hq own x1 x2 x3 hbw
    go_wp2
    go_roundw
    case rel=>exact ⟨k+1,r.set k x,by omega,by go_num,HB3.out,qL HDR2.out,own3,HP3⟩
    case measure=>simp [intOf];omega
   ·have HP3:=qL (HP.out.skip HX.out (by rw [LA.out];exact hin))
    by_cases hi0':0<=i
    ·have d0:decide (0<=i)=true:=by simp [hi0']
     have d1:decide (i<n)=false:=by simp;omega
     clear hin
     go_wp2
     go_roundw
     case rel=>exact ⟨k+1,r,by omega,by go_num,HBW.out,HDR2,HO,HP3⟩
     case measure=>simp [intOf];omega
    ·have d0:decide (0<=i)=false:=by simp;omega
     clear hin
     go_wp2
     go_roundw
     case rel=>exact ⟨k+1,r,by omega,by go_num,HBW.out,HDR2,HO,HP3⟩
     case measure=>simp [intOf];omega
  ·obtain rfl:k=m:=by omega
   go_wp2
   go_ret
   obtain ⟨A2,c2,e2,hr2,_⟩:=zd9 HO.out
   have hend:r=yc8 (⟨0,0,⟨#[]⟩⟩:Val) l is:=PicTo.end_ (by have:=HP.out;rw [<-LI.out] at this;exact this)
   cases e2
   exact ⟨⟨_,_,rfl,zb4.2 (by rw [<-hend];exact hr2),qV _,hbw,(fun a ha=>by cases ha;exact ⟨qV _,(HO.out.lt _ rfl).2⟩),⟨_,by rw [<-hend];exact HO.out,zbg _,fun a h p hp=>by cases hp⟩⟩,HDR2.out⟩
end
section
open Go.Shelf Go.Sort Go.Lib
theorem Yc7 (A:Option Addr)(n c:Nat)(l:List Val)(B:Option Addr)(m d:Nat)(is:List Int)(w:World)(h:rVal w A n l)(hi:rInt w B m is)(hn:n<=100000)(hm:m<=100000):
 Calls Tryz.prog 207 #[.slice A n c, .slice B m d] w fun e w'=> ∃ A1 c1,e= .returned (.slice A1 m c1)/\rVal w' A1 m (pkV is l)/\BelD w w':=by
 have H:=qL (yy9 A n c l B m d is w h hi hn hm)
 clear h hi
 go_enter Tryz.func207,Tryz.ntmps207
 go_wp2_with fail
 refine H.out.mono ?_
 rintro e w1 ⟨⟨A1,c1,rfl,h1,h2,h3,h4,h5⟩,h6⟩
 have HE:=qL (⟨zb4.1 h1,h3,h6⟩:rVal w1 A1 m (yc8 (⟨0,0,⟨#[]⟩⟩:Val) l is)/\BelD w w1)
 clear h1 h2 h3 h4 h5 h6
 go_wp2
 go_ret
 exact ⟨A1,c1,rfl,HE.out.1,HE.out.2⟩
end
section
open Go.Shelf Go.Sort Go.Lib
theorem yrk (A:Option Addr)(n c:Nat)(A':Option Addr)(n' c':Nat)(a b:List Val)(oA:Option Addr)(oN oC:Nat)(os:List Int)(g:Nat)(w:World)(ha:rVal w A n a)(hb:rVal w A' n' b)(ho:rInt w oA oN os)(hg:w.cell? ⟨g,0,none⟩=some (.slice oA oN oC))(hn:n<=100000)(hn':n'<=100000)(hoN:oN<=100000):
 Calls Tryz.prog 290 #[.slice A n c, .slice A' n' c', .pointer (some ⟨g,0,none⟩)] w fun e w'=>e= .returned (.int .i64 (ydj os a b))/\BelD w w':=by
 have HA:=qL ha
 have HB:=qL hb
 have HO:=qL ho
 have LO:=qL ho.len
 have LA:=qL ha.len
 have LB:=qL hb.len
 have hbs:Below w.heap.size w w:=za0 w
 clear ha hb ho
 go_enter Tryz.func290,Tryz.ntmps290
 go_wp2_with fail
 go_region_held3 (fun w'=>Below w.heap.size w w'/\w'.cell? ⟨g,0,none⟩=some (.slice oA oN oC)/\w.drawn<=w'.drawn)
  ((first |exact ⟨Below.drew hbs,hg,Nat.le_succ _⟩|(go_split_ands;exact ⟨btr qI hb3,qM (btr qI hb3) hg,qR qI hd3⟩)|(go_split_ands;exact ⟨btr qI hb2,qM (btr qI hb2) hg,qR qI hd2⟩)|(go_split_ands;exact ⟨btr qI hb1,qM (btr qI hb1) hg,qR qI hd1⟩)))
  (first
   |(go_at_call 207;go_split_ands;(with_reducible refine (Yc7 A n c a oA oN oC os _ (HA.out.later qI) (HO.out.later qI) hn hoN).mono ?_);rintro e wa ⟨A1,c1,rfl,hr1,hb1,hd1⟩;have HR1:=qL hr1;clear hr1)
   |(go_at_call 207;go_split_ands;(with_reducible refine (Yc7 A' n' c' b oA oN oC os _ (HB.out.later qI) (HO.out.later qI) hn' hoN).mono ?_);rintro e wb ⟨A2,c2,rfl,hr2,hb2,hd2⟩;have HR2:=qL hr2;clear hr2)
   |(go_at_call 42;go_split_ands;(with_reducible refine (Ycx A1 oN c1 A2 oN c2 (pkV os a) (pkV os b) _ (by first |exact HR1.out|exact HR1.out.later hb2) (by first |exact HR2.out|exact HR2.out.later hb1) (by rw [zdi];have:=LO.out;omega) (by rw [zdi];have:=LO.out;omega)).mono ?_);rintro e wc ⟨rfl,hb3,hd3⟩))
 all_goals
  go_split_ands
  have HBD:Hid (BelD w wc):=qL ⟨by assumption,by assumption⟩
  by_cases hz:yag (pkV os a) (pkV os b)=0
  ·have e0:(yag (pkV os a) (pkV os b) !=0)=false:=by simp [hz]
   have HC:=qL (Ycx A n c A' n' c' a b wc (HA.out.later HBD.out.1) (HB.out.later HBD.out.1) (by have:=LA.out;omega) (by have:=LB.out;omega))
   have HZ:=qL hz
   clear hz
   go_wp2_with fail
   refine HC.out.mono ?_
   rintro e w2 ⟨rfl,hbd⟩
   have H2:=qL (HBD.out.trans hbd)
   clear hbd
   go_wp2
   go_ret
   exact ⟨zak (by unfold ydj;rw [if_pos HZ.out]),H2.out⟩
  ·have e0:(yag (pkV os a) (pkV os b) !=0)=true:=by simp [hz]
   have HZ:=qL hz
   clear hz
   go_wp2
   go_ret
   exact ⟨zak (by unfold ydj;rw [if_neg HZ.out]),HBD.out⟩
end
section
open Go.Shelf Go.Sort Go.Lib
theorem yje {n:Nat}(os:List Int)(f:Fin n->List Val):SWO (ltOf fun i j:Fin n=>ydj os (f i) (f j)) where
 irrefl x:=by
  show decide (ydj os (f x) (f x)<0)=false
  rw [ydl.2 rfl];rfl
 trans x y z h1 h2:=by
  unfold ltOf at*
  simp only [decide_eq_true_eq] at*
  exact yef h1 h2
 ntrans x y z h1 h2:=by
  unfold ltOf at*
  simp only [decide_eq_false_iff_not] at*
  exact ycr h2 h1
end
section
open Go.Shelf Go.Sort Go.Lib
variable {α:Type}[Inhabited α]
theorem ygg (enc:α->Value)(w:World)(blk off m:Nat)(d:Array α)(os:Array Obj)(b:Nat)(hb:b≠blk)(hl:b<w.heap.size):(sortWorld enc w blk off m d os).heap[b]?=w.heap[b]?:=by
 unfold sortWorld Go.Sort.grow putRow mapBlock Sort.ahead
 show ((w.heap.modify blk _)++os)[b]?=_
 rw [Array.getElem?_append_left (by simpa using hl),Array.getElem?_modify,if_neg (Ne.symm hb)]
end
section
open Go.Shelf Go.Sort Go.Lib
variable {α:Type}[Inhabited α]
theorem ydu (enc:α->Value)(w:World)(blk off m:Nat)(d:Array α)(os:Array Obj):w.grownBy (sortWorld enc w blk off m d os) (some blk):=
 ⟨rfl,rfl,rfl,by unfold sortWorld Go.Sort.grow putRow mapBlock Sort.ahead;simp,fun b hl hb=>ygg enc w blk off m d os b (fun e=>hb (by rw [e])) hl⟩
end
section
open Go.Shelf Go.Sort Go.Lib
variable {α:Type}[Inhabited α]
theorem yk1 (enc:α->Value)(w:World)(blk m:Nat)(d:Array α)(os:Array Obj){cs:Array Value}{t:Nat}(hg:w.heap[blk]?=some (.cells cs t (0,0)))(hsz:d.size<=cs.size):
 ∃ cs',(sortWorld enc w blk 0 m d os).heap[blk]?=some (.cells cs' t (0,0))/\cs'.size=cs.size/\cs'.toList.take d.size=d.toList.map enc:=by
 have hl:=(Array.getElem?_eq_some_iff.1 hg).1
 refine ⟨putCells enc 0 d cs,?_,by simp [putCells],?_⟩
 ·unfold sortWorld Go.Sort.grow putRow mapBlock Sort.ahead
  show ((w.heap.modify blk _)++os)[blk]?=_
  rw [Array.getElem?_append_left (by simpa using hl),Array.getElem?_modify,if_pos rfl,hg]
  rfl
 ·apply List.ext_getElem?
  intro j
  rw [List.getElem?_take,List.getElem?_map]
  split
  ·rename_i hj
   rw [Array.getElem?_toList,putCells,Array.getElem?_mapIdx,Array.getElem?_eq_getElem qF]
   simp [hj]
  ·rename_i hj
   rw [List.getElem?_eq_none (by simp;omega)]
   rfl
end
section
open Go.Shelf Go.Sort Go.Lib
def yqw (g n c B B0:Nat)(os:List Int)(l:List (List Val))(w:World)(e:Ending)(w':World):Prop:=
 e= .returned (.tuple #[])/\ ∃ es',w'.ownsRow B 63 1 (.slice (some ⟨g,0,none⟩) n c) n (flat yah es')/\dAll (oldRow B0 w') es' (ya3 os l)/\w.grownBy w' (some g)
end
section
open Go.Shelf Go.Sort Go.Lib
theorem yzp (g n c B B0:Nat)(es:List Slc)(l:List (List Val))(oA:Option Addr)(oN oC:Nat)(os:List Int)(q:Nat)(w:World)(h1:w.ownsRow B 63 1 (.slice (some ⟨g,0,none⟩) n c) n (flat yah es))(h2:dAll (oldRow B0 w) es l)(hB:B0<=B)(hn:0<n)(hn2:n<=100000)(hf: ∀ x∈l,x.length<=12)
 (ho:rInt w oA oN os) (hoN:oN<=12) (hoB:0<oN-> ∀ ad,oA=some ad->ad.block<B) (hq:w.cell? ⟨q,0,none⟩=some (.slice oA oN oC)) (hqB:q<B):
 Calls Tryz.prog 289 #[.slice (some ⟨g,0,none⟩) n c, .func (.func 290) #[] #[.pointer (some ⟨q,0,none⟩)]] w (yqw g n c B B0 os l w):=by
 have hlen:es.length=n:=by
  have:(flat yah es).length=n*1:=h1.1
  rw [zau yae] at this
  omega
 have htl:l.length=n:=by rw [<-h2.len];exact hlen
 rcases h1 with ⟨_,⟨e1,_⟩|⟨g',cap,cur,e1,b1,b2,b3,b4,b5,b6⟩⟩
 ·cases e1
 injection e1 with e1 e2 e3
 injection e1 with e1
 injection e1 with e1
 subst e1
 subst e3
 obtain ⟨m,rfl⟩: ∃ m,n=m+1:=⟨n - 1,by omega⟩
 have hgl:=(Array.getElem?_eq_some_iff.1 b2).1
 let E:Fin (m+1)->Slc:=fun i=>es[i.1]'(by rw [hlen];exact i.2)
 let R:Fin (m+1)->List Val:=fun i=>l[i.1]'(by rw [htl];exact i.2)
 let enc:Fin (m+1)->Value:=fun i=>(E i).val
 let d:Array (Fin (m+1)):=(List.finRange (m+1)).toArray
 have hds:d.size=m+1:=by simp [d]
 have hfl: ∀ (l:List (Fin (m+1))),l.map enc=flat yah (l.map E):=fun l=>by
  induction l with
  |nil=>rfl
  |cons x l ih=>rw [List.map_cons,List.map_cons,zba,ih];rfl
 have hE:(List.finRange (m+1)).map E=es:=by
  apply List.ext_getElem (by simp [hlen])
  intro i h1 h2
  simp [E]
 have hR:(List.finRange (m+1)).map R=l:=by
  apply List.ext_getElem (by simp [htl])
  intro i h1 h2
  simp [R]
 have hD: ∀ i,oldRow B0 w (E i) (R i):=fun i=>by
  obtain ⟨b,hb,hr⟩:=h2.get (j:=i.1) (a:=E i) (List.getElem?_eq_getElem _)
  rw [List.getElem?_eq_getElem (by rw [htl];exact i.2)] at hb
  cases hb
  exact hr
 have hH:Holds enc w g 0 d:=fun j hj=>by
  rw [hds] at hj
  have hdj:d[j]! =⟨j,hj⟩:=by
   rw [getElem!_pos d j (by rw [hds];exact hj)]
   simp [d]
  refine ⟨?_,by simp [World.frozen?,b2]⟩
  rw [hdj,World.cell?,b2]
  show cur[0+j]?=_
  have hb6:cur.toList.take ((m+1)*1)=flat yah es:=b6
  have h3:=congrArg (fun l=>l[j]?) hb6
  simp only [List.getElem?_take] at h3
  rw [if_pos qF] at h3
  have hej:es[j]?=some (E ⟨j,hj⟩):=List.getElem?_eq_getElem _
  have hf0:=zbf yae hej 0 qF
  rw [show j*1+0=j by omega] at hf0
  rw [hf0] at h3
  rw [Nat.zero_add,<-Array.getElem?_toList,h3]
  rfl
 have keep: ∀ (w':World),w.grownBy w' (some g)-> ∀ i,oldRow B0 w' (E i) (R i):=fun w' hg i=>(hD i).kept hg fun k e=>by cases e;omega
 have hln: ∀ i,(E i).2.1<=12:=fun i=>by
  have h1:(R i).length=(E i).2.1:=(hD i).1.len
  have h2:(R i).length<=12:=hf _ (List.getElem_mem _)
  omega
 have hcmp:CmpLays1 Tryz.prog 290 #[.pointer (some ⟨q,0,none⟩)] enc (fun i j:Fin (m+1)=>ydj os (R i) (R j)) g 0 d.size w:=fun m' os' dk _ x y=>by
  have hg:=ydu enc w g 0 m' dk os'
  refine (yrk (E x).1 (E x).2.1 (E x).2.2 (E y).1 (E y).2.1 (E y).2.2 (R x) (R y) oA oN oC os q _ (keep _ hg x).1 (keep _ hg y).1 (Fl.kept ho hg fun h0 ad e e2=>by injection e2 with e2;have:=hoB h0 ad e;omega) (hg.cell hq (fun e=>by injection e with e;have e:q=g:=e;omega)) (by have:=hln x;omega) (by have:=hln y;omega) qF).mono ?_
  rintro e w' ⟨rfl,hb⟩
  exact ⟨rfl,hb.grow⟩
 have eg: ∀ args w,(callFunc 290 args).run Tryz.prog w= .ok (.enter 290 args) w:=enters_of Tryz.func290 qG rfl
 have hcon:=Any.slices_SortFunc ypu enc (fun x=>rfl) (fun i j:Fin (m+1)=>ydj os (R i) (R j)) (yje os R) 290 #[.pointer (some ⟨q,0,none⟩)] g 0 c d w eg hcmp hH hgl (show d.size<4611686018427387904 from by rw [hds];exact Nat.lt_of_le_of_lt hn2 (by decide))
 change Calls Tryz.prog 289 _ _ _ at hcon
 rw [hds] at hcon
 refine hcon.mono ?_
 rintro e w' ⟨rfl,d',q',os',hp,hs,rfl⟩
 obtain ⟨hp1,_,hp3⟩:=hp
 rw [hds] at hp1
 have hg:=ydu enc w g 0 q' d' os'
 have hp4:d'.toList.Perm d.toList:=by
  have e1:=zf5 hp1
  have e2:=zf5 hds
  rw [e1,e2] at hp3
  exact hp3
 have hsorted:d'.toList.map R=ya3 os l:=by
  refine yk3 ?_ ?_
  ·have:=hp4.map R
   rwa [show d.toList.map R=l by simp [d,hR]] at this
  ·rw [List.pairwise_map,List.pairwise_iff_getElem]
   intro i j hi hj hij
   have hi':i<d'.size:=by simpa using hi
   have hj':j<d'.size:=by simpa using hj
   have:=hs i j (Nat.zero_le _) hij qF
   unfold ltOf at this
   rw [decide_eq_false_iff_not,getElem!_pos d' i hi',getElem!_pos d' j hj'] at this
   exact this
 obtain ⟨cs',k1,k2,k3⟩:=yk1 enc w g q' d' os' b2 (by
  rw [hp1]
  have:cur.size=c*1:=b5
  omega)
 refine ⟨rfl,d'.toList.map E,⟨?_, .inr ⟨g,c,cs',rfl,b1,k1,b3,b4,by rw [k2];exact b5,?_⟩⟩,?_,hg⟩
 ·rw [zau yae];simp [hp1]
 ·rw [<-hfl,<-k3,hp1,Nat.mul_one]
 ·rw [<-hsorted]
  exact dAll.of_get qH fun j a b ha hb=>by
   rw [List.getElem?_map] at ha hb
   cases hx:d'.toList[j]? with
   |none=>rw [hx] at ha;cases ha
   |some i=>
    rw [hx] at ha hb
    cases ha
    cases hb
    exact keep _ hg i
end
theorem ygm {k:List Val}{x:List Val × Int}: ∀ {ps:List (List Val × Tab)} {j:Nat} {t:Tab} (_:ps.Pairwise fun p q=>p.1≠q.1) (_:ps[j]?=some (k,t)),yci k x ps=ps.set j (k,t++ [x])
 | [],j,t,_,h=>by simp at h
 |p::l,0,t,hp,h=>by
  simp at h
  subst h
  rw [yci,if_pos (zf0 _)]
  rfl
 |p::l,j+1,t,hp,h=>by
  have h':l[j]?=some (k,t):=by simpa using h
  have hne:=(List.pairwise_cons.1 hp).1 _ (qP h')
  rw [yci,if_neg (fun e=>hne ((zar _ _).1 e)),ygm (List.pairwise_cons.1 hp).2 h']
  rfl
theorem ydi {k:List Val}{x:List Val × Int}: ∀ {ps:List (List Val × Tab)} (_: ∀ p∈ps,p.1≠k),yci k x ps=ps++ [(k,[x])]
 | [],_=>rfl
 |p::l,h=>by
  rw [yci,if_neg (fun e=>h p (List.mem_cons_self ..) ((zar _ _).1 e)),ydi fun q hq=>h q (qW _ hq)]
  rfl
theorem Yi2 (n:Int)(w:World):Calls Tryz.prog 292 #[.int .i64 n] w fun e w'=>e= .returned (ya5 n).val/\Below w.heap.size w w':=by
 by_cases h1:n< -1073741824
 ·have d1:decide (n< -1073741824)=true:=by simp;omega
  have hv:ya5 n=zV:=if_pos (.inl h1)
  go_enter Tryz.func292,Tryz.ntmps292
  go_wp2
  refine bodyPost_ret (v:=zV.val) (by simp [results,Tryz.results292,go_sem,zV,Val.val]) rfl ?_
  exact ⟨by first |rfl|rw [hv],by (repeat (first |exact Below.refl _ _|assumption|refine Below.drew ?_|refine Below.alloc ?_ qE _))⟩
 ·have d1:decide (n< -1073741824)=false:=by simp;omega
  by_cases h2:1073741824<n
  ·have d2:decide (1073741824<n)=true:=by simp;omega
   have hv:ya5 n=zV:=if_pos (.inr h2)
   go_enter Tryz.func292,Tryz.ntmps292
   go_wp2
   refine bodyPost_ret (v:=zV.val) (by simp [results,Tryz.results292,go_sem,zV,Val.val]) rfl ?_
   exact ⟨by first |rfl|rw [hv],by (repeat (first |exact Below.refl _ _|assumption|refine Below.drew ?_|refine Below.alloc ?_ qE _))⟩
  ·have d2:decide (1073741824<n)=false:=by simp;omega
   have hv:ya5 n=⟨2,n,⟨#[]⟩⟩:=if_neg qF
   go_enter Tryz.func292,Tryz.ntmps292
   go_wp2
   refine bodyPost_ret (v:=(⟨2,n,⟨#[]⟩⟩:Val).val) (by simp [results,Tryz.results292,go_sem,Val.val]) rfl ?_
   exact ⟨by first |rfl|rw [hv],by (repeat (first |exact Below.refl _ _|assumption|refine Below.drew ?_|refine Below.alloc ?_ qE _))⟩
def fpB (l:List Val):List UInt8:=l.flatMap fun v=>ybn [v]
def fpS (l:List Val):ByteArray:=⟨(fpB l).toArray⟩
theorem yh6 : ∀ {a b:List Val} (_: ∀ v∈a,yab v=true) (_: ∀ v∈b,yab v=true) (_:a.length=b.length),fpB a=fpB b->a=b
 | [],[],_,_,_,_=>rfl
 | [],_::_,_,_,h,_=>by simp at h
 |_::_,[],_,_,h,_=>by simp at h
 |v::a,u::b,ha,hb,hl,h=>by
  unfold fpB ybn at h
  simp only [List.flatMap_cons,List.flatMap_nil,List.append_nil,List.length_singleton,List.cons_append,List.cons.injEq,true_and] at h
  obtain ⟨e,h2⟩:=zoj (ha v (List.mem_cons_self ..)) (hb u (List.mem_cons_self ..)) h
  rw [e,yh6 (fun v hv=>ha v (qW _ hv)) (fun v hv=>hb v (qW _ hv)) (by simpa using hl) (by unfold fpB ybn;simpa using h2)]
theorem yh7 {a b:List Val}(ha: ∀ v∈a,yab v=true)(hb: ∀ v∈b,yab v=true)(h1:a.length=b.length)(h:(fpS a).data.toList=(fpS b).data.toList):a=b:=yh6 ha hb h1 (by simpa [fpS] using h)
theorem yf4 : ∀ {r:List Val} (_: ∀ v∈r,yab v=true),(fpB r).length<=r.length*67
 | [],_=>by simp [fpB]
 |v::r,h=>by
  have h1:=zok (h v (List.mem_cons_self ..))
  have ih:=yf4 fun v hv=>h v (qW _ hv)
  have e:fpB (v::r)=ybn [v]++fpB r:=rfl
  rw [e,List.length_append,List.length_cons]
  unfold ybn
  simp only [List.length_cons,List.flatMap_cons,List.flatMap_nil,List.append_nil]
  omega
theorem yh2 {v:Val}(h:yab v=true):(ybn [v]).length<=67:=by
 have h1:=zok h
 unfold ybn
 simp only [List.length_cons,List.flatMap_cons,List.flatMap_nil,List.append_nil]
 omega
theorem yn9 (rA:Option Addr)(rN rC:Nat)(r:List Val)(w:World)(hr:rVal w rA rN r)(h12:rN<=12)(hv: ∀ v∈r,yab v=true):Calls Tryz.prog 288 #[.slice rA rN rC] w fun e w'=>e= .returned (.string (fpS r))/\Below w.heap.size w w':=by
 obtain ⟨iE,PE⟩:=yo9
 have HR:=qL hr
 have HL:=qL hr.len
 have HV:=qL hv
 clear hr hv
 go_enter Tryz.func288,Tryz.ntmps288
 go_wp2
 go_loopw [3,10] (fun v i wr=> ∃ (k:Nat),k<=rN/\i= .int .i64 k/\Below w.heap.size w wr/\Hid (ownD kByte wr w.heap.size v (fpB (r.take k)).length (fpB (r.take k)))) (fun _ i _=>rN - (intOf i).toNat)
 case atStart=>exact ⟨0,by omega,rfl,za0 _,qL (ownD.nil _ _)⟩
 case round=>
  obtain ⟨k,hk,rfl,hbw,HO⟩:=hrel
  have HBW:=qL hbw
  by_cases hlt:k<rN
  ·obtain ⟨b1,o1,rfl,hc1⟩:=(HR.out.later hbw).opn qF
   obtain ⟨x,hx⟩:=zah (l:=r) (k:=k) (by have:=HL.out;omega)
   obtain ⟨x1,x2,x3⟩:=hc1 k x hx
   have hvx:=HV.out x (qP hx)
   have HTK:Hid (fpB (r.take (k+1))=fpB (r.take k)++ybn [x]):=qL (by unfold fpB;rw [zbc hx,List.flatMap_append];simp)
   have hlen:(fpB (r.take k)).length<900:=by
    have:=yf4 (r:=r.take k) fun v hv=>HV.out v (List.mem_of_mem_take hv)
    have h2:=List.length_take (i:=k) (l:=r)
    omega
   have HV0:Hid (∀ j,u3.ownBlock=some j->w.heap.size<=j/\j<wr.heap.size):=qL HO.out.lt
   have HR1:Hid (rVal ((wr.alloc (.cells #[.int .i64 x.k, .int .i64 x.m, .string x.s] 46)).alloc (.cells #[.int .i64 x.k, .int .i64 x.m, .string x.s] 46)) (some ⟨wr.heap.size+1,0,none⟩) 1 [x]):=qL (za7 rfl fun j u h=>by
    have h:(yat x)[j]?=some u:=by simpa [flat] using h
    have:=zbl (wr.alloc (.cells #[.int .i64 x.k, .int .i64 x.m, .string x.s] 46)) 46 x.k x.m x.s j u h
    rw [zaw] at this
    simpa using this)
   have HEN:=qL (yh3 (some ⟨wr.heap.size+1,0,none⟩) 1 1 [x] ((wr.alloc (.cells #[.int .i64 x.k, .int .i64 x.m, .string x.s] 46)).alloc (.cells #[.int .i64 x.k, .int .i64 x.m, .string x.s] 46)) HR1.out qF (fun v hv=>by simp at hv;subst hv;exact hvx))
   have HEL:=qL (yh2 hvx)
   clear hc1 hx hbw hvx
   go_wp2_with fail
   refine HEN.out.mono ?_
   rintro e w2 ⟨A2,n2,c2,rfl,hrd2,hb2⟩
   have HB2:=qL (btr (btr (zae wr _) (zae _ _)) hb2)
   obtain rfl:n2=(ybn [x]).length:=hrd2.len.symm
   obtain ⟨es2,hf2,hd2⟩:=hrd2
   have hpos2:0<(ybn [x]).length:=by simp [ybn]
   obtain ⟨b2,o2,rfl,_⟩:=Fl.lt hf2 (by show 0<1;omega) hpos2
   have HF2:=qL hf2
   have HD2:=qL hd2
   have HO2:=qL (HO.out.later HB2.out)
   have hn2b:(ybn [x]).length<=67:=HEL.out
   have hsz2:w.heap.size<=w2.heap.size:=qR HBW.out.size HB2.out.size
   clear hf2 hd2 hb2
   go_wp2_with (at_builtin;refine zc1 _ rfl _ _ rfl PE HO2.out HF2.out HD2.out rfl rfl qF hsz2 (fun a h p hp=>by cases hp) ?_;intro v1 w1 hown hg hat)
   have HOF:Hid (ownD kByte w1 w.heap.size v1 (fpB (r.take (k+1))).length (fpB (r.take (k+1)))):=qL (za2 hown HTK.out)
   have HBF:=qL (zaf (btr HBW.out HB2.out) hg (fun y e=>(HV0.out y e).1))
   clear hown hg hat
   go_wp2
   go_roundw
   case rel=>exact ⟨k+1,by omega,by go_num,HBF.out,HOF⟩
   case measure=>simp [intOf];omega
  ·obtain rfl:k=rN:=by omega
   have HTT:Hid (r.take k=r):=qL (List.take_of_length_le (by have:=HL.out;omega))
   obtain ⟨A8,c8,rfl,hcc8,hrd8,hfr8⟩:=HO.out.rd
   have hrd9:rD kByte wr A8 (fpB r).length (fpB r):=by rw [HTT.out] at hrd8;exact hrd8
   have hconv: ∀ W,W=wr->(convert 185 9 (.slice A8 (fpB (r.take k)).length c8)).run Tryz.prog W= .ok (.string (fpS r)) W:=fun W e=>by
    subst e
    rw [HTT.out]
    clear hrd8
    cases A8 with
    |none=>
     have e0:(fpB r).length=0:=by
      obtain ⟨ls,h1,h2⟩:=hrd9
      rcases Nat.eq_zero_or_pos (fpB r).length with h0|h0
      ·exact h0
      ·obtain ⟨b,off,e,_⟩:=h1.2 h0
       cases e
     have e1:fpB r= []:=List.eq_nil_of_length_eq_zero e0
     unfold fpS
     rw [e1]
     simp [convert,run_underlying Tryz.underlying185,run_underlying Tryz.underlying9,run_underlying Tryz.underlying5,Conv.bytesToString]
     rfl
    |some ad=>
     exact run_convert_bytes_back (P:=Tryz.prog) W 185 9 5 ad c8 (fpB r) Tryz.underlying185 Tryz.underlying5 Tryz.underlying9 (fun j hj=>by
      obtain ⟨b,o,e,hc⟩:=hrd9.opn qF
      cases e
      obtain ⟨a,ha,h1⟩:=hc j _ (List.getElem?_eq_getElem hj)
      have:=h1 0 (.int .u8 (a.toNat:Int)) (by show 0<1;omega) rfl
      have e:a=(fpB r)[j]:=ha
      rw [<-e,zaw]
      rw [show o+j*kByte.C+0=o+j from by show o+j*1+0=o+j;omega] at this
      exact this)
   have hconv:=hconv wr rfl
   clear hrd8 hrd9 hfr8
   go_wp2
   go_ret
   exact ⟨rfl,hbw⟩
def ycm (l:List (List Val)):Tab:=l.map fun r=>(r,1)
def yem (is:List Int)(l:List (List Val)):List (List (List Val)):=(yal is (ycm l)).map yap
theorem yhh (t:Tab):ycm (yba t)=yca t:=by
 unfold ycm yba
 rw [List.map_map]
 conv=>rhs;rw [<-List.map_id (yca t)]
 refine List.map_congr_left fun y hy=>?_
 have:=(ybt.1 hy).1
 cases y;simp at this;simp [this]
theorem yfi (l:List (List Val))(k:Nat):ycm (l.take k)=(ycm l).take k:=by unfold ycm;rw [List.map_take]
theorem yel (is:List Int)(l:List (List Val)):(yal is (ycm l)).length<=l.length:=by
 have:=yek is (ycm l)
 unfold ycm at this
 rw [List.length_map] at this
 exact this
theorem yy7 : ∃ i,KinP Tryz.prog (ygv 63) 261 i (.slice none 0 0) 24:=by
 obtain ⟨i,h⟩:=Yht
 exact ⟨i,⟨h.ht,h.hi,h.hz,h.hs,h.hb,h.hzs,h.small⟩⟩
theorem yof :(Tryz.prog.info? 261).map (fun i=>(i.zero,i.size,i.bytes))=some (some (.slice none 0 0),1,24):=by kernel_rfl
theorem ypa : ∃ i,KinP Tryz.prog (ygv 261) 271 i (.slice none 0 0) 24:=by
 obtain ⟨i0,hi,hz0,hz1,hz2⟩:=info_parts yof
 exact ⟨i0,⟨Tryz.underlying271,hi,hz0,hz1,hz2,rfl,by omega⟩⟩
def FMap (f:List UInt8->Option Value)(ps:List (List Val × Tab)):Prop:=
 (∀ (j:Nat) p,ps[j]?=some p->f (fpS p.1).data.toList=some (.int .i64 j))/\ ∀ s,(∀ p∈ps,(fpS p.1).data.toList≠s)->f s=none
theorem FMap.nil :FMap (fun _=>none) []:=⟨fun j p h=>by simp at h,fun s _=>rfl⟩
def yf9 (m:Nat)(ps:List (List Val × Tab)):Prop:= ∀ p∈ps,(∀ v∈p.1,yab v=true)/\p.1.length=m
theorem FMap.hit {f:List UInt8->Option Value}{ps:List (List Val × Tab)}(h:FMap f ps){j:Nat}{p:List Val × Tab}(hp:ps[j]?=some p)(t:Tab):FMap f (ps.set j (p.1,t)):=by
 have hj:=(qO hp).1
 refine ⟨fun i q hq=>?_,fun s hs=>h.2 s fun q hq e2=>?_⟩
 ·rw [List.getElem?_set] at hq
  split at hq
  ·rename_i e2
   subst e2
   cases hq
   exact h.1 _ p hp
  ·exact h.1 i q hq
 ·obtain ⟨i,hi⟩:=List.getElem?_of_mem hq
  by_cases e3:i=j
  ·subst e3
   rw [hp] at hi
   cases hi
   exact hs (p.1,t) (qP (i:=i) (by rw [List.getElem?_set,if_pos rfl,if_pos hj])) e2
  ·exact hs q (qP (i:=i) (by rw [List.getElem?_set,if_neg (Ne.symm e3)];exact hi)) e2
theorem FMap.miss {f:List UInt8->Option Value}{ps:List (List Val × Tab)}{m:Nat}(h:FMap f ps)(hk:yf9 m ps){k:List Val}(hkk:(∀ v∈k,yab v=true)/\k.length=m)(hn: ∀ p∈ps,p.1≠k)(t:Tab):FMap (yc1 f (fpS k).data.toList (.int .i64 ps.length)) (ps++ [(k,t)]):=by
 refine ⟨fun j p hp=>?_,fun s hs=>?_⟩
 ·rw [List.getElem?_append] at hp
  split at hp
  ·unfold yc1
   rw [if_neg (fun e=>hn p (qP hp) (yh7 (hk p (qP hp)).1 hkk.1 (by rw [(hk p (qP hp)).2,hkk.2]) e))]
   exact h.1 j p hp
  ·rw [List.getElem?_singleton] at hp
   split at hp
   ·cases hp
    have e:j=ps.length:=by omega
    unfold yc1
    rw [if_pos rfl,e]
   ·cases hp
 ·unfold yc1
  rw [if_neg (fun e=>hs (k,t) qH e.symm)]
  exact h.2 s fun p hp=>hs p (List.mem_append_left _ hp)
theorem FMap.find {f:List UInt8->Option Value}{ps:List (List Val × Tab)}{m:Nat}(h:FMap f ps)(hk:yf9 m ps){k:List Val}(hkk:(∀ v∈k,yab v=true)/\k.length=m)(hn: ∀ p∈ps,p.1≠k):f (fpS k).data.toList=none:=
 h.2 _ fun p hp e=>hn p hp (yh7 (hk p hp).1 hkk.1 (by rw [(hk p hp).2,hkk.2]) e)
theorem QS.len_cast {e:TypeId}{w:World}{B0 B n n' c:Nat}{A:Option Addr}{qs:List Slc}{ps:List (List (List Val))}(h:QS e w B0 B (.slice A n c) qs ps)(en:n'=n):QS e w B0 B (.slice A n' c) qs ps:=by rw [en];exact h
theorem yif (qs:List Slc):(flat yah (qs++ [(none,0,0)]))[qs.length]?=some (.slice none 0 0):=by
 have hg:(qs++ [((none,0,0):Slc)])[qs.length]?=some (none,0,0):=by simp
 have:=zbf yae hg 0 qF
 rw [show qs.length*1+0=qs.length by omega] at this
 exact this
theorem yj5 {w4:World}{B:Nat}{v4:Value}{qs:List Slc}(h:ownD (ygv 261) w4 B v4 (qs.length+1) (qs++ [(none,0,0)])):
 ∃ g cc,v4= .slice (some ⟨g,0,none⟩) (qs.length+1) cc/\w4.ownsRow B 261 1 (.slice (some ⟨g,0,none⟩) (qs.length+1) cc) (qs.length+1) (flat yah (qs++ [(none,0,0)]))/\w4.cell? ⟨g,qs.length,none⟩=some (.slice none 0 0)/\w4.frozen? ⟨g,qs.length,none⟩=false:=by
 have h5:w4.ownsRow B 261 1 v4 (qs.length+1) (flat yah (qs++ [(none,0,0)])):=(zgf (K:=ygv 261) rfl rfl).1 h
 obtain ⟨g,cc,rfl,_,_⟩:=World.ownsRow.form h5 qF
 exact ⟨g,cc,rfl,h5,(h5.cellAt qs.length qF).trans (yif qs),h5.frozenAt _⟩
def PtsR (is os:List Int)(l:List (List Val))(w:World)(e:Ending)(w':World):Prop:= ∃ A n c qs,e= .returned (.slice A n c)/\QS 261 w' w.heap.size (w.heap.size+2) (.slice A n c) qs ((yem is l).map (ya3 os))/\Below w.heap.size w w'
theorem ygb (A:Option Addr)(n c:Nat)(l:List (List Val))(B:Option Addr)(m d:Nat)(is:List Int)(O:Option Addr)(oN oC:Nat)(os:List Int)(w:World)(hl:rD kRow w A n l)(hi:rInt w B m is)(ho:rInt w O oN os)(hn:n<=4096)(hm:m<=12)(hoN:oN<=12)(h12: ∀ r∈l,r.length<=12)(hv: ∀ r∈l,vOk r):
 Calls Tryz.prog 264 #[.slice A n c, .slice B m d, .slice O oN oC] w (PtsR is os l w):=by
 obtain ⟨iE,PE⟩:=yy7
 obtain ⟨iP,PP⟩:=ypa
 have HL:=qL hl
 have HI:=qL hi
 have HO:=qL ho
 have HMI:=qL hi.len
 have HLL:=qL hl.len
 have H12:=qL h12
 have HV:=qL hv
 have HOB:Hid (0<oN-> ∀ ad,O=some ad->ad.block<w.heap.size):=qL fun h0 ad e=>by
  obtain ⟨b',off,e',hl⟩:=Fl.lt ho qF h0
  rw [e'] at e
  cases e
  exact hl
 clear hl hi ho h12 hv
 have hmk:(Instr.makeMap 240 none).run Tryz.prog (w.alloc (.cells #[.slice O oN oC] 22))= .ok (.map (some (w.heap.size+1))) ((w.alloc (.cells #[.slice O oN oC] 22)).alloc (.map #[] 0)):=by simp [Instr.makeMap]
 go_enter Tryz.func264,Tryz.ntmps264
 go_wp2
 clear hmk
 go_loopw [8,19] (fun v iv wr=> ∃ (k:Nat) (qs:List Slc) (f:List UInt8->Option Value),k<=n/\iv= .int .i64 k/\Below w.heap.size w wr/\w.heap.size+2<=wr.heap.size/\wr.cell? ⟨w.heap.size,0,none⟩=some (.slice O oN oC)/\Hid (QS 261 wr w.heap.size (w.heap.size+2) v qs ((yal is (ycm (l.take k))).map yap))/\Hid (Mp Tryz.prog 9 wr (w.heap.size+1) k f)/\Hid (FMap f (yal is (ycm (l.take k))))) (fun _ iv _=>n - (intOf iv).toNat)
 case atStart=>exact ⟨0,[],_,by omega,rfl,(zae _ _).alloc qH _,by simp,by (repeat (first |(refine zaa ?_ rfl;(simp;done))|(refine zad ?_;(simp;done))|(refine zac ?_ ?_;(focus first |(simp;done)|(simp;omega)))|(refine zab ?_ ?_;(focus first |(simp;done)|(simp;omega))))),qL (QS.nil _ _ _ _),qL (by have:=Mp.made (P:=Tryz.prog) (k:=9) (w.alloc (.cells #[.slice O oN oC] 22));simpa using this),qL FMap.nil⟩
 case round=>
  obtain ⟨k,qs,f,hk,rfl,hbw,hsz,q0w,HQS,HMP,HMO⟩:=hrel
  have HBW:=qL hbw
  by_cases hlt:k<n
  ·obtain ⟨b1,o1,rfl,hc1⟩:=HL.out.opn qF
   obtain ⟨x,hx⟩:=zah (l:=l) (k:=k) (by have:=HLL.out;omega)
   obtain ⟨⟨rA,rN,rC⟩,x3,hcell⟩:=hc1 k x hx
   have x1:=hcell 0 (.slice rA rN rC) (by show 0<1;omega) rfl
   have X3:Hid (rVal w rA rN x):=qL x3
   have x1:w.cell? ⟨b1,o1+k,none⟩=some (.slice rA rN rC):=by rw [show o1+k=o1+k*kRow.C+0 by show o1+k=o1+k*1+0;omega];exact x1
   have z1:=qM hbw x1
   have hmm:=qP hx
   have hx12:=H12.out x hmm
   have hrN:rN<=12:=by have:=X3.out.len;omega
   have hxv:=HV.out x hmm
   have HTK0:Hid (yal is (ycm (l.take (k+1)))=yci (pkV is x) (x,1) (yal is (ycm (l.take k)))):=qL (by rw [yfi,yfi,zbc (x:=(x,1)) (by unfold ycm;rw [List.getElem?_map,hx];rfl),ygc])
   have HPI:=qL (ypd rA rN rC x B m d is wr (X3.out.later hbw) (HI.out.later hbw) qF qF)
   have HKV:Hid ((∀ v∈pkV is x,yab v=true)/\(pkV is x).length=m):=qL ⟨zer hxv is,by rw [zdi];exact HMI.out⟩
   clear hc1 hx x3 hcell hbw x1 hmm hxv
   go_wp2_with fail
   refine HPI.out.mono ?_
   rintro e w2 ⟨A1,c1,rfl,hrd,hcc,hb2,hfr,_⟩
   have HRD:Hid (rVal w2 A1 m (pkV is x)):=qL (zb4.1 hrd)
   have HB2:=qL hb2
   have HFP:=qL (yn9 A1 m c1 (pkV is x) w2 HRD.out hm HKV.out.1)
   clear hrd hb2 hfr
   go_wp2_with fail
   refine HFP.out.mono ?_
   rintro e w3 ⟨rfl,hb3⟩
   have HB3:=qL (btr HB2.out hb3)
   have hks:(fpS (pkV is x)).size<=maxLen:=by
    have h1:=yf4 HKV.out.1
    have h2:=HKV.out.2
    have:(fpS (pkV is x)).size=(fpB (pkV is x)).length:=by simp [fpS,ByteArray.size]
    rw [this]
    unfold maxLen
    omega
   have HMP3:=qL (HMP.out.later HB3.out)
   have HQS3:=qL (HQS.out.later HB3.out)
   have HB3w:=qL (btr HBW.out HB3.out)
   have q03:=qM HB3.out q0w
   have HPO:=qL (ybj is (ycm (l.take k)))
   have HOKK:Hid (yf9 m (yal is (ycm (l.take k)))):=qL fun p hp=>by
    obtain ⟨y,hy,e,_⟩:=HPO.out.key hp
    obtain ⟨r,hr,rfl⟩:=List.mem_map.1 hy
    rw [<-e]
    exact ⟨zer (HV.out r (List.mem_of_mem_take hr)) is,by rw [zdi];exact HMI.out⟩
   have HQL0:Hid (qs.length=(yal is (ycm (l.take k))).length):=qL (by have:=HQS3.out.len;rw [List.length_map] at this;exact this.symm)
   have hql:qs.length<=4096:=by have:=HQL0.out;have:=yel is (l.take k);have h:=List.length_take (i:=k) (l:=l);omega
   clear hb3 q0w
   by_cases hex: ∃ p∈yal is (ycm (l.take k)),p.1=pkV is x
   ·obtain ⟨⟨kk,t0⟩,hp,hpk⟩:=hex
    simp only at hpk
    subst hpk
    obtain ⟨j,hj⟩:=List.getElem?_of_mem hp
    have HPJ:=qL hj
    have hjl:j<(yal is (ycm (l.take k))).length:=(qO hj).1
    have hfj:=HMO.out.1 j _ hj
    have hlook:=HMP3.out.lookOk Tryz.underlying9 Tryz.underlying240 (z:= .int .i64 0) (Tryz.zeroValue3 w3) (fpS (pkV is x)) hks
    rw [hfj] at hlook
    simp only [Option.getD_some,Option.isSome_some] at hlook
    have HT0:Hid (t0.length<=n):=qL (by
     have h1:=HPO.out.rows _ hp
     simp only at h1
     rw [h1]
     unfold ofK
     refine qR (List.length_filter_le _ _) ?_
     unfold ycm
     rw [List.length_map,List.length_take]
     omega)
    have hjq:j<(qs:List Slc).length:=by rw [HQL0.out];exact hjl
    have HTK:Hid (yal is (ycm (l.take (k+1)))=(yal is (ycm (l.take k))).set j (pkV is x,t0++ [(x,1)])):=qL (by rw [HTK0.out,ygm HPO.out.pw HPJ.out])
    have HMOF:Hid (FMap f (yal is (ycm (l.take (k+1))))):=qL (by rw [HTK.out];exact HMO.out.hit HPJ.out _)
    obtain ⟨g,cc,hform,_,hgl⟩:=World.ownsRow.form HQS3.out.own qF
    subst hform
    have HQ:=HQS3
    have HM:=HMP3
    have HBX:=HB3w
    have q0:=q03
    have hj1:(j:Int)<((qs:List Slc).length:Int):=by omega
    have hj0:(0:Int)<=(j:Int):=by omega
    clear hj hp hfj
    obtain ⟨⟨sA,sN,sC⟩,ha⟩:=zah (l:=(qs:List Slc)) (k:=j) hjq
    obtain ⟨pb,hpb,hr⟩:=HQ.out.rel.get ha
    have hpe:pb=yap (pkV is x,t0):=by
     rw [List.getElem?_map,HPJ.out] at hpb
     injection hpb with hpb
     exact hpb.symm
    subst hpe
    obtain ⟨es,hrow,hes⟩:=hr
    have HES:=qL hes
    have HROWB:=qL hrow.lt
    have hg0:=HQ.out.own.lt g rfl
    have HSEP:Hid (∀ y,(Value.slice sA sN sC).ownBlock=some y->w.heap.size+2<=y/\y<w3.heap.size/\y≠g):=qL fun y hy=>⟨(hrow.lt y hy).1,(hrow.lt y hy).2,fun e=>HQ.out.sep _ (qP ha) y hy (by rw [e];rfl)⟩
    have p2:w3.cell? ⟨g,j,none⟩=some (.slice sA sN sC):=by
     have h:=HQ.out.own.cellAt j qF
     have hf:=zbf yae ha 0 qF
     rw [show j*1+0=j by omega] at hf
     exact h.trans hf
    have pf:w3.frozen? ⟨g,j,none⟩=false:=HQ.out.own.frozenAt _
    have HROW:Hid (ownD (ygv 63) (w3.alloc (.cells #[.slice rA rN rC] 63)) (w.heap.size+2) (.slice sA sN sC) sN es):=qL (((zgf (K:=ygv 63) rfl rfl).2 hrow).later (zae _ _))
    have hsN:sN<1000000:=by
     have h1:(flat yah es).length=sN*1:=hrow.1
     rw [zau yae] at h1
     have h2:=hes.len
     have h3:=HT0.out
     simp only [yap,List.length_map] at h2
     omega
    have hbase8:w.heap.size+2<=(w3.alloc (.cells #[.slice rA rN rC] 63)).heap.size:=qR (by have:=hg0;omega) (zae _ _).size
    have hge:some g≠(Value.slice sA sN sC).ownBlock:=fun e=>(HSEP.out _ e.symm).2.2 rfl
    have p28:(w3.alloc (.cells #[.slice rA rN rC] 63)).cell? ⟨g,j,none⟩=some (.slice sA sN sC):=qM (zae _ _) p2
    have pf8:(w3.alloc (.cells #[.slice rA rN rC] 63)).frozen? ⟨g,j,none⟩=false:=zab hg0.2 pf
    have hgl8:g<(w3.alloc (.cells #[.slice rA rN rC] 63)).heap.size:=qQ hg0.2 (zae _ _).size
    have HA:=qL ha
    have HQL:=qL HQ.out.len
    have q8:(w3.alloc (.cells #[.slice rA rN rC] 63)).cell? ⟨w.heap.size,0,none⟩=some (.slice O oN oC):=qM (zae _ _) q0
    have hqb:some w.heap.size≠(Value.slice sA sN sC).ownBlock:=fun e=>by have:=(HSEP.out _ e.symm).1;omega
    clear hpb hrow hes ha
    go_wp2_with (at_builtin;(refine zaq _ rfl _ _ rfl PE HROW.out ⟨_,0,none⟩ (rA,rN,rC) (rA,rN,rC) rfl rfl (ya9 _ _ _ _ _) rfl (fun p hp=>by cases hp) hsN hbase8 ?_);intro v' w' hown' hgrow hat;obtain ⟨A9,c9,rfl,hcc9,_,_⟩:=hown'.rd;have s1:=hgrow.cell p28 hge;have sf:=(hgrow.frozen_far ⟨g,j,none⟩ hgl8 hge).trans pf8)
    have hrow9:=(zgf (K:=ygv 63) rfl rfl).1 hown'
    have HB8:Hid (Below w.heap.size w (w3.alloc (.cells #[.slice rA rN rC] 63))):=qL (HBX.out.alloc HBX.out.size _)
    have hB9:=zaf HB8.out hgrow (fun y e=>by have:=(HSEP.out y e).1;omega)
    have HOLD:oldRow w.heap.size w' (rA,rN,rC) x:=⟨X3.out.later hB9,fun h0 ad e=>zif X3.out h0 ad e⟩
    have HREL:dAll (oldRow w.heap.size w') (es++ [(rA,rN,rC)]) (yap (pkV is x,t0)++ [x]):=dAll.snoc (HES.out.imp fun _ _ h=>(h.kept (ycp (zae _ _)) (fun q e=>by cases e)).kept hgrow (fun q e=>by have:=(HSEP.out q e).1;omega)) HOLD
    have HTURN:=qL (QS.turn (i:=j) (a2:=(A9,sN+1,c9)) (HQ.out.later (zae _ (.cells #[.slice rA rN rC] 63))) HA.out (l:=yap (pkV is x,t0)) (by rw [List.getElem?_map,HPJ.out];rfl) qF hrow9 HREL hgrow hat rfl)
    have hmb:some (w.heap.size+1)≠(Value.slice sA sN sC).ownBlock:=fun e=>by have:=(HSEP.out _ e.symm).1;omega
    have HMP9:=qL ((HM.out.later (zae _ (.cells #[.slice rA rN rC] 63))).kept hgrow hmb)
    have HMPF:=qL (HMP9.out.kept (row:=some g) (w':=w'.setCell ⟨g,j,none⟩ (.slice A9 (sN+1) c9)) ⟨rfl,rfl,rfl,by simp,fun b _ hne=>Below.heap_setCell _ _ _ _ (by show b≠g;exact fun e=>hne (by rw [e]))⟩ (fun e=>by injection e with e;omega))
    have HBF:=qL (hB9.setCell (p:=⟨g,j,none⟩) (by show w.heap.size<=g;omega) (.slice A9 (sN+1) c9))
    have q9:(w'.setCell ⟨g,j,none⟩ (.slice A9 (sN+1) c9)).cell? ⟨w.heap.size,0,none⟩=some (.slice O oN oC):=(World.cell?_setCell_far _ _ _ _ (by show g≠w.heap.size;omega)).trans (hgrow.cell q8 hqb)
    have hszf:w.heap.size+2<=(w'.setCell ⟨g,j,none⟩ (.slice A9 (sN+1) c9)).heap.size:=by have h1:=hgrow.size;have h2:=hbase8;simp only [World.size_setCell];omega
    clear hown' hrow9 hgrow hat hB9 HOLD HREL
    go_wp2
    go_roundw
    case rel=>exact ⟨k+1,_,_,by omega,by go_num,HBF.out,hszf,q9,qL (by rw [HTK.out,List.map_set];have h:=HTURN.out;rw [show yap (pkV is x,t0++ [(x,1)])=yap (pkV is x,t0)++ [x] by simp [yap]];exact h.len_cast qH),HMPF.out.mono qF|>Lib.hid,HMOF⟩
    case measure=>simp [intOf];omega
   ·have hnone: ∀ p∈yal is (ycm (l.take k)),p.1≠pkV is x:=fun p hp e=>hex ⟨p,hp,e⟩
    have HNO:=qL hnone
    have hfn:=HMO.out.find HOKK.out HKV.out hnone
    have hlook:=HMP3.out.lookOk Tryz.underlying9 Tryz.underlying240 (z:= .int .i64 0) (Tryz.zeroValue3 w3) (fpS (pkV is x)) hks
    rw [hfn] at hlook
    simp only [Option.getD_none,Option.isSome_none] at hlook
    obtain ⟨vA,vc,hvf,_,_⟩:=zd9 HQS3.out.own
    obtain ⟨w7,hput,hmp7,hg7⟩:=HMP3.out.put Tryz.underlying9 Tryz.underlying240 (by unfold maxLen;omega) (fpS (pkV is x)) hks (.int .i64 (qs.length:Nat))
    have HMP7:=qL hmp7
    have HQS7:Hid (QS 261 w7 w.heap.size (w.heap.size+2) u8 qs ((yal is (ycm (l.take k))).map yap)):=qL (HQS3.out.low hg7 (fun q e=>by cases e;exact ⟨by omega,by omega⟩))
    have hjz:(0:Int)<=(qs.length:Int):=by omega
    have hjy:(qs.length:Int)<((qs.length+1:Nat):Int):=by omega
    have HB7:Hid (Below w.heap.size w w7):=qL (zaf (v:= .slice (some ⟨w.heap.size+1,0,none⟩) 0 0) HB3w.out hg7 (fun q e=>by cases e;show w.heap.size<=w.heap.size+1;omega))
    have q07:=hg7.cell q03 (fun e=>by injection e with e;have e:w.heap.size=w.heap.size+1:=e;omega)
    have HW4:Hid (Below w7.heap.size w7 (w7.alloc (.cells #[.slice none 0 0] 261))):=qL (zae _ _)
    have HOP:Hid (ownD (ygv 261) (w7.alloc (.cells #[.slice none 0 0] 261)) (w.heap.size+2) u8 qs.length qs):=qL (((zgf (K:=ygv 261) rfl rfl).2 HQS7.out.own).later HW4.out)
    have hbase4:w.heap.size+2<=(w7.alloc (.cells #[.slice none 0 0] 261)).heap.size:=by have h1:=HB3.out.size;have h2:=hg7.size;have h3:=(zae w7 (.cells #[.slice none 0 0] 261)).size;omega
    have hql2:qs.length<1000000:=by omega
    have HVLT:Hid (∀ y,u8.ownBlock=some y->w.heap.size+2<=y/\y<w7.heap.size):=qL HQS7.out.own.lt
    have q08:(w7.alloc (.cells #[.slice none 0 0] 261)).cell? ⟨w.heap.size,0,none⟩=some (.slice O oN oC):=qM HW4.out q07
    have HFF:Hid (yau ((ygv 261).ptrs (none,0,0)) u8.ownBlock):=qL (fun p hp=>by change p∈ [] at hp;cases hp)
    have HCE:Hid (∀ j u,((ygv 261).enc (none,0,0))[j]?=some u->(w7.alloc (.cells #[.slice none 0 0] 261)).cell? ((⟨w7.heap.size,0,none⟩:Addr).add j)=some u):=qL (ya9 _ _ _ _ _)
    subst hvf
    clear hfn hnone hex hmp7 hg7
    go_wp2_with (first
     |(at_builtin
       refine zaq _ rfl _ _ rfl PP HOP.out ⟨_,0,none⟩ ((none,0,0):Slc) ((none,0,0):Slc) rfl rfl HCE.out rfl HFF.out hql2 hbase4 ?_
       intro v4 w4 hown4 hg4 hat4
       obtain ⟨g,cc,rfl,hown5,-,-⟩:=yj5 hown4
       have HQ:Hid (QS 261 w4 w.heap.size (w.heap.size+2) (.slice (some ⟨g,0,none⟩) ((qs++ [(none,0,0)]):List Slc).length cc) (qs++ [(none,0,0)]) ((yal is (ycm (l.take k))++ [(pkV is x,[])]).map yap)):=qL (by
        have:=QS.push (HQS7.out.later HW4.out) qF hbase4 hown5 hg4 hat4
        rw [List.map_append]
        exact this.len_cast qH)
       have hmb4:some (w.heap.size+1)≠(Value.slice vA qs.length vc).ownBlock:=fun e=>by have:=(HVLT.out _ e.symm).1;omega
       have hqb4:some w.heap.size≠(Value.slice vA qs.length vc).ownBlock:=fun e=>by have:=(HVLT.out _ e.symm).1;omega
       have HM:=qL ((HMP7.out.later HW4.out).kept hg4 hmb4)
       have q0:=hg4.cell q08 hqb4
       have HBX:=qL (zaf (btr HB7.out HW4.out) hg4 (fun y e=>by have:=(HVLT.out y e).1;omega))
       have HPJ:Hid ((yal is (ycm (l.take k))++ [(pkV is x,([]:Tab))])[qs.length]?=some (pkV is x,[])):=qL (by rw [HQL0.out];simp)
       have HT0:Hid (([]:Tab).length<=n):=qL (Nat.zero_le _)
       have hjq:qs.length<((qs++ [(none,0,0)]):List Slc).length:=by simp
       have HTK:Hid (yal is (ycm (l.take (k+1)))=(yal is (ycm (l.take k))++ [(pkV is x,([]:Tab))]).set qs.length (pkV is x,([]:Tab)++ [(x,1)])):=qL (by rw [HTK0.out,ydi HNO.out,HQL0.out];simp)
       have HMOF:Hid (FMap (yc1 f (fpS (pkV is x)).data.toList (.int .i64 qs.length)) (yal is (ycm (l.take (k+1))))):=qL (by
        have:=HMO.out.miss HOKK.out HKV.out HNO.out [(x,1)]
        rw [<-HQL0.out] at this
        rw [HTK0.out,ydi HNO.out]
        exact this)
       clear hown4 hown5 hg4 hat4
       obtain ⟨⟨sA,sN,sC⟩,ha⟩:=zah (l:=(qs++ [(none,0,0)]:List Slc)) (k:=qs.length) hjq
       obtain ⟨pb,hpb,hr⟩:=HQ.out.rel.get ha
       have hpe:pb=yap (pkV is x,([]:Tab)):=by
        rw [List.getElem?_map,HPJ.out] at hpb
        injection hpb with hpb
        exact hpb.symm
       subst hpe
       obtain ⟨es,hrow,hes⟩:=hr
       have HES:=qL hes
       have HROWB:=qL hrow.lt
       have hg0:=HQ.out.own.lt g rfl
       have HSEP:Hid (∀ y,(Value.slice sA sN sC).ownBlock=some y->w.heap.size+2<=y/\y<w4.heap.size/\y≠g):=qL fun y hy=>⟨(hrow.lt y hy).1,(hrow.lt y hy).2,fun e=>HQ.out.sep _ (qP ha) y hy (by rw [e];rfl)⟩
       have p2:w4.cell? ⟨g,qs.length,none⟩=some (.slice sA sN sC):=by
        have h:=HQ.out.own.cellAt qs.length qF
        have hf:=zbf yae ha 0 qF
        rw [show qs.length*1+0=qs.length by omega] at hf
        exact h.trans hf
       have pf:w4.frozen? ⟨g,qs.length,none⟩=false:=HQ.out.own.frozenAt _
       have HROW:Hid (ownD (ygv 63) (w4.alloc (.cells #[.slice rA rN rC] 63)) (w.heap.size+2) (.slice sA sN sC) sN es):=qL (((zgf (K:=ygv 63) rfl rfl).2 hrow).later (zae _ _))
       have hsN:sN<1000000:=by
        have h1:(flat yah es).length=sN*1:=hrow.1
        rw [zau yae] at h1
        have h2:=hes.len
        have h3:=HT0.out
        simp only [yap,List.length_map] at h2
        omega
       have hbase8:w.heap.size+2<=(w4.alloc (.cells #[.slice rA rN rC] 63)).heap.size:=qR (by have:=hg0;omega) (zae _ _).size
       have hge:some g≠(Value.slice sA sN sC).ownBlock:=fun e=>(HSEP.out _ e.symm).2.2 rfl
       have p28:(w4.alloc (.cells #[.slice rA rN rC] 63)).cell? ⟨g,qs.length,none⟩=some (.slice sA sN sC):=qM (zae _ _) p2
       have pf8:(w4.alloc (.cells #[.slice rA rN rC] 63)).frozen? ⟨g,qs.length,none⟩=false:=zab hg0.2 pf
       have hgl8:g<(w4.alloc (.cells #[.slice rA rN rC] 63)).heap.size:=qQ hg0.2 (zae _ _).size
       have HA:=qL ha
       have HQL:=qL HQ.out.len
       have q8:(w4.alloc (.cells #[.slice rA rN rC] 63)).cell? ⟨w.heap.size,0,none⟩=some (.slice O oN oC):=qM (zae _ _) q0
       have hqb:some w.heap.size≠(Value.slice sA sN sC).ownBlock:=fun e=>by have:=(HSEP.out _ e.symm).1;omega
       clear hpb hrow hes ha)
     |(at_builtin;(refine zaq _ rfl _ _ rfl PE HROW.out ⟨_,0,none⟩ (rA,rN,rC) (rA,rN,rC) rfl rfl (ya9 _ _ _ _ _) rfl (fun p hp=>by cases hp) hsN hbase8 ?_);intro v' w' hown' hgrow hat;obtain ⟨A9,c9,rfl,hcc9,_,_⟩:=hown'.rd;have s1:=hgrow.cell p28 hge;have sf:=(hgrow.frozen_far ⟨g,qs.length,none⟩ hgl8 hge).trans pf8))
    have hrow9:=(zgf (K:=ygv 63) rfl rfl).1 hown'
    have HB8:Hid (Below w.heap.size w (w4.alloc (.cells #[.slice rA rN rC] 63))):=qL (HBX.out.alloc HBX.out.size _)
    have hB9:=zaf HB8.out hgrow (fun y e=>by have:=(HSEP.out y e).1;omega)
    have HOLD:oldRow w.heap.size w' (rA,rN,rC) x:=⟨X3.out.later hB9,fun h0 ad e=>zif X3.out h0 ad e⟩
    have HREL:dAll (oldRow w.heap.size w') (es++ [(rA,rN,rC)]) (yap (pkV is x,([]:Tab))++ [x]):=dAll.snoc (HES.out.imp fun _ _ h=>(h.kept (ycp (zae _ _)) (fun q e=>by cases e)).kept hgrow (fun q e=>by have:=(HSEP.out q e).1;omega)) HOLD
    have HTURN:=qL (QS.turn (i:=qs.length) (a2:=(A9,sN+1,c9)) (HQ.out.later (zae _ (.cells #[.slice rA rN rC] 63))) HA.out (l:=yap (pkV is x,([]:Tab))) (by rw [List.getElem?_map,HPJ.out];rfl) qF hrow9 HREL hgrow hat rfl)
    have hmb:some (w.heap.size+1)≠(Value.slice sA sN sC).ownBlock:=fun e=>by have:=(HSEP.out _ e.symm).1;omega
    have HMP9:=qL ((HM.out.later (zae _ (.cells #[.slice rA rN rC] 63))).kept hgrow hmb)
    have HMPF:=qL (HMP9.out.kept (row:=some g) (w':=w'.setCell ⟨g,qs.length,none⟩ (.slice A9 (sN+1) c9)) ⟨rfl,rfl,rfl,by simp,fun b _ hne=>Below.heap_setCell _ _ _ _ (by show b≠g;exact fun e=>hne (by rw [e]))⟩ (fun e=>by injection e with e;omega))
    have HBF:=qL (hB9.setCell (p:=⟨g,qs.length,none⟩) (by show w.heap.size<=g;omega) (.slice A9 (sN+1) c9))
    have q9:(w'.setCell ⟨g,qs.length,none⟩ (.slice A9 (sN+1) c9)).cell? ⟨w.heap.size,0,none⟩=some (.slice O oN oC):=(World.cell?_setCell_far _ _ _ _ (by show g≠w.heap.size;omega)).trans (hgrow.cell q8 hqb)
    have hszf:w.heap.size+2<=(w'.setCell ⟨g,qs.length,none⟩ (.slice A9 (sN+1) c9)).heap.size:=by have h1:=hgrow.size;have h2:=hbase8;simp only [World.size_setCell];omega
    clear hown' hrow9 hgrow hat hB9 HOLD HREL
    go_wp2
    go_roundw
    case rel=>exact ⟨k+1,_,_,by omega,by go_num,HBF.out,hszf,q9,qL (by rw [HTK.out,List.map_set];have h:=HTURN.out;rw [show yap (pkV is x,([]:Tab)++ [(x,1)])=yap (pkV is x,([]:Tab))++ [x] by simp [yap]];exact h.len_cast qH),HMPF.out.mono qF|>Lib.hid,HMOF⟩
    case measure=>simp [intOf];omega
  ·obtain rfl:k=n:=by omega
   have HTT:Hid (l.take k=l):=qL (List.take_of_length_le (by have:=HLL.out;omega))
   have HQS2:Hid (QS 261 wr w.heap.size (w.heap.size+2) u8 qs (yem is l)):=qL (by have:=HQS.out;rw [HTT.out] at this;exact this)
   obtain ⟨vA,vc,rfl,_,_⟩:=zd9 HQS.out.own
   have HPL:Hid (∀ p∈yem is l,0<p.length/\p.length<=k/\ ∀ r∈p,r.length<=12):=qL fun p hp=>by
    obtain ⟨⟨ky,t⟩,hp2,rfl⟩:=List.mem_map.1 hp
    have ok:=ybj is (ycm l)
    refine ⟨?_,?_,fun r hr=>?_⟩
    ·have:=ok.ne _ hp2
     show 0<(t.map (·.1)).length
     rw [List.length_map]
     exact List.length_pos_iff.2 this
    ·show (t.map (·.1)).length<=k
     rw [List.length_map]
     have h1:=ok.rows _ hp2
     simp only at h1
     rw [h1]
     unfold ofK
     refine qR (List.length_filter_le _ _) ?_
     unfold ycm
     rw [List.length_map]
     exact Nat.le_of_eq HLL.out
    ·obtain ⟨y,hy,rfl⟩:=List.mem_map.1 hr
     have h1:=((ok.mem hp2).1 hy).1
     obtain ⟨r2,hr2,rfl⟩:=List.mem_map.1 h1
     exact H12.out r2 hr2
   have HQN:Hid (qs.length=(yem is l).length):=qL HQS2.out.len.symm
   have hql:qs.length<=4096:=by have h1:=HQN.out;have h:=yel is l;unfold yem at h1;rw [List.length_map] at h1;have:=HLL.out;omega
   clear HQS HMP HMO
   go_wp2
   go_loopw [56] (fun jv wx=> ∃ j:Nat,j<=qs.length/\jv= .int .i64 j/\Below w.heap.size w wx/\wx.cell? ⟨w.heap.size,0,none⟩=some (.slice O oN oC)/\Hid (QS 261 wx w.heap.size (w.heap.size+2) (.slice vA qs.length vc) qs (((yem is l).take j).map (ya3 os)++(yem is l).drop j))) (fun jv _=>qs.length - (intOf jv).toNat)
   case atStart=>exact ⟨0,by omega,rfl,hbw,q0w,qL (by rw [List.take_zero,List.map_nil,List.nil_append,List.drop_zero];exact HQS2.out)⟩
   case round=>
    obtain ⟨j,hj,rfl,hbx,q0,HQ⟩:=hrel
    have HBX:=qL hbx
    by_cases hjl:j<qs.length
    ·obtain ⟨⟨sA,sN,sC⟩,ha⟩:=zah (l:=qs) (k:=j) hjl
     obtain ⟨p,hp⟩:=zah (l:=yem is l) (k:=j) (by have:=HQN.out;omega)
     have hpm:=HPL.out p (qP hp)
     have hlj:(((yem is l).take j).map (ya3 os)).length=j:=by rw [List.length_map,List.length_take];have:=HQN.out;omega
     have hpj:(((yem is l).take j).map (ya3 os)++(yem is l).drop j)[j]?=some p:=by
      rw [List.getElem?_append_right qF,hlj,Nat.sub_self,List.getElem?_drop]
      exact hp
     obtain ⟨pb,hpb,hr⟩:=HQ.out.rel.get ha
     rw [hpj] at hpb
     cases hpb
     obtain ⟨es,hrow,hes⟩:=hr
     have hsn:sN=p.length:=by
      have h1:(flat yah es).length=sN*1:=hrow.1
      rw [zau yae] at h1
      have:=hes.len
      omega
     obtain ⟨g2,cc2,hform2,_,hgl2⟩:=World.ownsRow.form hrow (by show 0<sN;omega)
     have e2:sA=some ⟨g2,0,none⟩/\sC=cc2:=by
      have h:Value.slice sA sN sC= .slice (some ⟨g2,0,none⟩) sN cc2:=hform2
      injection h with h1 h2 h3
      exact ⟨h1,h3⟩
     obtain ⟨rfl,rfl⟩:=e2
     obtain ⟨g,cc,hform,_,hgl⟩:=World.ownsRow.form HQ.out.own qF
     have e3:vA=some ⟨g,0,none⟩/\vc=cc:=by
      injection hform with h1 h2 h3
      exact ⟨h1,h3⟩
     obtain ⟨rfl,rfl⟩:=e3
     have p2:wr.cell? ⟨g,j,none⟩=some (.slice (some ⟨g2,0,none⟩) sN sC):=by
      have h:=HQ.out.own.cellAt j qF
      have hf:=zbf yae ha 0 qF
      rw [show j*1+0=j by omega] at hf
      exact h.trans hf
     have HSR:=qL (yzp g2 sN sC (w.heap.size+2) w.heap.size es p O oN oC os w.heap.size wr hrow hes qF qF qF hpm.2.2 (HO.out.later hbx) hoN (fun h0 ad e=>by have:=HOB.out h0 ad e;omega) q0 qF)
     have HA:=qL ha
     have HP:=qL hp
     have HLJ:=qL hlj
     have hgb:=hrow.lt g2 rfl
     have HQ0:=qL q0
     clear ha hp hpj hrow hes hform hform2 hpm hbx hlj q0 hsn
     go_wp2_with fail
     refine HSR.out.mono ?_
     rintro e w5 ⟨rfl,es',hown5,hrel5,hg5⟩
     have HQ5:=qL (QS.turn0 (i:=j) (a:=(some ⟨g2,0,none⟩,sN,sC)) HQ.out HA.out qF hown5 hrel5 hg5)
     have q05:=hg5.cell HQ0.out (fun e=>by injection e with e;have e:w.heap.size=g2:=e;have:=hgb.1;omega)
     have HB5:=qL (zaf (v:= .slice (some ⟨g2,0,none⟩) sN sC) HBX.out hg5 (fun y e=>by cases e;have:=hgb.1;show w.heap.size<=g2;omega))
     have HEQ:Hid ((((yem is l).take j).map (ya3 os)++(yem is l).drop j).set j (ya3 os p)=((yem is l).take (j+1)).map (ya3 os)++(yem is l).drop (j+1)):=qL (by
      have hd:(yem is l).drop j=p::(yem is l).drop (j+1):=by
       have h1:=(qO HP.out)
       rw [List.drop_eq_getElem_cons h1.1,h1.2]
      rw [hd,zbc HP.out,List.map_append,List.set_append_right _ _ (by rw [HLJ.out];exact qV _),HLJ.out,Nat.sub_self]
      simp)
     clear hown5 hrel5 hg5
     go_wp2
     go_roundw
     case rel=>exact ⟨j+1,by omega,by go_num,HB5.out,q05,qL (by rw [<-HEQ.out];exact HQ5.out)⟩
     case measure=>simp [intOf];omega
    ·obtain rfl:j=qs.length:=by omega
     have HQF:Hid (QS 261 wr w.heap.size (w.heap.size+2) (.slice vA qs.length vc) qs ((yem is l).map (ya3 os))):=qL (by
      have:=HQ.out
      rw [HQN.out,List.take_length,List.drop_length,List.append_nil] at this
      rw [HQN.out]
      exact this)
     clear q0
     go_wp2
     go_ret
     exact ⟨_,_,_,qs,rfl,HQF.out,hbx⟩
theorem yb0 (n:Int):yab (ya5 n)=true:=by
 unfold ya5
 split
 ·exact zes
 ·unfold yab
  rename_i h
  simp only [show ((2:Int)=0)=False by simp,show ((2:Int)=1)=False by simp,if_false,if_true]
  simp [ByteArray.toList_eq]
  omega
theorem ydx : ∀ {l:Tab} (_: ∀ x∈l,x.2=1),yac l=l.length
 | [],_=>rfl
 |x::l,h=>by
  have h1:=h x (List.mem_cons_self ..)
  have ih:=ydx (fun y hy=>h y (qW _ hy))
  rw [yac,ih,h1,List.length_cons]
  omega
theorem ygn (k:List Val)(x:List Val × Int): ∀ ps:List (List Val × Tab),((yci k x ps).map fun p=>p.2.length).sum=(ps.map fun p=>p.2.length).sum+1
 | []=>rfl
 |p::l=>by
  have ih:=ygn k x l
  unfold yci
  split
  ·simp only [List.map_cons,List.sum_cons,List.length_append,List.length_singleton];omega
  ·simp only [List.map_cons,List.sum_cons,ih];omega
theorem yik (is:List Int)(t:Tab):((yal is t).map fun p=>p.2.length).sum=t.length:=by
 have h: ∀ (l:Tab) (ps:List (List Val × Tab)),((l.foldl (fun l x=>yci (pkV is x.1) x l) ps).map fun p=>p.2.length).sum=(ps.map fun p=>p.2.length).sum+l.length:=by
  intro l
  induction l with
  |nil=>intro ps;rfl
  |cons x l ih=>intro ps;rw [List.foldl_cons,ih,ygn,List.length_cons];omega
 have:=h t []
 simpa [yal] using this
def yc5 (is os:List Int)(t:Tab):List (List (List Val)):=(yem is (yba t)).map (ya3 os)
theorem ydw (is os:List Int)(t:Tab):yc5 is os t=(yal is (yca t)).map fun p=>ya3 os (yap p):=by
 unfold yc5 yem
 rw [yhh,List.map_map]
 rfl
theorem yg0 (os:List Int)(is:List WItm)(l:List (List Val)):(yfw os is l).length=l.length:=by simp [yfw]
def yd2 (os:List Int)(is:List WItm)(ls:List (List (List Val))):Tab:=ls.flatMap (yfw os is)
theorem yg8 (ps os:List Int)(is:List WItm)(t:Tab):yd2 os is (yc5 ps os t)=ycj ps os is t:=by
 unfold yd2 ycj
 rw [ydw,List.flatMap_map]
theorem yly {os:List Int}{is:List WItm}{ls:List (List (List Val))}{k:Nat}{l:List (List Val)}(h:ls[k]?=some l):yd2 os is (ls.take (k+1))=yd2 os is (ls.take k)++yfw os is l:=by
 unfold yd2
 rw [zbc h,List.flatMap_append]
 simp
theorem yir (os:List Int)(is:List WItm)(ls:List (List (List Val))):(yd2 os is ls).length=(ls.map List.length).sum:=by
 unfold yd2
 induction ls with
 |nil=>rfl
 |cons l ls ih=>rw [List.flatMap_cons,List.length_append,ih,yg0,List.map_cons,List.sum_cons]
theorem yio (is os:List Int)(t:Tab):((yc5 is os t).map List.length).sum=(yca t).length:=by
 rw [ydw,List.map_map,<-yik is (yca t)]
 congr 1
 refine List.map_congr_left fun p _=>?_
 show (ya3 os (yap p)).length=_
 rw [ybq]
 simp [yap]
theorem ydy : ∀ (l:List Nat) (k:Nat),(l.take k).sum<=l.sum
 | [],k=>by simp
 |x::l,0=>by simp
 |x::l,k+1=>by
  have:=ydy l k
  simp only [List.take_succ_cons,List.sum_cons]
  omega
theorem yzq {is os:List Int}{t:Tab}{k:Nat}{l:List (List Val)}(h:(yc5 is os t)[k]?=some l)(its:List WItm):(yd2 os its ((yc5 is os t).take k)).length+l.length<=(yca t).length:=by
 rw [<-yio is os t]
 have h1:=ydy ((yc5 is os t).map List.length) (k+1)
 rw [<-List.map_take,zbc h,List.map_append,List.sum_append] at h1
 rw [yir]
 simpa using h1
theorem yj9 {os:List Int}{is:List WItm}{l:List (List Val)}{p:Nat}{r:List Val}(h:l[p]?=some r):(yfw os is l)[p]?=some (r++ye1 os is l p,1):=by
 have hp:=(qO h).1
 unfold yfw
 rw [List.getElem?_map,List.getElem?_range hp,Option.map_some]
 have:ybs l p=r:=by unfold ybs;rw [List.getD_eq_getElem?_getD,h];rfl
 rw [this]
theorem yii {os:List Int}{is:List WItm}{l:List (List Val)}{p:Nat}{r:List Val}(h:l[p]?=some r):(yfw os is l).take (p+1)=(yfw os is l).take p++ [(r++ye1 os is l p,1)]:=zbc (yj9 h)
def yd6 (os:List Int)(x:WItm)(l:List (List Val)):List Val:=(List.range l.length).map (yb7 os x l)
theorem yjh (os:List Int)(x:WItm)(l:List (List Val)):(yd6 os x l).length=l.length:=by simp [yd6]
theorem yjg {os:List Int}{x:WItm}{l:List (List Val)}{p:Nat}(h:p<l.length):(yd6 os x l)[p]?=some (yb7 os x l p):=by
 unfold yd6
 rw [List.getElem?_map,List.getElem?_range h,Option.map_some]
theorem yh4 {os:List Int}{is:List WItm}{l:List (List Val)}{p j:Nat}{x:WItm}(h:is[j]?=some x):ye1 os (is.take (j+1)) l p=ye1 os (is.take j) l p++ [yb7 os x l p]:=by
 unfold ye1
 rw [zbc h,List.map_append]
 rfl
theorem yjq (os:List Int)(is:List WItm)(l:List (List Val))(p:Nat):(ye1 os is l p).length=is.length:=by simp [ye1]
theorem yp0 {ps os:List Int}{t:Tab}{l:List (List Val)}(h:l∈yc5 ps os t){r:List Val}(hr:r∈l): ∃ x∈t,0<x.2/\x.1=r:=by
 rw [ydw] at h
 obtain ⟨p,hp,rfl⟩:=List.mem_map.1 h
 have h2:=(ya7 os (yap p)).subset hr
 obtain ⟨y,hy,e⟩:=List.mem_map.1 h2
 obtain ⟨h3,h4⟩:=((ybj ps (yca t)).mem hp).1 hy
 obtain ⟨h5,x,hx,h6,h7⟩:=ybt.1 h3
 exact ⟨x,hx,h6,h7.trans e⟩
theorem yqr {os:List Int}{x:WItm}{l:List (List Val)}{p:Nat}(hf:x.f=1∨x.f=8):yab (yb7 os x l p)=true:=by
 unfold yb7
 rcases hf with h|h
 ·rw [if_pos h];exact yb0 _
 ·rw [if_neg qF,if_pos h];exact yb0 _
theorem yfd (ps os:List Int)(is:List WItm)(t:Tab):(ycj ps os is t).length=(yca t).length:=by
 rw [<-yg8,yir,yio]
def FilTo (f:Nat->Val)(n k:Nat)(r:List Val):Prop:=r.length=n/\ ∀ j,j<k->r[j]?=some (f j)
theorem FilTo.put {f:Nat->Val}{n k:Nat}{r:List Val}(h:FilTo f n k r)(hk:k<n):FilTo f n (k+1) (r.set k (f k)):=
 ⟨by rw [List.length_set];exact h.1,fun j hj=>by
  rw [List.getElem?_set]
  split
  ·rename_i e
   subst e
   rw [if_pos (by rw [h.1];exact hk)]
  ·exact h.2 j qF⟩
theorem FilTo.end_ {f:Nat->Val}{n:Nat}{r:List Val}(h:FilTo f n n r):r=(List.range n).map f:=by
 apply List.ext_getElem?
 intro j
 rw [List.getElem?_map]
 by_cases hj:j<n
 ·rw [h.2 j hj,List.getElem?_range hj];rfl
 ·rw [List.getElem?_eq_none (by rw [h.1];omega),List.getElem?_eq_none (by simp;omega)];rfl
theorem ygs {os:List Int}{x:WItm}{l:List (List Val)}(p:Nat):(x.f=1->yb7 os x l p=ya5 l.length)/\(x.f=8->yb7 os x l p=ya5 ((p:Int)+1)):=by
 unfold yb7
 exact ⟨fun h=>if_pos h,fun h=>by rw [if_neg qF,if_pos h]⟩
theorem ygl (n:Int)(w:World):Calls Tryz.prog 292 #[.int .i64 n] w fun e w'=>e= .returned (.agg #[.int .i64 (ya5 n).k, .int .i64 (ya5 n).m, .string (ya5 n).s])/\Below w.heap.size w w':=Yi2 n w
theorem yh1 (nm co:ByteArray)(f num:Int)(exA:Option Addr)(exN exC:Nat)(lA:Option Addr)(lN lC:Nat)(oA:Option Addr)(oN oC:Nat)(arg:Int)(os:List Int)(l:List (List Val))(w:World)(hl:l.length=lN)(hf:f=1∨f=8)(hn:lN<=4096):
 Calls Tryz.prog 265 #[.agg #[.string nm, .int .i64 f, .string co, .int .i64 num, .slice exA exN exC], .slice lA lN lC, .slice oA oN oC, .int .i64 arg] w (yg9 kVal lN (yd6 os ⟨f,num,arg⟩ l) w):=by
 obtain ⟨i0,hi0,hz0,hz1,hz2⟩:=info_parts zi4
 have hmk: ∀ W:World,∃ w',(Instr.makeSlice 63 (.int .i64 (lN:Int)) (.int .i64 (lN:Int))).run Tryz.prog W= .ok (.slice (some ⟨W.heap.size,0,none⟩) lN lN) w'/\
  w'.ownsRow W.heap.size 46 3 (.slice (some ⟨W.heap.size,0,none⟩) lN lN) lN (flat yat (List.replicate lN (⟨0,0,⟨#[]⟩⟩:Val)))/\W.grownBy w' none:=fun W=>by
  have:=run_make_full (P:=Tryz.prog) W W.heap.size 63 46 i0 _ 3 Tryz.underlying63 hi0 hz0 hz1 .i64 .i64 lN (by rw [hz2];omega) (by unfold maxLen;omega) (qV _)
  rwa [zme (⟨0,0,⟨#[]⟩⟩:Val) _ za4 rfl] at this
 obtain ⟨w0,hw0⟩: ∃ w0,w0=(((w.alloc (.cells #[.string nm, .int .i64 f, .string co, .int .i64 num, .slice exA exN exC] 40)).alloc (.cells #[.slice lA lN lC] 261)).alloc (.cells #[.int .i64 arg] 3)).alloc (.cells #[.int .i64 lN] 3):=⟨_,rfl⟩
 obtain ⟨w1,hm1,hm2,hm3⟩:=hmk w0
 have hs0:w0.heap.size=w.heap.size+4:=by rw [hw0];simp
 rw [hs0] at hm2 hm1
 have HM:=qL hm2
 have hB0:Below w.heap.size w w0:=by rw [hw0];exact (((zae _ _).alloc qH _).alloc (by simp;omega) _).alloc (by simp;omega) _
 have hB1:Below w.heap.size w w1:=btr hB0 (za9 hm3 (qV _) (fun k h=>by cases h))
 have bb:Below w0.heap.size w0 w1:=za9 hm3 (qV _) (fun k h=>by cases h)
 have f1:w1.cell? ⟨w.heap.size,1,none⟩=some (.int .i64 f):=qM bb (by rw [hw0];exact qM (zae _ _) (qM (zae _ _) (qM (zae _ _) qH)))
 have f2:w1.cell? ⟨w.heap.size+1,0,none⟩=some (.slice lA lN lC):=qM bb (by rw [hw0];exact qM (zae _ _) (qM (zae _ _) qH))
 have f3:w1.cell? ⟨w.heap.size+3,0,none⟩=some (.int .i64 lN):=qM bb (by rw [hw0];exact zaa qH qH)
 rw [hw0] at hm1
 have HB1:=qL hB1
 have HF:=qL hf
 have HLL:=qL hl
 clear hmk hm2 hm3 hs0 hw0 hB0 hB1 bb hf hl
 go_enter Tryz.func265,Tryz.ntmps265
 go_wp2
 clear hm1
 go_loopw [24] (fun i wr=> ∃ (k:Nat) (r:List Val),k<=lN/\i= .int .i64 k/\Below w.heap.size w wr/\wr.cell? ⟨w.heap.size,1,none⟩=some (.int .i64 f)/\wr.cell? ⟨w.heap.size+3,0,none⟩=some (.int .i64 lN)/\Hid (wr.ownsRow (w.heap.size+4) 46 3 (.slice (some ⟨w.heap.size+4,0,none⟩) lN lN) lN (flat yat r))/\Hid (FilTo (yb7 os ⟨f,num,arg⟩ l) lN k r)) (fun i _=>lN - (intOf i).toNat)
 case atStart=>exact ⟨0,_,by omega,rfl,HB1.out,f1,f3,HM,qL ⟨by rw [List.length_replicate],fun j hj=>absurd hj qF⟩⟩
 case round=>
  obtain ⟨k,r,hk,rfl,hbw,g1,g3,HO,HP⟩:=hrel
  have HBW:=qL hbw
  by_cases hlt:k<lN
  ·obtain ⟨y,hy⟩: ∃ y,y=yb7 os ⟨f,num,arg⟩ l k:=⟨_,rfl⟩
   have HFT:Hid (FilTo (yb7 os ⟨f,num,arg⟩ l) lN (k+1) (r.set k y)):=qL (by rw [hy];exact HP.out.put hlt)
   obtain ⟨q,hq⟩:=zah (l:=r) (k:=k) (by have:=HP.out.1;omega)
   have HQ:=qL hq
   have HY:Hid ((f=1->y=ya5 lN)/\(f=8->y=ya5 ((k:Int)+1))):=qL (by rw [hy,<-HLL.out];exact ygs (x:=⟨f,num,arg⟩) k)
   clear hy hq
   have htail: ∀ w5:World,Below wr.heap.size wr w5->Hid ((w5.cell? ⟨w.heap.size+4,k*3,none⟩=some (held w5 ⟨w.heap.size+4,k*3,none⟩)/\w5.cell? ⟨w.heap.size+4,k*3+1,none⟩=some (held w5 ⟨w.heap.size+4,k*3+1,none⟩)/\w5.cell? ⟨w.heap.size+4,k*3+2,none⟩=some (held w5 ⟨w.heap.size+4,k*3+2,none⟩)/\ ∀ o,w5.frozen? ⟨w.heap.size+4,o,none⟩=false)/\
    ∃ W,W=((w5.setCell ⟨w.heap.size+4,k*3,none⟩ (.int .i64 y.k)).setCell ⟨w.heap.size+4,k*3+1,none⟩ (.int .i64 y.m)).setCell ⟨w.heap.size+4,k*3+2,none⟩ (.string y.s)/\Below w.heap.size w W/\W.cell? ⟨w.heap.size,1,none⟩=some (.int .i64 f)/\W.cell? ⟨w.heap.size+3,0,none⟩=some (.int .i64 lN)/\W.ownsRow (w.heap.size+4) 46 3 (.slice (some ⟨w.heap.size+4,0,none⟩) lN lN) lN (flat yat (r.set k y))):=fun w5 hb5=>qL (by
    have own:w5.ownsRow (w.heap.size+4) 46 3 (.slice (some ⟨w.heap.size+4,0,none⟩) lN lN) lN (flat yat r):=zic HO.out hb5
    have hB:=btr HBW.out hb5
    have hq:=HQ.out
    refine ⟨⟨zbt (by rw [own.cellAt _ qF];exact zbf za4 hq 0 qF),zbt (by rw [own.cellAt _ qF];exact zbf za4 hq 1 qF),zbt (by rw [own.cellAt _ qF];exact zbf za4 hq 2 qF),fun o=>own.frozenAt o⟩,_,rfl,zev hB qF,?_,?_,zmr za4 (x:=y) rfl own hlt⟩
    ·exact (zn8 (by show w.heap.size≠w.heap.size+4;omega)).trans (qM hb5 g1)
    ·exact (zn8 (by show w.heap.size+3≠w.heap.size+4;omega)).trans (qM hb5 g3))
   have HTL:=qL htail
   have m1:IntKind.i64.wrap ((k:Int)+1)=(k:Int)+1:=by rw [IntKind.wrap_i64];omega
   clear htail hbw
   rcases HF.out with e|e
   ·subst e
    have hy:=HY.out.1 rfl
    go_wp2_with fail
    refine (ygl _ _).mono ?_
    rintro e w5 ⟨rfl,hb5⟩
    rw [<-hy]
    clear hy
    obtain ⟨⟨z1,z2,z3,zf⟩,W,hW,t1,t2,t3,t4⟩:=(HTL.out w5 hb5).out
    have T1:=qL t1
    have T4:=qL t4
    clear hb5 t1 t4 g1 g3
    go_wp2
    rw [<-hW]
    go_roundw
    case rel=>exact ⟨k+1,_,by omega,by go_num,T1.out,t2,t3,T4,HFT⟩
    case measure=>simp [intOf];omega
   ·subst e
    have hy:=HY.out.2 rfl
    go_wp2_with fail
    refine (ygl _ _).mono ?_
    rintro e w5 ⟨rfl,hb5⟩
    rw [<-hy]
    clear hy
    obtain ⟨⟨z1,z2,z3,zf⟩,W,hW,t1,t2,t3,t4⟩:=(HTL.out w5 hb5).out
    have T1:=qL t1
    have T4:=qL t4
    clear hb5 t1 t4 g1 g3
    go_wp2
    rw [<-hW]
    go_roundw
    case rel=>exact ⟨k+1,_,by omega,by go_num,T1.out,t2,t3,T4,HFT⟩
    case measure=>simp [intOf];omega
  ·obtain rfl:k=lN:=by omega
   go_wp2
   go_ret
   obtain ⟨A2,c2,e2,hr2,_⟩:=zd9 HO.out
   have hend:r=yd6 os ⟨f,num,arg⟩ l:=by
    have:=HP.out.end_
    unfold yd6
    rw [HLL.out];exact this
   cases e2
   exact ⟨_,_,rfl,zb4.2 (by rw [<-hend];exact hr2),qV _,hbw,(fun a ha=>by cases ha;exact ⟨by show w.heap.size<=w.heap.size+4;omega,(HO.out.lt _ rfl).2⟩),(ownD.mono (K:=kVal) (base:=w.heap.size+4) ⟨_,by rw [<-hend];exact HO.out,zbg _,fun a h p hp=>by cases hp⟩ qF)⟩
theorem yey (w:World)(t:TypeId)(rA:Option Addr)(rN rC:Nat): ∀ j u,(yah (rA,rN,rC))[j]?=some u->(w.alloc (.cells #[.slice rA rN rC] t)).cell? ((⟨w.heap.size,0,none⟩:Addr).add j)=some u:=ya9 w t rA rN rC
def yid (B:Nat):Kin (Option Addr × Nat × Nat) (List Val) where
 enc:=yah
 C:=1
 e:=63
 ptrs:=fun a=> [(a.1,a.2.1)]
 D:=fun w a r=>rVal w a.1 a.2.1 r/\(0<a.2.1-> ∀ ad,a.1=some ad->B<=ad.block)
 len:=fun _=>rfl
 pos:=by omega
 one:=kRow.one
 later:=fun h hb=>⟨kRow.later h.1 hb,h.2⟩
 kept:=fun h hg hf=>⟨kRow.kept h.1 hg hf,h.2⟩
 lt:=fun h=>kRow.lt h.1
theorem Yhu (B:Nat): ∃ i,KinP Tryz.prog (yid B) 261 i (.slice none 0 0) 24:=by
 obtain ⟨i,h⟩:=Yht
 exact ⟨i,⟨h.ht,h.hi,h.hz,h.hs,h.hb,h.hzs,h.small⟩⟩
theorem ygf {w w':World}{B:Nat}{A:Option Addr}{n:Nat}{l:List (List Val)}(h:rD (yid B) w A n l)(hA:0<n-> ∀ a,A=some a->B<=a.block)(hs: ∀ b,B<=b->b<w.heap.size->w'.heap[b]?=w.heap[b]?):rD kRow w' A n l:=by
 obtain ⟨es,h1,h2⟩:=h
 exact ⟨es,h1.from hA hs,h2.imp fun _ _ h=>Fl.from h.1 h.2 hs⟩
theorem QS.row {e:TypeId}{w:World}{B0 B n c k:Nat}{A:Option Addr}{qs:List Slc}{ps:List (List (List Val))}{a:Slc}{l:List (List Val)}(h:QS e w B0 B (.slice A n c) qs ps)(ha:qs[k]?=some a)(hl:ps[k]?=some l):rD kRow w a.1 a.2.1 l/\l.length=a.2.1:=by
 obtain ⟨l',hl',es,h1,h2⟩:=h.rel.get ha
 rw [hl] at hl'
 cases hl'
 obtain ⟨A',c',e',hr,_⟩:=zd9 h1
 have e1:a.1=A':=by
  obtain ⟨x,y,z⟩:=a
  injection e'
 rw [<-e1] at hr
 have hrd:rD kRow w a.1 a.2.1 l:=⟨es,hr,h2.imp fun _ _ h=>h.1⟩
 exact ⟨hrd,hrd.len⟩
theorem QS.cell {e:TypeId}{w:World}{B0 B n c k:Nat}{A:Option Addr}{qs:List Slc}{ps:List (List (List Val))}{a:Slc}(h:QS e w B0 B (.slice A n c) qs ps)(ha:qs[k]?=some a): ∃ g,A=some ⟨g,0,none⟩/\n=qs.length/\w.cell? ⟨g,k,none⟩=some (.slice a.1 a.2.1 a.2.2):=by
 have hk:=(qO ha).1
 obtain ⟨g,cc,hform,_,_⟩:=World.ownsRow.form h.own qF
 injection hform with h1 h2 h3
 subst h2
 refine ⟨g,h1,rfl,?_⟩
 have ho:=h.own
 rw [h1] at ho
 have hc:=ho.cellAt k qF
 have hf:=zbf yae ha 0 qF
 rw [show k*1+0=k by omega] at hf
 exact hc.trans hf
def yan (its:List Itm)(args:List Int):List WItm:=(its.zip args).map fun x=>⟨x.1.f,x.1.num,x.2⟩
theorem ylw {its:List Itm}{args:List Int}{j:Nat}{x:Itm}{g:Int}(h1:its[j]?=some x)(h2:args[j]?=some g):(yan its args)[j]?=some ⟨x.f,x.num,g⟩:=by
 unfold yan
 rw [List.getElem?_map,show (its.zip args)[j]?=some (x,g) from List.getElem?_zip_eq_some.2 ⟨h1,h2⟩]
 rfl
theorem yg7 {its:List Itm}{args:List Int}(h:args.length=its.length):(yan its args).length=its.length:=by
 unfold yan
 rw [List.length_map,List.length_zip,h,Nat.min_self]
theorem yhx {arg:Int}{l:List (List Val)}(hl: ∀ r∈l,vOk r)(i:Int):yab (atW arg l i)=true:=by
 unfold atW
 split
 ·rename_i h
  refine zqp (hl _ (yfo ?_)) _
  omega
 ·exact zes
theorem yep {os:List Int}{x:WItm}{l:List (List Val)}(hl: ∀ r∈l,vOk r)(p:Nat):yab (yb7 os x l p)=true:=by
 unfold yb7
 split
 ·exact yb0 _
 split
 ·exact yb0 _
 split
 ·exact yb0 _
 split
 ·split
  ·exact yb0 _
  ·exact zes
 split
 ·exact yhx hl _
 ·exact zes
theorem ygx {ps os:List Int}{is:List WItm}{t:Tab}(hl: ∀ x∈t,x.1.length+is.length<=12)(hv: ∀ x∈t,vOk x.1){y:List Val × Int}(hy:y∈ycj ps os is t):y.1.length<=12/\vOk y.1/\y.2=1:=by
 obtain ⟨p,hp,j,hj,rfl⟩:=yfe.1 hy
 obtain ⟨x,hx,_,e,_⟩:=yc2 (os:=os) hp hj
 have hrows: ∀ r∈ya3 os (yap p),vOk r:=fun r hr=>by
  have h2:=(ya7 os (yap p)).subset hr
  obtain ⟨z,hz,e2⟩:=List.mem_map.1 h2
  obtain ⟨h3,_⟩:=((ybj ps (yca t)).mem hp).1 hz
  obtain ⟨_,x2,hx2,_,e3⟩:=ybt.1 h3
  rw [<-e2,<-e3]
  exact hv x2 hx2
 refine ⟨?_,fun v hv2=>?_,rfl⟩
 ·show (ybs (ya3 os (yap p)) j++_).length<=12
  rw [<-e,List.length_append,yjq]
  exact hl x hx
 ·rcases List.mem_append.1 (show v∈ybs (ya3 os (yap p)) j++_ from hv2) with h1|h1
  ·rw [<-e] at h1
   exact hv x hx v h1
  ·obtain ⟨i,hi,rfl⟩:=List.mem_map.1 h1
   exact yep hrows j
section
variable {c:Nat}{t0 t1 t2:Tab}
theorem o12 :oC.length<=12:=by decide
end
end Go.Proofs.YthcalfeoejdcgaaGreatDoor
