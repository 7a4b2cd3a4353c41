import Derived.Test.YthcalfeoejdcgaaGreatDoorK30
import Derived.KernelRfl
import Derived.Test.YthcalfeoejdcgaaGreatDoorK31
namespace Go.Proofs.YthcalfeoejdcgaaGreatDoor
set_option linter.unusedSimpArgs false
set_option linter.unusedVariables false
set_option maxRecDepth 100000
set_option maxHeartbeats 20000000
section
open Go.RowKit Go.BigFrame
theorem yev {cs ex:List Col}{nm:ByteArray}(h:0<=yao cs nm):yao (cs++ex) nm=yao cs nm:=by
 unfold yao yd8 at h ⊢
 cases hf:cs.findIdx? (yd1 nm) with
 |none=>rw [hf] at h;simp at h
 |some j=>
  rw [List.findIdx?_append,hf];rfl
theorem ynp {cs ex:List Col}{nm:ByteArray}(h:0<=yao cs nm):yb4 (cs++ex) nm=yb4 cs nm:=by
 unfold yb4
 rw [yev h]
 obtain ⟨j,c,e,hc,_⟩:=zc3 (p:=yd1 nm) (l:=cs) h
 have e:yao cs nm=j:=e
 rw [e,Int.toNat_natCast,List.getD_eq_getElem?_getD,List.getD_eq_getElem?_getD,List.getElem?_append_left (qO hc).1]
section
variable {cs cs':List Col}{r r':List Val}
theorem yih {n:Nod}{l:List Knd}(h:n.op=1->(yao cs n.nm<0↔yao cs' n.nm<0))(h2:n.op=1->yb4 cs' n.nm=yb4 cs n.nm):ybg cs' n l=ybg cs n l:=by
 unfold ybg
 by_cases h1:n.op=1
 ·rw [if_pos h1,if_pos h1,h2 h1]
  by_cases h3:yao cs n.nm<0
  ·rw [if_pos h3,if_pos ((h h1).1 h3)]
  ·rw [if_neg h3,if_neg fun h4=>h3 ((h h1).2 h4)]
 ·rw [if_neg h1,if_neg h1]
end
section
variable {cs cs':List Col}{r r':List Val}
theorem ydt : ∀ {p:List Nod} (_: ∀ n∈p,n.op=1->(yao cs n.nm<0↔yao cs' n.nm<0)/\yb4 cs' n.nm=yb4 cs n.nm) (st:List Knd),yb5 cs' p st=yb5 cs p st
 | [],_,st=>rfl
 |n::p,h,st=>by
  have h0:=h n (List.mem_cons_self ..)
  have e:yeo cs' st n=yeo cs st n:=by
   unfold yeo
   rw [yih (fun h1=>(h0 h1).1) fun h1=>(h0 h1).2]
  rw [yb5,yb5,e]
  cases yeo cs st n with
  |none=>rfl
  |some s=>exact ydt (fun x hx=>h x (qW _ hx)) s
end
theorem ynl {cs ex:List Col}{p:List Nod}{t:Knd}(hn: ∀ n∈p,okN cs n)(h:ycx cs p t):ycx (cs++ex) p t:=fun st=>by
 rw [ydt (cs:=cs) (fun n hm h1=>?_)]
 ·exact h st
 ·have:=(hn n hm).col h1
  refine ⟨?_,ynp this⟩
  rw [yev this]
section
variable {cs:List Col}{r:List Val}
end
section
variable {cs:List Col}{r:List Val}
end
section
variable {cs cs':List Col}{r r':List Val}
end
section
variable {cs:List Col}{p:List Nod}{t:Tab}
end
section
variable {cs:List Col}{p:List Nod}{t:Tab}
end
section
variable {cs:List Col}{p:List Nod}{t:Tab}
end
section
variable {cs cs':List Col}{r r':List Val}
theorem yfq : ∀ {p:List Nod} (_: ∀ n∈p,n.op=1->yb6 cs' r' n.nm=yb6 cs r n.nm) (st:List Val),yez cs' r' p st=yez cs r p st
 | [],_,st=>rfl
 |n::p,h,st=>by
  have e:ygj cs' r' st n=ygj cs r st n:=by
   unfold ygj yf8
   by_cases h1:n.op=1
   ·rw [if_pos h1,if_pos h1,h n (List.mem_cons_self ..) h1]
   ·rw [if_neg h1,if_neg h1]
  show yez cs' r' p (ygj cs' r' st n)=yez cs r p (ygj cs r st n)
  rw [e]
  exact yfq (fun x hx=>h x (qW _ hx)) _
end
section
variable {cs cs':List Col}{p:List Nod}
end
section
variable {c:Nat}{t0 t1 t2:Tab}
theorem TJ.l0 (h:TJ t0 t1 t2): ∀ x∈t0,x.1.length=4:=fun x hx=>(h.r0 x hx).1
end
theorem yp9 {cs ex:List Col}{r rx:List Val}{nm:ByteArray}(h:0<=yao cs nm)(hl:r.length=cs.length):yb6 (cs++ex) (r++rx) nm=yb6 cs r nm:=by
 unfold yb6
 rw [yev h]
 obtain ⟨j,c,e,hc,_⟩:=zc3 (p:=yd1 nm) (l:=cs) h
 have e:yao cs nm=j:=e
 have hj:j<r.length:=by have:=(qO hc).1;rw [hl];exact this
 rw [e,Int.toNat_natCast,List.getD_eq_getElem?_getD,List.getD_eq_getElem?_getD,List.getElem?_append_left hj]
theorem okN.app {cs ex:List Col}{n:Nod}(h:okN cs n):okN (cs++ex) n:=⟨h.ar,h.lo,h.hi,h.cst,h.zero,fun h1=>by rw [yev (h.col h1)];exact h.col h1,h.day,h.bare⟩
end
section
open Go.RowKit
def yhk (nl:Bool):List Col:=oC++ [⟨ypl,2,nl⟩]
theorem ya6 (nl:Bool):okCols (yhk nl):=by cases nl<;>exact zel (by decide) (by decide) qG qG
theorem ygw : ∀ c∈oC,c.nm∈knownN:=fun c hc=>by
 have:=List.all_eq_true.1 (show (oC.all fun co=>knownN.any fun y=>eqF (.string y) (.string co.nm))=true by kernel_rfl) c hc
 exact zeh this
theorem yie :ypl∈knownN:=zeh qG
section
variable {op:Int}{x y:List Nod}{tx ty:Knd}{t0 t1 t2:Tab}
end
end
section
open Go.RowKit Go.BigFrame
section
variable {tb:Nat->Tab}{num:Nat->Int}{nod:Nat->List Nod}{D:Nat->Prop}{ρ:Nat->Pl}{s:ASt}{w w':World}
end
section
variable {tb:Nat->Tab}{num:Nat->Int}{nod:Nat->List Nod}{D:Nat->Prop}{ρ:Nat->Pl}{s:ASt}{w w':World}
end
section
variable {c:Nat}{t0 t1 t2:Tab}
theorem Yh8 (h0:gTab oC 24 t0)(h1:gTab cC 24 t1)(h2:gTab oC 24 t2):TJ t0 t1 t2:=by
 have a:=zh4 (by decide) (h0.mono (show (24:Int)<=30 by omega))
 have b:=zh4 (by decide) (h1.mono (show (24:Int)<=30 by omega))
 have d:=zh4 (by decide) (h2.mono (show (24:Int)<=30 by omega))
 exact ⟨a.1,b.1,d.1,h0.2.2.1,h1.2.2.1,a.2.2.2.1,b.2.2.2.1,d.2.2.2.1⟩
end
end
end Go.Proofs.YthcalfeoejdcgaaGreatDoor
