import Derived.KernelRfl
import Derived.Test.YthcalfeoejdcgaaGreatDoorK32
import Derived.Test.YthcalfeoejdcgaaGreatDoorK34
namespace Go.Proofs.YthcalfeoejdcgaaGreatDoor
set_option linter.unusedSimpArgs false
set_option linter.unusedVariables false
set_option maxRecDepth 100000
set_option maxHeartbeats 20000000
section
open Go.RowKit Go.BigFrame
def isM (ns os:List Int)(u:Tab)(x:List Val × Int):Bool:=!(ycl ns os [] u x.1).isEmpty
def ybf (wanted:Bool)(ns os:List Int)(t u:Tab):Tab:=t.filter fun x=>isM ns os u x==wanted
section
variable {cs cs':List Col}{r r':List Val}
theorem yfa {p:List Nod}(h: ∀ n∈p,n.op=1->yb6 cs' r' n.nm=yb6 cs r n.nm):ycg cs' r' p=ycg cs r p:=by unfold ycg;rw [yfq h]
end
theorem yds (q:List Val->Bool)(l:Tab):(ybp l).filter (fun x=>q x.1)=ybp (l.filter fun x=>q x.1):=by
 refine zh9 ((zde l).filter _) fun r=>?_
 rw [znd,znd,zdf]
section
variable {cs cs':List Col}{p:List Nod}
theorem ydp {α β:Type}(f:α->List β)(q:β->Bool)(q':α->Bool): ∀ (t:List α) (_: ∀ x∈t,∀ y∈f x,q y=q' x),(t.flatMap f).filter q=(t.filter q').flatMap f
 | [],_=>rfl
 |x::t,h=>by
  have ih:=ydp f q q' t fun z hz=>h z (qW _ hz)
  have h0:=h x (List.mem_cons_self ..)
  rw [List.flatMap_cons,List.filter_append,ih,List.filter_cons]
  cases hq:q' x
  ·have:(f x).filter q= []:=by
    rw [List.filter_eq_nil_iff]
    intro y hy
    rw [h0 y hy,hq];simp
   rw [this];rfl
  ·have:(f x).filter q=f x:=by
    rw [List.filter_eq_self]
    intro y hy
    rw [h0 y hy,hq]
   rw [this,if_pos rfl,List.flatMap_cons]
end
section
variable {cs cs':List Col}{p:List Nod}
theorem yfk (left:Bool)(ns os ps:List Int)(t u:Tab)(h: ∀ x∈t,∀ r,ycg cs' (x.1++r) p=ycg cs x.1 p):ybr cs' p (ygu left ns os ps t u)=ygu left ns os ps (ybr cs p t) u:=by
 unfold ygu ybr
 rw [yds fun r=>ybz (ycg cs' r p)==1]
 unfold ybe
 rw [ydp _ _ fun x=>ybz (ycg cs x.1 p)==1]
 intro x hx y hy
 unfold yyt at hy
 obtain ⟨z,_,rfl⟩:=List.mem_map.1 hy
 show (ybz (ycg cs' (x.1++z.1) p)==1)=_
 rw [h x hx]
end
section
variable {cs cs':List Col}{p:List Nod}
theorem yfl (wanted:Bool)(ns os:List Int)(t u:Tab):ybr cs p (ybf wanted ns os t u)=ybf wanted ns os (ybr cs p t) u:=by
 unfold ybr ybf
 rw [List.filter_filter,List.filter_filter]
 congr 1
 funext x
 exact Bool.and_comm ..
end
section
variable {cs cs':List Col}{p:List Nod}
theorem ydh (k:List Val)(x:List Val × Int)(p:List Val × Tab)(l:List (List Val × Tab)):yci k x (p::l)=if yag p.1 k=0 then (p.1,p.2++ [x])::l else p::yci k x l:=by rw [yci]
end
section
variable {cs cs':List Col}{p:List Nod}
theorem yfb {ps:List Int}(q:List Val->Bool)(k:List Val)(x:List Val × Int): ∀ l:List (List Val × Tab),(yci k x l).filter (fun p=>q p.1)=if q k=true then yci k x (l.filter fun p=>q p.1) else l.filter fun p=>q p.1
 | []=>by
  unfold yci
  cases hq:q k<;>simp [hq]
 |p::l=>by
  have ih:=yfb (ps:=ps) q k x l
  rw [ydh]
  by_cases h:yag p.1 k=0
  ·have e:=(zar _ _).1 h
   rw [if_pos h,List.filter_cons,List.filter_cons]
   show (if q p.1=true then _ else _)=_
   cases hq:q k
   ·have hq2:q p.1=false:=by rw [e];exact hq
    rw [hq2];rfl
   ·have hq2:q p.1=true:=by rw [e];exact hq
    rw [hq2,if_pos rfl,if_pos rfl,if_pos rfl,ydh,if_pos h]
  ·rw [if_neg h,List.filter_cons,List.filter_cons,ih]
   cases hq2:q p.1
   ·rfl
   ·cases hq:q k
    ·rfl
    ·rw [if_pos rfl,if_pos rfl,if_pos rfl,if_pos rfl,ydh,if_neg h]
end
section
variable {cs cs':List Col}{p:List Nod}
theorem yei (ps:List Int)(q:List Val->Bool)(Q:List Val × Int->Bool): ∀ (t:Tab) (_: ∀ x∈t,Q x=q (pkV ps x.1)) (l:List (List Val × Tab)),(t.foldl (fun l x=>yci (pkV ps x.1) x l) l).filter (fun p=>q p.1)=(t.filter Q).foldl (fun l x=>yci (pkV ps x.1) x l) (l.filter fun p=>q p.1)
 | [],_,l=>rfl
 |x::t,h,l=>by
  have hx:=h x (List.mem_cons_self ..)
  rw [List.foldl_cons,yei ps q Q t (fun y hy=>h y (qW _ hy)),yfb (ps:=ps),List.filter_cons,hx]
  cases hq:q (pkV ps x.1)<;>simp
end
section
variable {cs cs':List Col}{p:List Nod}
theorem ygt (Q:List Val->Bool): ∀ t:Tab,(yca t).filter (fun x=>Q x.1)=yca (t.filter fun x=>Q x.1)
 | []=>rfl
 |x::t=>by
  have ih:=ygt Q t
  rw [yca,List.filter_append,ih,List.filter_cons]
  cases hq:Q x.1
  ·have:(List.replicate x.2.toNat (x.1,(1:Int))).filter (fun x=>Q x.1)= []:=by
    rw [List.filter_eq_nil_iff]
    intro y hy
    rw [(List.mem_replicate.1 hy).2];simp [hq]
   rw [this];rfl
  ·have:(List.replicate x.2.toNat (x.1,(1:Int))).filter (fun x=>Q x.1)=List.replicate x.2.toNat (x.1,1):=by
    rw [List.filter_eq_self]
    intro y hy
    rw [(List.mem_replicate.1 hy).2];exact hq
   rw [this,if_pos rfl,yca]
end
section
variable {cs cs':List Col}{p:List Nod}
theorem ygd (ps os:List Int)(is:List WItm)(t:Tab)(q:List Val->Bool)(h: ∀ x∈t,(ybz (ycg cs x.1 p)==1)=q (pkV ps x.1))(h2: ∀ x∈t,∀ r,ycg cs' (x.1++r) p=ycg cs x.1 p):ybr cs' p (yhl ps os is t)=yhl ps os is (ybr cs p t):=by
 unfold yhl ybr
 rw [yds fun r=>ybz (ycg cs' r p)==1]
 congr 1
 unfold ycj
 rw [ydp _ _ fun g=>q g.1]
 ·congr 1
  unfold yal
  have hQ: ∀ x∈yca t,(fun x:List Val × Int=>ybz (ycg cs x.1 p)==1) x=q (pkV ps x.1):=fun x hx=>by
   obtain ⟨_,y,hy,_,e⟩:=ybt.1 hx
   have:=h y hy
   rw [e] at this
   exact this
  rw [yei ps q _ _ hQ,ygt fun r=>ybz (ycg cs r p)==1]
  rfl
 ·intro g hg y hy
  obtain ⟨j,hj,e⟩:=yew.1 hy
  rw [ybq] at hj
  obtain ⟨x,hx,_,e1,e2⟩:=yc2 (os:=os) hg (j:=j) (by simpa [yap] using hj)
  rw [e]
  show (ybz (ycg cs' (_++_) p)==1)=_
  rw [<-e1,h2 x hx,h x hx,e2]
end
theorem ynz {cs ex:List Col}{r rx:List Val}{p:List Nod}(hn: ∀ n∈p,okN cs n)(hl:r.length=cs.length):ycg (cs++ex) (r++rx) p=ycg cs r p:=
 yfa fun n hm h1=>yp9 ((hn n hm).col h1) hl
theorem okX.app {cs ex:List Col}{p:List Nod}{t:Knd}(h:okX cs p t)(h2:okCols (cs++ex))(h3: ∀ c∈ex,c.nm∈knownN):okX (cs++ex) p t:=
 ⟨h.len,fun x hx=>(h.nod x hx).app,ynl h.nod h.blk,h2,fun c hc=>(List.mem_append.1 hc).elim (h.names c) (h3 c)⟩
end
section
open Go.RowKit
def c1C :List Col:= [⟨sC,3,false⟩]
theorem yh8 {nm:ByteArray}(h:0<=yao c1C nm):nm=sC:=by
 obtain ⟨j,c,e,hc,hp⟩:=zc3 (p:=yd1 nm) (l:=c1C) h
 have hj:j=0:=by have:=(qO hc).1;exact Nat.lt_one_iff.1 this
 subst hj
 cases hc
 have e:sC.toList=nm.toList:=by simpa [yd1] using hp
 exact (toList_inj e).symm
theorem yh9 :yao oC sC=1:=by kernel_rfl
theorem ymr {n:Nod}(h:okN c1C n):okN oC n:=⟨h.ar,h.lo,h.hi,h.cst,h.zero,fun h1=>by rw [yh8 (h.col h1),yh9];omega,h.day,h.bare⟩
theorem yrc {p:List Nod}{t:Knd}(hn: ∀ n∈p,okN c1C n)(h:ycx c1C p t):ycx oC p t:=fun st=>by
 rw [ydt (cs:=c1C) (fun n hm h1=>?_)]
 ·exact h st
 ·have e:=yh8 ((hn n hm).col h1)
  rw [e]
  exact ⟨by rw [show yao c1C sC=0 by kernel_rfl,yh9];decide,by kernel_rfl⟩
theorem Yhp {p:List Nod}{t:Knd}(h:okE c1C 1 40 p)(hb:ycx c1C p t):okX oC p t:=⟨by have:=h.1;omega,fun x hx=>ymr (h.2.1 x hx),yrc h.2.1 hb,zc7,ygw⟩
theorem yrv {p:List Nod}(hn: ∀ n∈p,okN c1C n){r:List Val}(hr:r.length=4):ycg oC r p=ycg c1C (pkV [1] r) p:=yfa fun n hm h1=>by
 rw [yh8 ((hn n hm).col h1)]
 unfold yb6
 rw [yh9,show yao c1C sC=0 by kernel_rfl]
 show r.getD 1 zV=cel r 1
 unfold cel
 rw [if_pos ⟨by omega,by rw [hr];decide⟩]
 rfl
def ylv (c:Nat):WItm:=match c with
 |4=>⟨9,0,-1⟩
 |5=>⟨8,0,-1⟩
 |6=>⟨3,0,0⟩
 |_=>⟨10,1,0⟩
def stP (c:Nat)(t1 t:Tab):Tab:=match c with
 |0=>ygu false [1] [0] [3] t t1
 |1=>ygu true [1] [0] [3] t t1
 |2=>ybf true [1] [0] t t1
 |3=>ybf false [1] [0] t t1
 |c=>yhl [1] [2] [ylv c] t
def yc6 (c:Nat):List Col:=match c with
 |0=>yhk false
 |1=>yhk true
 |2=>oC
 |3=>oC
 |4=>yhk false
 |5=>yhk false
 |_=>yhk true
def tbP (c:Nat)(p:List Nod)(t0 t1 t2:Tab):Nat->Tab:=fun k=>match k with
 |0=>t0
 |1=>t1
 |2=>t2
 |3=>ybr oC p t0
 |4=>stP c t1 t0
 |5=>ybr (yc6 c) p (stP c t1 t0)
 |6=>stP c t1 (ybr oC p t0)
 |_=> []
section
variable {c:Nat}{p:List Nod}{tp:Knd}{t0 t1 t2:Tab}
theorem yke (hc:c<=7)(h:okX oC p tp):okX (yc6 c) p tp:=by
 have up: ∀ nl,okX (yhk nl) p tp:=fun nl=>h.app (ya6 nl) fun c hc=>by rw [List.mem_singleton] at hc;subst hc;exact yie
 match c,hc with
 |0,_=>exact up false
 |1,_=>exact up true
 |2,_=>exact h
 |3,_=>exact h
 |4,_=>exact up false
 |5,_=>exact up false
 |6,_=>exact up true
 |7,_=>exact up true
theorem TJ.push (hc:c<=7)(h:TJ t0 t1 t2)(hn: ∀ n∈p,okN c1C n):tbP c p t0 t1 t2 5=tbP c p t0 t1 t2 6:=by
 have hx: ∀ x∈t0,∀ nl r,ycg (yhk nl) (x.1++r) p=ycg oC x.1 p:=fun x hx nl r=>ynz (fun n hn2=>ymr (hn n hn2)) (h.l0 x hx)
 show ybr (yc6 c) p (stP c t1 t0)=stP c t1 (ybr oC p t0)
 have win: ∀ nl w,ybr (yhk nl) p (yhl [1] [2] [w] t0)=yhl [1] [2] [w] (ybr oC p t0):=fun nl w=>
  ygd _ _ _ _ (fun k=>ybz (ycg c1C k p)==1) (fun x hx2=>by rw [yrv hn (h.l0 x hx2)]) fun x hx2 r=>hx x hx2 nl r
 match c,hc with
 |0,_=>exact yfk _ _ _ _ _ _ fun x hx2 r=>hx x hx2 false r
 |1,_=>exact yfk _ _ _ _ _ _ fun x hx2 r=>hx x hx2 true r
 |2,_=>exact yfl _ _ _ _ _
 |3,_=>exact yfl _ _ _ _ _
 |4,_=>exact win false _
 |5,_=>exact win false _
 |6,_=>exact win true _
 |7,_=>exact win true _
end
end
section
open Go.RowKit Go.BigFrame
def yla (G:List JoiA)(args:List Value)(s:ASt):Option (Value × ASt):=match args with
 | [.agg ⟨[.int .i64 _, .string _,names,others, .slice none 0 0, .slice none 0 0]⟩, .agg ⟨[.string _,co, .slice none 0 0, .chan (some k)]⟩, .agg ⟨[.string _,co', .slice none 0 0, .chan (some k')]⟩, .bool wanted]=>match yr4 s names others (.slice none 0 0) co co' wanted (k % 1024) (k' % 1024) G with
  |some d2=>some (.tuple ⟨[chD s.next d2, .int .i64 0]⟩,s.opq)
  |none=>none
 |_=>none
section
variable {tb:Nat->Tab}{num:Nat->Int}{D:Nat->Prop}{ρ:Nat->Pl}{s:ASt}{w w':World}
theorem yh5 {items ps os ar:Value}{d d2:Nat}: ∀ {G:List WinA} (_:Yc2 s items ps os ar d G=some d2),∃ g∈G,g.d=d/\g.d2=d2/\d<32/\d2<32/\yak 5 s items (flat yc3 g.items)=true/\yak 1 s ps (flat yaw g.ps)=true/\yak 1 s os (flat yaw g.os)=true/\yak 1 s ar (flat yaw g.args)=true
 | [],h=>by cases h
 |g::l,h=>by
  unfold Yc2 at h
  cases hz:(Nat.beq g.d d&&(Nat.ble d 31&&Nat.ble g.d2 31)&&(yak 5 s items (flat yc3 g.items)&&(yak 1 s ps (flat yaw g.ps)&&(yak 1 s os (flat yaw g.os)&&yak 1 s ar (flat yaw g.args)))))
  ·rw [hz] at h
   obtain ⟨g',hg,h⟩:=yh5 (G:=l) h
   exact ⟨g',qW _ hg,h⟩
  ·rw [hz] at h
   have h:some g.d2=some d2:=h
   cases h
   simp only [Bool.and_eq_true] at hz
   obtain ⟨⟨k1,k2,k3⟩,k4,k5,k6,k7⟩:=hz
   have k2:=qS k2
   have k3:=qS k3
   exact ⟨g,List.mem_cons_self ..,qU k1,rfl,by omega,by omega,k4,k5,k6,k7⟩
end
end
section
open Go.RowKit Go.RowKit
def itP (c:Nat):Itm:=match c with
 |4=>⟨ypl,9,ba [],0,none,0,0⟩
 |5=>⟨ypl,8,ba [],0,none,0,0⟩
 |6=>⟨ypl,3,sId,0,none,0,0⟩
 |7=>⟨ypl,10,sId,1,none,0,0⟩
 |_=>itm ypl sK 0
def yqj (c:Nat):Int:=match c with
 |6=>0
 |7=>0
 |_=> -1
def joP (c:Nat):List JoiA:=match c with
 |0=> [⟨false,[sC],[sC],[itP 0],0,oC,1,cC,4⟩,⟨false,[sC],[sC],[itP 0],3,oC,1,cC,6⟩]
 |1=> [⟨true,[sC],[sC],[itP 0],0,oC,1,cC,4⟩,⟨true,[sC],[sC],[itP 0],3,oC,1,cC,6⟩]
 |_=> []
def seP (c:Nat):List JoiA:=match c with
 |2=> [⟨true,[sC],[sC],[],0,oC,1,cC,4⟩,⟨true,[sC],[sC],[],3,oC,1,cC,6⟩]
 |3=> [⟨false,[sC],[sC],[],0,oC,1,cC,4⟩,⟨false,[sC],[sC],[],3,oC,1,cC,6⟩]
 |_=> []
def wiP (c:Nat):List WinA:=cond (Nat.ble 4 c) [⟨0,[itP c],[1],[2],[yqj c],4⟩,⟨3,[itP c],[1],[2],[yqj c],6⟩] []
def whP (c:Nat):List WhrA:= [⟨500,4,yc6 c,5⟩,⟨500,0,oC,3⟩]
def wcP (c:Nat):List (Nat × List Col):= [(500,yc6 c),(500,oC)]
def clP (c:Nat):List (Nat × List Col):= [(0,oC),(1,cC),(2,oC),(3,oC),(4,yc6 c)]
def csP (c:Nat):List (List Col):= [oC,cC,yc6 c]
def aP (c:Nat):Nat:=c % 4
def yob (c:Nat)(op:BinOp)(x y:Value):Option Value:=match op,x,y with
 | .shr, .chan (some 600), .int .u64 4=>some (.chan (some 601))
 | .and, .chan (some 601), .int .i64 3=>some (.int .i64 (aP c:Nat))
 | .shr, .chan (some 600), .int .u64 6=>some (.chan (some 602))
 | .and, .chan (some 602), .int .i64 3=>some (.chan (some 603))
 | .eql, .chan (some 603), .int .i64 3=>some (.bool (Nat.ble 4 c))
 | .shr, .chan (some 600), .int .u64 5=>some (.chan (some 604))
 | .and, .chan (some 604), .int .i64 1=>some (.int .i64 (aP c / 2:Nat))
 |_,_,_=>none
noncomputable def T4 (c : Nat) : Tbl := { xT with hint := yob c, sp := fun f => cond (Nat.beq f 62) (some (ylj (clP c))) (cond (Nat.beq f 129) (some yk6) (cond (Nat.beq f 134) (some (yk9 (joP c))) (cond (Nat.beq f 135) (some (yla (seP c))) (cond (Nat.beq f 217) (some (ylg (wiP c))) (cond (Nat.beq f 17) (some (Ydb fun a b => Nat.beq a 5 && Nat.beq b 6)) (cond (Nat.beq f 89) (some (Ydc (csP c))) (cond (Nat.beq f 123) (some yk4) (cond (Nat.beq f 234) (some ylh) (cond (Nat.beq f 12) (some Yc9) (cond (Nat.beq f 90) (some Ydd) (cond (Nat.beq f 175) (some (ylb [500])) (cond (Nat.beq f 193) (some (yle (wcP c))) (cond (Nat.beq f 130) (some (yk7 (whP c))) (cond (Nat.beq f 13) (some Yda) none)))))))))))))) }
noncomputable def R4 (c:Nat):Rn:=rn (T4 c) (yhr (T4 c)) 1000
def yd9 (c:Option Code):Code:=match c with
 |some (.seq _ (.seq _ (.seq _ (.seq _ r))))=>r
 |_=> .skip
def pL0 :Lit:=⟨110,73,[(2, .chan (some 600)),(6, .bool false),(7, .slice (some ⟨71,0,none⟩) 3 3),(9, .chan (some (72*1024+500)))],[]⟩
def sPu :ASt:=⟨sF.heap,73,sF.tc⟩
end
end Go.Proofs.YthcalfeoejdcgaaGreatDoor
