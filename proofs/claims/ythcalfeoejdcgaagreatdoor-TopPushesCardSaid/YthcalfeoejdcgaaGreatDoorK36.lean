import Derived.Test.YthcalfeoejdcgaaGreatDoorK35
import Derived.KernelRfl
namespace Go.Proofs.YthcalfeoejdcgaaGreatDoor
set_option linter.unusedSimpArgs false
set_option linter.unusedVariables false
set_option maxRecDepth 100000
set_option maxHeartbeats 20000000
section
open Go.RowKit Go.BigFrame
section
variable {m:Nat}{is os:List Int}{t:Tab}
theorem ykl {ps:List Int}{s:Tab}{p:List Val × Tab}(hp:p∈yal ps s):p.2.length<=s.length:=by
 rw [(ybj ps s).rows p hp]
 unfold ofK
 exact List.length_filter_le _ _
end
section
variable {m:Nat}{is os:List Int}{t:Tab}
theorem yhf (hpos: ∀ x∈t,0<x.2){p:List Val × Tab}(hp:p∈yal is (yca t)):(p.2.length:Int)<=yac t:=by
 rw [<-yde hpos]
 have:=ykl hp
 omega
end
theorem yhz {cs:List Col}{r:List Val}(h:okRow cs r){j:Nat}{c:Col}(hc:cs[j]?=some c):yab (cel r j)=true/\(((cel r j).k=0/\c.nl=true)∨((cel r j).k≠0/\(cel r j).k=c.k)):=by
 have hj:=(qO hc).1
 rw [<-h.1] at hj
 have e:cel r j=r[j]:=by
  unfold cel
  rw [if_pos ⟨by omega,by omega⟩]
  simp [hj]
 rw [e]
 exact h.2 j _ c (List.getElem?_eq_getElem hj) hc
theorem yg3 (os:List Int)(l:List (List Val)): ∀ p:Nat,1<=yby os l p/\yby os l p<=(p:Int)+1
 |0=>⟨Int.le_refl _,by show (1:Int)<=((0:Nat):Int)+1;omega⟩
 |p+1=>by
  have ih:=yg3 os l p
  rw [yby]
  split
  ·exact ⟨ih.1,by have:=ih.2;omega⟩
  ·exact ⟨by omega,by omega⟩
section
variable {ns os ps:List Int}{t u:Tab}
theorem yic (left:Bool)(ht:ybi t)(hs:yac t<=24)(hu:ybi u)(hsu:yac u<=24)(hw: ∀ x∈t,x.1.length+ps.length<=12):ybi (ygu left ns os ps t u)/\yac (ygu left ns os ps t u)<=600/\yac (ybe left ns os ps t u)<=600:=by
 have h1:=zo8 (left:=left) (ns:=ns) (os:=os) (ps:=ps) hu.2 ht.2
 have h2:yac t*(yac u+1)<=24*25:=by
  have a:=zbp ht.2
  have b:=zbp hu.2
  exact Int.le_trans (Int.mul_le_mul_of_nonneg_right hs qF) (Int.mul_le_mul_of_nonneg_left qF qF)
 have h3:=zo7 (left:=left) (ns:=ns) (os:=os) (ps:=ps) (t:=t) (u:=u) (m:=12) (fun x hx=>⟨ht.2 x hx,(ht.1.2.2 x hx).2.2.2,hw x hx⟩) hu.2 (fun x hx=>(hu.1.2.2 x hx).2.2.2)
 obtain ⟨k1,k2⟩:=zin h3 qF
 exact ⟨k1,by show yac (ybp (ybe left ns os ps t u))<=600;rw [k2];omega,by omega⟩
end
end
section
open Go.RowKit
theorem ycz {cs:List Col}{r:List Val}{v:Val}{c:Col}(hr:okRow cs r)(h1:yab v=true)(h2:(v.k=0/\c.nl=true)∨(v.k≠0/\v.k=c.k)):okRow (cs++ [c]) (r++ [v]):=by
 refine ⟨by rw [List.length_append,List.length_append,hr.1];rfl,fun j u co hu hco=>?_⟩
 rcases Nat.lt_or_ge j r.length with hj|hj
 ·rw [List.getElem?_append_left hj] at hu
  rw [List.getElem?_append_left (by rw [<-hr.1];exact hj)] at hco
  exact hr.2 j u co hu hco
 ·rw [List.getElem?_append_right hj,List.getElem?_singleton] at hu
  rw [List.getElem?_append_right (by rw [<-hr.1];exact hj),List.getElem?_singleton] at hco
  split at hu
  ·cases hu
   split at hco
   ·cases hco;exact ⟨h1,h2⟩
   ·cases hco
  ·cases hu
theorem yoi (n:Int):(ya5 n).k=0∨(ya5 n).k=2:=by
 unfold ya5
 split
 ·exact .inl rfl
 ·exact .inr rfl
theorem ymq {r:List Val}(h:okRow oC r):yab (cel r 0)=true/\(cel r 0).k=2:=by
 obtain ⟨a,b⟩:=yhz h (j:=0) (c:=⟨⟨#[105,100]⟩,2,false⟩) rfl
 rcases b with ⟨_,b⟩|⟨_,b⟩
 ·cases b
 ·exact ⟨a,b⟩
section
variable {c:Nat}{p:List Nod}{tp:Knd}{t0 t1 t2:Tab}
theorem TJ.whr (h:TJ t0 t1 t2):TJ (ybr oC p t0) t1 t2:=
 ⟨(zqs h.o0).1,h.o1,h.o2,Int.le_trans (zqs h.o0).2 h.s0,h.s1,fun x hx=>h.r0 x (List.mem_filter.1 hx).1,h.r1,h.r2⟩
theorem TJ.winL (h:TJ t0 t1 t2)(w:WItm):(∀ y∈ycj [1] [2] [w] t0,0<y.2/\y.1.length<=12/\vOk y.1)/\yac (ycj [1] [2] [w] t0)=yac t0:=by
 have hl: ∀ y∈ycj [1] [2] [w] t0,y.1.length<=12/\vOk y.1/\y.2=1:=fun y hy=>ygx (fun x hx=>by rw [h.l0 x hx];show 4+1<=12;decide) (fun x hx=>(h.o0.1.2.2 x hx).2.2.2) hy
 refine ⟨fun y hy=>⟨by rw [(hl y hy).2.2];decide,(hl y hy).1,(hl y hy).2.1⟩,?_⟩
 rw [ydx fun y hy=>(hl y hy).2.2,yfd,yde h.o0.2]
theorem TJ.winT (h:TJ t0 t1 t2)(w:WItm):ybi (yhl [1] [2] [w] t0):=by
 obtain ⟨a,b⟩:=h.winL w
 exact (zin a (by rw [b];exact Int.le_trans h.s0 (by decide))).1
theorem TJ.winR (h:TJ t0 t1 t2)(hc:4<=c/\c<=7){z:List Val × Int}(hz:z∈yhl [1] [2] [ylv c] t0):okRow (yc6 c) z.1:=by
 obtain ⟨y,hy,e⟩:=zi9 hz
 rw [<-e]
 obtain ⟨q,hq,j,hj,rfl⟩:=yfe.1 hy
 obtain ⟨x,hx,_,e2,_⟩:=yc2 (os:= [2]) hq hj
 have hr:=h.r0 x hx
 have hrows: ∀ r∈ya3 [2] (yap q),∃ x∈t0,x.1=r:=fun r hr=>by
  have h2:=(ya7 [2] (yap q)).subset hr
  obtain ⟨z,hz,e2⟩:=List.mem_map.1 h2
  obtain ⟨h3,_⟩:=((ybj [1] (yca t0)).mem hq).1 hz
  obtain ⟨_,x2,hx2,_,e3⟩:=ybt.1 h3
  exact ⟨x2,hx2,by rw [e3,e2]⟩
 have hqs:((ya3 [2] (yap q)).length:Int)<=24:=by
  rw [ybq]
  have h1:(yap q).length=q.2.length:=by simp [yap]
  rw [h1]
  have:=yhf h.o0.2 hq
  have:=h.s0
  omega
 have hj2:j<(ya3 [2] (yap q)).length:=by rw [ybq];simpa [yap] using hj
 show okRow (yc6 c) (ybs (ya3 [2] (yap q)) j++ [yb7 [2] (ylv c) (ya3 [2] (yap q)) j])
 rw [<-e2]
 generalize ya3 [2] (yap q)=l at hrows hqs hj2
 have hv:yab (yb7 [2] (ylv c) l j)=true:=yep (fun r hr=>by
  obtain ⟨x2,hx2,rfl⟩:=hrows r hr
  exact (h.o0.1.2.2 x2 hx2).2.2.2) j
 have at0: ∀ i:Int,(atW 0 l i).k=0∨(atW 0 l i).k=2:=fun i=>by
  by_cases hin:0<=i/\i<(l.length:Int)
  ·obtain ⟨m,rfl⟩: ∃ m:Nat,i=(m:Int):=⟨i.toNat,by omega⟩
   obtain ⟨r,hr⟩:=zah (l:=l) (k:=m) qF
   rw [yhw hr]
   obtain ⟨x2,hx2,rfl⟩:=hrows r (qP hr)
   exact .inr (ymq (h.r0 x2 hx2)).2
  ·rw [yf0 qF];exact .inl rfl
 have nn: ∀ {k:Int} {nl:Bool},(k=0/\nl=true)∨k=2->(k=0/\nl=true)∨(k≠0/\k=2):=fun h=>h.imp id fun e=>⟨by omega,e⟩
 match c,hc with
 |4,_=>
  refine ycz hr hv (.inr ?_)
  have hrk:=yg3 [2] l j
  have e:yb7 [2] (ylv 4) l j=ya5 (yby [2] l j):=yl6 _ _ _ _ _
  rw [e,zkx qF qF]
  exact ⟨by show (2:Int)≠0;decide,rfl⟩
 |5,_=>
  refine ycz hr hv (.inr ?_)
  have e:yb7 [2] (ylv 5) l j=ya5 ((j:Int)+1):=(ygs (x:=ylv 5) j).2 rfl
  rw [e,zkx qF qF]
  exact ⟨by show (2:Int)≠0;decide,rfl⟩
 |6,_=>
  refine ycz hr hv (nn ?_)
  have e:yb7 [2] (ylv 6) l j=if yc9 0 l (j+1)=true then ya5 (ydg 0 l (j+1)) else zV:=yl5 _ _ _ _ _
  rw [e]
  split
  ·exact (yoi _).imp (fun h=>⟨h,rfl⟩) id
  ·exact .inl ⟨rfl,rfl⟩
 |7,_=>
  refine ycz hr hv (nn ?_)
  have e:yb7 [2] (ylv 7) l j=atW 0 l ((j:Int) - 1):=yh0 _ _ _ _ _
  rw [e]
  exact (at0 _).imp (fun h=>⟨h,rfl⟩) id
theorem TJ.joiR (h:TJ t0 t1 t2)(left:Bool){z:List Val × Int}(hz:z∈ygu left [1] [0] [3] t0 t1):okRow (yhk left) z.1:=by
 obtain ⟨y,hy,e⟩:=zi9 hz
 rw [<-e]
 obtain ⟨x,hx,hy⟩:=List.mem_flatMap.1 hy
 obtain ⟨v,hv,rfl⟩:=List.mem_map.1 hy
 have key: ∀ v∈ycl [1] [0] [3] t1 x.1,∃ u∈t1,v.1= [cel u.1 3]:=fun v hv=>by
  unfold ycl at hv
  split at hv
  ·cases hv
  ·obtain ⟨_,u,hu,e⟩:=(zc5 h.o1.2).2.1 v hv
   exact ⟨u,hu,e⟩
 have fit: ∀ u∈t1,okRow (yhk left) (x.1++ [cel u.1 3]):=fun u hu=>by
  obtain ⟨a,b⟩:=yhz (h.r1 u hu) (j:=3) (c:=⟨sK,2,false⟩) rfl
  refine ycz (h.r0 x hx) a (.inr ?_)
  rcases b with ⟨_,b⟩|b
  ·cases b
  ·exact b
 show okRow (yhk left) (x.1++v.1)
 cases hl:ycl [1] [0] [3] t1 x.1 with
 |nil=>
  rw [hl] at hv
  cases left with
  |false=>cases hv
  |true=>
   have hv:v∈ [(List.replicate 1 zV,(1:Int))]:=hv
   rw [List.mem_singleton] at hv
   subst hv
   exact ycz (h.r0 x hx) zes (.inl ⟨rfl,rfl⟩)
 |cons q l=>
  rw [hl] at hv
  obtain ⟨u,hu,e⟩:=key v (by rw [hl];exact hv)
  rw [e]
  exact fit u hu
theorem TJ.stp (h:TJ t0 t1 t2)(hc:c<=7):ybi (stP c t1 t0)/\ ∀ z∈stP c t1 t0,okRow (yc6 c) z.1:=by
 have hj: ∀ left,ybi (ygu left [1] [0] [3] t0 t1):=fun left=>(yic left h.o0 h.s0 h.o1 h.s1 fun x hx=>by rw [h.l0 x hx];decide).1
 match c,hc with
 |0,_=>exact ⟨hj false,fun z hz=>h.joiR false hz⟩
 |1,_=>exact ⟨hj true,fun z hz=>h.joiR true hz⟩
 |2,_=>exact ⟨(yf3 h.o0 _).1,fun z hz=>h.r0 z (List.mem_filter.1 hz).1⟩
 |3,_=>exact ⟨(yf3 h.o0 _).1,fun z hz=>h.r0 z (List.mem_filter.1 hz).1⟩
 |4,_=>exact ⟨h.winT _,fun z hz=>h.winR (c:=4) qF hz⟩
 |5,_=>exact ⟨h.winT _,fun z hz=>h.winR (c:=5) qF hz⟩
 |6,_=>exact ⟨h.winT _,fun z hz=>h.winR (c:=6) qF hz⟩
 |7,_=>exact ⟨h.winT _,fun z hz=>h.winR (c:=7) qF hz⟩
theorem TJ.okP (h:TJ t0 t1 t2)(hc:c<=7)(k:Nat):ybi (tbP c p t0 t1 t2 k):=by
 have nil:ybi []:=⟨⟨by simp,⟨trivial,fun x h=>by cases h⟩,fun x h=>by cases h⟩,fun x h=>by cases h⟩
 match k with
 |0=>exact h.o0
 |1=>exact h.o1
 |2=>exact h.o2
 |3=>exact (zqs h.o0).1
 |4=>exact (h.stp hc).1
 |5=>exact (zqs (h.stp hc).1).1
 |6=>exact ((h.whr (p:=p)).stp hc).1
 |n+7=>exact nil
end
end
section
open Go.RowKit Go.RowKit Go.BigFrame
section
variable {tb:Nat->Tab}{num:Nat->Int}{nod:Nat->List Nod}{D:Nat->Prop}{ρ:Nat->Pl}{s:ASt}{w w':World}
theorem yin {G:List WinA}(hG: ∀ g∈G,okWinX g.ps g.os g.items g.args (tb g.d)/\tb g.d2=yhl g.ps g.os (yan g.items g.args) (tb g.d)){args:List Value}{v:Value}{s':ASt}(hx:ylg G args s=some (v,s')){args':List Value}(h:Sim (ETb tb num nod) D ρ s w)(hr:Rvs (ETb tb num nod) D ρ args args'):
 Calls Tryz.prog 217 ⟨args'⟩ w fun e w'=> ∃ v' ρ' D',e= .returned v'/\Rv (ETb tb num nod) D' ρ' v v'/\Sim (ETb tb num nod) D' ρ' s' w'/\Ex D s ρ w D' s' ρ' w':=by
 unfold ylg at hx
 split at hx
 ·rename_i items ps os ar k
  split at hx
  ·rename_i d2 hf
   cases hx
   obtain ⟨g,hg,e1,rfl,l1,l2,f1,f2,f3,f4⟩:=yh5 hf
   obtain ⟨a1,m,rfl,g1,h6⟩:=zag hr
   obtain ⟨a2,m,rfl,g2,h7⟩:=zag h6
   obtain ⟨a3,m,rfl,g3,h8⟩:=zag h7
   obtain ⟨a4,m,rfl,g4,h9⟩:=zag h8
   obtain ⟨a5,m,rfl,g5,h10⟩:=zag h9
   obtain rfl:=zay h10
   obtain ⟨iA,iN,iC,rfl,hi,hic⟩:=zbn f1 h g1
   obtain ⟨pA,pN,pC,rfl,hp,hpc⟩:=zbn f2 h g2
   obtain ⟨oA,oN,oC,rfl,ho,hoc⟩:=zbn f3 h g3
   obtain ⟨aA,aN,aC,rfl,ha,hac⟩:=zbn f4 h g4
   obtain ⟨A,n,c,rfl,hc,ht⟩:=zcq g5 h (by unfold tDe;exact Nat.ble_eq_true_of_le qF)
   obtain ⟨o1,o2⟩:=hG g hg
   rw [<-e1] at ht
   refine (yq7 iA pA oA aA A iN iC pN pC oN oC aN aC n c g.items g.ps g.os g.args (tb g.d) w hi hp ho ha ht o1).mono ?_
   rw [<-o2]
   rintro e w' ⟨A',n',c',rfl,hr',hc',hb⟩
   obtain ⟨r1,r2,r3⟩:=zd3 h hb (d:=g.d2) qF (v:= .slice A' n' c') rfl (.inl ⟨by omega,zbw hr' (qV _) hc'⟩)
   exact ⟨_,_,_,rfl, .tuple _ _ (.cons _ _ _ _ r1 (.cons _ _ _ _ (.flat _ rfl) .nil)),r2,r3⟩
  ·cases hx
 ·cases hx
end
end
section
open Go.RowKit Go.BigFrame
theorem and3 (x:Int):bits .and .i64 x 3=x % 4:=zfj x 2 qF
section
variable {P:Program}{w w':World}{B N m q cb ob:Nat}{os ps:List Int}{u:Tab}{l:List GM}{fc fo:List UInt8->Option Value}{i:Nat}{x:GM}{e:List Val × Int}
theorem MatRd.later {M:List Val->Tab}{b:Nat}(h:MatRd P w b N m M)(hb:Below w.heap.size w w'):MatRd P w' b N m M:=by
 obtain ⟨f,h1,h2⟩:=h
 refine ⟨f,h1.later hb,fun k hk h0=>?_⟩
 obtain ⟨A,n,c,e,hr,hc⟩:=h2 k hk h0
 exact ⟨A,n,c,e,hr.later hb,hc⟩
end
theorem ykv {wanted:Bool}{ns os:List Int}{t u:Tab}{k:Nat}{x:List Val × Int}(h:t[k]?=some x):ybf wanted ns os (t.take (k+1)) u=if (isM ns os u x==wanted)=true then ybf wanted ns os (t.take k) u++ [x] else ybf wanted ns os (t.take k) u:=by
 unfold ybf
 rw [zbc h,List.filter_append]
 by_cases h1:(isM ns os u x==wanted)=true
 ·rw [if_pos h1];simp [h1]
 ·rw [if_neg h1];simp [h1]
theorem yg4 (wanted:Bool)(ns os:List Int)(t u:Tab):(ybf wanted ns os t u).length<=t.length:=List.length_filter_le _ _
theorem yjx {ns os:List Int}{u:Tab}{x:List Val × Int}(h:ycb (pkV ns x.1)=true):isM ns os u x=false:=by
 unfold isM ycl
 rw [if_pos h];rfl
theorem yok {ns os:List Int}{u:Tab}{x:List Val × Int}(h:ycb (pkV ns x.1)=false):isM ns os u x=decide (0<(yff os [] (pkV ns x.1) u).length):=by
 unfold isM ycl
 rw [if_neg (by simp [h])]
 cases yff os [] (pkV ns x.1) u<;>simp
theorem Yh3 (op:Int)(so:ByteArray)(nA oA iA dA:Option Addr)(nN nC oN oC iN iC dN dC:Nat)(nm:ByteArray)(cA kA rA:Option Addr)(cN cC kN kC rN rC:Nat)(nm':ByteArray)(cA' kA' rA':Option Addr)(cN' cC' kN' kC' rN' rC':Nat)(wanted:Bool)(names others:List ByteArray)(cs cs':List Col)(t u:Tab)(w:World)
 (hns:rStr w nA nN names) (hos:rStr w oA oN others) (hcs:rCol w cA cN cs) (hcs':rCol w cA' cN' cs') (ht:rTab w rA rN t) (hu:rTab w rA' rN' u) (hnc:nN<=nC) (hoc:oN<=oC) (hcn:cN<=12) (hcn':cN'<=12) (hok:okJn cs cs' names others [] t u):
 Calls Tryz.prog 135 #[.agg #[.int .i64 op, .string so, .slice nA nN nC, .slice oA oN oC, .slice iA iN iC, .slice dA dN dC], .agg #[.string nm, .slice cA cN cC, .slice kA kN kC, .slice rA rN rC], .agg #[.string nm', .slice cA' cN' cC', .slice kA' kN' kC', .slice rA' rN' rC'], .bool wanted] w (ye6 (ybf wanted (names.map (yao cs)) (others.map (yao cs')) t u) w):=by
 obtain ⟨ns,hnsE⟩: ∃ ns,ns=names.map (yao cs):=⟨_,rfl⟩
 obtain ⟨os,hosE⟩: ∃ os,os=others.map (yao cs'):=⟨_,rfl⟩
 rw [<-hnsE,<-hosE]
 have HNS:=qL hnsE
 have HOS:=qL hosE
 clear hnsE hosE
 obtain ⟨iE,PE⟩:=ymt
 have HT:=qL ht
 have HK:=qL hok
 have LN:=qL hns.len
 have LO:=qL hos.len
 have LT:=qL ht.len
 have hn12:nN<=12:=by have:=hns.len;have:=hos.len;have:=hok.len;have:=hok.mat.n12;omega
 have hrn:rN<=4096:=by have:=ht.len;have:=hok.tab.1.1;omega
 obtain ⟨w0,hw0⟩: ∃ w0,w0=(((w.alloc (.cells #[.int .i64 op, .string so, .slice nA nN nC, .slice oA oN oC, .slice iA iN iC, .slice dA dN dC] 44)).alloc (.cells #[.string nm, .slice cA cN cC, .slice kA kN kC, .slice rA rN rC] 31)).alloc (.cells #[.string nm', .slice cA' cN' cC', .slice kA' kN' kC', .slice rA' rN' rC'] 31)):=⟨_,rfl⟩
 have HB0:Hid (Below w.heap.size w w0):=qL (by rw [hw0];exact ((zae _ _).alloc qH _).alloc (by simp;omega) _)
 have a0:w0.cell? ⟨w.heap.size,0,none⟩=some (.int .i64 op):=by rw [hw0];exact qM (zae _ _) (qM (zae _ _) qH)
 have a1:w0.cell? ⟨w.heap.size,1,none⟩=some (.string so):=by rw [hw0];exact qM (zae _ _) (qM (zae _ _) qH)
 have a2:w0.cell? ⟨w.heap.size,2,none⟩=some (.slice nA nN nC):=by rw [hw0];exact qM (zae _ _) (qM (zae _ _) qH)
 have a3:w0.cell? ⟨w.heap.size,3,none⟩=some (.slice oA oN oC):=by rw [hw0];exact qM (zae _ _) (qM (zae _ _) qH)
 have a4:w0.cell? ⟨w.heap.size,4,none⟩=some (.slice iA iN iC):=by rw [hw0];exact qM (zae _ _) (qM (zae _ _) qH)
 have a5:w0.cell? ⟨w.heap.size,5,none⟩=some (.slice dA dN dC):=by rw [hw0];exact qM (zae _ _) (qM (zae _ _) qH)
 have b0:w0.cell? ⟨w.heap.size+1,0,none⟩=some (.string nm):=by rw [hw0];exact qM (zae _ _) qH
 have b1:w0.cell? ⟨w.heap.size+1,1,none⟩=some (.slice cA cN cC):=by rw [hw0];exact qM (zae _ _) qH
 have b2:w0.cell? ⟨w.heap.size+1,2,none⟩=some (.slice kA kN kC):=by rw [hw0];exact qM (zae _ _) qH
 have b3:w0.cell? ⟨w.heap.size+1,3,none⟩=some (.slice rA rN rC):=by rw [hw0];exact qM (zae _ _) qH
 have c0:w0.cell? ⟨w.heap.size+2,0,none⟩=some (.string nm'):=by rw [hw0];exact zaa qH qH
 have c1:w0.cell? ⟨w.heap.size+2,1,none⟩=some (.slice cA' cN' cC'):=by rw [hw0];exact zaa qH qH
 have c2:w0.cell? ⟨w.heap.size+2,2,none⟩=some (.slice kA' kN' kC'):=by rw [hw0];exact zaa qH qH
 have c3:w0.cell? ⟨w.heap.size+2,3,none⟩=some (.slice rA' rN' rC'):=by rw [hw0];exact zaa qH qH
 have e1:(((w.alloc (.cells #[.int .i64 op, .string so, .slice nA nN nC, .slice oA oN oC, .slice iA iN iC, .slice dA dN dC] 44)).alloc (.cells #[.string nm, .slice cA cN cC, .slice kA kN kC, .slice rA rN rC] 31)).alloc (.cells #[.string nm', .slice cA' cN' cC', .slice kA' kN' kC', .slice rA' rN' rC'] 31)).cell? ⟨w.heap.size+1,1,none⟩=some (.slice cA cN cC):=by rw [<-hw0];exact b1
 have e2:(((w.alloc (.cells #[.int .i64 op, .string so, .slice nA nN nC, .slice oA oN oC, .slice iA iN iC, .slice dA dN dC] 44)).alloc (.cells #[.string nm, .slice cA cN cC, .slice kA kN kC, .slice rA rN rC] 31)).alloc (.cells #[.string nm', .slice cA' cN' cC', .slice kA' kN' kC', .slice rA' rN' rC'] 31)).cell? ⟨w.heap.size,2,none⟩=some (.slice nA nN nC):=by rw [<-hw0];exact a2
 have HIX:=qL (yoe cA cN cC cs nA nN nC names w0 (hcs.later HB0.out) (hns.later HB0.out) hok.names qF qF hnc)
 have HMA:=qL fun W (hb:Below w.heap.size w W)=>ygz op so nA oA iA dA nN nC oN oC iN iC dN dC nm' cA' kA' rA' cN' cC' kN' kC' rN' rC' none 0 0 others cs' [] u W (hos.later hb) (hcs'.later hb) (hu.later hb) (Fl.nil _ _ _) hoc hcn' hok.mat
 rw [hw0] at HIX
 clear hns hos hcs hcs' ht hu hok
 go_enter Tryz.func135,Tryz.ntmps135
 go_wp2_with fail
 rw [<-hw0] at HIX ⊢
 clear e1 e2 hw0
 refine HIX.out.mono ?_
 rintro e w1 ⟨B1,m1,k1,rfl,hri,hmk,hb1⟩
 have hri:rInt w1 B1 m1 ns:=by rw [HNS.out];exact hri
 have HRI:=qL hri
 have HB1:=qL (HB0.out.trans (hb1.mono HB0.out.size))
 have a0:=qM hb1 a0
 have a1:=qM hb1 a1
 have a2:=qM hb1 a2
 have a3:=qM hb1 a3
 have a4:=qM hb1 a4
 have a5:=qM hb1 a5
 have b0:=qM hb1 b0
 have c0:=qM hb1 c0
 have b1:=qM hb1 b1
 have c1:=qM hb1 c1
 have b2:=qM hb1 b2
 have c2:=qM hb1 c2
 have b3:=qM hb1 b3
 have c3:=qM hb1 c3
 have hm1:m1=nN:=by have:=hri.len;rw [HNS.out,List.length_map] at this;have:=LN.out;omega
 subst hm1
 have HML:=qL (HMA.out w1 HB1.out)
 clear hri hb1 HIX
 go_wp2_with fail
 refine HML.out.mono ?_
 rintro e w2 ⟨mb,mN,rfl,hmr,hb2⟩
 have hmr:MatRd Tryz.prog w2 mb mN os.length (fun k=>yff os [] k u):=by rw [HOS.out];exact hmr
 have HMR:=qL hmr
 have HB2:=qL (btr HB1.out hb2)
 have HB12:=qL hb2
 have b3:=qM hb2 b3
 have HOL:Hid (os.length=m1/\ns.length=m1):=qL (by rw [HOS.out,HNS.out,List.length_map,List.length_map];have h1:=LN.out;have h2:=LO.out;have h3:=HK.out.len;omega)
 clear a0 a1 a2 a3 a4 a5 b0 b1 b2 c0 c1 c2 c3 hmr hb2 HML HMA
 go_wp2
 go_loopw [13,31] (fun v iv wr=> ∃ k:Nat,k<=rN/\iv= .int .i64 k/\Below w2.heap.size w2 wr/\Hid (ownD kEnt wr w2.heap.size v (ybf wanted ns os (t.take k) u).length (ybf wanted ns os (t.take k) u))) (fun _ iv _=>rN - (intOf iv).toNat)
 case atStart=>exact ⟨0,by omega,rfl,za0 _,qL (ownD.nil _ _)⟩
 case round=>
  obtain ⟨k,hk,rfl,hbw,HO⟩:=hrel
  have HBW:=qL hbw
  by_cases hlt:k<rN
  ·obtain ⟨g1,o1,rfl,hc1⟩:=HT.out.opn qF
   obtain ⟨x,hx⟩:=zah (l:=t) (k:=k) (by have:=LT.out;omega)
   obtain ⟨xA,xN,xC,x1,x2,x3⟩:=hc1 k x hx
   have X3:=qL x3
   have hB:=btr HB2.out hbw
   have z1:=qM hB x1
   have z2:=qM hB x2
   have hmm:=qP hx
   have hx12:=(HK.out.tab.1.2.2 x hmm).1
   have hxN:xN<=12:=by have:=x3.len;omega
   have HSN:Hid (ybf wanted ns os (t.take (k+1)) u=if (isM ns os u x==wanted)=true then ybf wanted ns os (t.take k) u++ [x] else ybf wanted ns os (t.take k) u):=qL (ykv hx)
   have HVK:Hid (vRow m1 (pkV ns x.1)):=qL ⟨zer (HK.out.tab.1.2.2 x hmm).2.2.2 ns,by rw [zdi];exact HOL.out.2⟩
   have HXB:Hid (0<xN-> ∀ a,xA=some a->a.block<w2.heap.size):=qL fun h0 a e=>qQ (zif x3 h0 a e) HB2.out.size
   have hsl:(ybf wanted ns os (t.take k) u).length<1000000:=by have h1:=yg4 wanted ns os (t.take k) u;have h2:=List.length_take (i:=k) (l:=t);omega
   have HPI:=qL (ypd xA xN xC x.1 B1 m1 k1 ns (wr.alloc (.cells #[.slice xA xN xC, .int .i64 x.2] 65)) ((x3.later hB).later (zae _ _)) ((HRI.out.later (btr HB12.out hbw)).later (zae _ _)) qF qF)
   have HV0:Hid (∀ y,u13.ownBlock=some y->w2.heap.size<=y):=qL fun y e=>(HO.out.lt y e).1
   clear hc1 hx x3 hB hbw x1 x2 hmm
   go_wp2_with fail
   refine HPI.out.mono ?_
   rintro e w3 ⟨A1,c1,rfl,hrd,hcc,hb3,hfr,_⟩
   have HRD:Hid (rVal w3 A1 m1 (pkV ns x.1)):=qL (zb4.1 hrd)
   have HB3:=qL (btr (zae wr _) hb3)
   have q0:w3.cell? ⟨wr.heap.size,0,none⟩=some (.slice xA xN xC):=qM hb3 qH
   have q1:w3.cell? ⟨wr.heap.size,1,none⟩=some (.int .i64 x.2):=qM hb3 qH
   have HNU:=qL (yo1 A1 m1 c1 (pkV ns x.1) w3 HRD.out qF)
   clear hrd hb3 hfr
   cases hnul:ycb (pkV ns x.1)
   ·have HNULL:=qL hnul
    rw [hnul] at HNU
    clear hnul
    go_wp2_with fail
    refine HNU.out.mono ?_
    rintro e w4 ⟨rfl,hb4⟩
    have HB4:=qL (btr HB3.out hb4)
    have q0:=qM hb4 q0
    have q1:=qM hb4 q1
    have HKE:=qL (ymi A1 m1 c1 (pkV ns x.1) w4 (HRD.out.later hb4) qF HVK.out.1)
    clear hb4
    go_wp2_with fail
    refine HKE.out.mono ?_
    rintro e w5 ⟨rfl,hb5⟩
    have HB5:=qL (btr HB4.out hb5)
    have q0:=qM hb5 q0
    have q1:=qM hb5 q1
    have HM5:=qL (HMR.out.later (btr HBW.out HB5.out))
    obtain ⟨f,hmp,hrd⟩:=HM5.out
    obtain ⟨lA,lN,lC,hge,hlt2,hlc⟩:=hrd (pkV ns x.1) ⟨HVK.out.1,by rw [HVK.out.2,HOL.out.1]⟩ HNULL.out
    have hlk:=hmp.look Tryz.underlying9 Tryz.underlying218 (z:= .slice none 0 0) (Tryz.zeroValue29 _) (yav (pkV ns x.1)) (zdo HVK.out.1 (by have:=HVK.out.2;omega))
    rw [hge] at hlk
    have HISM:Hid (isM ns os u x=decide (0<lN)):=qL (by rw [yok HNULL.out,<-hlt2.len])
    clear hb5 hmp hrd hge hlt2
    cases hd:decide (0<lN)<;>cases wanted
    ·have HD:=qL hd
     have HSF:Hid (ybf false ns os (t.take (k+1)) u=ybf false ns os (t.take k) u++ [x]):=qL (by rw [HSN.out,HISM.out,HD.out];rfl)
     have HOA:Hid (ownD kEnt (w5.alloc (.cells #[.slice xA xN xC, .int .i64 x.2] 65)) w2.heap.size u13 (ybf false ns os (t.take k) u).length (ybf false ns os (t.take k) u)):=qL (HO.out.later (HB5.out.alloc HB5.out.size _))
     have HRA:Hid (rVal (w5.alloc (.cells #[.slice xA xN xC, .int .i64 x.2] 65)) xA xN x.1):=qL ((X3.out.later (btr HB2.out (btr HBW.out HB5.out))).later (zae _ _))
     have HFF:=qL (zh3 (n:=xN) HV0.out HXB.out)
     have hsz5:w2.heap.size<=(w5.alloc (.cells #[.slice xA xN xC, .int .i64 x.2] 65)).heap.size:=qR (btr HBW.out HB5.out).size (zae _ _).size
     go_wp2_with (at_builtin;refine zaq _ rfl _ _ rfl PE HOA.out ⟨_,0,none⟩ ⟨xA,xN,xC,x.2⟩ x rfl rfl (zan _ _ _ _ _ _) ⟨HRA.out,rfl⟩ HFF.out hsl hsz5 ?_;intro v' w' hown' hgrow hat)
     have HBF:=qL (zaf ((btr HBW.out HB5.out).alloc (btr HBW.out HB5.out).size _) hgrow HV0.out)
     have HOF:Hid (ownD kEnt w' w2.heap.size v' (ybf false ns os (t.take (k+1)) u).length (ybf false ns os (t.take (k+1)) u)):=qL (za2 hown' HSF.out)
     clear hown' hgrow hat
     go_wp2
     go_roundw
     case rel=>exact ⟨k+1,by omega,by go_num,HBF.out,HOF⟩
     case measure=>simp [intOf];omega
    ·have HD:=qL hd
     have HSF:Hid (ybf true ns os (t.take (k+1)) u=ybf true ns os (t.take k) u):=qL (by rw [HSN.out,HISM.out,HD.out];rfl)
     have HBF:=qL (btr HBW.out HB5.out)
     have HOF:Hid (ownD kEnt w5 w2.heap.size u13 (ybf true ns os (t.take (k+1)) u).length (ybf true ns os (t.take (k+1)) u)):=qL (za2 (HO.out.later HB5.out) HSF.out)
     go_wp2
     go_roundw
     case rel=>exact ⟨k+1,by omega,by go_num,HBF.out,HOF⟩
     case measure=>simp [intOf];omega
    ·have HD:=qL hd
     have HSF:Hid (ybf false ns os (t.take (k+1)) u=ybf false ns os (t.take k) u):=qL (by rw [HSN.out,HISM.out,HD.out];rfl)
     have HBF:=qL (btr HBW.out HB5.out)
     have HOF:Hid (ownD kEnt w5 w2.heap.size u13 (ybf false ns os (t.take (k+1)) u).length (ybf false ns os (t.take (k+1)) u)):=qL (za2 (HO.out.later HB5.out) HSF.out)
     go_wp2
     go_roundw
     case rel=>exact ⟨k+1,by omega,by go_num,HBF.out,HOF⟩
     case measure=>simp [intOf];omega
    ·have HD:=qL hd
     have HSF:Hid (ybf true ns os (t.take (k+1)) u=ybf true ns os (t.take k) u++ [x]):=qL (by rw [HSN.out,HISM.out,HD.out];rfl)
     have HOA:Hid (ownD kEnt (w5.alloc (.cells #[.slice xA xN xC, .int .i64 x.2] 65)) w2.heap.size u13 (ybf true ns os (t.take k) u).length (ybf true ns os (t.take k) u)):=qL (HO.out.later (HB5.out.alloc HB5.out.size _))
     have HRA:Hid (rVal (w5.alloc (.cells #[.slice xA xN xC, .int .i64 x.2] 65)) xA xN x.1):=qL ((X3.out.later (btr HB2.out (btr HBW.out HB5.out))).later (zae _ _))
     have HFF:=qL (zh3 (n:=xN) HV0.out HXB.out)
     have hsz5:w2.heap.size<=(w5.alloc (.cells #[.slice xA xN xC, .int .i64 x.2] 65)).heap.size:=qR (btr HBW.out HB5.out).size (zae _ _).size
     go_wp2_with (at_builtin;refine zaq _ rfl _ _ rfl PE HOA.out ⟨_,0,none⟩ ⟨xA,xN,xC,x.2⟩ x rfl rfl (zan _ _ _ _ _ _) ⟨HRA.out,rfl⟩ HFF.out hsl hsz5 ?_;intro v' w' hown' hgrow hat)
     have HBF:=qL (zaf ((btr HBW.out HB5.out).alloc (btr HBW.out HB5.out).size _) hgrow HV0.out)
     have HOF:Hid (ownD kEnt w' w2.heap.size v' (ybf true ns os (t.take (k+1)) u).length (ybf true ns os (t.take (k+1)) u)):=qL (za2 hown' HSF.out)
     clear hown' hgrow hat
     go_wp2
     go_roundw
     case rel=>exact ⟨k+1,by omega,by go_num,HBF.out,HOF⟩
     case measure=>simp [intOf];omega
   ·have HNULL:=qL hnul
    rw [hnul] at HNU
    clear hnul
    have HISM:Hid (isM ns os u x=false):=qL (yjx HNULL.out)
    cases wanted
    ·go_wp2_with fail
     refine HNU.out.mono ?_
     rintro e w5 ⟨rfl,hb4⟩
     have HB5:=qL (btr HB3.out hb4)
     have q0:=qM hb4 q0
     have q1:=qM hb4 q1
     clear hb4
     have HSF:Hid (ybf false ns os (t.take (k+1)) u=ybf false ns os (t.take k) u++ [x]):=qL (by rw [HSN.out,HISM.out];rfl)
     have HOA:Hid (ownD kEnt (w5.alloc (.cells #[.slice xA xN xC, .int .i64 x.2] 65)) w2.heap.size u13 (ybf false ns os (t.take k) u).length (ybf false ns os (t.take k) u)):=qL (HO.out.later (HB5.out.alloc HB5.out.size _))
     have HRA:Hid (rVal (w5.alloc (.cells #[.slice xA xN xC, .int .i64 x.2] 65)) xA xN x.1):=qL ((X3.out.later (btr HB2.out (btr HBW.out HB5.out))).later (zae _ _))
     have HFF:=qL (zh3 (n:=xN) HV0.out HXB.out)
     have hsz5:w2.heap.size<=(w5.alloc (.cells #[.slice xA xN xC, .int .i64 x.2] 65)).heap.size:=qR (btr HBW.out HB5.out).size (zae _ _).size
     go_wp2_with (at_builtin;refine zaq _ rfl _ _ rfl PE HOA.out ⟨_,0,none⟩ ⟨xA,xN,xC,x.2⟩ x rfl rfl (zan _ _ _ _ _ _) ⟨HRA.out,rfl⟩ HFF.out hsl hsz5 ?_;intro v' w' hown' hgrow hat)
     have HBF:=qL (zaf ((btr HBW.out HB5.out).alloc (btr HBW.out HB5.out).size _) hgrow HV0.out)
     have HOF:Hid (ownD kEnt w' w2.heap.size v' (ybf false ns os (t.take (k+1)) u).length (ybf false ns os (t.take (k+1)) u)):=qL (za2 hown' HSF.out)
     clear hown' hgrow hat
     go_wp2
     go_roundw
     case rel=>exact ⟨k+1,by omega,by go_num,HBF.out,HOF⟩
     case measure=>simp [intOf];omega
    ·go_wp2_with fail
     refine HNU.out.mono ?_
     rintro e w5 ⟨rfl,hb4⟩
     have HB5:=qL (btr HB3.out hb4)
     clear hb4 q0 q1
     have HSF:Hid (ybf true ns os (t.take (k+1)) u=ybf true ns os (t.take k) u):=qL (by rw [HSN.out,HISM.out];rfl)
     have HBF:=qL (btr HBW.out HB5.out)
     have HOF:Hid (ownD kEnt w5 w2.heap.size u13 (ybf true ns os (t.take (k+1)) u).length (ybf true ns os (t.take (k+1)) u)):=qL (za2 (HO.out.later HB5.out) HSF.out)
     go_wp2
     go_roundw
     case rel=>exact ⟨k+1,by omega,by go_num,HBF.out,HOF⟩
     case measure=>simp [intOf];omega
  ·obtain rfl:k=rN:=by omega
   have HTT:t.take k=t:=List.take_of_length_le (by have:=LT.out;omega)
   obtain ⟨A8,c8,rfl,hcc8,hrd8,hfr8⟩:=HO.out.rd
   have hrd9:rTab wr A8 (ybf wanted ns os (t.take k) u).length (ybf wanted ns os t u):=by
    have h:=hrd8
    rw [HTT] at h ⊢
    exact h
   have H:=qL (zog A8 (ybf wanted ns os (t.take k) u).length c8 (ybf wanted ns os t u) wr hrd9 (by rw [HTT];have:=yg4 wanted ns os t u;have:=LT.out;omega) (fun y hy=>(HK.out.tab.1.2.2 y (List.mem_filter.1 hy).1).1))
   clear hrd8 hrd9 hfr8 HTT
   go_wp2_with fail
   refine H.out.mono ?_
   rintro e w5 ⟨A9,n9,c9,rfl,hr9,hc9,hb9⟩
   have HR9:=qL hr9
   have HB9:=qL (btr HB2.out (btr hbw hb9))
   have HSZ:=qL (qR HB2.out.size hbw.size)
   clear hr9 hb9
   go_wp2
   go_ret2
   exact ⟨_,_,_,rfl,HR9.out.mono HSZ.out,hc9,HB9.out⟩
section
variable {tb:Nat->Tab}{num:Nat->Int}{nod:Nat->List Nod}{D:Nat->Prop}{ρ:Nat->Pl}{s:ASt}{w w':World}
theorem yim {G:List JoiA}(hG: ∀ g∈G,g.cs.length<=12/\g.cs'.length<=12/\okJn g.cs g.cs' g.names g.others [] (tb g.d) (tb g.du)/\tb g.d2=ybf g.left (g.names.map (yao g.cs)) (g.others.map (yao g.cs')) (tb g.d) (tb g.du)){args:List Value}{v:Value}{s':ASt}(hx:yla G args s=some (v,s')){args':List Value}(h:Sim (ETb tb num nod) D ρ s w)(hr:Rvs (ETb tb num nod) D ρ args args'):
 Calls Tryz.prog 135 ⟨args'⟩ w fun e w'=> ∃ v' ρ' D',e= .returned v'/\Rv (ETb tb num nod) D' ρ' v v'/\Sim (ETb tb num nod) D' ρ' s' w'/\Ex D s ρ w D' s' ρ' w':=by
 unfold yla at hx
 split at hx
 ·rename_i op so names others nm co k nm' co' k' left
  split at hx
  ·rename_i d2 hf
   cases hx
   obtain ⟨g,hg,e0,e1,e2,rfl,l1,l2,l3,f1,f2,f3,f4,f5⟩:=zor hf
   obtain ⟨x1,m,rfl,h1,hr⟩:=zag hr
   obtain ⟨x2,m,rfl,h2,hr⟩:=zag hr
   obtain ⟨x3,m,rfl,h3,hr⟩:=zag hr
   obtain ⟨x4,m,rfl,h4,hr⟩:=zag hr
   obtain rfl:=zay hr
   obtain rfl:=zat h4 rfl
   obtain ⟨l,rfl,h5⟩:=zdl h1
   obtain ⟨a1,m,rfl,g1,h5⟩:=zag h5
   obtain ⟨a2,m,rfl,g2,h5⟩:=zag h5
   obtain ⟨a3,m,rfl,g3,h5⟩:=zag h5
   obtain ⟨a4,m,rfl,g4,h5⟩:=zag h5
   obtain ⟨a5,m,rfl,g5,h5⟩:=zag h5
   obtain ⟨a6,m,rfl,g6,h5⟩:=zag h5
   obtain rfl:=zay h5
   obtain rfl:=zat g1 rfl
   obtain rfl:=zat g2 rfl
   obtain rfl:=zat g5 rfl
   obtain rfl:=zat g6 rfl
   obtain ⟨l,rfl,h5⟩:=zdl h2
   obtain ⟨b1,m,rfl,i1,h5⟩:=zag h5
   obtain ⟨b2,m,rfl,i2,h5⟩:=zag h5
   obtain ⟨b3,m,rfl,i3,h5⟩:=zag h5
   obtain ⟨b4,m,rfl,i4,h5⟩:=zag h5
   obtain rfl:=zay h5
   obtain rfl:=zat i1 rfl
   obtain rfl:=zat i3 rfl
   obtain ⟨l,rfl,h5⟩:=zdl h3
   obtain ⟨c1,m,rfl,j1,h5⟩:=zag h5
   obtain ⟨c2,m,rfl,j2,h5⟩:=zag h5
   obtain ⟨c3,m,rfl,j3,h5⟩:=zag h5
   obtain ⟨c4,m,rfl,j4,h5⟩:=zag h5
   obtain rfl:=zay h5
   obtain rfl:=zat j1 rfl
   obtain rfl:=zat j3 rfl
   obtain ⟨nA,nN,nC,rfl,hn,hnc⟩:=zbn f1 h g3
   obtain ⟨oA,oN,oC,rfl,ho,hoc⟩:=zbn f2 h g4
   obtain ⟨cA,cN,cC,rfl,hc,hcc⟩:=zbn f4 h i2
   obtain ⟨cA',cN',cC',rfl,hc',hcc'⟩:=zbn f5 h j2
   obtain ⟨A,n,c,rfl,_,ht⟩:=zcq i4 h (by unfold tDe;exact Nat.ble_eq_true_of_le qF)
   obtain ⟨A',n',c',rfl,_,hu⟩:=zcq j4 h (by unfold tDe;exact Nat.ble_eq_true_of_le qF)
   obtain ⟨o1,o2,o3,o4⟩:=hG g hg
   rw [<-e1] at ht
   rw [<-e2] at hu
   rw [<-e0]
   have q1:rCol w cA cN g.cs:=hc
   have q2:rCol w cA' cN' g.cs':=hc'
   refine (Yh3 op so nA oA none none nN nC oN oC 0 0 0 0 nm cA none A cN cC 0 0 n c nm' cA' none A' cN' cC' 0 0 n' c' g.left g.names g.others g.cs g.cs' (tb g.d) (tb g.du) w hn ho hc hc' ht hu hnc hoc (by rw [<-q1.len];exact o1) (by rw [<-q2.len];exact o2) o3).mono ?_
   rw [<-o4]
   rintro e w' ⟨B,m,b,rfl,hr',hb',hb⟩
   obtain ⟨r1,r2,r3⟩:=zd3 h hb (d:=g.d2) qF (v:= .slice B m b) rfl (.inl ⟨by omega,zbw hr' (qV _) hb'⟩)
   exact ⟨_,_,_,rfl, .tuple _ _ (.cons _ _ _ _ r1 (.cons _ _ _ _ (.flat _ rfl) .nil)),r2,r3⟩
  ·cases hx
 ·cases hx
end
end
section
open Go.RowKit Go.RowKit Go.BigFrame
def ymx (n:Int):Int:=n.fdiv (2 ^ (min (4:Int).toNat IntKind.i64.bits))
def yqq (n:Int):Int:=n.fdiv (2 ^ (min (5:Int).toNat IntKind.i64.bits))
def ymy (n:Int):Int:=n.fdiv (2 ^ (min (6:Int).toNat IntKind.i64.bits))
theorem yks (n:Int)(t:TypeId)(xo yo:Operand)(P:Program)(w:World):(do eqGuard .shr t xo yo (.int .i64 n) (.int .u64 4);binOp .shr t (.int .i64 n) (.int .u64 4):Sem Value).run P w= .ok (.int .i64 (ymx n)) w:=by
 rfl
theorem ykt (n:Int)(t:TypeId)(xo yo:Operand)(P:Program)(w:World):(do eqGuard .shr t xo yo (.int .i64 n) (.int .u64 5);binOp .shr t (.int .i64 n) (.int .u64 5):Sem Value).run P w= .ok (.int .i64 (yqq n)) w:=by
 rfl
theorem yku (n:Int)(t:TypeId)(xo yo:Operand)(P:Program)(w:World):(do eqGuard .shr t xo yo (.int .i64 n) (.int .u64 6);binOp .shr t (.int .i64 n) (.int .u64 6):Sem Value).run P w= .ok (.int .i64 (ymy n)) w:=by
 rfl
def Ycv (n:Int):Int:=IntKind.i64.wrap (BitVec.ofInt IntKind.i64.bits n&&& BitVec.ofInt IntKind.i64.bits 1).toNat
theorem ykq (n:Int)(t:TypeId)(xo yo:Operand)(P:Program)(w:World):(do eqGuard .and t xo yo (.int .i64 n) (.int .i64 1);binOp .and t (.int .i64 n) (.int .i64 1):Sem Value).run P w= .ok (.int .i64 (Ycv n)) w:=by
 rfl
theorem ypj (n:Int)(h:0<=n/\n<=3)(t:TypeId)(xo yo:Operand)(P:Program)(w:World):(do eqGuard .eql t xo yo (.int .i64 n) (.int .i64 3);binOp .eql t (.int .i64 n) (.int .i64 3):Sem Value).run P w= .ok (.bool (n==3)) w:=by
 have:n=0∨n=1∨n=2∨n=3:=by omega
 rcases this with rfl|rfl|rfl|rfl<;>rfl
theorem yi5 (n:Int):yhb n=n % 4:=and3 n
theorem yi4 (n:Int):Ycv n=n % 2:=zfj n 1 qF
theorem ykx (n:Int):ymx n=n / 16:=by
 show n.fdiv 16=n / 16
 exact Int.fdiv_eq_ediv_of_nonneg n qF
theorem yky (n:Int):yqq n=n / 32:=by
 show n.fdiv 32=n / 32
 exact Int.fdiv_eq_ediv_of_nonneg n qF
structure CPu (n:Int)(c:Nat):Prop where
 le:c<=7
 a:yhb (ymx n)=(aP c:Nat)
 w:(yhb (ymy n)==3)=Nat.ble 4 c
 b:Ycv (yqq n)=(aP c / 2:Nat)
theorem yrq (n:Int): ∃ c,CPu n c:=by
 have h1:=zhu (ymx n)
 obtain ⟨a,ha,ha3⟩: ∃ a:Nat,yhb (ymx n)=a/\a<=3:=⟨(yhb (ymx n)).toNat,by omega,by omega⟩
 have hb:Ycv (yqq n)=(a / 2:Nat):=by
  rw [yi4,yky]
  rw [yi5,ykx] at ha
  omega
 by_cases hw:yhb (ymy n)=3
 ·refine ⟨4+a,⟨by omega,?_,?_,?_⟩⟩
  ·rw [ha];unfold aP;omega
  ·rw [hw,Nat.ble_eq_true_of_le qF];rfl
  ·rw [hb];unfold aP;omega
 ·refine ⟨a,⟨by omega,?_,?_,?_⟩⟩
  ·rw [ha];unfold aP;omega
  ·have e1:(yhb (ymy n)==3)=false:=by simp [hw]
   have e2:Nat.ble 4 a=false:=by cases hz:Nat.ble 4 a with|false=>rfl|true=>exact absurd (qS hz) qF
   rw [e1,e2]
  ·rw [hb];unfold aP;omega
def yo2 (n:Int)(k:Nat):Int:=match k with
 |600=>n
 |601=>ymx n
 |602=>ymy n
 |603=>yhb (ymy n)
 |604=>yqq n
 |_=>0
theorem ym5 {n:Int}{c:Nat}(hc:CPu n c){tb:Nat->Tab}{nod:Nat->List Nod}:(T4 c).Ok (ETb tb (yo2 n) nod) Tryz.prog:=by
 have k:=zg2 (ETb tb (yo2 n) nod)
 refine ⟨k.ty,k.fn,k.eqs,k.mixed,k.ex,fun op x y r h t xo yo x' y' w hx hy=>?_,k.hlen⟩
 have h:yob c op x y=some r:=h
 unfold yob at h
 split at h
 ·cases h
  obtain rfl:=ze0 (by decide) hx
  obtain rfl:=zhh hy
  exact ⟨_,yks n t xo yo _ w,zks (k:=601) qF qF⟩
 ·cases h
  obtain rfl:=ze0 (by decide) hx
  obtain rfl:=zhh hy
  refine ⟨_,zmu (ymx n) t xo yo _ w,?_⟩
  rw [hc.a]
  exact .inl ⟨rfl,rfl⟩
 ·cases h
  obtain rfl:=ze0 (by decide) hx
  obtain rfl:=zhh hy
  exact ⟨_,yku n t xo yo _ w,zks (k:=602) qF qF⟩
 ·cases h
  obtain rfl:=ze0 (by decide) hx
  obtain rfl:=zhh hy
  exact ⟨_,zmu (ymy n) t xo yo _ w,zks (k:=603) qF qF⟩
 ·cases h
  obtain rfl:=ze0 (by decide) hx
  obtain rfl:=zhh hy
  refine ⟨_,ypj (yhb (ymy n)) (zhu _) t xo yo _ w, .inl ⟨rfl,?_⟩⟩
  rw [hc.w]
 ·cases h
  obtain rfl:=ze0 (by decide) hx
  obtain rfl:=zhh hy
  exact ⟨_,ykt n t xo yo _ w,zks (k:=604) qF qF⟩
 ·cases h
  obtain rfl:=ze0 (by decide) hx
  obtain rfl:=zhh hy
  refine ⟨_,ykq (yqq n) t xo yo _ w,?_⟩
  rw [hc.b]
  exact .inl ⟨rfl,rfl⟩
 ·cases h
theorem yf5 : [itP 0].map (fun x=>yao cC x.co)= [3]:=by kernel_rfl
section
variable {c:Nat}{p:List Nod}{tp:Knd}{t0 t1 t2:Tab}
theorem yrg {P:Nat->Prop}{c:Nat}(hc:c<=7)(h0:P 0)(h1:P 1)(h2:P 2)(h3:P 3)(h4:P 4)(h5:P 5)(h6:P 6)(h7:P 7):P c:=by
 match c,hc with
 |0,_=>exact h0
 |1,_=>exact h1
 |2,_=>exact h2
 |3,_=>exact h3
 |4,_=>exact h4
 |5,_=>exact h5
 |6,_=>exact h6
 |7,_=>exact h7
theorem yg1 (hc:c<=7):okCols (yc6 c):=
 yrg (P:=fun c=>okCols (yc6 c)) hc (ya6 false) (ya6 true) zc7 zc7 (ya6 false) (ya6 false) (ya6 true) (ya6 true)
theorem yrr (hc:c<=7): ∀ cs∈csP c,okCols cs:=fun cs h=>by
 unfold csP at h
 simp only [List.mem_cons,List.not_mem_nil,or_false] at h
 rcases h with rfl|rfl|rfl
 ·exact zc7
 ·exact zmo
 ·exact yg1 hc
theorem TJ.okJnP (h:TJ t0 t1 t2)(ps:List Int)(hp:ps.length<=12):okJn oC cC [sC] [sC] ps t0 t1:=by
 obtain ⟨n1,n2,_,e1,e2,_,e4,e5⟩:=yig (show 0<=2 by omega)
 exact ⟨n1,rfl,h.o0,⟨n2,by decide,hp,h.o1.1.1,h.o1.2,Int.le_trans h.s1 qF,fun x hx=>(h.o1.1.2.2 x hx).1,fun x hx=>(h.o1.1.2.2 x hx).2.2.2⟩⟩
theorem TJ.okJoP (h:TJ t0 t1 t2)(left:Bool):okJo left oC cC [sC] [sC] [itP 0] t0 t1:=by
 refine ⟨by rw [yf5];exact h.okJnP _ (by decide),fun x hx=>by rw [h.l0 x hx];decide,?_⟩
 rw [yf5]
 exact Int.le_trans (yic left h.o0 h.s0 h.o1 h.s1 fun x hx=>by rw [h.l0 x hx];decide).2.2 qF
theorem yys (h:TJ t0 t1 t2)(hc:c<=7): ∀ g∈joP c,g.cs.length<=12/\g.cs'.length<=12/\okJo g.left g.cs g.cs' g.names g.others g.items (tbP c p t0 t1 t2 g.d) (tbP c p t0 t1 t2 g.du)/\tbP c p t0 t1 t2 g.d2=ygu g.left (g.names.map (yao g.cs)) (g.others.map (yao g.cs')) (g.items.map fun x=>yao g.cs' x.co) (tbP c p t0 t1 t2 g.d) (tbP c p t0 t1 t2 g.du):=by
 obtain ⟨_,_,_,e1,e2,_,_,_⟩:=yig (show 0<=2 by omega)
 have e1: [sC].map (yao oC)= [1]:=e1
 have e2: [sC].map (yao cC)= [0]:=e2
 have key: ∀ left t,ygu left [1] [0] [3] t t1=ygu left ([sC].map (yao oC)) ([sC].map (yao cC)) ([itP 0].map fun x=>yao cC x.co) t t1:=fun left t=>by rw [e1,e2,yf5]
 match c,hc with
 |0,_=>
  intro g hg
  unfold joP at hg
  simp only [List.mem_cons,List.not_mem_nil,or_false] at hg
  rcases hg with rfl|rfl
  ·exact ⟨by decide,by decide,h.okJoP false,key false t0⟩
  ·exact ⟨by decide,by decide,(h.whr (p:=p)).okJoP false,key false _⟩
 |1,_=>
  intro g hg
  unfold joP at hg
  simp only [List.mem_cons,List.not_mem_nil,or_false] at hg
  rcases hg with rfl|rfl
  ·exact ⟨by decide,by decide,h.okJoP true,key true t0⟩
  ·exact ⟨by decide,by decide,(h.whr (p:=p)).okJoP true,key true _⟩
 |n+2,_=>intro g hg;cases hg
theorem yzm (h:TJ t0 t1 t2)(hc:c<=7): ∀ g∈seP c,g.cs.length<=12/\g.cs'.length<=12/\okJn g.cs g.cs' g.names g.others [] (tbP c p t0 t1 t2 g.d) (tbP c p t0 t1 t2 g.du)/\tbP c p t0 t1 t2 g.d2=ybf g.left (g.names.map (yao g.cs)) (g.others.map (yao g.cs')) (tbP c p t0 t1 t2 g.d) (tbP c p t0 t1 t2 g.du):=by
 obtain ⟨_,_,_,e1,e2,_,_,_⟩:=yig (show 0<=2 by omega)
 have e1: [sC].map (yao oC)= [1]:=e1
 have e2: [sC].map (yao cC)= [0]:=e2
 have key: ∀ wanted t,ybf wanted [1] [0] t t1=ybf wanted ([sC].map (yao oC)) ([sC].map (yao cC)) t t1:=fun wanted t=>by rw [e1,e2]
 match c,hc with
 |0,_=>intro g hg;cases hg
 |1,_=>intro g hg;cases hg
 |2,_=>
  intro g hg
  unfold seP at hg
  simp only [List.mem_cons,List.not_mem_nil,or_false] at hg
  rcases hg with rfl|rfl
  ·exact ⟨by decide,by decide,h.okJnP [] (by decide),key true t0⟩
  ·exact ⟨by decide,by decide,(h.whr (p:=p)).okJnP [] (by decide),key true _⟩
 |3,_=>
  intro g hg
  unfold seP at hg
  simp only [List.mem_cons,List.not_mem_nil,or_false] at hg
  rcases hg with rfl|rfl
  ·exact ⟨by decide,by decide,h.okJnP [] (by decide),key false t0⟩
  ·exact ⟨by decide,by decide,(h.whr (p:=p)).okJnP [] (by decide),key false _⟩
 |n+4,_=>intro g hg;cases hg
theorem TJ.okWP (h:TJ t0 t1 t2)(hc:4<=c/\c<=7):okWinX [1] [2] [itP c] [yqj c] t0 where
 alen:=rfl
 n12:=fun x hx=>by rw [h.l0 x hx];show 4+1<=12;decide
 i12:=by show 1<=12;decide
 p12:=by decide
 o12:=by decide
 tab:=h.o0
 sum:=Int.le_trans h.s0 (by decide)
 fn:=fun j x g hx hg=>by
  have hj:j=0:=by have:=(qO hx).1;exact Nat.lt_one_iff.1 this
  subst hj
  cases hx
  cases hg
  match c,hc with
  |4,_=>exact .inr (.inr (.inl rfl))
  |5,_=>exact .inr (.inl rfl)
  |6,_=>
   refine .inr (.inr (.inr (.inr ⟨rfl,fun r hr=> .inr ?_⟩)))
   obtain ⟨y,hy,rfl⟩:=List.mem_map.1 hr
   obtain ⟨_,x,hx,_,e⟩:=ybt.1 hy
   rw [<-e]
   exact (ymq (h.r0 x hx)).2
  |7,_=>exact .inr (.inr (.inr (.inl ⟨rfl,by show (1:Int)<=1;decide,by show (1:Int)<=4096;decide⟩)))
theorem Yck (h:TJ t0 t1 t2)(hc:c<=7): ∀ g∈wiP c,okWinX g.ps g.os g.items g.args (tbP c p t0 t1 t2 g.d)/\tbP c p t0 t1 t2 g.d2=yhl g.ps g.os (yan g.items g.args) (tbP c p t0 t1 t2 g.d):=fun g hg=>by
 unfold wiP at hg
 cases hz:Nat.ble 4 c
 ·rw [hz] at hg;cases hg
 ·rw [hz] at hg
  have h4:=qS hz
  have hg:g∈ [(⟨0,[itP c],[1],[2],[yqj c],4⟩:WinA),⟨3,[itP c],[1],[2],[yqj c],6⟩]:=hg
  simp only [List.mem_cons,List.not_mem_nil,or_false] at hg
  have key: ∀ t,stP c t1 t=yhl [1] [2] (yan [itP c] [yqj c]) t:=fun t=>by
   match c,h4,hc with
   |4,_,_=>rfl
   |5,_,_=>rfl
   |6,_,_=>rfl
   |7,_,_=>rfl
  rcases hg with rfl|rfl
  ·exact ⟨h.okWP ⟨h4,hc⟩,key t0⟩
  ·exact ⟨(h.whr (p:=p)).okWP ⟨h4,hc⟩,key _⟩
theorem Ydn {n:Int}(hc:c<=7)(h:TJ t0 t1 t2)(hp:okE c1C 1 40 p)(hb:ycx c1C p tp)(ht:tp.k=1∨tp.k=0):yqx (ETb (tbP c p t0 t1 t2) (yo2 n) fun _=>p) Tryz.prog (T4 c):=fun f g hf args s v s' hx' D ρ w args' hs hr=>by
 have hX:=Yhp hp hb
 have hX2:=yke hc hX
 have ok:=h.okP (p:=p) hc
 have ok2: ∀ k,k<32->(tbP c p t0 t1 t2 k).length<=4096/\ ∀ z∈tbP c p t0 t1 t2 k,z.1.length<=12:=fun k _=>⟨(ok k).1.1,fun z hz=>((ok k).1.2.2 z hz).1⟩
 have r3: ∀ z∈ybr oC p t0,okRow oC z.1:=fun z hz=>h.r0 z (List.mem_filter.1 hz).1
 have hf:cond (Nat.beq f 62) (some (ylj (clP c))) (cond (Nat.beq f 129) (some yk6) (cond (Nat.beq f 134) (some (yk9 (joP c))) (cond (Nat.beq f 135) (some (yla (seP c))) (cond (Nat.beq f 217) (some (ylg (wiP c))) (cond (Nat.beq f 17) (some (Ydb fun a b=>Nat.beq a 5&&Nat.beq b 6)) (cond (Nat.beq f 89) (some (Ydc (csP c))) (cond (Nat.beq f 123) (some yk4) (cond (Nat.beq f 234) (some ylh) (cond (Nat.beq f 12) (some Yc9) (cond (Nat.beq f 90) (some Ydd) (cond (Nat.beq f 175) (some (ylb [500])) (cond (Nat.beq f 193) (some (yle (wcP c))) (cond (Nat.beq f 130) (some (yk7 (whP c))) (cond (Nat.beq f 13) (some Yda) none))))))))))))))=some g:=hf
 have step: ∀ {m:Nat} {x:List Value->ASt->Option (Value × ASt)} {y:Option (List Value->ASt->Option (Value × ASt))},cond (Nat.beq f m) (some x) y=some g->(f=m/\x=g)∨y=some g:=fun {m x y} h=>by
  cases hz:Nat.beq f m
  ·rw [hz] at h;exact .inr h
  ·rw [hz] at h;exact .inl ⟨qU hz,Option.some.inj h⟩
 rcases step hf with ⟨rfl,rfl⟩|hf
 ·refine zqd (fun q hq=>?_) hx' hs hr
  unfold clP at hq
  simp only [List.mem_cons,List.not_mem_nil,or_false] at hq
  rcases hq with rfl|rfl|rfl|rfl|rfl
  ·exact ⟨zc7,ok 0,h.r0⟩
  ·exact ⟨zmo,ok 1,h.r1⟩
  ·exact ⟨zc7,ok 2,h.r2⟩
  ·exact ⟨zc7,ok 3,r3⟩
  ·exact ⟨yg1 hc,ok 4,(h.stp hc).2⟩
 rcases step hf with ⟨rfl,rfl⟩|hf
 ·exact zqa ok2 hx' hs hr
 rcases step hf with ⟨rfl,rfl⟩|hf
 ·exact zqc (yys h hc) hx' hs hr
 rcases step hf with ⟨rfl,rfl⟩|hf
 ·exact yim (yzm h hc) hx' hs hr
 rcases step hf with ⟨rfl,rfl⟩|hf
 ·exact yin (Yck h hc) hx' hs hr
 rcases step hf with ⟨rfl,rfl⟩|hf
 ·refine yld (fun a b he=>?_) ok2 hx' hs hr
  simp only [Bool.and_eq_true] at he
  rw [qU he.1,qU he.2]
  exact h.push hc hp.2.1
 rcases step hf with ⟨rfl,rfl⟩|hf
 ·exact ypy (yrr hc) hx' hs hr
 rcases step hf with ⟨rfl,rfl⟩|hf
 ·exact yk5 hx' hs hr
 rcases step hf with ⟨rfl,rfl⟩|hf
 ·exact yli hx' hs hr
 rcases step hf with ⟨rfl,rfl⟩|hf
 ·exact ypw hx' hs hr
 rcases step hf with ⟨rfl,rfl⟩|hf
 ·exact ypz hx' hs hr
 rcases step hf with ⟨rfl,rfl⟩|hf
 ·refine ylc (fun d hd=>?_) hx' hs hr
  rw [List.mem_singleton] at hd
  subst hd
  exact ⟨by decide,by decide,oC,tp,hX⟩
 rcases step hf with ⟨rfl,rfl⟩|hf
 ·refine ylf (fun q hq=>?_) hx' hs hr
  unfold wcP at hq
  simp only [List.mem_cons,List.not_mem_nil,or_false] at hq
  rcases hq with rfl|rfl
  ·exact ⟨by show 500<=500;decide,by show 500<510;decide,tp,ht,hX2⟩
  ·exact ⟨by show 500<=500;decide,by show 500<510;decide,tp,ht,hX⟩
 rcases step hf with ⟨rfl,rfl⟩|hf
 ·refine yk8 (fun q hq=>?_) hx' hs hr
  unfold whP at hq
  simp only [List.mem_cons,List.not_mem_nil,or_false] at hq
  rcases hq with rfl|rfl
  ·exact ⟨by show 500<=500;decide,by show 500<510;decide,⟨tp,hX2,ok 4,(h.stp hc).2⟩,rfl⟩
  ·exact ⟨by show 500<=500;decide,by show 500<510;decide,⟨tp,hX,ok 0,h.r0⟩,rfl⟩
 rcases step hf with ⟨rfl,rfl⟩|hf
 ·exact ypx hx' hs hr
 ·cases hf
theorem Ydj {n:Int}(hn:CPu n c)(h:TJ t0 t1 t2)(hp:okE c1C 1 40 p)(hb:ycx c1C p tp)(ht:tp.k=1∨tp.k=0):(T4 c).Ok (ETb (tbP c p t0 t1 t2) (yo2 n) fun _=>p) Tryz.prog/\yec (ETb (tbP c p t0 t1 t2) (yo2 n) fun _=>p) Tryz.prog (R4 c):=
 ⟨ym5 hn,(ykn (ym5 hn) (zhr (ym5 hn)) (Ydn hn.le h hp hb ht) 1000).1⟩
end
end
end Go.Proofs.YthcalfeoejdcgaaGreatDoor
